/- Labels: Del, the sorting, Put: the program's walks. -/
import Derived.Test.YtcohengppaighaaGreatDoorLb2
set_option linter.unusedVariables false
set_option linter.unusedSimpArgs false
namespace Go.Proofs.YtcohengppaighaaGreatDoor
open Go Go.V Go.B

theorem Clip_c {w : World} {B : Nat} {A : Option Addr} {n c : Nat} {l : List Lab} (h : LOwn w B A n c l) {R : Ending → World → Prop} (k : LOwn w B A n n l → R (.returned (.slice A n n)) w) :
    Calls Tryz.prog 52 #[.slice A n c] w R := by
  apply slices_Clip___api_Label_api_Label__nf
  have h1 := h.cap
  have := k (h.clip (by decide))
  refine when_dec ⟨by omega, by omega⟩ (when_dec ⟨by omega, by omega⟩ ?_)
  rw [addr0]
  exact this
theorem rep_two (n : Nat) (a b : Value) : (V.rep n [a, b]).length = n * 2 := by
  show ((List.replicate n [a, b]).flatten).length = _
  simp
theorem Del_c {w : World} {A : Option Addr} {n c : Nat} {l : List Lab} (hc : Cells w A (LbL.flat l)) (hl : l.length = n) (big : n * 32 ≤ 140737488351232) (key : ByteArray) {R : Ending → World → Prop}
    (k : ∀ w' A' n', Ext [] w w' → LOwn w' w.heap.size A' n' n' (delS l key) → n' ≤ n → R (.returned (.tuple #[.slice A' n' n', .bool (getS l key).2])) w') : Calls Tryz.prog 34 #[.slice A n c, .string key] w R := by
  apply labels_Del_nf
  refine when_dec ⟨by omega, by omega, by omega, by omega⟩ fun w3 h3 => ?_
  obtain ⟨b3, x3, z3⟩ := box_new h3
  have own3 : LOwn w3 w.heap.size (some ⟨w.heap.size, 0, none⟩) 0 n (delS (l.take 0) key) :=
    ⟨rfl, by omega, by simp only [maxLen]; omega, .inr ⟨_, _, rfl, Nat.le_refl _, b3, Nat.le_of_eq (rep_two _ _ _).symm, by simp [delS, Lay.flat]⟩⟩
  refine ⟨fun A' n' c' t w' => ∃ a : Nat, t = a ∧ a ≤ n ∧ n' ≤ a ∧ Ext [] w w' ∧ LOwn w' w.heap.size A' n' c' (delS (l.take a) key), fun _ _ _ t _ => n - t.toNat, ⟨0, rfl, by omega, by omega, x3, own3⟩, ?_⟩
  rintro A9 n9 c9 _ _ w9 ⟨a, rfl, ha, hna, e9, own9⟩
  refine sel_dec (fun hlt => when_dec ⟨by omega, by omega⟩ (take_lab (hc.ext0 e9) hl (by omega) fun x w14 hx bx ex => ?_)) (fun hge => ?_)
  · have htk : delS (l.take (a + 1)) key = delS (l.take a) key ++ delS [x] key := by
      unfold delS
      rw [snoc_at hx, List.filter_append]
    have e14 := e9.trans ex
    refine ⟨_, cadd bx rfl, sel_intro (fun h => ?_) (fun h => ?_)⟩
    · have hne : x.1 ≠ key := by rw [beqBytes] at h; simpa using h
      have hd : delS [x] key = [x] := by unfold delS; rw [List.filter_cons, if_pos (by simpa using hne)]; rfl
      refine ⟨_, _, cadd0 bx, fun w18 h18 => ?_⟩
      obtain ⟨b18, x18, z18⟩ := box_new h18
      have e18 := e14.trans x18
      obtain ⟨A', c', w2, hr, ho, he, hat⟩ := LstL.more (P := Tryz.prog) (t := 22) (ty := 22) (x := x) (by exact Tryz.underlying22) infoL rfl (by decide) ((own9.ext0 ex).ext0 x18) b18 e18.size (by omega)
      refine ⟨_, _, _, _, hr, ?_⟩
      rw [up64 a (by omega)]
      refine ⟨⟨a + 1, rfl, by omega, by omega, Ext.old e18 (fun b hb => (own9.fresh b hb).1) he, ?_⟩, by simp only [Int.toNat_natCast]; omega⟩
      rw [htk, hd]; exact ho
    · have heq : x.1 = key := by rw [beqBytes] at h; simpa using h
      have hd : delS [x] key = [] := by unfold delS; rw [List.filter_cons, if_neg (by simpa using heq)]; rfl
      rw [up64 a (by omega)]
      refine ⟨⟨a + 1, rfl, by omega, by omega, e14, ?_⟩, by simp only [Int.toNat_natCast]; omega⟩
      rw [htk, hd, List.append_nil]; exact own9.ext0 ex
  · have hfull : l.take a = l := List.take_of_length_le (by omega)
    rw [hfull] at own9
    refine Clip_c own9 fun o => ⟨_, _, _, rfl, ?_⟩
    have := k w9 A9 n9 e9 o (by omega)
    have e1 : (getS l key).2 = decide (((n9 : Nat) : Int) < ((n : Nat) : Int)) := by
      rw [Bool.eq_iff_iff, getS_iff, ← del_lt, decide_eq_true_eq, own9.len, hl]
      omega
    rw [e1] at this
    exact this
theorem Clone_c {w : World} {A : Option Addr} {n c : Nat} {l : List Lab} (hc : Cells w A (LbL.flat l)) (hl : l.length = n) (big : n * 32 ≤ 140737488351232) {R : Ending → World → Prop}
    (k : ∀ w' A' c', Ext [] w w' → LOwn w' w.heap.size A' n c' l → R (.returned (.slice A' n c')) w') : Calls Tryz.prog 49 #[.slice A n c] w R := by
  apply slices_Clone___api_Label_api_Label__nf
  refine sel_intro (fun h => ?_) (fun h w2 h2 => ?_)
  · have hn : n = 0 := by
      rcases Nat.eq_zero_or_pos n with h0 | h0
      · exact h0
      · obtain ⟨x, ad, hx, e, _⟩ := Cells.row (L := LbL) hc hl h0
        rw [e] at h; cases h
    subst hn
    obtain rfl : l = [] := List.length_eq_zero_iff.1 hl
    exact k w none 0 (Ext.refl _ _) (LstL.nil _ _ _)
  · obtain ⟨A', c', w4, hr, ho, he⟩ := copyL (L := LbL) (P := Tryz.prog) (t := 22) (ty := 22) (e := 40) (xs := l) (m := n) (by exact Tryz.underlying22) infoL rfl (by decide) hc hl h2 (by omega) c
    exact ⟨A', n, c', w4, hr, k w4 A' c' he ho.lst⟩
/-! ### the sorting -/
def ltL (a b : Lab) : Bool := decide (bs a.1 < bs b.1)
theorem swo_ltL : Go.Sort.SWO ltL where
  irrefl x := by simp [ltL, List.lt_irrefl]
  trans x y z h1 h2 := by simp only [ltL, decide_eq_true_eq] at *; exact List.lt_trans h1 h2
  ntrans x y z h1 h2 := by
    simp only [ltL, decide_eq_false_iff_not, List.not_lt] at *
    exact List.le_trans h2 h1
theorem sortT : ∃ i, Tryz.prog.info? 22 = some i ∧ i.desc = .slice 40 := by
  have h : ((Tryz.prog.info? 22).map (fun i => i.desc)) = some (.slice 40) := by kernel_rfl
  cases hq : Tryz.prog.info? 22 with
  | none => rw [hq] at h; cases h
  | some i => rw [hq] at h; exact ⟨i, rfl, by simpa using h⟩
theorem sortE : ∃ i, Tryz.prog.info? 40 = some i ∧ i.size = 2 ∧ i.bytes = 32 := by
  have h := infoL
  cases hq : Tryz.prog.info? 40 with
  | none => rw [hq] at h; cases h
  | some i => rw [hq] at h; simp at h; exact ⟨i, rfl, h.2.1, h.2.2⟩
theorem less_c {w : World} {p g n c : Nat} {d : List Lab} (hp : w.cell? ⟨p, 0, none⟩ = some (.slice (some ⟨g, 0, none⟩) n c)) (hb : Cells w (some ⟨g, 0, none⟩) (LbL.flat d)) (hd : d.length = n) {i j : Nat} {x y : Lab} (hi : d[i]? = some x) (hj : d[j]? = some y) :
    Calls Tryz.prog 51 #[.int .i64 (i : Int), .int .i64 (j : Int), .pointer (some ⟨p, 0, none⟩)] w fun e w' => e = .returned (.bool (ltL x y)) ∧ w' = w.drew := by
  apply labels_sorted_l1_nf
  have hil := (List.getElem?_eq_some_iff.1 hi).1
  have hjl := (List.getElem?_eq_some_iff.1 hj).1
  have key : ∀ {i : Nat} {x : Lab}, d[i]? = some x → w.cell? (Addr.add (Addr.add ⟨g, 0, none⟩ (Int.toNat (i : Int) * 2)) 0) = some (.string x.1) := fun {i x} hi => by
    obtain ⟨ad, h2, h3⟩ := hb (i * 2 + 0) (.string x.1) (LbL.flat_at hi rfl)
    cases h2
    rw [Int.toNat_natCast, Addr.add_add]; exact h3
  refine ⟨_, _, _, hp, when_dec ⟨by omega, by omega⟩ ⟨_, key hi, ⟨_, _, _, hp, when_dec ⟨by omega, by omega⟩ ⟨_, key hj, ?_⟩⟩⟩⟩
  rw [ByteArray.toList_eq, ByteArray.toList_eq, bytesLess_eq]
  exact ⟨rfl, rfl⟩
theorem getBang {d : Array Lab} {i : Nat} (h : i < d.size) : d.toList[i]? = some d[i]! := by
  rw [Array.getElem?_toList, getElem!_pos d i h, Array.getElem?_eq_getElem h]
theorem sorted_list {l : List Lab} {d' : Array Lab} (hn : (keys l).Nodup) (hp : Go.Sort.PermIn 0 l.toArray.size l.toArray d') (hs : Go.Sort.SortedIn ltL 0 l.toArray.size d') : d'.toList = sortS l := by
  obtain ⟨h1, _, h3⟩ := hp
  refine sortS_eq hn ?_ ?_
  · have e1 : d'.extract 0 l.toArray.size = d' := by rw [← h1]; exact Array.extract_size
    rw [e1, Array.extract_size] at h3
    simpa using h3
  · rw [List.pairwise_iff_getElem]
    intro i j hi hj hij
    have hi' : i < d'.size := by simpa using hi
    have hj' : j < d'.size := by simpa using hj
    have := hs i j (Nat.zero_le _) hij (by omega)
    rw [getElem!_pos d' i hi', getElem!_pos d' j hj'] at this
    simp only [ltL, decide_eq_false_iff_not] at this
    exact List.not_lt.1 this
theorem sortSlice_c {w : World} {p B : Nat} {A : Option Addr} {n c : Nat} {l : List Lab} (hp : w.cell? ⟨p, 0, none⟩ = some (.slice A n c)) (hpw : p < w.heap.size) (own : LOwn w B A n c l) (hpA : p ∉ ownF A) (hn : (keys l).Nodup) (hbig : n ≤ 140737488351232) {R : Ending → World → Prop}
    (k : ∀ w', Ext (ownF A) w w' → LOwn w' B A n c (sortS l) → R (.returned undef) w') :
    Calls Tryz.prog 50 #[.iface 22 (.slice A n c), .func (.func 51) #[] #[.pointer (some ⟨p, 0, none⟩)]] w R := by
  obtain ⟨i, hi, hdesc⟩ := sortT
  obtain ⟨ie, hie, hsz, hby⟩ := sortE
  have hl := own.len
  rcases Nat.lt_or_ge n 2 with h2 | h2
  · obtain ⟨f, hf⟩ : ∃ f, Tryz.prog.funcs.findIdx? (·.name == "internal/reflectlite" ++ ".Swapper$" ++ toString (Go.Lib.swapperK n ie 25)) = some f := by
      rcases (by omega : n = 0 ∨ n = 1) with h0 | h0
      · subst h0
        have : Go.Lib.swapperK 0 ie 25 = 1 := by simp [Go.Lib.swapperK]
        rw [this]; exact Option.isSome_iff_exists.1 (by kernel_rfl)
      · subst h0
        have : Go.Lib.swapperK 1 ie 25 = 2 := by simp [Go.Lib.swapperK]
        rw [this]; exact Option.isSome_iff_exists.1 (by kernel_rfl)
    refine (Any.sort_Slice_tiny (P := Tryz.prog) (ρ := Tryz.sl6_ren) Tryz.sl6 22 40 i ie hi hdesc (by kernel_rfl) hie 25 (fun _ => by kernel_rfl) A n c (by omega) f hf (.func 51) #[] #[.pointer (some ⟨p, 0, none⟩)] w).mono ?_
    rintro e w' ⟨rfl, os, rfl⟩
    have e1 : sortS l = l := Ris.sort (by
      match l, hl with
      | [], _ => exact List.Pairwise.nil
      | [x], _ => exact List.pairwise_singleton _ _
      | x :: y :: r, hl => simp at hl; omega)
    exact k _ (grow_ext w os).up (by rw [e1]; exact own.ext0 (grow_ext w os))
  · rcases own.blk with ⟨_, h0⟩ | ⟨g, bs', rfl, hBg, hb, hbl, htk⟩
    · have := own.cap; omega
    have hcap := own.cap
    have hgp : p ≠ g := fun e => hpA (by simp [ownF, e])
    have hnl : n * 2 ≤ bs'.length := Nat.le_trans (Nat.mul_le_mul_right _ hcap) hbl
    have hds : l.toArray.size = n := by simpa using hl
    have hfit : ∀ dk : Array Lab, dk.size = n → dk.size * LbL.sz ≤ bs'.length := fun dk h => by rw [h]; exact hnl
    have hless : LessReadsK Tryz.prog 51 #[.pointer (some ⟨p, 0, none⟩)] LbL.enc LbL.sz ltL g 0 l.toArray.size w := by
      intro m os dk hs i j hi hj
      obtain ⟨q1, q2⟩ := put_blk LbL hb (d := dk) (hfit dk (hs.trans hds)) m os
      have hcell : (Go.Sort.grow (Go.Sort.putRowK LbL.enc LbL.sz (Go.Sort.ahead w m) g 0 dk) os).cell? ⟨p, 0, none⟩ = some (.slice (some ⟨g, 0, none⟩) n c) := cell_ext q2 hp (by simpa using hgp)
      have hcc : Cells (Go.Sort.grow (Go.Sort.putRowK LbL.enc LbL.sz (Go.Sort.ahead w m) g 0 dk) os) (some ⟨g, 0, none⟩) (LbL.flat dk.toList) := (Cells.of_blk q1.blk).left
      have hdk : dk.size = n := hs.trans hds
      have hi' : i < dk.size := by rw [hs]; exact hi
      have hj' : j < dk.size := by rw [hs]; exact hj
      have := less_c hcell hcc (by rw [Array.length_toList]; exact hdk) (getBang hi') (getBang hj')
      exact this.mono fun e w' h => ⟨h.1, 1, h.2⟩
    obtain ⟨f, hf⟩ : ∃ f, Tryz.prog.funcs.findIdx? (·.name == "internal/reflectlite" ++ ".Swapper$" ++ toString 9) = some f := ⟨109, by kernel_rfl⟩
    have hk9 : Go.Lib.swapperK l.toArray.size ie 25 = 9 := by
      rw [hds]
      unfold Go.Lib.swapperK
      simp [show ¬ n = 0 by omega, show ¬ n = 1 by omega, hby]
      try omega
    have hres := Any.sort_Slice_cells_sorted (P := Tryz.prog) (ρ := Tryz.sl6_ren) Tryz.sl6 22 40 i ie hi hdesc (by kernel_rfl) hie 25 (fun _ => by kernel_rfl) LbL.enc LbL.sz LbL.len hsz (fun _ => by kernel_rfl)
      LbL.one ltL swo_ltL 51 #[.pointer (some ⟨p, 0, none⟩)] (enters_of Tryz.func51 (by kernel_rfl) rfl) g 0 c l.toArray (by omega) (by omega) 109 (by rw [hk9]; kernel_rfl) false
      (fun args W => run_callFunc_extern Tryz.func109 (by kernel_rfl) (by kernel_rfl) (by kernel_rfl) (e := Extern.ReflectliteSwapper.swap false) (by kernel_rfl) args W) w hless (holds_blk LbL hb (by rw [hds]; exact htk)) hb.lt
    rw [hds] at hres
    refine hres.mono ?_
    rintro e w' ⟨rfl, d', m, os, hp1, hs1, rfl⟩
    have hd' : d'.size = n := by rw [← hds] at hp1; exact hp1.1.trans hds
    have hsl : d'.toList = sortS l := sorted_list hn (by rw [hds]; exact hp1) (by rw [hds]; exact hs1)
    obtain ⟨q1, q2⟩ := put_blk LbL hb (d := d') (hfit d' hd') m os
    refine k _ q2 ⟨by rw [sortS_len]; exact hl, hcap, own.max, .inr ⟨g, _, rfl, hBg, q1, ?_, ?_⟩⟩
    · have hbl2 : c * 2 ≤ bs'.length := hbl
      show c * 2 ≤ _
      rw [List.length_append, LbL.flat_len, List.length_drop, Array.length_toList, hd']
      show c * 2 ≤ n * 2 + (bs'.length - n * 2)
      omega
    · rw [hsl, List.take_left' (by rw [LbL.flat_len, sortS_len, hl])]
theorem sorted_c {w : World} {A : Option Addr} {n c : Nat} {l : List Lab} (hc : Cells w A (LbL.flat l)) (hl : l.length = n) (big : n * 32 ≤ 140737488351232) (hn : (keys l).Nodup) {R : Ending → World → Prop}
    (k : ∀ w' A', Ext [] w w' → LOwn w' w.heap.size A' n n (sortS l) → R (.returned (.slice A' n n)) w') : Calls Tryz.prog 28 #[.slice A n c] w R := by
  apply labels_sorted_nf
  refine Clone_c hc hl big fun w4 A2 c2 e4 o4 => ⟨_, _, _, rfl, fun w5 h5 => ?_⟩
  obtain ⟨b5, x5, z5⟩ := box_new h5
  obtain ⟨w6, hr, b6, x6⟩ := store1 (P := Tryz.prog) (t := 22) (by kernel_rfl) b5 (v := .slice A2 n c2) (i := 0) (by decide) rfl rfl
  refine ⟨w6, hr, _, _, _, b6.blk.cell rfl, ?_⟩
  have hpA : w4.heap.size ∉ ownF A2 := fun hm => by have := (o4.fresh _ hm).2; omega
  have o6 : LOwn w6 w.heap.size A2 n c2 l := (o4.ext0 x5).ext x6 fun b hb hm => by
    simp at hm; subst hm; exact hpA hb
  have e6 : Ext [] w w6 := (e4.trans x5).trans' x6 fun b hb => .inr (by simp at hb; have := e4.size; omega)
  refine sortSlice_c (b6.blk.cell rfl) b6.lt o6 hpA hn (by omega) fun w9 e9 o9 => ⟨rfl, ?_⟩
  have b9 := b6.ext e9 hpA
  refine ⟨_, _, _, b9.blk.cell rfl, Clip_c o9 fun o => ⟨_, _, _, rfl, ?_⟩⟩
  exact k w9 A2 (Ext.old e6 (fun b hb => (o6.fresh b hb).1) e9) o
end Go.Proofs.YtcohengppaighaaGreatDoor
