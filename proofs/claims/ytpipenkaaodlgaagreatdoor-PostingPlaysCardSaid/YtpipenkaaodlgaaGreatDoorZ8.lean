/- Posting: Keys, Values. -/
import Derived.Test.YtpipenkaaodlgaaGreatDoorZ7
import Derived.Test.YtpipenkaaodlgaaGreatDoorSs
import Derived.Sort.OwnSorted
set_option linter.unusedVariables false
set_option linter.unusedSimpArgs false
namespace Go.Proofs.YtpipenkaaodlgaaGreatDoor
open Go Go.V Go.B Go.Sort

theorem OwnL.none0 {α : Type} {L : Lay α} {w : World} {B n c : Nat} {e : TypeId} {A : Option Addr} {xs : List α} (h : OwnL L w B e A n c xs) (hA : A ≠ none) : ∃ g cap cur, A = some ⟨g, 0, none⟩ ∧ c = cap ∧ B ≤ g ∧ w.heap[g]? = some (.cells cur e (0, 0)) ∧ n ≤ cap ∧ cap ≤ maxLen ∧ cur.size = cap * L.sz ∧ cur.toList.take (n * L.sz) = L.flat xs := by
  rcases h.2 with ⟨hv, _⟩ | ⟨g, cap, cur, hv, h1, h2, h3, h4, h5, h6⟩
  · injection hv with h1; exact absurd h1 hA
  · injection hv with e1 e2 e3
    exact ⟨g, cap, cur, e1, e3, h1, h2, h3, h4, h5, h6⟩
def unb (l : List UInt8) : ByteArray := ⟨l.toArray⟩
def srt (l : List ByteArray) : List ByteArray := ((l.map bs).mergeSort fun x y => decide (x ≤ y)).map unb
theorem SL_fl (l : List ByteArray) : SL.flat l = (l.map bs).map encStr := by
  induction l with
  | nil => rfl
  | cons x l ih => rw [Lay.flat_cons, ih]; simp [SL, bs, encStr]
theorem SL_srt (l : List ByteArray) : SL.flat (srt l) = ((l.map bs).mergeSort fun x y => decide (x ≤ y)).map encStr := by
  rw [SL_fl]
  unfold srt
  rw [List.map_map, List.map_map]
  congr 1
theorem bs_unb : bs ∘ unb = id := by funext x; simp [bs, unb]
theorem unb_bs : unb ∘ bs = id := by funext x; rfl
theorem srt_bs (l : List ByteArray) : (srt l).map bs = (l.map bs).mergeSort fun x y => decide (x ≤ y) := by
  unfold srt
  rw [List.map_map, bs_unb, List.map_id]
theorem srt_mem (l : List ByteArray) (k : ByteArray) : k ∈ srt l ↔ k ∈ l := by
  have h1 : ((l.map bs).mergeSort fun x y => decide (x ≤ y)).Perm (l.map bs) := List.mergeSort_perm _ _
  have h2 := h1.map unb
  rw [List.map_map, unb_bs, List.map_id] at h2
  exact h2.mem_iff
def Strict (l : List ByteArray) : Prop := l.Pairwise fun a b => bs a < bs b
theorem srt_strict {l : List ByteArray} (hn : l.Nodup) : Strict (srt l) := by
  have tr : ∀ a b c : List UInt8, decide (a ≤ b) = true → decide (b ≤ c) = true → decide (a ≤ c) = true := fun a b c h1 h2 => by simp only [decide_eq_true_eq] at *; exact List.le_trans h1 h2
  have tot : ∀ a b : List UInt8, (decide (a ≤ b) || decide (b ≤ a)) = true := fun a b => by simp only [Bool.or_eq_true, decide_eq_true_eq]; exact List.le_total a b
  have h1 := List.pairwise_mergeSort tr tot (l.map bs)
  rw [← srt_bs, List.pairwise_map] at h1
  have hn2 : (srt l).Nodup := by
    have h1 : ((l.map bs).mergeSort fun x y => decide (x ≤ y)).Perm (l.map bs) := List.mergeSort_perm _ _
    have h2 := h1.map unb
    rw [List.map_map, unb_bs, List.map_id] at h2
    exact h2.nodup_iff.2 hn
  refine (h1.and hn2).imp (fun {a b} ⟨h, hne⟩ => ?_)
  have h : bs a ≤ bs b := by simpa using h
  rcases List.le_iff_lt_or_eq.1 h with h | h
  · exact h
  · exact absurd (bs_inj h) hne
theorem sort_c {w : World} {B n c : Nat} {A : Option Addr} {xs : List ByteArray} (own : OwnL SL w B 9 A n c xs) (hA : A ≠ none) (hn : n < 4611686018427387904) {R : Ending → World → Prop}
    (k : ∀ w', OwnL SL w' B 9 A n c (srt xs) → Ext (ownF A) w w' → R (.returned undef) w') : Calls Tryz.prog 39 #[.slice A n c] w R := by
  have hxl := own.len
  obtain ⟨g, cap, cur, rfl, rfl, hB, hh, hnc, hcm, hsz, htk⟩ := OwnL.none0 own hA
  have hss : (xs.map bs).length = n := by simpa using hxl
  have h1 : cur.toList.take (xs.map bs).length = (xs.map bs).map encStr := by
    rw [hss, ← SL_fl, ← htk]
    show _ = cur.toList.take (n * 1)
    rw [Nat.mul_one]
  have := Any.slices_Sort_string Tryz.lays190 g 0 c (xs.map bs) w (holds_of_block hh h1) (Array.getElem?_eq_some_iff.1 hh).1 (by omega)
  rw [hss] at this
  refine Calls.mono this ?_
  rintro e w' ⟨rfl, m, os, rfl⟩
  refine k _ ?_ (Ext.of_grown (A := some ⟨g, 0, none⟩) (n := n) (c := c) (grownBy_sorted _))
  have hl : ((xs.map bs).mergeSort fun x y => decide (x ≤ y)).length = (xs.map bs).length := List.length_mergeSort _
  have := ownsRow_sorted (n := m) (os := os) hl hB hh (by omega) hcm hsz
  rw [hss, ← SL_srt] at this
  exact this
theorem uS : Tryz.prog.underlying 23 = some (.slice 9) := by kernel_rfl
theorem iS : (Tryz.prog.info? 9).map (fun i => (i.zero, i.size, i.bytes)) = some (some (.string ByteArray.empty), 1, 16) := by kernel_rfl
theorem sub_len {α : Type} [DecidableEq α] : ∀ {l m : List α}, l.Nodup → (∀ a ∈ l, a ∈ m) → l.length ≤ m.length
  | [], _, _, _ => by simp
  | a :: l, m, hn, hs => by
    obtain ⟨ha, hd⟩ := List.nodup_cons.1 hn
    have hm := hs a (by simp)
    have h1 : l.length ≤ (m.erase a).length := sub_len hd fun b hb => (List.mem_erase_of_ne (by rintro rfl; exact ha hb)).2 (hs b (by simp [hb]))
    rw [List.length_erase_of_mem hm] at h1
    have := List.length_pos_of_mem hm
    simp only [List.length_cons]; omega
/-- All labels of an index. -/
def allL (x : Px) : List Lab := (List.range x.N).flatMap fun i : Nat => (x.lab (i : Int)).getD []
theorem flatMap_len {α β : Type} {f : α → List β} {c : Nat} (h : ∀ a, (f a).length ≤ c) : ∀ l : List α, (l.flatMap f).length ≤ l.length * c
  | [] => by simp
  | a :: l => by
    have h1 := h a
    have h2 := flatMap_len h l
    rw [List.flatMap_cons, List.length_append, List.length_cons, Nat.succ_mul]
    omega
theorem allL_len {x : Px} (ok : PxOk x) : (allL x).length ≤ x.N * 32 := by
  have := flatMap_len (f := fun i : Nat => (x.lab (i : Int)).getD []) (c := 32) (fun i => by
    cases h : x.lab (i : Int) with
    | none => simp
    | some l => exact (ok.lab _ _ h).1.len) (List.range x.N)
  rw [List.length_range] at this
  exact this
theorem mem_allL {x : Px} (ok : PxOk x) {i : Int} {l : List Lab} {y : Lab} (h : x.lab i = some l) (hy : y ∈ l) : y ∈ allL x := by
  obtain ⟨_, j, rfl, hj⟩ := ok.lab i l h
  exact List.mem_flatMap.2 ⟨j, List.mem_range.2 hj, by rw [h]; exact hy⟩
structure KeysP (x : Px) (xs : List ByteArray) : Prop where
  strict : Strict xs
  mem : ∀ k, k ∈ xs ↔ ∃ i l v, x.lab i = some l ∧ (k, v) ∈ l
structure ValsP (x : Px) (key : ByteArray) (xs : List ByteArray) : Prop where
  strict : Strict xs
  mem : ∀ v, v ∈ xs ↔ ∃ i l, x.lab i = some l ∧ (key, v) ∈ l
theorem own_empty {w w' : World} (h : w' = w.alloc (.cells #[] 9)) : OwnL SL w' w.heap.size 9 (some ⟨w.heap.size, 0, none⟩) 0 0 [] ∧ Ext [] w w' ∧ w'.heap.size = w.heap.size + 1 := by
  obtain ⟨b1, x1, z1⟩ := box_new (cs := []) h
  exact ⟨own_of b1 (Nat.le_refl _) (Nat.le_refl _) (by simp only [maxLen]; omega) (by simp) (by rfl), x1, z1⟩
/-- What stands behind some rounds of for k := range m { out = append(out, k) }. -/
structure Coll {β : Type} (ve : β → Value) (m : List (ByteArray × β)) (r : Option Nat) (w0 : World) (it : Nat) (A : Option Addr) (n c : Nat) (w' : World) (done : List (ByteArray × β)) : Prop where
  ex : ∃ G, (∀ b ∈ G, w0.heap.size ≤ b) ∧ Ext G w0 w'
  it_ : ItAt w' it r Value.string ve m done
  own : OwnL SL w' w0.heap.size 9 A n c (mkeys done)
  some_ : A ≠ none
  nit : it ∉ ownF A
  old : w0.heap.size ≤ it
theorem Coll.next {w0 : World} {β : Type} {ve : β → Value} {m : List (ByteArray × β)} {r : Option Nat} (hr : ∀ b, r = some b → b < w0.heap.size) (hm : m.length ≤ 4000000000000) {it : Nat} {A : Option Addr} {n c : Nat} {w13 : World} {done : List (ByteArray × β)} (h : Coll ve m r w0 it A n c w13 done) :
    ((Instr.next (.pointer (some ⟨it, 0, none⟩)) false 0).run Tryz.prog w13 = .ok (.tuple #[.bool false]) w13 ∧ (∀ z, z ∈ done ↔ z ∈ m) ∧ (mkeys done).Nodup) ∨
    ∃ z w19, (Instr.next (.pointer (some ⟨it, 0, none⟩)) false 0).run Tryz.prog w13 = .ok (.tuple #[.bool true, .string z.1, ve z.2]) w19 ∧ (Instr.entry (.pointer (some ⟨it, 0, none⟩))).run Tryz.prog w19 = .ok (.tuple #[.string z.1, ve z.2]) w19 ∧
      ∀ w23, w23 = World.alloc w19 (.cells #[.string z.1] 9) → ∃ A24 c24 w25, (Builtin.append_ #[23, 23] 23 #[.slice A n c, .slice (some ⟨w19.heap.size, 0, none⟩) 1 1]).run Tryz.prog w23 = .ok (.slice A24 (n + 1) c24) w25 ∧ Coll ve m r w0 it A24 (n + 1) c24 w25 (done ++ [z]) ∧ done.length < m.length := by
  obtain ⟨G, hG, hex⟩ := h.ex
  have gb := h.own.base
  have hil := h.it_.lt
  have hln : (mkeys done).length = n := h.own.len
  have hdl : done.length = n := by simpa [mkeys] using hln
  have zW := hex.size
  rcases it_next (P := Tryz.prog) h.it_ 0 with h1 | ⟨z, w19, h1, h2, e19, i19, hz, hlt⟩
  · exact .inl h1
  refine .inr ⟨z, w19, h1, h2, fun w23 h23 => ?_⟩
  obtain ⟨b23, x23, z23⟩ := box_new (cs := [.string z.1]) h23
  have z19 := e19.size
  have own23 : OwnL SL w23 w0.heap.size 9 A n c (mkeys done) := OwnL.ext0 (OwnL.ext h.own e19 (fun b hb => by simp; exact fun e => h.nit (e ▸ hb))) x23
  obtain ⟨A', c', w25, hr25, own25, e25, hF⟩ := own23.more (P := Tryz.prog) (ty := 23) (x := z.1) uS iS rfl (by omega) b23 (by omega) (by omega)
  have hitA : it ∉ ownF A := h.nit
  have hA0 : A' ≠ none := by
    intro e
    subst e
    have h0 : ownF (none : Option Addr) = [] := rfl
    rw [h0] at hF
    rcases hF with hF | hF
    · have hs := h.some_
      cases hA : A with
      | none => exact hs hA
      | some a => rw [hA] at hF; simp [ownF] at hF
    · cases hF
  have i25 : ItAt w25 it r Value.string ve m (done ++ [z]) := (i19.ext0 x23).ext e25 hitA (fun b hb hm' => by have := (gb b hm').1; have := hr b hb; omega)
  refine ⟨A', c', w25, hr25, ⟨⟨it :: ownF A ++ G, fun b hb => ?_, ?_⟩, i25, by rw [show mkeys (done ++ [z]) = mkeys done ++ [z.1] by simp [mkeys]]; exact own25, hA0, fun hm' => ?_, h.old⟩, hlt⟩
  · simp only [List.cons_append, List.mem_cons, List.mem_append] at hb
    rcases hb with rfl | hb | hb
    · exact h.old
    · exact (gb b hb).1
    · exact hG b hb
  · exact (((hex.weaken (fun b hb => .inl (by simp [hb]))).trans' e19 (fun b hb => by simp at hb; simp [hb])).then x23).trans' e25 (fun b hb => .inl (by simp [hb]))
  · rcases hF with hF | hF
    · rw [hF] at hm'; exact h.nit hm'
    · rw [hF] at hm'; simp at hm'; omega
theorem keys_bound {x : Px} (ok : PxOk x) (hs : x.N ≤ 65536) {l : List ByteArray} (hn : l.Nodup) (f : Lab → ByteArray) (h : ∀ k ∈ l, ∃ i t y, x.lab i = some t ∧ y ∈ t ∧ f y = k) : l.length ≤ 2097152 := by
  have h1 := sub_len hn (m := (allL x).map f) fun k hk => by
    obtain ⟨i, t, y, h1, h2, h3⟩ := h k hk
    exact List.mem_map.2 ⟨y, mem_allL ok h1 h2, h3⟩
  have h2 := allL_len ok
  rw [List.length_map] at h1
  omega
theorem PxV.small {w : World} {q : Option Addr} {x : Px} (h : PxV w q x) : x.N ≤ 65536 := by
  rcases h.r with ⟨_, h1, _⟩ | ⟨F, _, h1⟩
  · omega
  · exact h1.small
theorem KcTell {x : Px} (ok : PxOk x) {key v : ByteArray} {s : PS} (h : x.ps key v = some s) : ∃ i l, x.lab i = some l ∧ (key, v) ∈ l := by
  obtain ⟨_, i, hi⟩ := ok.cols.set key v s h
  obtain ⟨l, h1, h2⟩ := (ok.tell key v i).1 ⟨s, h, hi⟩
  exact ⟨i, l, h1, h2⟩
theorem Values_c {w : World} {q : Option Addr} {x : Px} (h : PxV w q x) (key : ByteArray) {R : Ending → World → Prop}
    (k : ∀ A n c xs w', Ext [] w w' → OwnL SL w' w.heap.size 9 A n c xs → ValsP x key xs → n ≤ 2097152 → R (.returned (.slice A n c)) w') :
    Calls Tryz.prog 18 #[.pointer q, .string key] w R := by
  apply posting_Index_Values_nf
  intro w3 h3
  obtain ⟨own3, x3, z3⟩ := own_empty h3
  have v3 := h.ext0 x3
  refine values_c v3.r key ⟨_, rfl, ?_⟩
  obtain ⟨m, hm, hset, hget⟩ := h.colmap key
  have hmn : (mkeys m).Nodup := by
    rcases hm with ⟨_, rfl⟩ | ⟨b, _, h2⟩
    · simp [mkeys]
    · exact h2.nodup
  have hml : ∀ b, ((x.cols key).map (·.m)) = some b → b < w.heap.size := fun b hb => by
    rcases hm with ⟨h1, _⟩ | ⟨b', h1, h2⟩
    · rw [hb] at h1; cases h1
    · rw [hb] at h1; cases h1; exact h2.lt
  have hm3 : ((x.cols key).map (·.m)) = none ∧ m = [] ∨ ∃ b, ((x.cols key).map (·.m)) = some b ∧ MapAt w3 b Value.string psV m := by
    rcases hm with h1 | ⟨b, h1, h2⟩
    · exact .inl h1
    · exact .inr ⟨b, h1, h2.ext0 x3⟩
  have htell : ∀ v, v ∈ mkeys m ↔ ∃ i l, x.lab i = some l ∧ (key, v) ∈ l := fun v => by
    constructor
    · intro hv
      obtain ⟨y, hy, rfl⟩ := List.mem_map.1 hv
      exact KcTell h.ok ((hget y.1).symm.trans (mget_of_mem hmn hy))
    · rintro ⟨i, l, h1, h2⟩
      obtain ⟨_, j, rfl, hj⟩ := h.ok.lab i l h1
      obtain ⟨s, hs, _⟩ := (h.ok.tell key v j).2 ⟨l, h1, h2⟩
      rw [← hget] at hs
      exact List.mem_map.2 ⟨_, mget_some hs, rfl⟩
  have hml2 : m.length ≤ 2097152 := by
    have := keys_bound h.ok h.small hmn (·.2) fun v hv => by
      obtain ⟨i, l, h1, h2⟩ := (htell v).1 hv
      exact ⟨i, l, _, h1, h2, rfl⟩
    simpa [mkeys] using this
  obtain ⟨w8, hr8, it8, x8⟩ := it_start (P := Tryz.prog) um_sp hm3
  refine ⟨_, w8, hr8, ?_⟩
  have z8 := x8.size
  refine ⟨fun A n c w' => ∃ done, Coll psV m ((x.cols key).map (·.m)) w w3.heap.size A n c w' done, fun _ n _ _ => m.length - n, ⟨[], ⟨[], by simp, x3.trans x8⟩, it8, own3.ext0 x8, by simp, by simp [ownF]; omega, by omega⟩, ?_⟩
  rintro A n c _ w13 ⟨done, g⟩
  have hdl : done.length = n := by have := g.own.len; simpa [mkeys] using this
  rcases g.next hml (by omega) with ⟨hr, hd, hnd⟩ | ⟨z, w19, hr, hre, hap⟩
  · left
    obtain ⟨G, hG, hex⟩ := g.ex
    have hmem : ∀ v, v ∈ mkeys done ↔ v ∈ mkeys m := fun v => by
      unfold mkeys
      rw [List.mem_map, List.mem_map]
      exact ⟨fun ⟨y, hy, e⟩ => ⟨y, (hd y).1 hy, e⟩, fun ⟨y, hy, e⟩ => ⟨y, (hd y).2 hy, e⟩⟩
    have hlen : (mkeys done).length ≤ m.length := by
      have := sub_len hnd (m := mkeys m) fun v hv => (hmem v).1 hv
      simpa [mkeys] using this
    have hlen2 : done.length ≤ m.length := by simpa [mkeys] using hlen
    have gb := g.own.base
    refine ⟨w13, hr, sort_c g.own g.some_ (by omega) fun w' own' e' => ⟨rfl, k A n c _ w' ((hex.weaken (G := []) (fun b hb => .inr (hG b hb))).trans' e' (fun b hb => .inr (gb b hb).1)) own' ⟨srt_strict hnd, fun v => by rw [srt_mem, hmem, htell]⟩ (by omega)⟩⟩
  · right
    refine ⟨_, _, w19, hr, _, _, w19, hre, fun w23 h23 => ?_⟩
    obtain ⟨A24, c24, w25, hr25, g25, hlt⟩ := hap w23 h23
    refine ⟨A24, n + 1, c24, w25, hr25, ⟨_, g25⟩, ?_⟩
    show m.length - (n + 1) < m.length - n
    omega
theorem Keys_c {w : World} {q : Option Addr} {x : Px} (h : PxV w q x) {R : Ending → World → Prop}
    (k : ∀ A n c xs w', Ext [] w w' → OwnL SL w' w.heap.size 9 A n c xs → KeysP x xs → n ≤ 2097152 → R (.returned (.slice A n c)) w') :
    Calls Tryz.prog 17 #[.pointer q] w R := by
  apply posting_Index_Keys_nf
  intro w2 h2
  obtain ⟨own2, x2, z2⟩ := own_empty h2
  have v2 := h.ext0 x2
  cases q with
  | none =>
    obtain ⟨_, hl, _⟩ := h.nil_lab
    refine sel_false rfl (sort_c own2 (by simp) (by omega) fun w' own' e' => ⟨rfl, k _ 0 0 _ w' (x2.trans' e' (fun b hb => by simp [ownF] at hb; exact .inr (by omega))) own' ⟨srt_strict (by simp), fun v => ?_⟩ (by omega)⟩)
    rw [srt_mem]
    simp [hl]
  | some a =>
    rcases h.r with ⟨h1, _⟩ | ⟨F, h1, hx⟩
    · cases h1
    cases h1
    have hx2 := hx.ext0 x2
    obtain ⟨m, hm, hg⟩ := hx.mp
    have hmn := hm.nodup
    have htell : ∀ k, k ∈ mkeys m ↔ ∃ i l v, x.lab i = some l ∧ (k, v) ∈ l := fun k => by
      have h1 := mget_none (m := m) (k := k)
      rw [hg] at h1
      constructor
      · intro hv
        cases hc : x.cols k with
        | none => rw [hc] at h1; exact absurd hv (h1.1 rfl)
        | some C =>
          have hne := h.ok.cols.ne k C hc
          cases hof : C.of with
          | nil => exact absurd hof hne
          | cons y of =>
            have : x.ps k y.1 = some y.2 := by unfold Px.ps; rw [hc]; show mget C.of y.1 = _; rw [hof]; simp [mget]
            obtain ⟨i, l, h2, h3⟩ := KcTell h.ok this
            exact ⟨i, l, y.1, h2, h3⟩
      · rintro ⟨i, l, v, h2, h3⟩
        obtain ⟨_, j, rfl, hj⟩ := h.ok.lab i l h2
        obtain ⟨s, hs, _⟩ := (h.ok.tell k v j).2 ⟨l, h2, h3⟩
        apply Classical.byContradiction
        intro hno
        have h4 := h1.2 hno
        unfold Px.ps at hs
        cases hc : x.cols k with
        | none => rw [hc] at hs; cases hs
        | some C => rw [hc] at h4; cases h4
    have hml2 : m.length ≤ 2097152 := by
      have := keys_bound h.ok h.small hmn (·.1) fun v hv => by
        obtain ⟨i, l, v', h1, h2⟩ := (htell v).1 hv
        exact ⟨i, l, _, h1, h2, rfl⟩
      simpa [mkeys] using this
    have hBl := hm.lt
    obtain ⟨w8, hr8, it8, x8⟩ := it_start (P := Tryz.prog) (r := some x.Bm) um_sm (.inr ⟨_, rfl, hm.ext0 x2⟩)
    refine sel_true rfl (ptr_in ⟨_, hx2.bm (Ext.refl [] _) (by simp), _, w8, hr8, ?_⟩)
    have z8 := x8.size
    refine ⟨fun A n c w' => ∃ done, Coll mapV m (some x.Bm) w w2.heap.size A n c w' done, fun _ n _ _ => m.length - n, ⟨[], ⟨[], by simp, x2.trans x8⟩, it8, own2.ext0 x8, by simp, by simp [ownF]; omega, by omega⟩, ?_⟩
    rintro A n c _ w13 ⟨done, g⟩
    have hdl : done.length = n := by have := g.own.len; simpa [mkeys] using this
    rcases g.next (fun b hb => by cases hb; exact hBl) (by omega) with ⟨hr, hd, hnd⟩ | ⟨z, w19, hr, hre, hap⟩
    · left
      obtain ⟨G, hG, hex⟩ := g.ex
      have hmem : ∀ v, v ∈ mkeys done ↔ v ∈ mkeys m := fun v => by
        unfold mkeys
        rw [List.mem_map, List.mem_map]
        exact ⟨fun ⟨y, hy, e⟩ => ⟨y, (hd y).1 hy, e⟩, fun ⟨y, hy, e⟩ => ⟨y, (hd y).2 hy, e⟩⟩
      have hlen : (mkeys done).length ≤ m.length := by
        have := sub_len hnd (m := mkeys m) fun v hv => (hmem v).1 hv
        simpa [mkeys] using this
      have hlen2 : done.length ≤ m.length := by simpa [mkeys] using hlen
      have gb := g.own.base
      refine ⟨w13, hr, sort_c g.own g.some_ (by omega) fun w' own' e' => ⟨rfl, k A n c _ w' ((hex.weaken (G := []) (fun b hb => .inr (hG b hb))).trans' e' (fun b hb => .inr (gb b hb).1)) own' ⟨srt_strict hnd, fun v => by rw [srt_mem, hmem, htell]⟩ (by omega)⟩⟩
    · right
      refine ⟨_, _, w19, hr, _, _, w19, hre, fun w23 h23 => ?_⟩
      obtain ⟨A24, c24, w25, hr25, g25, hlt⟩ := hap w23 h23
      refine ⟨A24, n + 1, c24, w25, hr25, ⟨_, g25⟩, ?_⟩
      show m.length - (n + 1) < m.length - n
      omega
end Go.Proofs.YtpipenkaaodlgaaGreatDoor
