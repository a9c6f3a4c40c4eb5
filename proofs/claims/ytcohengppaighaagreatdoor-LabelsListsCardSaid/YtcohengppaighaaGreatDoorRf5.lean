/- Labels, the document's answer: Patch. -/
import Derived.Test.YtcohengppaighaaGreatDoorRf4
set_option linter.unusedVariables false
set_option linter.unusedSimpArgs false
namespace Go.Proofs.YtcohengppaighaaGreatDoor
open Go Go.V Go.B

set_option maxHeartbeats 2000000 in
theorem rPatch_c {w : World} {A : Option Addr} {n c : Nat} {l : List Lab} (h : LIn w A n l) {D : Option Addr} {q c3 : Nat} {ds : List DL} (hd : DIn w D q ds) {R : Ending → World → Prop}
    (k : ∀ w' A' n' c', Ext [] w w' → LOwn w' w.heap.size A' n' c' (patchS l ds).1 → R (.returned (.tuple #[.slice A' n' c', .int .i64 (patchS l ds).2])) w') : Calls Tryz.prog 40 #[.slice A n c, .slice D q c3] w R := by
  apply berthref03_Patch_nf
  have hql := hd.len
  have hqb := hd.big
  have bad : ∀ {w' : World} {e : Int}, Ext [] w w' → patchS l ds = ([], e) → R (.returned (.tuple #[.slice none 0 0, .int .i64 e])) w' := fun {w' e} ew he => by
    have := k w' none 0 0 ew (by rw [he]; exact LstL.nil _ _ _)
    rw [he] at this; exact this
  refine rCheck_c h fun w6 e6 => ⟨_, _, rfl, sel_intro (fun hc => ?_) (fun hc w7 h7 => ?_)⟩
  · have hc : (checkS l).2 ≠ 0 := by simpa using hc
    exact bad e6 (by unfold patchS; rw [if_pos hc])
  have hc : (checkS l).2 = 0 := by simpa using hc
  have ok := checkS_zero.1 hc
  have hps : patchS l ds = patchGo l none l ds := by unfold patchS; rw [if_neg (by simpa using hc)]
  have hl := h.len
  have hll := ok.len
  obtain ⟨A7, c7, w9, hr9, o9, e9⟩ := copyL (L := LbL) (P := Tryz.prog) (t := 22) (ty := 22) (e := 40) (xs := l) (m := n) (by exact Tryz.underlying22) infoL rfl (by decide) (h.ext0 e6).c hl h7 (by omega) c
  have e9' := e6.trans e9
  refine ⟨_, _, _, _, hr9, ?_⟩
  refine ⟨fun e A' n' c' t w' => ∃ (a : Nat) (out : List Lab), t = a ∧ a ≤ q ∧ Ext [] w w' ∧ LOwn w' w.heap.size A' n' c' out ∧ n' ≤ 32 + a ∧ Pat l (prevD ds a) out ∧ patchGo l none l ds = patchGo l (prevD ds a) out (ds.drop a), fun _ _ _ _ t _ => q - t.toNat,
    ⟨0, l, rfl, by omega, e9', o9.lst.weaken e6.size, by omega, Pat.start ok.ris, rfl⟩, ?_⟩
  rintro e0 A' n' c' _ _ w15 ⟨a, out, rfl, ha, e15, own, hn', hpat, hgo⟩
  refine sel_dec (fun hlt => when_dec ⟨by omega, by omega⟩ ?_) (fun hge => ?_)
  · obtain ⟨d, hx⟩ : ∃ d, ds[a]? = some d := ⟨_, List.getElem?_eq_getElem (by omega)⟩
    have hD := hd
    obtain ⟨ad, rfl, rd⟩ := dif_cells hd.c hx
    have hsz := hd.sz d (List.mem_of_getElem? hx)
    have hol := own.len
    rw [drop_at hx, patchGo] at hgo
    have hp1 : prevD ds (a + 1) = some d.key := by unfold prevD; rw [if_neg (by omega), Nat.add_sub_cancel, hx]; rfl
    have err : ∀ {w' : World} {e : Int}, Ext [] w w' → wrongS (prevD ds a) l d = e → e ≠ 0 → R (.returned (.tuple #[.slice none 0 0, .int .i64 e])) w' := fun {w' e} ew hw hne => bad ew (by rw [hps, hgo, if_neg (by rw [hw]; exact hne), hw])
    refine ⟨_, _, _, _, _, (rd w15 e15).2, fun w22 h22 => ?_⟩
    obtain ⟨b22, x22, z22⟩ := box_new h22
    obtain ⟨w23, hr, b23, x23⟩ := storeW (P := Tryz.prog) (t := 59) (n := 5) (by kernel_rfl) b22 (vs := dcells d) rfl rfl (DLL.one d)
    have e23 : Ext [] w15 w23 := x22.trans' x23 fun b hb => .inr (by simp at hb; omega)
    refine ⟨w23, hr, rwrong_c (hD.ext0 (e15.trans e23)) hx fun w27 e27 => ⟨_, rfl, ?_⟩⟩
    have b27 := b23.ext e27 (by simp)
    have e27' := e23.trans e27
    have x27 := e15.trans e27'
    rcases wrong_split (prevD ds a) l d with ⟨hw1, hw2⟩ | ⟨hw1, hw2⟩
    · exact sel_true (by simpa using hw1) (err x27 hw2 hw1)
    rw [hw1]
    refine sel_false rfl ⟨_, cadd b27 rfl, rGet_c (h.ext0 x27).c hl h.big d.key ⟨_, _, rfl, _, cadd b27 rfl, ?_⟩⟩
    refine sel_intro (fun hs => err x27 (e := 38) (by rw [hw2, if_pos (.inl (by simpa using hs))]) (by decide)) (fun hs => ⟨_, cadd b27 rfl, sel_intro (fun hs2 => err x27 (e := 38) (by rw [hw2, if_pos (.inr (by rw [beqBytes] at hs2; simpa using hs2))]) (by decide)) (fun hs2 => ?_)⟩)
    have hs : (getS l d.key).2 = d.had := by simpa using hs
    have hs2 : (getS l d.key).1 = d.old := by rw [beqBytes] at hs2; simpa using hs2
    have hf : wrongS (prevD ds a) l d = 0 := by rw [hw2, if_neg (by rw [hs, hs2]; simp)]
    rw [if_pos hf, ← hp1] at hgo
    have hpat2 := hpat.step hf
    rw [← hp1] at hpat2
    have own41 := own.ext0 e27'
    -- what comes last
    have last : ∀ {w' : World} {B : Option Addr} {m c2 : Nat} {out2 : List Lab}, Ext [] w27 w' → LOwn w' w.heap.size B m c2 out2 → m ≤ 32 + a → stepP out d = out2 ++ (if d.has = true then [(d.key, d.new)] else []) →
        (∃ b48, World.cell? w' (Addr.add ⟨Array.size (World.heap w15), 0, none⟩ 4) = some (Value.bool b48) ∧
          V.sel b48
          (∃ s49, World.cell? w' (Addr.add ⟨Array.size (World.heap w15), 0, none⟩ 0) = some (Value.string s49) ∧
          ∃ s50, World.cell? w' (Addr.add ⟨Array.size (World.heap w15), 0, none⟩ 2) = some (Value.string s50) ∧
          ∀ w51, w51 = (World.alloc w' (.cells #[(Value.string s49), (Value.string s50)] 40)) →
          ∃ A52, ∃ A52l, ∃ A52c, ∃ w53, Sem.run Tryz.prog (Builtin.append_ #[22, 22] 22 #[(Value.slice B m c2), (Value.slice (some ⟨Array.size (World.heap w'), 0, none⟩) 1 1)]) w51 = .ok (Value.slice A52 A52l A52c) w53 ∧
          (∃ (a_1 : Nat) (out : List Lab), IntKind.wrap .i64 ((a : Int) + 1) = (a_1 : Int) ∧ a_1 ≤ q ∧ Ext [] w w53 ∧ LOwn w53 w.heap.size A52 A52l A52c out ∧ A52l ≤ 32 + a_1 ∧ Pat l (prevD ds a_1) out ∧ patchGo l none l ds = patchGo l (prevD ds a_1) out (ds.drop a_1)) ∧ q - Int.toNat (IntKind.wrap .i64 ((a : Int) + 1)) < q - Int.toNat (a : Int))
          ((∃ (a_1 : Nat) (out : List Lab), IntKind.wrap .i64 ((a : Int) + 1) = (a_1 : Int) ∧ a_1 ≤ q ∧ Ext [] w w' ∧ LOwn w' w.heap.size B m c2 out ∧ m ≤ 32 + a_1 ∧ Pat l (prevD ds a_1) out ∧ patchGo l none l ds = patchGo l (prevD ds a_1) out (ds.drop a_1)) ∧ q - Int.toNat (IntKind.wrap .i64 ((a : Int) + 1)) < q - Int.toNat (a : Int))) := by
      intro w' B m c2 out2 ew ow hm hst
      have bw := b27.ext ew (by simp)
      refine ⟨_, cadd bw rfl, sel_intro (fun hh => ⟨_, cadd bw rfl, _, cadd bw rfl, fun w51 h51 => ?_⟩) (fun hh => ?_)⟩
      · rw [if_pos hh] at hst
        obtain ⟨A2, c2', w2, hr2, ho, he2, _⟩ := more_lab (x27.trans ew) ow h51 (by omega)
        refine ⟨_, _, _, _, hr2, ?_⟩
        rw [up64 a (by omega)]
        exact ⟨⟨a + 1, _, rfl, by omega, he2, ho, by omega, by rw [← hst]; exact hpat2, by rw [hgo, hst]⟩, by simp only [Int.toNat_natCast]; omega⟩
      · rw [if_neg (by rw [hh]; simp), List.append_nil] at hst
        rw [up64 a (by omega)]
        exact ⟨⟨a + 1, _, rfl, by omega, x27.trans ew, ow, by omega, by rw [← hst]; exact hpat2, by rw [hgo, hst]⟩, by simp only [Int.toNat_natCast]; omega⟩
    refine ⟨_, cadd b27 rfl, sel_intro (fun hh => ⟨_, cadd b27 rfl, ?_⟩) (fun hh => ?_)⟩
    · refine rwithout_c own41.cells hol (by omega) d.key fun w47 A44 n44 c44 e47 o47 hle => ⟨_, _, _, rfl, ?_⟩
      exact last e47 (o47.weaken x27.size) (by omega) (by unfold stepP; rw [if_pos hh])
    · exact last (Ext.refl _ _) own41 hn' (by unfold stepP; rw [if_neg (by rw [hh]; simp)])
  · have hdr : ds.drop a = [] := List.drop_eq_nil_of_le (by omega)
    rw [hdr, patchGo] at hgo
    have hol := own.len
    refine sel_dec (fun hgt => bad e15 (by rw [hps, hgo, if_pos (by omega)])) (fun hle => ?_)
    rw [if_neg (by omega)] at hgo
    refine rRise_c own.cells hol (by omega) hpat.nodup fun w143 A141 c141 e143 o143 => ⟨_, _, _, rfl, ?_⟩
    have hh : patchS l ds = (sortS out, 0) := by rw [hps, hgo]
    have := k w143 A141 n' c141 (e15.trans e143) (by rw [hh]; exact o143.weaken e15.size)
    rw [hh] at this; exact this
end Go.Proofs.YtcohengppaighaaGreatDoor
