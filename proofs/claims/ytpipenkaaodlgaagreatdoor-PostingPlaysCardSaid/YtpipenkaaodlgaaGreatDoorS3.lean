/- Sets: the calls that make a set out of two, copies, and the calls that change one set in place. -/
import Derived.Test.YtpipenkaaodlgaaGreatDoorS2
set_option linter.unusedVariables false
set_option linter.unusedSimpArgs false
namespace Go.Proofs.YtpipenkaaodlgaaGreatDoor
open Go Go.V Go.B

theorem SetAt.frozen {w : World} {p bw : Nat} {S : SetV} (h : SetAt w p bw S) (i : Nat) : w.frozen? ⟨bw, i, none⟩ = false := h.wrd.frozen i
theorem SetAt.wordAt {w : World} {p bw : Nat} {S : SetV} (h : SetAt w p bw S) {i : Nat} (hi : i < S.ws.length) : w.cell? ⟨bw, i, none⟩ = some (.int .u64 ((S.w i : Nat) : Int)) := h.wrd.cell (wcells_get hi)
theorem stage_len (N k : Nat) (F : Nat → Nat) : (stage N k F).ws.length = (N + 63) / 64 := by simp [stage, ofWords]
theorem stage_N (N k : Nat) (F : Nat → Nat) : (stage N k F).N = N := rfl

theorem SetAt.upd_stage {w : World} {p bw N n : Nat} {F : Nat → Nat} (h : SetAt w p bw (stage N n F)) (hk : n < (N + 63) / 64) {x : Nat} (hx : x = F n) (hok : (ofWords N F).Ok) :
    SetAt (w.setCell ⟨bw, n, none⟩ (.int .u64 (x : Int))) p bw (stage N (n + 1) F) := by
  subst hx
  have := h.upd n (F n) (by rw [stage_upd F hk]; exact stage_ok hok)
  rwa [stage_upd F hk] at this
/-! ### joined -/
/-- What a function literal of two words does. -/
structure Word2 (f : FuncId) (g : Nat → Nat → Nat) (b : Bool → Bool → Bool) : Prop where
  has : hasB Tryz.prog f = true
  calls : ∀ (x y : Nat), x < 18446744073709551616 → y < 18446744073709551616 → ∀ (w : World) (R : Ending → World → Prop), R (.returned (.int .u64 ((g x y : Nat) : Int))) w → Calls Tryz.prog f #[.int .u64 (x : Int), .int .u64 (y : Int)] w R
  lt : ∀ (x y : Nat), x < 18446744073709551616 → y < 18446744073709551616 → g x y < 18446744073709551616
  bit : ∀ (x y j : Nat), x < 18446744073709551616 → y < 18446744073709551616 → j < 64 → (g x y).testBit j = b (x.testBit j) (y.testBit j)
  ff : b false false = false
def joinV (g : Nat → Nat → Nat) (A B : SetV) : SetV := ofWords (max A.N B.N) fun k => g (A.w k) (B.w k)
theorem mem_past {S : SetV} (h : S.Ok) {i : Nat} (hi : (S.N + 63) / 64 ≤ i / 64) : S.mem i = false := h.tail i (by omega)
theorem joinV_mem {f : FuncId} {g : Nat → Nat → Nat} {b : Bool → Bool → Bool} (hg : Word2 f g b) {A B : SetV} (ha : A.Ok) (hb : B.Ok) (i : Nat) : (joinV g A B).mem i = b (A.mem i) (B.mem i) := by
  unfold joinV
  rw [ofWords_mem, hg.bit _ _ _ (ha.wlt _) (hb.wlt _) (by omega), ← SetV.mem_w, ← SetV.mem_w]
  by_cases h : i / 64 < (max A.N B.N + 63) / 64
  · simp [h]
  · rw [mem_past ha (by omega), mem_past hb (by omega), hg.ff]; simp
theorem joinV_ok {f : FuncId} {g : Nat → Nat → Nat} {b : Bool → Bool → Bool} (hg : Word2 f g b) {A B : SetV} (ha : A.Ok) (hb : B.Ok) : (joinV g A B).Ok := by
  refine ofWords_ok (by have := ha.N; have := hb.N; omega) (fun k => hg.lt _ _ (ha.wlt k) (hb.wlt k)) (fun i hi => ?_)
  rw [hg.bit _ _ _ (ha.wlt _) (hb.wlt _) (by omega), ← SetV.mem_w, ← SetV.mem_w, ha.tail i (by omega), hb.tail i (by omega), hg.ff]
set_option maxRecDepth 4000 in
section
variable {w : World} {qa qb : Option Addr} {A B : SetV} {fa fb : List Nat} (ha : RefAt w qa A fa) (hb : RefAt w qb B fb) {R : Ending → World → Prop}
include ha hb
end

/-! ### Not, Clone -/
theorem notV_ok {A L : SetV} (ha : A.Ok) (hl : L.Ok) : (ofWords L.N fun k => andNot (L.w k) (A.w k)).Ok :=
  ofWords_ok hl.N (fun k => andNot_lt (hl.wlt k)) (fun i hi => by
    rw [andNot_bit (ha.wlt _) _ (by omega), ← SetV.mem_w, ← SetV.mem_w, hl.tail i hi]; rfl)
theorem notV_mem {A L : SetV} (ha : A.Ok) (hl : L.Ok) (i : Nat) : (ofWords L.N fun k => andNot (L.w k) (A.w k)).mem i = (L.mem i && !A.mem i) := by
  rw [ofWords_mem, andNot_bit (ha.wlt _) _ (by omega), ← SetV.mem_w, ← SetV.mem_w]
  by_cases h : i / 64 < (L.N + 63) / 64
  · simp [h]
  · rw [mem_past hl (by omega)]; simp
theorem copyV {S : SetV} (h : S.Ok) : ofWords S.N S.w = S := by
  obtain ⟨N, ws⟩ := S
  unfold ofWords
  congr 1
  have := h.len
  simp only at this
  apply List.ext_getElem
  · simp [this]
  · intro i h1 h2
    simp [SetV.w, List.getD_eq_getElem?_getD, h2]
theorem Clone_c {w : World} {q : Option Addr} {S : SetV} {f : List Nat} (h : RefAt w q S f) {R : Ending → World → Prop}
    (k : ∀ p bw w', Ext [] w w' → w.heap.size ≤ p → w.heap.size ≤ bw → SetAt w' p bw S → R (.returned (.pointer (some ⟨p, 0, none⟩))) w') :
    Calls Tryz.prog 61 #[.pointer q] w R := by
  apply bitset_Set_Clone_nf
  have o := h.ok
  have nl := o.N
  have ol := o.len
  have okc : (ofWords S.N S.w).Ok := by rw [copyV o]; exact o
  refine Size_c h ⟨_, rfl, blank_c _ nl fun p bw w1 e1 hp hbw hs => ⟨_, rfl, ptr_in ⟨_, _, _, hs.words, ?_⟩⟩⟩
  have hln : (List.replicate ((S.N + 63) / 64) 0).length = (S.N + 63) / 64 := by simp
  simp only [hln]
  rw [← stage_zero S.N S.w] at hs
  refine ⟨fun i w' => ∃ n : Nat, i = n ∧ n ≤ (S.N + 63) / 64 ∧ Ext [] w w' ∧ SetAt w' p bw (stage S.N n S.w), fun i _ => (S.N + 63) / 64 - i.toNat, ⟨0, rfl, by omega, e1, hs⟩, ?_⟩
  rintro _ _ w2 ⟨n, rfl, hn, e2, hs2⟩
  refine sel_dec (fun hlt => ?_) (fun hge => ?_)
  · have hs2d := hs2.drew
    rcases h with ⟨rfl, rfl, rfl⟩ | ⟨p0, bw0, rfl, h0, rfl⟩
    · simp [SetV.nil] at hlt; omega
    have h2 := h0.ext0 e2
    refine ptr_in ⟨_, _, _, hs2.words, ptr_in ⟨_, _, _, h2.words, ?_⟩⟩
    simp only [Int.toNat_natCast, Nat.mul_one, Addr.addAdd]
    refine when_dec ⟨by omega, by omega⟩ (ptr_in ⟨_, h2.word (by omega), ?_⟩)
    rw [stage_len]
    refine when_dec ⟨by omega, by omega⟩ (ptr_in ?_)
    rw [Addr.addAdd, up64 n (by omega)]
    have hlen : n < (stage S.N n S.w).ws.length := by rw [stage_len]; omega
    refine ⟨⟨_, hs2d.wordAt hlen⟩, hs2d.frozen n, ⟨n + 1, rfl, by omega, e2.drew.setCell _ _ (.inr hbw), ?_⟩, down (by omega)⟩
    exact hs2d.upd_stage (by omega) rfl okc
  · rw [stage_full _ (by omega), copyV o] at hs2
    exact k p bw w2 e2 hp hbw hs2
end Go.Proofs.YtpipenkaaodlgaaGreatDoor
