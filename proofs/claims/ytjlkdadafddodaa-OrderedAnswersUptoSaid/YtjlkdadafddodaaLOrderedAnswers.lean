/- Whatever script of bulk at most 1048576 comes in, berthlaw08.OrderedAnswers returns true and leaves what came in as it was. -/
import Derived.Test.YtjlkdadafddodaaE9
import Derived.Test.YtjlkdadafddodaaOgV
import Derived.Test.YtjlkdadafddodaaRows
set_option linter.unusedVariables false
set_option linter.unusedSimpArgs false
namespace Go.Proofs.Ytjlkdadafddodaa
open Go Go.V Go.B
open Go.ChangeShapes Go.WideShapes Go.ChangeAt Go.RowKit

set_option maxRecDepth 8000 in
set_option maxHeartbeats 4000000 in
theorem orderedAnswers_c {W : World} {A : Option Addr} {n c : Nat} {ops : List Op} (ho : OpsAt W A n ops) (hn : n ≤ 1048576) (hol : ∀ o ∈ ops, o.l ≤ 1048576) {R : Ending → World → Prop} (k : ∀ w', Ext [] W w' → R (.returned (.bool true)) w') :
    Calls Try.prog 7 #[.slice A n c] W R := by
  apply berthlaw08_OrderedAnswers_nf
  refine fixed_c fun w4 e4 => ⟨_, rfl, sel_false rfl ?_⟩
  refine Begin_c fun g es0 w8 e8 W8 _ => ⟨_, _, rfl, sel_false rfl ?_⟩
  have ho4 := ho.ext0 e4
  refine ⟨fun t w' => ∃ (a : Nat) (es : Nat → En), t = a ∧ a ≤ n ∧ Ext [] w4 w' ∧ WAt w' w4.heap.size g a es, fun t _ => n - t.toNat, ⟨0, es0, rfl, by omega, e8, W8⟩, ?_⟩
  rintro _ _ w13 ⟨a, es, rfl, ha, E13, W13⟩
  refine sel_dec (fun hlt => ?_) (fun hge => ?_)
  · have hlt : a < n := by omega
    obtain ⟨o, ad, hoa, hA, rd⟩ := (ho4.ext0 E13).read hlt
    have hom := List.mem_of_getElem? hoa
    have hin := (ho4.ext0 E13).in_ o hom
    refine when_dec ⟨by omega, by omega⟩ ?_
    rw [hA]
    refine ptr_in ⟨_, _, _, _, _, _, _, _, _, _, rd, fun w23 h23 => ?_⟩
    obtain ⟨w24, hr24, b24, x24⟩ := op_box (o := o) h23
    refine ⟨w24, hr24, _, _, _, _, _, _, _, _, _, _, cadd0 b24, Step_c (E13.trans x24) (W13.ext0 x24) (by omega) (hin.ext0 x24) (hol o hom) fun es' w35 E35 W35 => ⟨_, rfl, sel_false rfl ?_⟩⟩
    rw [up64 a (by omega)]
    exact ⟨⟨a + 1, es', rfl, by omega, E35, W35⟩, by simp only [Int.toNat_natCast]; omega⟩
  refine ⟨fun t w' => ∃ i : Nat, t = i ∧ i ≤ 4 ∧ Ext [] w13 w', fun t _ => 4 - t.toNat, ⟨0, rfl, by omega, Ext.refl _ _⟩, ?_⟩
  rintro _ _ w40 ⟨i, rfl, hi, e40⟩
  refine sel_dec (fun hlt => ?_) (fun hge => k w40 (e4.trans (E13.trans e40)))
  have hlt : i < 4 := by omega
  refine seen_c (W13.ext0 e40) (by omega) hlt fun w43 e43 => ⟨_, rfl, sel_false rfl ?_⟩
  rw [up64 i (by omega)]
  exact ⟨⟨i + 1, rfl, by omega, e40.trans e43⟩, by simp only [Int.toNat_natCast]; omega⟩
section
theorem bulk_pos {H : Type} (d : DataW H) : 1 ≤ Rows.uptoBulk d := by
  unfold Rows.uptoBulk
  split <;> omega
theorem bulk_all {H : Type} : ∀ (ds : List (DataW H)), ds.length ≤ Rows.uptoBulkAll ds
  | [] => by simp
  | d :: r => by
    unfold Rows.uptoBulkAll
    have := bulk_pos d
    have := bulk_all r
    simp only [List.length_cons]; omega
theorem bulk_len {H : Type} (d : DataW H) : Go.Joins.sliceLen d ≤ Rows.uptoBulk d := by
  cases d with
  | slice el sp =>
    have := bulk_all el
    show el.length ≤ Rows.uptoBulk (.slice el sp)
    unfold Rows.uptoBulk
    omega
  | _ => exact Nat.zero_le _
theorem bulk_mem {H : Type} : ∀ {ds : List (DataW H)} {d : DataW H}, d ∈ ds → Rows.uptoBulk d ≤ Rows.uptoBulkAll ds
  | x :: r, d, h => by
    unfold Rows.uptoBulkAll
    rcases List.mem_cons.1 h with rfl | h
    · omega
    · have := bulk_mem h
      omega
theorem bulk_part {H : Type} {x d : DataW H} {ps : List (DataW H)} (e : x = .agg ps) (h : d ∈ ps) : Rows.uptoBulk d ≤ Rows.uptoBulk x := by
  subst e
  have := bulk_mem h
  show _ ≤ Rows.uptoBulk (.agg ps)
  rw [Rows.uptoBulk]
  omega
theorem bulk_elem {H : Type} {x d : DataW H} {els sp : List (DataW H)} (e : x = .slice els sp) (h : d ∈ els) : Rows.uptoBulk d ≤ Rows.uptoBulk x := by
  subst e
  have := bulk_mem h
  show _ ≤ Rows.uptoBulk (.slice els sp)
  rw [Rows.uptoBulk]
  omega
set_option maxRecDepth 8000 in
theorem open_op1B {H : Type} {enc : TypeId × Value → H} {w : World} {n : Nat} {cs : List Value} {z : DataW H × List MemPlace} (h : DataW.trod enc Try.prog w 0 (fun _ => true) true n 50 cs = some z) (hw : ∀ k ∈ z.1.weights Try.prog 50, k ≤ reachBytes) (hb : Rows.uptoBulk z.1 ≤ 1048576) :
    ∃ o : Op, cs = OL.enc o ∧ o.In w ∧ o.l ≤ 1048576 := by
  obtain ⟨o, rfl, hin⟩ := open_op1 h hw
  obtain ⟨m, y, ps, ht, he, hy⟩ := trod_part Try.underlying50 (by kernel_rfl) (by kernel_rfl) h (i := 7) rfl (v := .slice o.A o.l o.c) rfl
  have hl := Go.Joins.sliceLen_Trod Try.underlying37 (d := y.1) (ps := y.2) ⟨m, by simpa [Value.cells] using ht⟩
  have h1 := bulk_len y.1
  have h2 := bulk_part he hy
  exact ⟨o, rfl, hin, by omega⟩
set_option maxRecDepth 8000 in
theorem open_opsB {H : Type} {enc : TypeId × Value → H} {w : World} {base : Nat} {v : Value} {d : DataW H} {p : List MemPlace} (hok : Value.okWide Try.prog w .any base 22 v) (h : DataW.Trod enc Try.prog w 0 (fun _ => true) true 22 v d p)
    (hw : ∀ n ∈ d.weights Try.prog 22, n ≤ reachBytes) (hb : Rows.uptoBulk d ≤ 1048576) : ∃ A n c ops, v = .slice A n c ∧ OpsAt w A n ops ∧ n ≤ 1048576 ∧ ∀ o ∈ ops, o.l ≤ 1048576 := by
  obtain ⟨a, l, c, rfl⟩ := Go.WideShapes.okWide_slice Try.underlying22 hok
  have hsl := Go.Joins.sliceLen_Trod Try.underlying22 h
  have hbl := bulk_len d
  obtain ⟨fuel, hf⟩ := h
  have hf' : DataW.trod enc Try.prog w 0 (fun _ => true) true fuel 22 [.slice a l c] = some (d, p) := hf
  obtain ⟨A, n, c', ops, hv, hc, hlen, hin, hb2⟩ := open_flatM OL (P := Try.prog) (t := 22) (e := 50) (Q := fun o => o.In w ∧ o.l ≤ 1048576) (M := fun d => Rows.uptoBulk d ≤ 1048576) Try.underlying22 (by kernel_rfl) (by decide) (fun _ _ _ h hw hM => open_op1B h hw hM) hf' hw (fun els sp e d' hd' => Nat.le_trans (bulk_elem e hd') hb)
  have eb : Try.prog.bytesOf 50 = 88 := by kernel_rfl
  rw [eb] at hb2
  simp only [Value.slice.injEq] at hv
  obtain ⟨rfl, rfl, rfl⟩ := hv
  exact ⟨a, l, c, ops, rfl, ⟨hc, hlen, fun o ho => (hin o ho).1, hb2⟩, by omega, fun o ho => (hin o ho).2⟩
end
set_option maxRecDepth 100000 in
theorem orderedAnswers_lifted (os : Os) (started : os.Started) (H : Type) (enc : TypeId × Value → H) (F : Stop.Interp) :
    ReturnsInHanded {} Try.checked os 7 .any ((Rows.OpenSpec.upto Rows.orderedAnswersSpec).preRow enc Try.prog Try.f7 Rows.orderedAnswersUptoRow.domain false []) (((Rows.OpenSpec.upto Rows.orderedAnswersSpec).at F).post enc Try.prog Try.f7 false true false false) :=
  lift1U (C := Try.checked) (T := 22) (tb := 4) (k := Rows.uptoSmall) rfl own (by kernel_rfl) Try.func7 (by kernel_rfl) (by kernel_rfl) Try.underlying4 rfl (fun _ _ _ => rfl) laidOut (by kernel_rfl) (of_decide_eq_true (by kernel_rfl)) os started H enc F
    (fun W base v d p hok h hw hk => by
      have hk' : Rows.uptoBulkAll [d] ≤ 1048576 := of_decide_eq_true hk
      simp only [Rows.uptoBulkAll] at hk'
      obtain ⟨A, n, c, ops, rfl, ho, hn, hol⟩ := open_opsB hok h hw (by omega)
      exact orderedAnswers_c ho hn hol fun w' e => ⟨rfl, e.below⟩)
    (OpenSpec.witness (enc := enc) (C := Try.checked) (s := Rows.OpenSpec.upto Rows.orderedAnswersSpec) (k := Rows.uptoSmall) rfl false ⟨#[], #[.slice none 0 0], []⟩ 8 (by kernel_rfl) (by kernel_rfl) (by kernel_rfl) (x := ([.nil], [], [])) (by kernel_rfl) (by kernel_rfl) (by kernel_rfl))
theorem orderedAnswers_holds : Rows.OrderedAnswersUptoSaid :=
  OpenClaim.holds_of_cond 7 Try.f7 rfl rfl rfl rfl rfl rfl rfl ⟨rfl, rfl, rfl, rfl, rfl⟩ rfl rfl rfl rfl rfl (by kernel_rfl) Try.func7 (by kernel_rfl)
    (of_decide_eq_true (by kernel_rfl)) (by unfold Func.isWrapper; first | (rw [if_pos (by decide +kernel)]; kernel_rfl) | (rw [if_neg (by decide +kernel)]; exact ⟨rfl, rfl⟩))
    (fun os started H enc _ F => by
      rw [OpenClaim.pre_eq_preRow]
      exact orderedAnswers_lifted os started H enc F)
end Go.Proofs.Ytjlkdadafddodaa
