/- Image: an image with any bytes behind it is refused. The arguments are together of bulk at most 1048576. -/
import Derived.Test.YtoaeefjcjdhlkaaGreatI23
import Derived.Test.YtoaeefjcjdhlkaaGreatOgU
set_option linter.unusedVariables false
set_option linter.unusedSimpArgs false
namespace Go.Proofs.YtoaeefjcjdhlkaaGreat
open Go Go.V Go.B
open Go.ChangeShapes Go.WideShapes Go.ChangeAt Go.RowKit Go.Joins Go.Deep
theorem own : ownKnob Tryz.prog.godebug = none := by kernel_rfl
theorem laidOut : laidOutB Tryz.prog = true := by kernel_rfl
section
variable {H : Type} {enc : TypeId × Value → H} {w : World}
set_option maxRecDepth 8000 in
/-- Bytes that came in. -/
theorem open_bytes {base : Nat} {v : Value} {d : DataW H} {p : List MemPlace} (hok : Value.okWide Tryz.prog w .any base 28 v) (h : DataW.Trod enc Tryz.prog w 0 (fun _ => true) true 28 v d p)
    (hw : ∀ n ∈ d.weights Tryz.prog 28, n ≤ reachBytes) : ∃ A n c, ∃ x : List UInt8, v = .slice A n c ∧ Cells w A (BL.flat x) ∧ x.length = n ∧ n ≤ 140737488351232 ∧ n ≤ c := by
  obtain ⟨a, l, c, rfl⟩ := Go.WideShapes.okWide_slice Tryz.underlying28 hok
  obtain ⟨fuel, hf⟩ := h
  have hf' : DataW.trod enc Tryz.prog w 0 (fun _ => true) true fuel 28 [.slice a l c] = some (d, p) := hf
  obtain ⟨A, n, c', xs, hv, hc, hlen, _, hb⟩ := open_flat BL (P := Tryz.prog) (t := 28) (e := 5) (Q := fun _ => True) Tryz.underlying28 (by kernel_rfl) (by decide) (fun _ _ _ h hw => by
    obtain ⟨z, hz, -, hwf⟩ := DataW.trod_int Tryz.underlying5 h
    have hwf : (decide (IntKind.min .u8 ≤ z) && decide (z ≤ IntKind.max .u8)) = true := hwf
    simp only [Bool.and_eq_true, decide_eq_true_eq] at hwf
    have h0 : IntKind.min .u8 = 0 := by decide
    have h1 : IntKind.max .u8 = 255 := by decide
    refine ⟨UInt8.ofNat z.toNat, ?_, trivial⟩
    show _ = [Value.int .u8 (((UInt8.ofNat z.toNat).toNat : Nat) : Int)]
    rw [hz, u8n _ (by omega), Int.toNat_of_nonneg (by omega)]) hf' hw
  have hlc : l ≤ c := by
    rcases DataW.trod_slice Tryz.underlying28 hf' with ⟨hcs, _⟩ | ⟨a', len, cap, _, _, _, _, hcs, _, _, hl, _⟩
    · simp at hcs; omega
    · simp at hcs; omega
  simp only [Value.slice.injEq] at hv
  obtain ⟨rfl, rfl, rfl⟩ := hv
  have h1 : Tryz.prog.bytesOf 5 = 1 := by kernel_rfl
  rw [h1, Nat.mul_one] at hb
  exact ⟨a, l, c, xs, rfl, hc, hlen, hb, hlc⟩
end
theorem bulk_len {H : Type} (d : DataW H) : Go.Joins.sliceLen d ≤ Rows.uptoBulk d := by
  cases d with
  | slice el sp =>
    have := bulk_allW el
    show el.length ≤ Rows.uptoBulk (.slice el sp)
    unfold Rows.uptoBulk
    omega
  | _ => exact Nat.zero_le _
set_option maxRecDepth 8000 in
theorem imageLonger_lifted (os : Os) (started : os.Started) (H : Type) (enc : TypeId × Value → H) (F : Stop.Interp) :
    ReturnsInHanded {} Tryz.checked os 11 .any ((Rows.OpenSpec.upto Rows.imageLongerSpec).preRow enc Tryz.prog Tryz.f11 Rows.imageLongerUptoRow.domain false []) (((Rows.OpenSpec.upto Rows.imageLongerSpec).at F).post enc Tryz.prog Tryz.f11 false true false false) :=
  lift2U (C := Tryz.checked) (T := 26) (U := 28) (tb := 4) (k := Rows.uptoSmall) rfl own (by kernel_rfl) Tryz.func11 (by kernel_rfl) (by kernel_rfl) Tryz.underlying4 rfl (fun _ _ _ _ => rfl) laidOut (by kernel_rfl) (of_decide_eq_true (by kernel_rfl)) (by kernel_rfl) (of_decide_eq_true (by kernel_rfl)) os started H enc F
    (fun W base v v' d d' p p' hok h hw hok' h' hw' hk => by
      have hk' : Rows.uptoBulkAll [d, d'] ≤ 1048576 := of_decide_eq_true hk
      simp only [Rows.uptoBulkAll] at hk'
      obtain ⟨r1, vs1, rfl, ht1, hr1, -, hl1⟩ := open_state hok h (by omega)
      obtain ⟨A, n, c, x, rfl, hx, hl, hn, -⟩ := open_bytes hok' h' hw'
      have hbl := Go.Joins.sliceLen_Trod Tryz.underlying28 h'
      have hbl2 := bulk_len d'
      exact imageLonger_c ht1 hr1 hl1 hx hl (by omega) fun w' e => ⟨rfl, e.below⟩)
    (OpenSpec.witness (enc := enc) (C := Tryz.checked) (s := Rows.OpenSpec.upto Rows.imageLongerSpec) (k := Rows.uptoSmall) rfl false ⟨#[], #[.agg #[.int .i64 0, .int .i64 0, .slice none 0 0, .slice none 0 0, .slice none 0 0], .slice none 0 0], []⟩ 8 (by kernel_rfl) (by kernel_rfl) (by kernel_rfl) (x := ([.agg [.lit (.int .i64 0), .lit (.int .i64 0), .nil, .nil, .nil], .nil], [], [])) (by kernel_rfl) (by kernel_rfl) (by kernel_rfl))
set_option maxRecDepth 8000 in
theorem imageLonger_holds : Rows.ImageLongerUptoSaid :=
  OpenClaim.holds_of_cond 11 Tryz.f11 rfl rfl rfl rfl rfl rfl rfl ⟨rfl, rfl, rfl, rfl, rfl⟩ rfl rfl rfl rfl rfl (by kernel_rfl) Tryz.func11 (by kernel_rfl)
    (of_decide_eq_true (by kernel_rfl)) (by unfold Func.isWrapper; first | (rw [if_pos (by decide +kernel)]; kernel_rfl) | (rw [if_neg (by decide +kernel)]; exact ⟨rfl, rfl⟩))
    (fun os started H enc _ F => by
      rw [OpenClaim.pre_eq_preRow]
      exact imageLonger_lifted os started H enc F)
end Go.Proofs.YtoaeefjcjdhlkaaGreat
