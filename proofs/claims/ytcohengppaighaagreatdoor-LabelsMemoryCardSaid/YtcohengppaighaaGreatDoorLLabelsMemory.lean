/- Whatever step comes in, berthlaw03.LabelsMemory returns true and leaves what came in as it was. -/
import Derived.Test.YtcohengppaighaaGreatDoorLm1
import Derived.Test.YtcohengppaighaaGreatDoorLt3
import Derived.Test.YtcohengppaighaaGreatDoorLl
import Derived.Test.YtcohengppaighaaGreatDoorRows
import Derived.Test.YtcohengppaighaaGreatDoorTie
import Derived.Test.YtcohengppaighaaGreatDoorCards
import Derived.ProofKit
import Derived.LaidMore
import Derived.OpenShut
import Derived.Stop.Joined
import Derived.SevenTiedAt
import Derived.LaidHandle
import Derived.Lay
set_option linter.unusedVariables false
set_option linter.unusedSimpArgs false
namespace Go.Proofs.YtcohengppaighaaGreatDoor
open Go Go.V Go.B
open Go.ChangeShapes Go.WideShapes Go.ChangeAt Go.RowKit

theorem set_next {ov l : List Lab} {a : Nat} {x : Lab} (hx : ov[a]? = some x) (ha : a < l.length) : ((ov.take a ++ l.drop a) ++ spares).set a x = (ov.take (a + 1) ++ l.drop (a + 1)) ++ spares := by
  have h1 : (ov.take a).length = a := by rw [List.length_take, Nat.min_eq_left]; have := (List.getElem?_eq_some_iff.1 hx).1; omega
  rw [snoc_at hx, List.drop_eq_getElem_cons ha, List.append_assoc, List.append_assoc, List.append_assoc, List.set_append_right _ _ (by omega), h1, Nat.sub_self]
  rfl
theorem u8_of {v : Int} (h0 : 0 ≤ v) (h1 : v < 256) : ∃ c : UInt8, v = (c.toNat : Int) := ⟨UInt8.ofNat v.toNat, by
  have : (UInt8.ofNat v.toNat).toNat = v.toNat % 256 := UInt8.toNat_ofNat'
  rw [this]; omega⟩
theorem one_text {w w78 : World} {v : Int} (h0 : 0 ≤ v) (h1 : v < 256) (h : w78 = w.alloc (.cells #[.int .u8 v] 5)) : ∃ s : ByteArray, s.size = 1 ∧ (convert 47 9 (.slice (some ⟨w.heap.size, 0, none⟩) 1 1)).run Tryz.prog w78 = .ok (.string s) w78 := by
  obtain ⟨c, rfl⟩ := u8_of h0 h1
  obtain ⟨b, x, z⟩ := box_new (cs := [.int .u8 (c.toNat : Int)]) h
  have own : LstL BY w78 w.heap.size 5 (some ⟨w.heap.size, 0, none⟩) 1 1 [c] := ⟨rfl, Nat.le_refl _, by decide, .inr ⟨_, _, rfl, Nat.le_refl _, b, by simp [BY], by simp [BY, Lay.flat]⟩⟩
  exact ⟨unb [c], rfl, to_text own (by omega)⟩
theorem letter_val (vn : Nat) : IntKind.wrap .u8 ((IntKind.wrap .i64 (97 + (Int.tmod ((vn : Nat) : Int) 26)))) = 97 + ((vn % 26 : Nat) : Int) := by
  have hm : Int.tmod ((vn : Nat) : Int) 26 = ((vn % 26 : Nat) : Int) := by rw [Int.tmod_eq_emod_of_nonneg (by omega)]; omega
  have hmb : vn % 26 < 26 := Nat.mod_lt _ (by omega)
  rw [hm, w64 (by omega) (by omega), IntKind.wrap_u8]; omega
set_option maxHeartbeats 4000000 in
set_option maxRecDepth 8000 in
theorem apart_c {w : World} {R : Ending → World → Prop} (kind : Int) {o : LOp} (h : o.In w) (k : ∀ w', Ext [] w w' → R (.returned (.bool true)) w') : Calls Tryz.prog 9 #[.int .i64 kind, .agg ⟨o.cells⟩] w R := by
  obtain ⟨okind, A, n, c, l, B, m, c2, l2, D, q, c3, ds, text, key, value, num⟩ := o
  have hl : LIn w A n l := h.l
  have hl2 : LIn w B m l2 := h.l2
  have hbig := hl.big
  have hbig2 := hl2.big
  have hll := hl.len
  show Calls _ _ #[.int .i64 kind, .agg #[.int .i64 okind, .slice A n c, .slice B m c2, .slice D q c3, .string text, .string key, .string value, .int .i64 num]] w R
  generalize hO : (LOp.mk okind A n c l B m c2 l2 D q c3 ds text key value num) = O at h
  have hcells : O.cells = [.int .i64 okind, .slice A n c, .slice B m c2, .slice D q c3, .string text, .string key, .string value, .int .i64 num] := by rw [← hO]; rfl
  have lenS : ∀ {l' : List Lab} {n' : Nat}, l'.length = n → (ansS kind l' O).length = n' → n' * 32 ≤ 140737488351232 := fun {l' n'} h1 h2 => by
    rcases @ans_len kind l' O with h3 | h3 <;> omega
  apply berthlaw03_apart_nf
  intro w10 h10
  obtain ⟨b10, x10, z10⟩ := box_new (cs := [.int .i64 okind, .slice A n c, .slice B m c2, .slice D q c3, .string text, .string key, .string value, .int .i64 num]) h10
  refine ⟨_, _, _, cadd b10 rfl, roomy_c (hl.ext0 x10) fun w15 A12 c12 e15 o15 => ⟨_, _, _, _, _, _, rfl, ?_⟩⟩
  have x15 := x10.trans e15
  have b15 := b10.ext e15 (by simp)
  have i15 : LIn w15 A12 n l := ⟨Cells.pre o15.cells hll, hll, hl.sz, hbig⟩
  have hcap := o15.cap
  have s10 := x10.size
  have s15 := e15.size
  have f15 : ∀ g ∈ ownF A12, w10.heap.size ≤ g ∧ g < w15.heap.size := o15.fresh
  refine ⟨_, _, _, _, _, _, _, _, _, _, _, _, _, _, cadd0 b15, ?_⟩
  have ask : ∀ {W : World} {l' : List Lab} {R' : Ending → World → Prop}, LIn W A12 n l' → Ext [] w W → (∀ w' A' n', Ext [] W w' → LOwn w' W.heap.size A' n' n' (ansS kind l' O) → R' (.returned (.slice A' n' n')) w') →
      Calls Tryz.prog 15 #[.int .i64 kind, .slice A12 n c12, .agg #[.int .i64 okind, .slice A n c, .slice B m c2, .slice D q c3, .string text, .string key, .string value, .int .i64 num]] W R' := fun {W l' R'} hi hx kk => by
    have := asked_c (c := c12) kind hi (h.ext0 hx) kk
    rw [hcells] at this
    exact this
  have want : ∀ {W : World} {l' : List Lab} {A' : Option Addr} {c' : Nat} {R' : Ending → World → Prop}, LIn W A' n l' → Ext [] w W → (∀ w' A' n' c', Ext [] W w' → LOwn w' W.heap.size A' n' c' (ansS kind l' O) → R' (.returned (.slice A' n' c')) w') →
      Calls Tryz.prog 16 #[.int .i64 kind, .slice A' n c', .agg #[.int .i64 okind, .slice A n c, .slice B m c2, .slice D q c3, .string text, .string key, .string value, .int .i64 num]] W R' := fun {W l' A' c' R'} hi hx kk => by
    have := wanted_c (c := c') kind hi (h.ext0 hx) kk
    rw [hcells] at this
    exact this
  refine ask i15 x15 fun w26 A24 na e26 o26 => ⟨_, _, _, rfl, ?_⟩
  have x26 := x15.trans e26
  have b26 := b15.ext e26 (by simp)
  have s26 := e26.size
  refine ⟨_, _, _, _, _, _, _, _, _, _, _, _, _, _, cadd0 b26, ask (i15.ext0 e26) x26 fun w37 A35 nb e37 o37 => ⟨_, _, _, rfl, ?_⟩⟩
  have x37 := x26.trans e37
  have b37 := b26.ext e37 (by simp)
  have s37 := e37.size
  refine ⟨_, _, _, cadd b37 rfl, _, _, _, _, _, _, _, _, _, _, _, _, _, _, cadd0 b37, want (hl.ext0 x37) x37 fun w49 A47 nw cw e49 o49 => ⟨_, _, _, rfl, ?_⟩⟩
  have x49 := x37.trans e49
  have b49 := b37.ext e49 (by simp)
  have s49 := e49.size
  have e15_49 := (e26.trans e37).trans e49
  refine ⟨_, _, _, cadd b49 rfl, untouched_c (o15.ext0 e15_49).cells hcap (hl.ext0 x49) fun w53 e53 => ⟨_, rfl, sel_false rfl ?_⟩⟩
  refine same_c (o26.ext0 ((e37.trans e49).trans e53)).cells o26.len (o49.ext0 e53).cells o49.len (lenS hll o26.len) fun w56 e56 => ⟨_, rfl, sel_false (by rw [decide_eq_true rfl]; rfl) ?_⟩
  have e49_56 := e53.trans e56
  refine same_c (o37.ext0 (e49.trans e49_56)).cells o37.len (o49.ext0 e49_56).cells o49.len (lenS hll o37.len) fun w59 e59 => ⟨_, rfl, sel_false (by rw [decide_eq_true rfl]; rfl) ?_⟩
  have e49_59 := e49_56.trans e59
  have s59 := e49_59.size
  have o26' := o26.ext0 ((e37.trans e49).trans e49_59)
  have o37' := o37.ext0 (e49.trans e49_59)
  have o49' := o49.ext0 e49_59
  have o15' := o15.ext0 (e15_49.trans e49_59)
  have x59 := x49.trans e49_59
  have b59 := b49.ext e49_59 (by simp)
  have f24 : ∀ g ∈ ownF A24, w15.heap.size ≤ g ∧ g < w26.heap.size := o26.fresh
  have f35 : ∀ g ∈ ownF A35, w26.heap.size ≤ g ∧ g < w37.heap.size := o37.fresh
  have f47 : ∀ g ∈ ownF A47, w37.heap.size ≤ g ∧ g < w49.heap.size := o49.fresh
  refine spoil_c o26' (by omega) _ (lenS hll o26.len) fun w61 x61 => ⟨rfl, ?_⟩
  have na24 : ∀ {g : Nat}, g < w15.heap.size ∨ w26.heap.size ≤ g → g ∉ ownF A24 := fun hg hm => by have := f24 _ hm; omega
  have p37 := o37'.ext x61 fun g hg => na24 (.inr (f35 g hg).1)
  have p49 := o49'.ext x61 fun g hg => na24 (.inr (by have := (f47 g hg).1; omega))
  have p15 := o15'.ext x61 fun g hg => na24 (.inl (f15 g hg).2)
  have b61 := b59.ext x61 (na24 (.inl (by omega)))
  have x61' : Ext [] w w61 := x59.trans' x61 fun g hg => .inr (by have := f24 g hg; omega)
  have s61 := x61.size
  clear o26 o26' o37 o37' o49 o49' o15 o15' b10 b15 b26 b37 b49 b59
  refine same_c p37.cells p37.len p49.cells p49.len (lenS hll p37.len) fun w64 e64 => ⟨_, rfl, sel_false (by rw [decide_eq_true rfl]; rfl) ?_⟩
  refine ⟨_, _, _, cadd (b61.ext e64 (by simp)) rfl, untouched_c (p15.ext0 e64).cells hcap (hl.ext0 (x61'.trans e64)) fun w68 e68 => ⟨_, rfl, sel_false rfl ?_⟩⟩
  have e61_68 := e64.trans e68
  have x68 := x61'.trans e61_68
  have s68 := e61_68.size
  refine ⟨_, _, _, cadd (b61.ext e61_68 (by simp)) rfl, copied_c (hl2.ext0 x68).c hl2.len hbig2 fun w72 A70 c70 e72 o72 => ⟨_, _, _, rfl, ?_⟩⟩
  refine ⟨fun V vn vc w' => ∃ vl, Ext [] w68 w' ∧ LOwn w' w68.heap.size V vn vc vl ∧ Szs vl ∧ (vn ≤ n ∨ vn ≤ m), fun _ vn _ _ => n - vn, ⟨l2, e72, o72, hl2.sz, .inr (Nat.le_refl _)⟩, ?_⟩
  rintro V vn vc _ w77 ⟨vl, e77, ov, hsz, hvn⟩
  refine sel_dec (fun hlt w78 h78 => ?_) (fun hge => ?_)
  · have hmb : vn % 26 < 26 := Nat.mod_lt _ (by omega)
    rw [letter_val vn] at h78
    obtain ⟨s79, hs79, hconv⟩ := one_text (by omega) (by omega) h78
    obtain ⟨b78, x78, z78⟩ := box_new h78
    have h122 : ByteArray.size ⟨#[122]⟩ = 1 := rfl
    refine ⟨s79, w78, hconv, when_dec (by omega) fun w81 h81 => ?_⟩
    obtain ⟨A82, c82, w83, hr, ho, he, _⟩ := more_lab (e77.trans x78) (ov.ext0 x78) h81 (by omega)
    refine ⟨_, _, _, _, hr, ⟨_, he, ho, fun x hx => ?_, by omega⟩, by show n - (vn + 1) < n - vn; omega⟩
    rcases List.mem_append.1 hx with hx | hx
    · exact hsz x hx
    · rw [List.mem_singleton] at hx
      subst hx
      have h2 : ByteArray.size (⟨#[122]⟩ ++ s79) = 2 := by rw [ByteArray.size_append, h122, hs79]
      have h3 : ByteArray.size ⟨#[49]⟩ = 1 := rfl
      exact ⟨by show ByteArray.size (⟨#[122]⟩ ++ s79) ≤ _; omega, by show ByteArray.size ⟨#[49]⟩ ≤ _; omega⟩
  have hovl := ov.len
  have hovc := ov.cap
  rw [addr0, Nat.sub_zero, Nat.sub_zero]
  have e61_77 := e61_68.trans e77
  have x77 := x61'.trans e61_77
  have s77 := e77.size
  have fV : ∀ g ∈ ownF V, w68.heap.size ≤ g ∧ g < w77.heap.size := ov.fresh
  obtain ⟨ol, hol⟩ : ∃ ol, ol = vl.take n := ⟨_, rfl⟩
  have holl : ol.length = n := by rw [hol, List.length_take]; omega
  have iov : LIn w77 V n ol := ⟨by rw [hol, ← LbL.flat_take]; exact ov.cells.take _, holl, fun x hx => hsz x (by rw [hol] at hx; exact List.mem_of_mem_take hx), hbig⟩
  have i77 : LIn w77 A12 n l := ⟨Cells.pre (p15.ext0 e61_77).cells hll, hll, hl.sz, hbig⟩
  refine when_dec ⟨by omega, by omega⟩ ⟨_, _, _, _, _, _, _, _, _, _, _, _, _, _, cadd0 (b61.ext e61_77 (by simp)), ask i77 x77 fun w94 A92 nc e94 o94 => ⟨_, _, _, rfl, ?_⟩⟩
  have e61_94 := e61_77.trans e94
  have x94 := x77.trans e94
  have s94 := e94.size
  refine ⟨fun t w' => ∃ a : Nat, t = a ∧ a ≤ n ∧ Ext (ownF A12) w94 w' ∧ LOwn w' w10.heap.size A12 (n + 80) c12 ((ol.take a ++ l.drop a) ++ spares), fun t _ => n - t.toNat, ⟨0, rfl, by omega, Ext.refl _ _, by simpa using p15.ext0 e61_94⟩, ?_⟩
  rintro _ _ w99 ⟨a, rfl, ha, e99, oA⟩
  have na12 : ∀ {g : Nat}, w15.heap.size ≤ g → g ∉ ownF A12 := fun hg hm => by have := f15 _ hm; omega
  have cV := (iov.c.ext0 e94).ext e99 fun g hg => na12 (by have := (fV g hg).1; omega)
  refine sel_dec (fun hlt => ?_) (fun hge2 => ?_)
  · obtain ⟨x, hx⟩ : ∃ x, ol[a]? = some x := ⟨_, List.getElem?_eq_getElem (by omega)⟩
    obtain ⟨ad, hV, rd⟩ := lab_cells cV hx
    obtain ⟨g, w104, hA12, hr, oA2, x104⟩ := oA.set (P := Tryz.prog) (t := 40) (i := a) x (by omega) iL
    rw [set_next hx (by omega)] at oA2
    subst hV
    subst hA12
    refine when_dec ⟨by omega, by omega⟩ ⟨_, _, (rd w99 (Ext.refl _ _)).2.2, when_dec ⟨by omega, by omega⟩ ⟨w104, by rw [Int.toNat_natCast]; exact hr, ?_⟩⟩
    rw [up64 a (by omega)]
    exact ⟨⟨a + 1, rfl, by omega, e99.trans x104, oA2⟩, by simp only [Int.toNat_natCast]; omega⟩
  have han : a = n := by omega
  subst han
  rw [List.take_of_length_le (by omega), List.drop_eq_nil_of_le (by omega), List.append_nil] at oA
  have s99 := e99.size
  have q37 := (p37.ext0 e61_94).ext e99 fun g hg => na12 (by have := (f35 g hg).1; omega)
  have q49 := (p49.ext0 e61_94).ext e99 fun g hg => na12 (by have := (f47 g hg).1; omega)
  have q94 := o94.ext e99 fun g hg => na12 (by have := (o94.fresh g hg).1; omega)
  have b99 := (b61.ext e61_94 (by simp)).ext e99 (fun hm => by have := f15 _ hm; omega)
  have x99 : Ext [] w w99 := x94.trans' e99 fun g hg => .inr (by have := f15 g hg; omega)
  refine same_c q37.cells q37.len q49.cells q49.len (lenS hll q37.len) fun w107 e107 => ⟨_, rfl, sel_false (by rw [decide_eq_true rfl]; rfl) ?_⟩
  refine same_c (q94.ext0 e107).cells q94.len (q49.ext0 e107).cells q49.len (lenS hll q94.len) fun w110 e110 => ⟨_, rfl, sel_false (by rw [decide_eq_true rfl]; rfl) ?_⟩
  have e99_110 := e107.trans e110
  have oA' := oA.ext0 e99_110
  have i110 : LIn w110 A12 a ol := ⟨Cells.pre oA'.cells holl, holl, iov.sz, hbig⟩
  have x110 := x99.trans e99_110
  have b110 := b99.ext e99_110 (by simp)
  refine ⟨_, _, _, _, _, _, _, _, _, _, _, _, _, _, cadd0 b110, ask i110 x110 fun w121 A119 nd e121 o121 => ⟨_, _, _, rfl, ?_⟩⟩
  have x121 := x110.trans e121
  have iov121 : LIn w121 V a ol := ⟨cV.ext0 (e99_110.trans e121), holl, iov.sz, hbig⟩
  refine ⟨_, _, _, _, _, _, _, _, _, _, _, _, _, _, cadd0 (b110.ext e121 (by simp)), want iov121 x121 fun w132 A130 ne ce e132 o132 => ⟨_, _, _, rfl, ?_⟩⟩
  refine same_c (o121.ext0 e132).cells o121.len o132.cells o132.len (lenS holl o121.len) fun w135 e135 => ⟨_, rfl, sel_true (decide_eq_true rfl) ?_⟩
  have e121_135 := e132.trans e135
  refine untouched_c (oA'.ext0 (e121.trans e121_135)).cells hcap (iov121.ext0 e121_135) fun w138 e138 => ⟨_, rfl, k _ ((x121.trans e121_135).trans e138)⟩
theorem labelsMemory_c {w : World} {o : LOp} (h : o.In w) {R : Ending → World → Prop} (k : ∀ w', Ext [] w w' → R (.returned (.bool true)) w') : Calls Tryz.prog 3 #[.agg ⟨o.cells⟩] w R := by
  obtain ⟨okind, A, n, c, l, B, m, c2, l2, D, q, c3, ds, text, key, value, num⟩ := o
  show Calls _ _ #[.agg #[.int .i64 okind, .slice A n c, .slice B m c2, .slice D q c3, .string text, .string key, .string value, .int .i64 num]] w R
  apply berthlaw03_LabelsMemory_nf
  intro w9 h9
  obtain ⟨b9, x9, z9⟩ := box_new (cs := LOp.cells ⟨okind, A, n, c, l, B, m, c2, l2, D, q, c3, ds, text, key, value, num⟩) h9
  refine wakes_c fun w12 e12 => ⟨_, rfl, sel_false rfl ⟨_, _, _, _, _, _, _, _, _, _, _, _, _, _, cadd0 (b9.ext e12 (by simp)), apart_c 7 (h.ext0 (x9.trans e12)) fun w23 e23 => ⟨_, rfl, sel_true rfl ?_⟩⟩⟩
  have e1 := e12.trans e23
  refine ⟨_, _, _, _, _, _, _, _, _, _, _, _, _, _, cadd0 (b9.ext e1 (by simp)), apart_c 8 (h.ext0 (x9.trans e1)) fun w34 e34 => ⟨_, rfl, sel_true rfl ?_⟩⟩
  have e2 := e1.trans e34
  refine ⟨_, _, _, _, _, _, _, _, _, _, _, _, _, _, cadd0 (b9.ext e2 (by simp)), apart_c 11 (h.ext0 (x9.trans e2)) fun w45 e45 => ⟨_, rfl, sel_true rfl ?_⟩⟩
  have e3 := e2.trans e45
  refine ⟨_, _, _, _, _, _, _, _, _, _, _, _, _, _, cadd0 (b9.ext e3 (by simp)), apart_c 12 (h.ext0 (x9.trans e3)) fun w56 e56 => ⟨_, rfl, sel_true rfl ?_⟩⟩
  have e4 := e3.trans e56
  exact ⟨_, _, _, _, _, _, _, _, _, _, _, _, _, _, cadd0 (b9.ext e4 (by simp)), apart_c 14 (h.ext0 (x9.trans e4)) fun w67 e67 => ⟨_, rfl, k _ ((x9.trans e4).trans e67)⟩⟩
/-! ### the library's tables, and the tied card -/
set_option maxRecDepth 100000 in
theorem door_met (os : Os) (args : Array Value) : laidMetH Tryz.prog Rows.labelsMemoryRow.laid ((World.laidAll Tryz.prog os Rows.labelsMemoryRow.laid).forCall (fun _ _ => 0) ⟨#[], args, []⟩).memory := by
  rw [MakeChecks.laidMetH_plain _ _ _ (by kernel_rfl)]
  exact laidMet_laidAll _ (by kernel_rfl) (by kernel_rfl)
set_option maxRecDepth 8000 in
theorem labelsMemory_lifted (os : Os) (started : os.Started) (H : Type) (enc : TypeId × Value → H) (F : Stop.Interp) :
    ReturnsInHanded {} Tryz.checked os 3 .any ((OpenSpec.ofChange Rows.labelsMemorySpec).preRow enc Tryz.prog Tryz.f3 Rows.labelsMemoryRow.domain false Rows.labelsMemoryRow.laid) (((OpenSpec.ofChange Rows.labelsMemorySpec).at F).post enc Tryz.prog Tryz.f3 false true false false) :=
  lift1L (C := Tryz.checked) (T := 25) (tb := 4) own (by kernel_rfl) Tryz.func3 (by kernel_rfl) (by kernel_rfl) Tryz.underlying4 rfl (fun _ _ => rfl) laidOut (by kernel_rfl) (of_decide_eq_true (by kernel_rfl)) os started H enc F
    (fun W base v0 d0 p0 hok0 ht0 hw0 hL => by
      obtain ⟨o0, rfl, h0⟩ := open_op hok0 ht0 hw0
      exact labelsMemory_c h0 fun w' e => ⟨rfl, e.below⟩)
    (ChangeSpec.witness_shaped (enc := enc) (C := Tryz.checked) (os := os) (X := fun w _ => laidMetH Tryz.prog Rows.labelsMemoryRow.laid w) false (World.laidAll Tryz.prog os Rows.labelsMemoryRow.laid) #[.agg #[.int .i64 0, .slice none 0 0, .slice none 0 0, .slice none 0 0, .string ByteArray.empty, .string ByteArray.empty, .string ByteArray.empty, .int .i64 0]] 8 (World.laidAll_os _ _ _) (World.shaped_of_ZipB (by kernel_rfl) (by kernel_rfl)) (by kernel_rfl) (by kernel_rfl) (by kernel_rfl) (door_met os _))
theorem labelsMemory_holds : Rows.LabelsMemorySaid :=
  OpenClaim.holds_of_cond 3 Tryz.f3 rfl rfl rfl rfl rfl rfl rfl ⟨rfl, rfl, rfl, rfl, rfl⟩ rfl rfl rfl rfl rfl (by kernel_rfl) Tryz.func3 (by kernel_rfl)
    (of_decide_eq_true (by kernel_rfl)) (by unfold Func.isWrapper; first | (rw [if_pos (by decide +kernel)]; kernel_rfl) | (rw [if_neg (by decide +kernel)]; exact ⟨rfl, rfl⟩))
    (fun os started H enc _ F0 => by rw [OpenClaim.pre_eq_preRow]; exact labelsMemory_lifted os started H enc F0)
theorem labelsMemory_card_holds : Rows.LabelsMemoryCardSaid :=
  Claim7.holds_tied_plain_at .later [] [.data, .pinned] true (true, Rows.labelsMemoryCard.stood.harness.2) false
    labelsMemory_holds (fun _ h => by cases h) (by kernel_rfl) (fun _ h => by cases h) labelsMemory_row_tie rfl ⟨rfl, rfl⟩ (by kernel_rfl) rfl
    (fun f fn hf hfn => by
      obtain rfl : f = 3 := Option.some.inj ((show Tryz.prog.funcNamed "berth/berthlaw03.LabelsMemory" = some 3 by kernel_rfl).symm.trans hf) |>.symm
      obtain rfl : fn = Tryz.f3 := (Option.some.inj (Tryz.func3.symm.trans hfn)).symm
      exact ⟨by kernel_rfl, fun j t ht => by
        rw [Tryz.params3] at ht
        have hm : t ∈ [25] := by simpa using Array.mem_of_getElem? ht
        have hall : ([25].all fun u => !Tryz.prog.wantsStandIn u) = true := by kernel_rfl
        exact (show Tryz.prog.wantsStandIn t = false by simpa using List.all_eq_true.1 hall t hm)⟩)
    (by kernel_rfl)
end Go.Proofs.YtcohengppaighaaGreatDoor
