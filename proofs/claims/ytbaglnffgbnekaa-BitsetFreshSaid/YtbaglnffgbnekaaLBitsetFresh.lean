/- Whatever size and lists of places come in, berthlaw01.BitsetFresh returns true and leaves what came in as it was; no condition. -/
import Derived.Test.YtbaglnffgbnekaaS12
import Derived.Test.YtbaglnffgbnekaaRows
set_option linter.unusedVariables false
set_option linter.unusedSimpArgs false
namespace Go.Proofs.Ytbaglnffgbnekaa
open Go Go.V Go.B
open Go.ChangeShapes Go.WideShapes Go.ChangeAt Go.RowKit

set_option maxRecDepth 4000 in
theorem bitsetFreshW_c {t : Three} {W : World} (ht : t.In W) {R : Ending → World → Prop} (k : ∀ w', Ext [] W w' → R (.returned (.bool true)) w') : Calls Try.prog 8 #[t.val] W R := by
  unfold Three.val Three.cells
  apply berthlaw01_BitsetFresh_nf
  obtain ⟨W0, hW0⟩ : ∃ W0, W0 = W.alloc (.cells ⟨t.cells⟩ 27) := ⟨_, rfl⟩
  have e0 : Ext [] W W0 := by rw [hW0]; exact (Ext.refl _ _).alloc _
  have b0 : Blk W0 W.heap.size t.cells := by rw [hW0]; exact Blk.new _ _ _
  have hdr : ∀ {w' : World} {l : List Ent}, Pool W0 w' l → Blk w' W.heap.size t.cells := fun K => b0.ext K.ext (by simp)
  have tin : ∀ {w' : World} {l : List Ent}, Pool W0 w' l → t.In w' := fun K => (ht.ext0 e0).ext0 K.ext
  have done : ∀ {w' : World} {l : List Ent}, Pool W0 w' l → R (.returned (.bool true)) w' := fun K => k _ (e0.trans K.ext)
  show Calls Try.prog 12 #[] (W.alloc (.cells ⟨t.cells⟩ 27)) _
  rw [← hW0]
  refine awake_c fun w1 e1 => ⟨_, rfl, sel_false rfl ?_⟩
  have K : Pool W0 w1 [] := Pool.empty (e := e1)
  refine ⟨_, Hd.n (hdr K), sized_c _ ⟨_, rfl, ?_⟩⟩
  by_cases hs : 0 ≤ t.n ∧ t.n ≤ 65536
  rotate_left
  · refine sel_true (by simp [hs]) (awake_c fun w2 e2 => ⟨_, rfl, ?_⟩)
    exact done (K.step e2)
  refine sel_false (by simp [hs]) ?_
  obtain ⟨N, hN⟩ : ∃ N : Nat, t.n = N := ⟨t.n.toNat, by omega⟩
  have hN6 : N ≤ 65536 := by omega
  have hdrd : Blk w1.drew W.heap.size t.cells := (hdr K).drew
  refine ⟨fun w' => Blk w' W.heap.size t.cells, hdrd, _, fun _ h => Hd.n h, _, _, _, fun _ h => Hd.a h, _, fun _ h => Hd.n h, _, _, _, fun _ h => Hd.b h, _, fun _ h => Hd.n h, ?_⟩
  rw [hN]
  replace K : Pool W0 w1.drew [] := K.step (Ext.refl _ _).drew
  refine K.of hN6 (tin K).a (by have := ht.al; omega) (k := fun p1 q1 w1 A _ K' n1 m1 => ⟨_, rfl, hdr K', ?_⟩)
  replace K : Pool W0 _ [(p1, q1, A)] := K'
  replace n1 : A.N = N := n1
  replace m1 : ∀ i : Nat, A.mem i = (decide (i < N) && decide ((i : Int) ∈ t.xs)) := m1
  clear K'
  refine K.of hN6 (tin K).b (by have := ht.bl; omega) (k := fun p2 q2 w2 B _ K' n2 m2 => ⟨_, rfl, hdr K', ?_⟩)
  replace K : Pool W0 _ [(p1, q1, A), (p2, q2, B)] := K'
  replace n2 : B.N = N := n2
  replace m2 : ∀ i : Nat, B.mem i = (decide (i < N) && decide ((i : Int) ∈ t.ys)) := m2
  clear K'
  refine K.of hN6 (Ints.nil _ _ _) (by omega) (k := fun p3 q3 w3 C _ K' n3 m3 => ⟨_, rfl, hdr K', ?_⟩)
  replace K : Pool W0 _ [(p1, q1, A), (p2, q2, B), (p3, q3, C)] := K'
  replace n3 : C.N = N := n3
  replace m3 : ∀ i : Nat, C.mem i = (decide (i < N) && decide ((i : Int) ∈ [])) := m3
  clear K'
  refine K.of (n := 0) (by omega) (Ints.nil _ _ _) (by omega) (k := fun p4 q4 w4 D _ K' n4 m4 => ⟨_, rfl, hdr K', ?_⟩)
  replace K : Pool W0 _ [(p1, q1, A), (p2, q2, B), (p3, q3, C), (p4, q4, D)] := K'
  replace n4 : D.N = 0 := n4
  replace m4 : ∀ i : Nat, D.mem i = (decide (i < 0) && decide ((i : Int) ∈ [])) := m4
  clear K'
  have e5 : Ext [] w4 (w4.alloc (.cells #[.pointer (some ⟨p1, 0, none⟩), .pointer (some ⟨p2, 0, none⟩), .pointer (some ⟨p3, 0, none⟩), .pointer (some ⟨p4, 0, none⟩)] 30)) := (Ext.refl _ _).alloc _
  refine all_c [⟨p1, 0, none⟩, ⟨p2, 0, none⟩, ⟨p3, 0, none⟩, ⟨p4, 0, none⟩] (l := 4) (Blk.new _ _ _) rfl (by omega) ⟨_, rfl, sel_false rfl ?_⟩
  replace K := K.step e5
  refine ⟨fun i w' => ∃ m : Nat, i = m ∧ m ≤ 6 ∧ Pool W0 w' [(p1, q1, A), (p2, q2, B), (p3, q3, C), (p4, q4, D)], fun i _ => 6 - i.toNat, ⟨0, rfl, by omega, K⟩, ?_⟩
  clear K e5
  rintro _ _ w6 ⟨m, rfl, hm, K⟩
  refine sel_dec (fun hlt => ?_) (fun hge => done K)
  refine ⟨_, _, _, Hd.d (hdr K), sel_dec (fun hpos => ?_) (fun hneg => ?_)⟩
  · have hmod : Int.tmod (m : Int) ((t.ld : Nat) : Int) = ((m % t.ld : Nat) : Int) := tmod_nat m t.ld
    have hml : m % t.ld < t.ld := Nat.mod_lt _ (by omega)
    refine ⟨_, _, _, Hd.d (hdr K), _, _, _, Hd.d (hdr K), ?_⟩
    rw [hmod]
    refine when_dec (by omega) (when_dec ⟨by omega, by omega⟩ (Ints.at (tin K).d hml fun ad hc => ?_))
    try rw [Int.toNat_natCast, Nat.mul_one]
    refine ⟨_, hc, ?_⟩
    replace K := K.step (Ext.refl _ _).drew
    refine fresh_p K m (some 0) (some 1) (Nat.le_of_ble_eq_true rfl) (Nat.le_of_ble_eq_true rfl) _ rfl rfl fun v0 K => ⟨_, rfl, sel_false rfl ?_⟩
    refine fresh_p K m (some 0) (some 0) (Nat.le_of_ble_eq_true rfl) (Nat.le_of_ble_eq_true rfl) _ rfl rfl fun v1 K => ⟨_, rfl, sel_false rfl ?_⟩
    refine fresh_p K m (some 0) (some 2) (Nat.le_of_ble_eq_true rfl) (Nat.le_of_ble_eq_true rfl) _ rfl rfl fun v2 K => ⟨_, rfl, sel_false rfl ?_⟩
    refine fresh_p K m (some 2) (some 0) (Nat.le_of_ble_eq_true rfl) (Nat.le_of_ble_eq_true rfl) _ rfl rfl fun v3 K => ⟨_, rfl, sel_false rfl ?_⟩
    refine fresh_p K m (some 0) (some 3) (Nat.le_of_ble_eq_true rfl) (Nat.le_of_ble_eq_true rfl) _ rfl rfl fun v4 K => ⟨_, rfl, sel_false rfl ?_⟩
    refine fresh_p K m (some 3) (some 0) (Nat.le_of_ble_eq_true rfl) (Nat.le_of_ble_eq_true rfl) _ rfl rfl fun v5 K => ⟨_, rfl, sel_false rfl ?_⟩
    refine fresh_p K m (some 0) none (Nat.le_of_ble_eq_true rfl) trivial _ rfl rfl fun v6 K => ⟨_, rfl, sel_false rfl ?_⟩
    refine fresh_p K m none (some 1) trivial (Nat.le_of_ble_eq_true rfl) _ rfl rfl fun v7 K => ⟨_, rfl, sel_false rfl ?_⟩
    exact ⟨⟨m + 1, up64 m (by omega), by omega, K⟩, by rw [up64 m (by omega)]; exact down (by omega)⟩
  · refine fresh_p K m (some 0) (some 1) (Nat.le_of_ble_eq_true rfl) (Nat.le_of_ble_eq_true rfl) 0 rfl rfl fun v0 K => ⟨_, rfl, sel_false rfl ?_⟩
    refine fresh_p K m (some 0) (some 0) (Nat.le_of_ble_eq_true rfl) (Nat.le_of_ble_eq_true rfl) 0 rfl rfl fun v1 K => ⟨_, rfl, sel_false rfl ?_⟩
    refine fresh_p K m (some 0) (some 2) (Nat.le_of_ble_eq_true rfl) (Nat.le_of_ble_eq_true rfl) 0 rfl rfl fun v2 K => ⟨_, rfl, sel_false rfl ?_⟩
    refine fresh_p K m (some 2) (some 0) (Nat.le_of_ble_eq_true rfl) (Nat.le_of_ble_eq_true rfl) 0 rfl rfl fun v3 K => ⟨_, rfl, sel_false rfl ?_⟩
    refine fresh_p K m (some 0) (some 3) (Nat.le_of_ble_eq_true rfl) (Nat.le_of_ble_eq_true rfl) 0 rfl rfl fun v4 K => ⟨_, rfl, sel_false rfl ?_⟩
    refine fresh_p K m (some 3) (some 0) (Nat.le_of_ble_eq_true rfl) (Nat.le_of_ble_eq_true rfl) 0 rfl rfl fun v5 K => ⟨_, rfl, sel_false rfl ?_⟩
    refine fresh_p K m (some 0) none (Nat.le_of_ble_eq_true rfl) trivial 0 rfl rfl fun v6 K => ⟨_, rfl, sel_false rfl ?_⟩
    refine fresh_p K m none (some 1) trivial (Nat.le_of_ble_eq_true rfl) 0 rfl rfl fun v7 K => ⟨_, rfl, sel_false rfl ?_⟩
    exact ⟨⟨m + 1, up64 m (by omega), by omega, K⟩, by rw [up64 m (by omega)]; exact down (by omega)⟩
theorem bitsetFresh_lifted (os : Os) (started : os.Started) (H : Type) (enc : TypeId × Value → H) :
    ReturnsInHanded {} Try.checked os 8 .any (Rows.bitsetFreshSpec.pre6 enc Try.prog Try.f8 Rows.bitsetFreshRow.domain false) (Rows.bitsetFreshSpec.post enc Try.prog Try.f8 false true false false) :=
  lift1 (C := Try.checked) (T := 27) (tb := 4) own (by kernel_rfl) Try.func8 (by kernel_rfl) (by kernel_rfl) Try.underlying4 rfl (fun _ _ => rfl) laidOut (by kernel_rfl) (of_decide_eq_true (by kernel_rfl)) os started H enc
    (fun W base v d p hok h hw => by
      obtain ⟨t, rfl, ht⟩ := open_three hok h hw
      exact bitsetFreshW_c ht fun w' e => ⟨rfl, e.below⟩)
    (ChangeSpec.witness6 (enc := enc) (C := Try.checked) false ⟨#[], #[.agg #[.int .i64 0, .slice none 0 0, .slice none 0 0, .slice none 0 0]], []⟩ 8 (by kernel_rfl) (by kernel_rfl) (by kernel_rfl) (by kernel_rfl))
theorem bitsetFresh_holds : Rows.BitsetFreshSaid :=
  OpenClaim.holds_of_wide 8 Try.f8 rfl rfl rfl rfl rfl rfl rfl ⟨rfl, rfl, rfl, rfl, rfl⟩ rfl rfl rfl rfl rfl (by kernel_rfl) Try.func8 (by kernel_rfl)
    (of_decide_eq_true (by kernel_rfl)) (by unfold Func.isWrapper; first | (rw [if_pos (by decide +kernel)]; kernel_rfl) | (rw [if_neg (by decide +kernel)]; exact ⟨rfl, rfl⟩))
    (fun os started H enc _ => bitsetFresh_lifted os started H enc)
end Go.Proofs.Ytbaglnffgbnekaa
