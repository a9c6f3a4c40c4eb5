/- berthlaw01.BitsetWalks: what one turn of its walk over the members does. -/
import Derived.Test.YtbaglnffgbnekaaDoorS23
set_option linter.unusedVariables false
set_option linter.unusedSimpArgs false
namespace Go.Proofs.YtbaglnffgbnekaaDoor
open Go Go.V Go.B

set_option maxRecDepth 4000 in
theorem walk_after {V0 w w1 : World} {p bw : Nat} {S : SetV} {A : Option Addr} (hs : SetAt V0 p bw S) (ht : TzAt V0) (hc : Cells V0 A (ints .i64 S.mi)) {k : Nat} (hk : k < S.count) {af : Int} (haf : SelectV S ((k + 1 : Nat) : Int) af) (e : Ext [] V0 w1)
    {R : Ending → World → Prop} {I : Int → World → Prop} {μ : Int → World → Nat} (fin : ∀ w', Ext [] V0 w' → I (IntKind.wrap .i64 (((k : Nat) : Int) + 1)) w' ∧ μ (IntKind.wrap .i64 (((k : Nat) : Int) + 1)) w' < μ ((k : Nat) : Int) w) :
    ∃ S127 : World → Prop, S127 (World.drew w1) ∧
  V.when (decide ((0 : Int) ≤ ((k : Nat) : Int) ∧ (((k : Nat) : Int) : Int) < ((S.count : Nat) : Int))) (V.ptr A fun a129 =>
  ∃ n130, (∀ w128, S127 w128 → World.cell? w128 (Addr.add a129 ((Int.toNat ((k : Nat) : Int)) * 1)) = some (Value.int .i64 n130)) ∧
  V.when (decide ((0 : Int) ≤ ((k : Nat) : Int) ∧ (((k : Nat) : Int) : Int) < ((S.count : Nat) : Int))) (V.ptr A fun a131 =>
  ∃ n132, (∀ w128, S127 w128 → World.cell? w128 (Addr.add a131 ((Int.toNat ((k : Nat) : Int)) * 1)) = some (Value.int .i64 n132)) ∧
  Calls Tryd.prog 15 #[(Value.pointer (some (⟨p, 0, none⟩ : Addr))), (Value.int .i64 n130)] (World.drew w1) fun e134 w135 =>
  ∃ n133, e134 = Ending.returned (Value.int .i64 n133) ∧
  S127 w135 ∧
  V.sel (n133 != n132)
  (R (Ending.returned (Value.bool false)) w135)
  (V.when (decide ((0 : Int) ≤ ((k : Nat) : Int) ∧ (((k : Nat) : Int) : Int) < ((S.count : Nat) : Int))) (V.ptr A fun a136 =>
  ∃ n137, (∀ w128, S127 w128 → World.cell? w128 (Addr.add a136 ((Int.toNat ((k : Nat) : Int)) * 1)) = some (Value.int .i64 n137)) ∧
  V.when (decide ((0 : Int) ≤ ((k : Nat) : Int) ∧ (((k : Nat) : Int) : Int) < ((S.count : Nat) : Int))) (V.ptr A fun a138 =>
  ∃ n139, (∀ w128, S127 w128 → World.cell? w128 (Addr.add a138 ((Int.toNat ((k : Nat) : Int)) * 1)) = some (Value.int .i64 n139)) ∧
  Calls Tryd.prog 16 #[(Value.pointer (some (⟨p, 0, none⟩ : Addr))), (Value.int .i64 n137)] w135 fun e141 w142 =>
  ∃ n140, e141 = Ending.returned (Value.int .i64 n140) ∧
  S127 w142 ∧
  V.sel (n140 != n139)
  (R (Ending.returned (Value.bool false)) w142)
  (V.when (decide ((0 : Int) ≤ ((k : Nat) : Int) ∧ (((k : Nat) : Int) : Int) < ((S.count : Nat) : Int))) (V.ptr A fun a143 =>
  ∃ n144, (∀ w128, S127 w128 → World.cell? w128 (Addr.add a143 ((Int.toNat ((k : Nat) : Int)) * 1)) = some (Value.int .i64 n144)) ∧
  Calls Tryd.prog 15 #[(Value.pointer (some (⟨p, 0, none⟩ : Addr))), (Value.int .i64 (IntKind.wrap .i64 (n144 + 1)))] w142 fun e146 w147 =>
  ∃ n145, e146 = Ending.returned (Value.int .i64 n145) ∧
  S127 w147 ∧
  V.sel (n145 != af)
  (R (Ending.returned (Value.bool false)) w147)
  (I (IntKind.wrap .i64 (((k : Nat) : Int) + 1)) w147 ∧ μ (IntKind.wrap .i64 (((k : Nat) : Int) + 1)) w147 < μ ((k : Nat) : Int) w)))))))) := by
  have o := hs.ok
  have hN := o.N
  have hmem := (mv_at hk).2.1
  have hlt := o.mem_lt hmem
  refine ⟨fun w' => Ext [] V0 w', e.drew, ?_⟩
  refine members_lk hc hk fun ad hcell => ⟨_, fun _ e => hcell _ e, members_lk hc hk fun ad2 hcell2 => ⟨_, fun _ e => hcell2 _ e, ?_⟩⟩
  refine Next_c (hs.ext0 e.drew).ref (ht.ext0 e.drew) _ fun r hr => ⟨_, rfl, e.drew, sel_false (by simp [next_self hr hmem]) ?_⟩
  refine members_lk hc hk fun ad3 hcell3 => ⟨_, fun _ e => hcell3 _ e, members_lk hc hk fun ad4 hcell4 => ⟨_, fun _ e => hcell4 _ e, ?_⟩⟩
  refine Prev_c (hs.ext0 e.drew).ref _ fun r hr => ⟨_, rfl, e.drew, sel_false (by simp [prev_self hr hmem]) ?_⟩
  refine members_lk hc hk fun ad5 hcell5 => ⟨_, fun _ e => hcell5 _ e, ?_⟩
  rw [w64 (x := (mv S k : Int) + 1) (by omega) (by omega)]
  refine Next_c (hs.ext0 e.drew).ref (ht.ext0 e.drew) _ fun r hr => ⟨_, rfl, e.drew, sel_false ?_ (fin _ e.drew)⟩
  have := select_one o (mv_next o hk hr) haf
  simp [this]
set_option maxRecDepth 4000 in
theorem walk_mid {V0 w : World} {p bw : Nat} {S : SetV} {A : Option Addr} (hs : SetAt V0 p bw S) (ht : TzAt V0) (hc : Cells V0 A (ints .i64 S.mi)) {k : Nat} (hk : k < S.count) (e : Ext [] V0 w)
    {R : Ending → World → Prop} {I : Int → World → Prop} {μ : Int → World → Nat} (fin : ∀ w', Ext [] V0 w' → I (IntKind.wrap .i64 (((k : Nat) : Int) + 1)) w' ∧ μ (IntKind.wrap .i64 (((k : Nat) : Int) + 1)) w' < μ ((k : Nat) : Int) w) :
    V.when (decide ((0 : Int) ≤ ((k : Nat) : Int) ∧ (((k : Nat) : Int) : Int) < ((S.count : Nat) : Int))) (V.ptr A fun a110 =>
  ∃ n111, (∀ w46, Ext [] V0 w46 → World.cell? w46 (Addr.add a110 ((Int.toNat ((k : Nat) : Int)) * 1)) = some (Value.int .i64 n111)) ∧
  Calls Tryd.prog 14 #[(Value.pointer (some (⟨p, 0, none⟩ : Addr))), (Value.int .i64 n111)] (World.drew w) fun e113 w114 =>
  ∃ b112, e113 = Ending.returned (Value.bool b112) ∧
  Ext [] V0 w114 ∧
  V.sel (!b112)
  (R (Ending.returned (Value.bool false)) w114)
  (V.when (decide ((0 : Int) ≤ ((k : Nat) : Int) ∧ (((k : Nat) : Int) : Int) < ((S.count : Nat) : Int))) (V.ptr A fun a115 =>
  ∃ n116, (∀ w46, Ext [] V0 w46 → World.cell? w46 (Addr.add a115 ((Int.toNat ((k : Nat) : Int)) * 1)) = some (Value.int .i64 n116)) ∧
  Calls Tryd.prog 12 #[(Value.pointer (some (⟨p, 0, none⟩ : Addr))), (Value.int .i64 n116)] w114 fun e118 w119 =>
  ∃ n117, e118 = Ending.returned (Value.int .i64 n117) ∧
  Ext [] V0 w119 ∧
  V.sel (n117 != ((k : Nat) : Int))
  (R (Ending.returned (Value.bool false)) w119)
  (V.when (decide ((0 : Int) ≤ ((k : Nat) : Int) ∧ (((k : Nat) : Int) : Int) < ((S.count : Nat) : Int))) (V.ptr A fun a120 =>
  ∃ n121, (∀ w46, Ext [] V0 w46 → World.cell? w46 (Addr.add a120 ((Int.toNat ((k : Nat) : Int)) * 1)) = some (Value.int .i64 n121)) ∧
  Calls Tryd.prog 13 #[(Value.pointer (some (⟨p, 0, none⟩ : Addr))), (Value.int .i64 ((k : Nat) : Int))] w119 fun e123 w124 =>
  ∃ n122, e123 = Ending.returned (Value.int .i64 n122) ∧
  Ext [] V0 w124 ∧
  V.sel (n122 != n121)
  (R (Ending.returned (Value.bool false)) w124)
  (V.sel (decide ((IntKind.wrap .i64 (((k : Nat) : Int) + 1)) < ((S.count : Nat) : Int)))
  (V.when (decide ((0 : Int) ≤ (IntKind.wrap .i64 (((k : Nat) : Int) + 1)) ∧ ((IntKind.wrap .i64 (((k : Nat) : Int) + 1)) : Int) < ((S.count : Nat) : Int))) (V.ptr A fun a125 =>
  ∃ n126, World.cell? w124 (Addr.add a125 ((Int.toNat (IntKind.wrap .i64 (((k : Nat) : Int) + 1))) * 1)) = some (Value.int .i64 n126) ∧
  ∃ S127 : World → Prop, S127 (World.drew w124) ∧
  V.when (decide ((0 : Int) ≤ ((k : Nat) : Int) ∧ (((k : Nat) : Int) : Int) < ((S.count : Nat) : Int))) (V.ptr A fun a129 =>
  ∃ n130, (∀ w128, S127 w128 → World.cell? w128 (Addr.add a129 ((Int.toNat ((k : Nat) : Int)) * 1)) = some (Value.int .i64 n130)) ∧
  V.when (decide ((0 : Int) ≤ ((k : Nat) : Int) ∧ (((k : Nat) : Int) : Int) < ((S.count : Nat) : Int))) (V.ptr A fun a131 =>
  ∃ n132, (∀ w128, S127 w128 → World.cell? w128 (Addr.add a131 ((Int.toNat ((k : Nat) : Int)) * 1)) = some (Value.int .i64 n132)) ∧
  Calls Tryd.prog 15 #[(Value.pointer (some (⟨p, 0, none⟩ : Addr))), (Value.int .i64 n130)] (World.drew w124) fun e134 w135 =>
  ∃ n133, e134 = Ending.returned (Value.int .i64 n133) ∧
  S127 w135 ∧
  V.sel (n133 != n132)
  (R (Ending.returned (Value.bool false)) w135)
  (V.when (decide ((0 : Int) ≤ ((k : Nat) : Int) ∧ (((k : Nat) : Int) : Int) < ((S.count : Nat) : Int))) (V.ptr A fun a136 =>
  ∃ n137, (∀ w128, S127 w128 → World.cell? w128 (Addr.add a136 ((Int.toNat ((k : Nat) : Int)) * 1)) = some (Value.int .i64 n137)) ∧
  V.when (decide ((0 : Int) ≤ ((k : Nat) : Int) ∧ (((k : Nat) : Int) : Int) < ((S.count : Nat) : Int))) (V.ptr A fun a138 =>
  ∃ n139, (∀ w128, S127 w128 → World.cell? w128 (Addr.add a138 ((Int.toNat ((k : Nat) : Int)) * 1)) = some (Value.int .i64 n139)) ∧
  Calls Tryd.prog 16 #[(Value.pointer (some (⟨p, 0, none⟩ : Addr))), (Value.int .i64 n137)] w135 fun e141 w142 =>
  ∃ n140, e141 = Ending.returned (Value.int .i64 n140) ∧
  S127 w142 ∧
  V.sel (n140 != n139)
  (R (Ending.returned (Value.bool false)) w142)
  (V.when (decide ((0 : Int) ≤ ((k : Nat) : Int) ∧ (((k : Nat) : Int) : Int) < ((S.count : Nat) : Int))) (V.ptr A fun a143 =>
  ∃ n144, (∀ w128, S127 w128 → World.cell? w128 (Addr.add a143 ((Int.toNat ((k : Nat) : Int)) * 1)) = some (Value.int .i64 n144)) ∧
  Calls Tryd.prog 15 #[(Value.pointer (some (⟨p, 0, none⟩ : Addr))), (Value.int .i64 (IntKind.wrap .i64 (n144 + 1)))] w142 fun e146 w147 =>
  ∃ n145, e146 = Ending.returned (Value.int .i64 n145) ∧
  S127 w147 ∧
  V.sel (n145 != n126)
  (R (Ending.returned (Value.bool false)) w147)
  (I (IntKind.wrap .i64 (((k : Nat) : Int) + 1)) w147 ∧ μ (IntKind.wrap .i64 (((k : Nat) : Int) + 1)) w147 < μ ((k : Nat) : Int) w))))))))))
  (∃ S148 : World → Prop, S148 (World.drew w124) ∧
  V.when (decide ((0 : Int) ≤ ((k : Nat) : Int) ∧ (((k : Nat) : Int) : Int) < ((S.count : Nat) : Int))) (V.ptr A fun a150 =>
  ∃ n151, (∀ w149, S148 w149 → World.cell? w149 (Addr.add a150 ((Int.toNat ((k : Nat) : Int)) * 1)) = some (Value.int .i64 n151)) ∧
  V.when (decide ((0 : Int) ≤ ((k : Nat) : Int) ∧ (((k : Nat) : Int) : Int) < ((S.count : Nat) : Int))) (V.ptr A fun a152 =>
  ∃ n153, (∀ w149, S148 w149 → World.cell? w149 (Addr.add a152 ((Int.toNat ((k : Nat) : Int)) * 1)) = some (Value.int .i64 n153)) ∧
  Calls Tryd.prog 15 #[(Value.pointer (some (⟨p, 0, none⟩ : Addr))), (Value.int .i64 n151)] (World.drew w124) fun e155 w156 =>
  ∃ n154, e155 = Ending.returned (Value.int .i64 n154) ∧
  S148 w156 ∧
  V.sel (n154 != n153)
  (R (Ending.returned (Value.bool false)) w156)
  (V.when (decide ((0 : Int) ≤ ((k : Nat) : Int) ∧ (((k : Nat) : Int) : Int) < ((S.count : Nat) : Int))) (V.ptr A fun a157 =>
  ∃ n158, (∀ w149, S148 w149 → World.cell? w149 (Addr.add a157 ((Int.toNat ((k : Nat) : Int)) * 1)) = some (Value.int .i64 n158)) ∧
  V.when (decide ((0 : Int) ≤ ((k : Nat) : Int) ∧ (((k : Nat) : Int) : Int) < ((S.count : Nat) : Int))) (V.ptr A fun a159 =>
  ∃ n160, (∀ w149, S148 w149 → World.cell? w149 (Addr.add a159 ((Int.toNat ((k : Nat) : Int)) * 1)) = some (Value.int .i64 n160)) ∧
  Calls Tryd.prog 16 #[(Value.pointer (some (⟨p, 0, none⟩ : Addr))), (Value.int .i64 n158)] w156 fun e162 w163 =>
  ∃ n161, e162 = Ending.returned (Value.int .i64 n161) ∧
  S148 w163 ∧
  V.sel (n161 != n160)
  (R (Ending.returned (Value.bool false)) w163)
  (V.when (decide ((0 : Int) ≤ ((k : Nat) : Int) ∧ (((k : Nat) : Int) : Int) < ((S.count : Nat) : Int))) (V.ptr A fun a164 =>
  ∃ n165, (∀ w149, S148 w149 → World.cell? w149 (Addr.add a164 ((Int.toNat ((k : Nat) : Int)) * 1)) = some (Value.int .i64 n165)) ∧
  Calls Tryd.prog 15 #[(Value.pointer (some (⟨p, 0, none⟩ : Addr))), (Value.int .i64 (IntKind.wrap .i64 (n165 + 1)))] w163 fun e167 w168 =>
  ∃ n166, e167 = Ending.returned (Value.int .i64 n166) ∧
  S148 w168 ∧
  V.sel (n166 != (-1))
  (R (Ending.returned (Value.bool false)) w168)
  (I (IntKind.wrap .i64 (((k : Nat) : Int) + 1)) w168 ∧ μ (IntKind.wrap .i64 (((k : Nat) : Int) + 1)) w168 < μ ((k : Nat) : Int) w))))))))))))))) := by
  have o := hs.ok
  have hN := o.N
  have hmem := (mv_at hk).2.1
  have hrk := (mv_at hk).2.2
  have hlt := o.mem_lt hmem
  have hcn : S.count ≤ 65536 := by have := rank_le S S.N; unfold SetV.count; omega
  refine members_lk hc hk fun ad hcell => ⟨_, fun _ e => hcell _ e, ?_⟩
  refine Has_c (hs.ext0 e.drew).ref _ ⟨_, rfl, e.drew, sel_false (by rw [SetV.has_nat, hmem]; rfl) ?_⟩
  refine members_lk hc hk fun ad2 hcell2 => ⟨_, fun _ e => hcell2 _ e, ?_⟩
  refine Rank_c (hs.ext0 e.drew).ref _ ⟨_, rfl, e.drew, sel_false (by rw [Int.toNat_natCast, hrk]; simp) ?_⟩
  refine members_lk hc hk fun ad3 hcell3 => ⟨_, fun _ e => hcell3 _ e, ?_⟩
  refine Select_c (hs.ext0 e.drew).ref (ht.ext0 e.drew) _ (by omega) fun r hr => ⟨_, rfl, e.drew, sel_false (by simp [mv_select o hk hr]) ?_⟩
  have ek : IntKind.wrap .i64 (((k : Nat) : Int) + 1) = ((k + 1 : Nat) : Int) := by rw [w64 (by omega) (by omega)]; omega
  refine sel_dec (fun hin => ?_) (fun hout => ?_)
  · rw [ek] at hin ⊢
    rw [ek] at fin
    have hk1 : k + 1 < S.count := by omega
    refine members_lk hc hk1 fun ad4 hcell4 => ⟨_, hcell4 _ e.drew, ?_⟩
    have := walk_after (w := w) (R := R) (I := I) (μ := μ) hs ht hc hk (.inr ⟨mv S (k + 1), rfl, (mv_at hk1).2.1, by rw [(mv_at hk1).2.2]⟩) e.drew (by rw [ek]; exact fin)
    rw [ek] at this
    exact this
  · rw [ek] at hout
    exact walk_after (w := w) (R := R) (I := I) (μ := μ) hs ht hc hk (.inl ⟨rfl, .inr (by omega)⟩) e.drew fin
end Go.Proofs.YtbaglnffgbnekaaDoor
