/- Image: inside: what panics is caught. -/
import Derived.Test.YtoaeefjcjdhlkaaGreatI12
import Derived.Tactics
import Derived.Tactics2
import Derived.Defers
import Derived.Recover
import Derived.ControlIn
import Derived.Laws.Pointers
import Derived.WalkKit
set_option linter.unusedVariables false
set_option linter.unusedSimpArgs false
namespace Go.Proofs.YtoaeefjcjdhlkaaGreat
open Go Go.V Go.B

theorem as_giveUp (v : Value) (w : World) : (Instr.typeAssert (.iface 131 v) 20 131 true).run Tryz.prog w = .ok (.tuple #[v, .bool true]) w := by kernel_rfl
def zeroState : List Value := [.int .i64 0, .int .i64 0, .slice none 0 0, .slice none 0 0, .slice none 0 0]
def thenOf : Option Code → Code
  | some (.seq _ (.seq _ (.cond _ a _))) => a
  | _ => .skip
abbrev upV (fa : Nat) : Value := .iface 131 (.agg #[.pointer (some ⟨fa, 0, none⟩)])
abbrev upFr (p q : Addr) (fa : Nat) : List Value := [.pointer (some p), .pointer (some q), upV fa, undef, undef, upV fa, upV fa, .bool true, undef, undef, undef, undef, undef, undef, undef, undef, undef, undef, undef]
set_option maxRecDepth 100000 in
theorem catch_nf (p q : Addr) (fa : Nat) (w : World) (KK : World → Prop) (h :
  ∃ p1, ∃ b2, ∃ w3, Sem.run Tryz.prog (Instr.typeAssert (Value.iface 131 (Value.agg #[Value.pointer (some ⟨fa, 0, none⟩)])) 20 131 true) w = .ok (Value.tuple #[(Value.agg #[(Value.pointer p1)]), (Value.bool b2)]) w3 ∧
  ∀ w4, w4 = (World.alloc w3 (.cells #[(Value.pointer none)] 131)) →
  ∃ w5, Sem.run Tryz.prog (Instr.storeAt 131 (Value.pointer (some ⟨Array.size (World.heap w3), 0, none⟩)) (Value.agg #[(Value.pointer p1)])) w4 = .ok () w5 ∧
  V.sel (!b2)
  (False)
  (∃ S6 : World → Prop, S6 (World.drew w5) ∧
  ∃ p8, (∀ w7, S6 w7 → World.cell? w7 (Addr.add ⟨Array.size (World.heap w3), 0, none⟩ 0) = some (Value.pointer p8)) ∧
  ∃ w9, Sem.run Tryz.prog (Instr.storeAt 26 (Value.pointer (some p)) (Value.agg #[(Value.int .i64 0), (Value.int .i64 0), (Value.slice none 0 0), (Value.slice none 0 0), (Value.slice none 0 0)])) (World.drew w5) = .ok () w9 ∧
  S6 w9 ∧
  ∃ w10, Sem.run Tryz.prog (Instr.storeAt 93 (Value.pointer (some q)) (Value.pointer p8)) w9 = .ok () w10 ∧
  KK w10)) :
  V.Z.codeR Tryz.prog ⟨V.assoc [], V.assocP [(5, V.line [0, 1, 2, 3, 4])], V.assocC [], V.assocS [], ⟨[], true⟩⟩ none none 0 (thenOf Tryz.f59.body) (fun e fr ds w => match e with | .normal => KK w | _ => False) (upFr p q fa) [] w := Eq.mp (by kernel_rfl) h
theorem iPF : (Tryz.prog.info? 93).map (·.size) = some 1 := by kernel_rfl
theorem iGU : (Tryz.prog.info? 131).map (·.size) = some 1 := by kernel_rfl
theorem turn_wp {F : Fence} {n : Nat} {P : Program} {c c' : Code} {a a' : Act} {Q : Exit → Act → World → Prop} {w : World} (hc : c = c') (ha : a = a') (h : c'.wpIn F n P Q a' w) : c.wpIn F n P Q a w := by
  subst hc; subst ha; exact h
set_option maxRecDepth 100000 in
/-- The closure that catches: where the frame below panics. -/
theorem catch_panicking {p q fa : Nat} {older : List PanicEntry} {w : World} {cs : List Value} {v : Value} (hp : BlkT w p cs 26) (hcs : cs.length = 5) (hq : BlkT w q [v] 93) (hpq : p ≠ q) :
    CallsD Tryz.prog 59 #[.pointer (some ⟨p, 0, none⟩), .pointer (some ⟨q, 0, none⟩)] (.panicking ({ v := upV fa, recovered := false } :: older)) w fun e u' w' => (∃ v, e = .returned v) ∧ u' = .panicking ({ v := upV fa, recovered := true } :: older) ∧ BlkT w' p zeroState 26 ∧ BlkT w' q [.pointer (some ⟨fa, 0, none⟩)] 93 ∧ Ext [p, q] w w' := by
  refine callsD_of_wpS Tryz.func59 rfl fun c₀ cs hu => ?_
  apply wpS_seq
  apply wpS_region
  simp [wpOpsS, go_sem, recoverD, hu, Tryz.ntmps59, Exit.thenS]
  apply wpS_seq
  apply wpS_region
  simp [wpOpsS, go_sem, recoverD, hu, Tryz.ntmps59, Exit.thenS]
  refine wpS_cond (t := true) (by simp [Act.eval, Array.replicate]) ?_
  simp only [if_true]
  refine wpS_of_wp (wpIn_wide (n := 0).1 (turn_wp (c' := thenOf Tryz.f59.body) (a' := actD (upFr ⟨p, 0, none⟩ ⟨q, 0, none⟩ fa) []) (by kernel_rfl) (by kernel_rfl) ?_))
  refine V.Z.codeR_wp (r := none) (m := 0) (ds := []) (catch_nf ⟨p, 0, none⟩ ⟨q, 0, none⟩ fa w (fun w' => BlkT w' p zeroState 26 ∧ BlkT w' q [.pointer (some ⟨fa, 0, none⟩)] 93 ∧ Ext [p, q] w w') ?_) (.inl rfl) ?_ ?_
  · refine ⟨_, _, w, as_giveUp _ w, fun w4 h4 => ?_⟩
    obtain ⟨b4, x4, z4⟩ := box_new (cs := [.pointer none]) h4
    obtain ⟨w5, hr5, b5, x5⟩ := storeW (P := Tryz.prog) (t := 131) (n := 1) iGU b4 (vs := [.pointer (some ⟨fa, 0, none⟩)]) rfl rfl (by simp [Value.oneCell'])
    refine ⟨w5, hr5, sel_false rfl ?_⟩
    have hpl := hp.lt
    have hql := hq.lt
    have d5 : Ext [] w5 w5.drew := (Ext.refl _ _).drew
    have hp5 := ((hp.ext x4 (by simp)).ext x5 (by simp; omega)).ext d5 (by simp)
    have hq5 := ((hq.ext x4 (by simp)).ext x5 (by simp; omega)).ext d5 (by simp)
    have b5' := b5.ext d5 (by simp)
    obtain ⟨w9, hr9, b9, x9⟩ := storeW (P := Tryz.prog) (t := 26) (n := 5) iState hp5 (vs := zeroState) rfl hcs (by simp [zeroState, Value.oneCell'])
    have hq9 := hq5.ext x9 (by simp; omega)
    obtain ⟨w10, hr10, b10, x10⟩ := store1a (P := Tryz.prog) (t := 93) (i := 0) (v := .pointer (some ⟨fa, 0, none⟩)) iPF hq9 (by simp) rfl rfl
    refine ⟨fun w' => BlkT w' w.heap.size [.pointer (some ⟨fa, 0, none⟩)] 131, b5', _, fun w7 h7 => cadd h7 rfl, w9, hr9, b5'.ext x9 (by simp; omega), w10, hr10, b9.ext x10 (by simp; omega), b10, ?_⟩
    have hs4 := x4.size
    have e1 : Ext [w.heap.size] w w5.drew := (x4.up.trans (x5.trans d5.up))
    exact ((e1.weaken fun x hx => by simp at hx; subst hx; exact .inr (Nat.le_refl _)).trans (x9.weaken fun x hx => .inl (by simp at hx; simp [hx]))).trans (x10.weaken fun x hx => .inl (by simp at hx; simp [hx]))
  · intro c a w d v h
    obtain ⟨h1, u', h2, h3⟩ := h
    exact ⟨by cases d <;> exact h1, u', h2, h3⟩
  · intro e fr' ds' w' ha hd hK
    have hd := hd (by kernel_rfl)
    subst hd
    cases e with
    | normal =>
      refine ⟨rfl, _, rfl, undef, ?_, ⟨_, rfl⟩, rfl, hK⟩
      simp [results, Tryz.results59]
      rfl
    | _ => exact hK.elim
set_option maxRecDepth 100000 in
/-- The closure that catches: where the frame below returns. -/
theorem catch_idle {p q : Addr} {w : World} :
    CallsD Tryz.prog 59 #[.pointer (some p), .pointer (some q)] .returning w fun e u' w' => (∃ v, e = .returned v) ∧ u' = .returning ∧ w' = w := by
  refine callsD_of_wpS Tryz.func59 rfl fun c₀ cs hu => ?_
  apply wpS_seq
  apply wpS_region
  simp [wpOpsS, go_sem, recoverD, hu, Tryz.ntmps59, Exit.thenS]
  apply wpS_seq
  apply wpS_region
  simp [wpOpsS, go_sem, recoverD, hu, Tryz.ntmps59, Exit.thenS]
  refine wpS_cond (t := false) (by simp [Act.eval, Array.replicate]) ?_
  simp only [Bool.false_eq_true, if_false]
  refine wpS_of_wp (wp_skip ?_)
  cases c₀
  simp_all [bodyPostS, results, Tryz.results59]
end Go.Proofs.YtoaeefjcjdhlkaaGreat
