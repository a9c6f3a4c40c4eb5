/- The evaluator of V2 once more, where a function may also end in a panic (of its own, or of a function that it calls); its soundness. -/
import Derived.Test.YtoaeefjcjdhlkaaGreatV2
import Derived.WalkSmall
set_option linter.unusedVariables false
set_option linter.unusedSimpArgs false
namespace Go.V.Z

/-- What a panic of the function is asked to meet. -/
abbrev Pn := List PanicEntry → World → Prop
def zp (Z : Option Pn) (ch : List PanicEntry) (w : World) : Prop :=
  match Z with
  | none => False
  | some z => z ch w

/-! ### operations -/
def extK (P : Program) (n : FuncId) (args : List Value) (w : World) (t : TypeId) (K : Value → World → Prop) : Prop :=
  exR (rshOf P t) fun v => ∃ w', (callFunc n ⟨args⟩).run P w = .ok (.value v) w' ∧ K v w'
def isIfcT : Option TypeDesc → Bool
  | some (.interface _) => true
  | _ => false
theorem isIfcT_out {u : Option TypeDesc} (h : isIfcT u = true) : ∃ m, u = some (.interface m) := by
  unfold isIfcT at h
  split at h
  · exact ⟨_, rfl⟩
  · cases h
def isNilI : Value → Bool
  | .nilIface => true
  | _ => false
def isIfc : Value → Bool
  | .nilIface => true
  | .iface _ _ => true
  | _ => false
/-- An interface's value against nil. -/
def ifcW (P : Program) (op : BinOp) (t : TypeId) (x : Value) (K : Value → Prop) : Prop :=
  match op with
  | .eql => when (isIfcT (P.underlying t)) (when (isIfc x) (K (.bool (isNilI x))))
  | .neq => when (isIfcT (P.underlying t)) (when (isIfc x) (K (.bool (!isNilI x))))
  | _ => False
theorem run_equalIn_ifc_nn {P : Program} (w : World) (d : Nat) (t : TypeId) {m : Array (String × TypeId)} (h : P.underlying t = some (.interface m)) : (Op.equalIn (d + 1) t .nilIface .nilIface).run P w = .ok true w := by
  simp only [Op.equalIn, Sem.run_bind, run_underlying h, Result.andThen_ok, Sem.run_pure]
theorem run_equalIn_ifc_nil {P : Program} (w : World) (d : Nat) (t : TypeId) (u : TypeId) (v : Value) {m : Array (String × TypeId)} (h : P.underlying t = some (.interface m)) : (Op.equalIn (d + 1) t (.iface u v) .nilIface).run P w = .ok false w := by
  simp only [Op.equalIn, Sem.run_bind, run_underlying h, Result.andThen_ok, Sem.run_pure]
theorem ifcW_run {P : Program} {op : BinOp} {t : TypeId} {xo : Operand} {x : Value} {K : Value → Prop} (h : ifcW P op t x K) :
    ∃ v, K v ∧ ∀ w, ((do eqGuard op t xo (.const .nilIface) x .nilIface; binOp op t x .nilIface : Sem Value)).run P w = .ok v w := by
  have run : ∀ (b : Bool), (∃ m, P.underlying t = some (.interface m)) → isIfc x = true → isNilI x = b → ∀ w, (Op.equal t x .nilIface).run P w = .ok b w := fun b ⟨m, ht⟩ hx hb w => by
    cases x <;> simp only [isIfc, Bool.false_eq_true] at hx
    · subst hb
      exact run_equalIn_ifc_nil w 9999 t _ _ ht
    · subst hb
      exact run_equalIn_ifc_nn w 9999 t ht
  have grd : ∀ (op : BinOp), isIfc x = true → ∀ w, (eqGuard op t xo (.const .nilIface) x .nilIface).run P w = .ok () w := fun op hx w => by
    cases x <;> simp only [isIfc, Bool.false_eq_true] at hx <;> cases op <;> simp [eqGuard]
  unfold ifcW at h
  split at h
  · obtain ⟨h1, h⟩ := when_cases h
    obtain ⟨h2, h⟩ := when_cases h
    refine ⟨_, h, fun w => ?_⟩
    have e : binOp .eql t x .nilIface = (do pure (.bool (← Op.equal t x .nilIface)) : Sem Value) := by
      cases x <;> simp only [isIfc, Bool.false_eq_true] at h2 <;> rfl
    rw [e]
    simp only [Sem.run_bind, grd .eql h2 w, Result.andThen_ok, run _ (isIfcT_out h1) h2 rfl w, Sem.run_pure]
  · obtain ⟨h1, h⟩ := when_cases h
    obtain ⟨h2, h⟩ := when_cases h
    refine ⟨_, h, fun w => ?_⟩
    have e : binOp .neq t x .nilIface = (do pure (.bool (!(← Op.equal t x .nilIface))) : Sem Value) := by
      cases x <;> simp only [isIfc, Bool.false_eq_true] at h2 <;> rfl
    rw [e]
    simp only [Sem.run_bind, grd .neq h2 w, Result.andThen_ok, run _ (isIfcT_out h1) h2 rfl w, Sem.run_pure]
  · exact h.elim
def callZ (P : Program) (Z : Option Pn) (n : FuncId) (args : List Value) (w : World) (t : TypeId) (K : Value → World → Prop) : Prop :=
  match Z with
  | none => callK P n args w t K
  | some z => when (hasB P n) (Calls P n ⟨args⟩ w fun e w' => (exR (rshOf P t) fun v => e = .returned v ∧ K v w') ∨ (∃ ch, e = .panicked ch ∧ z ch w'))
def opR0 (P : Program) (X : List Nat) (Z : Option Pn) (fr : List Value) (w : World) (o : Oper) (K : Value → World → Prop) : Prop :=
  match o.op with
  | .panic x => (match ev fr x with
    | .iface t v => zp Z [{ v := .iface t v, recovered := false }] w
    | _ => False)
  | .binOp op t x y _ => (match y with
    | .const .nilIface => ifcW P op t (ev fr x) (fun v => K v w)
    | _ => opV P fr w o K)
  | .typeAssert x t a ok => runK P (Instr.typeAssert (ev fr x) t a ok) w o.type K
  | .call c => (match c.callee with
    | .value f => (match ev fr f with
      | .func (.func n) first cap => (match memB X n with
        | true => extK P n (first.toList ++ c.args.toList.map (ev fr) ++ cap.toList) w o.type K
        | false => callZ P Z n (first.toList ++ c.args.toList.map (ev fr) ++ cap.toList) w o.type K)
      | .func (.yield l) first cap => Yield P l (first.toList ++ c.args.toList.map (ev fr)) w fun e w' => exR (rshOf P o.type) fun v => e = .returned v ∧ K v w'
      | _ => opV P fr w o K)
    | _ => opV P fr w o K)
  | _ => opV P fr w o K
def outR (P : Program) (Z : Option Pn) (K : Value → World → Prop) : Result Next → Prop
  | .ok (.value v) w' => K v w'
  | .ok .skip w' => K undef w'
  | .ok (.enter f args) w' => Calls P f args w' fun e w'' => (∃ v, e = .returned v ∧ K v w'') ∨ (∃ ch, e = .panicked ch ∧ zp Z ch w'')
  | .ok (.round l f tmps assign body) w' => RoundIn (Wd none) 0 P l f tmps assign body w' fun e w'' => ∃ v, e = .returned v ∧ K v w''
  | .halt (.panic v) w' => zp Z [{ v, recovered := false }] w'
  | _ => False
theorem outR_of {P : Program} {Z : Option Pn} {K : Value → World → Prop} {r : Result Next} (h : outc P K r) : outR P Z K r := by
  cases r with
  | ok n w => cases n <;> simp only [outc] at h <;> first | exact h | exact Calls.mono h (fun _ _ h => .inl h) | exact h.elim
  | halt x w => exact h.elim
theorem opR0_noDefer {P : Program} {X : List Nat} {Z : Option Pn} {fr : List Value} {w : World} {o : Oper} {K : Value → World → Prop} (h : opR0 P X Z fr w o K) : ∀ c, o.op ≠ .defer c := by
  intro c e
  unfold opR0 at h
  rw [e] at h
  exact opV_noDefer h c e
theorem opR0_out {P : Program} {X : List Nat} {Z : Option Pn} {fr : List Value} {w : World} {o : Oper} {K : Value → World → Prop}
    (h : opR0 P X Z fr w o K) : outR P Z K ((execOp (ev fr) o).run P w) := by
  unfold opR0 at h
  split at h
  · rename_i x hx
    split at h
    · rename_i t v hv
      have e : (execOp (ev fr) o).run P w = .halt (.panic (.iface t v)) w := by
        obtain ⟨dst, op, type, pos, after, guard⟩ := o
        simp only at hx
        subst hx
        simp [execOp, hv, run_panic_iface]
      rw [e]
      exact h
    · exact h.elim
  · rename_i op t x y yt ho
    split at h
    · obtain ⟨v, hv, hr⟩ := ifcW_run (xo := x) h
      have e : (execOp (ev fr) o).run P w = .ok (.value v) w := by
        obtain ⟨dst, op, type, pos, after, guard⟩ := o
        simp only at ho
        subst ho
        have lift : ∀ {s : Sem Value}, s.run P w = .ok v w → ((do pure (.value (← s)) : Sem Next)).run P w = .ok (.value v) w := fun hr => by simp [hr]
        exact lift (hr w)
      rw [e]
      exact hv
    · exact outR_of (opV_out h)
  · rename_i x t a ok ho
    obtain ⟨v, w', hr, hv⟩ := exR_out h
    have e : (execOp (ev fr) o).run P w = .ok (.value v) w' := by
      obtain ⟨dst, op, type, pos, after, guard⟩ := o
      simp only at ho
      subst ho
      simp [execOp, hr]
    rw [e]
    exact hv
  · rename_i c hc
    split at h
    · rename_i f hf
      split at h
      · rename_i n first cap hv
        split at h
        · obtain ⟨v, w', hr, hK⟩ := exR_out h
          have e : (execOp (ev fr) o).run P w = .ok (.value v) w' := by
            have e2 : (⟨first.toList ++ c.args.toList.map (ev fr) ++ cap.toList⟩ : Array Value) = first ++ c.args.map (ev fr) ++ cap := by
              apply Array.ext'; simp
            rw [e2] at hr
            obtain ⟨dst, op, type, pos, after, guard⟩ := o
            obtain ⟨callee, args, ats⟩ := c
            simp only at hc hf
            subst hc
            subst hf
            simp only [Array.append_assoc] at hr
            simp [execOp, resolve, invoke, hv, Deferred.ofValue, hr]
          rw [e]
          exact hK
        · have e : hasB P n = true → (execOp (ev fr) o).run P w = .ok (.enter n (⟨first.toList ++ c.args.toList.map (ev fr) ++ cap.toList⟩ : Array Value)) w := fun h1 => by
            have e2 : (⟨first.toList ++ c.args.toList.map (ev fr) ++ cap.toList⟩ : Array Value) = first ++ c.args.map (ev fr) ++ cap := by
              apply Array.ext'; simp
            rw [e2]
            obtain ⟨dst, op, type, pos, after, guard⟩ := o
            obtain ⟨callee, args, ats⟩ := c
            simp only at hc hf
            subst hc
            subst hf
            simp [execOp, resolve, invoke, hv, Deferred.ofValue, run_callFunc h1]
          unfold callZ at h
          split at h
          · obtain ⟨h1, h⟩ := when_cases h
            rw [e h1]
            refine Calls.mono h fun e w' he => .inl ?_
            obtain ⟨v, rfl, hv⟩ := exR_out he
            exact ⟨v, rfl, hv⟩
          · obtain ⟨h1, h⟩ := when_cases h
            rw [e h1]
            refine Calls.mono h fun e w' he => ?_
            rcases he with he | he
            · obtain ⟨v, rfl, hv⟩ := exR_out he
              exact .inl ⟨v, rfl, hv⟩
            · exact .inr he
      · rename_i l first cap hv
        obtain ⟨fn, tmps, assign, body, hy, hr⟩ := h
        have e : (execOp (ev fr) o).run P w = .ok (.round l fn tmps assign body) w := by
          have e2 : (⟨first.toList ++ c.args.toList.map (ev fr)⟩ : Array Value) = first ++ c.args.map (ev fr) := by
            apply Array.ext'; simp
          rw [e2] at hy
          obtain ⟨dst, op, type, pos, after, guard⟩ := o
          obtain ⟨callee, args, ats⟩ := c
          simp only at hc hf
          subst hc
          subst hf
          simp [execOp, resolve, invoke, hv, Deferred.ofValue, hy]
        rw [e]
        refine RoundIn.mono hr fun e w' he => ?_
        obtain ⟨v, rfl, hv⟩ := exR_out he
        exact ⟨v, rfl, hv⟩
      · exact outR_of (opV_out h)
    · exact outR_of (opV_out h)
  · exact outR_of (opV_out h)


def opRB (P : Program) (X : List Nat) (Z : Option Pn) (fr : List Value) (w : World) (o : Oper) (K : Value → World → Prop) : Prop :=
  match o.op with
  | .load t a => loadB P (fun a x => w.cell? a = some x) t (ev fr a) (fun v => K v w)
  | .store t a x => (match ev fr a with | .pointer p => ptr p fun ad => runU P (Instr.storeAt t (.pointer (some ad)) (ev fr x)) w (K undef) | _ => False)
  | .alloc _ => opV P fr w o (fun v w1 => ∀ w', w' = w1 → K v w')
  | .box _ _ => opV P fr w o (fun v w1 => ∀ w', w' = w1 → K v w')
  | .makeMap _ _ => opV P fr w o (fun v w1 => ∀ w', w' = w1 → K v w')
  | .makeSlice _ _ _ => opV P fr w o (fun v w1 => ∀ w', w' = w1 → K v w')
  | .buildSlice _ _ _ => opV P fr w o (fun v w1 => ∀ w', w' = w1 → K v w')
  | _ => opR0 P X Z fr w o K
def opR (P : Program) (X : Opt) (Z : Option Pn) (fr : List Value) (w : World) (o : Oper) (K : Value → World → Prop) : Prop :=
  match X.big with
  | false => opR0 P X.ext Z fr w o K
  | true => opRB P X.ext Z fr w o K
theorem opR_noDefer {P : Program} {X : Opt} {Z : Option Pn} {fr : List Value} {w : World} {o : Oper} {K : Value → World → Prop} (h : opR P X Z fr w o K) : ∀ c, o.op ≠ .defer c := by
  intro c e
  unfold opR at h
  split at h
  · exact opR0_noDefer h c e
  · unfold opRB at h
    rw [e] at h
    exact opR0_noDefer h c e
theorem opR_out {P : Program} {X : Opt} {Z : Option Pn} {fr : List Value} {w : World} {o : Oper} {K : Value → World → Prop}
    (h : opR P X Z fr w o K) : outR P Z K ((execOp (ev fr) o).run P w) := by
  unfold opR at h
  split at h
  · exact opR0_out h
  · have viaV : ∀ {K' : Value → World → Prop}, opV P fr w o K' → (∀ v w1, K' v w1 → K v w1) → outR P Z K ((execOp (ev fr) o).run P w) := fun h hk => outR_of (outc_mono hk (opV_out h))
    obtain ⟨dst, op, type, pos, after, guard⟩ := o
    unfold opRB at h
    cases op <;> simp only at h <;> first | exact opR0_out h | skip
    case load t a => exact viaV (K' := K) (by simp only [opV]; exact loadB_imp h) (fun _ _ h => h)
    case store t a x =>
      split at h
      · rename_i p hp
        obtain ⟨ad, rfl, h⟩ := ptr_cases h
        obtain ⟨w', hr, hk⟩ := h
        rw [← hp] at hr
        have e : (execOp (ev fr) ⟨dst, .store t a x, type, pos, after, guard⟩).run P w = .ok .skip w' := by
          simp only [execOp, Sem.run_bind, hr, Result.andThen_ok, Sem.run_pure]
        rw [e]
        exact hk
      · exact h.elim
    all_goals exact viaV h (fun _ _ h => h _ rfl)
def firstZ (P : Program) (X : Opt) (C : Addr → Value → Prop) (D : Sem Value → Value → Prop) (fr : List Value) (o : Oper) (K : Value → Prop) : Prop :=
  match o.op with
  | .binOp op t x y _ => (match y with
    | .const .nilIface => ifcW P op t (ev fr x) K
    | _ => firstR P X C D fr o K)
  | .convert s d x => (match ev fr x with
    | .slice A n c => exR (rshOf P o.type) fun v => D (convert s d (.slice A n c)) v ∧ K v
    | _ => firstR P X C D fr o K)
  | _ => firstR P X C D fr o K
theorem firstZ_run {P : Program} {X : Opt} {C : Addr → Value → Prop} {D : Sem Value → Value → Prop} {fr : List Value} {o : Oper} {K : Value → Prop} {w0 : World} (h0 : ∀ a x, C a x → w0.cell? a = some x) (h : firstZ P X C D fr o K) :
    ∃ v, K v ∧ ∀ w, (∀ a x, C a x → w.cell? a = some x) → (∀ m v, D m v → m.run P w = .ok v w) → (execOp (ev fr) o).run P w = .ok (.value v) w := by
  unfold firstZ at h
  split at h
  · rename_i op t x y yt ho
    split at h
    · obtain ⟨v, hv, hr⟩ := ifcW_run (xo := x) h
      refine ⟨v, hv, fun w _ _ => ?_⟩
      obtain ⟨dst, op, type, pos, after, guard⟩ := o
      simp only at ho
      subst ho
      have lift : ∀ {s : Sem Value}, s.run P w = .ok v w → ((do pure (.value (← s)) : Sem Next)).run P w = .ok (.value v) w := fun hr => by simp [hr]
      exact lift (hr w)
    · exact firstR_run h0 h
  · rename_i s d x ho
    split at h
    · rename_i A n c hx
      obtain ⟨v, hd, hk⟩ := exR_out h
      refine ⟨v, hk, fun w _ hD => ?_⟩
      have hr := hD _ _ hd
      obtain ⟨dst, op, type, pos, after, guard⟩ := o
      simp only at ho
      subst ho
      rw [← hx] at hr
      simp [execOp, hr]
    · exact firstR_run h0 h
  · exact firstR_run h0 h
theorem outR_in {r : Option Nat} {m : Nat} {P : Program} {Z : Option Pn} {fr : List Value} {ds : List Nat} {w : World} {o : Oper} {K : Value → World → Prop} {next : Act → World → Prop} {Q : Exit → Act → World → Prop} (hnd : ∀ c, o.op ≠ .defer c)
    (hZ : ∀ ch fr' w', zp Z ch w' → Q (.panic ch) (actD fr' ds) w')
    (h : outR P Z K ((execOp (ev fr) o).run P w)) (hk : ∀ v w', K v w' → next (actD (putO fr o.dst v) ds) w') : o.wpIn (Wd r) m P (actD fr ds) w next Q := by
  refine ⟨fun _ _ => trivial, ?_⟩
  rw [semAt_nd hnd, actD_eval]
  generalize (execOp (ev fr) o).run P w = rr at h
  cases rr with
  | ok n w' =>
    cases n <;> simp only [outR] at h
    case value v => rw [Oper.uponIn_value, actD_put]; exact hk _ _ h
    case skip => rw [Oper.uponIn_skip, actD_put]; exact hk _ _ h
    case enter f args =>
      rw [Oper.uponIn_enter]
      refine ⟨fun h => (by cases h), callsIn_Wd (Calls.mono h fun e w' he => ?_)⟩
      rcases he with ⟨v, rfl, hv⟩ | ⟨ch, rfl, hv⟩
      · show next _ _
        rw [actD_put]
        exact hk _ _ hv
      · exact hZ ch fr _ hv
    case round l f tmps assign body =>
      rw [Oper.uponIn_round]
      refine ⟨fun h => (by cases h), round_Wd (RoundIn.mono h fun e w' he => ?_)⟩
      obtain ⟨v, rfl, hv⟩ := he
      show next _ _
      rw [actD_put]
      exact hk _ _ hv
  | halt x w' =>
    cases x <;> simp only [outR] at h
    case panic v => exact hZ _ fr _ h

/-! ### regions in their order -/
def opsR (P : Program) (X : Opt) (Z : Option Pn) (ops : Array Oper) : Nat → List Oper → List Value → World → (List Value → World → Prop) → Prop
  | _, [], fr, w, K => K fr w
  | i, o :: rest, fr, w, K => force fr fun fr =>
      gd ops o fr (opR P X Z fr w o fun v w' => spl (guardsB i rest) v fun v => opsR P X Z ops (i + 1) rest (putO fr o.dst v) w' K) (opsR P X Z ops (i + 1) rest (putO fr o.dst undef) w K)
theorem opsR_wp {r : Option Nat} {m : Nat} {P : Program} {X : Opt} {Z : Option Pn} {ops : Array Oper} {Q : Exit → Act → World → Prop} {ds : List Nat} {A : List Nat} : ∀ {l : List Oper} {i : Nat} {fr : List Value} {w : World} {K : List Value → World → Prop},
    (∀ ch fr' w', zp Z ch w' → Q (.panic ch) (actD fr' ds) w') → (∀ o ∈ l, ∀ fr v, agree A fr (putO fr o.dst v)) →
    opsR P X Z ops i l fr w K → (∀ fr' w, agree A fr fr' → K fr' w → Q .normal (actD fr' ds) w) → wpListIn (Wd r) m P ops Q l (actD fr ds) w
  | [], i, fr, w, K, hZ, hl, h, hk => hk _ _ (agree_refl _ _) h
  | o :: rest, i, fr, w, K, hZ, hl, h, hk => by
    unfold opsR at h
    rw [force_eq] at h
    unfold wpListIn
    have hp := hl o (by simp) fr
    have hl' : ∀ o ∈ rest, ∀ fr v, agree A fr (putO fr o.dst v) := fun o ho => hl o (by simp [ho])
    rcases gdD_cases (ds := ds) h with ⟨hw, h⟩ | ⟨hw, h⟩
    · rw [if_pos hw]
      exact outR_in (opR_noDefer h) hZ (opR_out h) fun v w' h => opsR_wp hZ hl' (spl_out h) fun fr' w ha => hk fr' w (agree_trans (hp v) ha)
    · rw [if_neg (by simp [hw]), actD_put]
      exact ⟨fun _ _ => trivial, opsR_wp hZ hl' h fun fr' w ha => hk fr' w (agree_trans (hp _) ha)⟩

/-! ### operations behind which no first one can come up -/
def waitsD : Nat → Array Oper → Nat → Nat → Bool
  | 0, ops, j, i => waitsB ops j i
  | n + 1, ops, j, i => waitsB ops j i || (match nthO ops.toList j with
    | some oj => oj.after.toList.any fun e => Region.binds .any e && waitsD n ops e.on i
    | none => false)
def waits2 (ops : Array Oper) (j i : Nat) : Bool := waitsD 6 ops j i
def sinkTFrom (ops : Array Oper) (j : Nat) : Nat → List Oper → Bool
  | _, [] => true
  | i, o :: os => (match firstB o with | true => Nat.beq i j || waits2 ops j i | false => true) && sinkTFrom ops j (i + 1) os
def sinkT (ops : Array Oper) (j : Nat) : Bool := sinkTFrom ops j 0 ops.toList
def Closed (ops : Array Oper) (listed : Array Bool) : Prop := ∀ (k : Nat) (ok : Oper), ops[k]? = some ok → listed.getD k false = true → ∀ e ∈ ok.after, Region.binds .any e = true → listed.getD e.on false = true
theorem sinkTFrom_spec {ops : Array Oper} {j : Nat} : ∀ {l : List Oper} {i : Nat}, sinkTFrom ops j i l = true → ∀ k o, l[k]? = some o → firstB o = true → i + k ≠ j → waits2 ops j (i + k) = true
  | [], i, h, k, o, hk, hf, hne => by simp at hk
  | o :: os, i, h, k, o', hk, hf, hne => by
    simp only [sinkTFrom, Bool.and_eq_true] at h
    cases k with
    | zero =>
      simp at hk; subst hk
      have h1 := h.1
      rw [hf] at h1
      simp only [Bool.or_eq_true] at h1
      rcases h1 with h1 | h1
      · exact absurd (Nat.eq_of_beq_eq_true h1) (by simpa using hne)
      · simpa using h1
    | succ k =>
      have := sinkTFrom_spec h.2 k o' (by simpa using hk) hf (by omega)
      rwa [show i + 1 + k = i + (k + 1) by omega] at this
theorem waitsD_some {ops : Array Oper} : ∀ {n j i : Nat}, waitsD n ops j i = true → ∃ oj, ops[j]? = some oj
  | 0, j, i, h => by
    obtain ⟨oj, hoj, _⟩ := waitsB_spec h
    exact ⟨oj, hoj⟩
  | n + 1, j, i, h => by
    simp only [waitsD, Bool.or_eq_true] at h
    rcases h with h | h
    · obtain ⟨oj, hoj, _⟩ := waitsB_spec h
      exact ⟨oj, hoj⟩
    · split at h
      · rename_i oj hoj
        rw [nthO_eq, Array.getElem?_toList] at hoj
        exact ⟨oj, hoj⟩
      · cases h
theorem waitsD_listed {ops : Array Oper} {listed : Array Bool} (hc : Closed ops listed) : ∀ {n j i : Nat} {oj : Oper}, ops[j]? = some oj → (∀ e ∈ oj.after, Region.binds .any e = true → listed.getD e.on false = true) → waitsD n ops j i = true → listed.getD i false = true
  | 0, j, i, oj, hoj, hall, h => by
    obtain ⟨oj', hoj', e, he, hb, hon⟩ := waitsB_spec h
    rw [hoj] at hoj'; cases hoj'
    have := hall e he hb
    rwa [hon] at this
  | n + 1, j, i, oj, hoj, hall, h => by
    simp only [waitsD, Bool.or_eq_true] at h
    rcases h with h | h
    · obtain ⟨oj', hoj', e, he, hb, hon⟩ := waitsB_spec h
      rw [hoj] at hoj'; cases hoj'
      have := hall e he hb
      rwa [hon] at this
    · split at h
      · rename_i oj' hoj'
        rw [nthO_eq, Array.getElem?_toList, hoj] at hoj'
        cases hoj'
        obtain ⟨e, he, hb⟩ := List.any_eq_true.1 h
        simp only [Bool.and_eq_true] at hb
        obtain ⟨ok, hok⟩ := waitsD_some hb.2
        have h1 := hall e (Array.mem_toList_iff.1 he) hb.1
        exact waitsD_listed hc hok (fun e' he' hb' => hc e.on ok hok h1 e' he' hb') hb.2
      · cases h
/-- Where such an operation may come up, all first ones but itself are listed. -/
theorem sinkT_listed {ops : Array Oper} {listed : Array Bool} (hc : Closed ops listed) {j i : Nat} {oi : Oper} (h : sinkT ops j = true) (hj : j ∈ Region.ready .any ops listed) (hi : ops[i]? = some oi) (hf : firstB oi = true) (hne : i ≠ j) : listed.getD i false = true := by
  have hw := sinkTFrom_spec h i oi (by simpa using hi) hf (by omega)
  rw [Nat.zero_add] at hw
  obtain ⟨_, oj, hoj, hall⟩ := mem_ready.1 hj
  exact waitsD_listed hc hoj hall hw
theorem Closed.step {ops : Array Oper} {listed : Array Bool} (hc : Closed ops listed) {j : Nat} (hj : j ∈ Region.ready .any ops listed) : Closed ops (listed.setIfInBounds j true) := by
  intro k ok hk hl e he hb
  have up : ∀ i, listed.getD i false = true → (listed.setIfInBounds j true).getD i false = true := fun i hi => getD_set_true hi
  by_cases hkj : k = j
  · subst hkj
    obtain ⟨_, oj, hoj, hall⟩ := mem_ready.1 hj
    rw [hk] at hoj; cases hoj
    exact up _ (hall e he hb)
  · rw [getD_set_ne false (fun h => hkj h.symm)] at hl
    exact up _ (hc k ok hk hl e he hb)
theorem getD_true_of {l : Array Bool} {k : Nat} (h : l.getD k false = true) : l.getD k true = true := by
  rcases Nat.lt_or_ge k l.size with h' | h'
  · simp [h'] at h ⊢; exact h
  · simp [Nat.not_lt.2 h']
/-! ### regions that draw their order: plans, of which some steps may branch -/
def heldT (P : Program) (X : Opt) (Z : Option Pn) (ops : Array Oper) (C : Addr → Value → Prop) (D : Sem Value → Value → Prop) (S : World → Prop) : Plan → List Value → World → (List Value → World → Prop) → Prop
  | .done, fr, w, K => K fr w
  | .one i p, fr, w, K => (match nthO ops.toList i with
    | some o => force fr fun fr => gd ops o fr
        (match firstB o with
          | true => firstZ P X C D fr o fun v => spl (guardsB i ops.toList) v fun v => heldT P X Z ops C D S p (putO fr o.dst v) w K
          | false => opR P X Z fr w o fun v w' => (match sinkT ops i with
            | true => spl (guardsB i ops.toList) v fun v => heldT P X Z ops C D S p (putO fr o.dst v) w' K
            | false => S w' ∧ spl (guardsB i ops.toList) v fun v => heldT P X Z ops C D S p (putO fr o.dst v) w' K))
        (heldT P X Z ops C D S p (putO fr o.dst undef) w K)
    | none => False)
  | .alt i p q, fr, w, K => (match nthO ops.toList i with
    | some o => force fr fun fr => gd ops o fr
        (opR P X Z fr w o fun v w' => (match sinkT ops i with
            | true => spl (guardsB i ops.toList) v fun v => heldT P X Z ops C D S p (putO fr o.dst v) w' K
            | false => S w' ∧ spl (guardsB i ops.toList) v fun v => heldT P X Z ops C D S p (putO fr o.dst v) w' K))
        (heldT P X Z ops C D S p (putO fr o.dst undef) w K)
    | none => False) ∧ heldT P X Z ops C D S q fr w K
  | .stop, fr, w, K => True

section
variable {P : Program} {ops : Array Oper} {Q : Exit → Act → World → Prop} {S : World → Prop} {r : Option Nat} {m : Nat}
def wpAnyT (r : Option Nat) (m : Nat) (P : Program) (ops : Array Oper) (Q : Exit → Act → World → Prop) (S : World → Prop) : Nat → Array Bool → Act → World → Prop
  | 0, listed, a, w => Region.ready .any ops listed = [] ∧ Q .normal a w
  | fuel + 1, listed, a, w =>
    (Region.ready .any ops listed = [] → Q .normal a w) ∧
    ∀ i ∈ Region.ready .any ops listed, wpOpIn (Wd r) m P ops Q i (fun a' w' => (sinkT ops i = false → S w → S w') ∧ wpAnyT r m P ops Q S fuel (listed.setIfInBounds i true) a' w') a w
theorem wpAny_of_T : ∀ (fuel : Nat) (listed : Array Bool) (a : Act) (w : World), wpAnyT r m P ops Q S fuel listed a w → wpAnyIn (Wd r) m P .any ops Q fuel listed a w
  | 0, _, _, _, h => h
  | fuel + 1, _, _, _, h => ⟨h.1, fun i hi => wpOpIn_mono (fun a' w' h' => wpAny_of_T fuel _ a' w' h'.2) (h.2 i hi)⟩
theorem wpAnyT_first {i : Nat} {oi : Oper} {v : Value} (hnd : ∀ o ∈ ops.toList, ∀ c, o.op ≠ .defer c) (hi : ops[i]? = some oi) (hfst : firstB oi = true) (hsel : ∀ (j : Nat) (o : Oper) cs b, ops[j]? = some o → o.op ≠ .select cs b)
    (hQ : ∀ c a w, Q (.panic c) (a.put oi.dst v) w → Q (.panic c) a w) :
    ∀ (fuel : Nat) (listed : Array Bool) (a : Act) (w : World), Closed ops listed →
      (∀ j oj, ops[j]? = some oj → j ≠ i → listed.getD j true = false → (∀ e ∈ oj.after, Region.binds .any e = true → e.on ≠ i) → oi.apart ops oj = true) →
      i ∈ Region.ready .any ops listed → YieldsIf P ops S oi v a → S w →
      wpAnyT r m P ops Q S fuel (listed.setIfInBounds i true) (a.put oi.dst v) w → wpAnyT r m P ops Q S (fuel + 1) listed a w := by
  have nd : ∀ {j : Nat} {o : Oper}, ops[j]? = some o → ∀ c, o.op ≠ .defer c := fun hj => hnd _ (Array.mem_toList_iff.2 (Array.mem_of_getElem? hj))
  intro fuel
  induction fuel with
  | zero =>
    intro listed a w _ _ hr hy hS H
    refine ⟨fun h => (by rw [h] at hr; cases hr), fun j hj => ?_⟩
    by_cases hji : j = i
    · subst hji; exact yieldsIf_wpOpIn (nd hi) hi hy hS ⟨fun _ h => h, H⟩
    · have := ready_mono hj hji
      rw [H.1] at this
      cases this
  | succ fuel ih =>
    intro listed a w hcl hfree hr hy hS H
    refine ⟨fun h => (by rw [h] at hr; cases hr), fun j hj => ?_⟩
    by_cases hji : j = i
    · subst hji; exact yieldsIf_wpOpIn (nd hi) hi hy hS ⟨fun _ h => h, H⟩
    · have h1 := H.2 j (ready_mono hj hji)
      obtain ⟨hjun, oj, hoj, hall⟩ := mem_ready.1 hj
      have hnot : ∀ e ∈ oj.after, Region.binds .any e = true → e.on ≠ i := fun e he hb heq => by
        have h1 := hall e he hb
        have h0 := (mem_ready.1 hr).1
        rw [heq] at h1
        rcases Nat.lt_or_ge i listed.size with h' | h'
        · simp [h'] at h0 h1; rw [h0] at h1; cases h1
        · simp [Array.getElem?_eq_none h'] at h1
      have hns : sinkT ops j = false := by
        cases hs : sinkT ops j with
        | false => rfl
        | true =>
          have h1 := sinkT_listed hcl hs hj hi hfst (Ne.symm hji)
          have h0 := (mem_ready.1 hr).1
          rw [getD_true_of h1] at h0; cases h0
      have h2 := wpOpIn_putIf (nd hoj) hoj (hfree j oj hoj hji hjun hnot) (fun cs b => hsel i oi cs b hi) (fun cs b => hsel j oj cs b hoj) hQ hy h1
      have hfree' : ∀ k ok, ops[k]? = some ok → k ≠ i → (listed.setIfInBounds j true).getD k true = false →
          (∀ e ∈ ok.after, Region.binds .any e = true → e.on ≠ i) → oi.apart ops ok = true := fun k ok hk hki hun hno => by
        refine hfree k ok hk hki ?_ hno
        by_cases hjk : j = k
        · subst hjk; exact hjun
        · rw [getD_set_ne true hjk] at hun; exact hun
      refine wpOpIn_mono (fun a' w' h3 => ⟨h3.2.1, ih (listed.setIfInBounds j true) a' w' (hcl.step hj) hfree' (ready_mono hr (Ne.symm hji)) h3.1 (h3.2.1 hns hS) ?_⟩) h2
      rw [Array.setIfInBounds_comm _ _ hji]
      exact h3.2.2
end
theorem heads_mem {P : Program} {X : Opt} {Z : Option Pn} {ops : Array Oper} {C : Addr → Value → Prop} {D : Sem Value → Value → Prop} {S : World → Prop} {fr : List Value} {w : World} {K : List Value → World → Prop} {listed : Array Bool} {n : Nat} : ∀ {q : Plan} {j : Nat}, j ∈ heads q → heldT P X Z ops C D S q fr w K → treeOK ops q true listed = true → sameSteps q = true → (∀ i p q', q = .alt i p q' → steps p = n) →
    ∃ p q', heldT P X Z ops C D S (.alt j p q') fr w K ∧ treeOK ops (.alt j p q') true listed = true ∧ sameSteps p = true ∧ steps p = n
  | .alt i p q, j, hj, h, hok, hs, hn => by
    simp only [heads, List.mem_cons] at hj
    simp only [sameSteps, Bool.and_eq_true] at hs
    rcases hj with rfl | hj
    · exact ⟨p, q, h, hok, hs.1, hn _ _ _ rfl⟩
    · refine heads_mem hj h.2 ?_ hs.2.1 ?_
      · simp only [treeOK, Bool.and_eq_true] at hok
        exact hok.2.2.2
      · intro i' p' q' e
        subst e
        have := Nat.eq_of_beq_eq_true hs.2.2
        rw [this]; exact hn _ _ _ rfl
  | .done, j, hj, _, _, _, _ => by cases hj
  | .one .., j, hj, _, _, _, _ => by cases hj
  | .stop, j, hj, _, _, _, _ => by cases hj
theorem heldT_any {r : Option Nat} {m : Nat} {P : Program} {X : Opt} {Z : Option Pn} {ops : Array Oper} {C : Addr → Value → Prop} {D : Sem Value → Value → Prop} {S S' : World → Prop} {Q : Exit → Act → World → Prop} {ds : List Nat}
    (hC : ∀ w, S' w → ∀ a x, C a x → w.cell? a = some x) (hD : ∀ w, S' w → ∀ m v, D m v → m.run P w = .ok v w) (hS : ∀ w, S w → S' w) (hsel : Region.noSelect ops = true) (hnd : ∀ o ∈ ops.toList, ∀ c, o.op ≠ .defer c)
    (hQ : ∀ c a w d v, Q (.panic c) (a.put d v) w → Q (.panic c) a w) (hZ : ∀ ch fr' w', zp Z ch w' → Q (.panic ch) (actD fr' ds) w') {K : List Value → World → Prop} :
    ∀ (n : Nat) (pl : Plan) (listed : Array Bool) (fr : List Value) (w : World), steps pl = n → sameSteps pl = true → Closed ops listed → treeOK ops pl false listed = true →
      (S' w ∨ ∀ (i : Nat) (o : Oper), ops[i]? = some o → firstB o = true → listed.getD i true = true) →
      (∀ fr' w, agree (asgO ops.toList) fr fr' → K fr' w → Q .normal (actD fr' ds) w) →
      heldT P X Z ops C D S pl fr w K → wpAnyT r m P ops Q S' n listed (actD fr ds) w := by
  have nd : ∀ {j : Nat} {o : Oper}, ops[j]? = some o → ∀ c, o.op ≠ .defer c := fun hj => hnd _ (Array.mem_toList_iff.2 (Array.mem_of_getElem? hj))
  intro n
  induction n with
  | zero =>
    intro pl listed fr w hst hss hcl hok hw hk h
    cases pl with
    | done =>
      simp only [treeOK, Bool.not_false, Bool.true_and] at hok
      exact ⟨by simpa using hok, hk _ _ (agree_refl _ _) h⟩
    | one i p => simp [steps] at hst
    | alt i p q => simp [steps] at hst
    | stop => cases hok
  | succ n ih =>
    intro pl listed fr w hst hss hcl hok hst2 hk h
    -- one step that is no first one
    have stepN : ∀ (j : Nat) (o : Oper) (p : Plan), ops[j]? = some o → firstB o = false → j ∈ Region.ready .any ops listed → steps p = n → sameSteps p = true → treeOK ops p false (listed.setIfInBounds j true) = true →
        gd ops o fr (opR P X Z fr w o fun v w' => (match sinkT ops j with
            | true => spl (guardsB j ops.toList) v fun v => heldT P X Z ops C D S p (putO fr o.dst v) w' K
            | false => S w' ∧ spl (guardsB j ops.toList) v fun v => heldT P X Z ops C D S p (putO fr o.dst v) w' K)) (heldT P X Z ops C D S p (putO fr o.dst undef) w K) →
        wpOpIn (Wd r) m P ops Q j (fun a' w' => (sinkT ops j = false → S' w → S' w') ∧ wpAnyT r m P ops Q S' n (listed.setIfInBounds j true) a' w') (actD fr ds) w := by
      intro j o p hoi hf hmem hsp hssp hok2 h
      have hk' : ∀ v fr' w, agree (asgO ops.toList) (putO fr o.dst v) fr' → K fr' w → Q .normal (actD fr' ds) w := fun v fr' w ha =>
        hk fr' w (agree_trans (agree_putO (Array.mem_toList_iff.2 (Array.mem_of_getElem? hoi)) fr v) ha)
      have hsink : sinkT ops j = true → ∀ (k : Nat) (ok : Oper), ops[k]? = some ok → firstB ok = true → (listed.setIfInBounds j true).getD k true = true := fun hs k ok hk' hfk => by
        have hkj : k ≠ j := fun e => by subst e; rw [hoi] at hk'; cases hk'; rw [hf] at hfk; cases hfk
        exact getD_set_true' (getD_true_of (sinkT_listed hcl hs hmem hk' hfk hkj))
      have hkeep : (∀ (k : Nat) (ok : Oper), ops[k]? = some ok → firstB ok = true → listed.getD k true = true) → ∀ (k : Nat) (ok : Oper), ops[k]? = some ok → firstB ok = true → (listed.setIfInBounds j true).getD k true = true :=
        fun hh k ok hk' hfk => getD_set_true' (hh k ok hk' hfk)
      unfold wpOpIn
      simp only [hoi]
      rcases gdD_cases (ds := ds) h with ⟨hwt, h⟩ | ⟨hwt, h⟩
      · rw [if_pos hwt]
        refine outR_in (opR_noDefer h) hZ (opR_out h) fun v w' h => ?_
        cases hs : sinkT ops j with
        | true =>
          simp only [hs] at h
          exact ⟨fun e => absurd e (by simp), ih p _ _ _ hsp hssp (hcl.step hmem) hok2 (.inr (hsink hs)) (hk' _) (spl_out h)⟩
        | false =>
          simp only [hs] at h
          exact ⟨fun _ _ => hS _ h.1, ih p _ _ _ hsp hssp (hcl.step hmem) hok2 (.inl (hS _ h.1)) (hk' _) (spl_out h.2)⟩
      · rw [if_neg (by simp [hwt]), actD_put]
        refine ⟨fun _ _ => trivial, fun _ h => h, ih p _ _ _ hsp hssp (hcl.step hmem) hok2 ?_ (hk' _) h⟩
        rcases hst2 with hst2 | hst2
        · exact .inl hst2
        · exact .inr (hkeep hst2)
    cases pl with
    | done => simp [steps] at hst
    | stop => cases hok
    | one i p =>
      simp only [treeOK, Bool.not_false, Bool.true_and, Bool.and_eq_true] at hok
      obtain ⟨hok1, hok2⟩ := hok
      simp only [heldT] at h
      simp only [steps, Nat.add_right_cancel_iff] at hst
      simp only [sameSteps] at hss
      split at h
      rotate_left
      · exact h.elim
      rename_i o ho
      simp only [ho] at hok1
      have hoi : ops[i]? = some o := by rw [nthO_eq, Array.getElem?_toList] at ho; exact ho
      have hk' : ∀ v fr' w, agree (asgO ops.toList) (putO fr o.dst v) fr' → K fr' w → Q .normal (actD fr' ds) w := fun v fr' w ha =>
        hk fr' w (agree_trans (agree_putO (Array.mem_toList_iff.2 (Array.mem_of_getElem? hoi)) fr v) ha)
      rw [force_eq] at h
      cases hf : firstB o with
      | true =>
        simp only [hf, Bool.and_eq_true] at hok1 h
        have hmem : i ∈ Region.ready .any ops listed := by simpa using hok1.2
        have hw : S' w := by
          rcases hst2 with hst2 | hst2
          · exact hst2
          · have := hst2 i o hoi hf
            rw [(mem_ready.1 hmem).1] at this
            cases this
        have next : ∀ v, YieldsIf P ops S' o v (actD fr ds) → heldT P X Z ops C D S p (putO fr o.dst v) w K → wpAnyT r m P ops Q S' (n + 1) listed (actD fr ds) w := fun v hy hh => by
          refine wpAnyT_first hnd hoi hf (Region.noSelect_spec hsel) (fun c a w => hQ c a w _ _) n listed (actD fr ds) w hcl (Region.free_spec hoi hok1.1) hmem hy hw ?_
          rw [actD_put]
          exact ih p _ _ _ hst hss (hcl.step hmem) hok2 (.inl hw) (hk' _) hh
        rcases gdD_cases (ds := ds) h with ⟨hwt, h⟩ | ⟨hwt, h⟩
        · obtain ⟨v, hv, hr⟩ := firstZ_run (hC w hw) h
          exact next v (.inl ⟨hwt, fun w' hw' => by rw [actD_eval]; exact hr w' (hC w' hw') (hD w' hw')⟩) (spl_out hv)
        · exact next undef (.inr ⟨hwt, rfl⟩) h
      | false =>
        simp only [hf] at hok1 h
        have hready := eqL_out hok1
        have hmem : i ∈ Region.ready .any ops listed := by rw [hready]; simp
        refine ⟨fun h0 => (by rw [hready] at h0; cases h0), fun j hj => ?_⟩
        rw [hready] at hj
        obtain rfl : j = i := by simpa using hj
        exact stepN j o p hoi hf hmem hst hss hok2 h
    | alt i p q =>
      have hok' : treeOK ops (.alt i p q) true listed = true := by
        simp only [treeOK, Bool.and_eq_true] at hok ⊢
        exact ⟨trivial, hok.2⟩
      have hready : Region.ready .any ops listed = heads (.alt i p q) := by
        simp only [treeOK, Bool.and_eq_true] at hok
        exact eqL_out hok.1
      simp only [steps, Nat.add_right_cancel_iff] at hst
      refine ⟨fun h0 => (by rw [hready] at h0; cases h0), fun j hj => ?_⟩
      have hmem := hj
      rw [hready] at hj
      obtain ⟨p', q', h, hokj, hss', hst'⟩ := heads_mem (n := n) hj h hok' hss (by intro i' p'' q'' e; cases e; exact hst)
      simp only [treeOK, Bool.true_and, Bool.and_eq_true] at hokj
      obtain ⟨hf, hok2, _⟩ := hokj
      have h := h.1
      split at h
      rotate_left
      · exact h.elim
      rename_i o ho
      simp only [ho, Bool.not_eq_true'] at hf
      have hoi : ops[j]? = some o := by rw [nthO_eq, Array.getElem?_toList] at ho; exact ho
      rw [force_eq] at h
      exact stepN j o p' hoi hf hmem hst' hss' hok2 h

/-! ### regions that draw -/
def allSinkT (ops : Array Oper) : Nat → List Oper → Bool
  | _, [] => true
  | i, o :: os => (match firstB o with | true => true | false => sinkT ops i) && allSinkT ops (i + 1) os
def plannedR (P : Program) (X : Opt) (Z : Option Pn) (ops : Array Oper) (pl : Plan) (fr : List Value) (w : World) (K : List Value → World → Prop) : Prop :=
  match allSinkT ops 0 ops.toList with
  | true => heldT P X Z ops (fun a x => w.cell? a = some x) (fun m v => m.run P w.drew = .ok v w.drew) (fun _ => False) pl fr w.drew K
  | false => ∃ S : World → Prop, S w.drew ∧ heldT P X Z ops (fun a x => ∀ w', S w' → w'.cell? a = some x) (fun m v => ∀ w', S w' → m.run P w' = .ok v w') S pl fr w.drew K
def drawnR (P : Program) (X : Opt) (Z : Option Pn) (ops : Array Oper) (pl : Plan) (cut : Option (List Nat × List Sh)) (fr : List Value) (w : World) (K : List Value → World → Prop) : Prop :=
  when (planTree P ops pl) (match cut with
    | none => plannedR P X Z ops pl fr w K
    | some (slots, ss) => when (decide (slots.length = ss.length)) (cutV slots ss (asgO ops.toList) fr (plannedR P X Z ops pl fr w) K))
theorem plannedR_wp {r : Option Nat} {m : Nat} {P : Program} {X : Opt} {Z : Option Pn} {ops : Array Oper} {pl : Plan} {fr : List Value} {ds : List Nat} {w : World} {K : List Value → World → Prop} {Q : Exit → Act → World → Prop} {id : Nat}
    (h1 : planTree P ops pl = true) (h : plannedR P X Z ops pl fr w K) (hZ : ∀ ch fr' w', zp Z ch w' → Q (.panic ch) (actD fr' ds) w') (hQ : ∀ c a w d v, Q (.panic c) (a.put d v) w → Q (.panic c) a w) (hk : ∀ fr' w, agree (asgO ops.toList) fr fr' → K fr' w → Q .normal (actD fr' ds) w) :
    (Code.region id ops true).wpIn (Wd r) m P Q (actD fr ds) w := by
  simp only [planTree, Bool.and_eq_true] at h1
  obtain ⟨⟨⟨⟨⟨hm, hsel⟩, hnd⟩, hlen⟩, hss⟩, hok⟩ := h1
  have hlen := Nat.eq_of_beq_eq_true hlen
  have hnd := noDefer_out hnd
  refine wpIn_region_any hm ?_
  have hcl0 : Closed ops (Array.replicate ops.size false) := fun k ok _ hl => by
    rcases Nat.lt_or_ge k ops.size with h' | h'
    · simp [h'] at hl
    · simp [Nat.not_lt.2 h'] at hl
  unfold plannedR at h
  split at h
  · have := heldT_any (r := r) (m := m) (P := P) (S' := fun w' => w' = w.drew) (by rintro w' rfl a x hx; exact hx) (by rintro w' rfl m v hx; exact hx) (fun _ h => h.elim) hsel hnd hQ hZ _ pl _ fr w.drew hlen hss hcl0 hok (.inl rfl) hk h
    exact wpAny_of_T (S := fun w' => w' = w.drew) _ _ _ _ this
  · obtain ⟨S, hS, h⟩ := h
    have := heldT_any (r := r) (m := m) (P := P) (S' := S) (fun w' hw' a x hx => hx w' hw') (fun w' hw' m v hx => hx w' hw') (fun _ h => h) hsel hnd hQ hZ _ pl _ fr w.drew hlen hss hcl0 hok (.inl hS) hk h
    exact wpAny_of_T (S := S) _ _ _ _ this
theorem drawnR_wp {r : Option Nat} {m : Nat} {P : Program} {X : Opt} {Z : Option Pn} {ops : Array Oper} {pl : Plan} {cut : Option (List Nat × List Sh)} {fr : List Value} {ds : List Nat} {w : World} {K : List Value → World → Prop} {Q : Exit → Act → World → Prop} {id : Nat}
    (h : drawnR P X Z ops pl cut fr w K) (hZ : ∀ ch fr' w', zp Z ch w' → Q (.panic ch) (actD fr' ds) w') (hQ : ∀ c a w d v, Q (.panic c) (a.put d v) w → Q (.panic c) a w) (hk : ∀ fr' w, agree (asgO ops.toList) fr fr' → K fr' w → Q .normal (actD fr' ds) w) :
    (Code.region id ops true).wpIn (Wd r) m P Q (actD fr ds) w := by
  unfold drawnR at h
  obtain ⟨h1, h⟩ := when_cases h
  split at h
  · exact plannedR_wp h1 h hZ hQ hk
  · rename_i slots ss
    obtain ⟨hl, h⟩ := when_cases h
    have hl := of_decide_eq_true hl
    obtain ⟨J, h2, h3⟩ := h
    refine plannedR_wp h1 h2 hZ hQ fun fr' w' ha hJ => ?_
    obtain ⟨p, hp, hall⟩ := apShs_val (by rw [vals_len]; exact hl) hJ
    have := hall _ h3 (nth fr') w' hJ
    rw [fills_back ha] at this
    exact hk _ _ ha this

/-! ### loops, ranges over functions -/
/-! ### code -/
def codeR (P : Program) (A : AnnR) (Z : Option Pn) : Option Nat → Nat → Code → (Exit → List Value → List Nat → World → Prop) → List Value → List Nat → World → Prop
  | _, _, .skip, K, fr, ds, w => K .normal fr ds w
  | _, _, .label _, K, fr, ds, w => K .normal fr ds w
  | _, _, .exit id, K, fr, ds, w => K (.exit id) fr ds w
  | _, _, .ret, K, fr, ds, w => K .ret fr ds w
  | r, _, .region id ops draw, K, fr, ds, w => (match draw with
    | false => opsR P A.opt Z ops 0 ops.toList fr w (fun fr w => K .normal fr ds w)
    | true => drawnR P A.opt Z ops (A.plans id) (A.cuts id) fr w (fun fr w => K .normal fr ds w))
  | r, n, .seq a b, K, fr, ds, w => (match A.cuts (1000000 + regOf b) with
    | none => codeR P A Z r n a (fun e fr ds w => match e with | .normal => codeR P A Z r (n + nloopsR a) b K fr ds w | e => K e fr ds w) fr ds w
    | some (slots, ss) => when (decide (slots.length = ss.length)) (when (!hasRange a) (cutV slots ss (asg a) fr (fun K2 => codeR P A Z r n a (fun e fr2 ds2 w2 => match e with | .normal => K2 fr2 w2 | e => K e fr2 ds2 w2) fr ds w) (fun fr2 w2 => codeR P A Z r (n + nloopsR a) b K fr2 ds w2))))
  | r, n, .cond c a b, K, fr, ds, w => (match ev fr c with
    | .bool t => sel t (codeR P A Z r n a K fr ds w) (codeR P A Z r (n + nloopsR a) b K fr ds w)
    | _ => False)
  | r, n, .block id c, K, fr, ds, w => codeR P A Z r n c (fun e fr ds w => match e with
    | .exit id' => (match Nat.beq id' id with | true => K .normal fr ds w | false => K (.exit id') fr ds w)
    | e => K e fr ds w) fr ds w
  | r, n, .loop c, K, fr, ds, w => loopR (hasRange c) (A.loops n) (asg c) fr ds w (codeR P A Z r (n + 1) c) K
  | r, n, .scope c, K, fr, ds, w => codeR P A Z r n c (fun e fr ds w => match e with | .goto _ => False | e => K e fr ds w) fr ds w
  | r, n, .rangeFunc g ps a b, K, fr, ds, w => rangeR P r (ev fr g) ps.toList (A.shs n) (outs b) (hasRet b) fr ds w (fun l => codeR P A none (some l) (n + 1) a) (fun l => codeR P A none (some l) (n + 1 + nloopsR a) b) K
  | _, _, _, _, _, _, _ => False

theorem zz {c : Code} {Z : Option Pn} {Q : Exit → Act → World → Prop} {ds : List Nat} (h : Z = none ∨ (hasRange c = false ∧ ∀ ch fr' w', zp Z ch w' → Q (.panic ch) (actD fr' ds) w')) : ∀ ch fr' w', zp Z ch w' → Q (.panic ch) (actD fr' ds) w' := by
  rcases h with rfl | h
  · exact fun _ _ _ h => h.elim
  · exact h.2
theorem codeR_wp {P : Program} {A : AnnR} : ∀ {c : Code} {Z : Option Pn} {r : Option Nat} {n m : Nat} {K : Exit → List Value → List Nat → World → Prop} {fr : List Value} {ds : List Nat} {w : World} {Q : Exit → Act → World → Prop},
    codeR P A Z r n c K fr ds w → (Z = none ∨ (hasRange c = false ∧ ∀ ch fr' w', zp Z ch w' → Q (.panic ch) (actD fr' ds) w')) → (∀ c a w d v, Q (.panic c) (a.put d v) w → Q (.panic c) a w) →
    (∀ e fr' ds' w', agree (asg c) fr fr' → (hasRange c = false → ds' = ds) → K e fr' ds' w' → Q e (actD fr' ds') w') → c.wpIn (Wd r) m P Q (actD fr ds) w := by
  intro c
  induction c with
  | skip => intro Z r n m K fr ds w Q h hZ hQ hk; exact wpIn_skip (hk _ _ _ _ (agree_refl _ _) (fun _ => rfl) h)
  | label l => intro Z r n m K fr ds w Q h hZ hQ hk; exact wpIn_label (hk _ _ _ _ (agree_refl _ _) (fun _ => rfl) h)
  | exit id => intro Z r n m K fr ds w Q h hZ hQ hk; exact wpIn_exit (hk _ _ _ _ (agree_refl _ _) (fun _ => rfl) h)
  | ret => intro Z r n m K fr ds w Q h hZ hQ hk; exact wpIn_ret (hk _ _ _ _ (agree_refl _ _) (fun _ => rfl) h)
  | goto l => intro Z r n m K fr ds w Q h hZ hQ hk; exact h.elim
  | refuse r => intro Z r n m K fr ds w Q h hZ hQ hk; exact h.elim
  | region id ops draw =>
    intro Z r n m K fr ds w Q h hZ hQ hk
    cases draw with
    | false => exact wpIn_region_list (opsR_wp (A := asgO ops.toList) (zz hZ) (fun o ho => agree_putO ho) h fun fr' w ha hK => hk _ _ _ _ ha (fun _ => rfl) hK)
    | true => exact drawnR_wp h (zz hZ) hQ fun fr' w ha hK => hk _ _ _ _ ha (fun _ => rfl) hK
  | seq a b iha ihb =>
    intro Z r n m K fr ds w Q h hZ hQ hk
    have hr1 : hasRange (.seq a b) = false → hasRange a = false := fun h => by simp only [hasRange, Bool.or_eq_false_iff] at h; exact h.1
    have hr2 : hasRange (.seq a b) = false → hasRange b = false := fun h => by simp only [hasRange, Bool.or_eq_false_iff] at h; exact h.2
    unfold codeR at h
    split at h
    · refine wpIn_seq (iha h (hZ.imp id fun h => ⟨hr1 h.1, h.2⟩) (fun c a w d v => hQ c a w d v) fun e fr' ds' w' ha hd hK => ?_)
      cases e with
      | normal => exact ihb hK (hZ.imp id fun h => ⟨hr2 h.1, by rw [hd (hr1 h.1)]; exact h.2⟩) hQ fun e fr'' ds'' w'' ha' hd' hK' => hk _ _ _ _ (agree_trans (agree_left ha) (agree_right ha')) (fun h => (hd' (hr2 h)).trans (hd (hr1 h))) hK'
      | _ => exact hk _ _ _ _ (agree_left ha) (fun h => hd (hr1 h)) hK
    · rename_i slots ss _
      obtain ⟨hl, h⟩ := when_cases h
      have hl := of_decide_eq_true hl
      obtain ⟨hra, h⟩ := when_cases h
      have hra : hasRange a = false := by simpa using hra
      obtain ⟨J, h2, h3⟩ := h
      refine wpIn_seq (iha h2 (hZ.imp id fun h => ⟨hr1 h.1, h.2⟩) (fun c a w d v => hQ c a w d v) fun e fr' ds' w' ha hd hK => ?_)
      obtain rfl := hd hra
      cases e with
      | normal =>
        obtain ⟨p, hp, hall⟩ := apShs_val (by rw [vals_len]; exact hl) hK
        have hb := hall _ h3 (nth fr') w' hK
        rw [fills_back ha] at hb
        exact ihb hb (hZ.imp id fun h => ⟨hr2 h.1, h.2⟩) hQ fun e fr'' ds'' w'' ha' hd' hK' => hk _ _ _ _ (agree_trans (agree_left ha) (agree_right ha')) (fun h => hd' (hr2 h)) hK'
      | _ => exact hk _ _ _ _ (agree_left ha) (fun h => rfl) hK
  | cond x a b iha ihb =>
    intro Z r n m K fr ds w Q h hZ hQ hk
    simp only [codeR] at h
    have hr1 : hasRange (.cond x a b) = false → hasRange a = false := fun h => by simp only [hasRange, Bool.or_eq_false_iff] at h; exact h.1
    have hr2 : hasRange (.cond x a b) = false → hasRange b = false := fun h => by simp only [hasRange, Bool.or_eq_false_iff] at h; exact h.2
    split at h
    · rename_i t ht
      have ht : (actD fr ds).eval x = .bool t := by rw [actD_eval]; exact ht
      rcases sel_cases h with ⟨rfl, h⟩ | ⟨rfl, h⟩
      · exact wpIn_cond_true ht (iha h (hZ.imp id fun h => ⟨hr1 h.1, h.2⟩) hQ fun e fr' ds' w' ha hd hK => hk _ _ _ _ (agree_left ha) (fun h => hd (hr1 h)) hK)
      · exact wpIn_cond_false ht (ihb h (hZ.imp id fun h => ⟨hr2 h.1, h.2⟩) hQ fun e fr' ds' w' ha hd hK => hk _ _ _ _ (agree_right ha) (fun h => hd (hr2 h)) hK)
    · exact h.elim
  | block id c ih =>
    intro Z r n m K fr ds w Q h hZ hQ hk
    refine wpIn_block (ih h hZ (fun c a w d v => hQ c a w d v) fun e fr' ds' w' ha hd hK => ?_)
    cases e with
    | exit id' =>
      simp only [Exit.inBlock]
      cases hb : Nat.beq id' id with
      | true =>
        obtain rfl := Nat.eq_of_beq_eq_true hb
        simp only [hb] at hK
        simp only [if_true]
        exact hk _ _ _ _ ha hd hK
      | false =>
        simp only [hb] at hK
        have : id' ≠ id := fun e => by subst e; simp at hb
        rw [if_neg this]
        exact hk _ _ _ _ ha hd hK
    | _ => exact hk _ _ _ _ ha hd hK
  | scope c ih =>
    intro Z r n m K fr ds w Q h hZ hQ hk
    refine wpIn_scopeW (ih h hZ (fun c a w d v => hQ c a w d v) fun e fr' ds' w' ha hd hK => ?_)
    cases e with
    | goto l => exact hK
    | _ => exact hk _ _ _ _ ha hd hK
  | loop c ih =>
    intro Z r n m K fr ds w Q h hZ hQ hk
    simp only [codeR] at h
    generalize hcar : A.loops n = carried at *
    have hlen : ∀ fr', (vals fr' carried).length = (kinds fr carried).length := fun fr' => vals_length fr' fr carried
    generalize hrg : hasRange c = rg at *
    have hrg' : hasRange (.loop c) = rg := hrg
    cases rg with
    | false =>
      obtain ⟨I, μ, h0, hr⟩ := h
      classical
      let M : Act → World → Nat := fun a w' => if h : ∃ r : World → Nat, ∀ K', apKs (kinds fr carried) μ (vals a.tmps.toList carried) K' ↔ K' r then (Classical.choose h) w' else 0
      have hM : ∀ (fr' : List Value) (ds' : List Nat) (r : World → Nat), (∀ K', apKs (kinds fr carried) μ (vals fr' carried) K' ↔ K' r) → ∀ w', M (actD fr' ds') w' = r w' := fun fr' ds' r hr' w' => by
        have hex : ∃ r : World → Nat, ∀ K', apKs (kinds fr carried) μ (vals (actD fr' ds').tmps.toList carried) K' ↔ K' r := ⟨r, hr'⟩
        have h1 := Classical.choose_spec hex
        have h2 : r = Classical.choose hex := ((hr' (fun x => x = Classical.choose hex)).1 ((h1 _).2 rfl))
        show dite _ _ _ = _
        rw [dif_pos hex, ← h2]
      refine wpIn_loop (fun a w' => ∃ fr1, a = actD fr1 ds ∧ agree (asg c) fr fr1 ∧ apKs (kinds fr carried) I (vals fr1 carried) (fun p => p w')) M ⟨fr, rfl, agree_refl _ _, h0⟩ ?_
      rintro a w' ⟨fr1, rfl, hag, hI⟩
      obtain ⟨q0, hr1, hall⟩ := apKs_val (hlen fr1) hI
      have hb := (hr1 _).1 (hall _ hr (nth fr1) w') ((hr1 _).1 hI)
      rw [fills_back hag] at hb
      refine ih hb (hZ.imp id fun h => ⟨rfl, h.2⟩) (fun c a w d v => hQ c a w d v) fun e fr2 ds2 w2 ha hd hK => ?_
      have hag2 := agree_trans hag ha
      obtain rfl := hd rfl
      cases e with
      | normal =>
        obtain ⟨q, hq, _⟩ := apKs_val (hlen fr2) hK
        obtain ⟨hq1, hK2⟩ := (hq _).1 hK
        obtain ⟨m2, hm2, _⟩ := apKs_val (hlen fr2) hK2
        have hK3 := (hm2 _).1 hK2
        obtain ⟨m, hm, _⟩ := apKs_val (hlen fr1) hK3
        have hlt := (hm _).1 hK3
        exact ⟨⟨fr2, rfl, hag2, (hq _).2 hq1⟩, by rw [hM fr2 _ m2 hm2, hM fr1 _ m hm]; exact hlt⟩
      | _ => exact hk _ _ _ _ hag2 (fun _ => rfl) hK
    | true =>
      obtain ⟨I, μ, h0, hr⟩ := h
      classical
      let M : Act → World → Nat := fun a w' => if h : ∃ r : World → Nat, ∀ K', apKs (kinds fr carried) μ (vals a.tmps.toList carried) K' ↔ K' r then (Classical.choose h) w' else 0
      have hM : ∀ (fr' : List Value) (ds' : List Nat) (r : World → Nat), (∀ K', apKs (kinds fr carried) μ (vals fr' carried) K' ↔ K' r) → ∀ w', M (actD fr' ds') w' = r w' := fun fr' ds' r hr' w' => by
        have hex : ∃ r : World → Nat, ∀ K', apKs (kinds fr carried) μ (vals (actD fr' ds').tmps.toList carried) K' ↔ K' r := ⟨r, hr'⟩
        have h1 := Classical.choose_spec hex
        have h2 : r = Classical.choose hex := ((hr' (fun x => x = Classical.choose hex)).1 ((h1 _).2 rfl))
        show dite _ _ _ = _
        rw [dif_pos hex, ← h2]
      refine wpIn_loop (fun a w' => ∃ fr1 ds1, a = actD fr1 ds1 ∧ agree (asg c) fr fr1 ∧ apKs (kinds fr carried) I (vals fr1 carried) (fun p => p ds1 w')) M ⟨fr, ds, rfl, agree_refl _ _, h0⟩ ?_
      rintro a w' ⟨fr1, ds1, rfl, hag, hI⟩
      obtain ⟨q0, hr1, hall⟩ := apKs_val (hlen fr1) hI
      have hb := (hr1 _).1 (hall _ hr (nth fr1) ds1 w') ((hr1 _).1 hI)
      rw [fills_back hag] at hb
      refine ih hb (.inl (hZ.resolve_right fun h => by rw [hrg'] at h; cases h.1)) (fun c a w d v => hQ c a w d v) fun e fr2 ds2 w2 ha hd hK => ?_
      have hag2 := agree_trans hag ha
      cases e with
      | normal =>
        obtain ⟨q, hq, _⟩ := apKs_val (hlen fr2) hK
        obtain ⟨hq1, hK2⟩ := (hq _).1 hK
        obtain ⟨m2, hm2, _⟩ := apKs_val (hlen fr2) hK2
        have hK3 := (hm2 _).1 hK2
        obtain ⟨m, hm, _⟩ := apKs_val (hlen fr1) hK3
        have hlt := (hm _).1 hK3
        exact ⟨⟨fr2, ds2, rfl, hag2, (hq _).2 hq1⟩, by rw [hM fr2 _ m2 hm2, hM fr1 _ m hm]; exact hlt⟩
      | _ => exact hk _ _ _ _ hag2 (fun h => by rw [hrg'] at h; cases h) hK
  | rangeFunc g ps a b iha ihb =>
    intro Z r n m K fr ds w Q h hZ hQ hk
    obtain rfl : Z = none := hZ.resolve_right fun h => by cases h.1
    simp only [codeR, rangeR] at h
    split at h
    rotate_left
    · exact h.elim
    rename_i gf first cap hg
    obtain ⟨h1, h⟩ := when_cases h
    simp only [Bool.and_eq_true] at h1
    obtain ⟨hb1, hlen⟩ := h1
    have hlen := Nat.eq_of_beq_eq_true hlen
    -- what both ways share: the call and what is behind it
    have key : ∀ (fn l : Nat) (mark : List Nat) (dfs : Nat) (w1 : World) (Rc : Loop), Rc = { state := .ready, pending := none, fn := fn, tmps := ⟨fr⟩, params := ps, assign := a, body := b, defers := dfs } →
        coreR P gf first cap l Rc w1 ps.toList (A.shs n) (outs b) (hasRet b) fr (mark ++ ds) (codeR P A none (some l) (n + 1) a) (codeR P A none (some l) (n + 1 + nloopsR a) b) K →
        CallsIn (Wd r) (m - 1) P gf ((first ++ #[Value.func (.yield l) #[] #[]]) ++ cap) w1 (rangePost (Wd r) m P l Q (actD fr (mark ++ ds))) := by
      intro fn l mark dfs w1 Rc hRc hcore
      refine callsIn_Wd ?_
      have hround : roundR P l Rc ps.toList (A.shs n) fr (codeR P A none (some l) (n + 1) a) (codeR P A none (some l) (n + 1 + nloopsR a) b) := by
        refine allShs_intro fun vs hvs W R hst hca => ?_
        have hst' : W.heap[l]? = some (.loop { Rc with state := .ready, pending := none }) := hst
        have hpl : ps.size = vs.length := by rw [← Array.length_toList]; omega
        refine ⟨fn, ⟨fills fr ps.toList vs⟩, a, b, ?_, round_Wd (r := none) (m := 0) (roundIn_of_wpIn (F := Wd none) (n := 0) trivial ?_) (r' := none) (m' := 0)⟩
        · have := run_yield (P := P) (w := W) (args := ⟨vs⟩) hst' (by rw [hRc]; simpa using hpl.symm)
          rw [this, hRc]
          congr 2
          rw [← fill_zip, ← Array.foldl_toList, Array.toList_zip]
        · have := iha (r := some l) (m := 0) (Q := Exit.then (fun a₁ w₁ => ∃ w₂, (Instr.beginRound l).run P w₁ = .ok () w₂ ∧ b.wpIn ((Wd none).inRound l) 0 P (roundPost P l R) a₁ w₂) (fun _ _ _ => False)) hca (.inl rfl) (fun c a w d v h => h) ?_
          · exact this
          · intro e fr1 ds1 W1 _ _ hK
            cases e with
            | normal =>
              obtain ⟨hs1, hcb⟩ := hK
              have hs1' : W1.heap[l]? = some (.loop { Rc with state := .ready, pending := none }) := hs1
              refine ⟨_, run_beginRound hs1' rfl, ?_⟩
              refine ihb (r := some l) (m := 0) (Q := roundPost P l R) hcb (.inl rfl) (fun c a w d v h => h) ?_
              intro e fr2 ds2 W2 _ _ hK
              cases e with
              | normal => exact ⟨_, _, run_endRound none hK.1, hK.2⟩
              | ret => exact ⟨_, _, run_endRound (some .ret) hK.1, hK.2⟩
              | exit id => exact ⟨_, _, run_endRound (some (.exit id)) hK.1, hK.2⟩
              | _ => exact hK.elim
            | _ => exact hK.elim
      refine Calls.mono (R := fun e w3 => (∃ v, e = .returned v) ∧ finR l Rc (hasRet b) (outs b) fr (mark ++ ds) w3 K) ?_ ?_
      · have := hcore hround
        have e2 : (⟨first.toList ++ [Value.func (.yield l) #[] #[]] ++ cap.toList⟩ : Array Value) = (first ++ #[Value.func (.yield l) #[] #[]]) ++ cap := by
          apply Array.ext'; simp
        rw [e2] at this
        exact this
      · rintro e w3 ⟨⟨v, rfl⟩, hf⟩
        have hk' : ∀ e w', K e fr (mark ++ ds) w' → Q e (actD fr (mark ++ ds)) w' := fun e w' h => hk _ _ _ _ (agree_refl _ _) (fun h => by cases h) h
        have hids : ∀ ids, idsR l Rc fr (mark ++ ds) w3 K ids → rangePost (Wd r) m P l Q (actD fr (mark ++ ds)) (.returned v) w3 := by
          intro ids
          induction ids with
          | nil => intro h; exact h.elim
          | cons id ids ihi =>
            intro h
            rcases h with ⟨h1, h2⟩ | h
            · exact ⟨some (.exit id), _, run_endLoop h1 (by simp), wpIn_exit (hk' _ _ h2)⟩
            · exact ihi h
        rcases hf with ⟨h1, h2⟩ | hf
        · exact ⟨none, _, run_endLoop h1 (by simp), hk' _ _ h2⟩
        · cases hrt : hasRet b with
          | true =>
            rw [hrt] at hf
            rcases hf with ⟨h1, h2⟩ | hf
            · exact ⟨some .ret, _, run_endLoop h1 (by simp), wpIn_ret (hk' _ _ h2)⟩
            · exact hids _ hf
          | false => rw [hrt] at hf; exact hids _ hf
    have hres : ∀ (l : Nat) (w1 : World), (resolve (actD fr ds).eval (rangeCall g l) 0).run P w1 = .ok { target := .fn (.func gf) cap, args := first ++ #[Value.func (.yield l) #[] #[]] } w1 := by
      intro l w1
      have e3 : (#[Operand.const (Value.func (.yield l) #[] #[])] : Array Operand).map (ev fr) = #[Value.func (.yield l) #[] #[]] := by simp [ev]
      simp only [resolve, actD_eval, rangeCall, hg, Deferred.ofValue, e3, Sem.run_pure]
    have hinv : ∀ (l : Nat) (w1 : World), (invoke (.fn (.func gf) cap) (first ++ #[Value.func (.yield l) #[] #[]])).run P w1 = .ok (.enter gf ((first ++ #[Value.func (.yield l) #[] #[]]) ++ cap)) w1 := by
      intro l w1
      have := run_callFunc (P := P) hb1 ((first ++ #[Value.func (.yield l) #[] #[]]) ++ cap) w1
      simpa [invoke] using this
    refine wpIn_rangeFunc fun fn _ => ?_
    cases r with
    | none => exact ⟨_, _, _, _, _, gf, _, _, run_enterLoop_outer fn _ _ _ _, hres _ _, fun _ _ => trivial, hinv _ _, fun h => (by cases h), key fn _ [w.heap.size] w.heap.size _ _ rfl (h _ _ _ rfl rfl)⟩
    | some l0 =>
      obtain ⟨⟨r0, h0⟩, h⟩ := h
      exact ⟨_, _, _, _, _, gf, _, _, enterInner h0 fn _ _ _ _, hres _ _, fun _ _ => trivial, hinv _ _, fun h => (by cases h), key fn _ [] r0.defers _ _ rfl (h _ _ _ rfl rfl)⟩

/-! ### calls -/
theorem calls_of_Z {P : Program} {f : FuncId} {fn : Func} {c : Code} {args : List Value} {w : World} {R : Ending → World → Prop} (A : AnnR)
    (hf : P.funcs[f]? = some fn) (hb : fn.body = some c) (hc : hasRange c = false)
    (h : codeR P A (some fun ch w' => R (.panicked ch) w') none 0 c (fun e fr ds w' => match e with
      | .normal => closeR ds w' fun w' => resR P A.opt.big fn.results.toList fr w' fun v => R (.returned v) w'
      | .ret => closeR ds w' fun w' => resR P A.opt.big fn.results.toList fr w' fun v => R (.returned v) w'
      | _ => False) (args ++ List.replicate (fn.ntmps - args.length) undef) [] w) : Calls P f ⟨args⟩ w R := by
  refine calls_of_Wd (r := none) (m := 0) (callsIn_of_wp_marks hf hb trivial ?_ rfl)
  have e : (⟨args⟩ : Array Value) ++ Array.replicate (fn.ntmps - (⟨args⟩ : Array Value).size) undef = ⟨args ++ List.replicate (fn.ntmps - args.length) undef⟩ := by
    apply Array.ext'; simp
  rw [e]
  refine wpIn_mono (Q := fun e a w => match e with | .panic ch => a.defers = [] ∧ R (.panicked ch) w | e => bodyPostM (Wd none) 0 P fn R e a w) (codeR_wp (ds := []) h (.inr ⟨hc, fun ch fr' w' hz => ⟨rfl, hz⟩⟩) (fun c a w d v h => ⟨by cases d <;> exact h.1, h.2⟩) fun e fr' ds' w' _ _ hK => ?_) (fun e a w h => ?_)
  rotate_left
  · cases e with
    | panic ch =>
      obtain ⟨h1, h2⟩ := h
      show LeavesInM (Wd none) 0 P fn a.tmps R a.defers (.panicking ch) w
      rw [h1]
      exact h2
    | _ => exact h
  · cases e with
    | normal => exact leaves_of_close (closeR_mono (fun w' h => by obtain ⟨v, hr, hR⟩ := resV_run (resR_imp h); exact ⟨v, hr, hR⟩) hK)
    | ret => exact leaves_of_close (closeR_mono (fun w' h => by obtain ⟨v, hr, hR⟩ := resV_run (resR_imp h); exact ⟨v, hr, hR⟩) hK)
    | _ => exact hK.elim
theorem calls_of_N {P : Program} {f : FuncId} {fn : Func} {c : Code} {args : List Value} {w : World} {R : Ending → World → Prop} (A : AnnR)
    (hf : P.funcs[f]? = some fn) (hb : fn.body = some c)
    (h : codeR P A none none 0 c (fun e fr ds w' => match e with
      | .normal => closeR ds w' fun w' => resR P A.opt.big fn.results.toList fr w' fun v => R (.returned v) w'
      | .ret => closeR ds w' fun w' => resR P A.opt.big fn.results.toList fr w' fun v => R (.returned v) w'
      | _ => False) (args ++ List.replicate (fn.ntmps - args.length) undef) [] w) : Calls P f ⟨args⟩ w R := by
  refine calls_of_Wd (r := none) (m := 0) (callsIn_of_wp_marks hf hb trivial ?_ rfl)
  have e : (⟨args⟩ : Array Value) ++ Array.replicate (fn.ntmps - (⟨args⟩ : Array Value).size) undef = ⟨args ++ List.replicate (fn.ntmps - args.length) undef⟩ := by
    apply Array.ext'; simp
  rw [e]
  refine wpIn_mono (Q := fun e a w => match e with | .panic _ => False | e => bodyPostM (Wd none) 0 P fn R e a w) (codeR_wp (ds := []) h (.inl rfl) (fun c a w d v h => h) fun e fr' ds' w' _ _ hK => ?_) (fun e a w h => ?_)
  rotate_left
  · cases e <;> first | exact h | exact h.elim
  · cases e with
    | normal => exact leaves_of_close (closeR_mono (fun w' h => by obtain ⟨v, hr, hR⟩ := resV_run (resR_imp h); exact ⟨v, hr, hR⟩) hK)
    | ret => exact leaves_of_close (closeR_mono (fun w' h => by obtain ⟨v, hr, hR⟩ := resV_run (resR_imp h); exact ⟨v, hr, hR⟩) hK)
    | _ => exact hK.elim
end Go.V.Z
