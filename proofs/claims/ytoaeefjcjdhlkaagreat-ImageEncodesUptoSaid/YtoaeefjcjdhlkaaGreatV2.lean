/- The verification-condition evaluator once more, over code that ranges over functions and calls yield, and over regions of which several orders may come up; its soundness. -/
import Derived.Test.YtoaeefjcjdhlkaaGreatV
import Derived.RangeFuncRecord
import Derived.OrdersIn
import Derived.TacticsIn
set_option linter.unusedVariables false
set_option linter.unusedSimpArgs false
namespace Go.V

/-! ### the fence that lets all in -/
abbrev Wd (r : Option Nat) : Fence := { fn := fun _ => True, depth := none, alive := false, round := r }
theorem room_Wd (r : Option Nat) (n : Nat) : (Wd r).room n := fun d h => by cases h
theorem callsIn_Wd {r : Option Nat} {m : Nat} {P : Program} {f : FuncId} {args : Array Value} {w : World} {R : Ending → World → Prop} (h : Calls P f args w R) : CallsIn (Wd r) m P f args w R :=
  ⟨trivial, fun cs _ => let ⟨e, w', fr, q, s, x⟩ := h cs; ⟨e, w', fr, q, comesIn_wide.2 s, x⟩⟩
theorem calls_of_Wd {r : Option Nat} {m : Nat} {P : Program} {f : FuncId} {args : Array Value} {w : World} {R : Ending → World → Prop} (h : CallsIn (Wd r) m P f args w R) : Calls P f args w R :=
  fun cs => let ⟨e, w', fr, q, s, x⟩ := h.2 cs (room_Wd _ _); ⟨e, w', fr, q, comesIn_wide.1 s, x⟩
theorem round_Wd {r r' : Option Nat} {m m' : Nat} {P : Program} {l : Nat} {f : FuncId} {tmps : Array Value} {assign body : Code} {w : World} {R : Ending → World → Prop} (h : RoundIn (Wd r) m P l f tmps assign body w R) : RoundIn (Wd r') m' P l f tmps assign body w R :=
  ⟨trivial, fun c cs _ => h.2 c cs (room_Wd _ _)⟩

/-! ### yield -/
/-- A call of yield of the loop l: its round may be gone, and comes to R. -/
def Yield (P : Program) (l : Nat) (args : List Value) (w : World) (R : Ending → World → Prop) : Prop :=
  ∃ fn tmps assign body, (Instr.yield l ⟨args⟩).run P w = .ok (.round l fn tmps assign body) w ∧ RoundIn (Wd none) 0 P l fn tmps assign body w R
theorem Yield.mono {P : Program} {l : Nat} {args : List Value} {w : World} {R R' : Ending → World → Prop} (h : Yield P l args w R) (hr : ∀ e w', R e w' → R' e w') : Yield P l args w R' :=
  let ⟨fn, t, a, b, h1, h2⟩ := h
  ⟨fn, t, a, b, h1, RoundIn.mono h2 hr⟩

/-! ### activations with marks -/
def actD (fr : List Value) (ds : List Nat) : Act := ⟨⟨fr⟩, ds.map fun D => ⟨.collected D, #[]⟩⟩
theorem actD_eval (fr : List Value) (ds : List Nat) : (actD fr ds).eval = ev fr := by
  funext x
  cases x <;> simp [actD, Act.eval, ev, nth_eq]
theorem actD_put (fr : List Value) (ds : List Nat) (d : Option Tmp) (v : Value) : (actD fr ds).put d v = actD (putO fr d v) ds := by
  cases d <;> simp [actD, Act.put, putO, put_eq]

/-! ### operations -/
def extK (P : Program) (n : FuncId) (args : List Value) (w : World) (t : TypeId) (K : Value → World → Prop) : Prop :=
  exR (rshOf P t) fun v => ∃ w', (callFunc n ⟨args⟩).run P w = .ok (.value v) w' ∧ K v w'
def opR0 (P : Program) (X : List Nat) (fr : List Value) (w : World) (o : Oper) (K : Value → World → Prop) : Prop :=
  match o.op with
  | .call c => (match c.callee with
    | .value f => (match ev fr f with
      | .func (.func n) first cap => (match memB X n with
        | true => extK P n (first.toList ++ c.args.toList.map (ev fr) ++ cap.toList) w o.type K
        | false => opV P fr w o K)
      | .func (.yield l) first cap => Yield P l (first.toList ++ c.args.toList.map (ev fr)) w fun e w' => exR (rshOf P o.type) fun v => e = .returned v ∧ K v w'
      | _ => opV P fr w o K)
    | _ => opV P fr w o K)
  | _ => opV P fr w o K
def outR (P : Program) (K : Value → World → Prop) : Result Next → Prop
  | .ok (.value v) w' => K v w'
  | .ok .skip w' => K undef w'
  | .ok (.enter f args) w' => Calls P f args w' fun e w'' => ∃ v, e = .returned v ∧ K v w''
  | .ok (.round l f tmps assign body) w' => RoundIn (Wd none) 0 P l f tmps assign body w' fun e w'' => ∃ v, e = .returned v ∧ K v w''
  | _ => False
theorem outR_of {P : Program} {K : Value → World → Prop} {r : Result Next} (h : outc P K r) : outR P K r := by
  cases r with
  | ok n w => cases n <;> simp only [outc] at h <;> first | exact h | exact h.elim
  | halt x w => exact h.elim
theorem opV_noDefer {P : Program} {fr : List Value} {w : World} {o : Oper} {K : Value → World → Prop} (h : opV P fr w o K) : ∀ c, o.op ≠ .defer c := by
  intro c e
  unfold opV at h
  rw [e] at h
  simp only [opW] at h
  rw [e] at h
  exact h
theorem opR0_noDefer {P : Program} {X : List Nat} {fr : List Value} {w : World} {o : Oper} {K : Value → World → Prop} (h : opR0 P X fr w o K) : ∀ c, o.op ≠ .defer c := by
  intro c e
  unfold opR0 at h
  rw [e] at h
  exact opV_noDefer h c e
theorem opR0_out {P : Program} {X : List Nat} {fr : List Value} {w : World} {o : Oper} {K : Value → World → Prop}
    (h : opR0 P X fr w o K) : outR P K ((execOp (ev fr) o).run P w) := by
  unfold opR0 at h
  split at h
  · rename_i c hc
    split at h
    · rename_i f hf
      split at h
      · rename_i n first cap hv
        split at h
        · obtain ⟨v, w', hr, hK⟩ := exR_out h
          have e : (execOp (ev fr) o).run P w = .ok (.value v) w' := by
            have e2 : (⟨first.toList ++ c.args.toList.map (ev fr) ++ cap.toList⟩ : Array Value) = first ++ c.args.map (ev fr) ++ cap := by
              apply Array.ext'; simp
            rw [e2] at hr
            obtain ⟨dst, op, type, pos, after, guard⟩ := o
            obtain ⟨callee, args, ats⟩ := c
            simp only at hc hf
            subst hc
            subst hf
            simp only [Array.append_assoc] at hr
            simp [execOp, resolve, invoke, hv, Deferred.ofValue, hr]
          rw [e]
          exact hK
        · exact outR_of (opV_out h)
      · rename_i l first cap hv
        obtain ⟨fn, tmps, assign, body, hy, hr⟩ := h
        have e : (execOp (ev fr) o).run P w = .ok (.round l fn tmps assign body) w := by
          have e2 : (⟨first.toList ++ c.args.toList.map (ev fr)⟩ : Array Value) = first ++ c.args.map (ev fr) := by
            apply Array.ext'; simp
          rw [e2] at hy
          obtain ⟨dst, op, type, pos, after, guard⟩ := o
          obtain ⟨callee, args, ats⟩ := c
          simp only at hc hf
          subst hc
          subst hf
          simp [execOp, resolve, invoke, hv, Deferred.ofValue, hy]
        rw [e]
        refine RoundIn.mono hr fun e w' he => ?_
        obtain ⟨v, rfl, hv⟩ := exR_out he
        exact ⟨v, rfl, hv⟩
      · exact outR_of (opV_out h)
    · exact outR_of (opV_out h)
  · exact outR_of (opV_out h)


/-! ### the brief way: structs are read and written in one, new worlds have names -/
def cellsC (C : Addr → Value → Prop) (a : Addr) (vs : List Value) : Prop := ∀ j v, vs[j]? = some v → C (a.add j) v
def loadBA (C : Addr → Value → Prop) (a : Addr) (i : TypeInfo) (K : Value → Prop) : Prop :=
  match i.zero with
  | some (.agg cs) => when (decide (cs.toList.length = i.size)) (exKs (cs.toList.map kindOf) fun vs => cellsC C a vs ∧ K (.agg ⟨vs⟩))
  | _ => False
def loadB (P : Program) (C : Addr → Value → Prop) (t : TypeId) (v : Value) (K : Value → Prop) : Prop :=
  match v with
  | .pointer p => ptr p fun a => (match P.underlying t, P.info? t with
    | some (.struct _), some i => loadBA C a i K
    | some (.array _ _), some i => loadBA C a i K
    | some _, some i => (match i.zero with
      | some z => exK (kindOf z) fun x => C a x ∧ K x
      | none => False)
    | _, _ => False)
  | _ => False
theorem loadCells_of {C : Addr → Value → Prop} {a : Addr} : ∀ {ks : List Kind} {i : Nat} {K : List Value → Prop}, exKs ks (fun vs => (∀ j v, vs[j]? = some v → C (a.add (i + j)) v) ∧ K vs) → loadCellsG C a i ks K
  | [], i, K, h => h.2
  | k :: ks, i, K, h => exK_mono (fun x hx => by
      have hx' := hx
      refine ⟨?_, loadCells_of (exKs_mono (fun vs h => ⟨fun j v hj => ?_, h.2⟩) hx)⟩
      · obtain ⟨vs, _, h, _⟩ := exKs_out hx'
        have := h 0 x (by simp)
        rwa [Nat.add_zero] at this
      · have := h.1 (j + 1) v (by simpa using hj)
        rwa [show i + (j + 1) = i + 1 + j by omega] at this) h
theorem loadBA_imp {C : Addr → Value → Prop} {a : Addr} {i : TypeInfo} {K : Value → Prop} (h : loadBA C a i K) : loadAgg C a i K := by
  unfold loadBA at h
  unfold loadAgg
  split at h
  · rename_i cs hz
    simp only [hz]
    obtain ⟨h1, h⟩ := when_cases h
    exact when_intro h1 (loadCells_of (exKs_mono (fun vs h => ⟨fun j v hj => by rw [Nat.zero_add]; exact h.1 j v hj, h.2⟩) h))
  · exact h.elim
theorem loadB_imp {P : Program} {C : Addr → Value → Prop} {t : TypeId} {v : Value} {K : Value → Prop} (h : loadB P C t v K) : loadG P C t v K := by
  unfold loadB at h
  unfold loadG
  split at h
  · obtain ⟨a, rfl, h⟩ := ptr_cases h
    show match P.underlying t, P.info? t with
      | some (.struct _), some i => loadAgg C a i K
      | some (.array _ _), some i => loadAgg C a i K
      | some _, some i => (match i.zero with
        | some z => exK (kindOf z) fun x => C a x ∧ K x
        | none => False)
      | _, _ => False
    split at h
    · exact loadBA_imp h
    · exact loadBA_imp h
    · exact h
    · exact h.elim
  · exact h.elim
structure Opt where
  ext : List Nat
  big : Bool
def opRB (P : Program) (X : List Nat) (fr : List Value) (w : World) (o : Oper) (K : Value → World → Prop) : Prop :=
  match o.op with
  | .load t a => loadB P (fun a x => w.cell? a = some x) t (ev fr a) (fun v => K v w)
  | .store t a x => (match ev fr a with | .pointer p => ptr p fun ad => runU P (Instr.storeAt t (.pointer (some ad)) (ev fr x)) w (K undef) | _ => False)
  | .alloc _ => opV P fr w o (fun v w1 => ∀ w', w' = w1 → K v w')
  | .box _ _ => opV P fr w o (fun v w1 => ∀ w', w' = w1 → K v w')
  | .makeMap _ _ => opV P fr w o (fun v w1 => ∀ w', w' = w1 → K v w')
  | .makeSlice _ _ _ => opV P fr w o (fun v w1 => ∀ w', w' = w1 → K v w')
  | .buildSlice _ _ _ => opV P fr w o (fun v w1 => ∀ w', w' = w1 → K v w')
  | _ => opR0 P X fr w o K
def opR (P : Program) (X : Opt) (fr : List Value) (w : World) (o : Oper) (K : Value → World → Prop) : Prop :=
  match X.big with
  | false => opR0 P X.ext fr w o K
  | true => opRB P X.ext fr w o K
theorem outc_mono {P : Program} {K K' : Value → World → Prop} (hk : ∀ v w, K v w → K' v w) {r : Result Next} (h : outc P K r) : outc P K' r := by
  cases r with
  | ok n w => cases n <;> simp only [outc] at h ⊢ <;> first | exact hk _ _ h | exact Calls.mono h (fun e w' ⟨v, he, hv⟩ => ⟨v, he, hk _ _ hv⟩) | exact h.elim
  | halt x w => exact h.elim
theorem opR_noDefer {P : Program} {X : Opt} {fr : List Value} {w : World} {o : Oper} {K : Value → World → Prop} (h : opR P X fr w o K) : ∀ c, o.op ≠ .defer c := by
  intro c e
  unfold opR at h
  split at h
  · exact opR0_noDefer h c e
  · unfold opRB at h
    rw [e] at h
    exact opR0_noDefer h c e
theorem opR_out {P : Program} {X : Opt} {fr : List Value} {w : World} {o : Oper} {K : Value → World → Prop}
    (h : opR P X fr w o K) : outR P K ((execOp (ev fr) o).run P w) := by
  unfold opR at h
  split at h
  · exact opR0_out h
  · have viaV : ∀ {K' : Value → World → Prop}, opV P fr w o K' → (∀ v w1, K' v w1 → K v w1) → outR P K ((execOp (ev fr) o).run P w) := fun h hk => outR_of (outc_mono hk (opV_out h))
    obtain ⟨dst, op, type, pos, after, guard⟩ := o
    unfold opRB at h
    cases op <;> simp only at h <;> first | exact opR0_out h | skip
    case load t a => exact viaV (K' := K) (by simp only [opV]; exact loadB_imp h) (fun _ _ h => h)
    case store t a x =>
      split at h
      · rename_i p hp
        obtain ⟨ad, rfl, h⟩ := ptr_cases h
        obtain ⟨w', hr, hk⟩ := h
        rw [← hp] at hr
        have e : (execOp (ev fr) ⟨dst, .store t a x, type, pos, after, guard⟩).run P w = .ok .skip w' := by
          simp only [execOp, Sem.run_bind, hr, Result.andThen_ok, Sem.run_pure]
        rw [e]
        exact hk
      · exact h.elim
    all_goals exact viaV h (fun _ _ h => h _ rfl)
def lenR (D : Sem Value → Value → Prop) (P : Program) (fr : List Value) (o : Oper) (c : Call) (K : Value → Prop) : Prop :=
  match c.callee with
  | .builtin .len => (match c.args.toList.map (ev fr) with
    | [.map r] => ∃ n : Int, D (Builtin.len_ c.argTypes o.type #[.map r]) (.int .i64 n) ∧ K (.int .i64 n)
    | _ => opW P fr o K)
  | _ => opW P fr o K
def firstR (P : Program) (X : Opt) (C : Addr → Value → Prop) (D : Sem Value → Value → Prop) (fr : List Value) (o : Oper) (K : Value → Prop) : Prop :=
  match X.big with
  | false => firstV P C fr o K
  | true => (match o.op with
    | .load t a => loadB P C t (ev fr a) K
    | .call c => lenR D P fr o c K
    | _ => opW P fr o K)
theorem firstR_run {P : Program} {X : Opt} {C : Addr → Value → Prop} {D : Sem Value → Value → Prop} {fr : List Value} {o : Oper} {K : Value → Prop} {w0 : World} (h0 : ∀ a x, C a x → w0.cell? a = some x) (h : firstR P X C D fr o K) :
    ∃ v, K v ∧ ∀ w, (∀ a x, C a x → w.cell? a = some x) → (∀ m v, D m v → m.run P w = .ok v w) → (execOp (ev fr) o).run P w = .ok (.value v) w := by
  unfold firstR at h
  split at h
  · obtain ⟨v, hv, hr⟩ := firstV_run h0 h
    exact ⟨v, hv, fun w hw _ => hr w hw⟩
  · split at h
    · rename_i t a ho
      have h1 : firstV P C fr o K := by
        unfold firstV
        simp only [ho]
        exact loadB_imp h
      obtain ⟨v, hv, hr⟩ := firstV_run h0 h1
      exact ⟨v, hv, fun w hw _ => hr w hw⟩
    · rename_i c ho
      have plain : opW P fr o K → ∃ v, K v ∧ ∀ w, (∀ a x, C a x → w.cell? a = some x) → (∀ m v, D m v → m.run P w = .ok v w) → (execOp (ev fr) o).run P w = .ok (.value v) w := fun h => by
        obtain ⟨v, hv, hr⟩ := opW_run h
        exact ⟨v, hv, fun w _ _ => hr w⟩
      unfold lenR at h
      split at h
      · rename_i hc
        split at h
        · rename_i r hargs
          obtain ⟨n, hd, hk⟩ := h
          refine ⟨_, hk, fun w _ hD => ?_⟩
          have hr := hD _ _ hd
          have ha : c.args.map (ev fr) = #[.map r] := by
            apply Array.toList_inj.1
            rw [Array.toList_map]; exact hargs
          simp [execOp, ho, resolve, hc, invoke, builtin, ha, hr]
        · exact plain h
      · exact plain h
    · obtain ⟨v, hv, hr⟩ := opW_run h
      exact ⟨v, hv, fun w _ _ => hr w⟩

theorem semAt_nd {r : Option Nat} {ρ : Operand → Value} {o : Oper} (h : ∀ c, o.op ≠ .defer c) : Oper.semAt r ρ o = execOp ρ o := by
  cases r with
  | none => rfl
  | some l => exact Oper.semAt_some l ρ o h
theorem outR_in {r : Option Nat} {m : Nat} {P : Program} {fr : List Value} {ds : List Nat} {w : World} {o : Oper} {K : Value → World → Prop} {next : Act → World → Prop} {Q : Exit → Act → World → Prop} (hnd : ∀ c, o.op ≠ .defer c)
    (h : outR P K ((execOp (ev fr) o).run P w)) (hk : ∀ v w', K v w' → next (actD (putO fr o.dst v) ds) w') : o.wpIn (Wd r) m P (actD fr ds) w next Q := by
  refine ⟨fun _ _ => trivial, ?_⟩
  rw [semAt_nd hnd, actD_eval]
  generalize (execOp (ev fr) o).run P w = rr at h
  cases rr with
  | ok n w' =>
    cases n <;> simp only [outR] at h
    case value v => rw [Oper.uponIn_value, actD_put]; exact hk _ _ h
    case skip => rw [Oper.uponIn_skip, actD_put]; exact hk _ _ h
    case enter f args =>
      rw [Oper.uponIn_enter]
      refine ⟨fun h => (by cases h), callsIn_Wd (Calls.mono h fun e w' he => ?_)⟩
      obtain ⟨v, rfl, hv⟩ := he
      show next _ _
      rw [actD_put]
      exact hk _ _ hv
    case round l f tmps assign body =>
      rw [Oper.uponIn_round]
      refine ⟨fun h => (by cases h), round_Wd (RoundIn.mono h fun e w' he => ?_)⟩
      obtain ⟨v, rfl, hv⟩ := he
      show next _ _
      rw [actD_put]
      exact hk _ _ hv
  | halt x w' => exact h.elim

/-! ### regions in their order -/
theorem gdD_cases {ops : Array Oper} {o : Oper} {fr : List Value} {ds : List Nat} {A B : Prop} (h : gd ops o fr A B) :
    (Region.wanted o (yielded ops (actD fr ds).tmps) = true ∧ A) ∨ (Region.wanted o (yielded ops (actD fr ds).tmps) = false ∧ B) := gd_cases h
def opsR (P : Program) (X : Opt) (ops : Array Oper) : Nat → List Oper → List Value → World → (List Value → World → Prop) → Prop
  | _, [], fr, w, K => K fr w
  | i, o :: rest, fr, w, K => force fr fun fr =>
      gd ops o fr (opR P X fr w o fun v w' => spl (guardsB i rest) v fun v => opsR P X ops (i + 1) rest (putO fr o.dst v) w' K) (opsR P X ops (i + 1) rest (putO fr o.dst undef) w K)
theorem opsR_wp {r : Option Nat} {m : Nat} {P : Program} {X : Opt} {ops : Array Oper} {Q : Exit → Act → World → Prop} {ds : List Nat} {A : List Nat} : ∀ {l : List Oper} {i : Nat} {fr : List Value} {w : World} {K : List Value → World → Prop},
    (∀ o ∈ l, ∀ fr v, agree A fr (putO fr o.dst v)) →
    opsR P X ops i l fr w K → (∀ fr' w, agree A fr fr' → K fr' w → Q .normal (actD fr' ds) w) → wpListIn (Wd r) m P ops Q l (actD fr ds) w
  | [], i, fr, w, K, hl, h, hk => hk _ _ (agree_refl _ _) h
  | o :: rest, i, fr, w, K, hl, h, hk => by
    unfold opsR at h
    rw [force_eq] at h
    unfold wpListIn
    have hp := hl o (by simp) fr
    have hl' : ∀ o ∈ rest, ∀ fr v, agree A fr (putO fr o.dst v) := fun o ho => hl o (by simp [ho])
    rcases gdD_cases (ds := ds) h with ⟨hw, h⟩ | ⟨hw, h⟩
    · rw [if_pos hw]
      exact outR_in (opR_noDefer h) (opR_out h) fun v w' h => opsR_wp hl' (spl_out h) fun fr' w ha => hk fr' w (agree_trans (hp v) ha)
    · rw [if_neg (by simp [hw]), actD_put]
      exact ⟨fun _ _ => trivial, opsR_wp hl' h fun fr' w ha => hk fr' w (agree_trans (hp _) ha)⟩

/-! ### operations behind which no first one can come up -/
def waits2 (ops : Array Oper) (j i : Nat) : Bool :=
  waitsB ops j i || (match nthO ops.toList j with
    | some oj => oj.after.toList.any fun e => Region.binds .any e && waitsB ops e.on i
    | none => false)
def sinkTFrom (ops : Array Oper) (j : Nat) : Nat → List Oper → Bool
  | _, [] => true
  | i, o :: os => (match firstB o with | true => Nat.beq i j || waits2 ops j i | false => true) && sinkTFrom ops j (i + 1) os
def sinkT (ops : Array Oper) (j : Nat) : Bool := sinkTFrom ops j 0 ops.toList
def Closed (ops : Array Oper) (listed : Array Bool) : Prop := ∀ (k : Nat) (ok : Oper), ops[k]? = some ok → listed.getD k false = true → ∀ e ∈ ok.after, Region.binds .any e = true → listed.getD e.on false = true
theorem sinkTFrom_spec {ops : Array Oper} {j : Nat} : ∀ {l : List Oper} {i : Nat}, sinkTFrom ops j i l = true → ∀ k o, l[k]? = some o → firstB o = true → i + k ≠ j → waits2 ops j (i + k) = true
  | [], i, h, k, o, hk, hf, hne => by simp at hk
  | o :: os, i, h, k, o', hk, hf, hne => by
    simp only [sinkTFrom, Bool.and_eq_true] at h
    cases k with
    | zero =>
      simp at hk; subst hk
      have h1 := h.1
      rw [hf] at h1
      simp only [Bool.or_eq_true] at h1
      rcases h1 with h1 | h1
      · exact absurd (Nat.eq_of_beq_eq_true h1) (by simpa using hne)
      · simpa using h1
    | succ k =>
      have := sinkTFrom_spec h.2 k o' (by simpa using hk) hf (by omega)
      rwa [show i + 1 + k = i + (k + 1) by omega] at this
/-- Where such an operation may come up, all first ones but itself are listed. -/
theorem sinkT_listed {ops : Array Oper} {listed : Array Bool} (hc : Closed ops listed) {j i : Nat} {oi : Oper} (h : sinkT ops j = true) (hj : j ∈ Region.ready .any ops listed) (hi : ops[i]? = some oi) (hf : firstB oi = true) (hne : i ≠ j) : listed.getD i false = true := by
  have hw := sinkTFrom_spec h i oi (by simpa using hi) hf (by omega)
  rw [Nat.zero_add] at hw
  obtain ⟨_, oj, hoj, hall⟩ := mem_ready.1 hj
  unfold waits2 at hw
  simp only [Bool.or_eq_true] at hw
  rcases hw with hw | hw
  · obtain ⟨oj', hoj', e, he, hb, hon⟩ := waitsB_spec hw
    rw [hoj] at hoj'; cases hoj'
    have := hall e he hb
    rwa [hon] at this
  · split at hw
    · rename_i oj' hoj'
      rw [nthO_eq, Array.getElem?_toList, hoj] at hoj'
      cases hoj'
      obtain ⟨e, he, hb⟩ := List.any_eq_true.1 hw
      simp only [Bool.and_eq_true] at hb
      obtain ⟨ok, hok, e', he', hb', hon⟩ := waitsB_spec hb.2
      have h1 := hall e (Array.mem_toList_iff.1 he) hb.1
      have := hc e.on ok hok h1 e' he' hb'
      rwa [hon] at this
    · cases hw
theorem Closed.step {ops : Array Oper} {listed : Array Bool} (hc : Closed ops listed) {j : Nat} (hj : j ∈ Region.ready .any ops listed) : Closed ops (listed.setIfInBounds j true) := by
  intro k ok hk hl e he hb
  have up : ∀ i, listed.getD i false = true → (listed.setIfInBounds j true).getD i false = true := fun i hi => getD_set_true hi
  by_cases hkj : k = j
  · subst hkj
    obtain ⟨_, oj, hoj, hall⟩ := mem_ready.1 hj
    rw [hk] at hoj; cases hoj
    exact up _ (hall e he hb)
  · rw [getD_set_ne false (fun h => hkj h.symm)] at hl
    exact up _ (hc k ok hk hl e he hb)
theorem getD_true_of {l : Array Bool} {k : Nat} (h : l.getD k false = true) : l.getD k true = true := by
  rcases Nat.lt_or_ge k l.size with h' | h'
  · simp [h'] at h ⊢; exact h
  · simp [Nat.not_lt.2 h']
/-! ### regions that draw their order: plans, of which some steps may branch -/
inductive Plan where
  | done
  | one (i : Nat) (p : Plan)
  | alt (i : Nat) (p q : Plan)
  | stop
def heads : Plan → List Nat
  | .alt i _ q => i :: heads q
  | _ => []
def eqL : List Nat → List Nat → Bool
  | [], [] => true
  | x :: xs, y :: ys => Nat.beq x y && eqL xs ys
  | _, _ => false
theorem eqL_out : ∀ {a b : List Nat}, eqL a b = true → a = b
  | [], [], _ => rfl
  | [], _ :: _, h => by cases h
  | _ :: _, [], h => by cases h
  | x :: xs, y :: ys, h => by
    simp only [eqL, Bool.and_eq_true] at h
    rw [Nat.eq_of_beq_eq_true h.1, eqL_out h.2]
def treeOK (ops : Array Oper) : Plan → Bool → Array Bool → Bool
  | .done, ch, listed => !ch && (Region.ready .any ops listed).isEmpty
  | .one i p, ch, listed => !ch && ((match nthO ops.toList i with
    | some o => (match firstB o with
      | true => Region.free .any ops listed i && (Region.ready .any ops listed).contains i
      | false => eqL (Region.ready .any ops listed) [i])
    | none => false) && treeOK ops p false (listed.setIfInBounds i true))
  | .alt i p q, ch, listed => (match ch with | true => true | false => eqL (Region.ready .any ops listed) (i :: heads q)) && ((match nthO ops.toList i with
    | some o => !firstB o
    | none => false) && (treeOK ops p false (listed.setIfInBounds i true) && treeOK ops q true listed))
  | .stop, ch, listed => ch
def noDefer (ops : List Oper) : Bool :=
  match ops with
  | [] => true
  | o :: os => (match o.op with | .defer _ => false | _ => true) && noDefer os
theorem noDefer_out : ∀ {l : List Oper}, noDefer l = true → ∀ o ∈ l, ∀ c, o.op ≠ .defer c
  | [], _, o, ho, c => by cases ho
  | x :: xs, h, o, ho, c => by
    simp only [noDefer, Bool.and_eq_true] at h
    rcases List.mem_cons.1 ho with rfl | ho
    · intro e
      have h1 := h.1
      rw [e] at h1
      cases h1
    · exact noDefer_out h.2 o ho c
def steps : Plan → Nat
  | .one _ p => steps p + 1
  | .alt _ p _ => steps p + 1
  | _ => 0
def sameSteps : Plan → Bool
  | .done => true
  | .one _ p => sameSteps p
  | .alt _ p q => sameSteps p && (sameSteps q && (match q with | .alt _ p' _ => Nat.beq (steps p') (steps p) | .stop => true | _ => false))
  | .stop => true
def planTree (P : Program) (ops : Array Oper) (pl : Plan) : Bool :=
  P.follows .mixedOrders && Region.noSelect ops && noDefer ops.toList && Nat.beq (steps pl) ops.size && sameSteps pl && treeOK ops pl false (Array.replicate ops.size false)
def heldT (P : Program) (X : Opt) (ops : Array Oper) (C : Addr → Value → Prop) (D : Sem Value → Value → Prop) (S : World → Prop) : Plan → List Value → World → (List Value → World → Prop) → Prop
  | .done, fr, w, K => K fr w
  | .one i p, fr, w, K => (match nthO ops.toList i with
    | some o => force fr fun fr => gd ops o fr
        (match firstB o with
          | true => firstR P X C D fr o fun v => spl (guardsB i ops.toList) v fun v => heldT P X ops C D S p (putO fr o.dst v) w K
          | false => opR P X fr w o fun v w' => (match sinkT ops i with
            | true => spl (guardsB i ops.toList) v fun v => heldT P X ops C D S p (putO fr o.dst v) w' K
            | false => S w' ∧ spl (guardsB i ops.toList) v fun v => heldT P X ops C D S p (putO fr o.dst v) w' K))
        (heldT P X ops C D S p (putO fr o.dst undef) w K)
    | none => False)
  | .alt i p q, fr, w, K => (match nthO ops.toList i with
    | some o => force fr fun fr => gd ops o fr
        (opR P X fr w o fun v w' => (match sinkT ops i with
            | true => spl (guardsB i ops.toList) v fun v => heldT P X ops C D S p (putO fr o.dst v) w' K
            | false => S w' ∧ spl (guardsB i ops.toList) v fun v => heldT P X ops C D S p (putO fr o.dst v) w' K))
        (heldT P X ops C D S p (putO fr o.dst undef) w K)
    | none => False) ∧ heldT P X ops C D S q fr w K
  | .stop, fr, w, K => True

section
variable {P : Program} {ops : Array Oper} {Q : Exit → Act → World → Prop} {S : World → Prop} {r : Option Nat} {m : Nat}
theorem yieldsIf_wpOpIn {i : Nat} {o : Oper} {v : Value} {a : Act} (hnd : ∀ c, o.op ≠ .defer c) (hi : ops[i]? = some o) (hy : YieldsIf P ops S o v a)
    {K : Act → World → Prop} {w : World} (hS : S w) (h : K (a.put o.dst v) w) : wpOpIn (Wd r) m P ops Q i K a w := by
  unfold Go.wpOpIn
  simp only [hi]
  rcases hy with ⟨hw, hv⟩ | ⟨hw, rfl⟩
  · simp only [hw, if_true, Oper.wpIn, semAt_nd hnd, hv w hS, Oper.uponIn]; exact ⟨fun _ _ => trivial, h⟩
  · simp only [hw, Bool.false_eq_true, if_false]; exact ⟨fun _ _ => trivial, h⟩
theorem wpOpIn_putIf {j : Nat} {oi oj : Oper} {v : Value} (hnd : ∀ c, oj.op ≠ .defer c) (hj : ops[j]? = some oj) (hap : oi.apart ops oj = true)
    (hsi : ∀ cs b, oi.op ≠ .select cs b) (hsj : ∀ cs b, oj.op ≠ .select cs b)
    (hQ : ∀ c a w, Q (.panic c) (a.put oi.dst v) w → Q (.panic c) a w) {K : Act → World → Prop} {a : Act} {w : World}
    (hy : YieldsIf P ops S oi v a) (h : wpOpIn (Wd r) m P ops Q j K (a.put oi.dst v) w) :
    wpOpIn (Wd r) m P ops Q j (fun a' w' => YieldsIf P ops S oi v a' ∧ K (a'.put oi.dst v) w') a w := by
  obtain ⟨h1, h2, h3⟩ := Oper.apart_spec hap
  have keep : ∀ (a : Act), YieldsIf P ops S oi v a → ∀ u, YieldsIf P ops S oi v (a.put oj.dst u) := fun a hy u =>
    hy.of_same (execOp_put oi hsi a oj.dst u h3) (wanted_put oi a oj.dst u h3)
  have keepD : ∀ d, YieldsIf P ops S oi v { a with defers := d :: a.defers } := fun d => hy.of_same rfl rfl
  unfold wpOpIn at *
  simp only [hj] at *
  rw [wanted_put oj a oi.dst v h1] at h
  split
  · rename_i hw
    simp only [hw, if_true] at h
    unfold Oper.wpIn at *
    refine ⟨fun _ _ => trivial, ?_⟩
    have h := h.2
    rw [semAt_nd hnd, execOp_put oj hsj a oi.dst v h1] at h
    rw [semAt_nd hnd]
    generalize (execOp a.eval oj).run P w = rr at *
    cases rr with
    | ok x w' =>
      cases x <;> simp only [Oper.uponIn] at h ⊢
      case value u => exact ⟨keep a hy u, by rw [← Act.put_comm a v u h2]; exact h⟩
      case skip => exact ⟨keep a hy _, by rw [← Act.put_comm a v undef h2]; exact h⟩
      case defer d =>
        refine ⟨keep _ (keepD d) _, ?_⟩
        rw [← Act.put_comm _ v undef h2, ← Act.put_defers]
        exact h
      case enter f args =>
        refine ⟨h.1, CallsIn.mono h.2 fun e w'' he => ?_⟩
        cases e with
        | returned u => exact ⟨keep a hy u, by rw [← Act.put_comm a v u h2]; exact he⟩
        | panicked c => exact hQ _ _ _ he
        | outgrown => exact he
      case row row args => exact ⟨h.1, RowsIn.mono h.2 fun u w'' he => ⟨keep a hy u, by rw [← Act.put_comm a v u h2]; exact he⟩⟩
      case round l f tmps assign body =>
        refine ⟨h.1, RoundIn.mono h.2 fun e w'' he => ?_⟩
        cases e with
        | returned u => exact ⟨keep a hy u, by rw [← Act.put_comm a v u h2]; exact he⟩
        | panicked c => exact hQ _ _ _ he
        | outgrown => exact he
    | halt x w' =>
      cases x <;> simp only [Oper.uponIn] at h ⊢
      case panic u => exact hQ _ _ _ h
  · rename_i hw
    simp only [hw] at h
    exact ⟨fun _ _ => trivial, keep a hy _, by rw [← Act.put_comm a v undef h2]; exact h.2⟩
def wpAnyT (r : Option Nat) (m : Nat) (P : Program) (ops : Array Oper) (Q : Exit → Act → World → Prop) (S : World → Prop) : Nat → Array Bool → Act → World → Prop
  | 0, listed, a, w => Region.ready .any ops listed = [] ∧ Q .normal a w
  | fuel + 1, listed, a, w =>
    (Region.ready .any ops listed = [] → Q .normal a w) ∧
    ∀ i ∈ Region.ready .any ops listed, wpOpIn (Wd r) m P ops Q i (fun a' w' => (sinkT ops i = false → S w → S w') ∧ wpAnyT r m P ops Q S fuel (listed.setIfInBounds i true) a' w') a w
theorem wpAny_of_T : ∀ (fuel : Nat) (listed : Array Bool) (a : Act) (w : World), wpAnyT r m P ops Q S fuel listed a w → wpAnyIn (Wd r) m P .any ops Q fuel listed a w
  | 0, _, _, _, h => h
  | fuel + 1, _, _, _, h => ⟨h.1, fun i hi => wpOpIn_mono (fun a' w' h' => wpAny_of_T fuel _ a' w' h'.2) (h.2 i hi)⟩
theorem wpAnyT_first {i : Nat} {oi : Oper} {v : Value} (hnd : ∀ o ∈ ops.toList, ∀ c, o.op ≠ .defer c) (hi : ops[i]? = some oi) (hfst : firstB oi = true) (hsel : ∀ (j : Nat) (o : Oper) cs b, ops[j]? = some o → o.op ≠ .select cs b)
    (hQ : ∀ c a w, Q (.panic c) (a.put oi.dst v) w → Q (.panic c) a w) :
    ∀ (fuel : Nat) (listed : Array Bool) (a : Act) (w : World), Closed ops listed →
      (∀ j oj, ops[j]? = some oj → j ≠ i → listed.getD j true = false → (∀ e ∈ oj.after, Region.binds .any e = true → e.on ≠ i) → oi.apart ops oj = true) →
      i ∈ Region.ready .any ops listed → YieldsIf P ops S oi v a → S w →
      wpAnyT r m P ops Q S fuel (listed.setIfInBounds i true) (a.put oi.dst v) w → wpAnyT r m P ops Q S (fuel + 1) listed a w := by
  have nd : ∀ {j : Nat} {o : Oper}, ops[j]? = some o → ∀ c, o.op ≠ .defer c := fun hj => hnd _ (Array.mem_toList_iff.2 (Array.mem_of_getElem? hj))
  intro fuel
  induction fuel with
  | zero =>
    intro listed a w _ _ hr hy hS H
    refine ⟨fun h => (by rw [h] at hr; cases hr), fun j hj => ?_⟩
    by_cases hji : j = i
    · subst hji; exact yieldsIf_wpOpIn (nd hi) hi hy hS ⟨fun _ h => h, H⟩
    · have := ready_mono hj hji
      rw [H.1] at this
      cases this
  | succ fuel ih =>
    intro listed a w hcl hfree hr hy hS H
    refine ⟨fun h => (by rw [h] at hr; cases hr), fun j hj => ?_⟩
    by_cases hji : j = i
    · subst hji; exact yieldsIf_wpOpIn (nd hi) hi hy hS ⟨fun _ h => h, H⟩
    · have h1 := H.2 j (ready_mono hj hji)
      obtain ⟨hjun, oj, hoj, hall⟩ := mem_ready.1 hj
      have hnot : ∀ e ∈ oj.after, Region.binds .any e = true → e.on ≠ i := fun e he hb heq => by
        have h1 := hall e he hb
        have h0 := (mem_ready.1 hr).1
        rw [heq] at h1
        rcases Nat.lt_or_ge i listed.size with h' | h'
        · simp [h'] at h0 h1; rw [h0] at h1; cases h1
        · simp [Array.getElem?_eq_none h'] at h1
      have hns : sinkT ops j = false := by
        cases hs : sinkT ops j with
        | false => rfl
        | true =>
          have h1 := sinkT_listed hcl hs hj hi hfst (Ne.symm hji)
          have h0 := (mem_ready.1 hr).1
          rw [getD_true_of h1] at h0; cases h0
      have h2 := wpOpIn_putIf (nd hoj) hoj (hfree j oj hoj hji hjun hnot) (fun cs b => hsel i oi cs b hi) (fun cs b => hsel j oj cs b hoj) hQ hy h1
      have hfree' : ∀ k ok, ops[k]? = some ok → k ≠ i → (listed.setIfInBounds j true).getD k true = false →
          (∀ e ∈ ok.after, Region.binds .any e = true → e.on ≠ i) → oi.apart ops ok = true := fun k ok hk hki hun hno => by
        refine hfree k ok hk hki ?_ hno
        by_cases hjk : j = k
        · subst hjk; exact hjun
        · rw [getD_set_ne true hjk] at hun; exact hun
      refine wpOpIn_mono (fun a' w' h3 => ⟨h3.2.1, ih (listed.setIfInBounds j true) a' w' (hcl.step hj) hfree' (ready_mono hr (Ne.symm hji)) h3.1 (h3.2.1 hns hS) ?_⟩) h2
      rw [Array.setIfInBounds_comm _ _ hji]
      exact h3.2.2
end
theorem heads_mem {P : Program} {X : Opt} {ops : Array Oper} {C : Addr → Value → Prop} {D : Sem Value → Value → Prop} {S : World → Prop} {fr : List Value} {w : World} {K : List Value → World → Prop} {listed : Array Bool} {n : Nat} : ∀ {q : Plan} {j : Nat}, j ∈ heads q → heldT P X ops C D S q fr w K → treeOK ops q true listed = true → sameSteps q = true → (∀ i p q', q = .alt i p q' → steps p = n) →
    ∃ p q', heldT P X ops C D S (.alt j p q') fr w K ∧ treeOK ops (.alt j p q') true listed = true ∧ sameSteps p = true ∧ steps p = n
  | .alt i p q, j, hj, h, hok, hs, hn => by
    simp only [heads, List.mem_cons] at hj
    simp only [sameSteps, Bool.and_eq_true] at hs
    rcases hj with rfl | hj
    · exact ⟨p, q, h, hok, hs.1, hn _ _ _ rfl⟩
    · refine heads_mem hj h.2 ?_ hs.2.1 ?_
      · simp only [treeOK, Bool.and_eq_true] at hok
        exact hok.2.2.2
      · intro i' p' q' e
        subst e
        have := Nat.eq_of_beq_eq_true hs.2.2
        rw [this]; exact hn _ _ _ rfl
  | .done, j, hj, _, _, _, _ => by cases hj
  | .one .., j, hj, _, _, _, _ => by cases hj
  | .stop, j, hj, _, _, _, _ => by cases hj
theorem heldT_any {r : Option Nat} {m : Nat} {P : Program} {X : Opt} {ops : Array Oper} {C : Addr → Value → Prop} {D : Sem Value → Value → Prop} {S S' : World → Prop} {Q : Exit → Act → World → Prop} {ds : List Nat}
    (hC : ∀ w, S' w → ∀ a x, C a x → w.cell? a = some x) (hD : ∀ w, S' w → ∀ m v, D m v → m.run P w = .ok v w) (hS : ∀ w, S w → S' w) (hsel : Region.noSelect ops = true) (hnd : ∀ o ∈ ops.toList, ∀ c, o.op ≠ .defer c)
    (hQ : ∀ c a w d v, Q (.panic c) (a.put d v) w → Q (.panic c) a w) {K : List Value → World → Prop} :
    ∀ (n : Nat) (pl : Plan) (listed : Array Bool) (fr : List Value) (w : World), steps pl = n → sameSteps pl = true → Closed ops listed → treeOK ops pl false listed = true →
      (S' w ∨ ∀ (i : Nat) (o : Oper), ops[i]? = some o → firstB o = true → listed.getD i true = true) →
      (∀ fr' w, agree (asgO ops.toList) fr fr' → K fr' w → Q .normal (actD fr' ds) w) →
      heldT P X ops C D S pl fr w K → wpAnyT r m P ops Q S' n listed (actD fr ds) w := by
  have nd : ∀ {j : Nat} {o : Oper}, ops[j]? = some o → ∀ c, o.op ≠ .defer c := fun hj => hnd _ (Array.mem_toList_iff.2 (Array.mem_of_getElem? hj))
  intro n
  induction n with
  | zero =>
    intro pl listed fr w hst hss hcl hok hw hk h
    cases pl with
    | done =>
      simp only [treeOK, Bool.not_false, Bool.true_and] at hok
      exact ⟨by simpa using hok, hk _ _ (agree_refl _ _) h⟩
    | one i p => simp [steps] at hst
    | alt i p q => simp [steps] at hst
    | stop => cases hok
  | succ n ih =>
    intro pl listed fr w hst hss hcl hok hst2 hk h
    -- one step that is no first one
    have stepN : ∀ (j : Nat) (o : Oper) (p : Plan), ops[j]? = some o → firstB o = false → j ∈ Region.ready .any ops listed → steps p = n → sameSteps p = true → treeOK ops p false (listed.setIfInBounds j true) = true →
        gd ops o fr (opR P X fr w o fun v w' => (match sinkT ops j with
            | true => spl (guardsB j ops.toList) v fun v => heldT P X ops C D S p (putO fr o.dst v) w' K
            | false => S w' ∧ spl (guardsB j ops.toList) v fun v => heldT P X ops C D S p (putO fr o.dst v) w' K)) (heldT P X ops C D S p (putO fr o.dst undef) w K) →
        wpOpIn (Wd r) m P ops Q j (fun a' w' => (sinkT ops j = false → S' w → S' w') ∧ wpAnyT r m P ops Q S' n (listed.setIfInBounds j true) a' w') (actD fr ds) w := by
      intro j o p hoi hf hmem hsp hssp hok2 h
      have hk' : ∀ v fr' w, agree (asgO ops.toList) (putO fr o.dst v) fr' → K fr' w → Q .normal (actD fr' ds) w := fun v fr' w ha =>
        hk fr' w (agree_trans (agree_putO (Array.mem_toList_iff.2 (Array.mem_of_getElem? hoi)) fr v) ha)
      have hsink : sinkT ops j = true → ∀ (k : Nat) (ok : Oper), ops[k]? = some ok → firstB ok = true → (listed.setIfInBounds j true).getD k true = true := fun hs k ok hk' hfk => by
        have hkj : k ≠ j := fun e => by subst e; rw [hoi] at hk'; cases hk'; rw [hf] at hfk; cases hfk
        exact getD_set_true' (getD_true_of (sinkT_listed hcl hs hmem hk' hfk hkj))
      have hkeep : (∀ (k : Nat) (ok : Oper), ops[k]? = some ok → firstB ok = true → listed.getD k true = true) → ∀ (k : Nat) (ok : Oper), ops[k]? = some ok → firstB ok = true → (listed.setIfInBounds j true).getD k true = true :=
        fun hh k ok hk' hfk => getD_set_true' (hh k ok hk' hfk)
      unfold wpOpIn
      simp only [hoi]
      rcases gdD_cases (ds := ds) h with ⟨hwt, h⟩ | ⟨hwt, h⟩
      · rw [if_pos hwt]
        refine outR_in (opR_noDefer h) (opR_out h) fun v w' h => ?_
        cases hs : sinkT ops j with
        | true =>
          simp only [hs] at h
          exact ⟨fun e => absurd e (by simp), ih p _ _ _ hsp hssp (hcl.step hmem) hok2 (.inr (hsink hs)) (hk' _) (spl_out h)⟩
        | false =>
          simp only [hs] at h
          exact ⟨fun _ _ => hS _ h.1, ih p _ _ _ hsp hssp (hcl.step hmem) hok2 (.inl (hS _ h.1)) (hk' _) (spl_out h.2)⟩
      · rw [if_neg (by simp [hwt]), actD_put]
        refine ⟨fun _ _ => trivial, fun _ h => h, ih p _ _ _ hsp hssp (hcl.step hmem) hok2 ?_ (hk' _) h⟩
        rcases hst2 with hst2 | hst2
        · exact .inl hst2
        · exact .inr (hkeep hst2)
    cases pl with
    | done => simp [steps] at hst
    | stop => cases hok
    | one i p =>
      simp only [treeOK, Bool.not_false, Bool.true_and, Bool.and_eq_true] at hok
      obtain ⟨hok1, hok2⟩ := hok
      simp only [heldT] at h
      simp only [steps, Nat.add_right_cancel_iff] at hst
      simp only [sameSteps] at hss
      split at h
      rotate_left
      · exact h.elim
      rename_i o ho
      simp only [ho] at hok1
      have hoi : ops[i]? = some o := by rw [nthO_eq, Array.getElem?_toList] at ho; exact ho
      have hk' : ∀ v fr' w, agree (asgO ops.toList) (putO fr o.dst v) fr' → K fr' w → Q .normal (actD fr' ds) w := fun v fr' w ha =>
        hk fr' w (agree_trans (agree_putO (Array.mem_toList_iff.2 (Array.mem_of_getElem? hoi)) fr v) ha)
      rw [force_eq] at h
      cases hf : firstB o with
      | true =>
        simp only [hf, Bool.and_eq_true] at hok1 h
        have hmem : i ∈ Region.ready .any ops listed := by simpa using hok1.2
        have hw : S' w := by
          rcases hst2 with hst2 | hst2
          · exact hst2
          · have := hst2 i o hoi hf
            rw [(mem_ready.1 hmem).1] at this
            cases this
        have next : ∀ v, YieldsIf P ops S' o v (actD fr ds) → heldT P X ops C D S p (putO fr o.dst v) w K → wpAnyT r m P ops Q S' (n + 1) listed (actD fr ds) w := fun v hy hh => by
          refine wpAnyT_first hnd hoi hf (Region.noSelect_spec hsel) (fun c a w => hQ c a w _ _) n listed (actD fr ds) w hcl (Region.free_spec hoi hok1.1) hmem hy hw ?_
          rw [actD_put]
          exact ih p _ _ _ hst hss (hcl.step hmem) hok2 (.inl hw) (hk' _) hh
        rcases gdD_cases (ds := ds) h with ⟨hwt, h⟩ | ⟨hwt, h⟩
        · obtain ⟨v, hv, hr⟩ := firstR_run (hC w hw) h
          exact next v (.inl ⟨hwt, fun w' hw' => by rw [actD_eval]; exact hr w' (hC w' hw') (hD w' hw')⟩) (spl_out hv)
        · exact next undef (.inr ⟨hwt, rfl⟩) h
      | false =>
        simp only [hf] at hok1 h
        have hready := eqL_out hok1
        have hmem : i ∈ Region.ready .any ops listed := by rw [hready]; simp
        refine ⟨fun h0 => (by rw [hready] at h0; cases h0), fun j hj => ?_⟩
        rw [hready] at hj
        obtain rfl : j = i := by simpa using hj
        exact stepN j o p hoi hf hmem hst hss hok2 h
    | alt i p q =>
      have hok' : treeOK ops (.alt i p q) true listed = true := by
        simp only [treeOK, Bool.and_eq_true] at hok ⊢
        exact ⟨trivial, hok.2⟩
      have hready : Region.ready .any ops listed = heads (.alt i p q) := by
        simp only [treeOK, Bool.and_eq_true] at hok
        exact eqL_out hok.1
      simp only [steps, Nat.add_right_cancel_iff] at hst
      refine ⟨fun h0 => (by rw [hready] at h0; cases h0), fun j hj => ?_⟩
      have hmem := hj
      rw [hready] at hj
      obtain ⟨p', q', h, hokj, hss', hst'⟩ := heads_mem (n := n) hj h hok' hss (by intro i' p'' q'' e; cases e; exact hst)
      simp only [treeOK, Bool.true_and, Bool.and_eq_true] at hokj
      obtain ⟨hf, hok2, _⟩ := hokj
      have h := h.1
      split at h
      rotate_left
      · exact h.elim
      rename_i o ho
      simp only [ho, Bool.not_eq_true'] at hf
      have hoi : ops[j]? = some o := by rw [nthO_eq, Array.getElem?_toList] at ho; exact ho
      rw [force_eq] at h
      exact stepN j o p' hoi hf hmem hst' hss' hok2 h

/-! ### shapes of slots -/
def FnSh : Sh → Type → Type
  | .one k, R => FnK k R
  | .agg ks, R => FnKs ks R
def FnShs : List Sh → Type → Type
  | [], R => R
  | s :: ss, R => FnSh s (FnShs ss R)
def apSh {R : Type} : (s : Sh) → FnSh s R → Value → (R → Prop) → Prop
  | .one k, f, v, K => apK k f v K
  | .agg ks, f, .agg cs, K => when (decide (cs.toList.length = ks.length)) (apKs ks f cs.toList K)
  | .agg _, _, _, _ => False
def apShs {R : Type} : (ss : List Sh) → FnShs ss R → List Value → (R → Prop) → Prop
  | [], f, _, K => K f
  | s :: ss, f, v :: vs, K => apSh s f v fun g => apShs ss g vs K
  | _ :: _, _, [], _ => False
def allSh : Sh → (Value → Prop) → Prop
  | .one k, K => allK k K
  | .agg ks, K => allKs ks fun vs => K (.agg ⟨vs⟩)
def allShs : List Sh → (List Value → Prop) → Prop
  | [], K => K []
  | s :: ss, K => allSh s fun v => allShs ss fun vs => K (v :: vs)
theorem apSh_val {R : Type} {s : Sh} {f : FnSh s R} {v : Value} {K : R → Prop} (h : apSh s f v K) : ∃ r, (∀ K' : R → Prop, apSh s f v K' ↔ K' r) ∧ ∀ F : Value → Prop, allSh s F → F v := by
  cases s with
  | one k => exact apK_val (k := k) (f := f) h
  | agg ks =>
    cases v <;> simp only [apSh] at h <;> try exact h.elim
    rename_i cs
    obtain ⟨h5, h6⟩ := when_cases h
    obtain ⟨r, hr, hr2⟩ := apKs_val (of_decide_eq_true h5) h6
    exact ⟨r, fun K' => ⟨fun h => (hr K').1 (when_cases h).2, fun h => when_intro h5 ((hr K').2 h)⟩, fun F hF => hr2 (fun vs => F (.agg ⟨vs⟩)) hF⟩
theorem apShs_val {R : Type} : ∀ {ss : List Sh} {f : FnShs ss R} {vs : List Value} {K : R → Prop}, vs.length = ss.length → apShs ss f vs K → ∃ r, (∀ K' : R → Prop, apShs ss f vs K' ↔ K' r) ∧ ∀ F : List Value → Prop, allShs ss F → F vs
  | [], f, [], K, hl, h => ⟨_, fun _ => Iff.rfl, fun F hF => hF⟩
  | k :: ks, f, v :: vs, K, hl, h => by
    obtain ⟨g, hg, hg2⟩ := apSh_val h
    obtain ⟨r, hr, hr2⟩ := apShs_val (by simpa using hl) ((hg _).1 h)
    exact ⟨r, fun K' => ((hg _).trans (hr K')), fun F hF => hr2 _ (hg2 _ hF)⟩
  | [], f, v :: vs, K, hl, h => by simp at hl
  | k :: ks, f, [], K, hl, h => by simp at hl
theorem allK_intro {k : Kind} {F : Value → Prop} (h : ∀ v, F v) : allK k F := by
  cases k <;> first | exact fun _ => h _ | exact fun _ _ _ => h _
theorem allKs_intro : ∀ {ks : List Kind} {F : List Value → Prop}, (∀ vs, vs.length = ks.length → F vs) → allKs ks F
  | [], F, h => h [] rfl
  | k :: ks, F, h => allK_intro fun v => allKs_intro fun vs hl => h (v :: vs) (by simp [hl])
theorem allSh_intro {s : Sh} {F : Value → Prop} (h : ∀ v, F v) : allSh s F := by
  cases s with
  | one k => exact allK_intro h
  | agg ks => exact allKs_intro fun vs _ => h _
theorem allShs_intro : ∀ {ks : List Sh} {F : List Value → Prop}, (∀ vs, vs.length = ks.length → F vs) → allShs ks F
  | [], F, h => h [] rfl
  | k :: ks, F, h => allSh_intro fun v => allShs_intro fun vs hl => h (v :: vs) (by simp [hl])

/-! ### regions that draw -/
def cutV (slots : List Nat) (ss : List Sh) (asg : List Nat) (fr : List Value) (body : (List Value → World → Prop) → Prop) (K : List Value → World → Prop) : Prop :=
  ∃ J : FnShs ss (World → Prop),
    body (fun fr' w' => apShs ss J (vals fr' slots) fun p => p w') ∧
    allShs ss fun vs => ∀ (j : Nat → Value) (w' : World), (apShs ss J vs fun p => p w') → K (fills (fills fr (minus asg slots []) ((minus asg slots []).map j)) slots vs) w'
def allSinkT (ops : Array Oper) : Nat → List Oper → Bool
  | _, [] => true
  | i, o :: os => (match firstB o with | true => true | false => sinkT ops i) && allSinkT ops (i + 1) os
def plannedR (P : Program) (X : Opt) (ops : Array Oper) (pl : Plan) (fr : List Value) (w : World) (K : List Value → World → Prop) : Prop :=
  match allSinkT ops 0 ops.toList with
  | true => heldT P X ops (fun a x => w.cell? a = some x) (fun m v => m.run P w.drew = .ok v w.drew) (fun _ => False) pl fr w.drew K
  | false => ∃ S : World → Prop, S w.drew ∧ heldT P X ops (fun a x => ∀ w', S w' → w'.cell? a = some x) (fun m v => ∀ w', S w' → m.run P w' = .ok v w') S pl fr w.drew K
def drawnR (P : Program) (X : Opt) (ops : Array Oper) (pl : Plan) (cut : Option (List Nat × List Sh)) (fr : List Value) (w : World) (K : List Value → World → Prop) : Prop :=
  when (planTree P ops pl) (match cut with
    | none => plannedR P X ops pl fr w K
    | some (slots, ss) => when (decide (slots.length = ss.length)) (cutV slots ss (asgO ops.toList) fr (plannedR P X ops pl fr w) K))
theorem plannedR_wp {r : Option Nat} {m : Nat} {P : Program} {X : Opt} {ops : Array Oper} {pl : Plan} {fr : List Value} {ds : List Nat} {w : World} {K : List Value → World → Prop} {Q : Exit → Act → World → Prop} {id : Nat}
    (h1 : planTree P ops pl = true) (h : plannedR P X ops pl fr w K) (hQ : ∀ c a w d v, Q (.panic c) (a.put d v) w → Q (.panic c) a w) (hk : ∀ fr' w, agree (asgO ops.toList) fr fr' → K fr' w → Q .normal (actD fr' ds) w) :
    (Code.region id ops true).wpIn (Wd r) m P Q (actD fr ds) w := by
  simp only [planTree, Bool.and_eq_true] at h1
  obtain ⟨⟨⟨⟨⟨hm, hsel⟩, hnd⟩, hlen⟩, hss⟩, hok⟩ := h1
  have hlen := Nat.eq_of_beq_eq_true hlen
  have hnd := noDefer_out hnd
  refine wpIn_region_any hm ?_
  have hcl0 : Closed ops (Array.replicate ops.size false) := fun k ok _ hl => by
    rcases Nat.lt_or_ge k ops.size with h' | h'
    · simp [h'] at hl
    · simp [Nat.not_lt.2 h'] at hl
  unfold plannedR at h
  split at h
  · have := heldT_any (r := r) (m := m) (P := P) (S' := fun w' => w' = w.drew) (by rintro w' rfl a x hx; exact hx) (by rintro w' rfl m v hx; exact hx) (fun _ h => h.elim) hsel hnd hQ _ pl _ fr w.drew hlen hss hcl0 hok (.inl rfl) hk h
    exact wpAny_of_T (S := fun w' => w' = w.drew) _ _ _ _ this
  · obtain ⟨S, hS, h⟩ := h
    have := heldT_any (r := r) (m := m) (P := P) (S' := S) (fun w' hw' a x hx => hx w' hw') (fun w' hw' m v hx => hx w' hw') (fun _ h => h) hsel hnd hQ _ pl _ fr w.drew hlen hss hcl0 hok (.inl hS) hk h
    exact wpAny_of_T (S := S) _ _ _ _ this
theorem vals_len (fr : List Value) (ss : List Nat) : (vals fr ss).length = ss.length := by simp [vals_eq]
theorem drawnR_wp {r : Option Nat} {m : Nat} {P : Program} {X : Opt} {ops : Array Oper} {pl : Plan} {cut : Option (List Nat × List Sh)} {fr : List Value} {ds : List Nat} {w : World} {K : List Value → World → Prop} {Q : Exit → Act → World → Prop} {id : Nat}
    (h : drawnR P X ops pl cut fr w K) (hQ : ∀ c a w d v, Q (.panic c) (a.put d v) w → Q (.panic c) a w) (hk : ∀ fr' w, agree (asgO ops.toList) fr fr' → K fr' w → Q .normal (actD fr' ds) w) :
    (Code.region id ops true).wpIn (Wd r) m P Q (actD fr ds) w := by
  unfold drawnR at h
  obtain ⟨h1, h⟩ := when_cases h
  split at h
  · exact plannedR_wp h1 h hQ hk
  · rename_i slots ss
    obtain ⟨hl, h⟩ := when_cases h
    have hl := of_decide_eq_true hl
    obtain ⟨J, h2, h3⟩ := h
    refine plannedR_wp h1 h2 hQ fun fr' w' ha hJ => ?_
    obtain ⟨p, hp, hall⟩ := apShs_val (by rw [vals_len]; exact hl) hJ
    have := hall _ h3 (nth fr') w' hJ
    rw [fills_back ha] at this
    exact hk _ _ ha this

/-! ### loops, ranges over functions -/
def hasRange : Code → Bool
  | .rangeFunc .. => true
  | .seq a b => hasRange a || hasRange b
  | .cond _ a b => hasRange a || hasRange b
  | .block _ c => hasRange c
  | .loop c => hasRange c
  | .scope c => hasRange c
  | _ => false
def nloopsR : Code → Nat
  | .seq a b => nloopsR a + nloopsR b
  | .cond _ a b => nloopsR a + nloopsR b
  | .block _ c => nloopsR c
  | .loop c => nloopsR c + 1
  | .scope c => nloopsR c
  | .rangeFunc _ _ a b => nloopsR a + nloopsR b + 1
  | _ => 0
def dropL (id : Nat) : List Nat → List Nat
  | [] => []
  | x :: xs => (match Nat.beq x id with | true => dropL id xs | false => x :: dropL id xs)
def addL : List Nat → List Nat → List Nat
  | [], ys => ys
  | x :: xs, ys => (match memB ys x with | true => addL xs ys | false => x :: addL xs ys)
/-- The blocks into which a body leaves. -/
def outs : Code → List Nat
  | .exit id => [id]
  | .seq a b => addL (outs a) (outs b)
  | .cond _ a b => addL (outs a) (outs b)
  | .block id c => dropL id (outs c)
  | .loop c => outs c
  | .scope c => outs c
  | .rangeFunc _ _ _ b => outs b
  | _ => []
def hasRet : Code → Bool
  | .ret => true
  | .seq a b => hasRet a || hasRet b
  | .cond _ a b => hasRet a || hasRet b
  | .block _ c => hasRet c
  | .loop c => hasRet c
  | .scope c => hasRet c
  | .rangeFunc _ _ _ b => hasRet b
  | _ => false
def loopR (rg : Bool) (carried asg : List Nat) (fr : List Value) (ds : List Nat) (w : World) (body : (Exit → List Value → List Nat → World → Prop) → List Value → List Nat → World → Prop) (K : Exit → List Value → List Nat → World → Prop) : Prop :=
  match rg with
  | false => ∃ I : FnKs (kinds fr carried) (World → Prop), ∃ μ : FnKs (kinds fr carried) (World → Nat),
    apKs (kinds fr carried) I (vals fr carried) (fun p => p w) ∧
    allKs (kinds fr carried) fun vs => ∀ (j : Nat → Value) (w' : World), apKs (kinds fr carried) I vs fun p => p w' →
      body (fun e fr2 ds2 w2 => match e with
        | .normal => apKs (kinds fr carried) I (vals fr2 carried) fun q => q w2 ∧ apKs (kinds fr carried) μ (vals fr2 carried) fun m2 => apKs (kinds fr carried) μ vs fun m => m2 w2 < m w'
        | e => K e fr2 ds2 w2)
        (fills (fills fr (minus asg carried []) ((minus asg carried []).map j)) carried vs) ds w'
  | true => ∃ I : FnKs (kinds fr carried) (List Nat → World → Prop), ∃ μ : FnKs (kinds fr carried) (World → Nat),
    apKs (kinds fr carried) I (vals fr carried) (fun p => p ds w) ∧
    allKs (kinds fr carried) fun vs => ∀ (j : Nat → Value) (ds' : List Nat) (w' : World), apKs (kinds fr carried) I vs fun p => p ds' w' →
      body (fun e fr2 ds2 w2 => match e with
        | .normal => apKs (kinds fr carried) I (vals fr2 carried) fun q => q ds2 w2 ∧ apKs (kinds fr carried) μ (vals fr2 carried) fun m2 => apKs (kinds fr carried) μ vs fun m => m2 w2 < m w'
        | e => K e fr2 ds2 w2)
        (fills (fills fr (minus asg carried []) ((minus asg carried []).map j)) carried vs) ds' w'
/-- Block l is the record of a range over a function. -/
def LoopSt (W : World) (l : Nat) (Rc : Loop) (s : LoopState) (p : Option Code) : Prop := W.heap[l]? = some (.loop { Rc with state := s, pending := p })
def setLoop (W : World) (l : Nat) (Rc : Loop) (s : LoopState) (p : Option Code) : World := W.putObj l (.loop { Rc with state := s, pending := p })
def roundR (P : Program) (l : Nat) (Rc : Loop) (ps : List Nat) (ss : List Sh) (fr : List Value) (ca cb : (Exit → List Value → List Nat → World → Prop) → List Value → List Nat → World → Prop) : Prop :=
  allShs ss fun vs => ∀ (W : World) (R : Ending → World → Prop), LoopSt W l Rc .ready none →
    ca (fun e fr1 ds1 W1 => match e with
      | .normal => LoopSt W1 l Rc .ready none ∧ cb (fun e2 _ _ W2 => match e2 with
          | .normal => LoopSt W2 l Rc .busy none ∧ R (.returned (.bool true)) (setLoop W2 l Rc .ready none)
          | .ret => LoopSt W2 l Rc .busy none ∧ R (.returned (.bool false)) (setLoop W2 l Rc .done (some .ret))
          | .exit id => LoopSt W2 l Rc .busy none ∧ R (.returned (.bool false)) (setLoop W2 l Rc .done (some (.exit id)))
          | _ => False) fr1 ds1 (setLoop W1 l Rc .busy none)
      | _ => False) (fills fr ps vs) [] W →
    Yield P l vs W R
def idsR (l : Nat) (Rc : Loop) (fr : List Value) (ds : List Nat) (w3 : World) (K : Exit → List Value → List Nat → World → Prop) : List Nat → Prop
  | [] => False
  | id :: ids => (LoopSt w3 l Rc .done (some (.exit id)) ∧ K (.exit id) fr ds (setLoop w3 l Rc .exhausted (some (.exit id)))) ∨ idsR l Rc fr ds w3 K ids
def finR (l : Nat) (Rc : Loop) (ret : Bool) (ids : List Nat) (fr : List Value) (ds : List Nat) (w3 : World) (K : Exit → List Value → List Nat → World → Prop) : Prop :=
  (LoopSt w3 l Rc .ready none ∧ K .normal fr ds (setLoop w3 l Rc .exhausted none)) ∨
  (match ret with
    | true => (LoopSt w3 l Rc .done (some .ret) ∧ K .ret fr ds (setLoop w3 l Rc .exhausted (some .ret))) ∨ idsR l Rc fr ds w3 K ids
    | false => idsR l Rc fr ds w3 K ids)
def coreR (P : Program) (gf : Nat) (first cap : Array Value) (l : Nat) (Rc : Loop) (w1 : World) (ps : List Nat) (ss : List Sh) (ids : List Nat) (ret : Bool) (fr : List Value) (ds : List Nat)
    (ca cb : (Exit → List Value → List Nat → World → Prop) → List Value → List Nat → World → Prop) (K : Exit → List Value → List Nat → World → Prop) : Prop :=
  roundR P l Rc ps ss fr ca cb →
    Calls P gf ⟨first.toList ++ [Value.func (.yield l) #[] #[]] ++ cap.toList⟩ w1 fun e w3 => (∃ v, e = .returned v) ∧ finR l Rc ret ids fr ds w3 K
def rangeR (P : Program) (r : Option Nat) (g : Value) (ps : List Nat) (ss : List Sh) (ids : List Nat) (ret : Bool) (fr : List Value) (ds : List Nat) (w : World)
    (ca cb : Nat → (Exit → List Value → List Nat → World → Prop) → List Value → List Nat → World → Prop) (K : Exit → List Value → List Nat → World → Prop) : Prop :=
  match g with
  | .func (.func gf) first cap => when (hasB P gf && Nat.beq ps.length ss.length) (match r with
    | none => ∀ (Rc : Loop) (l : Nat) (w1 : World), l = w.heap.size + 1 → w1 = (w.alloc (.deferred (some []))).alloc (.loop { Rc with state := .ready, pending := none }) →
        coreR P gf first cap l Rc w1 ps ss ids ret fr (w.heap.size :: ds) (ca l) (cb l) K
    | some l0 => (∃ r0, w.heap[l0]? = some (.loop r0)) ∧ ∀ (Rc : Loop) (l : Nat) (w1 : World), l = w.heap.size → w1 = w.alloc (.loop { Rc with state := .ready, pending := none }) →
        coreR P gf first cap l Rc w1 ps ss ids ret fr ds (ca l) (cb l) K)
  | _ => False

/-! ### code -/
structure AnnR where
  loops : Nat → List Nat
  plans : Nat → Plan
  cuts : Nat → Option (List Nat × List Sh)
  shs : Nat → List Sh
  opt : Opt
/-- The first region of a piece of code, one more; 0: none. -/
def regOf : Code → Nat
  | .region id _ _ => id + 1
  | .seq a b => (match regOf a with | 0 => regOf b | k => k)
  | .cond _ a b => (match regOf a with | 0 => regOf b | k => k)
  | .block _ c => regOf c
  | .loop c => regOf c
  | .scope c => regOf c
  | _ => 0
def codeR (P : Program) (A : AnnR) : Option Nat → Nat → Code → (Exit → List Value → List Nat → World → Prop) → List Value → List Nat → World → Prop
  | _, _, .skip, K, fr, ds, w => K .normal fr ds w
  | _, _, .label _, K, fr, ds, w => K .normal fr ds w
  | _, _, .exit id, K, fr, ds, w => K (.exit id) fr ds w
  | _, _, .ret, K, fr, ds, w => K .ret fr ds w
  | r, _, .region id ops draw, K, fr, ds, w => (match draw with
    | false => opsR P A.opt ops 0 ops.toList fr w (fun fr w => K .normal fr ds w)
    | true => drawnR P A.opt ops (A.plans id) (A.cuts id) fr w (fun fr w => K .normal fr ds w))
  | r, n, .seq a b, K, fr, ds, w => (match A.cuts (1000000 + regOf b) with
    | none => codeR P A r n a (fun e fr ds w => match e with | .normal => codeR P A r (n + nloopsR a) b K fr ds w | e => K e fr ds w) fr ds w
    | some (slots, ss) => when (decide (slots.length = ss.length)) (when (!hasRange a) (cutV slots ss (asg a) fr (fun K2 => codeR P A r n a (fun e fr2 ds2 w2 => match e with | .normal => K2 fr2 w2 | e => K e fr2 ds2 w2) fr ds w) (fun fr2 w2 => codeR P A r (n + nloopsR a) b K fr2 ds w2))))
  | r, n, .cond c a b, K, fr, ds, w => (match ev fr c with
    | .bool t => sel t (codeR P A r n a K fr ds w) (codeR P A r (n + nloopsR a) b K fr ds w)
    | _ => False)
  | r, n, .block id c, K, fr, ds, w => codeR P A r n c (fun e fr ds w => match e with
    | .exit id' => (match Nat.beq id' id with | true => K .normal fr ds w | false => K (.exit id') fr ds w)
    | e => K e fr ds w) fr ds w
  | r, n, .loop c, K, fr, ds, w => loopR (hasRange c) (A.loops n) (asg c) fr ds w (codeR P A r (n + 1) c) K
  | r, n, .scope c, K, fr, ds, w => codeR P A r n c (fun e fr ds w => match e with | .goto _ => False | e => K e fr ds w) fr ds w
  | r, n, .rangeFunc g ps a b, K, fr, ds, w => rangeR P r (ev fr g) ps.toList (A.shs n) (outs b) (hasRet b) fr ds w (fun l => codeR P A (some l) (n + 1) a) (fun l => codeR P A (some l) (n + 1 + nloopsR a) b) K
  | _, _, _, _, _, _, _ => False

theorem wpIn_scopeW {r : Option Nat} {m : Nat} {P : Program} {c : Code} {Q : Exit → Act → World → Prop} {a : Act} {w : World} (h : c.wpIn (Wd r) m P (Exit.noGoto Q) a w) : (Code.scope c).wpIn (Wd r) m P Q a w := by
  intro b k cs hro hb hr
  have s1 : step P (lone (b.atR a (.code (.scope c) :: k)) cs w) = .next (lone (b.atR a (.code c :: .inScope c :: k)) cs w) := step_lone_go (by simp [stepG, stepG.exec, Frame.atR])
  have h0 : (lone (b.atR a (.code (.scope c) :: k)) cs w).fenced P (Wd r) := fenced_calm hb hr rfl
  obtain ⟨e, a₁, w₁, hq, harr⟩ := h b (.inScope c :: k) cs hro hb hr
  cases e with
  | normal =>
    have s2 : step P (lone (b.atR a₁ (.inScope c :: k)) cs w₁) = .next (lone (b.atR a₁ k) cs w₁) := step_lone_go (by simp [stepG, stepG.exec, Frame.atR])
    exact ⟨.normal, a₁, w₁, hq, .head h0 s1 (StepsIn.trans harr (.one (fenced_calm hb hr rfl) s2))⟩
  | exit id =>
    have hx : exitTo id (.inScope c :: k) = exitTo id k := by simp [exitTo]
    exact ⟨_, a₁, w₁, hq, fun k' hk => .head h0 s1 (harr.1 k' (by rw [hx]; exact hk)),
      fun hr' hk => let ⟨k₁, h1, h2⟩ := harr.2 hr' (by rw [hx]; exact hk); ⟨k₁, h1, .head h0 s1 h2⟩⟩
  | goto l => exact hq.elim
  | ret => exact ⟨_, a₁, w₁, hq, .of_steps (.one h0 s1) harr⟩
  | panic ch => exact ⟨_, a₁, w₁, hq, .of_steps (.one h0 s1) harr⟩
  | outgrown => exact ⟨_, a₁, w₁, hq, .of_steps (.one h0 s1) harr⟩
theorem fill_zip : ∀ (ps : List Nat) (vs : List Value) (fr : List Value), (ps.zip vs).foldl (fun (t : Array Value) (x : Nat × Value) => t.setIfInBounds x.1 x.2) ⟨fr⟩ = ⟨fills fr ps vs⟩
  | [], vs, fr => by simp [fills]
  | p :: ps, [], fr => by simp [fills]
  | p :: ps, v :: vs, fr => by
    simp only [List.zip_cons_cons, List.foldl_cons, fills]
    rw [← fill_zip ps vs]
    simp [put_eq]
theorem enterInner {P : Program} {w : World} {l0 : Nat} {r0 : Loop} (h : w.heap[l0]? = some (.loop r0)) (fn : FuncId) (tmps : Array Value) (ps : Array Tmp) (assign body : Code) :
    (Instr.enterLoop fn tmps ps assign body (some l0)).run P w = .ok (w.heap.size, []) (w.alloc (.loop { state := .ready, pending := none, fn, tmps, params := ps, assign, body, defers := r0.defers })) := by
  unfold Instr.enterLoop
  simp only [Sem.run_bind, run_getLoop h, run_newObj_alloc, Result.andThen, Sem.run_pure]
theorem codeR_wp {P : Program} {A : AnnR} : ∀ {c : Code} {r : Option Nat} {n m : Nat} {K : Exit → List Value → List Nat → World → Prop} {fr : List Value} {ds : List Nat} {w : World} {Q : Exit → Act → World → Prop},
    codeR P A r n c K fr ds w → (∀ c a w d v, Q (.panic c) (a.put d v) w → Q (.panic c) a w) →
    (∀ e fr' ds' w', agree (asg c) fr fr' → (hasRange c = false → ds' = ds) → K e fr' ds' w' → Q e (actD fr' ds') w') → c.wpIn (Wd r) m P Q (actD fr ds) w := by
  intro c
  induction c with
  | skip => intro r n m K fr ds w Q h hQ hk; exact wpIn_skip (hk _ _ _ _ (agree_refl _ _) (fun _ => rfl) h)
  | label l => intro r n m K fr ds w Q h hQ hk; exact wpIn_label (hk _ _ _ _ (agree_refl _ _) (fun _ => rfl) h)
  | exit id => intro r n m K fr ds w Q h hQ hk; exact wpIn_exit (hk _ _ _ _ (agree_refl _ _) (fun _ => rfl) h)
  | ret => intro r n m K fr ds w Q h hQ hk; exact wpIn_ret (hk _ _ _ _ (agree_refl _ _) (fun _ => rfl) h)
  | goto l => intro r n m K fr ds w Q h hQ hk; exact h.elim
  | refuse r => intro r n m K fr ds w Q h hQ hk; exact h.elim
  | region id ops draw =>
    intro r n m K fr ds w Q h hQ hk
    cases draw with
    | false => exact wpIn_region_list (opsR_wp (A := asgO ops.toList) (fun o ho => agree_putO ho) h fun fr' w ha hK => hk _ _ _ _ ha (fun _ => rfl) hK)
    | true => exact drawnR_wp h hQ fun fr' w ha hK => hk _ _ _ _ ha (fun _ => rfl) hK
  | seq a b iha ihb =>
    intro r n m K fr ds w Q h hQ hk
    have hr1 : hasRange (.seq a b) = false → hasRange a = false := fun h => by simp only [hasRange, Bool.or_eq_false_iff] at h; exact h.1
    have hr2 : hasRange (.seq a b) = false → hasRange b = false := fun h => by simp only [hasRange, Bool.or_eq_false_iff] at h; exact h.2
    unfold codeR at h
    split at h
    · refine wpIn_seq (iha h (fun c a w d v => hQ c a w d v) fun e fr' ds' w' ha hd hK => ?_)
      cases e with
      | normal => exact ihb hK hQ fun e fr'' ds'' w'' ha' hd' hK' => hk _ _ _ _ (agree_trans (agree_left ha) (agree_right ha')) (fun h => (hd' (hr2 h)).trans (hd (hr1 h))) hK'
      | _ => exact hk _ _ _ _ (agree_left ha) (fun h => hd (hr1 h)) hK
    · rename_i slots ss _
      obtain ⟨hl, h⟩ := when_cases h
      have hl := of_decide_eq_true hl
      obtain ⟨hra, h⟩ := when_cases h
      have hra : hasRange a = false := by simpa using hra
      obtain ⟨J, h2, h3⟩ := h
      refine wpIn_seq (iha h2 (fun c a w d v => hQ c a w d v) fun e fr' ds' w' ha hd hK => ?_)
      obtain rfl := hd hra
      cases e with
      | normal =>
        obtain ⟨p, hp, hall⟩ := apShs_val (by rw [vals_len]; exact hl) hK
        have hb := hall _ h3 (nth fr') w' hK
        rw [fills_back ha] at hb
        exact ihb hb hQ fun e fr'' ds'' w'' ha' hd' hK' => hk _ _ _ _ (agree_trans (agree_left ha) (agree_right ha')) (fun h => hd' (hr2 h)) hK'
      | _ => exact hk _ _ _ _ (agree_left ha) (fun h => rfl) hK
  | cond x a b iha ihb =>
    intro r n m K fr ds w Q h hQ hk
    simp only [codeR] at h
    have hr1 : hasRange (.cond x a b) = false → hasRange a = false := fun h => by simp only [hasRange, Bool.or_eq_false_iff] at h; exact h.1
    have hr2 : hasRange (.cond x a b) = false → hasRange b = false := fun h => by simp only [hasRange, Bool.or_eq_false_iff] at h; exact h.2
    split at h
    · rename_i t ht
      have ht : (actD fr ds).eval x = .bool t := by rw [actD_eval]; exact ht
      rcases sel_cases h with ⟨rfl, h⟩ | ⟨rfl, h⟩
      · exact wpIn_cond_true ht (iha h hQ fun e fr' ds' w' ha hd hK => hk _ _ _ _ (agree_left ha) (fun h => hd (hr1 h)) hK)
      · exact wpIn_cond_false ht (ihb h hQ fun e fr' ds' w' ha hd hK => hk _ _ _ _ (agree_right ha) (fun h => hd (hr2 h)) hK)
    · exact h.elim
  | block id c ih =>
    intro r n m K fr ds w Q h hQ hk
    refine wpIn_block (ih h (fun c a w d v => hQ c a w d v) fun e fr' ds' w' ha hd hK => ?_)
    cases e with
    | exit id' =>
      simp only [Exit.inBlock]
      cases hb : Nat.beq id' id with
      | true =>
        obtain rfl := Nat.eq_of_beq_eq_true hb
        simp only [hb] at hK
        simp only [if_true]
        exact hk _ _ _ _ ha hd hK
      | false =>
        simp only [hb] at hK
        have : id' ≠ id := fun e => by subst e; simp at hb
        rw [if_neg this]
        exact hk _ _ _ _ ha hd hK
    | _ => exact hk _ _ _ _ ha hd hK
  | scope c ih =>
    intro r n m K fr ds w Q h hQ hk
    refine wpIn_scopeW (ih h (fun c a w d v => hQ c a w d v) fun e fr' ds' w' ha hd hK => ?_)
    cases e with
    | goto l => exact hK
    | _ => exact hk _ _ _ _ ha hd hK
  | loop c ih =>
    intro r n m K fr ds w Q h hQ hk
    simp only [codeR] at h
    generalize hcar : A.loops n = carried at *
    have hlen : ∀ fr', (vals fr' carried).length = (kinds fr carried).length := fun fr' => vals_length fr' fr carried
    generalize hrg : hasRange c = rg at *
    have hrg' : hasRange (.loop c) = rg := hrg
    cases rg with
    | false =>
      obtain ⟨I, μ, h0, hr⟩ := h
      classical
      let M : Act → World → Nat := fun a w' => if h : ∃ r : World → Nat, ∀ K', apKs (kinds fr carried) μ (vals a.tmps.toList carried) K' ↔ K' r then (Classical.choose h) w' else 0
      have hM : ∀ (fr' : List Value) (ds' : List Nat) (r : World → Nat), (∀ K', apKs (kinds fr carried) μ (vals fr' carried) K' ↔ K' r) → ∀ w', M (actD fr' ds') w' = r w' := fun fr' ds' r hr' w' => by
        have hex : ∃ r : World → Nat, ∀ K', apKs (kinds fr carried) μ (vals (actD fr' ds').tmps.toList carried) K' ↔ K' r := ⟨r, hr'⟩
        have h1 := Classical.choose_spec hex
        have h2 : r = Classical.choose hex := ((hr' (fun x => x = Classical.choose hex)).1 ((h1 _).2 rfl))
        show dite _ _ _ = _
        rw [dif_pos hex, ← h2]
      refine wpIn_loop (fun a w' => ∃ fr1, a = actD fr1 ds ∧ agree (asg c) fr fr1 ∧ apKs (kinds fr carried) I (vals fr1 carried) (fun p => p w')) M ⟨fr, rfl, agree_refl _ _, h0⟩ ?_
      rintro a w' ⟨fr1, rfl, hag, hI⟩
      obtain ⟨q0, hr1, hall⟩ := apKs_val (hlen fr1) hI
      have hb := (hr1 _).1 (hall _ hr (nth fr1) w') ((hr1 _).1 hI)
      rw [fills_back hag] at hb
      refine ih hb (fun c a w d v => hQ c a w d v) fun e fr2 ds2 w2 ha hd hK => ?_
      have hag2 := agree_trans hag ha
      obtain rfl := hd rfl
      cases e with
      | normal =>
        obtain ⟨q, hq, _⟩ := apKs_val (hlen fr2) hK
        obtain ⟨hq1, hK2⟩ := (hq _).1 hK
        obtain ⟨m2, hm2, _⟩ := apKs_val (hlen fr2) hK2
        have hK3 := (hm2 _).1 hK2
        obtain ⟨m, hm, _⟩ := apKs_val (hlen fr1) hK3
        have hlt := (hm _).1 hK3
        exact ⟨⟨fr2, rfl, hag2, (hq _).2 hq1⟩, by rw [hM fr2 _ m2 hm2, hM fr1 _ m hm]; exact hlt⟩
      | _ => exact hk _ _ _ _ hag2 (fun _ => rfl) hK
    | true =>
      obtain ⟨I, μ, h0, hr⟩ := h
      classical
      let M : Act → World → Nat := fun a w' => if h : ∃ r : World → Nat, ∀ K', apKs (kinds fr carried) μ (vals a.tmps.toList carried) K' ↔ K' r then (Classical.choose h) w' else 0
      have hM : ∀ (fr' : List Value) (ds' : List Nat) (r : World → Nat), (∀ K', apKs (kinds fr carried) μ (vals fr' carried) K' ↔ K' r) → ∀ w', M (actD fr' ds') w' = r w' := fun fr' ds' r hr' w' => by
        have hex : ∃ r : World → Nat, ∀ K', apKs (kinds fr carried) μ (vals (actD fr' ds').tmps.toList carried) K' ↔ K' r := ⟨r, hr'⟩
        have h1 := Classical.choose_spec hex
        have h2 : r = Classical.choose hex := ((hr' (fun x => x = Classical.choose hex)).1 ((h1 _).2 rfl))
        show dite _ _ _ = _
        rw [dif_pos hex, ← h2]
      refine wpIn_loop (fun a w' => ∃ fr1 ds1, a = actD fr1 ds1 ∧ agree (asg c) fr fr1 ∧ apKs (kinds fr carried) I (vals fr1 carried) (fun p => p ds1 w')) M ⟨fr, ds, rfl, agree_refl _ _, h0⟩ ?_
      rintro a w' ⟨fr1, ds1, rfl, hag, hI⟩
      obtain ⟨q0, hr1, hall⟩ := apKs_val (hlen fr1) hI
      have hb := (hr1 _).1 (hall _ hr (nth fr1) ds1 w') ((hr1 _).1 hI)
      rw [fills_back hag] at hb
      refine ih hb (fun c a w d v => hQ c a w d v) fun e fr2 ds2 w2 ha hd hK => ?_
      have hag2 := agree_trans hag ha
      cases e with
      | normal =>
        obtain ⟨q, hq, _⟩ := apKs_val (hlen fr2) hK
        obtain ⟨hq1, hK2⟩ := (hq _).1 hK
        obtain ⟨m2, hm2, _⟩ := apKs_val (hlen fr2) hK2
        have hK3 := (hm2 _).1 hK2
        obtain ⟨m, hm, _⟩ := apKs_val (hlen fr1) hK3
        have hlt := (hm _).1 hK3
        exact ⟨⟨fr2, ds2, rfl, hag2, (hq _).2 hq1⟩, by rw [hM fr2 _ m2 hm2, hM fr1 _ m hm]; exact hlt⟩
      | _ => exact hk _ _ _ _ hag2 (fun h => by rw [hrg'] at h; cases h) hK
  | rangeFunc g ps a b iha ihb =>
    intro r n m K fr ds w Q h hQ hk
    simp only [codeR, rangeR] at h
    split at h
    rotate_left
    · exact h.elim
    rename_i gf first cap hg
    obtain ⟨h1, h⟩ := when_cases h
    simp only [Bool.and_eq_true] at h1
    obtain ⟨hb1, hlen⟩ := h1
    have hlen := Nat.eq_of_beq_eq_true hlen
    -- what both ways share: the call and what is behind it
    have key : ∀ (fn l : Nat) (mark : List Nat) (dfs : Nat) (w1 : World) (Rc : Loop), Rc = { state := .ready, pending := none, fn := fn, tmps := ⟨fr⟩, params := ps, assign := a, body := b, defers := dfs } →
        coreR P gf first cap l Rc w1 ps.toList (A.shs n) (outs b) (hasRet b) fr (mark ++ ds) (codeR P A (some l) (n + 1) a) (codeR P A (some l) (n + 1 + nloopsR a) b) K →
        CallsIn (Wd r) (m - 1) P gf ((first ++ #[Value.func (.yield l) #[] #[]]) ++ cap) w1 (rangePost (Wd r) m P l Q (actD fr (mark ++ ds))) := by
      intro fn l mark dfs w1 Rc hRc hcore
      refine callsIn_Wd ?_
      have hround : roundR P l Rc ps.toList (A.shs n) fr (codeR P A (some l) (n + 1) a) (codeR P A (some l) (n + 1 + nloopsR a) b) := by
        refine allShs_intro fun vs hvs W R hst hca => ?_
        have hst' : W.heap[l]? = some (.loop { Rc with state := .ready, pending := none }) := hst
        have hpl : ps.size = vs.length := by rw [← Array.length_toList]; omega
        refine ⟨fn, ⟨fills fr ps.toList vs⟩, a, b, ?_, round_Wd (r := none) (m := 0) (roundIn_of_wpIn (F := Wd none) (n := 0) trivial ?_) (r' := none) (m' := 0)⟩
        · have := run_yield (P := P) (w := W) (args := ⟨vs⟩) hst' (by rw [hRc]; simpa using hpl.symm)
          rw [this, hRc]
          congr 2
          rw [← fill_zip, ← Array.foldl_toList, Array.toList_zip]
        · have := iha (r := some l) (m := 0) (Q := Exit.then (fun a₁ w₁ => ∃ w₂, (Instr.beginRound l).run P w₁ = .ok () w₂ ∧ b.wpIn ((Wd none).inRound l) 0 P (roundPost P l R) a₁ w₂) (fun _ _ _ => False)) hca (fun c a w d v h => h) ?_
          · exact this
          · intro e fr1 ds1 W1 _ _ hK
            cases e with
            | normal =>
              obtain ⟨hs1, hcb⟩ := hK
              have hs1' : W1.heap[l]? = some (.loop { Rc with state := .ready, pending := none }) := hs1
              refine ⟨_, run_beginRound hs1' rfl, ?_⟩
              refine ihb (r := some l) (m := 0) (Q := roundPost P l R) hcb (fun c a w d v h => h) ?_
              intro e fr2 ds2 W2 _ _ hK
              cases e with
              | normal => exact ⟨_, _, run_endRound none hK.1, hK.2⟩
              | ret => exact ⟨_, _, run_endRound (some .ret) hK.1, hK.2⟩
              | exit id => exact ⟨_, _, run_endRound (some (.exit id)) hK.1, hK.2⟩
              | _ => exact hK.elim
            | _ => exact hK.elim
      refine Calls.mono (R := fun e w3 => (∃ v, e = .returned v) ∧ finR l Rc (hasRet b) (outs b) fr (mark ++ ds) w3 K) ?_ ?_
      · have := hcore hround
        have e2 : (⟨first.toList ++ [Value.func (.yield l) #[] #[]] ++ cap.toList⟩ : Array Value) = (first ++ #[Value.func (.yield l) #[] #[]]) ++ cap := by
          apply Array.ext'; simp
        rw [e2] at this
        exact this
      · rintro e w3 ⟨⟨v, rfl⟩, hf⟩
        have hk' : ∀ e w', K e fr (mark ++ ds) w' → Q e (actD fr (mark ++ ds)) w' := fun e w' h => hk _ _ _ _ (agree_refl _ _) (fun h => by cases h) h
        have hids : ∀ ids, idsR l Rc fr (mark ++ ds) w3 K ids → rangePost (Wd r) m P l Q (actD fr (mark ++ ds)) (.returned v) w3 := by
          intro ids
          induction ids with
          | nil => intro h; exact h.elim
          | cons id ids ihi =>
            intro h
            rcases h with ⟨h1, h2⟩ | h
            · exact ⟨some (.exit id), _, run_endLoop h1 (by simp), wpIn_exit (hk' _ _ h2)⟩
            · exact ihi h
        rcases hf with ⟨h1, h2⟩ | hf
        · exact ⟨none, _, run_endLoop h1 (by simp), hk' _ _ h2⟩
        · cases hrt : hasRet b with
          | true =>
            rw [hrt] at hf
            rcases hf with ⟨h1, h2⟩ | hf
            · exact ⟨some .ret, _, run_endLoop h1 (by simp), wpIn_ret (hk' _ _ h2)⟩
            · exact hids _ hf
          | false => rw [hrt] at hf; exact hids _ hf
    have hres : ∀ (l : Nat) (w1 : World), (resolve (actD fr ds).eval (rangeCall g l) 0).run P w1 = .ok { target := .fn (.func gf) cap, args := first ++ #[Value.func (.yield l) #[] #[]] } w1 := by
      intro l w1
      have e3 : (#[Operand.const (Value.func (.yield l) #[] #[])] : Array Operand).map (ev fr) = #[Value.func (.yield l) #[] #[]] := by simp [ev]
      simp only [resolve, actD_eval, rangeCall, hg, Deferred.ofValue, e3, Sem.run_pure]
    have hinv : ∀ (l : Nat) (w1 : World), (invoke (.fn (.func gf) cap) (first ++ #[Value.func (.yield l) #[] #[]])).run P w1 = .ok (.enter gf ((first ++ #[Value.func (.yield l) #[] #[]]) ++ cap)) w1 := by
      intro l w1
      have := run_callFunc (P := P) hb1 ((first ++ #[Value.func (.yield l) #[] #[]]) ++ cap) w1
      simpa [invoke] using this
    refine wpIn_rangeFunc fun fn _ => ?_
    cases r with
    | none => exact ⟨_, _, _, _, _, gf, _, _, run_enterLoop_outer fn _ _ _ _, hres _ _, fun _ _ => trivial, hinv _ _, fun h => (by cases h), key fn _ [w.heap.size] w.heap.size _ _ rfl (h _ _ _ rfl rfl)⟩
    | some l0 =>
      obtain ⟨⟨r0, h0⟩, h⟩ := h
      exact ⟨_, _, _, _, _, gf, _, _, enterInner h0 fn _ _ _ _, hres _ _, fun _ _ => trivial, hinv _ _, fun h => (by cases h), key fn _ [] r0.defers _ _ rfl (h _ _ _ rfl rfl)⟩

/-! ### calls -/
def resVsB (P : Program) (fr : List Value) (w : World) : List ResultVar → (List Value → Prop) → Prop
  | [], K => K []
  | .tmp t :: rs, K => resVsB P fr w rs fun vs => K (nth fr t :: vs)
  | .cell a t :: rs, K => loadB P (fun a x => w.cell? a = some x) t (nth fr a) fun v => resVsB P fr w rs fun vs => K (v :: vs)
theorem exK_mono' {k : Kind} {K K' : Value → Prop} (hk : ∀ v, K v → K' v) (h : exK k K) : exK k K' := exK_mono hk h
theorem loadB_mono {P : Program} {C : Addr → Value → Prop} {t : TypeId} {v : Value} {K K' : Value → Prop} (hk : ∀ v, K v → K' v) (h : loadB P C t v K) : loadB P C t v K' := by
  have hba : ∀ {a : Addr} {i : TypeInfo}, loadBA C a i K → loadBA C a i K' := by
    intro a i h
    unfold loadBA at h ⊢
    split at h
    · rename_i cs hz
      obtain ⟨h1, h⟩ := when_cases h
      exact when_intro h1 (exKs_mono (fun vs h => ⟨h.1, hk _ h.2⟩) h)
    · exact h.elim
  unfold loadB at h ⊢
  split at h
  · rename_i p
    cases p with
    | none => exact h.elim
    | some a =>
      show match P.underlying t, P.info? t with
        | some (.struct _), some i => loadBA C a i K'
        | some (.array _ _), some i => loadBA C a i K'
        | some _, some i => (match i.zero with
          | some z => exK (kindOf z) fun x => C a x ∧ K' x
          | none => False)
        | _, _ => False
      have h : match P.underlying t, P.info? t with
        | some (.struct _), some i => loadBA C a i K
        | some (.array _ _), some i => loadBA C a i K
        | some _, some i => (match i.zero with
          | some z => exK (kindOf z) fun x => C a x ∧ K x
          | none => False)
        | _, _ => False := h
      split at h
      · exact hba h
      · exact hba h
      · split at h
        · exact exK_mono (fun x h => ⟨h.1, hk _ h.2⟩) h
        · exact h.elim
      · exact h.elim
  · exact h.elim
theorem resVsB_imp {P : Program} {fr : List Value} {w : World} : ∀ {rs : List ResultVar} {K : List Value → Prop}, resVsB P fr w rs K → resVs P fr w rs K
  | [], K, h => h
  | .tmp t :: rs, K, h => resVsB_imp (rs := rs) h
  | .cell a t :: rs, K, h => loadB_imp (loadB_mono (fun v h => resVsB_imp h) h)
def resR (P : Program) (big : Bool) (rs : List ResultVar) (fr : List Value) (w : World) (K : Value → Prop) : Prop :=
  match big with
  | false => resV P rs fr w K
  | true => resVsB P fr w rs fun vs => (match vs with | [v] => K v | vs => K (.tuple ⟨vs⟩))
theorem resR_imp {P : Program} {big : Bool} {rs : List ResultVar} {fr : List Value} {w : World} {K : Value → Prop} (h : resR P big rs fr w K) : resV P rs fr w K := by
  cases big with
  | false => exact h
  | true => exact resVsB_imp h
def closeR : List Nat → World → (World → Prop) → Prop
  | [], w, K => K w
  | D :: ds, w, K => w.heap[D]? = some (.deferred (some [])) ∧ closeR ds (w.putObj D (.deferred none)) K
theorem leaves_of_close {P : Program} {fn : Func} {tmps : Array Value} {R : Ending → World → Prop} : ∀ {ds : List Nat} {w : World}, closeR ds w (fun w' => ∃ v, (results fn tmps).run P w' = .ok v w' ∧ R (.returned v) w') →
    LeavesInM (Wd none) 0 P fn tmps R (ds.map fun D => ⟨.collected D, #[]⟩) .returning w
  | [], w, h => h
  | D :: ds, w, h => ⟨by simp, .inl ⟨D, _, rfl, run_takeDeferred h.1, leaves_of_close h.2⟩⟩
theorem closeR_mono {K K' : World → Prop} (hk : ∀ w, K w → K' w) : ∀ {ds : List Nat} {w : World}, closeR ds w K → closeR ds w K'
  | [], w, h => hk _ h
  | D :: ds, w, h => ⟨h.1, closeR_mono hk h.2⟩
theorem calls_of_R {P : Program} {f : FuncId} {fn : Func} {c : Code} {args : List Value} {w : World} {R : Ending → World → Prop} (A : AnnR)
    (hf : P.funcs[f]? = some fn) (hb : fn.body = some c)
    (h : codeR P A none 0 c (fun e fr ds w' => match e with
      | .normal => closeR ds w' fun w' => resR P A.opt.big fn.results.toList fr w' fun v => R (.returned v) w'
      | .ret => closeR ds w' fun w' => resR P A.opt.big fn.results.toList fr w' fun v => R (.returned v) w'
      | _ => False) (args ++ List.replicate (fn.ntmps - args.length) undef) [] w) : Calls P f ⟨args⟩ w R := by
  refine calls_of_Wd (r := none) (m := 0) (callsIn_of_wp_marks hf hb trivial ?_ rfl)
  have e : (⟨args⟩ : Array Value) ++ Array.replicate (fn.ntmps - (⟨args⟩ : Array Value).size) undef = ⟨args ++ List.replicate (fn.ntmps - args.length) undef⟩ := by
    apply Array.ext'; simp
  rw [e]
  refine wpIn_mono (Q := fun e a w => match e with | .panic _ => False | e => bodyPostM (Wd none) 0 P fn R e a w) (codeR_wp (ds := []) h (fun c a w d v h => h) fun e fr' ds' w' _ _ hK => ?_) (fun e a w h => ?_)
  rotate_left
  · cases e <;> first | exact h | exact h.elim
  · cases e with
    | normal => exact leaves_of_close (closeR_mono (fun w' h => by obtain ⟨v, hr, hR⟩ := resV_run (resR_imp h); exact ⟨v, hr, hR⟩) hK)
    | ret => exact leaves_of_close (closeR_mono (fun w' h => by obtain ⟨v, hr, hR⟩ := resV_run (resR_imp h); exact ⟨v, hr, hR⟩) hK)
    | _ => exact hK.elim
def assocP : List (Nat × Plan) → Nat → Plan
  | [], _ => .done
  | (k, v) :: r, n => (match Nat.beq k n with | true => v | false => assocP r n)
def assocC : List (Nat × (List Nat × List Sh)) → Nat → Option (List Nat × List Sh)
  | [], _ => none
  | (k, v) :: r, n => (match Nat.beq k n with | true => some v | false => assocC r n)
def assocS : List (Nat × List Sh) → Nat → List Sh
  | [], _ => []
  | (k, v) :: r, n => (match Nat.beq k n with | true => v | false => assocS r n)
/-- The steps in a row, none of which branches. -/
def line : List Nat → Plan
  | [] => .done
  | i :: is => .one i (line is)
end Go.V
