/- Image: inside. -/
import Derived.Test.YtoaeefjcjdhlkaaGreatI13
set_option linter.unusedVariables false
set_option linter.unusedSimpArgs false
namespace Go.Proofs.YtoaeefjcjdhlkaaGreat
open Go Go.V Go.B

theorem index_c {w : World} {A : Option Addr} {n c : Nat} {l : List Bool} (hc : Cells w A (TL.flat l)) (hl : l.length = n) (hn : n ≤ 16777216) {R : Ending → World → Prop} (k : R (.returned (.int .i64 (match l.findIdx? (fun u => !u) with | some i => (i : Int) | none => -1))) w) :
    Calls Tryz.prog 63 #[.slice A n c, .bool false] w R := by
  apply slices_Index___bool_bool__nf
  refine ⟨fun t w' => ∃ a : Nat, t = (a : Int) ∧ w' = w ∧ a ≤ n ∧ ∀ j, j < a → l[j]? = some true, fun t _ => n - t.toNat, ⟨0, rfl, rfl, by omega, fun j h => by omega⟩, ?_⟩
  rintro _ _ _ ⟨a, rfl, rfl, ha, hall⟩
  refine sel_dec (fun hlt => ?_) (fun hge => ?_)
  rotate_left
  · obtain rfl : a = n := by omega
    have : l.findIdx? (fun u => !u) = none := unused_none fun i hi => hall i (by omega)
    rw [this] at k
    exact k
  obtain ⟨x, ad, hx, rfl, rd⟩ := Cells.row (L := TL) hc hl (a := a) (by omega)
  refine when_dec ⟨by omega, by omega⟩ (ptr_in ⟨x, by have := rd 0 _ rfl; rw [Addr.add_zero'] at this; exact this, sel_intro (fun h => ?_) (fun h => ?_)⟩)
  · have hf : x = false := by cases x <;> simp_all
    subst hf
    have : l.findIdx? (fun u => !u) = some a := by
      rw [List.findIdx?_eq_some_iff_getElem]
      obtain ⟨h1, h2⟩ := List.getElem?_eq_some_iff.1 hx
      refine ⟨h1, by rw [h2]; rfl, fun j hj => ?_⟩
      obtain ⟨h3, h4⟩ := List.getElem?_eq_some_iff.1 (hall j hj)
      rw [h4]; simp
    rw [this] at k
    exact k
  · have hf : x = true := by cases x <;> simp_all
    subst hf
    rw [up64 a (by omega)]
    refine ⟨⟨a + 1, rfl, rfl, by omega, fun j hj => ?_⟩, by simp only [Int.toNat_natCast]; omega⟩
    rcases Nat.lt_or_ge j a with h1 | h1
    · exact hall j h1
    · obtain rfl : j = a := by omega
      exact hx
/-- The frame's deferred closure, and its results. -/
structure Dr (p q : Nat) (a : Act) : Prop where
  d : a.defers = [⟨.fn (.func 59) #[.pointer (some ⟨p, 0, none⟩), .pointer (some ⟨q, 0, none⟩)], #[]⟩]
  t2 : a.tmps.getD 2 undef = .pointer (some ⟨p, 0, none⟩)
  t3 : a.tmps.getD 3 undef = .pointer (some ⟨q, 0, none⟩)
abbrev stV (a b : Int) (A1 : Option Addr) (n1 c1 : Nat) (A2 : Option Addr) (n2 c2 : Nat) (A3 : Option Addr) (n3 c3 : Nat) : List Value := [.int .i64 a, .int .i64 b, .slice A1 n1 c1, .slice A2 n2 c2, .slice A3 n3 c3]
set_option maxRecDepth 100000 in
theorem inside_res_nf {w : World} {K : List Value → Prop} {p q : Addr} (h : ∃ a, ∃ b, ∃ A1, ∃ n1, ∃ c1, ∃ A2, ∃ n2, ∃ c2, ∃ A3, ∃ n3, ∃ c3, cellsC (fun a_ x_ => w.cell? a_ = some x_) p (stV a b A1 n1 c1 A2 n2 c2 A3 n3 c3) ∧ ∃ f, w.cell? q = some (.pointer f) ∧ K [.agg ⟨stV a b A1 n1 c1 A2 n2 c2 A3 n3 c3⟩, .pointer f]) :
    loadB Tryz.prog (fun a x => w.cell? a = some x) 26 (.pointer (some p)) fun v => loadB Tryz.prog (fun a x => w.cell? a = some x) 93 (.pointer (some q)) fun v' => K [v, v'] := Eq.mp (by kernel_rfl) h
theorem inside_res_eq {fr : List Value} {w : World} {K : Value → Prop} : resR Tryz.prog true Tryz.f36.results.toList fr w K = loadB Tryz.prog (fun a x => w.cell? a = some x) 26 (nth fr 2) fun v => loadB Tryz.prog (fun a x => w.cell? a = some x) 93 (nth fr 3) fun v' => K (.tuple ⟨[v, v']⟩) := by kernel_rfl
set_option maxRecDepth 100000 in
theorem inside_results {p q : Nat} {a : Act} (d : Dr p q a) {w : World} {x y : Int} {A1 A2 A3 : Option Addr} {n1 c1 n2 c2 n3 c3 : Nat} {f : Option Addr} (hp : BlkT w p (stV x y A1 n1 c1 A2 n2 c2 A3 n3 c3) 26) (hq : BlkT w q [.pointer f] 93) : (results Tryz.f36 a.tmps).run Tryz.prog w = .ok (.tuple #[.agg ⟨stV x y A1 n1 c1 A2 n2 c2 A3 n3 c3⟩, .pointer f]) w := by
  have h : resR Tryz.prog true Tryz.f36.results.toList a.tmps.toList w (fun v => v = .tuple #[.agg ⟨stV x y A1 n1 c1 A2 n2 c2 A3 n3 c3⟩, .pointer f]) := by
    have e2 : nth a.tmps.toList 2 = .pointer (some ⟨p, 0, none⟩) := by rw [nth_eq, ← d.t2]; cases a; rename_i t ds; cases t; simp
    have e3 : nth a.tmps.toList 3 = .pointer (some ⟨q, 0, none⟩) := by rw [nth_eq, ← d.t3]; cases a; rename_i t ds; cases t; simp
    rw [inside_res_eq, e2, e3]
    exact inside_res_nf (K := fun vs => Value.tuple ⟨vs⟩ = _) ⟨_, _, _, _, _, _, _, _, _, _, _, cadd0 hp, _, by have := cadd (i := 0) hq rfl; rw [Addr.add_zero'] at this; exact this, rfl⟩
  obtain ⟨v, hr, rfl⟩ := resV_run (resR_imp h)
  exact hr
set_option maxRecDepth 100000 in
theorem inside_panic {p q fa : Nat} {a : Act} (d : Dr p q a) {w : World} {cs : List Value} {v : Value} (hp : BlkT w p cs 26) (hcs : cs.length = 5) (hq : BlkT w q [v] 93) (hpq : p ≠ q) {R : Ending → World → Prop}
    (k : ∀ w', Ext [p, q] w w' → R (.returned (.tuple #[.agg ⟨zeroState⟩, .pointer (some ⟨fa, 0, none⟩)])) w') : bodyPostD Tryz.prog Tryz.f36 R (.panic (gaveUp fa)) a w := by
  unfold bodyPostD
  simp only []
  rw [d.d]
  refine leaves_cons (f := 59) (args := #[.pointer (some ⟨p, 0, none⟩), .pointer (some ⟨q, 0, none⟩)]) (by simp) (by simp [go_sem]) ?_
  refine (catch_panicking (older := []) hp hcs hq hpq).mono ?_
  rintro e u' w' ⟨⟨v, rfl⟩, rfl, h1, h2, h3⟩
  exact ⟨_, inside_results d h1 h2, k w' h3⟩
set_option maxRecDepth 100000 in
theorem inside_idle {p q : Nat} {a : Act} (d : Dr p q a) {w : World} {x y : Int} {A1 A2 A3 : Option Addr} {n1 c1 n2 c2 n3 c3 : Nat} {f : Option Addr} (hp : BlkT w p (stV x y A1 n1 c1 A2 n2 c2 A3 n3 c3) 26) (hq : BlkT w q [.pointer f] 93) {R : Ending → World → Prop}
    (k : R (.returned (.tuple #[.agg ⟨stV x y A1 n1 c1 A2 n2 c2 A3 n3 c3⟩, .pointer f])) w) : bodyPostD Tryz.prog Tryz.f36 R .ret a w := by
  unfold bodyPostD
  simp only []
  rw [d.d]
  refine leaves_cons (f := 59) (args := #[.pointer (some ⟨p, 0, none⟩), .pointer (some ⟨q, 0, none⟩)]) (by simp) (by simp [go_sem]) ?_
  refine catch_idle.mono ?_
  rintro e u' w' ⟨⟨v, rfl⟩, rfl, rfl⟩
  exact ⟨_, inside_results d hp hq, k⟩
theorem store_step {P : Program} {ops : Array Oper} {Q : Exit → Act → World → Prop} {a : Act} {w w' : World} {rest : List Oper} {d : Option Tmp} {t : TypeId} {ad x : Operand} {ty : TypeId} {pos : String} {after : Array _} (hr : (Instr.storeAt t (a.eval ad) (a.eval x)).run P w = .ok () w') (h : wpList P ops Q rest (a.put d undef) w') :
    wpList P ops Q (⟨d, .store t ad x, ty, pos, after, none⟩ :: rest) a w := wpList_plain rfl fun K hK => by
  unfold Oper.wp
  have e : (execOp a.eval ⟨d, .store t ad x, ty, pos, after, none⟩).run P w = .ok .skip w' := by
    simp only [execOp, Sem.run_bind, hr, Result.andThen_ok, Sem.run_pure]
  rw [e]
  exact hK _ _ h
theorem load_step {P : Program} {ops : Array Oper} {Q : Exit → Act → World → Prop} {a : Act} {w : World} {rest : List Oper} {d : Option Tmp} {t : TypeId} {ad : Operand} {ty : TypeId} {pos : String} {after : Array _} {v : Value} (hr : (Instr.loadAt t (a.eval ad)).run P w = .ok v w) (h : wpList P ops Q rest (a.put d v) w) :
    wpList P ops Q (⟨d, .load t ad, ty, pos, after, none⟩ :: rest) a w := wpList_plain rfl fun K hK => by
  unfold Oper.wp
  have e : (execOp a.eval ⟨d, .load t ad, ty, pos, after, none⟩).run P w = .ok (.value v) w := by
    simp only [execOp, Sem.run_bind, hr, Result.andThen_ok, Sem.run_pure]
  rw [e]
  exact hK _ _ h
set_option maxRecDepth 100000 in
theorem load_st_nf {w : World} {K : Value → Prop} {p : Addr} (h : ∃ a, ∃ b, ∃ A1, ∃ n1, ∃ c1, ∃ A2, ∃ n2, ∃ c2, ∃ A3, ∃ n3, ∃ c3, cellsC (fun a_ x_ => w.cell? a_ = some x_) p (stV a b A1 n1 c1 A2 n2 c2 A3 n3 c3) ∧ K (.agg ⟨stV a b A1 n1 c1 A2 n2 c2 A3 n3 c3⟩)) :
    loadB Tryz.prog (fun a x => w.cell? a = some x) 26 (.pointer (some p)) K := Eq.mp (by kernel_rfl) h
set_option maxRecDepth 100000 in
theorem load_st {w : World} {p : Nat} {x y : Int} {A1 A2 A3 : Option Addr} {n1 c1 n2 c2 n3 c3 : Nat} (hp : BlkT w p (stV x y A1 n1 c1 A2 n2 c2 A3 n3 c3) 26) : (Instr.loadAt 26 (.pointer (some ⟨p, 0, none⟩))).run Tryz.prog w = .ok (.agg ⟨stV x y A1 n1 c1 A2 n2 c2 A3 n3 c3⟩) w := by
  obtain ⟨u, rfl, h⟩ := loadG_run (P := Tryz.prog) (w := w) (fun _ _ h => h) (loadB_imp (load_st_nf (K := fun v => v = .agg ⟨stV x y A1 n1 c1 A2 n2 c2 A3 n3 c3⟩) ⟨_, _, _, _, _, _, _, _, _, _, _, cadd0 hp, rfl⟩))
  exact h w fun _ _ h => h
set_option maxRecDepth 100000 in
set_option maxHeartbeats 1000000 in
/-- The inside of an image. -/
theorem inside_c {w : World} {A : Option Addr} {n c : Nat} {b : List UInt8} (hc : Cells w A (BL.flat b)) (hl : b.length = n) (hn : n ≤ 16777216) (hcap : n ≤ c) (h6 : 6 ≤ n) {R : Ending → World → Prop}
    (k : match insideS tState b with
      | .ok r s => ∀ w' vs, Ext [] w w' → tyR tState r → RepPR (NewB w w') w' r vs → R (.returned (.tuple #[.agg ⟨vs⟩, .pointer none])) w'
      | .err e p => ∀ w' fa, Ext [] w w' → w.heap.size ≤ fa → BlkT w' fa (faultC e p) 129 → R (.returned (.tuple #[.agg ⟨zeroState⟩, .pointer (some ⟨fa, 0, none⟩)])) w') :
    Calls Tryz.prog 36 #[.slice A n c] w R := by
  have hmf : ∀ (fn : Fn) (first cap : Array Value) (w : World), (Instr.makeFunc fn first cap).run Tryz.prog w = .ok (.func fn first cap) w := fun _ _ _ _ => rfl
  go_enter_defers Tryz.func36, Tryz.ntmps36
  go_wp2_with (go_at_fn 60; skip)
  subst hl
  generalize h1 : w.alloc (.cells #[.int .i64 0, .int .i64 0, .slice none 0 0, .slice none 0 0, .slice none 0 0] 26) = w1
  generalize h2 : w1.alloc (.cells #[.pointer none] 93) = w2
  generalize h3 : w2.alloc (.cells #[.slice A b.length c, .int .i64 6, .slice none 0 0, .slice none 0 0, .slice none 0 0] 137) = w3
  obtain ⟨b1, x1, z1⟩ := box_new (cs := zeroState) h1.symm
  obtain ⟨b2, x2, z2⟩ := box_new (cs := [.pointer none]) h2.symm
  obtain ⟨b3, x3, z3⟩ := box_new (cs := [.slice A b.length c, .int .i64 6, .slice none 0 0, .slice none 0 0, .slice none 0 0]) h3.symm
  rw [z2, z1] at b3
  rw [z1] at b2
  have b1' := b1.ext x2 (by simp)
  have x12 : Ext [] w w2 := x1.trans x2
  have hpq : w.heap.size ≠ w.heap.size + 1 := by omega
  let C : RC := ⟨w2, w.heap.size + 1 + 1, w3.heap.size, A, c, b, [], [], none, 0, none, 0, none, 0⟩
  have hno : ∀ x, x ∉ ownF (none : Option Addr) := by intro x; simp [ownF]
  have tb : Tb C ⟨6, b.drop 6, []⟩ w3 := ⟨⟨List.nodup_nil, hc.ext0 x12, hn, hcap, (by show w2.heap.size ≤ w.heap.size + 1 + 1; omega), (by show w.heap.size + 1 + 1 < w3.heap.size; omega), fun x hx => absurd hx (hno x), fun x hx => (by cases hx), rfl, hno _, hno _, hno _, fun x hx => absurd hx (hno x), fun x hx => absurd hx (hno x), fun x hx => absurd hx (hno x), fun x hx => absurd hx (hno x)⟩,
    ⟨x3, Nat.le_refl _, b3, OwnL.nil _ _ _, OwnL.nil _ _ _, OwnL.nil _ _ _, h6, rfl⟩, fun x hx => absurd hx (hno x), List.Pairwise.nil⟩
  have hbad : ∀ {a : Act} {w' : World} {fa e p : Nat}, Dr w.heap.size (w.heap.size + 1) a → (∀ w' fa, Ext [] w w' → w.heap.size ≤ fa → BlkT w' fa (faultC e p) 129 → R (.returned (.tuple #[.agg ⟨zeroState⟩, .pointer (some ⟨fa, 0, none⟩)])) w') → (∃ cs, cs.length = 5 ∧ BlkT w' w.heap.size cs 26) → BlkT w' (w.heap.size + 1) [.pointer none] 93 → Ext [] w w' → w.heap.size + 1 < fa → BlkT w' fa (faultC e p) 129 → bodyPostD Tryz.prog Tryz.f36 R (.panic (gaveUp fa)) a w' := by
    rintro a w' fa e p d k ⟨cs, hcs, hp⟩ hq ex hfa hb
    refine inside_panic d hp hcs hq hpq fun w'' e'' => k w'' fa (ex.trans' e'' fun x hx => .inr ?_) (by omega) (hb.ext e'' (by simp; omega))
    simp at hx
    omega
  refine table_c tb rfl rfl rfl ?_
  unfold insideS at k
  cases hT : tableS ⟨6, b.drop 6, []⟩ with
  | err e p =>
    rw [hT] at k
    simp only [Res.bind] at k
    intro w' fa ex hfa hb
    have ex' : Ext [] w2 w' := ex
    have hfa' : w2.heap.size ≤ fa := hfa
    exact hbad ⟨rfl, rfl, rfl⟩ k ⟨_, rfl, b1'.ext ex' (by simp)⟩ (b2.ext ex' (by simp)) (x12.trans ex') (by omega) hb
  | ok TS s1 =>
  rw [hT] at k
  simp only [Res.bind] at k
  intro D w4 hD hDT hDS tb4
  obtain ⟨DW, Drb, DN, DB, Dbc, Db, DT, DS, DTA, DTc, DSA, DSc, DUA, DUc⟩ := D
  obtain ⟨g1, g2, g3, g4, g5⟩ := hD
  dsimp only at g1 g2 g3 g4 g5 hDT hDS
  subst g1 g2 g3 g4 g5
  obtain ⟨ok4, rd4, sT4, st4⟩ := tb4
  go_wp2_with (go_at_fn 61; skip)
  rename_i aK
  have eW4 : Ext [] DW w4 := rd4.ex
  have p4 := b1'.ext eW4 (by simp)
  have q4 := b2.ext eW4 (by simp)
  refine rdState_c ok4 rd4 ?_
  have hFW : ∀ x ∈ RC.F ⟨DW, C.rb, DN, DB, Dbc, Db, DT, DS, DTA, DTc, DSA, DSc, DUA, DUc⟩, DW.heap.size ≤ x := ok4.FW
  cases hr : readTs DT tState s1 with
  | err e p =>
    rw [hDT] at hr
    rw [hr] at k
    simp only [Res.bind] at k
    intro w' fa ex hfa hb
    exact hbad ⟨rfl, rfl, rfl⟩ k ⟨_, rfl, p4.ext ex fun h => by have := hFW _ h; omega⟩ (q4.ext ex fun h => by have := hFW _ h; omega) (x12.trans (ok4.back eW4 ex hFW)) (by have := eW4.size; omega) hb
  | ok r s2 =>
  have htr := rd_ty ok4 rd4 hr
  rw [hDT] at hr
  rw [hr] at k
  simp only [Res.bind] at k
  intro w5 h5 e5 vs hrep
  have hra := hrep.any
  have hFp : w.heap.size ∉ RC.F ⟨DW, C.rb, DN, DB, Dbc, Db, DT, DS, DTA, DTc, DSA, DSc, DUA, DUc⟩ := fun h => by have := hFW _ h; omega
  have hFq : w.heap.size + 1 ∉ RC.F ⟨DW, C.rb, DN, DB, Dbc, Db, DT, DS, DTA, DTc, DSA, DSc, DUA, DUc⟩ := fun h => by have := hFW _ h; omega
  have p5 := p4.ext e5 hFp
  have q5 := q4.ext e5 hFq
  have ht := htr
  obtain ⟨v0, r0, u0, rfl, rfl, y0, ht, hra⟩ := inv_int ht hra
  obtain ⟨v1, r1, u1, rfl, rfl, y1, ht, hra⟩ := inv_int ht hra
  obtain ⟨v2, A2, n2, c2, m2, xs2, r2, u2, rfl, rfl, y2, ht, hra⟩ := inv_list ht hra
  obtain ⟨v3, A3, n3, c3, m3, xs3, r3, u3, rfl, rfl, y3, ht, hra⟩ := inv_list ht hra
  obtain ⟨v4, A4, n4, c4, m4, xs4, r4, u4, rfl, rfl, y4, ht, hra⟩ := inv_list ht hra
  obtain ⟨rfl, rfl⟩ := inv_nil ht hra
  obtain ⟨w6, hs6, p6, x6⟩ := storeW (P := Tryz.prog) (t := 26) (n := 5) iState p5 (vs := stV v0 v1 A2 n2 c2 A3 n3 c3 A4 n4 c4) rfl rfl (by simp [Value.oneCell'])
  have bk5 := h5.blk
  have bk6 := bk5.ext x6 (by show w.heap.size + 1 + 1 ∉ _; simp; omega)
  have u6 := h5.u.ext x6 (fun x hx hm => by simp at hm; have h7 : DW.heap.size ≤ x := (ok4.uN x hx).1; omega)
  have st6 := h5.st.ext x6 (fun x hx hm => by simp at hm; have h7 : DW.heap.size ≤ x := (h5.st.base x hx).1; omega)
  have q6 := q5.ext x6 (by simp)
  have c61 : w6.cell? ⟨w.heap.size + 1 + 1, 1, none⟩ = some (.int .i64 (s2.at_ : Int)) := bk6.cell (i := 1) rfl
  have c64 : w6.cell? ⟨w.heap.size + 1 + 1, 4, none⟩ = some (.slice DUA DT.length DUc) := bk6.cell (i := 4) rfl
  refine aK _ _ (store_step hs6 ?_)
  have hrl : s2.rest = Db.drop s2.at_ := h5.rest
  have hat : s2.at_ ≤ Db.length := h5.at_
  have ex6 : Ext [] w w6 := ((x12.trans (rd4.ex)).trans' e5 (fun x hx => .inr (by have := hFW x hx; have := x12.size; omega))).trans' x6 (fun x hx => by simp at hx; subst hx; exact .inr (Nat.le_refl _))
  have hWs : DW.heap.size = w.heap.size + 2 := by omega
  have hs6' : DW.heap.size ≤ w6.heap.size := by have := rd4.ex.size; have := e5.size; have := x6.size; have : DW.heap.size ≤ w4.heap.size := rd4.ex.size; omega
  by_cases hend : s2.at_ = Db.length
  rotate_left
  · go_wp2_with (first | (go_at_fn 62; skip) | (go_at_fn 63; skip))
    rw [if_pos (by rw [hrl]; intro h; have := congrArg List.length h; rw [List.length_drop] at this; simp at this; try omega)] at k
    refine fail_c fun w7 fa e7 hfa hb => ?_
    exact hbad ⟨rfl, rfl, rfl⟩ k ⟨_, rfl, p6.ext e7 (by simp)⟩ (q6.ext e7 (by simp)) (ex6.trans e7) (by omega) hb
  rw [if_neg (by simp [hrl, hend])] at k
  have hul : s2.used.length = DT.length := h5.u.len
  go_wp2_with (first | (go_at_fn 62; skip) | (go_at_fn 63; skip))
  rename_i aK2
  have hTl : DT.length ≤ 16777216 := by
    obtain ⟨k0, s0, g5, g6⟩ := bind_ok hT
    have g7 := manyS_ok (T := []) g5
    obtain ⟨l, e1, e2, -⟩ := tableGo_ok (T := []) (T' := TS.1) (S' := TS.2) List.Pairwise.nil rfl g6
    have g8 := g7.1.len
    rw [List.length_drop] at g8
    rw [hDT, e1, List.nil_append, e2]
    have := g7.2
    omega
  have hsl : DS.length = DT.length := ok4.sl
  refine index_c u6.cells (by rw [hul, hDT]) (by rw [← hDT]; omega) ?_
  cases hfi : s2.used.findIdx? (fun u => !u) with
  | some i =>
    rw [hfi] at k
    have hi : i < s2.used.length := (List.findIdx?_eq_some_iff_getElem.1 hfi).1
    have hiS : i < DS.length := by omega
    have st6' : OwnL IL w6 DW.heap.size 3 DSA DS.length DSc DS := st6
    obtain ⟨g, bs', hSA, -⟩ := own_blk st6' (by omega)
    obtain ⟨x, ad, hx, hA', rdS⟩ := st6'.row (a := i) hiS
    rw [hSA] at hA'
    cases hA'
    have hcS : w6.cell? ⟨g, i, none⟩ = some (.int .i64 (x : Int)) := by
      have := rdS 0 _ rfl
      rw [Addr.add_zero', Int.toNat_natCast, Addr.add0] at this
      simpa [IL] using this
    have c63 : w6.cell? ⟨w.heap.size + 1 + 1, 3, none⟩ = some (.slice (some ⟨g, 0, none⟩) DS.length DSc) := by rw [← hSA]; exact bk6.cell (i := 3) rfl
    have hgd : TS.2.getD i 0 = x := by rw [← hDS, List.getD_eq_getElem?_getD, hx]; rfl
    dsimp only
    have hi2 : ¬ ((i : Int) < 0) := by omega
    have hi3 : i < TS.2.length := by rw [← hDS]; exact hiS
    go_wp2_with (first | (go_at_fn 62; skip))
    refine fail_c fun w7 fa e7 hfa hb => ?_
    rw [← hgd] at hb
    exact hbad ⟨rfl, rfl, rfl⟩ k ⟨_, rfl, p6.ext e7 (by simp)⟩ (q6.ext e7 (by simp)) (ex6.trans e7) (by omega) hb
  | none =>
    rw [hfi] at k
    dsimp only
    obtain ⟨w7, hs7, p7, x7⟩ := storeW (P := Tryz.prog) (t := 26) (n := 5) iState p6 (vs := stV v0 v1 A2 n2 c2 A3 n3 c3 A4 n4 c4) rfl rfl (by simp [Value.oneCell'])
    have q7 := q6.ext x7 (by simp)
    obtain ⟨w8, hs8, q8, x8⟩ := store1a (P := Tryz.prog) (t := 93) (i := 0) (v := .pointer none) iPF q7 (by simp) rfl rfl
    rw [Addr.add_zero'] at hs8
    go_wp2_with (first | (go_at_fn 62; skip) | refine load_step (load_st p6) ?_ | refine store_step hs7 ?_ | refine store_step hs8 ?_)
    have e67 : Ext [w.heap.size] w5 w7 := x6.trans x7
    have e58 : Ext [w.heap.size, w.heap.size + 1] w5 w8 := (e67.weaken fun x hx => .inl (by simp at hx; simp [hx])).trans (x8.weaken fun x hx => .inl (by simp at hx; simp [hx]))
    refine inside_idle ⟨rfl, rfl, rfl⟩ (p7.ext x8 (by simp)) q8 (k w8 _ ?_ htr ?_)
    · exact (ex6.trans' x7 fun x hx => by simp at hx; subst hx; exact .inr (Nat.le_refl _)).trans' x8 fun x hx => by simp at hx; subst hx; exact .inr (by omega)
    · have s4 : DW.heap.size ≤ w4.heap.size := rd4.ex.size
      have s8 := e58.size
      refine RepPR.ext e58 (fun b hb hm => ?_) (fun b hb => ⟨by have := hb.1; omega, by have := hb.2; omega⟩) hrep
      have := hb.1
      simp at hm
      omega
end Go.Proofs.YtoaeefjcjdhlkaaGreat
