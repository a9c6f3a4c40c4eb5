/- Image: the copy of a state. -/
import Derived.Test.YtoaeefjcjdhlkaaGreatI25
set_option linter.unusedVariables false
set_option linter.unusedSimpArgs false
namespace Go.Proofs.YtoaeefjcjdhlkaaGreat
open Go Go.V Go.B

/-- In the midst of copying a list since ws: a rows stand. -/
structure CL (ws : World) (m : Nat) (T : TypeId) (l : List (List D)) (A : Option Addr) (a c : Nat) (w : World) : Prop where
  in_ : ∃ rows, OwnL (RL m) w ws.heap.size T A a c rows ∧ RepPL (fun b => ws.heap.size ≤ b ∧ b < w.heap.size ∧ b ∉ ownF A) w (l.take a) (rows.map Row.vs)
theorem CL.start (ws : World) (m : Nat) (T : TypeId) (l : List (List D)) (w : World) : CL ws m T l none 0 0 w := ⟨[], OwnL.nil _ _ _, by rw [List.take_zero]; rfl⟩
theorem CL.base {ws w : World} {m : Nat} {T : TypeId} {l : List (List D)} {A : Option Addr} {a c : Nat} (h : CL ws m T l A a c w) : ∀ b ∈ ownF A, ws.heap.size ≤ b ∧ b < w.heap.size := by
  obtain ⟨rows, ho, -⟩ := h.in_
  exact ho.base
theorem CL.ext {ws w w' : World} {m : Nat} {T : TypeId} {l : List (List D)} {A : Option Addr} {a c : Nat} {F : List Nat} (h : CL ws m T l A a c w) (e : Ext F w w') (hF : ∀ b ∈ F, b < ws.heap.size) : CL ws m T l A a c w' := by
  obtain ⟨rows, ho, hr⟩ := h.in_
  exact ⟨rows, ho.ext e (fun b hb hm => by have := (ho.base b hb).1; have := hF b hm; omega), RepPL.ext e (fun b hb hm => by have := hF b hm; have := hb.1; omega) (fun b hb => ⟨hb.1, by have := e.size; have := hb.2.1; omega, hb.2.2⟩) hr⟩
theorem CL.more {t ty : TypeId} {z : Value} {bytes : Nat} {ws w w' w18 : World} {m : Nat} {T : TypeId} {l : List (List D)} {A : Option Addr} {a c : Nat} {r : List D} {vs : List Value} (ht : Tryz.prog.underlying t = some (.slice T)) (hi : (Tryz.prog.info? T).map (fun i => (i.zero, i.size, i.bytes)) = some (some z, m + 1, bytes)) (hz : z.cells.size = m + 1) (hb0 : 0 < bytes) (hbl : bytes ≤ 1000) (ha : a < 16777216)
    (h : CL ws m T l A a c w) (hra : l[a]? = some r) (e : Ext [] w w') (hr : RepPR (NewB w w') w' r vs) (hws : ws.heap.size ≤ w.heap.size) (hv : vs.length = m + 1) (h1 : ∀ v ∈ vs, v.oneCell' = true) (h18 : w18 = w'.alloc (.cells ⟨vs⟩ T)) :
    ∃ A' c' w2, (Builtin.append_ #[t, t] ty #[.slice A a c, .slice (some ⟨w'.heap.size, 0, none⟩) 1 1]).run Tryz.prog w18 = .ok (.slice A' (a + 1) c') w2 ∧ CL ws m T l A' (a + 1) c' w2 ∧ Ext (ownF A) w' w2 := by
  obtain ⟨rows, ho, hrep⟩ := h.in_
  obtain ⟨b18, x18, z18⟩ := box_new h18
  have hsz := e.size
  obtain ⟨A', c', w2, hr2, ho2, he2, hat⟩ := OwnL.more (P := Tryz.prog) (t := t) (ty := ty) (z := z) (bytes := bytes) (x := (⟨vs, hv, h1⟩ : Row (m + 1))) (T := T) ht hi hz hb0 ((ho.ext0 e).ext0 x18) b18 (by omega) (by
    have : (a + 1) * bytes ≤ 16777216 * 1000 := Nat.mul_le_mul (by omega) hbl
    omega)
  have hs2 := he2.size
  have hAl : ∀ b ∈ ownF A, b < w.heap.size := fun b hb => (own_base ho b hb).2
  have hnew : ∀ b, b < w'.heap.size → b ∉ ownF A → b ∉ ownF A' := fun b hb hn hm => by
    rcases hat with hat | hat
    · exact hn (hat ▸ hm)
    · rw [hat] at hm; simp at hm; omega
  refine ⟨A', c', w2, hr2, ⟨rows ++ [⟨vs, hv, h1⟩], ho2, ?_⟩, x18.up.trans he2⟩
  rw [take_snoc hra, List.map_append]
  refine RepPL.snoc (RepPR.ext he2 (P := NewB w w') (fun b hb hm => by have := hAl b hm; have := hb.1; omega) (fun b hb => ⟨by have := hb.1; omega, by have := hb.2; omega, hnew b hb.2 (fun hm => by have := hAl b hm; have := hb.1; omega)⟩) (RepPR.ext x18 (by simp) (fun b hb => hb) hr)) ?_
  exact RepPL.ext he2 (P := fun b => ws.heap.size ≤ b ∧ b < w.heap.size ∧ b ∉ ownF A) (fun b hb => hb.2.2) (fun b hb => ⟨hb.1, by have := hb.2.1; omega, hnew b (by have := hb.2.1; omega) hb.2.2⟩) (RepPL.ext x18 (by simp) (fun b hb => hb) (RepPL.ext e (by simp) (fun b hb => hb) hrep))
theorem CL.done_ {ws w : World} {m : Nat} {T : TypeId} {l : List (List D)} {A : Option Addr} {n c : Nat} (h : CL ws m T l A n c w) (hl : l.length = n) (hn : n ≤ 16777216) : RepP (fun b => ws.heap.size ≤ b ∧ b < w.heap.size) w (.list l) (.slice A n c) := by
  obtain ⟨rows, ho, hr⟩ := h.in_
  rw [List.take_of_length_le (by omega)] at hr
  exact ⟨A, n, c, m, rows, rfl, ho.cells, ho.len, hn, fun b hb => ho.base b hb, RepPL.ext (Ext.refl [] _) (by simp) (fun b hb => ⟨hb.1, hb.2.1⟩) hr⟩
set_option maxRecDepth 100000 in
set_option maxHeartbeats 1000000 in
theorem copyState_c : Cps 14 tState := by
  intro w r vs R ht hr k
  obtain ⟨sa0, ra0, ua0, rfl, rfl, za0, ht, hr⟩ := inv_int ht hr
  obtain ⟨sa1, ra1, ua1, rfl, rfl, za1, ht, hr⟩ := inv_int ht hr
  obtain ⟨sa2, Aa2, na2, ca2, ma2, xsa2, ra2, ua2, rfl, rfl, za2, ht, hr⟩ := inv_list ht hr
  obtain ⟨sa3, Aa3, na3, ca3, ma3, xsa3, ra3, ua3, rfl, rfl, za3, ht, hr⟩ := inv_list ht hr
  obtain ⟨sa4, Aa4, na4, ca4, ma4, xsa4, ra4, ua4, rfl, rfl, za4, ht, hr⟩ := inv_list ht hr
  obtain ⟨rfl, rfl⟩ := inv_nil ht hr
  have hn2 := za2.le
  have hn3 := za3.le
  have hn4 := za4.le
  apply berthlaw26_CopyState_nf
  intro w6 h6 w7 h7
  obtain ⟨b1, x1, y1⟩ := box_new (cs := stV sa0 sa1 Aa2 na2 ca2 Aa3 na3 ca3 Aa4 na4 ca4) h6
  obtain ⟨b2, x2, y2⟩ := box_new (cs := zeroState) h7
  replace b1 := b1.ext x2 (by simp)
  refine ⟨_, cadd b1 rfl, _, cadd b1 rfl, fun w10 h10 => ?_⟩
  obtain ⟨b3, x3, y3⟩ := box_new (cs := zeroState) h10
  obtain ⟨w11, hs11, t11, x11⟩ := storeW (P := Tryz.prog) (t := 26) (n := 5) iState b3 (vs := stV sa0 sa1 none 0 0 none 0 0 none 0 0) rfl rfl (by simp [Value.oneCell'])
  have p11 := (b1.ext x3 (by simp)).ext x11 (by simp; omega)
  have q11 := (b2.ext x3 (by simp)).ext x11 (by simp; omega)
  have E11 : Ext [] w w11 := ((x1.trans x2).trans x3).trans' x11 fun x hx => by simp at hx; subst hx; exact .inr (by omega)
  have hp : w.heap.size < w11.heap.size := p11.lt
  have hq : w6.heap.size < w11.heap.size := q11.lt
  have htl : w7.heap.size < w11.heap.size := t11.lt
  refine ⟨w11, hs11, ?_⟩
  -- nodes
  refine ⟨fun i w' => ∃ (a c : Nat) (A : Option Addr), i = (a : Int) ∧ a ≤ na2 ∧ CL w11 4 53 sa2 A a c w' ∧ BlkT w' w7.heap.size (stV sa0 sa1 A a c none 0 0 none 0 0) 26 ∧ Ext [w7.heap.size] w11 w', fun i _ => na2 - i.toNat, ⟨0, 0, none, rfl, by omega, CL.start _ _ _ _ _, t11, Ext.refl _ _⟩, ?_⟩
  rintro _ _ w16 ⟨a, c, A, rfl, ha, cl, t16, e16⟩
  have p16 := p11.ext e16 (by simp; omega)
  have E16 : Ext [] w w16 := E11.trans' e16 fun x hx => by simp at hx; subst hx; exact .inr (by omega)
  have s16 := e16.size
  refine ⟨_, _, _, cadd p16 rfl, sel_dec (fun hlt => ?_) (fun hge => ?_)⟩
  · obtain ⟨r, vs, ad, hra, htr, hrr, rfl, hts, rd, -⟩ := za2.row (a := a) (by omega)
    have htc := htr
    have hrc := hrr
    replace rd := row_at (k := 5) hts rfl (Ext.refl [] w) rd
    obtain ⟨t0, r0, u0, rfl, rfl, y0, htr, hrr⟩ := inv_str htr hrr
    obtain ⟨t1, B1, k1, d1, m1, ys1, r1, u1, rfl, rfl, y1', htr, hrr⟩ := inv_list htr hrr
    obtain ⟨t2, B2, k2, d2, m2, ys2, r2, u2, rfl, rfl, y2', htr, hrr⟩ := inv_list htr hrr
    obtain ⟨t3, B3, k3, d3, m3, ys3, r3, u3, rfl, rfl, y3', htr, hrr⟩ := inv_list htr hrr
    obtain ⟨t4, r4, u4, rfl, rfl, htr, hrr⟩ := inv_bool htr hrr
    obtain ⟨rfl, rfl⟩ := inv_nil htr hrr
    have d16 : Ext [] w16 w16.drew := (Ext.refl _ _).drew
    let S : World → Prop := fun w' => Ext [] w w' ∧ BlkT w' w.heap.size (stV sa0 sa1 (some ad) na2 ca2 Aa3 na3 ca3 Aa4 na4 ca4) 26 ∧ BlkT w' w7.heap.size (stV sa0 sa1 A a c none 0 0 none 0 0) 26
    have Sp : ∀ w', S w' → Ext [] w w' := fun _ h => h.1
    refine ⟨S, ⟨E16.trans d16, p16.ext d16 (by simp), t16.ext d16 (by simp)⟩, _, _, _, fun w' hw' => cadd hw'.2.2 rfl, _, _, _, fun w' hw' => cadd hw'.2.1 rfl, when_dec ⟨by omega, by omega⟩ (ptr_in ⟨_, _, _, _, _, _, _, _, _, _, _, cellsS Sp rd, ?_⟩)⟩
    refine copyNode_c htc (hrc.ext0 (E16.trans d16)) fun w34 vs' e34 hr34 => ?_
    have htd := htc
    have hra34 := hr34.any
    obtain ⟨t0', r0', u0', q0, rfl, y0', htd, hra34⟩ := inv_str htd hra34
    obtain ⟨t1', B1', k1', d1', m1', ys1', r1', u1', rfl, rfl, y1'', htd, hra34⟩ := inv_list htd hra34
    obtain ⟨t2', B2', k2', d2', m2', ys2', r2', u2', rfl, rfl, y2'', htd, hra34⟩ := inv_list htd hra34
    obtain ⟨t3', B3', k3', d3', m3', ys3', r3', u3', rfl, rfl, y3'', htd, hra34⟩ := inv_list htd hra34
    obtain ⟨t4', r4', u4', rfl, rfl, htd, hra34⟩ := inv_bool htd hra34
    obtain ⟨rfl, rfl⟩ := inv_nil htd hra34
    have e34' := d16.trans e34
    have S34 : S w34 := ⟨E16.trans e34', p16.ext e34' (by simp), t16.ext e34' (by simp)⟩
    refine ⟨_, _, _, _, _, _, _, _, _, _, _, rfl, S34, fun w35 h35 => ?_⟩
    obtain ⟨-, x35, -⟩ := box_new (cs := [.string t0', .slice B1' k1' d1', .slice B2' k2' d2', .slice B3' k3' d3', .bool t4']) h35
    have cl' := cl.ext d16 (by simp)
    obtain ⟨A36, c36, w37, hr37, cl37, e37⟩ := CL.more (t := 22) (ty := 22) (z := .agg ⟨[.string ByteArray.empty, .slice none 0 0, .slice none 0 0, .slice none 0 0, .bool false]⟩) (bytes := 96) Tryz.underlying22 (by kernel_rfl) (by kernel_rfl) (by omega) (by omega) (by omega) cl' hra e34 hr34 (by have := d16.size; omega) rfl (by simp [Value.oneCell']) h35
    have hF37 : ∀ x ∈ ownF A, w11.heap.size ≤ x := fun x hx => (cl.base x hx).1
    have p37 := S34.2.1.ext e37 (fun hm => by have := hF37 _ hm; omega)
    have t37 := S34.2.2.ext e37 (fun hm => by have := hF37 _ hm; omega)
    have E37 : Ext [] w w37 := S34.1.trans' e37 fun x hx => .inr (by have := hF37 x hx; omega)
    obtain ⟨w38, hs38, t38, x38⟩ := store1a (P := Tryz.prog) (t := 22) (i := 2) (v := .slice A36 (a + 1) c36) (by kernel_rfl) t37 (by simp) rfl rfl
    refine ⟨⟨S34.1.trans x35, S34.2.1.ext x35 (by simp), S34.2.2.ext x35 (by simp)⟩, A36, _, c36, w37, hr37, ⟨E37, p37, t37⟩, w38, hs38, ?_⟩
    rw [up64 a (by omega)]
    exact ⟨⟨a + 1, c36, A36, rfl, by omega, cl37.ext x38 (by simp; omega), t38, ((e16.trans e34'.up).trans' e37 fun x hx => .inr (hF37 x hx)).trans x38⟩, by simp only [Int.toNat_natCast]; omega⟩
  obtain rfl : a = na2 := by omega
  have rep2 := cl.done_ za2.ll hn2
  -- bound
  have hs16 := e16.size
  have t16lt := t16.lt
  refine ⟨fun i w' => ∃ (j c3 : Nat) (A3 : Option Addr), i = (j : Int) ∧ j ≤ na3 ∧ CL w16 8 71 sa3 A3 j c3 w' ∧ BlkT w' w7.heap.size (stV sa0 sa1 A a c A3 j c3 none 0 0) 26 ∧ Ext [w7.heap.size] w16 w', fun i _ => na3 - i.toNat, ⟨0, 0, none, rfl, by omega, CL.start _ _ _ _ _, t16, Ext.refl _ _⟩, ?_⟩
  rintro _ _ w43 ⟨a3, c3, A3, rfl, ha3, cl3, t43, e43⟩
  have p43 := p16.ext e43 (by simp; omega)
  have E43 : Ext [] w w43 := E16.trans' e43 fun x hx => by simp at hx; subst hx; exact .inr (by omega)
  have s43 := e43.size
  refine ⟨_, _, _, cadd p43 rfl, sel_dec (fun hlt3 => ?_) (fun hge3 => ?_)⟩
  · obtain ⟨r, vs, ad, hra, htr, hrr, rfl, hts, rd, -⟩ := za3.row (a := a3) (by omega)
    have htc := htr
    have hrc := hrr
    replace rd := row_at (k := 9) hts rfl (Ext.refl [] w) rd
    obtain ⟨se0, re0, ue0, rfl, rfl, ze0, htr, hrr⟩ := inv_str htr hrr
    obtain ⟨se1, Ae1, ne1, ce1, me1, xse1, re1, ue1, rfl, rfl, ze1, htr, hrr⟩ := inv_list htr hrr
    obtain ⟨se2, Ae2, ne2, ce2, me2, xse2, re2, ue2, rfl, rfl, ze2, htr, hrr⟩ := inv_list htr hrr
    obtain ⟨se3, Ae3, ne3, ce3, me3, xse3, re3, ue3, rfl, rfl, ze3, htr, hrr⟩ := inv_list htr hrr
    obtain ⟨se4, re4, ue4, rfl, rfl, ze4, htr, hrr⟩ := inv_str htr hrr
    obtain ⟨se5, Ae5, ne5, ce5, me5, xse5, re5, ue5, rfl, rfl, ze5, htr, hrr⟩ := inv_list htr hrr
    obtain ⟨se6, Ae6, ne6, ce6, me6, xse6, re6, ue6, rfl, rfl, ze6, htr, hrr⟩ := inv_list htr hrr
    obtain ⟨se7, re7, ue7, rfl, rfl, ze7, htr, hrr⟩ := inv_int htr hrr
    obtain ⟨se8, re8, ue8, rfl, rfl, ze8, htr, hrr⟩ := inv_str htr hrr
    obtain ⟨rfl, rfl⟩ := inv_nil htr hrr
    have hsp := tyR_split (ts := tPod) (us := [.str]) (a := [.str se0, .list se1, .list se2, .list se3, .str se4, .list se5, .list se6, .int se7]) (b := [.str se8]) rfl htc
    have hsr := RepR.split (w := w) (a := [.str se0, .list se1, .list se2, .list se3, .str se4, .list se5, .list se6, .int se7]) (b := [.str se8]) (va := [.string se0, .slice Ae1 ne1 ce1, .slice Ae2 ne2 ce2, .slice Ae3 ne3 ce3, .string se4, .slice Ae5 ne5 ce5, .slice Ae6 ne6 ce6, .int .i64 se7]) (vb := [.string se8]) rfl hrc
    have d43 : Ext [] w43 w43.drew := (Ext.refl _ _).drew
    let S : World → Prop := fun w' => Ext [] w w' ∧ BlkT w' w.heap.size (stV sa0 sa1 Aa2 a ca2 (some ad) na3 ca3 Aa4 na4 ca4) 26 ∧ BlkT w' w7.heap.size (stV sa0 sa1 A a c A3 a3 c3 none 0 0) 26
    have Sp : ∀ w', S w' → Ext [] w w' := fun _ h => h.1
    refine ⟨S, ⟨E43.trans d43, p43.ext d43 (by simp), t43.ext d43 (by simp)⟩, _, _, _, fun w' hw' => cadd hw'.2.2 rfl, _, _, _, fun w' hw' => cadd hw'.2.1 rfl, when_dec ⟨by omega, by omega⟩ (ptr_in ⟨_, _, _, _, _, _, _, _, _, _, _, _, _, _, _, _, _, _, cellsS Sp (cells9 rd), _, _, _, fun w' hw' => cadd hw'.2.1 rfl, when_dec ⟨by omega, by omega⟩ (ptr_in ⟨_, cellS Sp (rd 8 _ rfl), ?_⟩)⟩)⟩
    refine copyPod_c hsp.1 (hsr.1.ext0 (E43.trans d43)) fun w70 vs' e70 hr70 => ?_
    have htd := hsp.1
    have hra70 := hr70.any
    generalize hgr : ([.str se0, .list se1, .list se2, .list se3, .str se4, .list se5, .list se6, .int se7] : List D) = rr at htd hra70
    obtain ⟨sf0, rf0, uf0, rfl, rfl, zf0, htd, hra70⟩ := inv_str htd hra70
    obtain ⟨sf1, Af1, nf1, cf1, mf1, xsf1, rf1, uf1, rfl, rfl, zf1, htd, hra70⟩ := inv_list htd hra70
    obtain ⟨sf2, Af2, nf2, cf2, mf2, xsf2, rf2, uf2, rfl, rfl, zf2, htd, hra70⟩ := inv_list htd hra70
    obtain ⟨sf3, Af3, nf3, cf3, mf3, xsf3, rf3, uf3, rfl, rfl, zf3, htd, hra70⟩ := inv_list htd hra70
    obtain ⟨sf4, rf4, uf4, rfl, rfl, zf4, htd, hra70⟩ := inv_str htd hra70
    obtain ⟨sf5, Af5, nf5, cf5, mf5, xsf5, rf5, uf5, rfl, rfl, zf5, htd, hra70⟩ := inv_list htd hra70
    obtain ⟨sf6, Af6, nf6, cf6, mf6, xsf6, rf6, uf6, rfl, rfl, zf6, htd, hra70⟩ := inv_list htd hra70
    obtain ⟨sf7, rf7, uf7, rfl, rfl, zf7, htd, hra70⟩ := inv_int htd hra70
    obtain ⟨rfl, rfl⟩ := inv_nil htd hra70
    have e70' := d43.trans e70
    have S70 : S w70 := ⟨E43.trans e70', p43.ext e70' (by simp), t43.ext e70' (by simp)⟩
    refine ⟨_, _, _, _, _, _, _, _, _, _, _, _, _, _, _, _, _, _, rfl, S70, fun w71 h71 => ?_⟩
    obtain ⟨-, x71, -⟩ := box_new (cs := [.string sf0, .slice Af1 nf1 cf1, .slice Af2 nf2 cf2, .slice Af3 nf3 cf3, .string sf4, .slice Af5 nf5 cf5, .slice Af6 nf6 cf6, .int .i64 sf7, .string se8]) h71
    have cl3' := cl3.ext d43 (by simp)
    have hrB : RepPR (NewB w43.drew w70) w70 ([.str se0, .list se1, .list se2, .list se3, .str se4, .list se5, .list se6, .int se7] ++ [.str se8]) ([.string sf0, .slice Af1 nf1 cf1, .slice Af2 nf2 cf2, .slice Af3 nf3 cf3, .string sf4, .slice Af5 nf5 cf5, .slice Af6 nf6 cf6, .int .i64 sf7] ++ [.string se8]) := RepPR.snoc (P := NewB w43.drew w70) (w := w70) (d := .str se8) (v := .string se8) ⟨rfl, ze8⟩ hr70
    obtain ⟨A72, c72, w73, hr73, cl73, e73⟩ := CL.more (t := 23) (ty := 23) (z := .agg ⟨[.string ByteArray.empty, .slice none 0 0, .slice none 0 0, .slice none 0 0, .string ByteArray.empty, .slice none 0 0, .slice none 0 0, .int .i64 0, .string ByteArray.empty]⟩) (bytes := 176) Tryz.underlying23 (by kernel_rfl) (by kernel_rfl) (by omega) (by omega) (by omega) cl3' hra e70 hrB (by have := d43.size; omega) rfl (by simp [Value.oneCell']) h71
    have hF73 : ∀ x ∈ ownF A3, w16.heap.size ≤ x := fun x hx => (cl3.base x hx).1
    have p73 := S70.2.1.ext e73 (fun hm => by have := hF73 _ hm; omega)
    have t73 := S70.2.2.ext e73 (fun hm => by have := hF73 _ hm; omega)
    have E73 : Ext [] w w73 := S70.1.trans' e73 fun x hx => .inr (by have := hF73 x hx; omega)
    obtain ⟨w74, hs74, t74, x74⟩ := store1a (P := Tryz.prog) (t := 23) (i := 3) (v := .slice A72 (a3 + 1) c72) (by kernel_rfl) t73 (by simp) rfl rfl
    refine ⟨⟨S70.1.trans x71, S70.2.1.ext x71 (by simp), S70.2.2.ext x71 (by simp)⟩, A72, _, c72, w73, hr73, ⟨E73, p73, t73⟩, w74, hs74, ?_⟩
    rw [up64 a3 (by omega)]
    exact ⟨⟨a3 + 1, c72, A72, rfl, by omega, cl73.ext x74 (by simp; omega), t74, ((e43.trans e70'.up).trans' e73 fun x hx => .inr (hF73 x hx)).trans x74⟩, by simp only [Int.toNat_natCast]; omega⟩
  obtain rfl : a3 = na3 := by omega
  have rep3 := cl3.done_ za3.ll hn3
  have rep2' : RepP (fun b => w11.heap.size ≤ b ∧ b < w16.heap.size) w43 (.list sa2) (.slice A a c) := RepP.ext e43 (fun b hb hm => by simp at hm; have := hb.1; omega) (fun b hb => hb) rep2
  -- pending
  have t43lt := t43.lt
  refine ⟨fun i w' => ∃ (j c4 : Nat) (A4 : Option Addr), i = (j : Int) ∧ j ≤ na4 ∧ CL w43 11 73 sa4 A4 j c4 w' ∧ BlkT w' w7.heap.size (stV sa0 sa1 A a c A3 a3 c3 A4 j c4) 26 ∧ Ext [w7.heap.size] w43 w', fun i _ => na4 - i.toNat, ⟨0, 0, none, rfl, by omega, CL.start _ _ _ _ _, t43, Ext.refl _ _⟩, ?_⟩
  rintro _ _ w79 ⟨a4, c4, A4, rfl, ha4, cl4, t79, e79⟩
  have p79 := p43.ext e79 (by simp; omega)
  have q79 := ((q11.ext e16 (by simp; omega)).ext e43 (by simp; omega)).ext e79 (by simp; omega)
  have E79 : Ext [] w w79 := E43.trans' e79 fun x hx => by simp at hx; subst hx; exact .inr (by omega)
  have s79 := e79.size
  refine ⟨_, _, _, cadd p79 rfl, sel_dec (fun hlt4 => ?_) (fun hge4 => ?_)⟩
  · obtain ⟨r, vs, ad, hra, htr, hrr, rfl, hts, rd, -⟩ := za4.row (a := a4) (by omega)
    have htc := htr
    have hrc := hrr
    replace rd := row_at (k := 12) hts rfl E79 rd
    obtain ⟨sg0, rg0, ug0, rfl, rfl, zg0, htr, hrr⟩ := inv_str htr hrr
    obtain ⟨sg1, Ag1, ng1, cg1, mg1, xsg1, rg1, ug1, rfl, rfl, zg1, htr, hrr⟩ := inv_list htr hrr
    obtain ⟨sg2, Ag2, ng2, cg2, mg2, xsg2, rg2, ug2, rfl, rfl, zg2, htr, hrr⟩ := inv_list htr hrr
    obtain ⟨sg3, Ag3, ng3, cg3, mg3, xsg3, rg3, ug3, rfl, rfl, zg3, htr, hrr⟩ := inv_list htr hrr
    obtain ⟨sg4, rg4, ug4, rfl, rfl, zg4, htr, hrr⟩ := inv_str htr hrr
    obtain ⟨sg5, Ag5, ng5, cg5, mg5, xsg5, rg5, ug5, rfl, rfl, zg5, htr, hrr⟩ := inv_list htr hrr
    obtain ⟨sg6, Ag6, ng6, cg6, mg6, xsg6, rg6, ug6, rfl, rfl, zg6, htr, hrr⟩ := inv_list htr hrr
    obtain ⟨sg7, rg7, ug7, rfl, rfl, zg7, htr, hrr⟩ := inv_int htr hrr
    obtain ⟨sg8, rg8, ug8, rfl, rfl, zg8, htr, hrr⟩ := inv_int htr hrr
    obtain ⟨sg9, rg9, ug9, rfl, rfl, zg9, htr, hrr⟩ := inv_int htr hrr
    obtain ⟨sg10, rg10, ug10, rfl, rfl, zg10, htr, hrr⟩ := inv_int htr hrr
    obtain ⟨sg11, rg11, ug11, rfl, rfl, htr, hrr⟩ := inv_bool htr hrr
    obtain ⟨rfl, rfl⟩ := inv_nil htr hrr
    have hsp := tyR_split (ts := tPod) (us := [.int, .int, .int, .bool]) (a := [.str sg0, .list sg1, .list sg2, .list sg3, .str sg4, .list sg5, .list sg6, .int sg7]) (b := [.int sg8, .int sg9, .int sg10, .bool sg11]) rfl htc
    have hsr := RepR.split (w := w) (a := [.str sg0, .list sg1, .list sg2, .list sg3, .str sg4, .list sg5, .list sg6, .int sg7]) (b := [.int sg8, .int sg9, .int sg10, .bool sg11]) (va := [.string sg0, .slice Ag1 ng1 cg1, .slice Ag2 ng2 cg2, .slice Ag3 ng3 cg3, .string sg4, .slice Ag5 ng5 cg5, .slice Ag6 ng6 cg6, .int .i64 sg7]) (vb := [.int .i64 sg8, .int .i64 sg9, .int .i64 sg10, .bool sg11]) rfl hrc
    refine ⟨_, _, _, cadd p79 rfl, when_dec ⟨by omega, by omega⟩ (ptr_in ⟨_, _, _, _, _, _, _, _, _, _, _, _, _, _, _, _, _, _, _, _, _, _, rd, fun w95 h95 => ?_⟩)⟩
    obtain ⟨b95, x95, -⟩ := box_new (cs := [.string ByteArray.empty, .slice none 0 0, .slice none 0 0, .slice none 0 0, .string ByteArray.empty, .slice none 0 0, .slice none 0 0, .int .i64 0, .int .i64 0, .int .i64 0, .int .i64 0, .bool false]) h95
    obtain ⟨w96, hs96, p96, x96⟩ := storeW (P := Tryz.prog) (t := 73) (n := 12) iPending b95 (vs := [.string sg0, .slice Ag1 ng1 cg1, .slice Ag2 ng2 cg2, .slice Ag3 ng3 cg3, .string sg4, .slice Ag5 ng5 cg5, .slice Ag6 ng6 cg6, .int .i64 sg7, .int .i64 sg8, .int .i64 sg9, .int .i64 sg10, .bool sg11]) rfl rfl (by simp [Value.oneCell'])
    have e96 : Ext [] w79 w96 := x95.trans' x96 fun x hx => by simp at hx; subst hx; exact .inr (Nat.le_refl _)
    have s96 := e96.size
    refine ⟨w96, hs96, _, _, _, _, _, _, _, _, _, _, _, _, _, _, _, _, _, _, cells8 p96, ?_⟩
    refine copyPod_c hsp.1 (hsr.1.ext0 (E79.trans e96)) fun w114 vs' e114 hr114 => ?_
    have htd := hsp.1
    have hra114 := hr114.any
    generalize hgr : ([.str sg0, .list sg1, .list sg2, .list sg3, .str sg4, .list sg5, .list sg6, .int sg7] : List D) = rr at htd hra114
    obtain ⟨sh0, rh0, uh0, rfl, rfl, zh0, htd, hra114⟩ := inv_str htd hra114
    obtain ⟨sh1, Ah1, nh1, ch1, mh1, xsh1, rh1, uh1, rfl, rfl, zh1, htd, hra114⟩ := inv_list htd hra114
    obtain ⟨sh2, Ah2, nh2, ch2, mh2, xsh2, rh2, uh2, rfl, rfl, zh2, htd, hra114⟩ := inv_list htd hra114
    obtain ⟨sh3, Ah3, nh3, ch3, mh3, xsh3, rh3, uh3, rfl, rfl, zh3, htd, hra114⟩ := inv_list htd hra114
    obtain ⟨sh4, rh4, uh4, rfl, rfl, zh4, htd, hra114⟩ := inv_str htd hra114
    obtain ⟨sh5, Ah5, nh5, ch5, mh5, xsh5, rh5, uh5, rfl, rfl, zh5, htd, hra114⟩ := inv_list htd hra114
    obtain ⟨sh6, Ah6, nh6, ch6, mh6, xsh6, rh6, uh6, rfl, rfl, zh6, htd, hra114⟩ := inv_list htd hra114
    obtain ⟨sh7, rh7, uh7, rfl, rfl, zh7, htd, hra114⟩ := inv_int htd hra114
    obtain ⟨rfl, rfl⟩ := inv_nil htd hra114
    have p96lt := p96.lt
    obtain ⟨w115, hs115, p115, x115⟩ := storeN (P := Tryz.prog) (t := 68) (n := 8) iPod (p96.ext e114 (by simp)) (o := 0) (vs := [.string sh0, .slice Ah1 nh1 ch1, .slice Ah2 nh2 ch2, .slice Ah3 nh3 ch3, .string sh4, .slice Ah5 nh5 ch5, .slice Ah6 nh6 ch6, .int .i64 sh7]) rfl (by simp) (by simp [Value.oneCell'])
    have s114 := e114.size
    have s115 := x115.size
    have e115 : Ext [] w79 w115 := (e96.trans e114).trans' x115 fun x hx => by simp at hx; subst hx; exact .inr (Nat.le_refl _)
    refine ⟨_, _, _, _, _, _, _, _, _, _, _, _, _, _, _, _, _, _, rfl, w115, by rw [Addr.add_zero']; exact hs115, _, _, _, cadd (t79.ext e115 (by simp)) rfl, _, _, _, _, _, _, _, _, _, _, _, _, _, _, _, _, _, _, _, _, _, _, cadd0 p115, fun w129 h129 => ?_⟩
    have hr115 : RepPR (NewB w79 w115) w115 ([.str sg0, .list sg1, .list sg2, .list sg3, .str sg4, .list sg5, .list sg6, .int sg7] ++ [.int sg8, .int sg9, .int sg10, .bool sg11]) ([.string sh0, .slice Ah1 nh1 ch1, .slice Ah2 nh2 ch2, .slice Ah3 nh3 ch3, .string sh4, .slice Ah5 nh5 ch5, .slice Ah6 nh6 ch6, .int .i64 sh7] ++ [.int .i64 sg8, .int .i64 sg9, .int .i64 sg10, .bool sg11]) := by
      refine RepPR.app (P := NewB w79 w115) (w := w115) (b := [.int sg8, .int sg9, .int sg10, .bool sg11]) (vb := [.int .i64 sg8, .int .i64 sg9, .int .i64 sg10, .bool sg11]) ⟨_, _, rfl, rfl, _, _, rfl, rfl, _, _, rfl, rfl, _, _, rfl, rfl, rfl⟩ (RepPR.ext x115 (P := NewB w96 w114) (fun b hb hm => by simp at hm; have := hb.1; omega) (fun b hb => ⟨by have := hb.1; omega, by have := hb.2; omega⟩) hr114)
    obtain ⟨A130, c130, w131, hr131, cl131, e131⟩ := CL.more (t := 24) (ty := 24) (z := .agg ⟨[.string ByteArray.empty, .slice none 0 0, .slice none 0 0, .slice none 0 0, .string ByteArray.empty, .slice none 0 0, .slice none 0 0, .int .i64 0, .int .i64 0, .int .i64 0, .int .i64 0, .bool false]⟩) (bytes := 192) Tryz.underlying24 (by kernel_rfl) (by kernel_rfl) (by omega) (by omega) (by omega) cl4 hra e115 hr115 (by omega) rfl (by simp [Value.oneCell']) h129
    have hF131 : ∀ x ∈ ownF A4, w43.heap.size ≤ x := fun x hx => (cl4.base x hx).1
    have t131 := (t79.ext e115 (by simp)).ext e131 (fun hm => by have := hF131 _ hm; omega)
    obtain ⟨w132, hs132, t132, x132⟩ := store1a (P := Tryz.prog) (t := 24) (i := 4) (v := .slice A130 (a4 + 1) c130) (by kernel_rfl) t131 (by simp) rfl rfl
    refine ⟨A130, _, c130, w131, hr131, w132, hs132, ?_⟩
    rw [up64 a4 (by omega)]
    exact ⟨⟨a4 + 1, c130, A130, rfl, by omega, cl131.ext x132 (by simp; omega), t132, ((e79.trans e115.up).trans' e131 fun x hx => .inr (hF131 x hx)).trans x132⟩, by simp only [Int.toNat_natCast]; omega⟩
  obtain rfl : a4 = na4 := by omega
  have rep4 := cl4.done_ za4.ll hn4
  have rep3' := RepP.ext e79 (Q := fun b => w11.heap.size ≤ b ∧ b < w79.heap.size) (fun b hb hm => by simp at hm; have := hb.1; omega) (fun b hb => ⟨by have := hb.1; omega, by have := hb.2; omega⟩) rep3
  have rep2'' := RepP.ext e79 (Q := fun b => w11.heap.size ≤ b ∧ b < w79.heap.size) (fun b hb hm => by simp at hm; have := hb.1; omega) (fun b hb => ⟨by have := hb.1; omega, by have := hb.2; omega⟩) rep2'
  have rep4' := RepP.ext (Ext.refl [] _) (Q := fun b => w11.heap.size ≤ b ∧ b < w79.heap.size) (by simp) (fun b hb => ⟨by have := hb.1; omega, hb.2⟩) rep4
  obtain ⟨w138, hs138, q138, x138⟩ := storeW (P := Tryz.prog) (t := 26) (n := 5) iState q79 (vs := stV sa0 sa1 A a c A3 a3 c3 A4 a4 c4) rfl rfl (by simp [Value.oneCell'])
  have s138 := x138.size
  refine ⟨_, _, _, _, _, _, _, _, _, _, _, cadd0 t79, w138, hs138, _, _, _, _, _, _, _, _, _, _, _, cadd0 q138, k w138 _ (E79.trans' x138 fun x hx => by simp at hx; subst hx; exact .inr (by omega)) ?_⟩
  have hfin : ∀ {d : D} {v : Value}, RepP (fun b => w11.heap.size ≤ b ∧ b < w79.heap.size) w79 d v → RepP (NewB w w138) w138 d v := fun h => RepP.ext x138 (fun b hb hm => by simp at hm; have := hb.1; omega) (fun b hb => ⟨by have := hb.1; omega, by have := hb.2; omega⟩) h
  exact ⟨_, _, rfl, rfl, _, _, rfl, rfl, _, _, rfl, hfin rep2'', _, _, rfl, hfin rep3', _, _, rfl, hfin rep4', rfl⟩
end Go.Proofs.YtoaeefjcjdhlkaaGreat
