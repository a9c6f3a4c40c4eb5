/- Image: are two states the same? -/
import Derived.Test.YtoaeefjcjdhlkaaGreatI16
set_option linter.unusedVariables false
set_option linter.unusedSimpArgs false
namespace Go.Proofs.YtoaeefjcjdhlkaaGreat
open Go Go.V Go.B

theorem cellS {S : World → Prop} {w : World} (hS : ∀ w', S w' → Ext [] w w') {a : Addr} {v : Value} (h : w.cell? a = some v) : ∀ w', S w' → w'.cell? a = some v := fun w' hw => cell_ext (hS w' hw) h (by simp)
theorem cellsS {S : World → Prop} {w : World} (hS : ∀ w', S w' → Ext [] w w') {a : Addr} {vs : List Value} (h : cellsC (fun a v => w.cell? a = some v) a vs) : cellsC (fun a v => ∀ w', S w' → w'.cell? a = some v) a vs := fun i v hv w' hw => cell_ext (hS w' hw) (h i v hv) (by simp)
theorem cells9 {w : World} {p : Addr} {a0 a1 a2 a3 a4 a5 a6 a7 a8 : Value} (h : cellsC (fun a v => w.cell? a = some v) p [a0, a1, a2, a3, a4, a5, a6, a7, a8]) : cellsC (fun a v => w.cell? a = some v) (Addr.add p 0) [a0, a1, a2, a3, a4, a5, a6, a7] := fun i v hv => by
  rw [Addr.add_zero']
  match i, hv with
  | 0, hv => exact h 0 v hv
  | 1, hv => exact h 1 v hv
  | 2, hv => exact h 2 v hv
  | 3, hv => exact h 3 v hv
  | 4, hv => exact h 4 v hv
  | 5, hv => exact h 5 v hv
  | 6, hv => exact h 6 v hv
  | 7, hv => exact h 7 v hv
  | _ + 8, hv => cases hv
set_option maxRecDepth 100000 in
theorem sameState_c : Same2 19 tState := by
  intro w ra rb va vb R ht hr ht' hr' k
  obtain ⟨sa0, ra0, ua0, rfl, rfl, za0, ht, hr⟩ := inv_int ht hr
  obtain ⟨sa1, ra1, ua1, rfl, rfl, za1, ht, hr⟩ := inv_int ht hr
  obtain ⟨sa2, Aa2, na2, ca2, ma2, xsa2, ra2, ua2, rfl, rfl, za2, ht, hr⟩ := inv_list ht hr
  obtain ⟨sa3, Aa3, na3, ca3, ma3, xsa3, ra3, ua3, rfl, rfl, za3, ht, hr⟩ := inv_list ht hr
  obtain ⟨sa4, Aa4, na4, ca4, ma4, xsa4, ra4, ua4, rfl, rfl, za4, ht, hr⟩ := inv_list ht hr
  obtain ⟨rfl, rfl⟩ := inv_nil ht hr
  obtain ⟨sb0, rb0, ub0, rfl, rfl, zb0, ht', hr'⟩ := inv_int ht' hr'
  obtain ⟨sb1, rb1, ub1, rfl, rfl, zb1, ht', hr'⟩ := inv_int ht' hr'
  obtain ⟨sb2, Ab2, nb2, cb2, mb2, xsb2, rb2, ub2, rfl, rfl, zb2, ht', hr'⟩ := inv_list ht' hr'
  obtain ⟨sb3, Ab3, nb3, cb3, mb3, xsb3, rb3, ub3, rfl, rfl, zb3, ht', hr'⟩ := inv_list ht' hr'
  obtain ⟨sb4, Ab4, nb4, cb4, mb4, xsb4, rb4, ub4, rfl, rfl, zb4, ht', hr'⟩ := inv_list ht' hr'
  obtain ⟨rfl, rfl⟩ := inv_nil ht' hr'
  apply berthlaw26_SameState_nf
  intro w11 h11 w12 h12
  obtain ⟨b1, x1, z1⟩ := box_new (cs := stV sa0 sa1 Aa2 na2 ca2 Aa3 na3 ca3 Aa4 na4 ca4) h11
  obtain ⟨b2, x2, z2⟩ := box_new (cs := stV sb0 sb1 Ab2 nb2 cb2 Ab3 nb3 cb3 Ab4 nb4 cb4) h12
  replace b1 := b1.ext x2 (by simp)
  have E := x1.trans x2
  have hlen : ∀ {l l' : List (List D)} {n n' : Nat}, l.length = n → l'.length = n' → ¬ (n : Int) = n' → ¬ l = l' := fun h h' hne e => by subst e; omega
  refine ⟨_, cadd b1 rfl, _, cadd b2 rfl, sel_ne (fun q0 => k _ false E (by simp [q0])) (fun q0 => ?_)⟩
  refine ⟨_, cadd b1 rfl, _, cadd b2 rfl, sel_ne (fun q1 => k _ false E (by simp [q1])) (fun q1 => ?_)⟩
  refine ⟨_, _, _, cadd b1 rfl, _, _, _, cadd b2 rfl, sel_ne (fun q => k _ false E (by simp [hlen za2.ll zb2.ll q])) (fun l2 => ?_)⟩
  refine ⟨_, _, _, cadd b1 rfl, _, _, _, cadd b2 rfl, sel_ne (fun q => k _ false E (by simp [hlen za3.ll zb3.ll q])) (fun l3 => ?_)⟩
  refine ⟨_, _, _, cadd b1 rfl, _, _, _, cadd b2 rfl, sel_ne (fun q => k _ false E (by simp [hlen za4.ll zb4.ll q])) (fun l4 => ?_)⟩
  obtain rfl : na2 = nb2 := by omega
  obtain rfl : na3 = nb3 := by omega
  obtain rfl : na4 = nb4 := by omega
  have hn2 := za2.le
  have hn3 := za3.le
  have hn4 := za4.le
  -- nodes
  refine ⟨fun t w' => ∃ a : Nat, t = (a : Int) ∧ a ≤ na2 ∧ Ext [] w12 w' ∧ sa2.take a = sb2.take a, fun t _ => na2 - t.toNat, ⟨0, rfl, by omega, Ext.refl _ _, by simp⟩, ?_⟩
  rintro _ _ w27 ⟨a, rfl, ha, e27, htk⟩
  refine ⟨_, _, _, cadd (b1.ext e27 (by simp)) rfl, sel_dec (fun hlt => ?_) (fun hge => ?_)⟩
  · obtain ⟨r, vs, ad, hra, htr, hrr, rfl, hts, rd, -⟩ := za2.row (a := a) (by omega)
    obtain ⟨r', vs', bd, hrb, htr', hrr', rfl, hts', rd', -⟩ := zb2.row (a := a) (by omega)
    have e12 : ∀ w', Ext [] w12 w' → Ext [] w12 w' := fun _ h => h
    replace rd := row_at (k := 5) hts rfl E rd
    replace rd' := row_at (k := 5) hts' rfl E rd'
    have htc := htr
    have hrc := hrr
    have htc' := htr'
    have hrc' := hrr'
    obtain ⟨t0, r0, u0, rfl, rfl, y0, htr, hrr⟩ := inv_str htr hrr
    obtain ⟨t1, B1, k1, d1, m1, ys1, r1, u1, rfl, rfl, y1, htr, hrr⟩ := inv_list htr hrr
    obtain ⟨t2, B2, k2, d2, m2, ys2, r2, u2, rfl, rfl, y2, htr, hrr⟩ := inv_list htr hrr
    obtain ⟨t3, B3, k3, d3, m3, ys3, r3, u3, rfl, rfl, y3, htr, hrr⟩ := inv_list htr hrr
    obtain ⟨t4, r4, u4, rfl, rfl, htr, hrr⟩ := inv_bool htr hrr
    obtain ⟨rfl, rfl⟩ := inv_nil htr hrr
    obtain ⟨t0', r0', u0', rfl, rfl, y0', htr', hrr'⟩ := inv_str htr' hrr'
    obtain ⟨t1', B1', k1', d1', m1', ys1', r1', u1', rfl, rfl, y1', htr', hrr'⟩ := inv_list htr' hrr'
    obtain ⟨t2', B2', k2', d2', m2', ys2', r2', u2', rfl, rfl, y2', htr', hrr'⟩ := inv_list htr' hrr'
    obtain ⟨t3', B3', k3', d3', m3', ys3', r3', u3', rfl, rfl, y3', htr', hrr'⟩ := inv_list htr' hrr'
    obtain ⟨t4', r4', u4', rfl, rfl, htr', hrr'⟩ := inv_bool htr' hrr'
    obtain ⟨rfl, rfl⟩ := inv_nil htr' hrr'
    have d27 : Ext [] w27 w27.drew := (Ext.refl _ _).drew
    refine ⟨fun w' => Ext [] w12 w', e27.trans d27, _, _, _, cellS e12 (cadd b1 rfl), when_dec ⟨by omega, by omega⟩ (ptr_in ⟨_, _, _, _, _, _, _, _, _, _, _, cellsS e12 rd, _, _, _, cellS e12 (cadd b2 rfl), when_dec ⟨by omega, by omega⟩ (ptr_in ⟨_, _, _, _, _, _, _, _, _, _, _, cellsS e12 rd', ?_⟩)⟩)⟩
    have Ed := (E.trans e27).trans d27
    refine sameNode_c htc (hrc.ext0 Ed) htc' (hrc'.ext0 Ed) fun w' t e g => ⟨t, rfl, (e27.trans d27).trans e, sel_intro (fun q => k _ false (Ed.trans e) ?_) (fun q => ?_)⟩
    · have hne : ¬ _ := fun h => absurd (g.2 h) (by simpa using q)
      simp only [Bool.false_eq_true, false_iff]
      intro h
      simp only [List.cons.injEq, D.list.injEq] at h
      exact same_not hra hrb hne h.2.2.1
    · have heq := g.1 (by simpa using q)
      rw [up64 a (by omega)]
      exact ⟨⟨a + 1, rfl, by omega, (e27.trans d27).trans e, same_step hra hrb htk heq⟩, by simp only [Int.toNat_natCast]; omega⟩
  obtain rfl : a = na2 := by omega
  have q2 := same_end za2.ll zb2.ll htk
  -- bound
  refine ⟨fun t w' => ∃ a : Nat, t = (a : Int) ∧ a ≤ na3 ∧ Ext [] w12 w' ∧ sa3.take a = sb3.take a, fun t _ => na3 - t.toNat, ⟨0, rfl, by omega, e27, by simp⟩, ?_⟩
  rintro _ _ w52 ⟨a3, rfl, ha3, e52, htk3⟩
  refine ⟨_, _, _, cadd (b1.ext e52 (by simp)) rfl, sel_dec (fun hlt3 => ?_) (fun hge3 => ?_)⟩
  · obtain ⟨r, vs, ad, hra, htr, hrr, rfl, hts, rd, -⟩ := za3.row (a := a3) (by omega)
    obtain ⟨r', vs', bd, hrb, htr', hrr', rfl, hts', rd', -⟩ := zb3.row (a := a3) (by omega)
    have e12 : ∀ w', Ext [] w12 w' → Ext [] w12 w' := fun _ h => h
    replace rd := row_at (k := 9) hts rfl E rd
    replace rd' := row_at (k := 9) hts' rfl E rd'
    have htc := htr
    have hrc := hrr
    have htc' := htr'
    have hrc' := hrr'
    obtain ⟨sc0, rc0, uc0, rfl, rfl, zc0, htr, hrr⟩ := inv_str htr hrr
    obtain ⟨sc1, Ac1, nc1, cc1, mc1, xsc1, rc1, uc1, rfl, rfl, zc1, htr, hrr⟩ := inv_list htr hrr
    obtain ⟨sc2, Ac2, nc2, cc2, mc2, xsc2, rc2, uc2, rfl, rfl, zc2, htr, hrr⟩ := inv_list htr hrr
    obtain ⟨sc3, Ac3, nc3, cc3, mc3, xsc3, rc3, uc3, rfl, rfl, zc3, htr, hrr⟩ := inv_list htr hrr
    obtain ⟨sc4, rc4, uc4, rfl, rfl, zc4, htr, hrr⟩ := inv_str htr hrr
    obtain ⟨sc5, Ac5, nc5, cc5, mc5, xsc5, rc5, uc5, rfl, rfl, zc5, htr, hrr⟩ := inv_list htr hrr
    obtain ⟨sc6, Ac6, nc6, cc6, mc6, xsc6, rc6, uc6, rfl, rfl, zc6, htr, hrr⟩ := inv_list htr hrr
    obtain ⟨sc7, rc7, uc7, rfl, rfl, zc7, htr, hrr⟩ := inv_int htr hrr
    obtain ⟨sc8, rc8, uc8, rfl, rfl, zc8, htr, hrr⟩ := inv_str htr hrr
    obtain ⟨rfl, rfl⟩ := inv_nil htr hrr
    obtain ⟨sd0, rd0, ud0, rfl, rfl, zd0, htr', hrr'⟩ := inv_str htr' hrr'
    obtain ⟨sd1, Ad1, nd1, cd1, md1, xsd1, rd1, ud1, rfl, rfl, zd1, htr', hrr'⟩ := inv_list htr' hrr'
    obtain ⟨sd2, Ad2, nd2, cd2, md2, xsd2, rd2, ud2, rfl, rfl, zd2, htr', hrr'⟩ := inv_list htr' hrr'
    obtain ⟨sd3, Ad3, nd3, cd3, md3, xsd3, rd3, ud3, rfl, rfl, zd3, htr', hrr'⟩ := inv_list htr' hrr'
    obtain ⟨sd4, rd4, ud4, rfl, rfl, zd4, htr', hrr'⟩ := inv_str htr' hrr'
    obtain ⟨sd5, Ad5, nd5, cd5, md5, xsd5, rd5, ud5, rfl, rfl, zd5, htr', hrr'⟩ := inv_list htr' hrr'
    obtain ⟨sd6, Ad6, nd6, cd6, md6, xsd6, rd6, ud6, rfl, rfl, zd6, htr', hrr'⟩ := inv_list htr' hrr'
    obtain ⟨sd7, rd7, ud7, rfl, rfl, zd7, htr', hrr'⟩ := inv_int htr' hrr'
    obtain ⟨sd8, rd8, ud8, rfl, rfl, zd8, htr', hrr'⟩ := inv_str htr' hrr'
    obtain ⟨rfl, rfl⟩ := inv_nil htr' hrr'
    have hspa := tyR_split (ts := tPod) (us := [.str]) (a := [.str sc0, .list sc1, .list sc2, .list sc3, .str sc4, .list sc5, .list sc6, .int sc7]) (b := [.str sc8]) rfl htc
    have hsra := RepR.split (w := w) (a := [.str sc0, .list sc1, .list sc2, .list sc3, .str sc4, .list sc5, .list sc6, .int sc7]) (b := [.str sc8]) (va := [.string sc0, .slice Ac1 nc1 cc1, .slice Ac2 nc2 cc2, .slice Ac3 nc3 cc3, .string sc4, .slice Ac5 nc5 cc5, .slice Ac6 nc6 cc6, .int .i64 sc7]) (vb := [.string sc8]) rfl hrc
    have hspb := tyR_split (ts := tPod) (us := [.str]) (a := [.str sd0, .list sd1, .list sd2, .list sd3, .str sd4, .list sd5, .list sd6, .int sd7]) (b := [.str sd8]) rfl htc'
    have hsrb := RepR.split (w := w) (a := [.str sd0, .list sd1, .list sd2, .list sd3, .str sd4, .list sd5, .list sd6, .int sd7]) (b := [.str sd8]) (va := [.string sd0, .slice Ad1 nd1 cd1, .slice Ad2 nd2 cd2, .slice Ad3 nd3 cd3, .string sd4, .slice Ad5 nd5 cd5, .slice Ad6 nd6 cd6, .int .i64 sd7]) (vb := [.string sd8]) rfl hrc'
    have d52 : Ext [] w52 w52.drew := (Ext.refl _ _).drew
    have Ed := (E.trans e52).trans d52
    refine ⟨fun w' => Ext [] w12 w', e52.trans d52, _, _, _, cellS e12 (cadd b1 rfl), when_dec ⟨by omega, by omega⟩ (ptr_in ⟨_, cellS e12 (rd 8 _ rfl), _, _, _, cellS e12 (cadd b2 rfl), when_dec ⟨by omega, by omega⟩ (ptr_in ⟨_, cellS e12 (rd' 8 _ rfl), ?_⟩)⟩)⟩
    have hno : ∀ {x : ByteArray} {y : ByteArray} {l l' : List D}, (¬ l = l' ∨ ¬ x = y) → l.length = 8 → l'.length = 8 → ¬ (l ++ [.str x] = l' ++ [.str y]) := fun h h1 h2 e => by
      obtain ⟨e1, e2⟩ := List.append_inj e (by omega)
      simp only [List.cons.injEq, D.str.injEq, and_true] at e2
      exact h.elim (fun h => h e1) (fun h => h e2)
    have hbad : ∀ {w'}, Ext [] w w' → ¬ ([.str sc0, .list sc1, .list sc2, .list sc3, .str sc4, .list sc5, .list sc6, .int sc7] ++ [.str sc8] : List D) = [.str sd0, .list sd1, .list sd2, .list sd3, .str sd4, .list sd5, .list sd6, .int sd7] ++ [.str sd8] → R (.returned (.bool false)) w' := fun hE hne => k _ false hE (by
      simp only [Bool.false_eq_true, false_iff]
      intro h
      simp only [List.cons.injEq, D.list.injEq] at h
      exact same_not hra hrb hne h.2.2.2.1)
    rw [beqs]
    refine sel_intro (fun q => hbad Ed (hno (.inr (by simpa using q)) rfl rfl)) (fun q => ?_)
    have q8 : sc8 = sd8 := by simpa using q
    refine ⟨_, _, _, cellS e12 (cadd b1 rfl), when_dec ⟨by omega, by omega⟩ (ptr_in ⟨_, _, _, _, _, _, _, _, _, _, _, _, _, _, _, _, _, _, cellsS e12 (cells9 rd), _, _, _, cellS e12 (cadd b2 rfl), when_dec ⟨by omega, by omega⟩ (ptr_in ⟨_, _, _, _, _, _, _, _, _, _, _, _, _, _, _, _, _, _, cellsS e12 (cells9 rd'), ?_⟩)⟩)⟩
    refine samePod_c hspa.1 (hsra.1.ext0 Ed) hspb.1 (hsrb.1.ext0 Ed) fun w' t e g => ⟨t, rfl, (e52.trans d52).trans e, sel_intro (fun q => hbad (Ed.trans e) (hno (.inl (fun h => by rw [g.2 h] at q; cases q)) rfl rfl)) (fun q => ?_)⟩
    have heq := g.1 (by simpa using q)
    have heq2 : ([.str sc0, .list sc1, .list sc2, .list sc3, .str sc4, .list sc5, .list sc6, .int sc7] ++ [.str sc8] : List D) = [.str sd0, .list sd1, .list sd2, .list sd3, .str sd4, .list sd5, .list sd6, .int sd7] ++ [.str sd8] := by rw [heq, q8]
    rw [up64 a3 (by omega)]
    exact ⟨⟨a3 + 1, rfl, by omega, (e52.trans d52).trans e, same_step hra hrb htk3 heq2⟩, by simp only [Int.toNat_natCast]; omega⟩
  obtain rfl : a3 = na3 := by omega
  have q3 := same_end za3.ll zb3.ll htk3
  -- pending
  refine ⟨fun t w' => ∃ a : Nat, t = (a : Int) ∧ a ≤ na4 ∧ Ext [] w12 w' ∧ sa4.take a = sb4.take a, fun t _ => na4 - t.toNat, ⟨0, rfl, by omega, e52, by simp⟩, ?_⟩
  rintro _ _ w89 ⟨a4, rfl, ha4, e89, htk4⟩
  refine ⟨_, _, _, cadd (b1.ext e89 (by simp)) rfl, sel_dec (fun hlt4 => ?_) (fun hge4 => ?_)⟩
  · obtain ⟨r, vs, ad, hra, htr, hrr, rfl, hts, rd, -⟩ := za4.row (a := a4) (by omega)
    obtain ⟨r', vs', bd, hrb, htr', hrr', rfl, hts', rd', -⟩ := zb4.row (a := a4) (by omega)
    have e12 : ∀ w', Ext [] w12 w' → Ext [] w12 w' := fun _ h => h
    replace rd := row_at (k := 12) hts rfl E rd
    replace rd' := row_at (k := 12) hts' rfl E rd'
    have htc := htr
    have hrc := hrr
    have htc' := htr'
    have hrc' := hrr'
    obtain ⟨sc0, rc0, uc0, rfl, rfl, zc0, htr, hrr⟩ := inv_str htr hrr
    obtain ⟨sc1, Ac1, nc1, cc1, mc1, xsc1, rc1, uc1, rfl, rfl, zc1, htr, hrr⟩ := inv_list htr hrr
    obtain ⟨sc2, Ac2, nc2, cc2, mc2, xsc2, rc2, uc2, rfl, rfl, zc2, htr, hrr⟩ := inv_list htr hrr
    obtain ⟨sc3, Ac3, nc3, cc3, mc3, xsc3, rc3, uc3, rfl, rfl, zc3, htr, hrr⟩ := inv_list htr hrr
    obtain ⟨sc4, rc4, uc4, rfl, rfl, zc4, htr, hrr⟩ := inv_str htr hrr
    obtain ⟨sc5, Ac5, nc5, cc5, mc5, xsc5, rc5, uc5, rfl, rfl, zc5, htr, hrr⟩ := inv_list htr hrr
    obtain ⟨sc6, Ac6, nc6, cc6, mc6, xsc6, rc6, uc6, rfl, rfl, zc6, htr, hrr⟩ := inv_list htr hrr
    obtain ⟨sc7, rc7, uc7, rfl, rfl, zc7, htr, hrr⟩ := inv_int htr hrr
    obtain ⟨sc8, rc8, uc8, rfl, rfl, zc8, htr, hrr⟩ := inv_int htr hrr
    obtain ⟨sc9, rc9, uc9, rfl, rfl, zc9, htr, hrr⟩ := inv_int htr hrr
    obtain ⟨sc10, rc10, uc10, rfl, rfl, zc10, htr, hrr⟩ := inv_int htr hrr
    obtain ⟨sc11, rc11, uc11, rfl, rfl, htr, hrr⟩ := inv_bool htr hrr
    obtain ⟨rfl, rfl⟩ := inv_nil htr hrr
    obtain ⟨sd0, rd0, ud0, rfl, rfl, zd0, htr', hrr'⟩ := inv_str htr' hrr'
    obtain ⟨sd1, Ad1, nd1, cd1, md1, xsd1, rd1, ud1, rfl, rfl, zd1, htr', hrr'⟩ := inv_list htr' hrr'
    obtain ⟨sd2, Ad2, nd2, cd2, md2, xsd2, rd2, ud2, rfl, rfl, zd2, htr', hrr'⟩ := inv_list htr' hrr'
    obtain ⟨sd3, Ad3, nd3, cd3, md3, xsd3, rd3, ud3, rfl, rfl, zd3, htr', hrr'⟩ := inv_list htr' hrr'
    obtain ⟨sd4, rd4, ud4, rfl, rfl, zd4, htr', hrr'⟩ := inv_str htr' hrr'
    obtain ⟨sd5, Ad5, nd5, cd5, md5, xsd5, rd5, ud5, rfl, rfl, zd5, htr', hrr'⟩ := inv_list htr' hrr'
    obtain ⟨sd6, Ad6, nd6, cd6, md6, xsd6, rd6, ud6, rfl, rfl, zd6, htr', hrr'⟩ := inv_list htr' hrr'
    obtain ⟨sd7, rd7, ud7, rfl, rfl, zd7, htr', hrr'⟩ := inv_int htr' hrr'
    obtain ⟨sd8, rd8, ud8, rfl, rfl, zd8, htr', hrr'⟩ := inv_int htr' hrr'
    obtain ⟨sd9, rd9, ud9, rfl, rfl, zd9, htr', hrr'⟩ := inv_int htr' hrr'
    obtain ⟨sd10, rd10, ud10, rfl, rfl, zd10, htr', hrr'⟩ := inv_int htr' hrr'
    obtain ⟨sd11, rd11, ud11, rfl, rfl, htr', hrr'⟩ := inv_bool htr' hrr'
    obtain ⟨rfl, rfl⟩ := inv_nil htr' hrr'
    have d89 : Ext [] w89 w89.drew := (Ext.refl _ _).drew
    have Ed := (E.trans e89).trans d89
    refine ⟨fun w' => Ext [] w12 w', e89.trans d89, _, _, _, cellS e12 (cadd b1 rfl), when_dec ⟨by omega, by omega⟩ (ptr_in ⟨_, _, _, _, _, _, _, _, _, _, _, _, _, _, _, _, _, _, _, _, _, _, cellsS e12 rd, _, _, _, cellS e12 (cadd b2 rfl), when_dec ⟨by omega, by omega⟩ (ptr_in ⟨_, _, _, _, _, _, _, _, _, _, _, _, _, _, _, _, _, _, _, _, _, _, cellsS e12 rd', ?_⟩)⟩)⟩
    refine samePending_c htc (hrc.ext0 Ed) htc' (hrc'.ext0 Ed) fun w' t e g => ⟨t, rfl, (e89.trans d89).trans e, sel_intro (fun q => k _ false (Ed.trans e) ?_) (fun q => ?_)⟩
    · have hne : ¬ _ := fun h => absurd (g.2 h) (by simpa using q)
      simp only [Bool.false_eq_true, false_iff]
      intro h
      simp only [List.cons.injEq, D.list.injEq] at h
      exact same_not hra hrb hne h.2.2.2.2.1
    · have heq := g.1 (by simpa using q)
      rw [up64 a4 (by omega)]
      exact ⟨⟨a4 + 1, rfl, by omega, (e89.trans d89).trans e, same_step hra hrb htk4 heq⟩, by simp only [Int.toNat_natCast]; omega⟩
  obtain rfl : a4 = na4 := by omega
  have q4 := same_end za4.ll zb4.ll htk4
  exact k _ true (E.trans e89) (by simp [q0, q1, q2, q3, q4])
end Go.Proofs.YtoaeefjcjdhlkaaGreat
