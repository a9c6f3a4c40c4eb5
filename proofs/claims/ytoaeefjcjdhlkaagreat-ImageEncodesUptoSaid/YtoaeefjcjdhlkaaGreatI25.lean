/- Image: copies of nodes and pods. (Printed by gen_image.py.) -/
import Derived.Test.YtoaeefjcjdhlkaaGreatI24
set_option linter.unusedVariables false
set_option linter.unusedSimpArgs false
namespace Go.Proofs.YtoaeefjcjdhlkaaGreat
open Go Go.V Go.B

set_option maxRecDepth 8000 in
set_option maxHeartbeats 1000000 in
theorem copyNode_c : Cps 27 tNode := by
  intro w r vs R ht hr k
  obtain ⟨s0, r0, u0, rfl, rfl, z0, ht, hr⟩ := inv_str ht hr
  obtain ⟨s1, A1, n1, c1, m1, xs1, r1, u1, rfl, rfl, z1, ht, hr⟩ := inv_list ht hr
  obtain ⟨s2, A2, n2, c2, m2, xs2, r2, u2, rfl, rfl, z2, ht, hr⟩ := inv_list ht hr
  obtain ⟨s3, A3, n3, c3, m3, xs3, r3, u3, rfl, rfl, z3, ht, hr⟩ := inv_list ht hr
  obtain ⟨s4, r4, u4, rfl, rfl, ht, hr⟩ := inv_bool ht hr
  obtain ⟨rfl, rfl⟩ := inv_nil ht hr
  apply berthlaw26_CopyNode_nf
  intro w6 h6 w7 h7
  obtain ⟨b1, x1, zz1⟩ := box_new (cs := [.string s0, .slice A1 n1 c1, .slice A2 n2 c2, .slice A3 n3 c3, .bool s4]) h6
  obtain ⟨b2, x2, zz2⟩ := box_new (cs := [.string ByteArray.empty, .slice none 0 0, .slice none 0 0, .slice none 0 0, .bool false]) h7
  replace b1 := b1.ext x2 (by simp)
  have E := x1.trans x2
  have hp0 := b1.lt
  have hq0 := b2.lt
  intro wa1 ha1
  obtain ⟨-, xa, -⟩ := box_new (cs := []) ha1
  obtain ⟨B1, d1, wb1, hr1, eb1, rp1⟩ := copyL_c (t := 49) (k := 1) (z := .agg ⟨[.string ByteArray.empty, .string ByteArray.empty]⟩) (bytes := 32) Tryz.underlying49 (by kernel_rfl) (by kernel_rfl) (by omega) (by omega) (z1.ext0 E) rfl rfl ha1
  have sz1 := eb1.size
  obtain ⟨wc1, hs1, bc1, xc1⟩ := store1a (P := Tryz.prog) (t := 49) (i := 1) (v := .slice B1 n1 d1) (by kernel_rfl) (b1.ext eb1 (by simp)) (by simp) rfl rfl
  refine ⟨_, _, _, cadd (b1.ext xa (by simp)) rfl, B1, _, d1, wb1, hr1, wc1, hs1, ?_⟩
  have sc1 := xc1.size
  replace rp1 := keep_st (keep_new (w0 := w) (p := w.heap.size) (q := w6.heap.size) rp1 (by omega) (by omega) (by omega)) xc1
  replace b2 := (b2.ext eb1 (by simp)).ext xc1 (by simp; omega)
  replace b1 := bc1
  replace E := (E.trans eb1).trans' xc1 (fun x hx => by simp at hx; subst hx; exact .inr (Nat.le_refl _))
  clear xa
  intro wa2 ha2
  obtain ⟨-, xa, -⟩ := box_new (cs := []) ha2
  obtain ⟨B2, d2, wb2, hr2, eb2, rp2⟩ := copyL_c (t := 50) (k := 2) (z := .agg ⟨[.string ByteArray.empty, .string ByteArray.empty, .string ByteArray.empty]⟩) (bytes := 48) Tryz.underlying50 (by kernel_rfl) (by kernel_rfl) (by omega) (by omega) (z2.ext0 E) rfl rfl ha2
  have sz2 := eb2.size
  obtain ⟨wc2, hs2, bc2, xc2⟩ := store1a (P := Tryz.prog) (t := 50) (i := 2) (v := .slice B2 n2 d2) (by kernel_rfl) (b1.ext eb2 (by simp)) (by simp) rfl rfl
  refine ⟨_, _, _, cadd (b1.ext xa (by simp)) rfl, B2, _, d2, wb2, hr2, wc2, hs2, ?_⟩
  have sc2 := xc2.size
  replace rp1 := keep_st (keep_ext rp1 eb2) xc2
  replace rp2 := keep_st (keep_new (w0 := w) (p := w.heap.size) (q := w6.heap.size) rp2 (by omega) (by omega) (by omega)) xc2
  replace b2 := (b2.ext eb2 (by simp)).ext xc2 (by simp; omega)
  replace b1 := bc2
  replace E := (E.trans eb2).trans' xc2 (fun x hx => by simp at hx; subst hx; exact .inr (Nat.le_refl _))
  clear xa
  intro wa3 ha3
  obtain ⟨-, xa, -⟩ := box_new (cs := []) ha3
  obtain ⟨B3, d3, wb3, hr3, eb3, rp3⟩ := copyL_c (t := 51) (k := 1) (z := .agg ⟨[.string ByteArray.empty, .int .i64 0]⟩) (bytes := 24) Tryz.underlying51 (by kernel_rfl) (by kernel_rfl) (by omega) (by omega) (z3.ext0 E) rfl rfl ha3
  have sz3 := eb3.size
  obtain ⟨wc3, hs3, bc3, xc3⟩ := store1a (P := Tryz.prog) (t := 51) (i := 3) (v := .slice B3 n3 d3) (by kernel_rfl) (b1.ext eb3 (by simp)) (by simp) rfl rfl
  refine ⟨_, _, _, cadd (b1.ext xa (by simp)) rfl, B3, _, d3, wb3, hr3, wc3, hs3, ?_⟩
  have sc3 := xc3.size
  replace rp1 := keep_st (keep_ext rp1 eb3) xc3
  replace rp2 := keep_st (keep_ext rp2 eb3) xc3
  replace rp3 := keep_st (keep_new (w0 := w) (p := w.heap.size) (q := w6.heap.size) rp3 (by omega) (by omega) (by omega)) xc3
  replace b2 := (b2.ext eb3 (by simp)).ext xc3 (by simp; omega)
  replace b1 := bc3
  replace E := (E.trans eb3).trans' xc3 (fun x hx => by simp at hx; subst hx; exact .inr (Nat.le_refl _))
  clear xa
  obtain ⟨w9, hs9, p9, x9⟩ := storeW (P := Tryz.prog) (t := 53) (n := 5) iNode b2 (vs := [.string s0, .slice B1 n1 d1, .slice B2 n2 d2, .slice B3 n3 d3, .bool s4]) rfl rfl (by simp [Value.oneCell'])
  replace rp1 := keep_out (keep_sq rp1 x9)
  replace rp2 := keep_out (keep_sq rp2 x9)
  replace rp3 := keep_out (keep_sq rp3 x9)
  refine ⟨_, _, _, _, _, _, _, _, _, _, _, cadd0 b1, w9, hs9, _, _, _, _, _, _, _, _, _, _, _, cadd0 p9, k w9 _ (E.trans' x9 fun x hx => by simp at hx; subst hx; exact .inr (by omega)) ?_⟩
  exact ⟨_, _, rfl, ⟨rfl, z0⟩, _, _, rfl, rp1, _, _, rfl, rp2, _, _, rfl, rp3, _, _, rfl, rfl, rfl⟩
set_option maxRecDepth 8000 in
set_option maxHeartbeats 1000000 in
theorem copyPod_c : Cps 28 tPod := by
  intro w r vs R ht hr k
  obtain ⟨s0, r0, u0, rfl, rfl, z0, ht, hr⟩ := inv_str ht hr
  obtain ⟨s1, A1, n1, c1, m1, xs1, r1, u1, rfl, rfl, z1, ht, hr⟩ := inv_list ht hr
  obtain ⟨s2, A2, n2, c2, m2, xs2, r2, u2, rfl, rfl, z2, ht, hr⟩ := inv_list ht hr
  obtain ⟨s3, A3, n3, c3, m3, xs3, r3, u3, rfl, rfl, z3, ht, hr⟩ := inv_list ht hr
  obtain ⟨s4, r4, u4, rfl, rfl, z4, ht, hr⟩ := inv_str ht hr
  obtain ⟨s5, A5, n5, c5, m5, xs5, r5, u5, rfl, rfl, z5, ht, hr⟩ := inv_list ht hr
  obtain ⟨s6, A6, n6, c6, m6, xs6, r6, u6, rfl, rfl, z6, ht, hr⟩ := inv_list ht hr
  obtain ⟨s7, r7, u7, rfl, rfl, z7, ht, hr⟩ := inv_int ht hr
  obtain ⟨rfl, rfl⟩ := inv_nil ht hr
  apply berthlaw26_CopyPod_nf
  intro w6 h6 w7 h7
  obtain ⟨b1, x1, zz1⟩ := box_new (cs := [.string s0, .slice A1 n1 c1, .slice A2 n2 c2, .slice A3 n3 c3, .string s4, .slice A5 n5 c5, .slice A6 n6 c6, .int .i64 s7]) h6
  obtain ⟨b2, x2, zz2⟩ := box_new (cs := [.string ByteArray.empty, .slice none 0 0, .slice none 0 0, .slice none 0 0, .string ByteArray.empty, .slice none 0 0, .slice none 0 0, .int .i64 0]) h7
  replace b1 := b1.ext x2 (by simp)
  have E := x1.trans x2
  have hp0 := b1.lt
  have hq0 := b2.lt
  intro wa1 ha1
  obtain ⟨-, xa, -⟩ := box_new (cs := []) ha1
  obtain ⟨B1, d1, wb1, hr1, eb1, rp1⟩ := copyL_c (t := 49) (k := 1) (z := .agg ⟨[.string ByteArray.empty, .string ByteArray.empty]⟩) (bytes := 32) Tryz.underlying49 (by kernel_rfl) (by kernel_rfl) (by omega) (by omega) (z1.ext0 E) rfl rfl ha1
  have sz1 := eb1.size
  obtain ⟨wc1, hs1, bc1, xc1⟩ := store1a (P := Tryz.prog) (t := 49) (i := 1) (v := .slice B1 n1 d1) (by kernel_rfl) (b1.ext eb1 (by simp)) (by simp) rfl rfl
  refine ⟨_, _, _, cadd (b1.ext xa (by simp)) rfl, B1, _, d1, wb1, hr1, wc1, hs1, ?_⟩
  have sc1 := xc1.size
  replace rp1 := keep_st (keep_new (w0 := w) (p := w.heap.size) (q := w6.heap.size) rp1 (by omega) (by omega) (by omega)) xc1
  replace b2 := (b2.ext eb1 (by simp)).ext xc1 (by simp; omega)
  replace b1 := bc1
  replace E := (E.trans eb1).trans' xc1 (fun x hx => by simp at hx; subst hx; exact .inr (Nat.le_refl _))
  clear xa
  intro wa2 ha2
  obtain ⟨-, xa, -⟩ := box_new (cs := []) ha2
  obtain ⟨B2, d2, wb2, hr2, eb2, rp2⟩ := copyL_c (t := 51) (k := 1) (z := .agg ⟨[.string ByteArray.empty, .int .i64 0]⟩) (bytes := 24) Tryz.underlying51 (by kernel_rfl) (by kernel_rfl) (by omega) (by omega) (z2.ext0 E) rfl rfl ha2
  have sz2 := eb2.size
  obtain ⟨wc2, hs2, bc2, xc2⟩ := store1a (P := Tryz.prog) (t := 51) (i := 2) (v := .slice B2 n2 d2) (by kernel_rfl) (b1.ext eb2 (by simp)) (by simp) rfl rfl
  refine ⟨_, _, _, cadd (b1.ext xa (by simp)) rfl, B2, _, d2, wb2, hr2, wc2, hs2, ?_⟩
  have sc2 := xc2.size
  replace rp1 := keep_st (keep_ext rp1 eb2) xc2
  replace rp2 := keep_st (keep_new (w0 := w) (p := w.heap.size) (q := w6.heap.size) rp2 (by omega) (by omega) (by omega)) xc2
  replace b2 := (b2.ext eb2 (by simp)).ext xc2 (by simp; omega)
  replace b1 := bc2
  replace E := (E.trans eb2).trans' xc2 (fun x hx => by simp at hx; subst hx; exact .inr (Nat.le_refl _))
  clear xa
  intro wa3 ha3
  obtain ⟨-, xa, -⟩ := box_new (cs := []) ha3
  obtain ⟨B3, d3, wb3, hr3, eb3, rp3⟩ := copyL_c (t := 64) (k := 3) (z := .agg ⟨[.string ByteArray.empty, .string ByteArray.empty, .string ByteArray.empty, .string ByteArray.empty]⟩) (bytes := 64) Tryz.underlying64 (by kernel_rfl) (by kernel_rfl) (by omega) (by omega) (z3.ext0 E) rfl rfl ha3
  have sz3 := eb3.size
  obtain ⟨wc3, hs3, bc3, xc3⟩ := store1a (P := Tryz.prog) (t := 64) (i := 3) (v := .slice B3 n3 d3) (by kernel_rfl) (b1.ext eb3 (by simp)) (by simp) rfl rfl
  refine ⟨_, _, _, cadd (b1.ext xa (by simp)) rfl, B3, _, d3, wb3, hr3, wc3, hs3, ?_⟩
  have sc3 := xc3.size
  replace rp1 := keep_st (keep_ext rp1 eb3) xc3
  replace rp2 := keep_st (keep_ext rp2 eb3) xc3
  replace rp3 := keep_st (keep_new (w0 := w) (p := w.heap.size) (q := w6.heap.size) rp3 (by omega) (by omega) (by omega)) xc3
  replace b2 := (b2.ext eb3 (by simp)).ext xc3 (by simp; omega)
  replace b1 := bc3
  replace E := (E.trans eb3).trans' xc3 (fun x hx => by simp at hx; subst hx; exact .inr (Nat.le_refl _))
  clear xa
  intro wa5 ha5
  obtain ⟨-, xa, -⟩ := box_new (cs := []) ha5
  obtain ⟨B5, d5, wb5, hr5, eb5, rp5⟩ := copyL_c (t := 65) (k := 1) (z := .agg ⟨[.string ByteArray.empty, .string ByteArray.empty]⟩) (bytes := 32) Tryz.underlying65 (by kernel_rfl) (by kernel_rfl) (by omega) (by omega) (z5.ext0 E) rfl rfl ha5
  have sz5 := eb5.size
  obtain ⟨wc5, hs5, bc5, xc5⟩ := store1a (P := Tryz.prog) (t := 65) (i := 5) (v := .slice B5 n5 d5) (by kernel_rfl) (b1.ext eb5 (by simp)) (by simp) rfl rfl
  refine ⟨_, _, _, cadd (b1.ext xa (by simp)) rfl, B5, _, d5, wb5, hr5, wc5, hs5, ?_⟩
  have sc5 := xc5.size
  replace rp1 := keep_st (keep_ext rp1 eb5) xc5
  replace rp2 := keep_st (keep_ext rp2 eb5) xc5
  replace rp3 := keep_st (keep_ext rp3 eb5) xc5
  replace rp5 := keep_st (keep_new (w0 := w) (p := w.heap.size) (q := w6.heap.size) rp5 (by omega) (by omega) (by omega)) xc5
  replace b2 := (b2.ext eb5 (by simp)).ext xc5 (by simp; omega)
  replace b1 := bc5
  replace E := (E.trans eb5).trans' xc5 (fun x hx => by simp at hx; subst hx; exact .inr (Nat.le_refl _))
  clear xa
  intro wa6 ha6
  obtain ⟨-, xa, -⟩ := box_new (cs := []) ha6
  obtain ⟨B6, d6, wb6, hr6, eb6, rp6⟩ := copyL_c (t := 66) (k := 1) (z := .agg ⟨[.int .i64 0, .string ByteArray.empty]⟩) (bytes := 24) Tryz.underlying66 (by kernel_rfl) (by kernel_rfl) (by omega) (by omega) (z6.ext0 E) rfl rfl ha6
  have sz6 := eb6.size
  obtain ⟨wc6, hs6, bc6, xc6⟩ := store1a (P := Tryz.prog) (t := 66) (i := 6) (v := .slice B6 n6 d6) (by kernel_rfl) (b1.ext eb6 (by simp)) (by simp) rfl rfl
  refine ⟨_, _, _, cadd (b1.ext xa (by simp)) rfl, B6, _, d6, wb6, hr6, wc6, hs6, ?_⟩
  have sc6 := xc6.size
  replace rp1 := keep_st (keep_ext rp1 eb6) xc6
  replace rp2 := keep_st (keep_ext rp2 eb6) xc6
  replace rp3 := keep_st (keep_ext rp3 eb6) xc6
  replace rp5 := keep_st (keep_ext rp5 eb6) xc6
  replace rp6 := keep_st (keep_new (w0 := w) (p := w.heap.size) (q := w6.heap.size) rp6 (by omega) (by omega) (by omega)) xc6
  replace b2 := (b2.ext eb6 (by simp)).ext xc6 (by simp; omega)
  replace b1 := bc6
  replace E := (E.trans eb6).trans' xc6 (fun x hx => by simp at hx; subst hx; exact .inr (Nat.le_refl _))
  clear xa
  obtain ⟨w9, hs9, p9, x9⟩ := storeW (P := Tryz.prog) (t := 68) (n := 8) iPod b2 (vs := [.string s0, .slice B1 n1 d1, .slice B2 n2 d2, .slice B3 n3 d3, .string s4, .slice B5 n5 d5, .slice B6 n6 d6, .int .i64 s7]) rfl rfl (by simp [Value.oneCell'])
  replace rp1 := keep_out (keep_sq rp1 x9)
  replace rp2 := keep_out (keep_sq rp2 x9)
  replace rp3 := keep_out (keep_sq rp3 x9)
  replace rp5 := keep_out (keep_sq rp5 x9)
  replace rp6 := keep_out (keep_sq rp6 x9)
  refine ⟨_, _, _, _, _, _, _, _, _, _, _, _, _, _, _, _, _, _, cadd0 b1, w9, hs9, _, _, _, _, _, _, _, _, _, _, _, _, _, _, _, _, _, _, cadd0 p9, k w9 _ (E.trans' x9 fun x hx => by simp at hx; subst hx; exact .inr (by omega)) ?_⟩
  exact ⟨_, _, rfl, ⟨rfl, z0⟩, _, _, rfl, rp1, _, _, rfl, rp2, _, _, rfl, rp3, _, _, rfl, ⟨rfl, z4⟩, _, _, rfl, rp5, _, _, rfl, rp6, _, _, rfl, rfl, rfl⟩
end Go.Proofs.YtoaeefjcjdhlkaaGreat
