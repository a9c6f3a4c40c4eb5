/- SlotsCopies: whatever three lists of steps come in, Copy with a function makes a table of the same names with the function's answers, and neither table hears of what is done to the other. -/
import Derived.Test.YtcampkaenlohbaaM25
import Derived.Test.YtcampkaenlohbaaLf3
import Derived.Test.YtcampkaenlohbaaRows
set_option linter.unusedVariables false
set_option linter.unusedSimpArgs false
namespace Go.Proofs.Ytcampkaenlohbaa
open Go Go.V Go.B
open Go.ChangeShapes Go.WideShapes Go.ChangeAt Go.RowKit

theorem own : ownKnob Try.prog.godebug = none := by kernel_rfl
theorem laidOut : laidOutB Try.prog = true := by kernel_rfl
theorem i52s : (Try.prog.info? 52).map (·.size) = some 1 := by kernel_rfl
theorem wrap_spec (x : Int) : ∃ q : Int, IntKind.wrap .i64 x = x + 18446744073709551616 * q ∧ -9223372036854775808 ≤ IntKind.wrap .i64 x ∧ IntKind.wrap .i64 x ≤ 9223372036854775807 := by
  have e : IntKind.wrap .i64 x = x % 18446744073709551616 ∧ x % 18446744073709551616 < 9223372036854775808 ∨ IntKind.wrap .i64 x = x % 18446744073709551616 - 18446744073709551616 ∧ 9223372036854775808 ≤ x % 18446744073709551616 := by
    unfold IntKind.wrap
    simp only [IntKind.bits, IntKind.signed, Bool.true_and]
    split
    · rename_i h; right; exact ⟨rfl, by simpa using h⟩
    · rename_i h; left; exact ⟨rfl, by simpa using h⟩
  rcases e with ⟨e, h⟩ | ⟨e, h⟩
  · exact ⟨-(x / 18446744073709551616), by omega, by omega, by omega⟩
  · exact ⟨-(x / 18446744073709551616) - 1, by omega, by omega, by omega⟩
theorem gv_three (v : Int) (k : Nat) : IntKind.wrap .i64 (IntKind.wrap .i64 (IntKind.wrap .i64 (3 * v) + ((k : Nat) : Int)) + 1) = gv v k := by
  unfold gv
  generalize IntKind.wrap .i64 (3 * v) = z
  obtain ⟨q1, h1, _, _⟩ := wrap_spec (z + ((k : Nat) : Int))
  obtain ⟨q2, h2, _, _⟩ := wrap_spec (IntKind.wrap .i64 (z + ((k : Nat) : Int)) + 1)
  obtain ⟨q3, h3, _, _⟩ := wrap_spec (z + ((k + 1 : Nat) : Int))
  generalize IntKind.wrap .i64 (IntKind.wrap .i64 (z + ((k : Nat) : Int)) + 1) = a at *
  generalize IntKind.wrap .i64 (z + ((k : Nat) : Int)) = b at *
  generalize IntKind.wrap .i64 (z + ((k + 1 : Nat) : Int)) = c at *
  omega
set_option maxRecDepth 8000 in
theorem slotsCopiesW_c {w : World} {A1 A2 A3 : Option Addr} {l1 l2 l3 c1 c2 c3 : Nat} {os1 os2 os3 : List Op} (ho1 : OpsAt w A1 l1 os1) (ho2 : OpsAt w A2 l2 os2) (ho3 : OpsAt w A3 l3 os3) {R : Ending → World → Prop} (k : ∀ w', Ext [] w w' → R (.returned (.bool true)) w') :
    Calls Try.prog 8 #[.slice A1 l1 c1, .slice A2 l2 c2, .slice A3 l3 c3] w R := by
  apply berthlaw05_SlotsCopies_nf
  refine fixed_c fun w6 e6 => ⟨_, rfl, sel_false rfl ?_⟩
  refine New_c 5 (fun h => absurd h (by omega)) fun p f w10 _ _ e10 at10 hf => ⟨_, _, rfl, sel_false rfl (sel_false rfl ?_)⟩
  have g10 := e6.trans e10
  refine refNew_c 5 fun w15 e15 => ⟨_, _, _, _, _, rfl, fun w16 h16 => ?_⟩
  rw [show newV 5 = (5, 0) from by decide]
  obtain ⟨b16, x16, z16⟩ := box_new (cs := [.int .i64 0, .slice none 0 0]) h16
  obtain ⟨w17, hr17, b17, x17⟩ := dt_box (w0 := w16) b16 rfl 5 none 0 0
  have e17 : Ext [] w10 w17 := (e15.trans x16).trans' x17 (fun b hb => .inr (by have := e15.size; simp at hb; omega))
  have g17 := g10.trans e17
  have hflt := at10.lt
  have t17 : Tb w17 (some p) f ⟨5, [], [], 0⟩ := (At.weaken at10 (Nat.zero_le _)).ext0 e17
  have d17 : Dc w17 none 0 ⟨5, [], [], 0⟩ [] := ⟨Cells.nil _ _, rfl, ⟨at10.inv, List.Perm.refl _⟩⟩
  refine ⟨w17, hr17, _, _, _, _, cadd0 b17, ?_⟩
  have s6 := e6.size
  have hf0 : ∀ b ∈ f, w.heap.size ≤ b := fun b hb => by have := hf b hb; omega
  refine after_c t17 d17 (by simp [dA]) (fun w' e => ho1.ext0 (g17.trans' e fun b hb => .inr (hf0 b hb))) fun w24 f1 s1 B1 n1 k1 ds1 e24 t24 d24 q1 q2 q3 => ⟨_, _, _, _, _, rfl, fun w25 h25 => ?_⟩
  have g24 : Ext [] w w24 := g17.trans' e24 fun b hb => .inr (hf0 b hb)
  have hf1 : ∀ b ∈ f1, w.heap.size ≤ b := fun b hb => by
    rcases q1 b hb with h | h
    · exact hf0 b h
    · have := g17.size; omega
  obtain ⟨b25, x25, z25⟩ := box_new (cs := [.int .i64 0, .slice none 0 0]) h25
  obtain ⟨w26, hr26, b26, x26⟩ := dt_box (w0 := w25) b25 rfl (s1.most : Int) B1 n1 k1
  have e26 : Ext [] w24 w26 := x25.trans' x26 (fun b hb => .inr (by simp at hb; omega))
  have hl24 := t24.lt
  have dl24 := dA_lt d24
  have sd26 : SdAt w w26 ⟨p, f1, s1, B1, n1, k1, ds1, w24.heap.size⟩ := ⟨t24.ext0 e26, d24.ext0 e26, b26, q3, ⟨fun hm => absurd (hl24 _ hm) (Nat.lt_irrefl _), fun hm => absurd (dl24 _ hm) (Nat.lt_irrefl _)⟩, g24.size, hf1⟩
  have g26 := g24.trans e26
  refine ⟨w26, hr26, sel_false rfl fun w27 h27 => ?_⟩
  obtain ⟨b27, x27, z27⟩ := box_new (cs := [.slice none 0 0]) h27
  have sd27 := sd26.ext x27 (by simp)
  have hl26 := sd26.lt
  have ncb : ∀ b ∈ Sd.blks ⟨p, f1, s1, B1, n1, k1, ds1, w24.heap.size⟩, b ∉ [w26.heap.size] := fun b hb hm => by
    have := hl26 b hb
    simp at hm; omega
  refine Copy_c (p := p) (B := 0) sd27.t (cb := w26.heap.size) (fun hm => ncb w26.heap.size (by simp [Sd.blks]; exact .inr (.inl hm)) (by simp)) ⟨none, 0, 0, b27, OwnL.nil _ _ _, rfl⟩ fun p' f' g' w30 e30 at30 hf' cl30 => ⟨_, rfl, ?_⟩
  have sd30 := sd27.ext e30 ncb
  have g27 := g26.trans x27
  have g30 : Ext [] w w30 := g27.trans' e30 (fun b hb => .inr (by have := g26.size; simp at hb; omega))
  refine ⟨_, _, _, _, cadd0 sd30.mB, refBySlot_c sd30.d _ _ fun A33 n33 c33 w35 e35 own33 => ⟨_, _, _, rfl, _, cadd (sd30.mB.ext0 e35) (i := 0) rfl, fun w37 h37 => ?_⟩⟩
  obtain ⟨b37, x37, z37⟩ := box_new (cs := [.int .i64 0, .slice none 0 0]) h37
  obtain ⟨w38, hr38, b38, x38⟩ := dt_box (w0 := w37) b37 rfl (s1.most : Int) none 0 0
  have e38 : Ext [] w35 w38 := x37.trans' x38 (fun b hb => .inr (by simp at hb; omega))
  have f38 := e35.trans e38
  have sd38 := sd30.ext f38 (by simp)
  have g38 := g30.trans f38
  have cl38 := cl30.ext f38 (by simp) (by simp)
  have own38 := own33.ext0 e38
  have hcl := cl38.lt
  have hcl30 := cl30.lt
  obtain ⟨Al, l, cl, bc38, ownc, rfl⟩ := cl38
  have hn33 : (drs s1.rows).length = n33 := own38.len
  have z24 : w.heap.size ≤ w24.heap.size := g24.size
  have z26 : w24.heap.size ≤ w26.heap.size := e26.size
  have hlc := ownc.len
  have hda : (drs s1.rows).map (·.v) = asked s1.rows := drs_asked _ _
  have hln : l = n33 := by rw [← hlc, ← hda, ← hn33]; simp
  have hle : n33 ≤ 65536 := by
    have := d24.le
    have h1 := d24.dm.len
    have h2 := t24.cnt
    have h3 := drs_len s1.rows
    have h4 := d24.len
    omega
  have s30 := e30.size
  have s35 := e35.size
  have s38 := e38.size
  have m30 : w24.heap.size < w30.heap.size := sd30.mB.lt
  refine ⟨w38, hr38, sel_false rfl ⟨_, _, _, bc38.cell (i := 0) rfl, sel_false (by simp [hln]) ?_⟩⟩
  have l38 : w35.heap.size < w38.heap.size := b38.lt
  have at38 := (At.weaken at30 (Nat.zero_le _)).ext0 f38
  have hf'lt := at30.lt
  refine ⟨fun t w' => ∃ a : Nat, t = a ∧ a ≤ n33 ∧ Ext [w35.heap.size] w38 w' ∧ ∃ A'' n'' c'', BlkT w' w35.heap.size (dt (s1.most : Int) A'' n'' c'') 54 ∧ OwnL DL w' w38.heap.size 66 A'' n'' c'' (dmap 0 ((drs s1.rows).take a)), fun t _ => n33 - t.toNat, ⟨0, rfl, by omega, Ext.refl _ _, none, 0, 0, b38, OwnL.nil _ _ _⟩, ?_⟩
  rintro _ _ w44 ⟨a, rfl, ha, e44, A'', n'', c'', b44, own44⟩
  have s44 := e44.size
  refine sel_dec (fun hlt => ?_) (fun hge => ?_)
  · have hlt : a < n33 := by omega
    have n33n : ∀ b ∈ ownF A33, b ∉ [w35.heap.size] := fun b hb hm => by
      have := (own33.base b hb).2
      simp at hm; omega
    have hAln : ∀ b ∈ ownF Al, b ∉ [w35.heap.size] := fun b hb hm => by
      have := (hcl30.2 b hb).2
      simp at hm; omega
    obtain ⟨d, ad, hd, rfl, rd⟩ := (own38.ext e44 n33n).row hlt
    have hn'' : n'' = a := by
      have := own44.len
      rw [dmap_len] at this
      simp at this; omega
    subst hn''
    refine when_dec ⟨by omega, by omega⟩ (ptr_in ⟨_, _, _, rd, fun w49 h49 => ?_⟩)
    obtain ⟨w50, hr50, b50, e50⟩ := dr_box (d := d) h49
    have bc50 := (bc38.ext e44 (by simp; omega)).ext0 e50
    have oc50 := (ownc.ext e44 hAln).ext0 e50
    obtain ⟨q, adq, hq, rfl, rq⟩ := oc50.row (a := n'') (by omega)
    have hqv : q = d.v := by
      have : (asked s1.rows)[n'']? = some d.v := by rw [← hda, List.getElem?_map, hd]; rfl
      rw [this] at hq; cases hq; rfl
    subst hqv
    refine ⟨w50, hr50, _, _, _, bc50.cell (i := 0) rfl, when_dec ⟨by omega, by omega⟩ (ptr_in ⟨_, by have := rq 0 _ rfl; rwa [Addr.add_zero'] at this, _, cadd b50 (i := 2) rfl, sel_false (by simp) ?_⟩)⟩
    have nb50 := b44.ext0 e50
    have b50d : BlkT w50.drew w44.heap.size d.cells 66 := b50
    refine ⟨_, _, _, cadd (show BlkT w50.drew w35.heap.size _ _ from nb50) (i := 1) rfl, _, cadd b50d (i := 0) rfl, _, cadd b50d (i := 1) rfl, _, cadd b50d (i := 2) rfl, fun w59 h59 => ?_⟩
    rw [gv_three] at h59
    obtain ⟨b59, x59', z59⟩ := box_new (cs := DL.enc { d with v := gv d.v n'' }) h59
    have x59 : Ext [] w50 w59 := x59'.undrew
    have s50 := e50.size
    have s59 := x59.size
    have sd50 : w50.drew.heap.size = w50.heap.size := rfl
    have hbase := own44.base
    obtain ⟨A60, c60, w61, hr61, own61, x61, hat⟩ := ((own44.ext0 e50).ext0 x59).more (P := Try.prog) (t := 52) (ty := 52) (x := { d with v := gv d.v n'' }) u52 i66 rfl (by omega) b59 (by omega) (by omega)
    have nbn : w35.heap.size ∉ ownF A'' := fun hm => by have := (hbase _ hm).1; omega
    obtain ⟨w62, hr62, b62, x62⟩ := store1a (P := Try.prog) (v := .slice A60 (n'' + 1) c60) i52s (((nb50.ext0 x59).ext x61 nbn)) (i := 1) (by simp [dt]) rfl rfl
    refine ⟨A60, n'' + 1, c60, w61, hr61, w62, hr62, ?_⟩
    rw [up64 n'' (by omega)]
    refine ⟨⟨n'' + 1, rfl, by omega, ?_, A60, n'' + 1, c60, b62, ?_⟩, by simp only [Int.toNat_natCast]; omega⟩
    · exact ((((e44.trans e50.up).trans x59.up).trans' x61 (fun b hb => .inr (hbase b hb).1))).trans' x62 (fun b hb => .inl hb)
    · have : (drs s1.rows).take (n'' + 1) = (drs s1.rows).take n'' ++ [d] := by
        rw [List.take_add_one, hd]; rfl
      rw [this, dmap_app]
      have hl : ((drs s1.rows).take n'').length = n'' := by simp; omega
      rw [hl, Nat.zero_add]
      exact own61.ext x62 fun b hb => by
        have := (own61.base b hb).1
        simp; omega
  · have : a = n33 := by omega
    subst this
    rw [List.take_of_length_le (by omega)] at own44
    have hb44 := own44.base
    have nx : ∀ b, b < w35.heap.size → b ∉ [w35.heap.size] := fun b hb hm => by simp at hm; omega
    have T : Two w w44 ⟨p, f1, s1, B1, n1, k1, ds1, w24.heap.size⟩ ⟨p', f', copyW s1, A'', n'', c'', dmap 0 (drs s1.rows), w35.heap.size⟩ := by
      have hl30 := sd30.lt
      have z26 : w.heap.size ≤ w26.heap.size := g26.size
      have hlen44 : (dmap 0 (drs s1.rows)).length = n'' := own44.len
      refine ⟨g38.trans' e44 (fun b hb => .inr (by simp at hb; omega)), sd38.ext e44 (fun b hb => nx b (by have := hl30 b hb; omega)), ⟨Tb.ext (p := some p') at38 e44 (fun b hb => nx b (by have := hf'lt b hb; omega)), ⟨own44.cells, hlen44, ⟨copyW_ok (copy_ok (At.inv sd30.t) (At.keys sd30.t)), ?_⟩⟩, b44, fun b hb hm => ?_, ⟨fun hm => ?_, fun hm => ?_⟩, by show w.heap.size ≤ w35.heap.size; omega, fun b hb => ?_⟩, fun b hb hm => ?_⟩
      · show (dmap 0 (drs s1.rows)).Perm (drs (mapF 0 s1.rows))
        rw [drs, drs, drs_map]
      · have h1 := hf'lt b hm
        unfold dA at hb
        split at hb
        · simp at hb
        · have := (hb44 b hb).1; omega
      · have := hf'lt _ hm
        have : w35.heap.size < w30.heap.size := this
        omega
      · have hm : w35.heap.size ∈ dA A'' n'' := hm
        unfold dA at hm
        split at hm
        · simp at hm
        · have := (hb44 _ hm).1; omega
      · have := hf' b hb; omega
      · have h1 := hl26 b hb
        simp only [Sd.blks, List.mem_cons, List.mem_append] at hm
        rcases hm with h2 | h2 | h2
        · omega
        · have := hf' b h2; omega
        · unfold dA at h2
          split at h2
          · simp at h2
          · have := (hb44 b h2).1; omega
    refine ⟨_, _, _, _, cadd0 T.a.mB, told_c T.a.t T.a.d _ fun w67 e67 => ⟨_, rfl, sel_false rfl ?_⟩⟩
    have T := T.ext0 e67
    refine ⟨_, _, _, _, cadd0 T.b.mB, told_c T.b.t T.b.d _ fun w72 e72 => ⟨_, rfl, sel_false rfl ?_⟩⟩
    have T := T.ext0 e72
    refine ⟨_, _, _, _, cadd0 T.a.mB, after_c T.a.t T.a.d T.a.x1 (T.ops ho2) fun w79 f2 s2 B2 n2 k2 ds2 e79 t79 d79 r1 r2 r3 => ⟨_, _, _, _, _, rfl, ?_⟩⟩
    obtain ⟨w80, hr80, T⟩ := T.turn (c' := k2) e79 t79 d79 r1 r2 r3
    refine ⟨w80, hr80, sel_false rfl ⟨_, _, _, _, cadd0 T.b.mB, told_c T.b.t T.b.d _ fun w85 e85 => ⟨_, rfl, sel_false rfl ?_⟩⟩⟩
    have T := T.ext0 e85
    refine ⟨_, _, _, _, cadd0 T.b.mB, after_c T.b.t T.b.d T.b.x1 (T.swap.ops ho3) fun w92 f3 s3 B3 n3 k3 ds3 e92 t92 d92 r1 r2 r3 => ⟨_, _, _, _, _, rfl, ?_⟩⟩
    obtain ⟨w93, hr93, T⟩ := T.swap.turn (c' := k3) e92 t92 d92 r1 r2 r3
    refine ⟨w93, hr93, sel_true rfl ⟨_, _, _, _, cadd0 T.b.mB, told_c T.b.t T.b.d _ fun w98 e98 => ⟨_, rfl, sel_true rfl ?_⟩⟩⟩
    have T := T.ext0 e98
    exact ⟨_, _, _, _, cadd0 T.a.mB, told_c T.a.t T.a.d _ fun w103 e103 => ⟨_, rfl, k _ (T.e.trans e103)⟩⟩
set_option maxRecDepth 8000 in
theorem slotsCopies_lifted (os : Os) (started : os.Started) (H : Type) (enc : TypeId × Value → H) :
    ReturnsInHanded {} Try.checked os 8 .any (Rows.slotsCopiesSpec.pre6 enc Try.prog Try.f8 Rows.slotsCopiesRow.domain false) (Rows.slotsCopiesSpec.post enc Try.prog Try.f8 false true false false) :=
  lift3 (C := Try.checked) (T := 23) (tb := 4) own (by kernel_rfl) Try.func8 (by kernel_rfl) (by kernel_rfl) Try.underlying4 rfl (fun _ _ _ _ => rfl) laidOut (by kernel_rfl) (of_decide_eq_true (by kernel_rfl)) os started H enc
    (fun W base v v' v'' d d' d'' p p' p'' hok h hw hok' h' hw' hok'' h'' hw'' => by
      obtain ⟨A1, n1, c1, os1, rfl, ho1⟩ := open_ops hok h hw
      obtain ⟨A2, n2, c2, os2, rfl, ho2⟩ := open_ops hok' h' hw'
      obtain ⟨A3, n3, c3, os3, rfl, ho3⟩ := open_ops hok'' h'' hw''
      exact slotsCopiesW_c ho1 ho2 ho3 fun w' e => ⟨rfl, e.below⟩)
    (ChangeSpec.witness6 (enc := enc) (C := Try.checked) false ⟨#[], #[.slice none 0 0, .slice none 0 0, .slice none 0 0], []⟩ 8 (by kernel_rfl) (by kernel_rfl) (by kernel_rfl) (by kernel_rfl))
theorem slotsCopies_holds : Rows.SlotsCopiesSaid :=
  OpenClaim.holds_of_wide 8 Try.f8 rfl rfl rfl rfl rfl rfl rfl ⟨rfl, rfl, rfl, rfl, rfl⟩ rfl rfl rfl rfl rfl (by kernel_rfl) Try.func8 (by kernel_rfl)
    (of_decide_eq_true (by kernel_rfl)) (by unfold Func.isWrapper; first | (rw [if_pos (by decide +kernel)]; kernel_rfl) | (rw [if_neg (by decide +kernel)]; exact ⟨rfl, rfl⟩))
    (fun os started H enc _ => slotsCopies_lifted os started H enc)
end Go.Proofs.Ytcampkaenlohbaa
