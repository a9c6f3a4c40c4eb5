/- Whatever script comes in, berthlaw08.OrderedRows returns true and leaves what came in as it was. -/
import Derived.Test.YtjlkdadafddodaaO14
import Derived.Test.YtjlkdadafddodaaRows
set_option linter.unusedVariables false
set_option linter.unusedSimpArgs false
namespace Go.Proofs.Ytjlkdadafddodaa
open Go Go.V Go.B
open Go.ChangeShapes Go.WideShapes Go.ChangeAt Go.RowKit

theorem i3s : (Try.prog.info? 3).map (·.size) = some 1 := by kernel_rfl
theorem i4s : (Try.prog.info? 4).map (·.size) = some 1 := by kernel_rfl
theorem i9s : (Try.prog.info? 9).map (·.size) = some 1 := by kernel_rfl
theorem i26s : (Try.prog.info? 26).map (·.size) = some 1 := by kernel_rfl
theorem close_more {W : World} {D : Nat} {ds : List Nat} {K : World → Prop} (h : Mrk W D) (k : ∀ w', Ext [D] W w' → closeR ds w' K) : closeR (D :: ds) W K := ⟨h, k _ (putObj_ext W D _)⟩
theorem less_eq (a b : ByteArray) : Op.bytesLess (ByteArray.toList a) (ByteArray.toList b) = decide (bs a < bs b) := by
  rw [ByteArray.toList_eq, ByteArray.toList_eq, bytesLess_eq]; rfl
theorem key_cell {w : World} {B n c : Nat} {e : TypeId} {A : Option Addr} {xs : List ByteArray} (h : OwnL SL w B e A n c xs) {a : Nat} {s : ByteArray} (hs : xs[a]? = some s) : ∃ ad, A = some ad ∧ w.cell? (Addr.add ad (Int.toNat (a : Int) * 1)) = some (.string s) := by
  obtain ⟨ad, hA, hc⟩ := SL.read h.cells hs
  refine ⟨ad, hA, ?_⟩
  have := hc 0 (.string s) rfl
  rw [Int.toNat_natCast]
  rwa [Addr.add_zero'] at this
def lastN (ps : List Rw) : Int := (ps.getLast?.map (·.n)).getD 0
theorem lastN_snoc (ps : List Rw) (y : Rw) : lastN (ps ++ [y]) = y.n := by simp [lastN]
theorem lastN_lt {ps rest : List Rw} {y : Rw} (h : Rising (ps ++ y :: rest)) (hp : ps ≠ []) : lastN ps < y.n := by
  obtain ⟨z, hz⟩ : ∃ z, ps.getLast? = some z := by
    cases hq : ps.getLast? with
    | none => exact absurd (List.getLast?_eq_none_iff.1 hq) hp
    | some z => exact ⟨z, rfl⟩
  have := (List.pairwise_append.1 h).2.2 z (List.mem_of_getLast? hz) y (by simp)
  unfold lastN; rw [hz]; exact this
theorem rising_tell {a b : List Rw} (h : a.map Rw.tell = b.map Rw.tell) (hr : Rising b) : Rising a := by
  have e : ∀ l : List Rw, Rising l ↔ (l.map Rw.tell).Pairwise fun p q => p.1 < q.1 := fun l => by
    rw [List.pairwise_map]; rfl
  rw [e, h, ← e]; exact hr
theorem mem_tell {a b : List Rw} (h : a.map Rw.tell = b.map Rw.tell) {r : Rw} (hr : r ∈ a) : ∃ s ∈ b, s.n = r.n ∧ s.S = r.S := by
  have : r.tell ∈ b.map Rw.tell := by rw [← h]; exact List.mem_map.2 ⟨r, hr, rfl⟩
  obtain ⟨s, hs, e⟩ := List.mem_map.1 this
  injection e with e1 e2
  exact ⟨s, hs, e1, e2⟩
set_option maxRecDepth 8000 in
set_option maxHeartbeats 4000000 in
theorem orderedRows_c {W : World} {A : Option Addr} {m c : Nat} {ops : List Op} (ho : OpsAt W A m ops) {R : Ending → World → Prop} (k : ∀ w', Ext [] W w' → R (.returned (.bool true)) w') :
    Calls Try.prog 4 #[.slice A m c] W R := by
  apply berthlaw08_OrderedRows_nf
  have hsz := ho.sz
  intro w2 h2
  obtain ⟨b2, x2, z2⟩ := box_new (cs := [.bool false]) h2
  refine fixed_c fun w5 e5 => ⟨_, rfl, sel_false rfl ?_⟩
  have E5 := x2.trans e5
  refine played_c (ho.ext0 E5) fun w11 F x e11 a11 k11 N11 r11 f11 => ⟨_, _, rfl, fun w12 h12 => ?_⟩
  have E11 := E5.trans e11
  obtain ⟨b12, x12, z12⟩ := box_new (cs := [.pointer none]) h12
  obtain ⟨w13, hr13, b13, x13⟩ := store1 (P := Try.prog) (v := .pointer (some ⟨x.q, 0, none⟩)) i26s b12 (i := 0) (by simp) rfl rfl
  have e1113 : Ext [] w11 w13 := x12.trans' x13 (fun b hb => .inr (by simp at hb; omega))
  have E13 := E11.trans e1113
  have a13 := a11.ext0 e1113
  refine ⟨w13, hr13, sel_false rfl ⟨_, b13.cell (i := 0) rfl, Keys_c a13 (by omega) fun KA n kc xs w19 e19 ks hk hn => ⟨_, _, _, rfl, ?_⟩⟩⟩
  have E19 := E13.trans e19
  have a19 := a13.ext0 e19
  have G19 := a19.g k11 (by omega) r11
  have hxl := ks.len
  have s2 := E5.size
  have z5 := e5.size
  have z11 := e11.size
  have z13 := e1113.size
  have z19 := e19.size
  have br19 : BlkT w19 W.heap.size [.bool false] 4 := (((b2.ext0 e5).ext0 e11).ext0 e1113).ext0 e19
  have bx19 : BlkT w19 w11.heap.size [.pointer (some ⟨x.q, 0, none⟩)] 26 := by simpa using b13.ext0 e19
  have oldr := br19.lt
  have oldx := bx19.lt
  refine ⟨fun t ds w' => ∃ a : Nat, t = a ∧ a ≤ n ∧ Ext [] w19 w' ∧ (∀ d ∈ ds, Mrk w' d ∧ w19.heap.size ≤ d) ∧ ds.Nodup, fun t _ => n - t.toNat, ⟨0, rfl, by omega, Ext.refl _ _, by simp, by simp⟩, ?_⟩
  rintro _ _ ds w25 ⟨a, rfl, ha, E25, mk25, nd25⟩
  refine sel_dec (fun hlt => ?_) (fun hge => ?_)
  · -- a key
    have hlt : a < n := by omega
    obtain ⟨key, hkey⟩ : ∃ key, xs[a]? = some key := ⟨xs[a]'(by omega), List.getElem?_eq_getElem (by omega)⟩
    obtain ⟨ad, hKA, hcell⟩ := key_cell (ks.ext0 E25) hkey
    have hcol : x.cols key ≠ none := (hk.mem key).1 (List.mem_of_getElem? hkey)
    have hne : key ≠ ByteArray.empty := fun e => by rw [e, k11.key] at hcol; exact hcol rfl
    rw [hKA]
    refine when_dec ⟨by omega, by omega⟩ (ptr_in ⟨_, hcell, fun w28 h28 => ?_⟩)
    obtain ⟨b28, x28, z28⟩ := box_new (cs := [.string ByteArray.empty]) h28
    obtain ⟨w29, hr29, b29, x29⟩ := store1 (P := Try.prog) (v := .string key) i9s b28 (i := 0) (by simp) rfl rfl
    have e2529 : Ext [] w25 w29 := x28.trans' x29 (fun b hb => .inr (by simp at hb; omega))
    have E29 := E25.trans e2529
    have z25 := E25.size
    have z29 := e2529.size
    have b29 : BlkT w29 w25.heap.size [.string key] 9 := by simpa using b29
    have lkb := b29.lt
    refine ⟨w29, hr29, fun w' => w' = w29.drew, ⟨fun t w' => t = false ∧ w' = w29.drew, ⟨_, b29.cell (i := 0) rfl, sel_false (by rw [beqBytes]; simp [hne]) (sel_dec (fun h0 => ?_) (fun _ => ⟨rfl, rfl⟩))⟩, ?_⟩, ?_⟩
    · have e1 : IntKind.wrap .i64 ((a : Int) - 1) = ((a - 1 : Nat) : Int) := by rw [w64 (by omega) (by omega)]; omega
      rw [e1]
      obtain ⟨pk, hpk⟩ : ∃ pk, xs[a - 1]? = some pk := ⟨xs[a - 1]'(by omega), List.getElem?_eq_getElem (by omega)⟩
      obtain ⟨ad', hKA', hcell'⟩ := key_cell (ks.ext0 E29) hpk
      rw [hKA] at hKA'
      cases hKA'
      refine when_dec ⟨by omega, by omega⟩ (ptr_in ⟨_, hcell', _, b29.cell (i := 0) rfl, ?_, rfl⟩)
      have hs : bs pk < bs key := by
        obtain ⟨h1, e1⟩ := List.getElem?_eq_some_iff.1 hpk
        obtain ⟨h2, e2⟩ := List.getElem?_eq_some_iff.1 hkey
        have := List.pairwise_iff_getElem.1 hk.strict (a - 1) a h1 h2 (by omega)
        rw [e1, e2] at this; exact this
      rw [less_eq]; simp [hs]
    · rintro _ _ _ ⟨rfl, rfl⟩
      exact sel_false rfl rfl
    rintro _ _ rfl w44 h44 w45 h45
    obtain ⟨b44, x44, z44⟩ := box_new (cs := [.int .i64 0]) h44
    obtain ⟨b45, x45, z45⟩ := box_new (cs := [.int .i64 0]) h45
    have z44 : w44.heap.size = w29.heap.size + 1 := z44
    obtain ⟨w46, hr46, b46, x46⟩ := store1 (P := Try.prog) (v := .int .i64 0) i3s (b44.ext0 x45) (i := 0) (by simp) rfl rfl
    obtain ⟨w47, hr47, b47, x47⟩ := store1 (P := Try.prog) (v := .int .i64 0) i3s (b45.ext x46 (by simp; show _ ≠ w29.heap.size; omega)) (i := 0) (by simp) rfl rfl
    have b44' : BlkT w47 w29.heap.size [.int .i64 0] 3 := by
      have := b46.ext x47 (by simp; show w29.heap.size ≠ _; omega)
      simpa using this
    have b45' : BlkT w47 w44.heap.size [.int .i64 0] 3 := by simpa using b47
    have x44 : Ext [] w29 w44 := x44.undrew
    have e2947 : Ext [] w29 w47 := ((x44.trans x45).trans' x46 (fun b hb => .inr (by simp at hb; rw [hb]; exact Nat.le_refl _))).trans' x47 (fun b hb => .inr (by simp at hb; omega))
    have E47 := E29.trans e2947
    have b47 := b29.ext0 e2947
    have z47 := e2947.size
    have G47 := G19.ext0 E47
    refine ⟨w46, hr46, w47, hr47, _, (bx19.ext0 E47).cell (i := 0) rfl, _, b47.cell (i := 0) rfl, Rows_c G47 key fun b0 RA rc rs w52 e52 K52 f52 tl => ⟨_, _, _, rfl, V.when_intro (by kernel_rfl) fun Rc l w55 hl h55 hy => ?_⟩⟩
    obtain ⟨l0, m0, x55, z55⟩ := enter_new hl h55
    have z52 := e52.size
    have e4755 := e52.trans x55
    have E55 := E47.trans e4755
    have K55 := K52.ext0 x55
    have okc := k11.colOf key
    have hrise : Rising rs := rising_tell tl okc.1.rise
    have htot : total rs = total (x.colOf key).rows := total_tell tl
    have l1 := b44'.lt
    have l2 := b45'.lt
    have c55 := b44'.ext0 e4755
    have d55 := b45'.ext0 e4755
    have bk55 := b47.ext0 e4755
    have nF : ∀ {g : Nat}, g ≠ w29.heap.size → g ≠ w44.heap.size → g ≠ l → g ∉ [w29.heap.size, w44.heap.size, l] := fun h1 h2 h3 => by simp; exact ⟨h1, h2, h3⟩
    have inF : ∀ b ∈ [w29.heap.size, w44.heap.size, l], w19.heap.size ≤ b := fun b hb => by simp at hb; rcases hb with rfl | rfl | rfl <;> omega
    have toE : ∀ w', Ext [w29.heap.size, w44.heap.size, l] w55 w' → Ext [] w19 w' := fun w' e => E55.trans' e (fun b hb => .inr (inF b hb))
    -- what a row tells
    have row : ∀ y ∈ rs, y.S.N = 200 ∧ (∃ i, y.S.mem i = true) ∧ ∀ i, y.S.mem i = true → x.val key (i : Int) = some y.n := fun y hyr => by
      obtain ⟨s, hs, e1, e2⟩ := mem_tell tl hyr
      have h1 := okc.1.size s hs
      obtain ⟨i, hi⟩ := okc.2 s hs
      rw [e2] at h1 hi
      refine ⟨h1.trans N11, ⟨i, hi⟩, fun j hj => ?_⟩
      rw [Ix.val_col]
      exact (okc.1.tell j y.n).2 ⟨s, hs, e1, by rw [e2]; exact hj⟩
    have has200 : ∀ S : SetV, S.Ok → S.N = x.N → (∀ i, S.mem i = true ↔ hasP x key i) → total rs = S.count := fun S _ hS hm => by
      rw [htot]
      refine total_count okc.1 hS fun i => ?_
      rw [hm i]
      unfold hasP
      rw [Ix.val_col]
    refine (Rows_iter (b0 := b0) (A := RA) (c := rc) (rs := rs) (by
      have h1 := G19.r.rows G19.few key
      have h2 := congrArg List.length tl
      simp at h2; omega)).range (I := fun ps w' => Ext [w29.heap.size, w44.heap.size, l] w55 w' ∧ BlkT w' w29.heap.size [.int .i64 (total ps : Int)] 3 ∧ BlkT w' w44.heap.size [.int .i64 (lastN ps)] 3) (Q := fun _ _ => False)
      (fun nn p W' R' g1 g2 => hy nn p W' R' g1 g2) l0 ⟨Ext.refl _ _, c55, d55⟩ ?_ (fun _ _ _ _ h => h.elim) ?_ ?_ ?_ (fun _ _ _ h => h.elim)
    · rintro ps w1 w2 e ⟨g1, g2, g3⟩
      exact ⟨g1.trans' e (fun b hb => .inl (by simp at hb; simp [hb])), g2.ext e (by simp; omega), g3.ext e (by simp; omega)⟩
    · rintro ps w1 ⟨g1, _, _⟩
      refine K55.ext g1 fun b hb => ?_
      have := f52 b hb
      exact nF (by omega) (by omega) (by omega)
    · -- a row
      rintro ps y rest w1 Wy p bw R' hsp ⟨g1, g2, g3⟩ hl1 hWy hp hbw sy hS k1 k2
      have hyr : y ∈ rs := by rw [hsp]; simp
      obtain ⟨y200, ⟨yi, hyi⟩, ytell⟩ := row y hyr
      have ypos := full_pos sy.ok hyi
      have xb0 := setLoop_ext Wy l Rc .busy none
      have hbusy : LoopSt (setLoop Wy l Rc .busy none) l Rc .busy none := setLoop_st _ _ (LoopSt.lt hS)
      have gW : Ext [w29.heap.size, w44.heap.size, l] w55 (setLoop Wy l Rc .busy none) := (g1.then hWy).trans' xb0 (fun b hb => .inl (by simp at hb; simp [hb]))
      have cW := (g2.ext0 hWy).ext xb0 (by simp; omega)
      have dW := (g3.ext0 hWy).ext xb0 (by simp; omega)
      have sW := sy.ext xb0 (by simp; omega) (by simp; omega)
      have zW : (setLoop Wy l Rc .busy none).heap.size = Wy.heap.size := setLoop_size _ _ _ _ _
      have exb : Ext [l] Wy (setLoop Wy l Rc .busy none) := xb0
      generalize setLoop Wy l Rc .busy none = Wb at hbusy gW cW dW sW zW exb ⊢
      have EW := toE Wb gW
      have z55W := gW.size
      have hsum : total ps + y.S.count ≤ 200 := by
        have h1 : total rs ≤ 200 := by
          have : ∀ S : SetV, S.Ok → S.N = 200 → S.count ≤ 200 := fun S _ hN => by
            have := rank_le S S.N
            unfold SetV.count
            omega
          obtain ⟨hbz⟩ : Nonempty True := ⟨trivial⟩
          rw [htot]
          have e : total (x.colOf key).rows = ((x.colOf key).rows.map fun r => r.S.rank 200).sum := by
            unfold total
            congr 1
            apply List.map_congr_left
            intro r hr
            unfold SetV.count
            rw [okc.1.size r hr, N11]
          rw [e, rank_sum okc.1.apart]
          have := List.countP_le_length (p := fun i => (x.colOf key).rows.any fun r => r.S.mem i) (l := List.range 200)
          simpa using this
        rw [hsp, total_app] at h1
        have : total (y :: rest) = y.S.count + total rest := by simp [total]
        omega
      refine ⟨hS, fun w' => w' = Wb, ⟨fun t w' => t = false ∧ w' = Wb, ⟨_, cW.cell (i := 0) rfl, sel_dec (fun h0 => ?_) (fun _ => Count_c sW.ref ⟨_, rfl, sel_false (by simp; omega) (Size_c sW.ref ⟨_, rfl, by rw [y200]; rfl, rfl⟩)⟩)⟩, ?_⟩, ?_⟩
      · have hps : ps ≠ [] := fun e => by subst e; simp [total] at h0
        have hlt2 := lastN_lt (by rw [← hsp]; exact hrise) hps
        exact ⟨_, dW.cell (i := 0) rfl, sel_dec (fun hle => by omega) (fun _ => Count_c sW.ref ⟨_, rfl, sel_false (by simp; omega) (Size_c sW.ref ⟨_, rfl, by rw [y200]; rfl, rfl⟩)⟩)⟩
      · rintro _ _ w' ⟨rfl, hw'⟩
        exact sel_false rfl hw'
      rintro _ w81 hw81
      rw [hw81]
      refine ⟨fun w' => Ext [] Wb w', ?_, ?_⟩
      · refine Members_c sW.ref fun MA mc w85 e85 mown => ⟨_, _, _, rfl, ?_⟩
        have hmc := own_cells mown
        have hcnt := count_le sW.ok
        refine ⟨fun t w' => ∃ a : Nat, t = a ∧ a ≤ y.S.count ∧ Ext [] w85 w', fun t _ => y.S.count - t.toNat, ⟨0, rfl, by omega, Ext.refl _ _⟩, ?_⟩
        rintro _ _ w90 ⟨a', rfl, ha', e90⟩
        refine sel_dec (fun hlt' => ?_) (fun _ => e85.trans e90)
        have hlt' : a' < y.S.count := by omega
        have hmi : y.S.mi[a']? = some (y.S.mi.getD a' 0) := by
          rw [List.getD_eq_getElem?_getD, List.getElem?_eq_getElem (by rw [mi_length]; omega)]; rfl
        obtain ⟨ad', hMA, hmcell⟩ := (hmc.ext0 e90) a' _ (ints_get (k := .i64) (by rw [mi_length]; omega))
        rw [hMA]
        obtain ⟨sl, hsl, hslm⟩ : ∃ sl : Nat, y.S.mi.getD a' 0 = (sl : Int) ∧ y.S.mem sl = true := by
          have := List.mem_of_getElem? hmi
          unfold SetV.mi at this
          obtain ⟨sl, h1, h2⟩ := List.mem_map.1 this
          exact ⟨sl, by unfold SetV.mi; exact h2.symm, (mem_members sW.ok sl).1 h1⟩
        have e90' := e85.trans e90
        have EE := EW.trans e90'
        refine when_dec ⟨by omega, by omega⟩ (ptr_in ⟨_, by rw [Int.toNat_natCast, Nat.mul_one]; exact hmcell, _, (bx19.ext0 EE).cell (i := 0) rfl, _, ((bk55.ext gW (nF (by omega) (by omega) (by omega))).ext0 e90').cell (i := 0) rfl, Get_c (G19.r.ext0 EE) key _ fun w98 e98 => ⟨_, _, rfl, ?_⟩⟩)
        have hv := ytell sl hslm
        rw [hsl, hv]
        refine ⟨fun t w' => t = false ∧ w' = w98, sel_false rfl ⟨by simp, rfl⟩, ?_⟩
        rintro _ _ _ ⟨rfl, rfl⟩
        refine sel_false rfl ?_
        rw [up64 a' (by omega)]
        exact ⟨⟨a' + 1, rfl, by omega, e90.trans e98⟩, by simp only [Int.toNat_natCast]; omega⟩
      · rintro _ w105 e105
        have cc := cW.ext0 e105
        have dd := dW.ext0 e105
        have ss := sW.ext0 e105
        refine ⟨fun w' => BlkT w' w29.heap.size [.int .i64 (total ps : Int)] 3, cc, _, fun w' h => h.cell (i := 0) rfl, Count_c (w := w105.drew) ss.drew.ref ⟨_, rfl, cc, ?_⟩⟩
        have cc' : BlkT w105.drew w29.heap.size [.int .i64 (total ps : Int)] 3 := cc
        have dd' : BlkT w105.drew w44.heap.size [.int .i64 (lastN ps)] 3 := dd
        obtain ⟨w112, hr112, b112, x112⟩ := store1 (P := Try.prog) (v := .int .i64 (IntKind.wrap .i64 ((total ps : Int) + (y.S.count : Int)))) i3s cc' (i := 0) (by simp) rfl rfl
        obtain ⟨w113, hr113, b113, x113⟩ := store1 (P := Try.prog) (v := .int .i64 y.n) i3s (dd'.ext x112 (by simp; omega)) (i := 0) (by simp) rfl rfl
        have c113 := b112.ext x113 (by simp; omega)
        have ew : IntKind.wrap .i64 ((total ps : Int) + (y.S.count : Int)) = ((total (ps ++ [y]) : Nat) : Int) := by
          rw [w64 (by omega) (by omega), total_snoc]; omega
        have ebig : Ext [w29.heap.size, w44.heap.size] Wb w113 := ((e105.drew.up).trans' x112 (F := [w29.heap.size, w44.heap.size]) (fun b hb => .inl (by simp at hb; simp [hb]))).trans' x113 (fun b hb => .inl (by simp at hb; simp [hb]))
        have l113 : LoopSt w113 l Rc .busy none := LoopSt.ext hbusy ebig (by simp; omega)
        refine ⟨w112, hr112, w113, hr113, _, c113.cell (i := 0) rfl, sel_dec (fun hgt => ?_) (fun _ => ⟨l113, k1 [w29.heap.size, w44.heap.size, l] w113 l113 (fun b hb => .inl ?_) ?_ ⟨gW.trans' ebig (fun b hb => .inl (by simp at hb; rcases hb with rfl | rfl <;> simp)), by rw [← ew]; simpa using c113, by rw [lastN_snoc]; simpa using b113⟩⟩)⟩
        · rw [ew] at hgt
          rw [total_snoc] at hgt; omega
        · have h1 := g2.lt
          have h2 := g3.lt
          simp at hb
          rcases hb with rfl | rfl | rfl
          · exact h1
          · exact h2
          · exact hl1
        · exact (exb.weaken (G := [w29.heap.size, w44.heap.size, l]) (fun b hb => .inl (by simp at hb; simp [hb]))).trans' ebig (fun b hb => .inl (by simp at hb; rcases hb with rfl | rfl <;> simp))
    · -- all rows
      rintro w118 hl118 ⟨g1, g2, g3⟩
      have xe := setLoop_ext w118 l Rc .exhausted none
      have gE : Ext [w29.heap.size, w44.heap.size, l] w55 (setLoop w118 l Rc .exhausted none) := g1.trans' xe (fun b hb => .inl (by simp at hb; simp [hb]))
      have cE := g2.ext xe (by simp; omega)
      refine .inl ⟨hl118, ?_⟩
      generalize setLoop w118 l Rc .exhausted none = We at gE cE ⊢
      have EE := toE We gE
      have bkE := bk55.ext gE (nF (by omega) (by omega) (by omega))
      have tpos : total rs ≠ 0 := by
        obtain ⟨C, hC⟩ : ∃ C, x.cols key = some C := by
          cases hq : x.cols key with
          | none => exact absurd hq hcol
          | some C => exact ⟨C, rfl⟩
        have hoC := k11.ok key C hC
        have hCe : x.colOf key = C := by unfold Ix.colOf; rw [hC]; rfl
        obtain ⟨⟨kk, vv⟩, tl', hof⟩ : ∃ p tl', C.of = p :: tl' := by
          cases hq : C.of with
          | nil => exact absurd hq hoC.2.2
          | cons p tl' => exact ⟨p, tl', rfl⟩
        have hg : mget C.of kk = some vv := by rw [hof]; simp [mget]
        obtain ⟨i, rfl, _⟩ := hoC.1.keys kk vv hg
        obtain ⟨r, hr, _, hm⟩ := (hoC.1.tell i vv).1 hg
        rw [htot, hCe]
        obtain ⟨u, v, e⟩ := List.append_of_mem hr
        rw [e, total_app]
        have hrS : r.S.Ok := ((a19.col key C hC).set r hr).ok
        have := full_pos hrS hm
        have : total (r :: v) = r.S.count + total v := by simp [total]
        omega
      have hz200 : total rs ≤ 65536 := by
        obtain ⟨C, hC⟩ : ∃ C, x.cols key = some C := by
          cases hq : x.cols key with
          | none => exact absurd hq hcol
          | some C => exact ⟨C, rfl⟩
        have e : total (x.colOf key).rows = ((x.colOf key).rows.map fun r => r.S.rank 200).sum := by
          unfold total
          congr 1
          apply List.map_congr_left
          intro r hr
          unfold SetV.count
          rw [okc.1.size r hr, N11]
        rw [htot, e, rank_sum okc.1.apart]
        have := List.countP_le_length (p := fun i => (x.colOf key).rows.any fun r => r.S.mem i) (l := List.range 200)
        simp at this; omega
      have dE : Ext [] We We.drew := (Ext.refl _ _).drew
      refine ⟨fun t w' => t = false ∧ Ext [] We w', ⟨fun w' => Ext [] We w', dE, _, fun w' e => (cE.ext0 e).cell (i := 0) rfl, sel_false (by simpa using tpos) ⟨_, fun w' e => (cE.ext0 e).cell (i := 0) rfl, _, fun w' e => (bx19.ext0 (EE.trans e)).cell (i := 0) rfl, _, fun w' e => (bkE.ext0 e).cell (i := 0) rfl, Has_c' (w := We.drew) ((G19.ext0 EE).ext0 dE) key fun p bw w128 S e128 _ _ H => ⟨_, rfl, dE.trans e128, Count_c H.set.ref ⟨_, rfl, dE.trans e128, ?_, dE.trans e128⟩⟩⟩⟩, ?_⟩
      · have := has200 S H.set.ok H.size H.mem
        rw [this]; simp
      · rintro _ _ w134 ⟨rfl, e134⟩
        refine sel_false rfl ?_
        rw [up64 a (by omega)]
        have gm : Ext [w29.heap.size, w44.heap.size, l] w55 w134 := gE.then e134
        refine ⟨⟨a + 1, rfl, by omega, EE.trans e134, fun d hd => ?_, ?_⟩, by simp only [Int.toNat_natCast]; omega⟩
        · rcases List.mem_cons.1 hd with rfl | hd
          · exact ⟨m0.ext gm (nF (by omega) (by omega) (by omega)), by omega⟩
          · have h1 := mk25 d hd
            have h2 := h1.1.lt
            exact ⟨(h1.1.ext ((e2529.trans e2947).trans e4755) (by simp)).ext gm (nF (by omega) (by omega) (by omega)), h1.2⟩
        · refine List.nodup_cons.2 ⟨fun hm => ?_, nd25⟩
          have := (mk25 _ hm).1.lt
          omega
  · -- the script's keys
    have : a = n := by omega
    subst this
    refine ⟨fun t w' => ∃ a : Nat, t = a ∧ a ≤ m ∧ Ext [] w25 w', fun t _ => m - t.toNat, ⟨0, rfl, by omega, Ext.refl _ _⟩, ?_⟩
    rintro _ _ w144 ⟨i, rfl, hi, e144⟩
    have E144 := E25.trans e144
    refine sel_dec (fun hlt => ?_) (fun hge => ?_)
    · have hlt : i < m := by omega
      obtain ⟨o, ad, hoa, rfl, rd⟩ := (ho.ext0 (E19.trans E144)).read (a := i) (by omega)
      refine when_dec ⟨by omega, by omega⟩ (ptr_in ⟨_, _, _, _, _, _, _, _, _, _, rd, fun w154 h154 => ?_⟩)
      obtain ⟨w155, hr155, b155, e155⟩ := op_box (o := o) h154
      have E155 := E144.trans e155
      refine ⟨w155, hr155, _, (bx19.ext0 E155).cell (i := 0) rfl, _, cadd b155 rfl, Has_c' (G19.ext0 E155) o.key fun p bw w160 S e160 _ _ H => ⟨_, rfl, Count_c H.set.ref ⟨_, rfl, ?_⟩⟩⟩
      have E160 := E155.trans e160
      have b160 := b155.ext0 e160
      have fin : (∃ a' : Nat, IntKind.wrap .i64 ((i : Int) + 1) = a' ∧ a' ≤ m ∧ Ext [] w25 w160) ∧ m - (IntKind.wrap .i64 ((i : Int) + 1)).toNat < m - (i : Int).toNat := by
        rw [up64 i (by omega)]
        exact ⟨⟨i + 1, rfl, by omega, (e144.trans e155).trans e160⟩, by simp only [Int.toNat_natCast]; omega⟩
      refine sel_dec (fun hpos => ?_) (fun _ => fin)
      have hin : o.key ∈ xs := by
        rw [hk.mem]
        intro hnone
        have : S.count = 0 := (count_zero H.set.ok).2 fun j => by
          cases hj : S.mem j with
          | false => rfl
          | true =>
            obtain ⟨v, hv⟩ := (H.mem j).1 hj
            unfold Ix.val at hv
            rw [hnone] at hv; cases hv
        omega
      refine ⟨fun t w' => t = true ∧ w' = w160, ⟨fun f t w' => ∃ a' : Nat, t = a' ∧ a' ≤ a ∧ w' = w160 ∧ (f = true ↔ o.key ∈ xs.take a'), fun _ t _ => a - t.toNat, ⟨0, rfl, by omega, rfl, by simp⟩, ?_⟩, ?_⟩
      · rintro f _ _ w170 ⟨a', rfl, ha', hw170, hf0⟩
        rw [hw170]
        refine sel_dec (fun hlt' => ?_) (fun hge' => ?_)
        · have hlt' : a' < a := by omega
          obtain ⟨kk, hkk⟩ : ∃ kk, xs[a']? = some kk := ⟨xs[a']'(by omega), List.getElem?_eq_getElem (by omega)⟩
          obtain ⟨ad', hKA, hcell⟩ := key_cell (ks.ext0 E160) hkk
          rw [hKA]
          have hstep : ∀ b : Bool, (b = true ↔ o.key ∈ xs.take (a' + 1)) → (∃ a'' : Nat, IntKind.wrap .i64 ((a' : Int) + 1) = a'' ∧ a'' ≤ a ∧ w160 = w160 ∧ (b = true ↔ o.key ∈ xs.take a'')) ∧ a - (IntKind.wrap .i64 ((a' : Int) + 1)).toNat < a - (a' : Int).toNat := fun b hb => by
            rw [up64 a' (by omega)]
            exact ⟨⟨a' + 1, rfl, by omega, rfl, hb⟩, by simp only [Int.toNat_natCast]; omega⟩
          refine when_dec ⟨by omega, by omega⟩ (ptr_in ⟨_, hcell, sel_intro (fun hf => hstep true ?_) (fun hf => ⟨_, cadd b160 rfl, hstep _ ?_⟩)⟩)
          · rw [snoc_at hkk]; simp [hf0.1 hf]
          · have hf1 : o.key ∉ xs.take a' := fun hm => by rw [hf0.2 hm] at hf; cases hf
            rw [snoc_at hkk, beqBytes, decide_eq_true_eq, List.mem_append]
            constructor
            · intro e; exact .inr (by simp [e])
            · rintro (h | h)
              · exact absurd h hf1
              · simp at h; exact h.symm
        · have : a' = a := by omega
          subst this
          rw [List.take_of_length_le (by omega)] at hf0
          exact ⟨hf0.2 hin, rfl⟩
      · rintro _ _ w176 ⟨rfl, hw⟩
        rw [hw]
        exact sel_false rfl fin
    · obtain ⟨w180, hr180, b180, x180⟩ := store1 (P := Try.prog) (v := .bool true) i4s (br19.ext0 E144) (i := 0) (by simp) rfl rfl
      refine ⟨w180, hr180, close_many (fun d hd => ?_) nd25 fun w181 x181 => ⟨_, (b180.ext x181 (fun hm => by have := (mk25 _ hm).2; omega)).cell (i := 0) rfl, k w181 ?_⟩⟩
      · have h1 := mk25 d hd
        exact (h1.1.ext e144 (by simp)).ext x180 (by simp; omega)
      · exact ((E19.trans E144).trans' x180 (fun b hb => .inr (by simp at hb; omega))).trans' x181 (fun b hb => .inr (by have := (mk25 b hb).2; have := E19.size; omega))
set_option maxRecDepth 100000 in
theorem orderedRows_lifted (os : Os) (started : os.Started) (H : Type) (enc : TypeId × Value → H) :
    ReturnsInHanded {} Try.checked os 4 .any (Rows.orderedRowsSpec.pre6 enc Try.prog Try.f4 Rows.orderedRowsRow.domain false) (Rows.orderedRowsSpec.post enc Try.prog Try.f4 false true false false) :=
  lift1 (C := Try.checked) (T := 22) (tb := 4) own (by kernel_rfl) Try.func4 (by kernel_rfl) (by kernel_rfl) Try.underlying4 rfl (fun _ _ => rfl) laidOut (by kernel_rfl) (of_decide_eq_true (by kernel_rfl)) os started H enc
    (fun W base v d p hok h hw => by
      obtain ⟨A, n, c, ops, rfl, ho⟩ := open_ops hok h hw
      exact orderedRows_c ho fun w' e => ⟨rfl, e.below⟩)
    (ChangeSpec.witness6 (enc := enc) (C := Try.checked) false ⟨#[], #[.slice none 0 0], []⟩ 8 (by kernel_rfl) (by kernel_rfl) (by kernel_rfl) (by kernel_rfl))
theorem orderedRows_holds : Rows.OrderedRowsSaid :=
  OpenClaim.holds_of_wide 4 Try.f4 rfl rfl rfl rfl rfl rfl rfl ⟨rfl, rfl, rfl, rfl, rfl⟩ rfl rfl rfl rfl rfl (by kernel_rfl) Try.func4 (by kernel_rfl)
    (of_decide_eq_true (by kernel_rfl)) (by unfold Func.isWrapper; first | (rw [if_pos (by decide +kernel)]; kernel_rfl) | (rw [if_neg (by decide +kernel)]; exact ⟨rfl, rfl⟩))
    (fun os started H enc _ => orderedRows_lifted os started H enc)
end Go.Proofs.Ytjlkdadafddodaa
