/- Posting: PostingRoad, the walk. -/
import Derived.Test.YtpipenkaaodlgaaDoorZ13
set_option linter.unusedVariables false
set_option linter.unusedSimpArgs false
namespace Go.Proofs.YtpipenkaaodlgaaDoor
open Go Go.V Go.B

def soleL : List Lab := [(⟨#[111, 110, 108, 121, 46, 104, 101, 114, 101]⟩, ⟨#[120]⟩)]
theorem sole_ok : (checkS soleL).2 = 0 := by decide +kernel
theorem nil_ok : (checkS []).2 = 0 := by decide +kernel
theorem sole_c {w : World} {A : Option Addr} {n c : Nat} {l : List Lab} (hc : Cells w A (LbL.flat l)) (hl : l.length = n) {R : Ending → World → Prop}
    (k : R (.returned (.bool (decide (l = soleL)))) w) : Calls Tryd.prog 27 #[.slice A n c] w R := by
  apply berthlaw07_sole_nf
  refine sel_intro (fun h => ?_) (fun h => ?_)
  · have h : n = 1 := by
      have h : ((n : Nat) : Int) = 1 := by simpa using h
      omega
    subst h
    obtain ⟨y, ad, hy, rfl, ry⟩ := Cells.row (L := LbL) hc hl (a := 0) (by omega)
    have hly : l = [y] := by
      match l, hl with
      | [z], _ => simp at hy; rw [hy]
    have r0 : w.cell? (Addr.add (Addr.add ad 0) 0) = some (.string y.1) := ry 0 _ rfl
    have r1 : w.cell? (Addr.add (Addr.add ad 0) 1) = some (.string y.2) := ry 1 _ rfl
    refine when_dec ⟨by omega, by omega⟩ (ptr_in ⟨_, r0, ?_⟩)
    rw [teq]
    refine sel_dec (fun h1 => when_dec ⟨by omega, by omega⟩ (ptr_in ⟨_, r1, ?_⟩)) (fun h1 => ?_)
    · rw [teq]
      have : decide (y.2 = (⟨#[120]⟩ : ByteArray)) = decide (l = soleL) := by
        rw [decide_eq_decide, hly]
        constructor
        · intro h2
          have : y = (⟨#[111, 110, 108, 121, 46, 104, 101, 114, 101]⟩, ⟨#[120]⟩) := Prod.ext h1 h2
          rw [this]; rfl
        · intro h2
          have : y = (⟨#[111, 110, 108, 121, 46, 104, 101, 114, 101]⟩, ⟨#[120]⟩) := by
            unfold soleL at h2
            injection h2
          rw [this]
      rw [this]; exact k
    · rw [decide_eq_false (fun h2 => h1 (by
        rw [hly] at h2
        unfold soleL at h2
        injection h2 with h3
        rw [h3]))] at k
      exact k
  · have h : n ≠ 1 := fun e => by rw [e] at h; simp at h
    rw [decide_eq_false (fun e => h (by rw [← hl, e]; rfl))] at k
    exact k
theorem okL_sz {l : List Lab} (h : OkL l) : ∀ z ∈ l, z.1.size ≤ 140737488351232 ∧ z.2.size ≤ 140737488351232 := fun z hz => by
  have h1 := key_len (h.key z hz)
  have h2 : (bs z.2).length ≤ 63 := by
    have hv := h.val z hz
    unfold valS at hv
    rw [Bool.or_eq_true] at hv
    rcases hv with h | h
    · rw [decide_eq_true_eq] at h; rw [h]; simp
    · simp only [Bool.and_eq_true, decide_eq_true_eq] at h; exact h.1
  rw [bs_len] at h1 h2
  exact ⟨by omega, by omega⟩
/-- What of f lies at the places of l. -/
def restr (f : LabF) (l : List Int) : LabF := fun j => if j ∈ l then f j else none
theorem count_del {S T : SetV} (hs : S.Ok) (ht : T.Ok) {m : Nat} (hm : T.mem m = true) (h : ∀ i, S.mem i = true ↔ T.mem i = true ∧ i ≠ m) : S.count + 1 = T.count := by
  rw [← members_length, ← members_length]
  have n1 : S.members.Nodup := List.nodup_range.filter _
  have n2 : T.members.Nodup := List.nodup_range.filter _
  have hno : m ∉ S.members := fun h1 => ((h m).1 ((mem_members hs m).1 h1)).2 rfl
  have := ((List.perm_ext_iff_of_nodup (l₁ := m :: S.members) (l₂ := T.members) (List.nodup_cons.2 ⟨hno, n1⟩) n2).2 fun i => by
    rw [List.mem_cons, mem_members hs, mem_members ht, h]
    constructor
    · rintro (rfl | h1)
      · exact hm
      · exact h1.1
    · intro h1
      by_cases e : i = m
      · exact .inl e
      · exact .inr ⟨h1, e⟩).length_eq
  simpa using this
theorem mi_nodup (S : SetV) : S.mi.Nodup := by
  unfold SetV.mi
  have n1 : S.members.Nodup := List.nodup_range.filter _
  rw [List.Nodup, List.pairwise_map]
  exact n1.imp fun hne e => hne (Int.ofNat_inj.1 e)
set_option maxRecDepth 4000 in
set_option maxHeartbeats 1000000 in
theorem postingRoad_c {w : World} {A : Option Addr} {n c : Nat} {ops : List POp} (ho : OpsAt w A n ops) {R : Ending → World → Prop} (k : ∀ w', Ext [] w w' → R (.returned (.bool true)) w') :
    Calls Tryd.prog 5 #[.slice A n c] w R := by
  apply berthlaw07_PostingRoad_nf
  refine play_c ho fun w4 F x e4 hF hx okx hNx _ => ⟨_, rfl, New_c (N := 300) (by omega) fun w8 G y e8 hG hy oky hNy hly => ⟨_, _, rfl, awake_c fun w11 e11 => ⟨_, rfl, sel_false rfl (sel_false rfl (sel_false rfl ?_))⟩⟩⟩
  have x11 := (hx.ext0 e8).ext0 e11
  have y11 := hy.ext0 e11
  refine Live_c (PxV.of x11 okx) fun p12 b12 w14 LV e14 _ _ sL hLN hLm => ⟨_, rfl, Members_c sL.ref fun A15 c15 w17 e17 own17 => ⟨_, _, _, rfl, ?_⟩⟩
  have hml := mi_length LV
  have hcl := count_le sL.ok
  have gb := own_base own17
  have x17 := (x11.ext0 e14).ext0 e17
  have y17 := (y11.ext0 e14).ext0 e17
  have E17 : Ext [] w w17 := (((e4.trans e8).trans e11).trans e14).trans e17
  have c17 := own_cells own17
  have z8 := e8.size
  have z11 := e11.size
  have z14 := e14.size
  have z17 := e17.size
  have hFG : ∀ b ∈ F, b ∉ G := fun b hb hm => by have := hx.lt b hb; have := hG b hm; omega
  have hGw : ∀ b ∈ G, w.heap.size ≤ b := fun b hb => by have := hG b hb; have := e4.size; omega
  have hAG : ∀ b ∈ ownF A15, b ∉ G := fun b hb hm => by have := gb b hb; have := hy.lt b hm; omega
  have hliv : ∀ m ∈ LV.mi, ∃ (s : Nat) (l : List Lab), m = (s : Int) ∧ s < 100 ∧ x.lab (s : Int) = some l ∧ OkL l := fun m hm => by
    obtain ⟨s, hs, rfl⟩ := List.mem_map.1 hm
    have h1 := (mem_members sL.ok s).1 hs
    rw [hLm] at h1
    cases hl : x.lab (s : Int) with
    | none => rw [hl] at h1; cases h1
    | some l =>
      obtain ⟨okl, j, hj, hjN⟩ := okx.lab _ _ hl
      exact ⟨s, l, rfl, by omega, hl, okl⟩
  have hnd := mi_nodup LV
  generalize hmi : LV.mi = mi at hml c17 hliv hnd
  generalize hcn : LV.count = cn at hml hcl c17 ⊢
  -- the slots' labels once more, from the highest down
  show ∃ I19 : Int → World → Prop, _
  rw [show IntKind.wrap .i64 (((cn : Nat) : Int) - 1) = ((cn : Nat) : Int) - 1 from w64 (by omega) (by omega)]
  refine ⟨fun t w' => ∃ b : Nat, t = (b : Int) - 1 ∧ b ≤ cn ∧ ∃ G' y', Chz w17 w' G G' y y' (restr x.lab (mi.drop b)), fun t _ => (t + 1).toNat, ⟨cn, rfl, Nat.le_refl _, G, y, by
    have : restr x.lab (mi.drop cn) = y.lab := by
      funext j
      rw [List.drop_of_length_le (by omega)]
      unfold restr
      rw [hly]; simp
    rw [this]
    exact Chz.refl y17 oky⟩, ?_⟩
  rintro _ _ w23 ⟨b, rfl, hb, G', y', ch⟩
  have hq : y'.q = y.q := ch.q
  have hN' : y'.N = 300 := ch.N.trans hNy
  have hx23 : PxAt w23 F x := x17.ext ch.ex hFG
  have c23 := c17.ext ch.ex hAG
  have E23 : Ext [] w w23 := E17.trans' ch.ex (fun b hb => .inr (hGw b hb))
  rw [← hq]
  refine sel_dec (fun hge => ?_) (fun hlt => ?_)
  · obtain ⟨i, rfl⟩ : ∃ i, b = i + 1 := ⟨b - 1, by omega⟩
    have hi1 : (((i + 1 : Nat) : Int) - 1) = (i : Int) := by omega
    rw [hi1]
    have wd : (0 : Int) ≤ (i : Int) ∧ (i : Int) < ((cn : Nat) : Int) := by omega
    obtain ⟨m, ad, hmi', hA, rm⟩ := ints_at c23 hml (a := i) (by omega)
    subst hA
    obtain ⟨s, l, rfl, hs, hl, okl⟩ := hliv m (List.mem_of_getElem? hmi')
    have rdm : ∀ {w'}, Ext G' w23 w' → w'.cell? (Addr.add ad (Int.toNat (i : Int) * 1)) = some (.int .i64 (s : Int)) := fun {w'} e => by
      have hA' : ∀ b ∈ ownF (some ad), b ∉ G' := fun b hb hm => by
        rcases ch.gr b hm with h1 | h1
        · exact hAG b hb h1
        · have := gb b hb; omega
      obtain ⟨m', ad', h1, h2, h3⟩ := ints_at (c23.ext e hA') hml (a := i) (by omega)
      rw [hmi'] at h1
      cases h1; cases h2
      exact h3
    refine when_dec wd (ptr_in ⟨_, rm, Of_c (PxV.of hx23 okx) (s : Int) fun A26 n26 c26 w29 e29 own29 => ⟨_, _, _, _, rfl, when_dec wd (ptr_in ⟨_, rdm e29.up, ?_⟩)⟩⟩)
    rw [hl] at own29
    have hn26 : l.length = n26 := own29.len
    have gb29 := own29.base
    have hll := okl.len
    have ch29 := ch.ext0 e29
    have hnil : ∀ W : World, LIn W none 0 [] := fun W => ⟨Cells.nil _ _, rfl, by simp, by omega⟩
    have hdrop : mi.drop i = (s : Int) :: mi.drop (i + 1) := by
      obtain ⟨h1, h2⟩ := List.getElem?_eq_some_iff.1 hmi'
      rw [List.drop_eq_getElem_cons h1, h2]
    have hnot : (s : Int) ∉ mi.drop (i + 1) := fun hm => by
      have h1 : (mi.drop i).Nodup := hnd.sublist (List.drop_sublist _ _)
      rw [hdrop, List.nodup_cons] at h1
      exact h1.1 hm
    have hl29 := ch29.labf
    have p0 : putE y'.N y'.lab (s : Int) [] = 0 := by
      unfold putE
      rw [hN', if_neg (by omega), hl29]
      unfold restr
      rw [if_neg hnot, if_neg (by simp)]
      exact nil_ok
    refine Put_c ch29.at_ ch29.ok (s : Int) (hnil _) (by simp [ownF]) fun w34 G2 y2 ch2 => ⟨_, rfl, ?_⟩
    rw [p0] at ch2 ⊢
    have hl2 := ch2.labf
    have s0 : setE y2.N y2.lab (s : Int) l = 0 := by
      unfold setE
      rw [ch2.N.trans hN', if_neg (by omega), hl2]
      have : (updL y'.lab 0 (s : Int) (some []) (s : Int)).isSome = true := by unfold updL; rw [if_pos ⟨rfl, rfl⟩]; rfl
      rw [if_pos this]
      exact checkS_zero.2 okl
    have hA26 : ∀ b ∈ ownF A26, b ∉ G' := fun b hb hm => by have := gb29 b hb; have := ch.at_.lt b hm; omega
    rw [← ch2.q]
    refine when_dec wd (ptr_in ⟨_, rdm (e29.up.trans ch2.ex), Set_c ch2.at_ ch2.ok (s : Int) (l := l) ⟨own29.cells.ext ch2.ex hA26, hn26, ?_, by omega⟩ (fun b hb hm => ?_) (fun b hb => by have := gb29 b hb; have := ch2.ex.size; omega) fun w39 G3 y3 ch3 => ⟨_, rfl, num_c _ ⟨_, rfl, sel_false rfl (num_c _ ⟨_, rfl, ?_⟩)⟩⟩⟩)
    · exact okL_sz okl
    · rcases ch2.gr b hm with h1 | h1
      · exact hA26 b hb h1
      · have := gb29 b hb; omega
    · rw [s0] at ch3 ⊢
      have c39 := (ch29.then ch2).then ch3
      refine sel_false rfl ?_
      rw [show IntKind.wrap .i64 ((i : Int) - 1) = (i : Int) - 1 from w64 (by omega) (by omega)]
      refine ⟨⟨i, rfl, by omega, G3, y3, ?_⟩, by show ((i : Int) - 1 + 1).toNat < ((i : Int) + 1).toNat; omega⟩
      have : updL y2.lab 0 (s : Int) (some l) = restr x.lab (mi.drop i) := by
        funext j
        rw [hl2, hl29]
        unfold updL restr
        rw [hdrop]
        by_cases e : j = (s : Int)
        · subst e
          rw [if_pos ⟨rfl, rfl⟩, if_pos (by simp), hl]
        · rw [if_neg (fun h => e h.2), if_neg (fun h => e h.2)]
          have : (j ∈ (s : Int) :: mi.drop (i + 1)) ↔ j ∈ mi.drop (i + 1) := by
            rw [List.mem_cons]
            exact ⟨fun h => h.resolve_left e, .inr⟩
          by_cases e2 : j ∈ mi.drop (i + 1)
          · rw [if_pos e2, if_pos (this.2 e2)]
          · rw [if_neg e2, if_neg (fun h => e2 (this.1 h))]
      rw [this] at c39
      exact c39
  · have hb0 : b = 0 := by omega
    subst hb0
    have hfull : restr x.lab (mi.drop 0) = x.lab := by
      funext j
      rw [List.drop_zero]
      unfold restr
      cases hl : x.lab j with
      | none => simp
      | some l =>
        obtain ⟨_, s, rfl, _⟩ := okx.lab j l hl
        have : (s : Int) ∈ mi := by
          rw [← hmi]
          exact List.mem_map.2 ⟨s, (mem_members sL.ok s).2 (by rw [hLm, hl]; rfl), rfl⟩
        rw [if_pos this]
    rw [hfull] at ch
    have hlab' : y'.lab = x.lab := ch.labf
    have vx := PxV.of hx23 okx
    have vy := PxV.of ch.at_ ch.ok
    refine Same_c vx vy fun t w48 e48 ht => ⟨_, rfl, sel_false (by rw [ht.2 fun i => by rw [hlab']]; rfl) ?_⟩
    refine Same_c (vy.ext0 e48) (vx.ext0 e48) fun t w51 e51 ht => ⟨_, rfl, sel_false (by rw [ht.2 fun i => by rw [hlab']]; rfl) ?_⟩
    have E51 := e48.trans e51
    refine Keys_c (vx.ext0 E51) fun A52 n52 c52 k1 w54 e54 own54 hk1 hn1 => ⟨_, _, _, rfl, Keys_c ((vy.ext0 E51).ext0 e54) fun A55 n55 c55 k2 w57 e57 own57 hk2 hn2 => ⟨_, _, _, rfl, ?_⟩⟩
    refine SameTexts_c (own54.ext0 e57).cells own54.len own57.cells own57.len (by omega) fun w60 e60 => ⟨_, rfl, sel_false (by rw [decide_eq_true (keysP_eq hk1 hk2 hlab'.symm)]; rfl) ?_⟩
    have E60 := ((E51.trans e54).trans e57).trans e60
    refine Keys_c (vx.ext0 E60) fun A61 n61 c61 ks w63 e63 own63 hks hn61 => ⟨_, _, _, rfl, ?_⟩
    have E63 := E60.trans e63
    have hkl := own63.len
    refine ⟨fun t w' => ∃ a : Nat, t = a ∧ a ≤ n61 ∧ Ext [] w63 w', fun t _ => n61 - t.toNat, ⟨0, rfl, by omega, Ext.refl _ _⟩, ?_⟩
    rintro _ _ w68 ⟨a, rfl, ha, e68⟩
    refine sel_dec (fun hlt2 => ?_) (fun hge2 => ?_)
    · have d68 : Ext [] w68 w68.drew := (Ext.refl _ _).drew
      have Ed := (E63.trans e68).trans d68
      have cd := ((own63.cells.ext0 e68).ext0 d68)
      have vxd := vx.ext0 Ed
      have vyd := vy.ext0 Ed
      generalize w68.drew = w69 at d68 Ed cd vxd vyd ⊢
      have wd : (0 : Int) ≤ (a : Int) ∧ (a : Int) < ((n61 : Nat) : Int) := by omega
      obtain ⟨key, ad, hka, hA, _⟩ := text_at cd hkl (a := a) (by omega)
      subst hA
      have rk : ∀ w', Ext [] w69 w' → w'.cell? (Addr.add ad (Int.toNat (a : Int) * 1)) = some (.string key) := fun w' e => by
        obtain ⟨u, ad', h1, h2, h3⟩ := text_at (cd.ext0 e) hkl (a := a) (by omega)
        rw [hka] at h1
        cases h1; cases h2
        exact h3
      refine ⟨fun w' => Ext [] w69 w', Ext.refl _ _, when_dec wd (ptr_in ⟨_, rk, when_dec wd (ptr_in ⟨_, rk, ?_⟩)⟩)⟩
      refine HasP_c vxd key fun p75 b75 w77 H1 e77 _ _ sH1 hH1N hH1m => ⟨_, rfl, e77, HasP_c (vyd.ext0 e77) key fun p78 b78 w80 H2 e80 _ _ sH2 hH2N hH2m => ⟨_, rfl, e77.trans e80, ?_⟩⟩
      refine Equal_c (sH1.ext0 e80).ref sH2.ref fun t ht => ⟨_, rfl, e77.trans e80, sel_false (by rw [ht.2 fun i => by rw [Bool.eq_iff_iff, hH1m, hH2m, hlab']]; rfl) ?_⟩
      have E80 := e77.trans e80
      refine when_dec wd (ptr_in ⟨_, rk, when_dec wd (ptr_in ⟨_, rk, ?_⟩)⟩)
      refine Values_c (vxd.ext0 E80) key fun A88 n88 c88 v1 w90 e90 own90 hv1 hn88 => ⟨_, _, _, rfl, E80.trans e90, Values_c ((vyd.ext0 E80).ext0 e90) key fun A91 n91 c91 v2 w93 e93 own93 hv2 hn91 => ⟨_, _, _, rfl, (E80.trans e90).trans e93, ?_⟩⟩
      refine SameTexts_c (own90.ext0 e93).cells own90.len own93.cells own93.len (by omega) fun w96 e96 => ⟨_, rfl, ((E80.trans e90).trans e93).trans e96, sel_false (by rw [decide_eq_true (valsP_eq hv1 hv2 hlab'.symm)]; rfl) ?_⟩
      rw [up64 a (by omega)]
      exact ⟨⟨a + 1, rfl, by omega, ((e68.trans d68).trans ((E80.trans e90).trans e93)).trans e96⟩, by simp only [Int.toNat_natCast]; omega⟩
    · have E68 := E63.trans e68
      have ch68 := ch.ext0 E68
      have hx68 := hx23.ext0 E68
      have c68 := c23.ext0 E68
      have E068 := E23.trans E68
      refine sel_intro (fun h0 => ?_) (fun h0 => ?_)
      · have h0 : cn = 0 := by
          have h0 : ((cn : Nat) : Int) = 0 := by simpa using h0
          omega
        have hno : ∀ i, x.lab i = none := fun i => by
          cases hl : x.lab i with
          | none => rfl
          | some l =>
            obtain ⟨_, s, rfl, _⟩ := okx.lab i l hl
            have : (s : Int) ∈ mi := by
              rw [← hmi]
              exact List.mem_map.2 ⟨s, (mem_members sL.ok s).2 (by rw [hLm, hl]; rfl), rfl⟩
            rw [List.length_eq_zero_iff.1 (hml.trans h0)] at this
            cases this
        refine Same_c (PxV.of hx68 okx) (nilX_v w68) fun t w99 e99 ht => ⟨_, rfl, sel_true (ht.2 fun i => by rw [hno]; rfl) ?_⟩
        refine Drop_c (hx68.ext0 e99) okx 0 fun w102 F' x' ch' => ⟨_, rfl, num_c _ ⟨_, rfl, ?_⟩⟩
        have hd : dropE x.N x.lab 0 = 71 := by
          unfold dropE
          rw [hNx, if_neg (by omega), hno]; rfl
        rw [hd]
        exact k w102 ((E068.trans e99).trans' ch'.ex (fun b hb => .inr (by have := hF b hb; omega)))
      · have h0 : 0 < cn := by
          have h0 : ((cn : Nat) : Int) ≠ 0 := by simpa using h0
          omega
        obtain ⟨m, ad, hm0, hA, rm⟩ := ints_at c68 hml (a := 0) h0
        subst hA
        obtain ⟨s, l, rfl, hs, hl, okl⟩ := hliv m (List.mem_of_getElem? hm0)
        have wd : (0 : Int) ≤ 0 ∧ (0 : Int) < ((cn : Nat) : Int) := by omega
        have vy68 := vy.ext0 E68
        refine when_dec wd (ptr_in ⟨_, rm, Of_c vy68 (s : Int) fun A108 n108 c108 w111 e111 own111 => ⟨_, _, _, _, rfl, ?_⟩⟩)
        rw [hlab', hl] at own111
        have hn108 : l.length = n108 := own111.len
        have gb111 := own111.base
        have hll := okl.len
        have c0 : Chz w111 w111 G' G' y' y' y'.lab := Chz.refl (ch68.at_.ext0 e111) ch68.ok
        have hgw : ∀ b ∈ G', w.heap.size ≤ b := fun b hb => by
          rcases ch.gr b hb with h1 | h1
          · exact hGw b h1
          · have := E17.size; omega
        have hFG' : ∀ b ∈ F, b ∉ G' := fun b hb hm => by
          rcases ch.gr b hm with h1 | h1
          · exact hFG b hb h1
          · have := x17.lt b hb; omega
        have hA15 : ∀ b ∈ ownF (some ad), b ∉ G' := fun b hb hm => by
          rcases ch.gr b hm with h1 | h1
          · exact hAG b hb h1
          · have := gb b hb; omega
        have hA108 : ∀ b ∈ ownF A108, b ∉ G' := fun b hb hm => by have := gb111 b hb; have := ch68.at_.lt b hm; omega
        have hx111 := hx68.ext0 e111
        have c111 := c68.ext0 e111
        have E111 := E068.trans e111
        -- what stands at each later point
        have rdK : ∀ {wK : World} {GK : List Nat} {yK : Px} {f : LabF}, Chz w111 wK G' GK y' yK f → wK.cell? (Addr.add ad 0) = some (.int .i64 (s : Int)) ∧ LIn wK A108 n108 l ∧ (∀ b ∈ ownF A108, b ∉ GK) ∧ (∀ b ∈ ownF A108, b < wK.heap.size) ∧ PxV wK (some ⟨x.q, 0, none⟩) x ∧ yK.N = 300 ∧ yK.lab = f ∧ PxV wK (some ⟨yK.q, 0, none⟩) yK ∧ Ext [] w wK := fun {wK GK yK f} cK => by
          have zK := cK.ex.size
          refine ⟨?_, ⟨own111.cells.ext cK.ex hA108, hn108, okL_sz okl, by omega⟩, fun b hb hm => ?_, fun b hb => by have := gb111 b hb; omega, PxV.of (hx111.ext cK.ex hFG') okx, cK.N.trans hN', cK.labf, PxV.of cK.at_ cK.ok, E111.trans' cK.ex (fun b hb => .inr (hgw b hb))⟩
          · obtain ⟨m', ad', h1, h2, h3⟩ := ints_at (c111.ext cK.ex hA15) hml (a := 0) h0
            rw [hm0] at h1
            cases h1; cases h2
            exact h3
          · rcases cK.gr b hm with h1 | h1
            · exact hA108 b hb h1
            · have := gb111 b hb; omega
        -- the slot goes
        refine when_dec wd (ptr_in ⟨_, (rdK c0).1, Drop_c c0.at_ c0.ok (s : Int) fun w116 G1 y1 ch1 => ⟨_, rfl, ?_⟩⟩)
        have hd1 : dropE y'.N y'.lab (s : Int) = 0 := by
          unfold dropE
          rw [hN', if_neg (by omega), hlab', hl]; rfl
        rw [hd1, hlab'] at ch1
        have c1 := c0.then ch1
        have r1 := rdK c1
        have f1 : ∀ i, y1.lab i = if i = (s : Int) then none else x.lab i := fun i => by
          rw [r1.2.2.2.2.2.2.1]
          unfold updL
          by_cases e : i = (s : Int)
          · rw [if_pos ⟨rfl, e⟩, if_pos e]
          · rw [if_neg (fun h => e h.2), if_neg e]
        rw [← ch1.q]
        refine Same_c r1.2.2.2.2.1 r1.2.2.2.2.2.2.2.1 fun t w119 e119 ht => ⟨_, rfl, sel_false ?_ ?_⟩
        · cases t with
          | false => rfl
          | true =>
            have := ht.1 rfl (s : Int)
            rw [f1, if_pos rfl, hl] at this
            cases this
        have c2 := c1.ext0 e119
        refine Live_c (r1.2.2.2.2.2.2.2.1.ext0 e119) fun p120 b120 w122 S e122 _ _ sS hSN hSm => ⟨_, rfl, Count_c sS.ref ⟨_, rfl, ?_⟩⟩
        have hLs : LV.mem s = true := by rw [hLm, hl]; rfl
        have hcd := count_del (S := S) (T := LV) sS.ok sL.ok hLs fun i => by
          rw [hSm, hLm, f1]
          by_cases e : i = s
          · subst e; simp
          · have e' : ¬ ((i : Int) = (s : Int)) := by omega
            rw [if_neg e']
            exact ⟨fun h => ⟨h, e⟩, fun h => h.1⟩
        rw [hcn] at hcd
        refine sel_false (by
          have : ((S.count : Nat) : Int) = ((cn : Nat) : Int) - 1 := by omega
          rw [this]; simp) ?_
        have c3 := c2.ext0 e122
        have r3 := rdK c3
        refine when_dec wd (ptr_in ⟨_, r3.1, Set_c c3.at_ c3.ok (s : Int) r3.2.1 r3.2.2.1 r3.2.2.2.1 fun w130 G4 y4 ch4 => ⟨_, rfl, num_c _ ⟨_, rfl, ?_⟩⟩⟩)
        have hs4 : setE y1.N y1.lab (s : Int) l = 71 := by
          unfold setE
          rw [r3.2.2.2.2.2.1, if_neg (by omega), f1, if_pos rfl]; rfl
        rw [hs4] at ch4 ⊢
        rw [updL_no (by decide)] at ch4
        have c4 := c3.then ch4
        have r4 := rdK c4
        rw [← ch4.q]
        refine sel_false rfl (when_dec wd (ptr_in ⟨_, r4.1, fun w136 h136 => ?_⟩))
        obtain ⟨b136, x136, z136⟩ := box_new (cs := [.string ⟨#[111, 110, 108, 121, 46, 104, 101, 114, 101]⟩, .string ⟨#[120]⟩]) h136
        have c5 := c4.ext0 x136
        have hin : LIn w136 (some ⟨w130.heap.size, 0, none⟩) 1 soleL := ⟨Cells.of_blk b136.blk, rfl, fun z hz => by
          simp only [soleL, List.mem_singleton] at hz
          subst hz
          exact ⟨by decide, by decide⟩, by omega⟩
        have f4 : y4.lab = y1.lab := ch4.labf
        refine Put_c c5.at_ c5.ok (s : Int) hin (fun b hb hm => by have := c4.at_.lt b hm; simp [ownF] at hb; omega) fun w139 G6 y6 ch6 => ⟨_, rfl, ?_⟩
        have hp6 : putE y4.N y4.lab (s : Int) soleL = 0 := by
          unfold putE
          rw [r4.2.2.2.2.2.1, if_neg (by omega), f4, f1, if_pos rfl, if_neg (by simp)]
          exact sole_ok
        rw [hp6, f4] at ch6
        have c6 := c5.then ch6
        have r6 := rdK c6
        have f6 : ∀ i, y6.lab i = if i = (s : Int) then some soleL else x.lab i := fun i => by
          rw [r6.2.2.2.2.2.2.1]
          unfold updL
          by_cases e : i = (s : Int)
          · rw [if_pos ⟨rfl, e⟩, if_pos e]
          · rw [if_neg (fun h => e h.2), if_neg e, f1, if_neg e]
        rw [← ch6.q]
        refine Same_c r6.2.2.2.2.1 r6.2.2.2.2.2.2.2.1 fun t w142 e142 ht => ⟨_, rfl, ?_⟩
        have c7 := c6.ext0 e142
        have r7 := rdK c7
        refine sole_c r7.2.1.c hn108 ⟨_, rfl, sel_false ?_ ?_⟩
        · have : t = decide (l = soleL) := by
            rw [Bool.eq_iff_iff, ht, decide_eq_true_eq]
            constructor
            · intro h
              have := h (s : Int)
              rw [f6, if_pos rfl, hl] at this
              injection this
            · intro h i
              rw [f6]
              by_cases e : i = (s : Int)
              · rw [if_pos e, e, hl, h]
              · rw [if_neg e]
          rw [this]
          cases decide (l = soleL) <;> rfl
        refine when_dec wd (ptr_in ⟨_, r7.1, Set_c c7.at_ c7.ok (s : Int) r7.2.1 r7.2.2.1 r7.2.2.2.1 fun w150 G8 y8 ch8 => ⟨_, rfl, ?_⟩⟩)
        have hs8 : setE y6.N y6.lab (s : Int) l = 0 := by
          unfold setE
          have : (y6.lab (s : Int)).isSome = true := by rw [f6, if_pos rfl]; rfl
          rw [r7.2.2.2.2.2.1, if_neg (by omega), if_pos this]
          exact checkS_zero.2 okl
        rw [hs8] at ch8
        have c8 := c7.then ch8
        have r8 := rdK c8
        have f8 : ∀ i, y8.lab i = x.lab i := fun i => by
          rw [r8.2.2.2.2.2.2.1]
          unfold updL
          by_cases e : i = (s : Int)
          · rw [if_pos ⟨rfl, e⟩, e, hl]
          · rw [if_neg (fun h => e h.2), f6, if_neg e]
        rw [← ch8.q]
        refine Same_c r8.2.2.2.2.1 r8.2.2.2.2.2.2.2.1 fun t w153 e153 ht => ⟨_, rfl, sel_true (ht.2 fun i => (f8 i).symm) ?_⟩
        have c9 := c8.ext0 e153
        have r9 := rdK c9
        refine when_dec wd (ptr_in ⟨_, r9.1, Put_c c9.at_ c9.ok (s : Int) r9.2.1 r9.2.2.1 fun w158 G10 y10 ch10 => ⟨_, rfl, num_c _ ⟨_, rfl, ?_⟩⟩⟩)
        have hp10 : putE y8.N y8.lab (s : Int) l = 70 := by
          unfold putE
          have : (y8.lab (s : Int)).isSome = true := by rw [f8, hl]; rfl
          rw [r9.2.2.2.2.2.1, if_neg (by omega), if_pos this]
        rw [hp10] at ch10 ⊢
        exact k w158 (rdK (c9.then ch10)).2.2.2.2.2.2.2.2
end Go.Proofs.YtpipenkaaodlgaaDoor
