/- Posting: PostingSets, the walk. -/
import Derived.Test.YtpipenkaaodlgaaDoorZ12
set_option linter.unusedVariables false
set_option linter.unusedSimpArgs false
namespace Go.Proofs.YtpipenkaaodlgaaDoor
open Go Go.V Go.B

def labsAt (f : LabF) (i : Nat) : List Lab := (f (i : Int)).getD []
def total (f : LabF) (M : Nat) : Nat := ((List.range M).map fun i => (labsAt f i).length).sum
open Classical in
noncomputable def cntK (f : LabF) (M : Nat) (k : ByteArray) : Nat := ((List.range M).filter fun i => decide (k ∈ keys (labsAt f i))).length
theorem total_succ (f : LabF) (M : Nat) : total f (M + 1) = total f M + (labsAt f M).length := by
  unfold total
  rw [List.range_succ, List.map_append, List.sum_append]
  simp
open Classical in
theorem cntK_succ (f : LabF) (M : Nat) (k : ByteArray) : cntK f (M + 1) k = cntK f M k + if k ∈ keys (labsAt f M) then 1 else 0 := by
  unfold cntK
  rw [List.range_succ, List.filter_append, List.length_append]
  congr 1
  by_cases h : k ∈ keys (labsAt f M) <;> simp [h]
theorem sum_ite (ks : List ByteArray) (p : ByteArray → Prop) [DecidablePred p] : (ks.map fun k => if p k then 1 else 0).sum = (ks.filter fun k => decide (p k)).length := by
  induction ks with
  | nil => rfl
  | cons k ks ih =>
    rw [List.map_cons, List.sum_cons, ih]
    by_cases h : p k
    · simp [h]; omega
    · simp [h]
theorem sum_add (ks : List ByteArray) (a b : ByteArray → Nat) : (ks.map fun k => a k + b k).sum = (ks.map a).sum + (ks.map b).sum := by
  induction ks with
  | nil => rfl
  | cons k ks ih => simp only [List.map_cons, List.sum_cons, ih]; omega
open Classical in
/-- Counted by slots and by keys. -/
theorem double {f : LabF} {ks : List ByteArray} (hk : ks.Nodup) (hn : ∀ i, (keys (labsAt f i)).Nodup) (hin : ∀ i, ∀ k ∈ keys (labsAt f i), k ∈ ks) : ∀ M, total f M = (ks.map (cntK f M)).sum
  | 0 => by
    have z : ∀ l : List ByteArray, (l.map (cntK f 0)).sum = 0 := fun l => by
      induction l with
      | nil => rfl
      | cons a l ih =>
        rw [List.map_cons, List.sum_cons, ih]
        simp [cntK]
    rw [z]; rfl
  | M + 1 => by
    rw [total_succ, double hk hn hin M]
    have e : (ks.map (cntK f (M + 1))) = ks.map fun k => cntK f M k + if k ∈ keys (labsAt f M) then 1 else 0 := List.map_congr_left fun k _ => cntK_succ f M k
    rw [e, sum_add, sum_ite]
    congr 1
    have hp : (ks.filter fun k => decide (k ∈ keys (labsAt f M))).Perm (keys (labsAt f M)) := (List.perm_ext_iff_of_nodup (hk.filter _) (hn M)).2 fun k => by
      rw [List.mem_filter, decide_eq_true_eq]
      exact ⟨fun h => h.2, fun h => ⟨hin M k h, h⟩⟩
    rw [hp.length_eq]
    simp [keys]
theorem total_le {f : LabF} (h : ∀ i, (labsAt f i).length ≤ 32) : ∀ M, total f M ≤ M * 32
  | 0 => by simp [total]
  | M + 1 => by
    rw [total_succ]
    have := total_le h M
    have := h M
    omega
theorem PxOk.labs {x : Px} (ok : PxOk x) (i : Nat) : (labsAt x.lab i).length ≤ 32 ∧ (keys (labsAt x.lab i)).Nodup := by
  unfold labsAt
  cases h : x.lab (i : Int) with
  | none => simp [keys]
  | some l => exact ⟨(ok.lab _ _ h).1.len, (ok.lab _ _ h).1.ris.nodup⟩
theorem set_has {x : Px} (ok : PxOk x) {S : SetV} (hm : ∀ i : Nat, S.mem i = (x.lab (i : Int)).isSome) (i : Int) : S.has i = (x.lab i).isSome := by
  rw [← ok.has]
  unfold SetV.has
  rw [hm, ← ok.has, SetV.has_nat]
theorem labsAt_end {x : Px} (ok : PxOk x) {i : Nat} (h : x.N ≤ i) : labsAt x.lab i = [] := by
  unfold labsAt
  cases hl : x.lab (i : Int) with
  | none => rfl
  | some l =>
    obtain ⟨_, j, hj, hjN⟩ := ok.lab _ _ hl
    omega
theorem mem_labsAt {f : LabF} {i : Nat} {k : ByteArray} : k ∈ keys (labsAt f i) ↔ ∃ l, f (i : Int) = some l ∧ ∃ v, (k, v) ∈ l := by
  unfold labsAt keys
  rw [List.mem_map]
  cases f (i : Int) with
  | none => simp
  | some l =>
    constructor
    · rintro ⟨y, hy, rfl⟩; exact ⟨l, rfl, y.2, hy⟩
    · rintro ⟨l', h, v, hv⟩; cases h; exact ⟨_, hv, rfl⟩
set_option maxRecDepth 4000 in
theorem postingSets_c {w : World} {A : Option Addr} {n c : Nat} {ops : List POp} (ho : OpsAt w A n ops) {R : Ending → World → Prop} (k : ∀ w', Ext [] w w' → R (.returned (.bool true)) w') :
    Calls Tryd.prog 4 #[.slice A n c] w R := by
  apply berthlaw07_PostingSets_nf
  refine play_c ho fun w4 F x e4 hF hx ok hN hlab => ⟨_, rfl, ?_⟩
  have v4 := PxV.of hx ok
  generalize hq : (some ⟨x.q, 0, none⟩ : Option Addr) = q at v4 ⊢
  have hq0 : q.isNone = false := by rw [← hq]; rfl
  refine ⟨fun t w' => t = false ∧ Ext [] w4 w', ⟨fun t w' => t = false ∧ Ext [] w4 w', awake_c fun w9 e9 => ⟨_, rfl, sel_false rfl ⟨hq0, e9⟩⟩, ?_⟩, ?_⟩
  · rintro _ _ w12 ⟨rfl, e12⟩
    exact sel_false rfl ⟨rfl, e12⟩
  rintro _ _ w15 ⟨rfl, e15⟩
  have E15 := e4.trans e15
  refine Live_c (v4.ext0 e15) fun p16 b16 w18 LV e18 _ _ sL hLN hLm => ⟨_, rfl, sel_false rfl ?_⟩
  have v18 := (v4.ext0 e15).ext0 e18
  have E18 := E15.trans e18
  have hlen := fun i => (ok.labs i).1
  obtain ⟨M, hM⟩ : ∃ M : Nat, M = 100 := ⟨100, rfl⟩
  refine ⟨fun _ m w' => m = ((total x.lab (M + 1) : Nat) : Int) ∧ Ext [] w18 w', ?_, ?_⟩
  · refine ⟨fun m slot w' => -1 ≤ slot ∧ slot ≤ 101 ∧ m = ((total x.lab slot.toNat : Nat) : Int) ∧ Ext [] w18 w', fun _ slot _ => (101 - slot).toNat, ⟨by omega, by omega, rfl, Ext.refl _ _⟩, ?_⟩
    rintro _ slot _ w25 ⟨h0, h1, rfl, e25⟩
    refine sel_dec (fun hle => ?_) (fun hgt => ?_)
    rotate_left
    · have e1 : slot.toNat = M + 1 := by omega
      rw [e1]
      exact ⟨rfl, e25⟩
    have v25 := v18.ext0 e25
    refine Of_c v25 slot fun A26 n26 c26 w29 e29 own29 => ⟨_, _, _, _, rfl, ?_⟩
    have hn26 := own29.len
    have hl26 : n26 ≤ 32 := by rw [← hn26]; exact v25.len slot
    refine ⟨fun _ w' => Ext [] w29 w', ⟨fun t w' => t = false ∧ Ext [] w29 w', Has_c ((sL.ext0 e25).ext0 e29).ref slot ⟨_, rfl, ?_⟩, ?_⟩, ?_⟩
    · rw [set_has ok hLm]
      refine sel_false (by simp) (sel_intro (fun h => ⟨?_, Ext.refl _ _⟩) (fun _ => ⟨rfl, Ext.refl _ _⟩))
      have h : x.lab slot = none := by simpa using h
      have : n26 = 0 := by rw [← hn26, h]; rfl
      rw [this]; rfl
    · rintro _ _ w37 ⟨rfl, e37⟩
      exact sel_false rfl e37
    rintro _ _ w40 e40
    have v40 := (v25.ext0 e29).ext0 e40
    refine ⟨fun t w' => ∃ a : Nat, t = a ∧ a ≤ n26 ∧ Ext [] w40 w', fun t _ => n26 - t.toNat, ⟨0, rfl, by omega, Ext.refl _ _⟩, ?_⟩
    rintro _ _ w45 ⟨a, rfl, ha, e45⟩
    refine sel_dec (fun hlt => ?_) (fun hge => ?_)
    · obtain ⟨l, hl⟩ : ∃ l, x.lab slot = some l := by
        cases hl : x.lab slot with
        | none => rw [hl] at hn26; simp at hn26; omega
        | some l => exact ⟨l, rfl⟩
      obtain ⟨okl, s, rfl, hsN⟩ := ok.lab _ _ hl
      rw [hl] at own29 hn26
      have d45 : Ext [] w45 w45.drew := (Ext.refl _ _).drew
      have Ed : Ext [] w29 w45.drew := (e40.trans e45).trans d45
      have own45 := OwnL.ext0 own29 Ed
      have vd := (v40.ext0 e45).ext0 d45
      generalize w45.drew = w46 at d45 Ed own45 vd ⊢
      obtain ⟨y, ad, hy, hA, _⟩ := own45.row (a := a) (by omega)
      subst hA
      have hym : (y.1, y.2) ∈ l := List.mem_of_getElem? hy
      have rd : ∀ w', Ext [] w46 w' → w'.cell? (Addr.add (Addr.add ad (Int.toNat (a : Int) * 2)) 0) = some (.string y.1) ∧ w'.cell? (Addr.add (Addr.add ad (Int.toNat (a : Int) * 2)) 1) = some (.string y.2) := fun w' e => by
        obtain ⟨y', ad', h1, h2, h3⟩ := (own45.ext0 e).row (a := a) (by omega)
        cases h2
        rw [show ((some l).getD [])[a]? = some y from hy] at h1
        cases h1
        exact ⟨h3 0 _ rfl, h3 1 _ rfl⟩
      have wd : (0 : Int) ≤ (a : Int) ∧ (a : Int) < ((n26 : Nat) : Int) := by omega
      refine ⟨fun t w' => t = false ∧ Ext [] w46 w', ⟨fun w' => Ext [] w46 w', Ext.refl _ _, when_dec wd (ptr_in ⟨_, fun w' e => (rd w' e).1, when_dec wd (ptr_in ⟨_, fun w' e => (rd w' e).2, ?_⟩)⟩)⟩, ?_⟩
      · refine With_c vd y.1 y.2 fun p53 b53 w55 S e55 _ _ sS hSN hSm => ⟨_, rfl, e55, Has_c sS.ref _ ⟨_, rfl, e55, ?_⟩⟩
        rw [SetV.has_nat, (hSm s).2 ⟨l, hl, hym⟩]
        refine sel_false rfl (when_dec wd (ptr_in ⟨_, fun w' e => (rd w' e).1, HasP_c (vd.ext0 e55) y.1 fun p61 b61 w63 H e63 _ _ sH hHN hHm => ⟨_, rfl, e55.trans e63, Has_c sH.ref _ ⟨_, rfl, e55.trans e63, ?_⟩⟩⟩))
        rw [SetV.has_nat, (hHm s).2 ⟨l, hl, _, hym⟩]
        exact ⟨rfl, e55.trans e63⟩
      · rintro _ _ w69 ⟨rfl, e69⟩
        refine sel_false rfl ?_
        rw [up64 a (by omega)]
        exact ⟨⟨a + 1, rfl, by omega, (e45.trans d45).trans e69⟩, by simp only [Int.toNat_natCast]; omega⟩
    · show _ ∧ _
      have ht := total_le hlen slot.toNat
      have htl : slot.toNat ≤ 100 := by omega
      rw [w64 (by omega) (by omega), w64 (by omega) (by omega)]
      refine ⟨⟨by omega, by omega, ?_, ((e25.trans e29).trans e40).trans e45⟩, by show (101 - (slot + 1)).toNat < (101 - slot).toNat; omega⟩
      by_cases hs : 0 ≤ slot
      · obtain ⟨s, rfl⟩ : ∃ s : Nat, slot = s := ⟨slot.toNat, by omega⟩
        have e1 : ((s : Int) + 1).toNat = s + 1 := by omega
        rw [e1, total_succ, Int.toNat_natCast]
        unfold labsAt
        rw [hn26]; omega
      · have : slot = -1 := by omega
        subst this
        have h0 : x.lab (-1) = none := by
          cases hl : x.lab (-1) with
          | none => rfl
          | some l =>
            obtain ⟨_, j, hj, _⟩ := ok.lab _ _ hl
            omega
        have : n26 = 0 := by rw [← hn26, h0]; rfl
        rw [this]; rfl
  · rintro _ _ _ w74 ⟨rfl, e74⟩
    have v74 := v18.ext0 e74
    refine Keys_c v74 fun A75 n75 c75 ks w77 e77 own77 hks hn75 => ⟨_, _, _, rfl, ?_⟩
    have hkl := own77.len
    have hknd : ks.Nodup := hks.strict.imp fun h e => by rw [e] at h; exact List.lt_irrefl _ h
    have hdbl := double (f := x.lab) hknd (fun i => (ok.labs i).2) (fun i kk hk => by
      obtain ⟨l, h1, v, h2⟩ := mem_labsAt.1 hk
      exact (hks.mem kk).2 ⟨_, l, v, h1, h2⟩) (M + 1)
    have htl := total_le hlen (M + 1)
    refine ⟨fun m t w' => ∃ a : Nat, t = a ∧ a ≤ n75 ∧ m = ((((ks.drop a).map (cntK x.lab (M + 1))).sum : Nat) : Int) ∧ Ext [] w77 w', fun _ t _ => n75 - t.toNat, ⟨0, rfl, by omega, by rw [hdbl]; rfl, Ext.refl _ _⟩, ?_⟩
    rintro _ _ _ w83 ⟨a, rfl, ha, rfl, e83⟩
    refine sel_dec (fun hlt => ?_) (fun hge => ?_)
    rotate_left
    · have : a = n75 := by omega
      subst this
      rw [List.drop_of_length_le (by omega)]
      exact k w83 (((E18.trans e74).trans e77).trans e83)
    have wd : (0 : Int) ≤ (a : Int) ∧ (a : Int) < ((n75 : Nat) : Int) := by omega
    have c83 := own77.cells.ext0 e83
    obtain ⟨key, ad, hka, hA, rk⟩ := text_at c83 hkl (a := a) (by omega)
    subst hA
    have d83 : Ext [] w83 w83.drew := (Ext.refl _ _).drew
    refine ⟨fun _ w' => Ext [] w83 w', ⟨fun t w' => t = false ∧ Ext [] w83 w', sel_dec (fun h0 => ?_) (fun _ => ⟨rfl, d83⟩), ?_⟩, ?_⟩
    · obtain ⟨b, rfl⟩ : ∃ b, a = b + 1 := ⟨a - 1, by omega⟩
      have hb1 : IntKind.wrap .i64 (((b + 1 : Nat) : Int) - 1) = (b : Int) := by rw [w64 (by omega) (by omega)]; omega
      rw [hb1]
      obtain ⟨u, ad2, hub, hA2, ru⟩ := text_at c83 hkl (a := b) (by omega)
      cases hA2
      exact when_dec wd (ptr_in ⟨key, rk, when_dec ⟨by omega, by omega⟩ (ptr_in ⟨u, ru, strict_no hks.strict hub hka, d83⟩)⟩)
    · rintro _ _ w92 ⟨rfl, e92⟩
      exact sel_false rfl e92
    rintro _ _ w95 e95
    have E95 := e83.trans e95
    obtain ⟨key', ad', hk', hA', rk'⟩ := text_at (c83.ext0 e95) hkl (a := a) (by omega)
    rw [hka] at hk'
    cases hk'; cases hA'
    have v95 := (v74.ext0 e77).ext0 E95
    refine when_dec wd (ptr_in ⟨key, rk', parts_c v95 hN (((sL.ext0 e74).ext0 e77).ext0 E95).ref hLm key fun w100 H e100 oH hHN hHm => ⟨_, rfl, ?_⟩⟩)
    obtain ⟨i, l, v, h1, h2⟩ := (hks.mem key).1 (List.mem_of_getElem? hka)
    obtain ⟨_, j, rfl, _⟩ := ok.lab _ _ h1
    have hH1 : 1 ≤ H.count := count_one oH ((hHm j).2 ⟨l, h1, v, h2⟩)
    have hHc : H.count = cntK x.lab (M + 1) key := by
      rw [cntK_succ, labsAt_end ok (by omega)]
      simp only [keys, List.map_nil, List.not_mem_nil, if_false, Nat.add_zero]
      rw [← members_length]
      unfold SetV.members cntK
      rw [hHN, ← hM]
      congr 1
      refine List.filter_congr fun i _ => ?_
      rw [Bool.eq_iff_iff, hHm, ← mem_labsAt]
      simp only [decide_eq_true_eq]
    have hdrop : ((ks.drop a).map (cntK x.lab (M + 1))).sum = cntK x.lab (M + 1) key + ((ks.drop (a + 1)).map (cntK x.lab (M + 1))).sum := by
      obtain ⟨h1, h2⟩ := List.getElem?_eq_some_iff.1 hka
      rw [List.drop_eq_getElem_cons h1, h2, List.map_cons, List.sum_cons]
    have hle : ((ks.drop a).map (cntK x.lab (M + 1))).sum ≤ total x.lab (M + 1) := by
      rw [hdbl]
      conv => rhs; rw [← List.take_append_drop a ks, List.map_append, List.sum_append]
      omega
    refine sel_false (decide_eq_false (by omega)) ?_
    rw [w64 (by omega) (by omega), up64 a (by omega)]
    refine ⟨⟨a + 1, rfl, by omega, by rw [hHc, hdrop]; omega, E95.trans e100⟩, by simp only [Int.toNat_natCast]; omega⟩
end Go.Proofs.YtpipenkaaodlgaaDoor
