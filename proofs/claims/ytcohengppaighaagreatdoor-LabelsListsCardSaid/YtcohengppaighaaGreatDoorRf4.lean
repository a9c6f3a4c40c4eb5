/- Labels, the document's answer: Diff, Patch. -/
import Derived.Test.YtcohengppaighaaGreatDoorRf3
set_option linter.unusedVariables false
set_option linter.unusedSimpArgs false
namespace Go.Proofs.YtcohengppaighaaGreatDoor
open Go Go.V Go.B

section
variable {w : World} {R : Ending → World → Prop} {A B : Option Addr} {n m c c' : Nat} {was now l : List Lab}
theorem rone_c (h1 : Cells w A (LbL.flat was)) (hl1 : was.length = n) (g1 : n * 32 ≤ 140737488351232) (h2 : Cells w B (LbL.flat now)) (hl2 : now.length = m) (g2 : m * 32 ≤ 140737488351232) (key : ByteArray)
    (k : ∀ w', Ext [] w w' → R (.returned (.agg ⟨dcells (dOf was now key)⟩)) w') : Calls Tryz.prog 97 #[.slice A n c, .slice B m c', .string key] w R := by
  apply berthref03_one_nf
  intro w4 h4
  obtain ⟨b4, x4, z4⟩ := box_new h4
  refine rGet_c (h1.ext0 x4) hl1 g1 key ⟨_, _, rfl, rGet_c (h2.ext0 x4) hl2 g2 key ⟨_, _, rfl, ?_⟩⟩
  obtain ⟨w13, hr, b13, x13⟩ := storeW (P := Tryz.prog) (t := 59) (n := 5) (by kernel_rfl) b4 (vs := dcells (dOf was now key)) rfl rfl (DLL.one _)
  exact ⟨w13, hr, _, _, _, _, _, cadd0 b13, k w13 (x4.trans' x13 fun b hb => .inr (by simp at hb; omega))⟩
theorem keep_iff (d : DL) : dKeep d = (!(d.had == d.has) || !decide (d.old = d.new)) := by
  unfold dKeep
  rw [Bool.eq_iff_iff]
  simp
set_option maxHeartbeats 2000000 in
theorem rDiff_c (h1 : LIn w A n was) (h2 : LIn w B m now)
    (k : ∀ w' D q d, Ext [] w w' → DOwn w' w.heap.size D q d (diffS was now) → q ≤ 64 → R (.returned (.slice D q d)) w') : Calls Tryz.prog 74 #[.slice A n c, .slice B m c'] w R := by
  apply berthref03_Diff_nf
  refine rCheck_c h1 fun w6 e6 => ⟨_, _, rfl, rCheck_c (h2.ext0 e6) fun w10 e10 => ⟨_, _, rfl, ?_⟩⟩
  have e10' := e6.trans e10
  have empty : diffS was now = [] → R (.returned (.slice none 0 0)) w10 := fun h => k w10 none 0 0 e10' (by rw [h]; exact LstL.nil _ _ _) (by omega)
  refine sel_intro (fun hc1 => empty ?_) (fun hc1 => sel_intro (fun hc2 => empty ?_) (fun hc2 => ?_))
  · have hc1 : (checkS was).2 ≠ 0 := by simpa using hc1
    unfold diffS; rw [if_neg (fun h => hc1 h.1)]
  · have hc2 : (checkS now).2 ≠ 0 := by simpa using hc2
    unfold diffS; rw [if_neg (fun h => hc2 h.2)]
  have hc1 : (checkS was).2 = 0 := by simpa using hc1
  have hc2 : (checkS now).2 = 0 := by simpa using hc2
  have o1 := checkS_zero.1 hc1
  have o2 := checkS_zero.1 hc2
  have g1 := o1.len
  have g2 := o2.len
  have l1 := h1.len
  have l2 := h2.len
  refine ⟨fun A' n' c' t w' => ∃ a : Nat, t = a ∧ a ≤ n ∧ Ext [] w w' ∧ n' = a ∧ LOwn w' w.heap.size A' n' c' (was.take a), fun _ _ _ t _ => n - t.toNat, ⟨0, rfl, by omega, e10', rfl, LstL.nil _ _ _⟩, ?_⟩
  rintro A1 n1 c1 _ _ w16 ⟨a, rfl, ha, e16, hna, own⟩
  subst hna
  refine sel_dec (fun hlt => ?_) (fun hge => ?_)
  · obtain ⟨x, hx⟩ : ∃ x, was[n1]? = some x := ⟨_, List.getElem?_eq_getElem (by omega)⟩
    obtain ⟨ad, rfl, rd⟩ := lab_cells h1.c hx
    refine when_dec ⟨by omega, by omega⟩ ⟨_, _, (rd w16 e16).2.2, fun w20 h20 => ?_⟩
    obtain ⟨A2, c2, w22, hr, ho, he, _⟩ := more_lab e16 own h20 (by omega)
    refine ⟨_, _, _, _, hr, ?_⟩
    rw [up64 n1 (by omega)]
    exact ⟨⟨n1 + 1, rfl, by omega, he, rfl, by rw [snoc_at hx]; exact ho⟩, by simp only [Int.toNat_natCast]; omega⟩
  have hn1 : n1 = n := by omega
  subst hn1
  rw [List.take_of_length_le (by omega)] at own
  refine ⟨fun A' n' c' t w' => ∃ a : Nat, t = a ∧ a ≤ m ∧ Ext [] w w' ∧ n' ≤ n1 + a ∧ LOwn w' w.heap.size A' n' c' (was ++ (now.take a).filter fun x => !(getS was x.1).2), fun _ _ _ t _ => m - t.toNat, ⟨0, rfl, by omega, e16, by omega, by simpa using own⟩, ?_⟩
  rintro A2 n2 c2 _ _ w28 ⟨a, rfl, ha, e28, hn2, own2⟩
  refine sel_dec (fun hlt => ?_) (fun hge2 => ?_)
  · obtain ⟨x, hx⟩ : ∃ x, now[a]? = some x := ⟨_, List.getElem?_eq_getElem (by omega)⟩
    obtain ⟨ad, rfl, rd⟩ := lab_cells h2.c hx
    refine when_dec ⟨by omega, by omega⟩ ⟨_, (rd w28 e28).1, rFind_c (h1.ext0 e28).c l1 h1.big x.1 ⟨_, rfl, ?_⟩⟩
    rw [up64 a (by omega)]
    have hstep : was ++ (now.take (a + 1)).filter (fun x => !(getS was x.1).2) = (was ++ (now.take a).filter fun x => !(getS was x.1).2) ++ (if (getS was x.1).2 = false then [x] else []) := by
      rw [snoc_at hx, List.filter_append, List.append_assoc]
      congr 2
      cases hq : (getS was x.1).2 <;> simp [hq]
    refine sel_dec (fun hf => when_dec ⟨by omega, by omega⟩ ⟨_, _, (rd w28 e28).2.2, fun w37 h37 => ?_⟩) (fun hf => ?_)
    · have hg : (getS was x.1).2 = false := by
        rcases find_get was x.1 with h | h
        · exact absurd h.2 (by omega)
        · exact h.1
      obtain ⟨A3, c3, w39, hr, ho, he, _⟩ := more_lab e28 own2 h37 (by omega)
      refine ⟨_, _, _, _, hr, ⟨a + 1, rfl, by omega, he, by omega, ?_⟩, by simp only [Int.toNat_natCast]; omega⟩
      rw [hstep, if_pos hg]; exact ho
    · have hg : (getS was x.1).2 = true := by
        rcases find_get was x.1 with h | h
        · exact h.1
        · exact absurd h.2 hf
      refine ⟨⟨a + 1, rfl, by omega, e28, by omega, ?_⟩, by simp only [Int.toNat_natCast]; omega⟩
      rw [hstep, if_neg (by simp [hg]), List.append_nil]; exact own2
  rw [List.take_of_length_le (by omega)] at own2
  have hu : (was ++ now.filter fun x => !(getS was x.1).2) = unionS was now := rfl
  rw [hu] at own2
  refine rRise_c own2.cells own2.len (by omega) (union_nodup o1.ris o2.ris) fun w42 A40 c40 e42 o42 => ⟨_, _, _, rfl, ?_⟩
  rw [mergeU_sort o1.ris o2.ris] at o42
  have hml := o42.len
  have e42' := e28.trans e42
  have hd : diffS was now = ((mergeU was now).map fun x => dOf was now x.1).filter dKeep := by
    unfold diffS; rw [if_pos ⟨hc1, hc2⟩, mergeD_eq o1.ris o2.ris]
  refine ⟨fun A' n' c' t w' => ∃ a : Nat, t = a ∧ a ≤ n2 ∧ Ext [] w42 w' ∧ n' ≤ a ∧ DOwn w' w42.heap.size A' n' c' ((((mergeU was now).take a).map fun x => dOf was now x.1).filter dKeep), fun _ _ _ t _ => n2 - t.toNat, ⟨0, rfl, by omega, Ext.refl _ _, by omega, LstL.nil _ _ _⟩, ?_⟩
  rintro A4 n4 c4 _ _ w48 ⟨a, rfl, ha, e48, hn4, own4⟩
  have e48' := e42'.trans e48
  refine sel_dec (fun hlt => ?_) (fun hge4 => ?_)
  · obtain ⟨x, hx⟩ : ∃ x, (mergeU was now)[a]? = some x := ⟨_, List.getElem?_eq_getElem (by omega)⟩
    obtain ⟨ad, rfl, rd⟩ := lab_cells o42.cells hx
    refine when_dec ⟨by omega, by omega⟩ ⟨_, (rd w48 e48).1, rone_c (h1.ext0 e48').c l1 h1.big (h2.ext0 e48').c l2 h2.big x.1 fun w57 e57 => ⟨_, _, _, _, _, rfl, fun w58 h58 => ?_⟩⟩
    obtain ⟨b58, x58, z58⟩ := box_new h58
    generalize hdd : dOf was now x.1 = d
    obtain ⟨w59, hr, b59, x59⟩ := storeW (P := Tryz.prog) (t := 59) (n := 5) (by kernel_rfl) b58 (vs := dcells d) rfl rfl (DLL.one d)
    have e59 : Ext [] w48 w59 := (e57.trans x58).trans' x59 fun b hb => .inr (by have := e57.size; simp at hb; omega)
    have hstep : (((mergeU was now).take (a + 1)).map fun x => dOf was now x.1).filter dKeep = ((((mergeU was now).take a).map fun x => dOf was now x.1).filter dKeep) ++ (if dKeep d = true then [d] else []) := by
      have hone : List.filter dKeep [d] = if dKeep d = true then [d] else [] := by cases hq : dKeep d <;> simp [hq]
      rw [snoc_at hx, List.map_append, List.filter_append, List.map_cons, List.map_nil, hdd, hone]
    rw [up64 a (by omega)]
    have yes : dKeep d = true → ∀ w67, w67 = (World.alloc w59 (.cells #[(Value.string d.key), (Value.string d.old), (Value.string d.new), (Value.bool d.had), (Value.bool d.has)] 59)) →
        ∃ A68, ∃ A68l, ∃ A68c, ∃ w69, Sem.run Tryz.prog (Builtin.append_ #[23, 23] 23 #[(Value.slice A4 n4 c4), (Value.slice (some ⟨Array.size (World.heap w59), 0, none⟩) 1 1)]) w67 = .ok (Value.slice A68 A68l A68c) w69 ∧
        (∃ b : Nat, ((a + 1 : Nat) : Int) = (b : Int) ∧ b ≤ n2 ∧ Ext [] w42 w69 ∧ A68l ≤ b ∧ DOwn w69 w42.heap.size A68 A68l A68c ((((mergeU was now).take b).map fun x => dOf was now x.1).filter dKeep)) ∧ n2 - Int.toNat ((a + 1 : Nat) : Int) < n2 - Int.toNat (a : Int) := fun hk w67 h67 => by
      obtain ⟨A', c', w2, hr2, ho, he, hat⟩ := add_dl (d := d) (e48.trans e59) (own4.ext0 e59) h67 (by omega)
      exact ⟨_, _, _, _, hr2, ⟨a + 1, rfl, by omega, he, by omega, by rw [hstep, if_pos hk]; exact ho⟩, by simp only [Int.toNat_natCast]; omega⟩
    have no : dKeep d = false → (∃ b : Nat, ((a + 1 : Nat) : Int) = (b : Int) ∧ b ≤ n2 ∧ Ext [] w42 w59 ∧ n4 ≤ b ∧ DOwn w59 w42.heap.size A4 n4 c4 ((((mergeU was now).take b).map fun x => dOf was now x.1).filter dKeep)) ∧ n2 - Int.toNat ((a + 1 : Nat) : Int) < n2 - Int.toNat (a : Int) := fun hk =>
      ⟨⟨a + 1, rfl, by omega, e48.trans e59, by omega, by rw [hstep, if_neg (by simp [hk]), List.append_nil]; exact own4.ext0 e59⟩, by simp only [Int.toNat_natCast]; omega⟩
    have hki := keep_iff d
    refine ⟨w59, hr, _, cadd b59 rfl, _, cadd b59 rfl, sel_intro (fun hs => ⟨_, _, _, _, _, cadd0 b59, yes (by rw [hki, hs]; rfl)⟩) (fun hs => ⟨_, cadd b59 rfl, _, cadd b59 rfl, ?_⟩)⟩
    rw [beqBytes]
    refine sel_intro (fun hs2 => ⟨_, _, _, _, _, cadd0 b59, yes (by rw [hki, hs, hs2]; rfl)⟩) (fun hs2 => no (by rw [hki, hs, hs2]; rfl))
  · rw [List.take_of_length_le (by omega), ← hd] at own4
    exact k w48 A4 n4 c4 e48' (own4.weaken e42'.size) (by omega)

def C37 (d : DL) : Prop := (d.had = false ∧ d.has = false) ∨ (d.had = false ∧ d.old ≠ ByteArray.empty) ∨ (d.has = false ∧ d.new ≠ ByteArray.empty) ∨ (d.had = true ∧ d.has = true ∧ d.old = d.new)
def C32 (d : DL) : Prop := (d.had = true ∧ valS (bs d.old) = false) ∨ (d.has = true ∧ valS (bs d.new) = false)
instance (d : DL) : Decidable (C37 d) := by unfold C37; infer_instance
instance (d : DL) : Decidable (C32 d) := by unfold C32; infer_instance
open Classical in
/-- What bars a difference by itself, behind the one before it. -/
noncomputable def wrongR (p : Option ByteArray) (d : DL) : Int := if keyS (bs d.key) = false then 31 else if p = some d.key then 33 else if (∃ q, p = some q ∧ bs d.key < bs q) then 36 else if C37 d then 37 else if C32 d then 32 else 0
theorem wrong_split (p : Option ByteArray) (l : List Lab) (d : DL) : (wrongR p d ≠ 0 ∧ wrongS p l d = wrongR p d) ∨ (wrongR p d = 0 ∧ wrongS p l d = if (getS l d.key).2 ≠ d.had ∨ (getS l d.key).1 ≠ d.old then 38 else 0) := by
  unfold wrongR
  by_cases h1 : keyS (bs d.key) = false
  · rw [if_pos h1]; exact .inl ⟨by decide, wrong_key h1⟩
  rw [if_neg h1]
  have h1 : keyS (bs d.key) = true := by simpa using h1
  by_cases h2 : p = some d.key
  · rw [if_pos h2]; exact .inl ⟨by decide, wrong_dup h1 h2⟩
  rw [if_neg h2]
  by_cases h3 : ∃ q, p = some q ∧ bs d.key < bs q
  · rw [if_pos h3]; exact .inl ⟨by decide, wrong_ord h1 h2 h3⟩
  rw [if_neg h3, wrong_rest h1 h2 h3]
  by_cases h4 : C37 d
  · rw [if_pos h4]; exact .inl ⟨by decide, if_pos h4⟩
  rw [if_neg h4]
  by_cases h5 : C32 d
  · rw [if_pos h5]; exact .inl ⟨by decide, (if_neg h4).trans (if_pos h5)⟩
  rw [if_neg h5]
  refine .inr ⟨rfl, ?_⟩
  refine ((if_neg h4).trans (if_neg h5)).trans ?_
  unfold C37 at h4
  by_cases h6 : (getS l d.key).2 = d.had
  · cases hh : d.had
    · have e1 : (getS l d.key).1 = ByteArray.empty := by rw [getS_false (by rw [h6, hh])]
      have e2 : d.old = ByteArray.empty := Decidable.byContradiction fun hne => h4 (.inr (.inl ⟨hh, hne⟩))
      rw [if_neg (by rw [h6, hh]; simp), if_neg (by rw [h6, hh, e1, e2]; simp)]
    · by_cases h7 : d.old = (getS l d.key).1
      · rw [if_neg (by rw [h6, hh, h7]; simp), if_neg (by rw [h6, hh, h7]; simp)]
      · rw [if_pos (.inr ⟨rfl, h7⟩), if_pos (.inr fun e => h7 e.symm)]
  · rw [if_pos (.inl fun e => h6 e.symm), if_pos (.inl h6)]
variable {D : Option Addr} {q c3 : Nat} {ds : List DL}
set_option maxHeartbeats 2000000 in
theorem rwrong_c (hd : DIn w D q ds) {a : Nat} {x : DL} (hx : ds[a]? = some x)
    (k : ∀ w', Ext [] w w' → R (.returned (.int .i64 (wrongR (prevD ds a) x))) w') : Calls Tryz.prog 61 #[.slice D q c3, .int .i64 (a : Int)] w R := by
  apply berthref03_wrong_nf
  have hal := (List.getElem?_eq_some_iff.1 hx).1
  have hql := hd.len
  have hqb := hd.big
  obtain ⟨ad, rfl, rd⟩ := dif_cells hd.c hx
  refine when_dec ⟨by omega, by omega⟩ ⟨_, _, _, _, _, (rd w (Ext.refl _ _)).2, fun w9 h9 => ?_⟩
  obtain ⟨b9, x9, z9⟩ := box_new h9
  obtain ⟨w10, hr, b10, x10⟩ := storeW (P := Tryz.prog) (t := 59) (n := 5) (by kernel_rfl) b9 (vs := dcells x) rfl rfl (DLL.one x)
  have e10 : Ext [] w w10 := x9.trans' x10 fun b hb => .inr (by simp at hb; omega)
  refine ⟨w10, hr, _, cadd b10 rfl, rIsKey_c x.key fun w14 e14 => ⟨_, rfl, ?_⟩⟩
  have b14 := b10.ext e14 (by simp)
  have e14' := e10.trans e14
  refine ⟨_, cadd b14 rfl, rIsValue_c x.old ⟨_, rfl, _, cadd b14 rfl, rIsValue_c x.new ⟨_, rfl, ?_⟩⟩⟩
  have fin : ∀ {w' : World} {e : Int}, Ext [] w w' → wrongR (prevD ds a) x = e → R (.returned (.int .i64 e)) w' := fun {w' e} ew he => by
    have := k w' ew
    rw [he] at this; exact this
  refine sel_intro (fun hk => fin e14' (by unfold wrongR; rw [if_pos (nf_ hk)])) (fun hk => ?_)
  have hk := nt_ hk
  have hpn : ∀ (z : ByteArray), prevD ds a = some z → 0 < a := fun z hz => by
    rcases Nat.eq_zero_or_pos a with h | h
    · unfold prevD at hz; rw [if_pos h] at hz; cases hz
    · exact h
  have hpp : 0 < a → ∃ pd : DL, prevD ds a = some pd.key ∧ IntKind.wrap .i64 ((a : Int) - 1) = ((a - 1 : Nat) : Int) ∧ ∀ w', Ext [] w w' → w'.cell? (Addr.add (Addr.add ad ((Int.toNat ((a - 1 : Nat) : Int)) * 5)) 0) = some (.string pd.key) := fun h0 => by
    obtain ⟨pd, hpd⟩ : ∃ pd, ds[a - 1]? = some pd := ⟨_, List.getElem?_eq_getElem (by omega)⟩
    obtain ⟨ad', hA, rp⟩ := dif_cells hd.c hpd
    cases hA
    exact ⟨pd, by unfold prevD; rw [if_neg (by omega), hpd]; rfl, by rw [w64 (by omega) (by omega)]; omega, fun w' e => (rp w' e).1⟩
  refine ⟨fun t w' => w' = w14.drew ∧ (t = true ↔ prevD ds a = some x.key), sel_dec (fun hp => ?_) (fun hp => ⟨rfl, by simp; intro h; have := hpn _ h; omega⟩), ?_⟩
  · obtain ⟨pd, hpd, e1, rp⟩ := hpp (by omega)
    rw [e1]
    refine ⟨_, cadd b14 rfl, when_dec ⟨by omega, by omega⟩ ⟨_, rp w14 e14', rfl, ?_⟩⟩
    rw [beqBytes, decide_eq_true_eq, hpd, Option.some.injEq]; exact eq_comm
  rintro t _ _ ⟨rfl, ht⟩
  refine sel_intro (fun h => fin e14'.drew (by unfold wrongR; rw [if_neg (by rw [hk]; simp), if_pos (ht.1 h)])) (fun h => ?_)
  have hne : prevD ds a ≠ some x.key := fun hq => by rw [ht.2 hq] at h; cases h
  have b14d := b14.ext (Ext.refl [] w14).drew (by simp)
  refine ⟨fun t w' => w' = w14.drew.drew ∧ (t = true ↔ ∃ z, prevD ds a = some z ∧ bs x.key < bs z), sel_dec (fun hp => ?_) (fun hp => ⟨rfl, by simp; intro z h; have := hpn _ h; omega⟩), ?_⟩
  · obtain ⟨pd, hpd, e1, rp⟩ := hpp (by omega)
    rw [e1]
    refine ⟨_, cadd b14d rfl, when_dec ⟨by omega, by omega⟩ ⟨_, rp _ e14'.drew, rfl, ?_⟩⟩
    rw [less_iff, decide_eq_true_eq, hpd]
    exact ⟨fun h => ⟨_, rfl, h⟩, fun ⟨z, hz, h⟩ => by injection hz with hz; rw [hz]; exact h⟩
  rintro t2 _ _ ⟨rfl, ht2⟩
  refine sel_intro (fun h => fin e14'.drew.drew (by unfold wrongR; rw [if_neg (by rw [hk]; simp), if_neg hne, if_pos (ht2.1 h)])) (fun h2 => ?_)
  have hno : ¬ ∃ z, prevD ds a = some z ∧ bs x.key < bs z := fun hq => by rw [ht2.2 hq] at h2; cases h2
  have bb := b14d.ext (Ext.refl [] _).drew (by simp)
  have ee := e14'.drew.drew
  generalize w14.drew.drew = W at bb ee
  have hw : wrongR (prevD ds a) x = if C37 x then 37 else if C32 x then 32 else 0 := by unfold wrongR; rw [if_neg (by rw [hk]; simp), if_neg hne, if_neg hno]
  rw [hw] at fin
  clear k hw
  obtain ⟨key, old, new, had, has⟩ := x
  refine ⟨fun t w' => w' = W ∧ (t = true ↔ C37 ⟨key, old, new, had, has⟩), ⟨fun t w' => w' = W ∧ (t = true ↔ (had = false ∧ has = false)), ⟨_, cadd bb rfl, ?_⟩, ?_⟩, ?_⟩
  · exact sel_intro (fun h => ⟨_, cadd bb rfl, rfl, by simp at h; simp [h]⟩) (fun h => ⟨rfl, by simp at h; simp [h]⟩)
  · rintro t3 _ W1 ⟨rfl, h3⟩
    refine sel_intro (fun h => ⟨rfl, by rw [h]; exact ⟨fun _ => .inl (h3.1 h), fun _ => rfl⟩⟩) (fun h => ?_)
    have n3 : ¬ (had = false ∧ has = false) := fun hq => by rw [h3.2 hq] at h; cases h
    refine ⟨fun t w' => w' = W1 ∧ (t = true ↔ (had = false ∧ old ≠ ByteArray.empty)), ⟨_, cadd bb rfl, ?_⟩, ?_⟩
    · exact sel_intro (fun h => ⟨_, cadd bb rfl, rfl, by rw [beqBytes]; simp at h; simp [h]⟩) (fun h => ⟨rfl, by simp at h; simp [h]⟩)
    rintro t4 _ W2 ⟨rfl, h4⟩
    refine sel_intro (fun h => ⟨rfl, by rw [h]; exact ⟨fun _ => .inr (.inl (h4.1 h)), fun _ => rfl⟩⟩) (fun h => ?_)
    have n4 : ¬ (had = false ∧ old ≠ ByteArray.empty) := fun hq => by rw [h4.2 hq] at h; cases h
    refine ⟨fun t w' => w' = W2 ∧ (t = true ↔ (has = false ∧ new ≠ ByteArray.empty)), ⟨_, cadd bb rfl, ?_⟩, ?_⟩
    · exact sel_intro (fun h => ⟨_, cadd bb rfl, rfl, by rw [beqBytes]; simp at h; simp [h]⟩) (fun h => ⟨rfl, by simp at h; simp [h]⟩)
    rintro t5 _ W3 ⟨rfl, h5⟩
    refine sel_intro (fun h => ⟨rfl, by rw [h]; exact ⟨fun _ => .inr (.inr (.inl (h5.1 h))), fun _ => rfl⟩⟩) (fun h => ?_)
    have n5 : ¬ (has = false ∧ new ≠ ByteArray.empty) := fun hq => by rw [h5.2 hq] at h; cases h
    have last : C37 ⟨key, old, new, had, has⟩ ↔ (had = true ∧ has = true ∧ old = new) := ⟨fun hq => by
      rcases hq with h | h | h | h
      · exact absurd h n3
      · exact absurd h n4
      · exact absurd h n5
      · exact h, fun hq => .inr (.inr (.inr hq))⟩
    refine ⟨_, cadd bb rfl, sel_intro (fun h => ⟨_, cadd bb rfl, sel_intro (fun h' => ⟨_, cadd bb rfl, _, cadd bb rfl, rfl, ?_⟩) (fun h' => ⟨rfl, ?_⟩)⟩) (fun h => ⟨rfl, ?_⟩)⟩
    · rw [last, beqBytes]; simp at h h'; simp [h, h']
    · rw [last]; simp at h'; simp [h']
    · rw [last]; simp at h; simp [h]
  rintro t6 _ W4 ⟨rfl, h6⟩
  refine sel_intro (fun h => fin ee (by rw [if_pos (h6.1 h)])) (fun h => ?_)
  have n6 : ¬ C37 ⟨key, old, new, had, has⟩ := fun hq => by rw [h6.2 hq] at h; cases h
  rw [if_neg n6] at fin
  refine ⟨fun t w' => w' = W4 ∧ (t = true ↔ C32 ⟨key, old, new, had, has⟩), ⟨fun t w' => w' = W4 ∧ (t = true ↔ (had = true ∧ valS (bs old) = false)), ⟨_, cadd bb rfl, ?_⟩, ?_⟩, ?_⟩
  · exact sel_intro (fun h => ⟨rfl, by simp at h; simp [h]⟩) (fun h => ⟨rfl, by simp at h; simp [h]⟩)
  · rintro t7 _ W5 ⟨rfl, h7⟩
    refine sel_intro (fun h => ⟨rfl, by rw [h]; exact ⟨fun _ => .inl (h7.1 h), fun _ => rfl⟩⟩) (fun h => ?_)
    have n7 : ¬ (had = true ∧ valS (bs old) = false) := fun hq => by rw [h7.2 hq] at h; cases h
    have last : C32 ⟨key, old, new, had, has⟩ ↔ (has = true ∧ valS (bs new) = false) := ⟨fun hq => by
      rcases hq with h | h
      · exact absurd h n7
      · exact h, fun hq => .inr hq⟩
    refine ⟨_, cadd bb rfl, sel_intro (fun h => ⟨rfl, ?_⟩) (fun h => ⟨rfl, ?_⟩)⟩
    · rw [last]; simp at h; simp [h]
    · rw [last]; simp at h; simp [h]
  rintro t8 _ W6 ⟨rfl, h8⟩
  refine sel_intro (fun h => fin ee (by rw [if_pos (h8.1 h)])) (fun h => fin ee ?_)
  rw [if_neg fun hq => by rw [h8.2 hq] at h; cases h]
end
end Go.Proofs.YtcohengppaighaaGreatDoor
