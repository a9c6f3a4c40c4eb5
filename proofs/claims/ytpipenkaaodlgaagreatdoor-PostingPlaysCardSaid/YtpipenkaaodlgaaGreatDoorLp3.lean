/- Labels: what the program's and the document's ways have in common; no program. -/
import Derived.Test.YtpipenkaaodlgaaGreatDoorLp2
set_option linter.unusedVariables false
set_option linter.unusedSimpArgs false
namespace Go.B

theorem ris_lt {l : List Lab} (h : Ris l) {i j : Nat} {x y : Lab} (hx : l[i]? = some x) (hy : l[j]? = some y) (hij : i < j) : bs x.1 < bs y.1 := by
  obtain ⟨h1, rfl⟩ := List.getElem?_eq_some_iff.1 hx
  obtain ⟨h2, rfl⟩ := List.getElem?_eq_some_iff.1 hy
  exact List.pairwise_iff_getElem.1 h i j h1 h2 hij
/-- The least of what is left stands next. -/
theorem rise_next {l : List Lab} (hn : (keys l).Nodup) {m : Nat} (hm : m < l.length) {x : Lab} (hx : x ∈ l) (ho : ∀ z, 0 < m → (sortS l)[m - 1]? = some z → bs z.1 < bs x.1)
    (least : ∀ y ∈ l, (∀ z, 0 < m → (sortS l)[m - 1]? = some z → bs z.1 < bs y.1) → ¬ bs y.1 < bs x.1) : (sortS l)[m]? = some x := by
  have hr := sortS_ris hn
  have hl := sortS_len l
  obtain ⟨s, hs⟩ : ∃ s, (sortS l)[m]? = some s := ⟨_, List.getElem?_eq_getElem (by omega)⟩
  obtain ⟨j, hj⟩ := List.mem_iff_getElem?.1 (sortS_mem.2 hx)
  rcases Nat.lt_trichotomy j m with h | h | h
  · obtain ⟨z, hz⟩ : ∃ z, (sortS l)[m - 1]? = some z := ⟨_, List.getElem?_eq_getElem (by omega)⟩
    have h1 := ho z (by omega) hz
    rcases Nat.lt_or_ge j (m - 1) with h2 | h2
    · exact absurd (List.lt_trans h1 (ris_lt hr hj hz h2)) (List.lt_irrefl _)
    · have : j = m - 1 := by omega
      subst this
      rw [hj] at hz; cases hz
      exact absurd h1 (List.lt_irrefl _)
  · subst h; exact hj
  · exact absurd (ris_lt hr hs hj h) (least s (sortS_mem.1 (List.mem_of_getElem? hs)) fun z h0 hz => ris_lt hr hz hs (by omega))
/-- Something is left. -/
theorem rise_some {l : List Lab} (hn : (keys l).Nodup) {m : Nat} (hm : m < l.length) : ∃ y ∈ l, ∀ z, 0 < m → (sortS l)[m - 1]? = some z → bs z.1 < bs y.1 := by
  have hl := sortS_len l
  obtain ⟨s, hs⟩ : ∃ s, (sortS l)[m]? = some s := ⟨_, List.getElem?_eq_getElem (by omega)⟩
  exact ⟨s, sortS_mem.1 (List.mem_of_getElem? hs), fun z h0 hz => ris_lt (sortS_ris hn) hz hs (by omega)⟩
/-! ### the differences -/
structure DL where
  key : ByteArray
  old : ByteArray
  new : ByteArray
  had : Bool
  has : Bool
  deriving DecidableEq
def mergeD : List Lab → List Lab → List DL
  | [], [] => []
  | x :: r, [] => ⟨x.1, x.2, ByteArray.empty, true, false⟩ :: mergeD r []
  | [], y :: s => ⟨y.1, ByteArray.empty, y.2, false, true⟩ :: mergeD [] s
  | x :: r, y :: s => if bs x.1 < bs y.1 then ⟨x.1, x.2, ByteArray.empty, true, false⟩ :: mergeD r (y :: s)
    else if bs y.1 < bs x.1 then ⟨y.1, ByteArray.empty, y.2, false, true⟩ :: mergeD (x :: r) s
    else if x = y then mergeD r s else ⟨x.1, x.2, y.2, true, true⟩ :: mergeD r s
termination_by r s => r.length + s.length
def mergeU : List Lab → List Lab → List Lab
  | [], [] => []
  | x :: r, [] => x :: mergeU r []
  | [], y :: s => y :: mergeU [] s
  | x :: r, y :: s => if bs x.1 < bs y.1 then x :: mergeU r (y :: s)
    else if bs y.1 < bs x.1 then y :: mergeU (x :: r) s
    else x :: mergeU r s
termination_by r s => r.length + s.length
def dOf (was now : List Lab) (k : ByteArray) : DL := ⟨k, (getS was k).1, (getS now k).1, (getS was k).2, (getS now k).2⟩
def dKeep (d : DL) : Bool := decide (d.had ≠ d.has) || decide (d.old ≠ d.new)
theorem getS_none {l : List Lab} {k : ByteArray} (h : ∀ x ∈ l, x.1 ≠ k) : getS l k = (ByteArray.empty, false) := by
  induction l with
  | nil => rfl
  | cons x r ih => rw [getS, if_neg (h x (by simp)), ih fun y hy => h y (by simp [hy])]
theorem getS_some {l : List Lab} (hn : (keys l).Nodup) {x : Lab} (h : x ∈ l) : getS l x.1 = (x.2, true) := by
  induction l with
  | nil => cases h
  | cons y r ih =>
    unfold keys at hn
    simp only [List.map_cons, List.nodup_cons] at hn
    rcases List.mem_cons.1 h with rfl | h
    · rw [getS, if_pos rfl]
    · rw [getS, if_neg (fun e : y.1 = x.1 => hn.1 (by rw [e]; exact List.mem_map_of_mem h)), ih hn.2 h]
theorem getS_iff {l : List Lab} {k : ByteArray} : (getS l k).2 = true ↔ k ∈ keys l := by
  induction l with
  | nil => simp [getS, keys]
  | cons x r ih =>
    rw [getS]
    by_cases h : x.1 = k
    · simp [h, keys]
    · rw [if_neg h, ih]
      simp [keys, Ne.symm h]
theorem mergeU_mem {x : Lab} : ∀ {r s : List Lab}, x ∈ mergeU r s → x ∈ r ∨ x ∈ s := by
  intro r s
  induction r, s using mergeU.induct with
  | case1 => intro h; rw [mergeU] at h; cases h
  | case2 y r ih => intro h; rw [mergeU] at h; simp only [List.mem_cons] at h ⊢; rcases h with h | h; exact .inl (.inl h); rcases ih h with h | h; exact .inl (.inr h); cases h
  | case3 y s ih => intro h; rw [mergeU] at h; simp only [List.mem_cons] at h ⊢; rcases h with h | h; exact .inr (.inl h); rcases ih h with h | h; cases h; exact .inr (.inr h)
  | case4 a r b s hlt ih => intro h; rw [mergeU, if_pos hlt] at h; simp only [List.mem_cons] at h ih ⊢; rcases h with h | h; exact .inl (.inl h); rcases ih h with h | h; exact .inl (.inr h); exact .inr h
  | case5 a r b s h1 hlt ih => intro h; rw [mergeU, if_neg h1, if_pos hlt] at h; simp only [List.mem_cons] at h ih ⊢; rcases h with h | h; exact .inr (.inl h); rcases ih h with h | h; exact .inl h; exact .inr (.inr h)
  | case6 a r b s h1 h2 ih => intro h; rw [mergeU, if_neg h1, if_neg h2] at h; simp only [List.mem_cons] at h ih ⊢; rcases h with h | h; exact .inl (.inl h); rcases ih h with h | h; exact .inl (.inr h); exact .inr (.inr h)
theorem lt_tri {a b : List UInt8} (h1 : ¬ a < b) (h2 : ¬ b < a) : a = b := List.le_antisymm (List.not_lt.1 h2) (List.not_lt.1 h1)
theorem mergeU_ris : ∀ {r s : List Lab}, Ris r → Ris s → Ris (mergeU r s) := by
  intro r s
  induction r, s using mergeU.induct with
  | case1 => intro _ _; rw [mergeU]; exact List.Pairwise.nil
  | case2 y r ih =>
    intro h1 h2; rw [mergeU]
    refine List.pairwise_cons.2 ⟨fun z hz => ?_, ih (List.pairwise_cons.1 h1).2 h2⟩
    rcases mergeU_mem hz with hz | hz
    · exact (List.pairwise_cons.1 h1).1 z hz
    · cases hz
  | case3 y s ih =>
    intro h1 h2; rw [mergeU]
    refine List.pairwise_cons.2 ⟨fun z hz => ?_, ih h1 (List.pairwise_cons.1 h2).2⟩
    rcases mergeU_mem hz with hz | hz
    · cases hz
    · exact (List.pairwise_cons.1 h2).1 z hz
  | case4 a r b s hlt ih =>
    intro h1 h2; rw [mergeU, if_pos hlt]
    refine List.pairwise_cons.2 ⟨fun z hz => ?_, ih (List.pairwise_cons.1 h1).2 h2⟩
    rcases mergeU_mem hz with hz | hz
    · exact (List.pairwise_cons.1 h1).1 z hz
    · rcases List.mem_cons.1 hz with rfl | hz
      · exact hlt
      · exact List.lt_trans hlt ((List.pairwise_cons.1 h2).1 z hz)
  | case5 a r b s hn hlt ih =>
    intro h1 h2; rw [mergeU, if_neg hn, if_pos hlt]
    refine List.pairwise_cons.2 ⟨fun z hz => ?_, ih h1 (List.pairwise_cons.1 h2).2⟩
    rcases mergeU_mem hz with hz | hz
    · rcases List.mem_cons.1 hz with rfl | hz
      · exact hlt
      · exact List.lt_trans hlt ((List.pairwise_cons.1 h1).1 z hz)
    · exact (List.pairwise_cons.1 h2).1 z hz
  | case6 a r b s hn hn2 ih =>
    intro h1 h2; rw [mergeU, if_neg hn, if_neg hn2]
    have e := lt_tri hn hn2
    refine List.pairwise_cons.2 ⟨fun z hz => ?_, ih (List.pairwise_cons.1 h1).2 (List.pairwise_cons.1 h2).2⟩
    rcases mergeU_mem hz with hz | hz
    · exact (List.pairwise_cons.1 h1).1 z hz
    · rw [e]; exact (List.pairwise_cons.1 h2).1 z hz
theorem filter_congr' {α : Type} {p q : α → Bool} {l : List α} (h : ∀ x ∈ l, p x = q x) : l.filter p = l.filter q := List.filter_congr h
theorem getS_skip {x : Lab} {r : List Lab} {k : ByteArray} (h : x.1 ≠ k) : getS (x :: r) k = getS r k := by rw [getS, if_neg h]
theorem gt_ne {x z : Lab} (h : bs x.1 < bs z.1) : x.1 ≠ z.1 := fun e => by rw [e] at h; exact List.lt_irrefl _ h
/-- The differences tell, of each key of the two, how it stands in both. -/
theorem mergeD_eq : ∀ {r s : List Lab}, Ris r → Ris s → mergeD r s = ((mergeU r s).map fun x => dOf r s x.1).filter dKeep := by
  intro r s
  induction r, s using mergeD.induct with
  | case1 => intro _ _; rw [mergeD, mergeU]; rfl
  | case2 y r ih =>
    intro h1 h2
    have h3 := List.pairwise_cons.1 h1
    rw [mergeD, mergeU, ih h3.2 h2, List.map_cons, List.filter_cons, if_pos (by simp [dKeep, dOf, getS])]
    congr 1
    · simp [dOf, getS]
    · congr 1
      refine List.map_congr_left fun z hz => ?_
      rcases mergeU_mem hz with hz | hz
      · unfold dOf; rw [getS_skip (gt_ne (h3.1 z hz))]
      · cases hz
  | case3 y s ih =>
    intro h1 h2
    have h3 := List.pairwise_cons.1 h2
    rw [mergeD, mergeU, ih h1 h3.2, List.map_cons, List.filter_cons, if_pos (by simp [dKeep, dOf, getS])]
    congr 1
    · simp [dOf, getS]
    · congr 1
      refine List.map_congr_left fun z hz => ?_
      rcases mergeU_mem hz with hz | hz
      · cases hz
      · unfold dOf; rw [getS_skip (gt_ne (h3.1 z hz))]
  | case4 a r b s hlt ih =>
    intro h1 h2
    have h3 := List.pairwise_cons.1 h1
    have hb : getS (b :: s) a.1 = (ByteArray.empty, false) := getS_none fun z hz => by
      rcases List.mem_cons.1 hz with rfl | hz
      · exact (gt_ne hlt).symm
      · exact (gt_ne (List.lt_trans hlt ((List.pairwise_cons.1 h2).1 z hz))).symm
    have ha : getS (a :: r) a.1 = (a.2, true) := by rw [getS, if_pos rfl]
    rw [mergeD, mergeU, if_pos hlt, if_pos hlt, ih h3.2 h2, List.map_cons, List.filter_cons, if_pos (by simp [dKeep, dOf, ha, hb])]
    congr 1
    · simp [dOf, ha, hb]
    · congr 1
      refine List.map_congr_left fun z hz => ?_
      have : bs a.1 < bs z.1 := by
        rcases mergeU_mem hz with hz | hz
        · exact h3.1 z hz
        · rcases List.mem_cons.1 hz with rfl | hz
          · exact hlt
          · exact List.lt_trans hlt ((List.pairwise_cons.1 h2).1 z hz)
      unfold dOf; rw [getS_skip (gt_ne this)]
  | case5 a r b s hn hlt ih =>
    intro h1 h2
    have h3 := List.pairwise_cons.1 h2
    have ha : getS (a :: r) b.1 = (ByteArray.empty, false) := getS_none fun z hz => by
      rcases List.mem_cons.1 hz with rfl | hz
      · exact (gt_ne hlt).symm
      · exact (gt_ne (List.lt_trans hlt ((List.pairwise_cons.1 h1).1 z hz))).symm
    have hb : getS (b :: s) b.1 = (b.2, true) := by rw [getS, if_pos rfl]
    rw [mergeD, mergeU, if_neg hn, if_pos hlt, if_neg hn, if_pos hlt, ih h1 h3.2, List.map_cons, List.filter_cons, if_pos (by simp [dKeep, dOf, ha, hb])]
    congr 1
    · simp [dOf, ha, hb]
    · congr 1
      refine List.map_congr_left fun z hz => ?_
      have : bs b.1 < bs z.1 := by
        rcases mergeU_mem hz with hz | hz
        · rcases List.mem_cons.1 hz with rfl | hz
          · exact hlt
          · exact List.lt_trans hlt ((List.pairwise_cons.1 h1).1 z hz)
        · exact h3.1 z hz
      unfold dOf; rw [getS_skip (gt_ne this)]
  | case6 r a s hn hn2 ih =>
    intro h1 h2
    have h3 := List.pairwise_cons.1 h1
    have h4 := List.pairwise_cons.1 h2
    have hg : ∀ t : List Lab, getS (a :: t) a.1 = (a.2, true) := fun t => by rw [getS, if_pos rfl]
    rw [mergeD, mergeU, if_neg hn, if_neg hn2, if_neg hn, if_neg hn2, if_pos rfl, ih h3.2 h4.2, List.map_cons, List.filter_cons, if_neg (by simp [dKeep, dOf, hg])]
    congr 1
    refine List.map_congr_left fun z hz => ?_
    have : bs a.1 < bs z.1 := by
      rcases mergeU_mem hz with hz | hz
      · exact h3.1 z hz
      · exact h4.1 z hz
    unfold dOf; rw [getS_skip (gt_ne this), getS_skip (gt_ne this)]
  | case7 a r b s hn hn2 hne ih =>
    intro h1 h2
    have h3 := List.pairwise_cons.1 h1
    have h4 := List.pairwise_cons.1 h2
    have e : a.1 = b.1 := bs_inj (lt_tri hn hn2)
    have ha : getS (a :: r) a.1 = (a.2, true) := by rw [getS, if_pos rfl]
    have hb : getS (b :: s) a.1 = (b.2, true) := by rw [getS, if_pos e.symm]
    have hv : a.2 ≠ b.2 := fun h => hne (Prod.ext e h)
    rw [mergeD, mergeU, if_neg hn, if_neg hn2, if_neg hn, if_neg hn2, if_neg hne, ih h3.2 h4.2, List.map_cons, List.filter_cons, if_pos (by simp [dKeep, dOf, ha, hb, hv])]
    congr 1
    · simp [dOf, ha, hb]
    · congr 1
      refine List.map_congr_left fun z hz => ?_
      have hz1 : bs a.1 < bs z.1 := by
        rcases mergeU_mem hz with hz | hz
        · exact h3.1 z hz
        · rw [e]; exact h4.1 z hz
      unfold dOf; rw [getS_skip (gt_ne hz1), getS_skip (by rw [← e]; exact gt_ne hz1)]
end Go.B
