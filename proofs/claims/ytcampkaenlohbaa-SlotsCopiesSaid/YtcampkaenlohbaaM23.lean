/- Slots: Copy with a function that keeps what it was asked. -/
import Derived.Test.YtcampkaenlohbaaM22
set_option linter.unusedVariables false
set_option linter.unusedSimpArgs false
namespace Go.Proofs.Ytcampkaenlohbaa
open Go Go.V Go.B

def IL : Lay Int := ⟨fun x => [.int .i64 x], 1, fun _ => rfl, fun x v hv => by simp at hv; subst hv; rfl, by omega⟩
theorem u73 : Try.prog.underlying 73 = some (.slice 3) := by kernel_rfl
theorem i3z : (Try.prog.info? 3).map (fun i => (i.zero, i.size, i.bytes)) = some (some (.int .i64 0), 1, 8) := by kernel_rfl
theorem i73s : (Try.prog.info? 73).map (·.size) = some 1 := by kernel_rfl
/-- What the function was asked, at cb; g: the list's block. -/
def Cl (w : World) (cb B : Nat) (xs : List Int) (g : List Nat) : Prop := ∃ Al l c, BlkT w cb [.slice Al l c] 73 ∧ OwnL IL w B 3 Al l c xs ∧ g = ownF Al
theorem Cl.ext {F : List Nat} {w w' : World} {cb B : Nat} {xs : List Int} {g : List Nat} (h : Cl w cb B xs g) (e : Ext F w w') (h1 : cb ∉ F) (h2 : ∀ b ∈ g, b ∉ F) : Cl w' cb B xs g := by
  obtain ⟨Al, l, c, a, b, rfl⟩ := h
  exact ⟨Al, l, c, a.ext e h1, b.ext e h2, rfl⟩
theorem Cl.lt {w : World} {cb B : Nat} {xs : List Int} {g : List Nat} (h : Cl w cb B xs g) : cb < w.heap.size ∧ ∀ b ∈ g, B ≤ b ∧ b < w.heap.size := by
  obtain ⟨Al, l, c, a, b, rfl⟩ := h
  exact ⟨a.lt, b.base⟩
def gv (v : Int) (k : Nat) : Int := IntKind.wrap .i64 (IntKind.wrap .i64 (3 * v) + ((k + 1 : Nat) : Int))
theorem asked_c {w : World} {cb B : Nat} {xs : List Int} {g : List Nat} (h : Cl w cb B xs g) (hcb : cb < B) (hB : B ≤ w.heap.size) (hl : xs.length ≤ 65536) (v : Int) {R : Ending → World → Prop}
    (k : ∀ w' g', Ext (cb :: g) w w' → Cl w' cb B (xs ++ [v]) g' → (g' = g ∨ ∃ z, g' = [z] ∧ w.heap.size ≤ z) → R (.returned (.int .i64 (gv v xs.length))) w') :
    Calls Try.prog 28 #[.int .i64 v, .pointer (some ⟨cb, 0, none⟩)] w R := by
  obtain ⟨Al, l, c, b, own, rfl⟩ := h
  have hlen := own.len
  have hbase := own.base
  apply berthlaw05_SlotsCopies_l1_nf
  refine ptr_in ⟨_, _, _, b.cell (i := 0) rfl, fun w5 h5 => ?_⟩
  obtain ⟨b5, x5, z5⟩ := box_new (cs := IL.enc v) h5
  obtain ⟨A2, c2, w7, hr7, own7, x7, hat⟩ := (own.ext0 x5).more (P := Try.prog) (t := 73) (ty := 73) (x := v) u73 i3z rfl (by omega) b5 (by have := x5.size; omega) (by omega)
  have e7 : Ext (ownF Al) w w7 := x5.up.trans x7
  have hcn : cb ∉ ownF Al := fun hm => by have := hbase _ hm; omega
  obtain ⟨w9, hr9, b9, x9⟩ := store1 (P := Try.prog) (v := .slice A2 (l + 1) c2) i73s (b.ext e7 hcn) (i := 0) (by simp) rfl rfl
  have hb2 := own7.base
  refine ⟨A2, l + 1, c2, w7, hr7, ptr_in ⟨w9, hr9, ptr_in ⟨_, _, _, b9.cell (i := 0) rfl, lt_eq (y := gv v xs.length) ?_ (k w9 (ownF A2) ?_ ⟨A2, l + 1, c2, b9, own7.ext x9 (fun q hq => by have := hb2 q hq; simp; omega), rfl⟩ ?_)⟩⟩⟩
  · rw [← hlen]; rfl
  · refine ⟨?_, ?_, ?_, ?_, ?_⟩
    · exact x9.os.trans e7.os
    · exact x9.tape.trans e7.tape
    · exact x9.output.trans e7.output
    · exact Nat.le_trans e7.size x9.size
    · intro q hq hm
      simp only [List.mem_cons, not_or] at hm
      rw [x9.same q (by have := e7.size; omega) (by simpa using hm.1), e7.same q hq hm.2]
  · rcases hat with h | h
    · exact .inl h
    · exact .inr ⟨_, h, x5.size⟩
/-! ### what comes of the rows -/
def mapF : Nat → List Rw → List Rw
  | _, [] => []
  | k, x :: xs => if x.held then { x with v := gv x.v k } :: mapF (k + 1) xs else x :: mapF k xs
def asked : List Rw → List Int
  | [] => []
  | x :: xs => if x.held then x.v :: asked xs else asked xs
def dmap : Nat → List DR → List DR
  | _, [] => []
  | k, d :: ds => { d with v := gv d.v k } :: dmap (k + 1) ds
theorem asked_app : ∀ (xs ys : List Rw), asked (xs ++ ys) = asked xs ++ asked ys
  | [], ys => rfl
  | x :: xs, ys => by
    rw [List.cons_append, asked, asked, asked_app xs ys]
    split <;> rfl
theorem mapF_app : ∀ (xs ys : List Rw) (k : Nat), mapF k (xs ++ ys) = mapF k xs ++ mapF (k + (asked xs).length) ys
  | [], ys, k => rfl
  | x :: xs, ys, k => by
    rw [List.cons_append, mapF, mapF, asked]
    split
    · rw [mapF_app xs ys, List.length_cons, List.cons_append, show k + 1 + (asked xs).length = k + ((asked xs).length + 1) by omega]
    · rw [mapF_app xs ys, List.cons_append]
theorem mapF_len : ∀ (xs : List Rw) (k : Nat), (mapF k xs).length = xs.length
  | [], _ => rfl
  | x :: xs, k => by
    rw [mapF]
    split <;> simp [mapF_len xs]
theorem mapF_at : ∀ {xs : List Rw} {k i : Nat} {y : Rw}, (mapF k xs)[i]? = some y → ∃ x, xs[i]? = some x ∧ y.held = x.held ∧ y.name = x.name ∧ (x.held = false → y = x)
  | [], k, i, y, h => by simp [mapF] at h
  | x :: xs, k, i, y, h => by
    rw [mapF] at h
    cases i with
    | zero =>
      refine ⟨x, rfl, ?_⟩
      split at h
      · simp at h; subst h
        exact ⟨rfl, rfl, fun hh => by simp_all⟩
      · simp at h; subst h
        exact ⟨rfl, rfl, fun _ => rfl⟩
    | succ i =>
      split at h
      · obtain ⟨z, h1, h2⟩ := mapF_at (xs := xs) (show (mapF (k + 1) xs)[i]? = some y by simpa using h)
        exact ⟨z, by simpa using h1, h2⟩
      · obtain ⟨z, h1, h2⟩ := mapF_at (xs := xs) (show (mapF k xs)[i]? = some y by simpa using h)
        exact ⟨z, by simpa using h1, h2⟩
theorem mapF_to {xs : List Rw} {k i : Nat} {x : Rw} (h : xs[i]? = some x) : ∃ y, (mapF k xs)[i]? = some y ∧ y.held = x.held ∧ y.name = x.name := by
  have hl : i < (mapF k xs).length := by rw [mapF_len]; exact (List.getElem?_eq_some_iff.1 h).1
  have e := List.getElem?_eq_getElem hl
  obtain ⟨x', h1, h2, h3, _⟩ := mapF_at e
  rw [h] at h1; cases h1
  exact ⟨_, e, h2, h3⟩
theorem mapF_cnt : ∀ (xs : List Rw) (k : Nat), (mapF k xs).countP (·.held) = xs.countP (·.held)
  | [], _ => rfl
  | x :: xs, k => by
    rw [mapF]
    split <;> simp [List.countP_cons, mapF_cnt xs]
theorem asked_len : ∀ (xs : List Rw), (asked xs).length = xs.countP (·.held)
  | [] => rfl
  | x :: xs => by
    rw [asked]
    split <;> rename_i h <;> simp [asked_len xs, h]
theorem drs_map : ∀ (xs : List Rw) (j k : Nat), drsF j (mapF k xs) = dmap k (drsF j xs)
  | [], _, _ => rfl
  | x :: xs, j, k => by
    rw [mapF]
    cases hh : x.held with
    | true => simp [drsF, dmap, hh, drs_map xs]
    | false => simp [drsF, dmap, hh, drs_map xs]
theorem drs_asked : ∀ (xs : List Rw) (j : Nat), (drsF j xs).map (·.v) = asked xs
  | [], _ => rfl
  | x :: xs, j => by
    rw [asked]
    cases hh : x.held with
    | true => simp [drsF, hh, drs_asked xs]
    | false => simp [drsF, hh, drs_asked xs]
theorem dmap_app : ∀ (xs ys : List DR) (k : Nat), dmap k (xs ++ ys) = dmap k xs ++ dmap (k + xs.length) ys
  | [], ys, k => rfl
  | x :: xs, ys, k => by
    rw [List.cons_append, dmap, dmap, dmap_app xs ys, List.length_cons, List.cons_append, show k + 1 + xs.length = k + (xs.length + 1) by omega]
theorem dmap_len : ∀ (xs : List DR) (k : Nat), (dmap k xs).length = xs.length
  | [], _ => rfl
  | x :: xs, k => by rw [dmap, List.length_cons, dmap_len xs, List.length_cons]
def copyW (s : TS) : TS := ⟨s.most, mapF 0 s.rows, cm s.rows, s.low⟩
theorem copyW_ok {s : TS} (h : (copyV s).ok) : (copyW s).ok := by
  have h : TInv s.most s.rows (cm s.rows) s.low := h
  show TInv s.most (mapF 0 s.rows) (cm s.rows) s.low
  refine ⟨by rw [mapF_len]; exact h.len, h.top, fun k v => ?_, fun i hi => ?_, fun x hx => ?_, fun x hx hf => ?_, fun x hx hh => ?_, h.full, by rw [mapF_cnt]; exact h.cnt⟩
  · rw [h.mp]
    constructor
    · rintro ⟨i, x, h1, h2, h3, h4⟩
      obtain ⟨y, g1, g2, g3⟩ := mapF_to (k := 0) h1
      exact ⟨i, y, g1, g2.trans h2, g3.trans h3, h4⟩
    · rintro ⟨i, y, h1, h2, h3, h4⟩
      obtain ⟨x, g1, g2, g3, _⟩ := mapF_at h1
      exact ⟨i, x, g1, g2.symm.trans h2, g3.symm.trans h3, h4⟩
  · obtain ⟨x, h1, h2⟩ := h.low i hi
    obtain ⟨y, g1, g2, _⟩ := mapF_to (k := 0) h1
    exact ⟨y, g1, g2.trans h2⟩
  · rw [List.getLast?_eq_getElem?, mapF_len] at hx
    obtain ⟨y, g1, g2, _, _⟩ := mapF_at hx
    rw [g2]
    exact h.last y (by rw [List.getLast?_eq_getElem?]; exact g1)
  · obtain ⟨i, hi⟩ := List.getElem?_of_mem hx
    obtain ⟨y, g1, g2, _, g4⟩ := mapF_at hi
    rw [g4 (g2.symm.trans hf)]
    exact h.zero y (List.mem_of_getElem? g1) (g2.symm.trans hf)
  · obtain ⟨i, hi⟩ := List.getElem?_of_mem hx
    obtain ⟨y, g1, g2, g3, _⟩ := mapF_at hi
    rw [g3]
    exact h.good y (List.mem_of_getElem? g1) (g2.symm.trans hh)
end Go.Proofs.Ytcampkaenlohbaa
