/- Image: the document's pieces. -/
import Derived.Test.YtoaeefjcjdhlkaaGreatI26
set_option linter.unusedVariables false
set_option linter.unusedSimpArgs false
namespace Go.Proofs.YtoaeefjcjdhlkaaGreat
open Go Go.V Go.B

def encP : Piece → List Value
  | .count n => [.int .i64 1, .int .i64 (n : Int), .string ByteArray.empty]
  | .num n => [.int .i64 2, .int .i64 n, .string ByteArray.empty]
  | .truth b => [.int .i64 3, .int .i64 (if b then 1 else 0), .string ByteArray.empty]
  | .text s => [.int .i64 4, .int .i64 0, .string s]
def PL : Lay Piece := ⟨encP, 3, fun p => by cases p <;> rfl, fun p v hv => by cases p <;> (simp [encP] at hv; rcases hv with rfl | rfl | rfl <;> rfl), by omega⟩
theorem uPc : Tryz.prog.underlying 54 = some (.slice 61) := by kernel_rfl
theorem iPc : (Tryz.prog.info? 61).map (fun i => (i.zero, i.size, i.bytes)) = some (some (.agg #[.int .i64 0, .int .i64 0, .string ByteArray.empty]), 3, 32) := by kernel_rfl
/-- Pieces gathered since W. -/
structure Pc (W w : World) (A : Option Addr) (n c : Nat) (ps : List Piece) : Prop where
  ex : Ext [] W w
  own : OwnL PL w W.heap.size 61 A n c ps
theorem Pc.nil (W : World) : Pc W W none 0 0 [] := ⟨Ext.refl _ _, OwnL.nil _ _ _⟩
theorem Pc.len {W w : World} {A : Option Addr} {n c : Nat} {ps : List Piece} (h : Pc W w A n c ps) : ps.length = n := h.own.len
theorem Pc.ext0 {W w w' : World} {A : Option Addr} {n c : Nat} {ps : List Piece} (h : Pc W w A n c ps) (e : Ext [] w w') : Pc W w' A n c ps := ⟨h.ex.trans e, h.own.ext0 e⟩
/-- What an append to the pieces gives. -/
abbrev After (W w : World) (A : Option Addr) (ps : List Piece) (R : Ending → World → Prop) : Prop := ∀ A' n' c' w', Pc W w' A' n' c' ps → Ext (ownF A) w w' → (∀ y ∈ ownF A', y ∈ ownF A ∨ w.heap.size ≤ y) → R (.returned (.slice A' n' c')) w'
theorem Pc.put {W w w3 : World} {A : Option Addr} {n c : Nat} {ps : List Piece} (h : Pc W w A n c ps) (hn : n ≤ 1000000000000) (p : Piece) {R : Ending → World → Prop} (h3 : w3 = w.alloc (.cells ⟨encP p⟩ 61)) (k : After W w A (ps ++ [p]) R) :
    ∃ A4 c4 w5, (Builtin.append_ #[54, 54] 54 #[.slice A n c, .slice (some ⟨w.heap.size, 0, none⟩) 1 1]).run Tryz.prog w3 = .ok (.slice A4 (n + 1) c4) w5 ∧ R (.returned (.slice A4 (n + 1) c4)) w5 := by
  obtain ⟨b3, x3, z3⟩ := box_new h3
  have hW := h.ex.size
  obtain ⟨A', c', w2, hr, ho, he, hat⟩ := OwnL.more (L := PL) (P := Tryz.prog) (t := 54) (ty := 54) (x := p) (T := 61) uPc iPc rfl (by omega) (h.own.ext0 x3) b3 (by omega) (by omega)
  refine ⟨A', c', w2, hr, k A' _ c' w2 ⟨(h.ex.trans x3).trans' he fun y hy => .inr (h.own.base y hy).1, ho⟩ (x3.up.trans he) fun y hy => ?_⟩
  rcases hat with e | e
  · exact .inl (e ▸ hy)
  · rw [e] at hy; simp at hy; exact .inr (by omega)
section
variable {W w : World} {A : Option Addr} {n c : Nat} {ps : List Piece} (h : Pc W w A n c ps) (hn : n ≤ 1000000000000) {R : Ending → World → Prop}
include h hn
theorem pNum_c {z : Int} (k : After W w A (ps ++ [.num z]) R) : Calls Tryz.prog 43 #[.slice A n c, .int .i64 z] w R := by
  apply berthref26_number_nf
  intro w3 h3
  obtain ⟨A4, c4, w5, hr, hR⟩ := h.put hn (.num z) h3 k
  exact ⟨A4, _, c4, w5, hr, hR⟩
theorem pCount_c {z : Nat} (k : After W w A (ps ++ [.count z]) R) : Calls Tryz.prog 44 #[.slice A n c, .int .i64 (z : Int)] w R := by
  apply berthref26_count_nf
  intro w3 h3
  obtain ⟨A4, c4, w5, hr, hR⟩ := h.put hn (.count z) h3 k
  exact ⟨A4, _, c4, w5, hr, hR⟩
theorem pText_c {s : ByteArray} (k : After W w A (ps ++ [.text s]) R) : Calls Tryz.prog 47 #[.slice A n c, .string s] w R := by
  apply berthref26_text_nf
  intro w3 h3
  obtain ⟨A4, c4, w5, hr, hR⟩ := h.put hn (.text s) h3 k
  exact ⟨A4, _, c4, w5, hr, hR⟩
theorem pTruth_c {b : Bool} (k : After W w A (ps ++ [.truth b]) R) : Calls Tryz.prog 48 #[.slice A n c, .bool b] w R := by
  apply berthref26_truth_nf
  cases b with
  | true =>
    refine sel_true rfl fun w3 h3 => ?_
    obtain ⟨A4, c4, w5, hr, hR⟩ := h.put hn (.truth true) h3 k
    exact ⟨A4, _, c4, w5, hr, hR⟩
  | false =>
    refine sel_false rfl fun w3 h3 => ?_
    obtain ⟨A4, c4, w5, hr, hR⟩ := h.put hn (.truth false) h3 k
    exact ⟨A4, _, c4, w5, hr, hR⟩
end
/-- Two appends in a row. -/
theorem After.trans {W w w1 : World} {A A1 : Option Addr} {ps : List Piece} {R : Ending → World → Prop} (k : After W w A ps R) (e : Ext (ownF A) w w1) (g : ∀ y ∈ ownF A1, y ∈ ownF A ∨ w.heap.size ≤ y) : After W w1 A1 ps R := fun A' n' c' w' h' e' g' => by
  have hs := e.size
  refine k A' n' c' w' h' (e.trans' e' fun y hy => (g y hy)) fun y hy => ?_
  rcases g' y hy with h1 | h1
  · exact g y h1
  · exact .inr (by omega)
set_option maxRecDepth 8000 in
theorem pLabels_c {W w : World} {A : Option Addr} {n c : Nat} {ps : List Piece} (h : Pc W w A n c ps) {l : List (List D)} {B : Option Addr} {nb cb m : Nat} {xs : List (Row (m + 1))} (hl : LRep W tLabel l B nb m xs) (hn : n + 1 + (flatL l).length ≤ 1000000000000) {R : Ending → World → Prop} (k : After W w A (ps ++ (.count l.length :: flatL l)) R) :
    Calls Tryz.prog 73 #[.slice A n c, .slice B nb cb] w R := by
  apply berthref26_labels_nf
  have hll := hl.ll
  have hle := hl.le
  refine pCount_c h (by omega) fun A3 n3 c3 w5 p5 e5 g5 => ⟨_, _, _, rfl, ?_⟩
  refine ⟨fun A' l' c' t w' => ∃ a : Nat, t = (a : Int) ∧ a ≤ nb ∧ Pc W w' A' l' c' (ps ++ (.count nb :: flatL (l.take a))) ∧ Ext (ownF A) w w' ∧ (∀ y ∈ ownF A', y ∈ ownF A ∨ w.heap.size ≤ y), fun _ _ _ t _ => nb - t.toNat, ⟨0, rfl, by omega, by simpa [flatL] using p5, e5, g5⟩, ?_⟩
  rintro A' n' c' _ _ w11 ⟨a, rfl, ha, p11, e11, g11⟩
  have hpl := p11.len
  refine sel_dec (fun hlt => ?_) (fun hge => ?_)
  rotate_left
  · obtain rfl : a = nb := by omega
    rw [List.take_of_length_le (by omega), ← hll] at p11
    exact k A' n' c' w11 p11 e11 g11
  obtain ⟨r, vs, ad, hra, htr, hrr, rfl, hts, rd, -⟩ := hl.row (a := a) (by omega)
  have hsn := flatL_snoc hra
  have hmo := flatL_take_le (l := l) (a := a + 1)
  rw [hsn, List.length_append] at hmo
  replace rd := row_at (k := 2) hts rfl (Ext.refl [] W) rd
  obtain ⟨s0, r0, u0, rfl, rfl, z0, htr, hrr⟩ := inv_str htr hrr
  obtain ⟨s1, r1, u1, rfl, rfl, z1, htr, hrr⟩ := inv_str htr hrr
  obtain ⟨rfl, rfl⟩ := inv_nil htr hrr
  have hn' : n' = n + 1 + (flatL (l.take a)).length := by
    have := h.len
    rw [← hpl]
    simp only [List.length_append, List.length_cons]
    omega
  have hf2 : (flatR [D.str s0, D.str s1]).length = 2 := rfl
  have c1 : w11.cell? (Addr.add (Addr.add ad (Int.toNat (a : Int) * 2)) 0) = some (.string s0) := cell_ext p11.ex (rd 0 _ rfl) (by simp)
  refine when_dec ⟨by omega, by omega⟩ (ptr_in ⟨_, c1, pText_c p11 (by omega) fun A2 n2 c2 w16 p16 e16 g16 => ⟨_, _, _, rfl, when_dec ⟨by omega, by omega⟩ (ptr_in ⟨_, cell_ext p16.ex (rd 1 _ rfl) (by simp), ?_⟩)⟩⟩)
  have h16 := p16.len
  refine pText_c p16 (by rw [← h16, List.length_append, hpl]; simp; omega) fun A4 n4 c4 w21 p21 e21 g21 => ⟨_, _, _, rfl, ?_⟩
  rw [up64 a (by omega)]
  have s11 := e11.size
  have s16 := e16.size
  refine ⟨⟨a + 1, rfl, by omega, ?_, (e11.trans' e16 g11).trans' e21 fun y hy => ?_, fun y hy => ?_⟩, by simp only [Int.toNat_natCast]; omega⟩
  · rw [hsn]
    simpa [flatR, flatD] using p21
  · rcases g16 y hy with h1 | h1
    · exact g11 y h1
    · exact .inr (by omega)
  · rcases g21 y hy with h1 | h1
    · rcases g16 y h1 with h2 | h2
      · exact g11 y h2
      · exact .inr (by omega)
    · exact .inr (by omega)
set_option maxRecDepth 8000 in
theorem pItems_c {W w : World} {A : Option Addr} {n c : Nat} {ps : List Piece} (h : Pc W w A n c ps) {l : List (List D)} {B : Option Addr} {nb cb m : Nat} {xs : List (Row (m + 1))} (hl : LRep W tItem l B nb m xs) (hn : n + 1 + (flatL l).length ≤ 1000000000000) {R : Ending → World → Prop} (k : After W w A (ps ++ (.count l.length :: flatL l)) R) :
    Calls Tryz.prog 74 #[.slice A n c, .slice B nb cb] w R := by
  apply berthref26_items_nf
  have hll := hl.ll
  have hle := hl.le
  refine pCount_c h (by omega) fun A3 n3 c3 w5 p5 e5 g5 => ⟨_, _, _, rfl, ?_⟩
  refine ⟨fun A' l' c' t w' => ∃ a : Nat, t = (a : Int) ∧ a ≤ nb ∧ Pc W w' A' l' c' (ps ++ (.count nb :: flatL (l.take a))) ∧ Ext (ownF A) w w' ∧ (∀ y ∈ ownF A', y ∈ ownF A ∨ w.heap.size ≤ y), fun _ _ _ t _ => nb - t.toNat, ⟨0, rfl, by omega, by simpa [flatL] using p5, e5, g5⟩, ?_⟩
  rintro A' n' c' _ _ w11 ⟨a, rfl, ha, p11, e11, g11⟩
  have hpl := p11.len
  refine sel_dec (fun hlt => ?_) (fun hge => ?_)
  rotate_left
  · obtain rfl : a = nb := by omega
    rw [List.take_of_length_le (by omega), ← hll] at p11
    exact k A' n' c' w11 p11 e11 g11
  obtain ⟨r, vs, ad, hra, htr, hrr, rfl, hts, rd, -⟩ := hl.row (a := a) (by omega)
  have hsn := flatL_snoc hra
  have hmo := flatL_take_le (l := l) (a := a + 1)
  rw [hsn, List.length_append] at hmo
  replace rd := row_at (k := 2) hts rfl (Ext.refl [] W) rd
  obtain ⟨s0, r0, u0, rfl, rfl, z0, htr, hrr⟩ := inv_str htr hrr
  obtain ⟨s1, r1, u1, rfl, rfl, z1, htr, hrr⟩ := inv_int htr hrr
  obtain ⟨rfl, rfl⟩ := inv_nil htr hrr
  have hn' : n' = n + 1 + (flatL (l.take a)).length := by
    have := h.len
    rw [← hpl]
    simp only [List.length_append, List.length_cons]
    omega
  have hf2 : (flatR [D.str s0, D.int s1]).length = 2 := rfl
  have c1 : w11.cell? (Addr.add (Addr.add ad (Int.toNat (a : Int) * 2)) 0) = some (.string s0) := cell_ext p11.ex (rd 0 _ rfl) (by simp)
  refine when_dec ⟨by omega, by omega⟩ (ptr_in ⟨_, c1, pText_c p11 (by omega) fun A2 n2 c2 w16 p16 e16 g16 => ⟨_, _, _, rfl, when_dec ⟨by omega, by omega⟩ (ptr_in ⟨_, cell_ext p16.ex (rd 1 _ rfl) (by simp), ?_⟩)⟩⟩)
  have h16 := p16.len
  refine pNum_c p16 (by rw [← h16, List.length_append, hpl]; simp; omega) fun A4 n4 c4 w21 p21 e21 g21 => ⟨_, _, _, rfl, ?_⟩
  rw [up64 a (by omega)]
  have s11 := e11.size
  have s16 := e16.size
  refine ⟨⟨a + 1, rfl, by omega, ?_, (e11.trans' e16 g11).trans' e21 fun y hy => ?_, fun y hy => ?_⟩, by simp only [Int.toNat_natCast]; omega⟩
  · rw [hsn]
    simpa [flatR, flatD] using p21
  · rcases g16 y hy with h1 | h1
    · exact g11 y h1
    · exact .inr (by omega)
  · rcases g21 y hy with h1 | h1
    · rcases g16 y h1 with h2 | h2
      · exact g11 y h2
      · exact .inr (by omega)
    · exact .inr (by omega)
end Go.Proofs.YtoaeefjcjdhlkaaGreat
