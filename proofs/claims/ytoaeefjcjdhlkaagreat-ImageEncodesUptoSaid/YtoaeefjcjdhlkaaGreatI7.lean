/- Image: the writer writes bytes. -/
import Derived.Test.YtoaeefjcjdhlkaaGreatI6
import Derived.Lib.AppendStr
import Derived.Room.AppendFits
set_option linter.unusedVariables false
set_option linter.unusedSimpArgs false
namespace Go.Proofs.YtoaeefjcjdhlkaaGreat
open Go Go.V Go.B

theorem uStr : Tryz.prog.underlying 9 = some .string := by kernel_rfl
theorem BL_flat (l : List UInt8) : BL.flat l = l.map fun b => Value.int .u8 (b.toNat : Int) := by
  induction l with
  | nil => rfl
  | cons x l ih => rw [BL.flat_cons, ih]; rfl
theorem strCells_bs (s : ByteArray) : Go.Lib.strCells s = BL.flat (bs s) := (BL_flat _).symm
theorem infoB : ∃ i : TypeInfo, Tryz.prog.info? 5 = some i ∧ i.zero = some (.int .u8 0) ∧ i.size = 1 ∧ i.bytes = 1 := by
  have h := iB
  cases hi : Tryz.prog.info? 5 with
  | none => rw [hi] at h; cases h
  | some i =>
    rw [hi] at h
    simp only [Option.map_some, Option.some.injEq, Prod.mk.injEq] at h
    exact ⟨i, rfl, h.1, h.2.1, h.2.2⟩
/-- append(l, s...). -/
theorem appS {w : World} {B n c : Nat} {A : Option Addr} {xs : List UInt8} {ty : TypeId} (own : OwnL BL w B 5 A n c xs) (s : ByteArray) (hB : B ≤ w.heap.size) (hn : n + s.size ≤ 140737488355328) :
    ∃ A' c' w2, (Builtin.append_ #[28, 9] ty #[.slice A n c, .string s]).run Tryz.prog w = .ok (.slice A' (n + s.size) c') w2 ∧ OwnL BL w2 B 5 A' (n + s.size) c' (xs ++ bs s) ∧ Ext (ownF A) w w2 ∧ (ownF A' = ownF A ∨ ownF A' = [w.heap.size]) := by
  obtain ⟨i, hi, hz, hs, hb⟩ := infoB
  obtain ⟨v', w', hr, ho, hg, hnil⟩ := Go.Lib.run_append_own_string (P := Tryz.prog) w B 28 9 ty 5 i uB uStr hi hz hs hb (.slice A n c) n (BL.flat xs) own s (by simp only [maxLen]; omega) hn hB
  obtain ⟨A', c', rfl⟩ : ∃ A' c', v' = .slice A' (n + s.size) c' := by
    rcases ho.2 with ⟨rfl, h0⟩ | ⟨g, cap, cur, rfl, _⟩
    · exact ⟨none, 0, by rw [h0]⟩
    · exact ⟨_, _, rfl⟩
  refine ⟨A', c', w', hr, ?_, Ext.of_grown hg, ?_⟩
  · unfold OwnL
    rw [BL.flat_app, ← strCells_bs]
    exact ho
  · rcases own.2 with ⟨hv, h0⟩ | ⟨g, cap, cur, hv, hBg, hh, hnc, hm, hsz, htk⟩
    · injection hv with hA hn' hc
      subst hA hn' hc
      rcases Nat.eq_zero_or_pos s.size with h1 | h1
      · have := hnil.2 ⟨rfl, h1⟩
        injection this with hA _ _
        exact .inl (by rw [hA])
      · have h2 := run_append_nil_string (P := Tryz.prog) (w := w) 28 9 ty 5 i (.int .u8 0) uB uStr hi hz s h1 (by omega) (by rw [hb]; omega)
        rw [hr] at h2
        injection h2 with h3
        injection h3 with hA
        exact .inr (by rw [hA]; rfl)
    · injection hv with hA hn' hc
      subst hA hc
      by_cases hroom : n + s.size ≤ c
      · have h2 := Go.Lib.run_append_room_string (P := Tryz.prog) w 28 9 ty 5 i uB uStr hi hs g n c cur hh s hroom (by rw [hsz]; show n + s.size ≤ c * 1; omega)
        rw [hr] at h2
        injection h2 with h3
        injection h3 with hA
        exact .inl (by rw [hA])
      · have h2 := Go.Lib.run_append_grow_string (P := Tryz.prog) w 28 9 ty 5 i (.int .u8 0) uB uStr hi hz ⟨g, 0, none⟩ n c (BL.flat xs) (by rw [hs]; exact own.1) (fun j v hj => by
            obtain ⟨ad, e1, e2⟩ := own.cells j v hj
            cases e1; exact e2) s (by omega) (by omega) (by rw [hb, Nat.mul_one]; have := growslice_fits (need := n + s.size) (old := c) (bytes := 1) (by omega) (by omega); simpa using this)
        rw [hr] at h2
        injection h2 with h3
        injection h3 with hA
        exact .inr (by rw [hA]; rfl)
/-- The writer in its second go: what it has put out. -/
structure OutAt (W : World) (wb mb : Nat) (m : List (ByteArray × Int)) (F : List Nat) (out : List UInt8) (w : World) : Prop where
  ex : Ext [] W w
  wW : W.heap.size ≤ wb
  mW : W.heap.size ≤ mb
  ne : wb ≠ mb
  mp : MapAt w mb Value.string (Value.int .i64) m
  own : ∃ A n c, F = wb :: ownF A ∧ BlkT w wb [.map (some mb), .bool false, .slice A n c] 77 ∧ OwnL BL w W.heap.size 5 A n c out ∧ wb ∉ ownF A ∧ mb ∉ ownF A
theorem OutAt.lt {W w : World} {wb mb : Nat} {m : List (ByteArray × Int)} {F : List Nat} {out : List UInt8} (h : OutAt W wb mb m F out w) : ∀ b ∈ F, b < w.heap.size := fun b hb => by
  obtain ⟨A, n, c, rfl, hbl, ho, _⟩ := h.own
  rcases List.mem_cons.1 hb with rfl | hb
  · exact hbl.lt
  · exact (ho.base b hb).2
theorem OutAt.st {W w w' : World} {wb mb : Nat} {m : List (ByteArray × Int)} {F G : List Nat} {out : List UInt8} (h : OutAt W wb mb m F out w) (e : Ext G w w') (hG : ∀ b ∈ G, w.heap.size ≤ b) : OutAt W wb mb m F out w' := by
  have hl := h.lt
  have hml := h.mp.lt
  obtain ⟨A, n, c, rfl, hbl, ho, h1, h2⟩ := h.own
  exact ⟨h.ex.trans' e (fun b hb => .inr (Nat.le_trans h.ex.size (hG b hb))), h.wW, h.mW, h.ne, h.mp.ext e (fun hm => by have := hG _ hm; omega), A, n, c, rfl, hbl.ext e (fun hm => by have := hG _ hm; have := hbl.lt; omega), ho.ext e (fun b hb hm => by have := hG _ hm; have := (ho.base b hb).2; omega), h1, h2⟩
/-- Behind an append: the slice is put into the writer. -/
theorem OutAt.put {W w w2 : World} {wb mb : Nat} {m : List (ByteArray × Int)} {out out' : List UInt8} {A A' : Option Addr} {n c n' c' : Nat} (h : OutAt W wb mb m (wb :: ownF A) out w) (hbl : BlkT w wb [.map (some mb), .bool false, .slice A n c] 77) (h1 : wb ∉ ownF A) (h2 : mb ∉ ownF A)
    (ho : OwnL BL w2 W.heap.size 5 A' n' c' out') (e : Ext (ownF A) w w2) (hA : ownF A' = ownF A ∨ ∃ g, ownF A' = [g] ∧ w.heap.size ≤ g) :
    ∃ w3, (Instr.storeAt 28 (.pointer (some (Addr.add ⟨wb, 0, none⟩ 2))) (.slice A' n' c')).run Tryz.prog w2 = .ok () w3 ∧ OutAt W wb mb m (wb :: ownF A') out' w3 ∧ Ext (wb :: ownF A) w w3 ∧ Grow w (wb :: ownF A) (wb :: ownF A') := by
  have hwl := hbl.lt
  have hml := h.mp.lt
  have hb2 := hbl.ext e h1
  have nA : wb ∉ ownF A' ∧ mb ∉ ownF A' := by
    rcases hA with hA | ⟨g, hA, hg⟩
    · rw [hA]; exact ⟨h1, h2⟩
    · rw [hA]; simp; omega
  obtain ⟨w3, hr, hb3, e3⟩ := store1a (P := Tryz.prog) (t := 28) (i := 2) (v := .slice A' n' c') i1sl hb2 (by simp) rfl rfl
  have hlA : ∀ b ∈ ownF A, W.heap.size ≤ b := fun b hb => by
    obtain ⟨A0, n0, c0, e0, hbl0, ho0, _⟩ := h.own
    have := List.cons.inj e0
    rw [this.2] at hb
    exact (ho0.base b hb).1
  have e13 : Ext (wb :: ownF A) w w3 := (e.weaken fun b hb => .inl (by simp [hb])).trans' e3 (fun b hb => by simp at hb; subst hb; exact .inl (by simp))
  refine ⟨w3, hr, ⟨h.ex.trans' e13 (fun b hb => .inr ?_), h.wW, h.mW, h.ne, h.mp.ext e13 (by simp; exact ⟨fun e => h.ne e.symm, h2⟩), A', n', c', rfl, hb3, ho.ext e3 (fun b hb hm => by simp at hm; subst hm; exact nA.1 hb), nA.1, nA.2⟩, e13, fun b hb => ?_⟩
  · rcases List.mem_cons.1 hb with rfl | hb
    · exact h.wW
    · exact hlA b hb
  · rcases List.mem_cons.1 hb with rfl | hb
    · exact .inl (by simp)
    · rcases hA with hA | ⟨g, hA, hg⟩
      · rw [hA] at hb; exact .inl (by simp [hb])
      · rw [hA] at hb; simp at hb; subst hb; exact .inr hg
/-- One byte more. -/
theorem OutAt.byte {W w : World} {wb mb : Nat} {m : List (ByteArray × Int)} {F : List Nat} {out : List UInt8} (h : OutAt W wb mb m F out w) (hn : out.length < 70368744177664) (x : UInt8) :
    ∃ A n c, w.cell? (Addr.add ⟨wb, 0, none⟩ 2) = some (.slice A n c) ∧ ∀ w12, w12 = w.alloc (.cells #[.int .u8 (x.toNat : Int)] 5) →
      ∃ A' n' c' w14, (Builtin.append_ #[28, 28] 28 #[.slice A n c, .slice (some ⟨w.heap.size, 0, none⟩) 1 1]).run Tryz.prog w12 = .ok (.slice A' n' c') w14 ∧
      ∃ w16, (Instr.storeAt 28 (.pointer (some (Addr.add ⟨wb, 0, none⟩ 2))) (.slice A' n' c')).run Tryz.prog w14 = .ok () w16 ∧ ∃ F', OutAt W wb mb m F' (out ++ [x]) w16 ∧ Ext F w w16 ∧ Grow w F F' := by
  have hh := h
  obtain ⟨A, n, c, rfl, hbl, ho, h1, h2⟩ := h.own
  refine ⟨A, n, c, cadd hbl rfl, fun w12 h12 => ?_⟩
  obtain ⟨b12, x12, z12⟩ := box_new (cs := BL.enc x) h12
  have hol := ho.len
  have hsz := hh.ex.size
  obtain ⟨A', c', w14, hr, ho', he, hA⟩ := (ho.ext0 x12).more (P := Tryz.prog) (t := 28) (ty := 28) uB iB rfl (by omega) b12 (by omega) (by omega)
  have e14 : Ext (ownF A) w w14 := x12.up.trans' he (fun b hb => .inl hb)
  obtain ⟨w16, hr16, h16, e16, g16⟩ := hh.put hbl h1 h2 ho' e14 (hA.imp id fun h => ⟨_, h, by omega⟩)
  exact ⟨A', n + 1, c', w14, hr, w16, hr16, _, h16, e16, g16⟩
/-- A text more. -/
theorem OutAt.str {W w : World} {wb mb : Nat} {m : List (ByteArray × Int)} {F : List Nat} {out : List UInt8} (h : OutAt W wb mb m F out w) (s : ByteArray) (hn : out.length + s.size < 70368744177664) :
    ∃ A n c, w.cell? (Addr.add ⟨wb, 0, none⟩ 2) = some (.slice A n c) ∧ 
      ∃ A' n' c' w14, (Builtin.append_ #[28, 9] 28 #[.slice A n c, .string s]).run Tryz.prog w = .ok (.slice A' n' c') w14 ∧
      ∃ w16, (Instr.storeAt 28 (.pointer (some (Addr.add ⟨wb, 0, none⟩ 2))) (.slice A' n' c')).run Tryz.prog w14 = .ok () w16 ∧ ∃ F', OutAt W wb mb m F' (out ++ bs s) w16 ∧ Ext F w w16 ∧ Grow w F F' := by
  have hh := h
  obtain ⟨A, n, c, rfl, hbl, ho, h1, h2⟩ := h.own
  have hol := ho.len
  obtain ⟨A', c', w14, hr, ho', he, hA⟩ := appS (ty := 28) ho s hh.ex.size (by omega)
  obtain ⟨w16, hr16, h16, e16, g16⟩ := hh.put hbl h1 h2 ho' he (hA.imp id fun h => ⟨_, h, Nat.le_refl _⟩)
  exact ⟨A, n, c, cadd hbl rfl, A', n + s.size, c', w14, hr, w16, hr16, _, h16, e16, g16⟩
theorem sevens_len : ∀ (k n : Nat), n < 2 ^ (7 * k) → (sevens n).length ≤ k ∨ k = 0
  | 0, n, h => .inr rfl
  | k + 1, n, h => by
    left
    by_cases hn : n < 128
    · rw [sevens_small hn]; simp
    · rw [sevens_big hn, List.length_cons]
      have e : 2 ^ (7 * (k + 1)) = 128 * 2 ^ (7 * k) := by rw [Nat.mul_add, Nat.pow_add, Nat.mul_comm]
      have := sevens_len k (n / 128) (by rw [e] at h; omega)
      rcases this with h1 | h1
      · omega
      · subst h1; simp at h; omega
theorem sevens_ten {n : Nat} (h : n < 18446744073709551616) : (sevens n).length ≤ 10 := by
  have := sevens_len 10 n (Nat.lt_of_lt_of_le h (by decide))
  omega
theorem byteN {n : Nat} : (((UInt8.ofNat (n % 256)).toNat : Nat) : Int) = IntKind.wrap .u8 (n : Int) := by
  rw [u8n _ (by omega), wu8]; omega
/-- A count. -/
theorem OutAt.count {W w : World} {wb mb : Nat} {m : List (ByteArray × Int)} {F : List Nat} {out : List UInt8} (h : OutAt W wb mb m F out w) {n : Nat} (hn : n < 18446744073709551616) (hl : out.length + 10 < 70368744177664) {R : Ending → World → Prop}
    (k : ∀ w' F', OutAt W wb mb m F' (out ++ sevens n) w' → Ext F w w' → Grow w F F' → R (.returned undef) w') : Calls Tryz.prog 32 #[.pointer (some ⟨wb, 0, none⟩), .int .u64 (n : Int)] w R := by
  apply image_writer_count_nf
  have hs10 := sevens_ten hn
  have hfl : w.cell? (Addr.add ⟨wb, 0, none⟩ 1) = some (.bool false) := by
    obtain ⟨A, n, c, rfl, hbl, ho, h1, h2⟩ := h.own
    exact cadd hbl rfl
  refine ptr_in ⟨_, hfl, sel_false rfl ?_⟩
  refine ⟨fun t w' => ∃ (q : Nat) (p : List UInt8) (F' : List Nat), t = q ∧ sevens n = p ++ sevens q ∧ OutAt W wb mb m F' (out ++ p) w' ∧ Ext F w w' ∧ Grow w F F', fun t _ => t.toNat, ⟨n, [], F, rfl, rfl, by simpa using h, Ext.refl _ _, Grow.refl _ _⟩, ?_⟩
  rintro _ _ w9 ⟨q, p, F9, rfl, hp, h9, e9, g9⟩
  have hpl := congrArg List.length hp
  rw [List.length_append] at hpl
  have hq1 := sevens_pos q
  refine sel_dec (fun hgt => ?_) (fun hle => ?_)
  · have hq : ¬ q < 128 := by omega
    obtain ⟨A, l, c, hc, hap⟩ := h9.byte (by simp; omega) (UInt8.ofNat (q % 128 + 128))
    refine ptr_in ⟨A, l, c, hc, fun w12 h12 => ?_⟩
    rw [low_byte] at h12
    obtain ⟨A', l', c', w14, hr, w16, hr16, F', h16, e16, g16⟩ := hap w12 (by rw [h12, u8n _ (by omega)])
    refine ⟨A', l', c', w14, hr, ptr_in ⟨w16, hr16, ?_, ?_⟩⟩
    · rw [fdiv7]
      exact ⟨q / 128, p ++ [UInt8.ofNat (q % 128 + 128)], F', rfl, by rw [hp, sevens_big hq]; simp, by rw [← List.append_assoc]; exact h16, e9.grow g9 e16, g9.trans g16 e9.size⟩
    · rw [fdiv7]; simp only [Int.toNat_natCast]; omega
  · have hq : q < 128 := by omega
    obtain ⟨A, l, c, hc, hap⟩ := h9.byte (by simp; omega) (UInt8.ofNat q)
    refine ptr_in ⟨A, l, c, hc, fun w12 h12 => ?_⟩
    obtain ⟨A', l', c', w14, hr, w16, hr16, F', h16, e16, g16⟩ := hap w12 (by rw [h12, u8n _ (by omega), wu8, show ((q : Nat) : Int) % 256 = ((q : Nat) : Int) by omega])
    refine ⟨A', l', c', w14, hr, ptr_in ⟨w16, hr16, k w16 F' ?_ (e9.grow g9 e16) (g9.trans g16 e9.size)⟩⟩
    rw [hp, sevens_small hq, ← List.append_assoc]
    exact h16
/-- The bytes of pieces, by what the map holds. -/
def pieceM (m : List (ByteArray × Int)) : Piece → List UInt8
  | .count n => sevens n
  | .num n => sevens (numCode n)
  | .truth b => [if b then 1 else 0]
  | .text s => sevens ((mget m s).getD 0).toNat
def piecesM (m : List (ByteArray × Int)) (ps : List Piece) : List UInt8 := ps.flatMap (pieceM m)
theorem piecesM_snoc (m : List (ByteArray × Int)) (ps : List Piece) (p : Piece) : piecesM m (ps ++ [p]) = piecesM m ps ++ pieceM m p := by simp [piecesM]
theorem piecesM_B {m : List (ByteArray × Int)} {T : List ByteArray} (h : ∀ s ∈ T, mget m s = some ((idxS T s : Nat) : Int)) : ∀ {ps : List Piece}, (∀ s ∈ texts ps, s ∈ T) → piecesM m ps = piecesB T ps
  | [], _ => rfl
  | p :: ps, hs => by
    rw [piecesB_cons, ← piecesM_B h (ps := ps) (fun s hm => hs s (by rw [← List.singleton_append, texts_app]; simp [hm]))]
    show pieceM m p ++ piecesM m ps = _
    congr 1
    cases p with
    | text s =>
      simp only [pieceM, pieceB]
      rw [h s (hs s (by simp [texts, textOf]))]
      simp
    | _ => rfl
theorem writ (W : World) (wb mb M : Nat) (m : List (ByteArray × Int)) (hm : SmallM m) (o0 : List UInt8) (hM : o0.length + 10 * M + 20 ≤ 70368744177664) : ∃ G : Wtr W wb M, ∀ F ps w, G.At F ps w ↔ (OutAt W wb mb m F (o0 ++ piecesM m ps) w ∧ (piecesM m ps).length ≤ 10 * ps.length) := by
  have core : ∀ {F ps w} {n : Nat} {p : Piece} {R : Ending → World → Prop}, (OutAt W wb mb m F (o0 ++ piecesM m ps) w ∧ (piecesM m ps).length ≤ 10 * ps.length) → n < 18446744073709551616 → ps.length < M → pieceM m p = sevens n →
      (∀ w' F', (OutAt W wb mb m F' (o0 ++ piecesM m (ps ++ [p])) w' ∧ (piecesM m (ps ++ [p])).length ≤ 10 * (ps ++ [p]).length) → Ext F w w' → Grow w F F' → R (.returned undef) w') → Calls Tryz.prog 32 #[.pointer (some ⟨wb, 0, none⟩), .int .u64 (n : Int)] w R := fun {F ps w n p R} h hn hl hp k => by
    have h10 := sevens_ten hn
    refine h.1.count hn (by simp; omega) fun w' F' h' e g => k w' F' ⟨?_, ?_⟩ e g
    · rw [piecesM_snoc, hp, ← List.append_assoc]; exact h'
    · rw [piecesM_snoc, hp]; simp; omega
  have fl : ∀ {F ps w}, (OutAt W wb mb m F (o0 ++ piecesM m ps) w ∧ (piecesM m ps).length ≤ 10 * ps.length) → w.cell? (Addr.add ⟨wb, 0, none⟩ 1) = some (.bool false) ∧ w.cell? (Addr.add ⟨wb, 0, none⟩ 0) = some (.map (some mb)) := fun h => by
    obtain ⟨A, n, c, rfl, hbl, ho, h1, h2⟩ := h.1.own
    exact ⟨cadd hbl rfl, cadd hbl rfl⟩
  refine ⟨⟨fun F ps w => OutAt W wb mb m F (o0 ++ piecesM m ps) w ∧ (piecesM m ps).length ≤ 10 * ps.length, fun h => h.1.ex, fun h => h.1.lt, fun h e hG => ⟨h.1.st e hG, h.2⟩, fun {F ps w R n} h hn hl k => core (p := .count n) h hn hl rfl k, fun {F ps w n R} h hn hl k => ?_, fun {F ps w b R} h hl k => ?_, fun {F ps w s R} h hs hl k => ?_⟩, fun _ _ _ => Iff.rfl⟩
  · apply image_writer_number_nf
    rw [num_code hn]
    exact core (p := .num n) h (numCode_lt hn) hl rfl fun w' F' a e g => ⟨rfl, k w' F' a e g⟩
  · apply image_writer_truth_nf
    cases b with
    | true => exact sel_true rfl (core (n := 1) (p := .truth true) h (by omega) hl (by rw [sevens_small (by omega)]; rfl) fun w' F' a e g => ⟨rfl, k w' F' a e g⟩)
    | false => exact sel_false rfl (core (n := 0) (p := .truth false) h (by omega) hl (by rw [sevens_small (by omega)]; rfl) fun w' F' a e g => ⟨rfl, k w' F' a e g⟩)
  · apply image_writer_text_nf
    have hlook : ∃ x : Int, (Instr.lookup 75 (.map (some mb)) (.string s) false).run Tryz.prog w = .ok (.int .i64 x) w ∧ 0 ≤ x ∧ x < 4611686018427387904 ∧ x = (mget m s).getD 0 := by
      cases hg : mget m s with
      | none => exact ⟨0, (look_no kS uM zI h.1.mp hg).1, by omega, by omega, rfl⟩
      | some x => exact ⟨x, (look_yes kS uM zI h.1.mp hg).1, (hm s x hg).1, (hm s x hg).2, rfl⟩
    obtain ⟨x, hr, h0, h1, hx⟩ := hlook
    refine ptr_in ⟨_, (fl h).1, sel_false rfl (ptr_in ⟨_, (fl h).2, x, w, hr, ?_⟩)⟩
    rw [wu64 (by omega), show x = ((x.toNat : Nat) : Int) by omega]
    exact core (p := .text s) h (by omega) hl (by rw [pieceM, hx]) fun w' F' a e g => ⟨rfl, k w' F' a e g⟩
end Go.Proofs.YtoaeefjcjdhlkaaGreat
