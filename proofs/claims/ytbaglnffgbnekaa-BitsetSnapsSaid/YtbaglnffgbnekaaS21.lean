/- Sets: the iterator over a set's members; two walks at one time. -/
import Derived.Test.YtbaglnffgbnekaaS10
import Derived.Test.YtbaglnffgbnekaaRg
set_option linter.unusedVariables false
set_option linter.unusedSimpArgs false
namespace Go.Proofs.Ytbaglnffgbnekaa
open Go Go.V Go.B

theorem cells_int {w : World} {A : Option Addr} {xs : List Int} (h : Cells w A (ints .i64 xs)) {j : Nat} {x : Int} (hx : xs[j]? = some x) : ∃ ad, A = some ad ∧ w.cell? (Addr.add ad (Int.toNat (j : Int) * 1)) = some (.int .i64 x) := by
  obtain ⟨ad, hA, hc⟩ := h j (.int .i64 x) (by simp [ints, hx])
  exact ⟨ad, hA, by rw [Int.toNat_natCast, Nat.mul_one]; exact hc⟩
theorem i25s : (Try.prog.info? 25).map (·.size) = some 1 := by kernel_rfl
theorem i3s : (Try.prog.info? 3).map (·.size) = some 1 := by kernel_rfl
theorem i4s : (Try.prog.info? 4).map (·.size) = some 1 := by kernel_rfl
theorem i30s : (Try.prog.info? 30).map (·.size) = some 1 := by kernel_rfl
/-- What an iterator goes over. -/
def Held (w : World) (b : Nat) (A : Option Addr) (n c : Nat) (xs : List Int) : Prop := BlkT w b [.slice A n c] 25 ∧ Cells w A (ints .i64 xs)
theorem Held.ext {F : List Nat} {w w' : World} {b n c : Nat} {A : Option Addr} {xs : List Int} (h : Held w b A n c xs) (e : Ext F w w') (hb : b ∉ F) (hA : ∀ g ∈ ownF A, g ∉ F) : Held w' b A n c xs := ⟨h.1.ext e hb, h.2.ext e hA⟩
theorem All_c {w : World} {q : Option Addr} {S : SetV} {f : List Nat} (h : RefAt w q S f) {R : Ending → World → Prop}
    (k : ∀ b A c w', Ext [] w w' → w.heap.size ≤ b → b < w'.heap.size → Held w' b A S.count c S.mi → (∀ g ∈ ownF A, w.heap.size ≤ g ∧ g < w'.heap.size) → R (.returned (.func (.func 67) #[] #[.pointer (some ⟨b, 0, none⟩)])) w') :
    Calls Try.prog 40 #[.pointer q] w R := by
  apply bitset_Set_All_nf
  refine Members_c h fun A c w4 e4 own4 => ⟨_, _, _, rfl, fun w5 h5 => ?_⟩
  obtain ⟨b5, x5, z5⟩ := box_new (cs := [.slice none 0 0]) h5
  obtain ⟨w6, hr6, b6, x6⟩ := store1 (P := Try.prog) (v := .slice A S.count c) i25s b5 (i := 0) (by simp) rfl rfl
  have hbase := own_base own4
  have s4 := e4.size
  have s6 := x6.size
  refine ⟨w6, hr6, k w4.heap.size A c w6 ((e4.trans x5).trans' x6 (fun b hb => .inr (by simp at hb; omega))) s4 (by omega) ⟨b6, ((own_cells own4).ext0 x5).ext x6 (fun g hg => by have := hbase g hg; simp; omega)⟩ (fun g hg => by have := hbase g hg; omega)⟩
theorem All_iter {b n c : Nat} {A : Option Addr} {xs : List Int} (hn : xs.length = n) (hb : n ≤ 65536) :
    Iter Try.prog (fun x : Int => [Value.int .i64 x]) 67 [.pointer (some ⟨b, 0, none⟩)] xs (fun w => Held w b A n c xs) := by
  intro yl w J Q R j0 st hK hy k1 k2
  apply bitset_Set_All_l1_nf
  refine ptr_in ⟨_, _, _, (hK _ _ j0).1.cell (i := 0) rfl, fun t w' => ∃ a : Nat, t = a ∧ a ≤ n ∧ J (xs.take a) w', fun t _ => n - t.toNat, ⟨0, rfl, by omega, j0⟩, ?_⟩
  rintro _ _ w1 ⟨a, rfl, ha, j1⟩
  refine sel_dec (fun hlt => ?_) (fun hge => ?_)
  · have hlt : a < n := by omega
    have hx : xs[a]? = some (xs[a]'(by omega)) := List.getElem?_eq_getElem (by omega)
    obtain ⟨ad, rfl, hc⟩ := cells_int (hK _ _ j1).2 hx
    refine when_dec ⟨by omega, by omega⟩ (ptr_in ⟨_, hc, hy (xs.take a) (xs[a]'(by omega)) (xs.drop (a + 1)) w1 ?_ j1 _ (fun w2 j2 => ⟨_, rfl, sel_false rfl ?_⟩) (fun w2 q2 => ⟨_, rfl, sel_true rfl (k2 w2 q2)⟩)⟩)
    · rw [← List.drop_eq_getElem_cons]
      exact (List.take_append_drop _ _).symm
    · rw [up64 a (by omega)]
      exact ⟨⟨a + 1, rfl, by omega, by rw [snoc_at hx]; exact j2⟩, by simp only [Int.toNat_natCast]; omega⟩
  · have : a = n := by omega
    subst this
    rw [List.take_of_length_le (by omega)] at j1
    exact k1 w1 j1
theorem split_lt {α : Type} {ys ps rest : List α} {y : α} (h : ys = ps ++ y :: rest) : ps.length < ys.length := by
  rw [h]; simp
theorem at_len {α : Type} {ys ps rest : List α} {y : α} (h : ys = ps ++ y :: rest) : ys[ps.length]? = some y := by
  rw [h]; simp
set_option maxRecDepth 4000 in
theorem pairs_c {w : World} {b n c n' c' : Nat} {A A' : Option Addr} {xs : List Int} (hn : xs.length = n) (hb : n ≤ 65536) (hh : Held w b A n c xs) (hA : ∀ g ∈ ownF A, g < w.heap.size) (hw : Cells w A' (ints .i64 xs)) (hn' : n' = n) (hA' : ∀ g ∈ ownF A', g < w.heap.size) {R : Ending → World → Prop} (k : ∀ w', Ext [] w w' → R (.returned (.bool true)) w') :
    Calls Try.prog 46 #[.func (.func 67) #[] #[.pointer (some ⟨b, 0, none⟩)], .slice A' n' c'] w R := by
  subst hn'
  have hbw := hh.1.lt
  apply berthlaw01_pairs_nf
  intro w5 h5 w6 h6 w7 h7 w8 h8
  obtain ⟨b5, x5, z5⟩ := box_new (cs := [.func (.func 67) #[] #[.pointer (some ⟨b, 0, none⟩)]]) h5
  obtain ⟨b6, x6, z6⟩ := box_new (cs := [.slice A' n' c']) h6
  obtain ⟨b7, x7, z7⟩ := box_new (cs := [.bool false]) h7
  obtain ⟨b8, x8, z8⟩ := box_new (cs := [.int .i64 0]) h8
  obtain ⟨w9, hr9, b9, x9⟩ := store1 (P := Try.prog) (v := .int .i64 0) i3s b8 (i := 0) (by simp) rfl rfl
  have e58 : Ext [] w5 w8 := (x6.trans x7).trans x8
  have e9 : Ext [] w w9 := (x5.trans e58).trans' x9 (fun b hb => .inr (by simp at hb; omega))
  have s9 := x9.size
  have bf : BlkT w9 w.heap.size _ _ := (b5.ext0 e58).ext x9 (by simp; omega)
  have bw : BlkT w9 w5.heap.size _ _ := ((b6.ext0 x7).ext0 x8).ext x9 (by simp; omega)
  have br : BlkT w9 w6.heap.size _ _ := (b7.ext0 x8).ext x9 (by simp; omega)
  refine ⟨w9, hr9, _, #[], _, bf.cell (i := 0) rfl, V.when_intro (by kernel_rfl) fun Rc l w13 hl h13 hy => ?_⟩
  obtain ⟨l0, m0, x13, z13⟩ := enter_new hl h13
  have e13 : Ext [] w w13 := e9.trans x13
  -- what stands all along
  have stay : ∀ {F : List Nat} {w1 w2 : World}, (∀ b ∈ F, w13.heap.size ≤ b ∨ b = l ∨ b = w7.heap.size) → Ext F w1 w2 → (Ext [] w w1 ∧ w13.heap.size ≤ w1.heap.size ∧ Mrk w1 w9.heap.size ∧ Held w1 b A n' c xs ∧ Cells w1 A' (ints .i64 xs) ∧ BlkT w1 w.heap.size [.func (.func 67) #[] #[.pointer (some ⟨b, 0, none⟩)]] 57 ∧ BlkT w1 w5.heap.size [.slice A' n' c'] 25 ∧ BlkT w1 w6.heap.size [.bool false] 4) →
      (Ext [] w w2 ∧ w13.heap.size ≤ w2.heap.size ∧ Mrk w2 w9.heap.size ∧ Held w2 b A n' c xs ∧ Cells w2 A' (ints .i64 xs) ∧ BlkT w2 w.heap.size [.func (.func 67) #[] #[.pointer (some ⟨b, 0, none⟩)]] 57 ∧ BlkT w2 w5.heap.size [.slice A' n' c'] 25 ∧ BlkT w2 w6.heap.size [.bool false] 4) := by
    rintro F w1 w2 hF e ⟨q1, q2, q3, q4, q5, q6, q7, q8⟩
    have nF : ∀ g, g < w13.heap.size → g ≠ l → g ≠ w7.heap.size → g ∉ F := fun g h1 h2 h3 hm => by
      rcases hF g hm with h | h | h <;> omega
    exact ⟨q1.trans' e (fun b hb => .inr (by rcases hF b hb with h | h | h <;> omega)), Nat.le_trans q2 e.size, q3.ext e (nF _ (by omega) (by omega) (by omega)), q4.ext e (nF _ (by omega) (by omega) (by omega)) (fun g hg => by have := hA g hg; exact nF _ (by omega) (by omega) (by omega)), q5.ext e (fun g hg => by have := hA' g hg; exact nF _ (by omega) (by omega) (by omega)), q6.ext e (nF _ (by omega) (by omega) (by omega)), q7.ext e (nF _ (by omega) (by omega) (by omega)), q8.ext e (nF _ (by omega) (by omega) (by omega))⟩
  have o13 : Ext [] w w13 ∧ w13.heap.size ≤ w13.heap.size ∧ Mrk w13 w9.heap.size ∧ Held w13 b A n' c xs ∧ Cells w13 A' (ints .i64 xs) ∧ BlkT w13 w.heap.size [.func (.func 67) #[] #[.pointer (some ⟨b, 0, none⟩)]] 57 ∧ BlkT w13 w5.heap.size [.slice A' n' c'] 25 ∧ BlkT w13 w6.heap.size [.bool false] 4 :=
    ⟨e13, Nat.le_refl _, m0, hh.ext e13 (by simp) (by simp), hw.ext0 e13, bf.ext0 x13, bw.ext0 x13, br.ext0 x13⟩
  generalize hO : (fun w1 : World => Ext [] w w1 ∧ w13.heap.size ≤ w1.heap.size ∧ Mrk w1 w9.heap.size ∧ Held w1 b A n' c xs ∧ Cells w1 A' (ints .i64 xs) ∧ BlkT w1 w.heap.size [.func (.func 67) #[] #[.pointer (some ⟨b, 0, none⟩)]] 57 ∧ BlkT w1 w5.heap.size [.slice A' n' c'] 25 ∧ BlkT w1 w6.heap.size [.bool false] 4) = O
  have hO' : ∀ w1, O w1 ↔ _ := fun w1 => by rw [← hO]
  have stayO : ∀ {F : List Nat} {w1 w2 : World}, (∀ b ∈ F, w13.heap.size ≤ b ∨ b = l ∨ b = w7.heap.size) → Ext F w1 w2 → O w1 → O w2 := fun hF e h => (hO' _).2 (stay hF e ((hO' _).1 h))
  refine (All_iter (A := A) (b := b) (c := c) (xs := xs) hn hb).range2 (I := fun ps w' => O w' ∧ BlkT w' w7.heap.size [.int .i64 (ps.length : Int)] 3) (Q := fun _ _ => False) (fun y W R' h1 h2 => hy y W R' h1 h2) l0 ⟨(hO' _).2 o13, by simpa using b9.ext0 x13⟩ ?_ (fun _ _ _ _ h => h.elim) (fun ps w1 h => ((hO' _).1 h.1).2.2.2.1) ?_ ?_ (fun _ _ _ h => h.elim)
  · rintro ps w1 w2 e ⟨q1, q2⟩
    exact ⟨stayO (fun b hb => .inr (.inl (by simpa using hb))) e q1, q2.ext e (by simp; omega)⟩
  · rintro ps y rest W R' hsp hW ⟨q1, q2⟩ k1 k2 w17 h17
    have hWs := ((hO' _).1 q1).2.1
    obtain ⟨b17, x17, z17⟩ := box_new (cs := [.int .i64 0]) h17
    obtain ⟨w18, hr18, b18, x18⟩ := store1 (P := Try.prog) (v := .int .i64 y) i3s b17 (i := 0) (by simp) rfl rfl
    have hl18 : LoopSt w18 l Rc .ready none := (LoopSt.ext hW x17 (by simp)).ext x18 (by simp; omega)
    have x19 := setLoop_ext w18 l Rc .busy none
    have s18 := x18.size
    have s19 := x19.size
    have hb19 : LoopSt (setLoop w18 l Rc .busy none) l Rc .busy none := setLoop_st _ _ (LoopSt.lt hl18)
    have q1' : O (setLoop w18 l Rc .busy none) := stayO (F := [l]) (fun b hb => .inr (.inl (by simpa using hb))) x19 (stayO (F := [W.heap.size]) (fun b hb => .inl (by simp at hb; omega)) x18 (stayO (F := []) (by simp) x17 q1))
    have q2' := ((q2.ext0 x17).ext x18 (by simp; omega)).ext x19 (by simp; omega)
    have q3' := b18.ext x19 (by simp; omega)
    obtain ⟨_, qs, qm, qh, qw, qf, qb, qr⟩ := (hO' _).1 q1'
    have hps := split_lt hsp
    obtain ⟨ad, hAd, hcell⟩ := cells_int qw (at_len hsp)
    subst hAd
    refine ⟨w18, hr18, hl18, _, q2'.cell (i := 0) rfl, _, _, _, qb.cell (i := 0) rfl, sel_dec (fun hge => by omega) (fun _ => ⟨_, _, _, qb.cell (i := 0) rfl, _, q2'.cell (i := 0) rfl, when_dec ⟨by omega, by omega⟩ (ptr_in ⟨_, hcell, _, q3'.cell (i := 0) rfl, sel_false (by simp) fun w28 h28 => ?_⟩)⟩)⟩
    -- the walk within
    obtain ⟨b28', x28', z28'⟩ := box_new (cs := [.int .i64 0]) h28
    have x28 : Ext [] (setLoop w18 l Rc .busy none) w28 := x28'.undrew
    have z28 : w28.heap.size = (setLoop w18 l Rc .busy none).heap.size + 1 := z28'
    have b28 : BlkT w28 (setLoop w18 l Rc .busy none).heap.size [.int .i64 0] 3 := b28'
    obtain ⟨w29, hr29, b29, x29⟩ := store1 (P := Try.prog) (v := .int .i64 0) i3s b28 (i := 0) (by simp) rfl rfl
    have s29 := x29.size
    have h29 : ∀ b ∈ [(setLoop w18 l Rc .busy none).heap.size], w13.heap.size ≤ b ∨ b = l ∨ b = w7.heap.size := fun b hb => .inl (by simp at hb; omega)
    have p1 : O w29 := stayO h29 x29 (stayO (F := []) (by simp) x28 q1')
    have hl29 : LoopSt w29 l Rc .busy none := (LoopSt.ext hb19 x28 (by simp)).ext x29 (by simp; have := LoopSt.lt hb19; omega)
    have p2 := (q2'.ext0 x28).ext x29 (by simp; have := q2'.lt; omega)
    have p3 := (q3'.ext0 x28).ext x29 (by simp; have := q3'.lt; omega)
    refine ⟨w29, hr29, _, #[], _, ((hO' _).1 p1).2.2.2.2.2.1.cell (i := 0) rfl, V.when_intro (by kernel_rfl) ⟨⟨_, hl29⟩, fun Ri li w33 hli h33 hyi => ?_⟩⟩
    obtain ⟨li0, x33, z33⟩ := inner_new hli h33
    have hWl := q3'.lt
    have hjl := b29.lt
    have hll := LoopSt.lt hl29
    have jn : ∀ {g : Nat}, g < w29.heap.size → g ∉ [li] := fun h => by simp; omega
    -- the end of a round of the outer walk
    have close : ∀ {w51 : World} (c : Option Code), O w51 → LoopSt w51 l Rc .busy none → BlkT w51 w7.heap.size [.int .i64 (ps.length : Int)] 3 → w29.heap.size ≤ w51.heap.size → 
        ∃ n52, World.cell? (setLoop w51 li Ri .exhausted c) ⟨w7.heap.size, 0, none⟩ = some (.int .i64 n52) ∧ ∃ w53, Sem.run Try.prog (Instr.storeAt 3 (.pointer (some ⟨w7.heap.size, 0, none⟩)) (.int .i64 (IntKind.wrap .i64 (n52 + 1)))) (setLoop w51 li Ri .exhausted c) = .ok () w53 ∧ LoopSt w53 l Rc .busy none ∧ R' (.returned (.bool true)) (setLoop w53 l Rc .ready none) := by
      intro w51 c o51 l51 b51 hs51
      have x52 := setLoop_ext w51 li Ri .exhausted c
      have b52 := b51.ext x52 (jn (by omega))
      obtain ⟨w53, hr53, b53, x53⟩ := store1 (P := Try.prog) (v := .int .i64 (IntKind.wrap .i64 ((ps.length : Int) + 1))) i3s b52 (i := 0) (by simp) rfl rfl
      have l53 := (LoopSt.ext l51 x52 (jn (by omega))).ext x53 (by simp; omega)
      refine ⟨_, b52.cell (i := 0) rfl, w53, hr53, l53, k1 w53 l53 ⟨stayO (F := [w7.heap.size]) (fun b hb => .inr (.inr (by simpa using hb))) x53 (stayO (F := [li]) (fun b hb => .inl (by simp at hb; omega)) x52 o51), ?_⟩⟩
      have : IntKind.wrap .i64 ((ps.length : Int) + 1) = ((ps ++ [y]).length : Int) := by
        rw [up64 ps.length (by omega)]; simp
      rw [← this]
      simpa using b53
    refine (All_iter (A := A) (b := b) (c := c) (xs := xs) hn hb).range (I := fun qs w' => O w' ∧ LoopSt w' l Rc .busy none ∧ BlkT w' w7.heap.size [.int .i64 (ps.length : Int)] 3 ∧ BlkT w' W.heap.size [.int .i64 y] 3 ∧ BlkT w' (setLoop w18 l Rc .busy none).heap.size [.int .i64 (qs.length : Int)] 3 ∧ w29.heap.size ≤ w'.heap.size)
      (Q := fun p w' => p = .exit 2 ∧ O w' ∧ LoopSt w' l Rc .busy none ∧ BlkT w' w7.heap.size [.int .i64 (ps.length : Int)] 3 ∧ w29.heap.size ≤ w'.heap.size) (fun h W R' h1 h2 => hyi h W R' h1 ⟨h1, h2⟩) li0 ⟨stayO (F := []) (by simp) x33 p1, LoopSt.ext hl29 x33 (by simp), p2.ext0 x33, p3.ext0 x33, by simpa using b29.ext0 x33, by omega⟩ ?_ ?_ (fun _ w1 h => ((hO' _).1 h.1).2.2.2.1) ?_ ?_ ?_
    · rintro qs w1 w2 e ⟨r1, r2, r3, r4, r5, r6⟩
      exact ⟨stayO (fun b hb => .inl (by simp at hb; omega)) e r1, LoopSt.ext r2 e (jn (by omega)), r3.ext e (jn (by omega)), r4.ext e (jn (by omega)), r5.ext e (jn (by omega)), Nat.le_trans r6 e.size⟩
    · rintro p w1 w2 e ⟨r0, r1, r2, r3, r6⟩
      exact ⟨r0, stayO (fun b hb => .inl (by simp at hb; omega)) e r1, LoopSt.ext r2 e (jn (by omega)), r3.ext e (jn (by omega)), Nat.le_trans r6 e.size⟩
    · rintro qs h rest' W' R'' hsp' hW' hS ⟨r1, r2, r3, r4, r5, r6⟩ k1' k2'
      obtain ⟨_, ts, tm, th, tw, tf, tb, tr⟩ := (hO' _).1 r1
      have hqs := split_lt hsp'
      obtain ⟨ad', hAd', hcell'⟩ := cells_int tw (at_len hsp')
      cases hAd'
      obtain ⟨w46, hr46, b46, x46⟩ := store1 (P := Try.prog) (v := .int .i64 (IntKind.wrap .i64 ((qs.length : Int) + 1))) i3s r5 (i := 0) (by simp) rfl rfl
      have y46 : ∀ {g : Nat}, g ≠ (setLoop w18 l Rc .busy none).heap.size → g ∉ [(setLoop w18 l Rc .busy none).heap.size] := fun h => by simpa using h
      have o46 : O w46 := stayO h29 x46 r1
      have l46 := LoopSt.ext hS x46 (y46 (by omega))
      have lo46 := LoopSt.ext r2 x46 (y46 (by omega))
      have c46 := r3.ext x46 (y46 (by omega))
      have d46 := r4.ext x46 (y46 (by omega))
      have s46 := x46.size
      have en : IntKind.wrap .i64 ((qs.length : Int) + 1) = ((qs ++ [h]).length : Int) := by
        rw [up64 qs.length (by omega)]; simp
      refine ⟨_, r5.cell (i := 0) rfl, _, _, _, tb.cell (i := 0) rfl, sel_dec (fun hge => by omega) (fun _ => ⟨_, _, _, tb.cell (i := 0) rfl, _, r5.cell (i := 0) rfl, when_dec ⟨by omega, by omega⟩ (ptr_in ⟨_, hcell', sel_false (by simp) ⟨_, r5.cell (i := 0) rfl, w46, hr46, _, d46.cell (i := 0) rfl, sel_intro (fun _ => ⟨l46, k2' w46 _ l46 ⟨rfl, o46, lo46, c46, by omega⟩⟩) (fun _ => ⟨_, b46.cell (i := 0) rfl, sel_intro (fun _ => ⟨l46, k2' w46 _ l46 ⟨rfl, o46, lo46, c46, by omega⟩⟩) (fun _ => ⟨l46, k1' w46 l46 ⟨o46, lo46, c46, d46, by rw [← en]; simpa using b46, by omega⟩⟩)⟩)⟩⟩)⟩)⟩
    · rintro w51 hl51 ⟨r1, r2, r3, r4, r5, r6⟩
      exact .inl ⟨hl51, close none r1 r2 r3 r6⟩
    · rintro w51 p hl51 ⟨rfl, r1, r2, r3, r6⟩
      exact .inr (.inr (.inl ⟨hl51, close _ r1 r2 r3 r6⟩))
  · rintro w58 hl58 ⟨q1, q2⟩
    have x59 := setLoop_ext w58 l Rc .exhausted none
    have q1' : O (setLoop w58 l Rc .exhausted none) := stayO (F := [l]) (fun b hb => .inr (.inl (by simpa using hb))) x59 q1
    have q2' := q2.ext x59 (by simp; omega)
    obtain ⟨_, qs, qm, qh, qw, qf, qb, qr⟩ := (hO' _).1 q1'
    obtain ⟨w61, hr61, b61, x61⟩ := store1 (P := Try.prog) (v := .bool ((xs.length : Int) == ((n' : Nat) : Int))) i4s qr (i := 0) (by simp) rfl rfl
    refine .inl ⟨hl58, _, q2'.cell (i := 0) rfl, _, _, _, qb.cell (i := 0) rfl, w61, hr61, close_one (qm.ext x61 (by simp; omega)) fun w62 x62 => ⟨_, (b61.ext x62 (by simp; omega)).cell (i := 0) rfl, ?_⟩⟩
    rw [show ((xs.length : Int) == ((n' : Nat) : Int)) = true by simp [hn]]
    exact k w62 ((((hO' _).1 q1').1.trans' x61 (fun b hb => .inr (by simp at hb; omega))).trans' x62 (fun b hb => .inr (by simp at hb; omega)))
end Go.Proofs.Ytbaglnffgbnekaa
