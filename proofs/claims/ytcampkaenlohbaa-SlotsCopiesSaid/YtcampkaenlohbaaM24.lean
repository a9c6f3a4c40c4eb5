/- Slots: Copy with a function, walked. -/
import Derived.Test.YtcampkaenlohbaaM23
set_option linter.unusedVariables false
set_option linter.unusedSimpArgs false
namespace Go.Proofs.Ytcampkaenlohbaa
open Go Go.V Go.B

theorem mapF_step {xs : List Rw} {a : Nat} {x : Rw} (h : xs[a]? = some x) : mapF 0 (xs.take (a + 1)) = mapF 0 (xs.take a) ++ [if x.held then { x with v := gv x.v (asked (xs.take a)).length } else x] ∧ asked (xs.take (a + 1)) = asked (xs.take a) ++ (if x.held then [x.v] else []) := by
  have e : xs.take (a + 1) = xs.take a ++ [x] := by
    rw [List.take_add_one, h]; rfl
  rw [e, mapF_app, asked_app]
  refine ⟨?_, ?_⟩
  · congr 1
    rw [mapF]
    split <;> simp [mapF]
  · congr 1
set_option maxRecDepth 4000 in
theorem Copy_c {w : World} {B p cb : Nat} {f : List Nat} {s : TS} (h : At w B p f s) (hcb : cb ∉ f) (hcl : Cl w cb w.heap.size [] []) {R : Ending → World → Prop}
    (k : ∀ p' f' g' w', Ext [cb] w w' → At w' w.heap.size p' f' (copyW s) → (∀ b ∈ f', w.heap.size ≤ b) → Cl w' cb w.heap.size (asked s.rows) g' → R (.returned (.pointer (some ⟨p', 0, none⟩))) w') :
    Calls Try.prog 27 #[.pointer (some ⟨p, 0, none⟩), .func (.func 28) #[] #[.pointer (some ⟨cb, 0, none⟩)]] w R := by
  have hkeys := h.keys
  obtain ⟨r, A, n, c, q, inv, rfl⟩ := h
  have hl := q.own.len
  have hlen := inv.len
  have htop := inv.top
  have hcw := hcl.lt.1
  have nf : ∀ b ∈ p :: r :: ownF A, b ∉ [cb] := fun b hb hm => by simp at hm; subst hm; exact hcb hb
  apply slots_Table_int__Copy_nf
  refine sel_false rfl ⟨fun w' => Ext [] w w', (Ext.refl _ _).drew, ptr_in ⟨_, fun w' e => cadd (q.hdr.ext0 e) rfl, ptr_in ⟨_, fun w' e => cadd (q.hdr.ext0 e) rfl, fun w8 h8 => ?_⟩⟩⟩
  obtain ⟨m8, x8', z8⟩ := map_new (β := Int) Value.string ki h8
  have x8 : Ext [] w w8 := x8'.undrew
  have z8 : w8.heap.size = w.heap.size + 1 := z8
  have m8 : MapAt w8 w.heap.size Value.string ki [] := m8
  refine ⟨x8, fun w9 h9 => ?_⟩
  obtain ⟨b9, x9, z9⟩ := box_new (cs := [.int .i64 (s.most : Int), .map (some w.heap.size), .slice none 0 0, .int .i64 (s.low : Int)]) h9
  have e9 : Ext [] w w9 := x8.trans x9
  have q9 := q.ext e9 (by simp)
  refine ⟨e9, ptr_in ⟨_, _, _, cadd q9.hdr rfl, ?_⟩⟩
  -- what stands
  obtain ⟨I, hI⟩ : ∃ I : Nat → World → Prop, I = fun a w' => a ≤ n ∧ Ext [cb] w w' ∧ MapAt w' w.heap.size Value.string ki (cm (s.rows.take a)) ∧ (∃ A' n' c', BlkT w' w8.heap.size [.int .i64 (s.most : Int), .map (some w.heap.size), .slice A' n' c', .int .i64 (s.low : Int)] 79 ∧ OwnL RL w' w.heap.size 81 A' n' c' (mapF 0 (s.rows.take a)) ∧ (∀ g ∈ ownF A', w9.heap.size ≤ g) ∧
      ∃ gs, Cl w' cb w.heap.size (asked (s.rows.take a)) gs ∧ ∀ b ∈ gs, w9.heap.size ≤ b ∧ b ∉ ownF A') ∧ w9.heap.size ≤ w'.heap.size := ⟨_, rfl⟩
  have i9 : I 0 w9 := by
    rw [hI]
    exact ⟨by omega, e9.up, m8.ext0 x9, ⟨none, 0, 0, b9, OwnL.nil _ _ _, fun g hg => by simp [ownF] at hg, [], hcl.ext e9 (by simp) (by simp), by simp⟩, Nat.le_refl _⟩
  refine ⟨fun t w' => ∃ a : Nat, t = a ∧ I a w', fun t _ => n - t.toNat, ⟨0, rfl, i9⟩, ?_⟩
  rintro _ _ w1 ⟨a, rfl, hIa⟩
  have hIa' := hIa
  rw [hI] at hIa'
  obtain ⟨ha, e1, m1, ⟨A', n', c', b1, own1, hA', gs, cl1, hgs⟩, s91⟩ := hIa'
  have s1 := e1.size
  refine sel_dec (fun hlt => ?_) (fun hge => ?_)
  · have hlt : a < n := by omega
    have q1 := q.ext e1 nf
    obtain ⟨x, ad, hx, rfl, rd⟩ := q1.own.row (a := a) hlt
    have hn' : n' = a := by
      have := own1.len
      rw [mapF_len] at this
      simp at this; omega
    subst hn'
    have hask : (asked (s.rows.take n')).length ≤ 65536 := by
      rw [asked_len]
      have := List.countP_le_length (p := fun x : Rw => x.held) (l := s.rows.take n')
      simp at this; omega
    refine when_dec ⟨by omega, by omega⟩ (ptr_in ⟨_, _, _, rd, fun w2 h2 => ?_⟩)
    obtain ⟨b2, x2, z2⟩ := box_new (cs := Rw.zero.cells) h2
    obtain ⟨w3, hr3, b3, x3⟩ := storeW (P := Try.prog) (t := 81) (n := 3) (vs := x.cells) i81s b2 rfl rfl (RL.one x)
    have s3 := x3.size
    have e13 : Ext [] w1 w3 := x2.trans' x3 (fun b hb => .inr (by simp at hb; omega))
    have bh := b1.ext0 e13
    have own3 := own1.ext0 e13
    have m3 := m1.ext0 e13
    have cl3 := cl1.ext e13 (by simp) (by simp)
    have hwb := b1.lt
    have hmr := m1.lt
    have hcl1 := cl1.lt
    obtain ⟨st1, st2⟩ := mapF_step hx
    -- what both ways end in
    have fin : ∀ (w4 : World) (y : Rw) (gs' : List Nat), Ext [cb] w w4 → w3.heap.size ≤ w4.heap.size → BlkT w4 w8.heap.size [.int .i64 (s.most : Int), .map (some w.heap.size), .slice A' n' c', .int .i64 (s.low : Int)] 79 → BlkT w4 w1.heap.size y.cells 81 →
        OwnL RL w4 w.heap.size 81 A' n' c' (mapF 0 (s.rows.take n')) → MapAt w4 w.heap.size Value.string ki (cm (s.rows.take (n' + 1))) → Cl w4 cb w.heap.size (asked (s.rows.take (n' + 1))) gs' → (∀ b ∈ gs', w9.heap.size ≤ b ∧ b ∉ ownF A') → mapF 0 (s.rows.take (n' + 1)) = mapF 0 (s.rows.take n') ++ [y] →
        ∃ S27 : World → Prop, S27 (World.drew w4) ∧ ∃ A29, ∃ A29l, ∃ A29c, (∀ w28, S27 w28 → World.cell? w28 (Addr.add ⟨Array.size (World.heap w8), 0, none⟩ 2) = some (Value.slice A29 A29l A29c)) ∧
          ∃ b30, ∃ s31, ∃ n32, V.cellsC (fun a_ x_ => ∀ w28, S27 w28 → World.cell? w28 a_ = some x_) ⟨Array.size (World.heap w1), 0, none⟩ [(Value.bool b30), (Value.string s31), (Value.int .i64 n32)] ∧
          ∀ w33, w33 = (World.alloc (World.drew w4) (.cells #[(Value.bool b30), (Value.string s31), (Value.int .i64 n32)] 81)) → S27 w33 ∧
          ∃ A34, ∃ A34l, ∃ A34c, ∃ w35, Sem.run Try.prog (Builtin.append_ #[77, 77] 77 #[(Value.slice A29 A29l A29c), (Value.slice (some ⟨Array.size (World.heap (World.drew w4)), 0, none⟩) 1 1)]) w33 = .ok (Value.slice A34 A34l A34c) w35 ∧
          S27 w35 ∧
          ∃ w36, Sem.run Try.prog (Instr.storeAt 77 (Value.pointer (some (Addr.add ⟨Array.size (World.heap w8), 0, none⟩ 2))) (Value.slice A34 A34l A34c)) w35 = .ok () w36 ∧
          (∃ a : Nat, IntKind.wrap .i64 ((n' : Int) + 1) = a ∧ I a w36) ∧ n - (IntKind.wrap .i64 ((n' : Int) + 1)).toNat < n - (n' : Int).toNat := fun w4 y gs' e4 s34 b4 bx4 own4 m4 cl4 hgs4 hst => by
      have s4 := e4.size
      have hcl4 := cl4.lt
      have hq : w8.heap.size ∉ ownF A' := fun hm => by have := hA' _ hm; omega
      have hbx : w1.heap.size ∉ ownF A' := fun hm => by have := (own1.base _ hm).2; omega
      refine ⟨fun w' => Ext (ownF A') w4 w', (Ext.refl _ _).drew, A', n', c', fun w' e => cadd (b4.ext e hq) rfl, _, _, _, cellsC_S (S := fun w' => Ext (ownF A') w4 w') (vs := y.cells) fun w' e => cadd0 (bx4.ext e hbx), fun w5 h5 => ?_⟩
      obtain ⟨b5, x5', z5⟩ := box_new (cs := RL.enc y) h5
      have x5 : Ext [] w4 w5 := x5'.undrew
      have z5 : w5.heap.size = w4.heap.size + 1 := z5
      obtain ⟨A2, c2, w6, hr6, own6, x6, hat⟩ := (own4.ext0 x5).more (P := Try.prog) (t := 77) (ty := 77) (x := y) u77 i81 rfl (by omega) b5 (by omega) (by omega)
      have s6 := x6.size
      have e46 : Ext (ownF A') w4 w6 := x5.up.trans x6
      have b6 := b4.ext e46 hq
      obtain ⟨w7, hr7, b7, x7⟩ := store1a (P := Try.prog) (v := .slice A2 (n' + 1) c2) i77s b6 (i := 2) (by simp) rfl rfl
      have hA2 : ∀ g ∈ ownF A2, w9.heap.size ≤ g ∧ ∀ b ∈ gs', b ≠ g := fun g hg => by
        rcases hat with h | h
        · rw [h] at hg; exact ⟨hA' g hg, fun b hb e => (hgs4 b hb).2 (e ▸ hg)⟩
        · rw [h] at hg; simp at hg
          exact ⟨by omega, fun b hb e => by have := (hcl4.2 b hb).2; omega⟩
      rw [up64 n' (by omega), hI]
      have s7 := x7.size
      refine ⟨x5.up, A2, n' + 1, c2, w6, hr6, e46, w7, hr7, ⟨n' + 1, rfl, by omega, ?_, ?_, ⟨A2, n' + 1, c2, b7, ?_, fun g hg => (hA2 g hg).1, gs', ?_, fun b hb => ⟨(hgs4 b hb).1, fun hm => (hA2 b hm).2 b hb rfl⟩⟩, by omega⟩, by simp only [Int.toNat_natCast]; omega⟩
      · exact (e4.trans' e46 (fun b hb => .inr (by have := hA' b hb; omega))).trans' x7 (fun b hb => .inr (by simp at hb; omega))
      · exact (m4.ext e46 (fun hm => by have := hA' _ hm; omega)).ext x7 (by simp; omega)
      · rw [hst]
        exact own6.ext x7 (fun g hg => by have := (hA2 g hg).1; simp; omega)
      · exact (cl4.ext e46 (fun hm => by have := hA' _ hm; omega) (fun b hb => (hgs4 b hb).2)).ext x7 (by simp; omega) (fun b hb => by have := (hgs4 b hb).1; simp; omega)
    have e3 : Ext [cb] w w3 := e1.trans e13.up
    refine ⟨w3, hr3, _, cadd b3 rfl, sel_intro (fun hh => ?_) (fun hh => ?_)⟩
    · rw [if_pos hh] at st1 st2
      obtain ⟨w4, hr4, m4, x4⟩ := store_map (P := Try.prog) kS u28 (show MapAt w3.drew w.heap.size Value.string ki _ from m3) x.name (n' : Int)
      have x4 : Ext [w.heap.size] w3 w4 := x4.undrew
      have s4 := x4.size
      have bx4 : BlkT w4 w1.heap.size x.cells 81 := b3.ext x4 (by simp; omega)
      have cl4 := cl3.ext x4 (by simp; omega) (fun b hb => by have := (hgs b hb).1; simp; omega)
      refine ⟨_, cadd bh rfl, _, cadd b3 rfl, w4, hr4, _, cadd bx4 (i := 2) rfl, V.when_intro (by kernel_rfl) ?_⟩
      refine asked_c cl4 hcw (by omega) hask x.v fun w5 g' x5 cl5 hat => ⟨_, rfl, ?_⟩
      have s5 := x5.size
      have hcl5 := cl5.lt
      have n5 : ∀ b, b < w1.heap.size ∨ b = w1.heap.size → b ≠ cb → b ∉ gs → b ∉ cb :: gs := fun b _ h1 h2 hm => by
        simp at hm
        rcases hm with h | h
        · exact h1 h
        · exact h2 h
      have bx5 := bx4.ext x5 (n5 _ (.inr rfl) (by omega) (fun hm => by have := (hcl1.2 _ hm).2; omega))
      obtain ⟨w6, hr6, b6, x6⟩ := store1a (P := Try.prog) (v := .int .i64 (gv x.v (asked (s.rows.take n')).length)) i3s bx5 (i := 2) (by simp [Rw.cells]) rfl rfl
      have s6 := x6.size
      have hg' : ∀ b ∈ g', w9.heap.size ≤ b ∧ b ∉ ownF A' := fun b hb => by
        rcases hat with h | ⟨z, h, hz⟩
        · rw [h] at hb; exact hgs b hb
        · rw [h] at hb
          simp at hb
          exact ⟨by omega, fun hm => by have := (own1.base _ hm).2; omega⟩
      have nA : ∀ b ∈ ownF A', b ∉ cb :: gs := fun b hb hm => by
        have := hA' b hb
        simp at hm
        rcases hm with h | h
        · omega
        · exact (hgs b h).2 hb
      have n8 : w8.heap.size ∉ cb :: gs := n5 _ (by omega) (by omega) (fun hm => by have := (hgs _ hm).1; omega)
      have n0 : w.heap.size ∉ cb :: gs := n5 _ (by omega) (by omega) (fun hm => by have := (hgs _ hm).1; omega)
      refine ⟨w6, hr6, fin w6 { x with v := gv x.v (asked (s.rows.take n')).length } g' ?_ (by omega) ?_ b6 ?_ ?_ ?_ hg' st1⟩
      · refine ((e3.trans' x4 (fun b hb => .inr (by simp at hb; omega))).trans' x5 (fun b hb => ?_)).trans' x6 (fun b hb => .inr (by simp at hb; omega))
        simp only [List.mem_cons] at hb
        rcases hb with h | h
        · exact .inl (by simp [h])
        · exact .inr (by have := (hgs b h).1; omega)
      · exact ((bh.ext x4 (by simp; omega)).ext x5 n8).ext x6 (by simp; omega)
      · exact ((own3.ext x4 (fun g hg => by have := hA' g hg; simp; omega)).ext x5 nA).ext x6 (fun g hg => by have := (own1.base _ hg).2; simp; omega)
      · rw [cm_step hx, if_pos hh]
        exact (m4.ext x5 n0).ext x6 (by simp; omega)
      · rw [st2]
        exact cl5.ext x6 (by simp; omega) (fun b hb => by
          rcases hat with h | ⟨z, h, hz⟩
          · rw [h] at hb; have := (hcl1.2 _ hb).2; simp; omega
          · rw [h] at hb; simp at hb; simp; omega)
    · have hh' : ¬ x.held = true := by rw [hh]; simp
      rw [if_neg hh'] at st1 st2
      refine fin w3 x gs e3 (Nat.le_refl _) bh b3 own3 ?_ ?_ hgs st1
      · rw [cm_step hx, if_neg hh']; exact m3
      · rw [st2, List.append_nil]; exact cl3
  · have : a = n := by omega
    subst this
    rw [List.take_of_length_le (by omega)] at m1 own1 cl1
    have hn' : s.rows.length = n' := by have := own1.len; rwa [mapF_len] at this
    have hwb := b1.lt
    refine k w8.heap.size (w8.heap.size :: w.heap.size :: ownF A') gs w1 e1 ⟨w.heap.size, A', n', c', ⟨b1, own1, m1, fun hm => by have := hA' _ hm; omega, by simp; exact ⟨by omega, fun hm => by have := hA' _ hm; omega⟩, by omega⟩, copyW_ok (copy_ok inv hkeys), rfl⟩ ?_ cl1
    intro b hb
    simp at hb
    rcases hb with rfl | rfl | hb
    · omega
    · omega
    · have := hA' b hb; omega
end Go.Proofs.Ytcampkaenlohbaa
