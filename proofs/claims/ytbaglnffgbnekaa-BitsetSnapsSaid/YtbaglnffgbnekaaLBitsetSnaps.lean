/- Whatever size and lists of places come in, berthlaw01.BitsetSnaps returns true and leaves what came in as it was; no condition. -/
import Derived.Test.YtbaglnffgbnekaaS21
import Derived.Test.YtbaglnffgbnekaaRows
set_option linter.unusedVariables false
set_option linter.unusedSimpArgs false
namespace Go.Proofs.Ytbaglnffgbnekaa
open Go Go.V Go.B
open Go.ChangeShapes Go.WideShapes Go.ChangeAt Go.RowKit

theorem count_one {S : SetV} (hN : S.N = 65536) (hm : ∀ j, S.mem j = decide (j = 65535)) : S.count = 1 := by
  unfold SetV.count
  rw [hN, rank_succ, hm]
  have : S.rank 65535 = 0 := by
    unfold SetV.rank
    rw [List.countP_eq_zero]
    intro x hx
    rw [hm]
    have : x < 65535 := List.mem_range.1 hx
    simp; omega
  rw [this]; rfl
/-- What comes behind the first walk. -/
theorem snap_rest {w0 W1 : World} {p bw b n c n' c' D s2 s3 s5 : Nat} {A A' : Option Addr} {xs : List Int} {S : SetV} {R : Ending → World → Prop} (e : Ext [] w0 W1) (hs : SetAt W1 p bw S) (hh : Held W1 b A n c xs) (hn : xs.length = n) (hnb : n ≤ 65536) (hw : Cells W1 A' (ints .i64 xs)) (hn' : n' = n)
    (hA : ∀ g ∈ ownF A, g < W1.heap.size ∧ g ≠ p ∧ g ≠ bw) (hA' : ∀ g ∈ ownF A', g < W1.heap.size ∧ g ≠ p ∧ g ≠ bw) (b2 : BlkT W1 s2 [.pointer (some ⟨p, 0, none⟩)] 30) (b3 : BlkT W1 s3 [.slice A' n' c'] 25) (b5 : BlkT W1 s5 [.bool false] 4) (m : Mrk W1 D)
    (hp : w0.heap.size ≤ p ∧ w0.heap.size ≤ bw ∧ w0.heap.size ≤ s5 ∧ w0.heap.size ≤ D) (hne : ∀ g ∈ [s2, s3, s5, D, b], g ≠ p ∧ g ≠ bw) (hd : s5 ≠ D) (k : ∀ w', Ext [] w0 w' → R (.returned (.bool true)) w') :
    ∃ S132 : World → Prop, S132 (World.drew W1) ∧
      ∃ p134, (∀ w133, S132 w133 → World.cell? w133 ⟨s2, 0, none⟩ = some (Value.pointer p134)) ∧
      ∃ p135, (∀ w133, S132 w133 → World.cell? w133 ⟨s2, 0, none⟩ = some (Value.pointer p135)) ∧
      Calls Try.prog 44 #[(Value.pointer p135)] (World.drew W1) fun e137 w138 =>
      ∃ p136, e137 = Ending.returned (Value.pointer p136) ∧ S132 w138 ∧
      Calls Try.prog 43 #[(Value.pointer p134), (Value.pointer p136)] w138 fun e139 w140 =>
      e139 = Ending.returned undef ∧
      ∃ p141, World.cell? w140 ⟨s2, 0, none⟩ = some (Value.pointer p141) ∧
      Calls Try.prog 45 #[(Value.pointer p141), (Value.int .i64 65536)] w140 fun e143 w144 =>
      ∃ n142, e143 = Ending.returned (Value.int .i64 n142) ∧
      ∃ p145, World.cell? w144 ⟨s2, 0, none⟩ = some (Value.pointer p145) ∧
      Calls Try.prog 41 #[(Value.pointer p145), (Value.int .i64 65535)] w144 fun e147 w148 =>
      ∃ b146, e147 = Ending.returned (Value.bool b146) ∧
      ∃ A149, ∃ A149l, ∃ A149c, World.cell? w148 ⟨s3, 0, none⟩ = some (Value.slice A149 A149l A149c) ∧
      Calls Try.prog 46 #[(Value.func (.func 67) #[] #[.pointer (some ⟨b, 0, none⟩)]), (Value.slice A149 A149l A149c)] w148 fun e151 w152 =>
      ∃ b150, e151 = Ending.returned (Value.bool b150) ∧
      V.sel b150
      (∃ p153, World.cell? w152 ⟨s2, 0, none⟩ = some (Value.pointer p153) ∧
      Calls Try.prog 29 #[(Value.pointer p153)] w152 fun e155 w156 =>
      ∃ n154, e155 = Ending.returned (Value.int .i64 n154) ∧
      V.sel (n154 == 1)
      (∃ p157, World.cell? w156 ⟨s2, 0, none⟩ = some (Value.pointer p157) ∧
      Calls Try.prog 47 #[(Value.pointer p157), (Value.int .i64 65535)] w156 fun e159 w160 =>
      ∃ b158, e159 = Ending.returned (Value.bool b158) ∧
      ∃ w161, Sem.run Try.prog (Instr.storeAt 4 (Value.pointer (some ⟨s5, 0, none⟩)) (Value.bool b158)) w160 = .ok () w161 ∧
      V.closeR [D] w161 fun w162 => ∃ b163, World.cell? w162 ⟨s5, 0, none⟩ = some (Value.bool b163) ∧ R (Ending.returned (Value.bool b163)) w162)
      (∃ w164, Sem.run Try.prog (Instr.storeAt 4 (Value.pointer (some ⟨s5, 0, none⟩)) (Value.bool false)) w156 = .ok () w164 ∧
      V.closeR [D] w164 fun w165 => ∃ b166, World.cell? w165 ⟨s5, 0, none⟩ = some (Value.bool b166) ∧ R (Ending.returned (Value.bool b166)) w165))
      (∃ w167, Sem.run Try.prog (Instr.storeAt 4 (Value.pointer (some ⟨s5, 0, none⟩)) (Value.bool false)) w152 = .ok () w167 ∧
      V.closeR [D] w167 fun w168 => ∃ b169, World.cell? w168 ⟨s5, 0, none⟩ = some (Value.bool b169) ∧ R (Ending.returned (Value.bool b169)) w168) := by
  subst hn'
  have n2 := hne s2 (by simp)
  have n3 := hne s3 (by simp)
  have n5 := hne s5 (by simp)
  have nD := hne D (by simp)
  have nb := hne b (by simp)
  have l2 := b2.lt
  have l3 := b3.lt
  have l5 := b5.lt
  have lD := Mrk.lt m
  have lb := hh.1.lt
  refine ⟨fun w' => Ext [] W1 w', (Ext.refl _ _).drew, _, fun w' e => (b2.ext0 e).cell (i := 0) rfl, _, fun w' e => (b2.ext0 e).cell (i := 0) rfl, ?_⟩
  refine Clone_c (hs.ref.ext0 (Ext.refl [] W1).drew) fun pc bc w138 e138 hpc hbc sc => ⟨_, rfl, e138.undrew, ?_⟩
  have e138 := e138.undrew
  have hpc : W1.heap.size ≤ pc := hpc
  have hbc : W1.heap.size ≤ bc := hbc
  have hs138 := hs.ext0 e138
  have lp := hs.hdr.lt
  have lbw := hs.wrd.lt
  refine AndNotWith_c hs138 sc.ok (Rd.other sc.ref (by simp; omega)) fun w140 C e140 hC hCN hCm => ⟨rfl, _, ((b2.ext0 e138).ext e140 (by simp; omega)).cell (i := 0) rfl, ?_⟩
  refine Grow_c hC 65536 (fun h => by omega) (fun _ h => by have := hC.ok.N; omega) fun bw' w144 T _ _ e144 hbw' hT hTN hTm => ⟨_, rfl, _, (((b2.ext0 e138).ext e140 (by simp; omega)).ext e144 (by simp; omega)).cell (i := 0) rfl, ?_⟩
  have s138 := e138.size
  have s140 := e140.size
  refine Add_c hT 65535 fun w148 T2 t e148 hT2 hT2N hT2m _ => ⟨_, rfl, ?_⟩
  -- blocks that stand
  have keep : ∀ g, g < W1.heap.size → g ≠ p → g ≠ bw → g ∉ ([bw] : List Nat) ∧ g ∉ ([p] : List Nat) ∧ g ∉ ([bw'] : List Nat) := fun g h1 h2 h3 => by simp; omega
  have kb : ∀ {g : Nat} {cs : List Value} {T : TypeId}, BlkT W1 g cs T → g ≠ p → g ≠ bw → BlkT w148 g cs T := fun hb h2 h3 => (((hb.ext0 e138).ext e140 (keep _ hb.lt h2 h3).1).ext e144 (keep _ hb.lt h2 h3).2.1).ext e148 (keep _ hb.lt h2 h3).2.2
  have kc : ∀ {A : Option Addr} {cs : List Value}, Cells W1 A cs → (∀ g ∈ ownF A, g < W1.heap.size ∧ g ≠ p ∧ g ≠ bw) → Cells w148 A cs := fun hc h => (((hc.ext0 e138).ext e140 (fun g hg => (keep g (h g hg).1 (h g hg).2.1 (h g hg).2.2).1)).ext e144 (fun g hg => (keep g (h g hg).1 (h g hg).2.1 (h g hg).2.2).2.1)).ext e148 (fun g hg => (keep g (h g hg).1 (h g hg).2.1 (h g hg).2.2).2.2)
  have e1 : Ext [] w0 w148 := (((e.trans e138).trans' e140 (fun b hb => .inr (by simp at hb; omega))).trans' e144 (fun b hb => .inr (by simp at hb; omega))).trans' e148 (fun b hb => .inr (by have := e.size; simp at hb; omega))
  have s148 : W1.heap.size ≤ w148.heap.size := by have := e144.size; have := e148.size; omega
  have hm : Mrk w148 D := (((m.ext e138 (by simp)).ext e140 (keep _ lD nD.1 nD.2).1).ext e144 (keep _ lD nD.1 nD.2).2.1).ext e148 (keep _ lD nD.1 nD.2).2.2
  have c3 := kb b3 n3.1 n3.2
  refine ⟨_, _, _, c3.cell (i := 0) rfl, pairs_c (A' := A') hn hnb ⟨kb hh.1 nb.1 nb.2, kc hh.2 hA⟩ (fun g hg => by have := (hA g hg).1; omega) (kc hw hA') rfl (fun g hg => by have := (hA' g hg).1; omega) fun w152 e152 => ⟨_, rfl, sel_true rfl ⟨_, ((kb b2 n2.1 n2.2).ext0 e152).cell (i := 0) rfl, ?_⟩⟩⟩
  have hT3 := hT2.ext0 e152
  have hN3 : T2.N = 65536 := by omega
  have hmem : ∀ j, T2.mem j = decide (j = 65535) := fun j => by
    rw [hT2m, hTm, hCm]
    have : (65535 : Int) < (T.N : Int) := by omega
    simp [this]
    omega
  have hcount := count_one hN3 hmem
  refine Count_c hT3.ref ⟨_, rfl, ?_⟩
  rw [hcount]
  refine sel_true rfl ⟨_, ((kb b2 n2.1 n2.2).ext0 e152).cell (i := 0) rfl, Has_c hT3.ref 65535 ⟨_, rfl, ?_⟩⟩
  have hhas : T2.has 65535 = true := by
    unfold SetV.has
    rw [hmem]; rfl
  rw [hhas]
  obtain ⟨w161, hr161, b161, x161⟩ := store1 (P := Try.prog) (v := .bool true) i4s ((kb b5 n5.1 n5.2).ext0 e152) (i := 0) (by simp) rfl rfl
  refine ⟨w161, hr161, close_one ((hm.ext e152 (by simp)).ext x161 (by simp; omega)) fun w162 x162 => ⟨_, (b161.ext x162 (by simp; omega)).cell (i := 0) rfl, k w162 ?_⟩⟩
  exact ((e1.trans e152).trans' x161 (fun b hb => .inr (by simp at hb; omega))).trans' x162 (fun b hb => .inr (by simp at hb; omega))
theorem ints_at {w : World} {A : Option Addr} {n : Nat} {xs : List Int} (h : Ints w .i64 A n xs) {j : Nat} (hj : j < n) : ∃ ad, A = some ad ∧ w.cell? (Addr.add ad (Int.toNat (j : Int) * 1)) = some (.int .i64 (xs.getD j 0)) := by
  obtain ⟨ad, hA, hc⟩ := h.cells j hj
  exact ⟨ad, hA, by rw [Int.toNat_natCast, Nat.mul_one]; exact hc⟩
set_option maxRecDepth 4000 in
theorem bitsetSnapsW_c {t : Three} {w : World} (ht : t.In w) {R : Ending → World → Prop} (k : ∀ w', Ext [] w w' → R (.returned (.bool true)) w') : Calls Try.prog 7 #[t.val] w R := by
  unfold Three.val Three.cells
  apply berthlaw01_BitsetSnaps_nf
  intro w5 h5 w6 h6
  obtain ⟨b5, x5, z5⟩ := box_new (cs := t.cells) h5
  obtain ⟨b6, x6, z6⟩ := box_new (cs := [.bool false]) h6
  have e6 : Ext [] w w6 := x5.trans x6
  refine awake_c fun w9 e9' => ⟨_, rfl, sel_false rfl ?_⟩
  have e9 := e6.trans e9'
  have bx9 := (b5.ext0 x6).ext0 e9'
  have br9 := b6.ext0 e9'
  have s9 := e9.size
  have hl9 := br9.lt
  refine ⟨_, cadd bx9 rfl, sized_c _ ⟨_, rfl, ?_⟩⟩
  by_cases hs : 0 ≤ t.n ∧ t.n ≤ 65536
  rotate_left
  · obtain ⟨w16, hr16, b16, x16⟩ := store1 (P := Try.prog) (v := .bool true) i4s br9 (i := 0) (by simp) rfl rfl
    exact sel_true (by simp [hs]) ⟨w16, hr16, _, b16.cell (i := 0) rfl, k w16 (e9.trans' x16 (fun b hb => .inr (by simp at hb; omega)))⟩
  obtain ⟨N, hN⟩ : ∃ N : Nat, t.n = N := ⟨t.n.toNat, by omega⟩
  have hN6 : N ≤ 65536 := by omega
  have hb := ht.bl
  have hdl := ht.dl
  have hal := ht.al
  refine sel_false (by simp [hs]) ⟨_, cadd bx9 rfl, _, _, _, cadd bx9 rfl, ?_⟩
  rw [hN]
  refine of_c hN6 ((ht.ext0 e9).a) (by omega) fun p bw w22 S e22' hp hbw hs22 hSN hSm => ⟨_, rfl, fun w23 h23 => ?_⟩
  have e22 := e9.trans e22'
  have lp := hs22.hdr.lt
  have lbw := hs22.wrd.lt
  have hpb := hs22.ne
  obtain ⟨b23, x23, z23⟩ := box_new (cs := [.pointer none]) h23
  obtain ⟨w24, hr24, b24, x24⟩ := store1 (P := Try.prog) (v := .pointer (some ⟨p, 0, none⟩)) i30s b23 (i := 0) (by simp) rfl rfl
  have s24 := x24.size
  have y24 : ∀ {g : Nat}, g < w22.heap.size → g ∉ [w22.heap.size] := fun h => by simp; omega
  have e24 : Ext [] w w24 := (e22.trans x23).trans' x24 (fun b hb => .inr (by have := e22.size; simp at hb; omega))
  have bx24 := ((bx9.ext0 e22').ext0 x23).ext x24 (y24 (bx9.ext0 e22').lt)
  have br24 := ((br9.ext0 e22').ext0 x23).ext x24 (y24 (br9.ext0 e22').lt)
  have hs24 := (hs22.ext0 x23).ext x24 (y24 lp) (y24 lbw)
  have s22 := e22'.size
  refine ⟨w24, hr24, _, b24.cell (i := 0) rfl, sel_false rfl ⟨_, b24.cell (i := 0) rfl, Members_c hs24.ref fun A1 c1 w31 e31 own31 => ⟨_, _, _, rfl, fun w32 h32 => ?_⟩⟩⟩
  have hbase := own_base own31
  have s31 := e31.size
  obtain ⟨b32, x32, z32⟩ := box_new (cs := [.slice none 0 0]) h32
  obtain ⟨w33, hr33, b33, x33⟩ := store1 (P := Try.prog) (v := .slice A1 S.count c1) i25s b32 (i := 0) (by simp) rfl rfl
  have s33 := x33.size
  have y33 : ∀ {g : Nat}, g < w31.heap.size → g ∉ [w31.heap.size] := fun h => by simp; omega
  have e2433 : Ext [] w24 w33 := (e31.trans x32).trans' x33 (fun b hb => .inr (by simp at hb; omega))
  have c33 : Cells w33 A1 (ints .i64 S.mi) := ((own_cells own31).ext0 x32).ext x33 (fun g hg => y33 (hbase g hg).2)
  have hs33 := hs24.ext0 e2433
  have bs33 := b24.ext0 e2433
  refine ⟨w33, hr33, _, bs33.cell (i := 0) rfl, All_c hs33.ref fun b A c w37 e37 hb37 hb37' held37 hA37 => ⟨_, #[], _, rfl, fun w38 h38 => ?_⟩⟩
  have s37 := e37.size
  obtain ⟨b38, x38, z38⟩ := box_new (cs := [.int .i64 0]) h38
  obtain ⟨w39, hr39, b39, x39⟩ := store1 (P := Try.prog) (v := .int .i64 0) i3s b38 (i := 0) (by simp) rfl rfl
  have s39 := x39.size
  have e3739 : Ext [] w37 w39 := x38.trans' x39 (fun b hb => .inr (by simp at hb; omega))
  refine ⟨w39, hr39, V.when_intro (by kernel_rfl) fun Rc l w42 hl h42 hy => ?_⟩
  obtain ⟨l0, m0, x42, z42⟩ := enter_new hl h42
  have e3342 : Ext [] w33 w42 := (e37.trans e3739).trans x42
  have e3742 : Ext [] w37 w42 := e3739.trans x42
  have hcl := count_le hs22.ok
  have hml := mi_length S
  have hsz : w.heap.size < w5.heap.size ∧ w5.heap.size < w9.heap.size ∧ w9.heap.size ≤ p ∧ w9.heap.size ≤ bw ∧ p < w22.heap.size ∧ bw < w22.heap.size ∧ w22.heap.size < w24.heap.size ∧ w24.heap.size ≤ w31.heap.size ∧ w31.heap.size < w33.heap.size ∧ w33.heap.size ≤ b ∧ b < w37.heap.size ∧ w37.heap.size < w39.heap.size ∧ l = w39.heap.size + 1 ∧ l < w42.heap.size := by omega
  generalize hO : (fun w1 : World => Ext [] w w1 ∧ w42.heap.size ≤ w1.heap.size ∧ Mrk w1 w39.heap.size ∧ Held w1 b A S.count c S.mi ∧ Cells w1 A1 (ints .i64 S.mi) ∧ BlkT w1 w.heap.size t.cells 27 ∧ BlkT w1 w5.heap.size [.bool false] 4 ∧ BlkT w1 w22.heap.size [.pointer (some ⟨p, 0, none⟩)] 30 ∧ BlkT w1 w31.heap.size [.slice A1 S.count c1] 25) = O
  have hO' : ∀ w1, O w1 ↔ _ := fun w1 => by rw [← hO]
  have stayO : ∀ {F : List Nat} {w1 w2 : World}, (∀ g ∈ F, w42.heap.size ≤ g ∨ g = l ∨ g = w37.heap.size ∨ g = p ∨ g = bw) → Ext F w1 w2 → O w1 → O w2 := by
    intro F w1 w2 hF e h
    obtain ⟨q1, q2, q3, q4, q5, q6, q7, q8, q9⟩ := (hO' _).1 h
    have nF : ∀ g, g < w42.heap.size → g ≠ l → g ≠ w37.heap.size → g ≠ p → g ≠ bw → g ∉ F := fun g h1 h2 h3 h4 h5 hm => by
      rcases hF g hm with h | h | h | h | h <;> omega
    refine (hO' _).2 ⟨q1.trans' e (fun g hg => .inr (by rcases hF g hg with h | h | h | h | h <;> omega)), Nat.le_trans q2 e.size, q3.ext e (nF _ (by omega) (by omega) (by omega) (by omega) (by omega)), q4.ext e (nF _ (by omega) (by omega) (by omega) (by omega) (by omega)) (fun g hg => by have := hA37 g hg; exact nF _ (by omega) (by omega) (by omega) (by omega) (by omega)), q5.ext e (fun g hg => by have := hbase g hg; exact nF _ (by omega) (by omega) (by omega) (by omega) (by omega)), q6.ext e (nF _ (by omega) (by omega) (by omega) (by omega) (by omega)), q7.ext e (nF _ (by omega) (by omega) (by omega) (by omega) (by omega)), q8.ext e (nF _ (by omega) (by omega) (by omega) (by omega) (by omega)), q9.ext e (nF _ (by omega) (by omega) (by omega) (by omega) (by omega))⟩
  have o42 : O w42 := (hO' _).2 ⟨(e24.trans e2433).trans e3342, Nat.le_refl _, m0, held37.ext e3742 (by simp) (by simp), c33.ext0 e3342, (bx24.ext0 e2433).ext0 e3342, (br24.ext0 e2433).ext0 e3342, bs33.ext0 e3342, b33.ext0 e3342⟩
  -- the end of a round
  refine (All_iter (A := A) (b := b) (c := c) (xs := S.mi) hml hcl).range (I := fun ps w' => O w' ∧ BlkT w' w37.heap.size [.int .i64 (ps.length : Int)] 3 ∧ ∃ S', SetAt w' p bw S')
    (Q := fun q w' => q = .exit 0 ∧ O w' ∧ BlkT w' w37.heap.size [.int .i64 (t.ld : Int)] 3 ∧ ∃ S', SetAt w' p bw S') (fun y W R' h1 h2 => hy y W R' h1 ⟨h1, h2⟩) l0 ⟨o42, by simpa using b39.ext0 x42, _, hs33.ext0 e3342⟩ ?_ ?_ (fun ps w1 h => ((hO' _).1 h.1).2.2.2.1) ?_ ?_ ?_
  · rintro ps w1 w2 e ⟨q1, q2, S', q3⟩
    exact ⟨stayO (fun g hg => .inr (.inl (by simpa using hg))) e q1, q2.ext e (by simp; omega), S', q3.ext e (by simp; omega) (by simp; omega)⟩
  · rintro q w1 w2 e ⟨q0, q1, q2, S', q3⟩
    exact ⟨q0, stayO (fun g hg => .inr (.inl (by simpa using hg))) e q1, q2.ext e (by simp; omega), S', q3.ext e (by simp; omega) (by simp; omega)⟩
  · rintro ps y rest W R' hsp hW hS ⟨q1, q2, S', q3⟩ k1 k2
    generalize setLoop W l Rc .busy none = V0 at *
    obtain ⟨r1, r2, r3, r4, r5, r6, r7, r8, r9⟩ := (hO' _).1 q1
    have hps := split_lt hsp
    obtain ⟨ad, hAd, hcell⟩ := cells_int r5 (at_len hsp)
    subst hAd
    have en : IntKind.wrap .i64 ((ps.length : Int) + 1) = ((ps ++ [y]).length : Int) := by
      rw [up64 ps.length (by omega)]; simp
    -- the counter goes up, and the round ends
    have fin : ∀ {V1 : World}, O V1 → LoopSt V1 l Rc .busy none → BlkT V1 w37.heap.size [.int .i64 (ps.length : Int)] 3 → (∃ S', SetAt V1 p bw S') →
        ∃ n76, World.cell? V1 ⟨w37.heap.size, 0, none⟩ = some (Value.int .i64 n76) ∧
        ∃ w77, Sem.run Try.prog (Instr.storeAt 3 (Value.pointer (some ⟨w37.heap.size, 0, none⟩)) (Value.int .i64 (IntKind.wrap .i64 (n76 + 1)))) V1 = .ok () w77 ∧
        ∃ n78, World.cell? w77 ⟨w37.heap.size, 0, none⟩ = some (Value.int .i64 n78) ∧
        ∃ A79, ∃ A79l, ∃ A79c, World.cell? w77 (Addr.add ⟨w.heap.size, 0, none⟩ 3) = some (Value.slice A79 A79l A79c) ∧
        V.sel (n78 == ((A79l : Nat) : Int))
        (LoopSt w77 l Rc .busy none ∧ R' (Ending.returned (Value.bool false)) (setLoop w77 l Rc .done (some (Code.exit 0))))
        (LoopSt w77 l Rc .busy none ∧ R' (Ending.returned (Value.bool true)) (setLoop w77 l Rc .ready none)) := by
      rintro V1 o1 l1 c1' ⟨S1, t1⟩
      obtain ⟨w77, hr77, b77, x77⟩ := store1 (P := Try.prog) (v := .int .i64 (IntKind.wrap .i64 ((ps.length : Int) + 1))) i3s c1' (i := 0) (by simp) rfl rfl
      have o77 : O w77 := stayO (F := [w37.heap.size]) (fun g hg => .inr (.inr (.inl (by simpa using hg)))) x77 o1
      have l77 := LoopSt.ext l1 x77 (by simp; omega)
      have t77 := t1.ext x77 (by simp; omega) (by simp; omega)
      refine ⟨_, c1'.cell (i := 0) rfl, w77, hr77, _, b77.cell (i := 0) rfl, _, _, _, cadd ((hO' _).1 o77).2.2.2.2.2.1 rfl, sel_intro (fun hk => ⟨l77, k2 w77 _ l77 ⟨rfl, o77, ?_, S1, t77⟩⟩) (fun hk => ⟨l77, k1 w77 l77 ⟨o77, by rw [← en]; simpa using b77, S1, t77⟩⟩)⟩
      have : IntKind.wrap .i64 ((ps.length : Int) + 1) = (t.ld : Int) := by simpa using hk
      rw [← this]
      simpa using b77
    refine ⟨_, q2.cell (i := 0) rfl, _, _, _, r9.cell (i := 0) rfl, sel_dec (fun hge => by omega) (fun _ => ⟨_, _, _, r9.cell (i := 0) rfl, _, q2.cell (i := 0) rfl, when_dec ⟨by omega, by omega⟩ (ptr_in ⟨_, hcell, sel_false (by simp) ⟨_, q2.cell (i := 0) rfl, _, _, _, cadd r6 rfl, sel_dec (fun hkb => ?_) (fun _ => fin q1 hS q2 ⟨S', q3⟩)⟩⟩)⟩)⟩
    -- a change in the midst
    have nb : ∀ {g : Nat}, g ≠ bw → g ∉ [bw] := fun h => by simpa using h
    have tin : ∀ {w' : World}, Ext [bw] V0 w' → t.In w' := fun e => ht.ext0 (r1.trans' e (fun g hg => .inr (by simp at hg; omega)))
    have hBad : ∃ adB, t.B = some adB ∧ ∀ w', Ext [bw] V0 w' → w'.cell? (Addr.add adB (Int.toNat (ps.length : Int) * 1)) = some (.int .i64 (t.ys.getD ps.length 0)) := by
      obtain ⟨adB, hB, _⟩ := ints_at (tin (Ext.refl _ _)).b (j := ps.length) (by omega)
      refine ⟨adB, hB, fun w' e => ?_⟩
      obtain ⟨adB', hB', hc⟩ := ints_at (tin e).b (j := ps.length) (by omega)
      rw [hB] at hB'
      cases hB'
      exact hc
    obtain ⟨adB, hB, hcB⟩ := hBad
    have r6' : BlkT V0 w.heap.size [.int .i64 t.n, .slice t.A t.la t.ca, .slice (some adB) t.lb t.cb, .slice t.D t.ld t.cd] 27 := by
      have := ((hO' _).1 q1).2.2.2.2.2.1
      unfold Three.cells at this
      rw [hB] at this; exact this
    refine ⟨fun w' => Ext [bw] V0 w', (Ext.refl _ _).drew, _, fun w' e => (r8.ext e (nb (by omega))).cell (i := 0) rfl, _, _, _, fun w' e => cadd (r6'.ext e (nb (by omega))) rfl, _, fun w' e => (q2.ext e (nb (by omega))).cell (i := 0) rfl, when_dec ⟨by omega, by omega⟩ (ptr_in ⟨_, fun w' e => hcB w' e, ?_⟩)⟩
    refine Add_c (show SetAt V0.drew p bw S' from ⟨q3.hdr, q3.wrd, q3.ok, q3.ne⟩) _ fun w65 T tt e65 hT hTN hTm _ => ⟨_, rfl, e65.undrew, ?_⟩
    have e65 := e65.undrew
    have o65 : O w65 := stayO (F := [bw]) (fun g hg => .inr (.inr (.inr (.inr (by simpa using hg))))) e65 q1
    obtain ⟨v1, v2, v3, v4, v5, v6, v7, v8, v9⟩ := (hO' _).1 o65
    have hlast : S.mi[S.count - 1]? = some (S.mi[S.count - 1]'(by omega)) := List.getElem?_eq_getElem (by omega)
    have hidx : IntKind.wrap .i64 (((S.count : Nat) : Int) - 1) = ((S.count - 1 : Nat) : Int) := by rw [w64 (by omega) (by omega)]; omega
    refine ⟨fun w' => Ext [bw] w65 w', (Ext.refl _ _).drew, _, fun w' e => (v8.ext e (nb (by omega))).cell (i := 0) rfl, _, _, _, fun w' e => (v9.ext e (nb (by omega))).cell (i := 0) rfl, _, _, _, fun w' e => (v9.ext e (nb (by omega))).cell (i := 0) rfl, ?_⟩
    rw [hidx]
    refine when_dec ⟨by omega, by omega⟩ (ptr_in ⟨S.mi[S.count - 1]'(by omega), fun w' e => ?_, ?_⟩)
    · have := v5.ext e (fun g hg => nb (by have := hbase g hg; omega))
      obtain ⟨ad', hA', hc'⟩ := cells_int this hlast
      cases hA'
      exact hc'
    · refine Remove_c (show SetAt w65.drew p bw T from ⟨hT.hdr, hT.wrd, hT.ok, hT.ne⟩) _ fun w75 T2 tt2 e75 hT2 _ _ _ => ⟨_, rfl, e75.undrew, ?_⟩
      have e75 := e75.undrew
      exact fin (stayO (F := [bw]) (fun g hg => .inr (.inr (.inr (.inr (by simpa using hg))))) e75 o65) ((LoopSt.ext hS e65 (nb (by omega))).ext e75 (nb (by omega))) ((q2.ext e65 (nb (by omega))).ext e75 (nb (by omega))) ⟨T2, hT2⟩
  · rintro w86 hl86 ⟨q1, q2, S', q3⟩
    have x87 := setLoop_ext w86 l Rc .exhausted none
    have o87 : O (setLoop w86 l Rc .exhausted none) := stayO (F := [l]) (fun g hg => .inr (.inl (by simpa using hg))) x87 q1
    have c87 := q2.ext x87 (by simp; omega)
    have t87 := q3.ext x87 (by simp; omega) (by simp; omega)
    obtain ⟨r1, r2, r3, r4, r5, r6, r7, r8, r9⟩ := (hO' _).1 o87
    refine .inl ⟨hl86, _, c87.cell (i := 0) rfl, _, _, _, r9.cell (i := 0) rfl, sel_false (by simp [hml]) ?_⟩
    exact snap_rest r1 t87 r4 hml hcl r5 rfl (fun g hg => by have := hA37 g hg; omega) (fun g hg => by have := hbase g hg; omega) r8 r9 r7 r3 (by omega) (by simp; omega) (by omega) k
  · rintro w86 q hl86 ⟨rfl, q1, q2, S', q3⟩
    have x87 := setLoop_ext w86 l Rc .exhausted (some (.exit 0))
    have o87 : O (setLoop w86 l Rc .exhausted (some (.exit 0))) := stayO (F := [l]) (fun g hg => .inr (.inl (by simpa using hg))) x87 q1
    have c87 := q2.ext x87 (by simp; omega)
    have t87 := q3.ext x87 (by simp; omega) (by simp; omega)
    obtain ⟨r1, r2, r3, r4, r5, r6, r7, r8, r9⟩ := (hO' _).1 o87
    have fin := snap_rest (R := R) r1 t87 r4 hml hcl r5 rfl (fun g hg => by have := hA37 g hg; omega) (fun g hg => by have := hbase g hg; omega) r8 r9 r7 r3 (by omega) (by simp; omega) (by omega) k
    exact .inr (.inr (.inl ⟨hl86, _, c87.cell (i := 0) rfl, _, _, _, r9.cell (i := 0) rfl, sel_intro (fun _ => ⟨_, c87.cell (i := 0) rfl, _, _, _, cadd r6 rfl, sel_false (by simp) fin⟩) (fun _ => fin)⟩))
theorem bitsetSnaps_lifted (os : Os) (started : os.Started) (H : Type) (enc : TypeId × Value → H) :
    ReturnsInHanded {} Try.checked os 7 .any (Rows.bitsetSnapsSpec.pre6 enc Try.prog Try.f7 Rows.bitsetSnapsRow.domain false) (Rows.bitsetSnapsSpec.post enc Try.prog Try.f7 false true false false) :=
  lift1 (C := Try.checked) (T := 27) (tb := 4) own (by kernel_rfl) Try.func7 (by kernel_rfl) (by kernel_rfl) Try.underlying4 rfl (fun _ _ => rfl) laidOut (by kernel_rfl) (of_decide_eq_true (by kernel_rfl)) os started H enc
    (fun W base v d p hok h hw => by
      obtain ⟨t, rfl, ht⟩ := open_three hok h hw
      exact bitsetSnapsW_c ht fun w' e => ⟨rfl, e.below⟩)
    (ChangeSpec.witness6 (enc := enc) (C := Try.checked) false ⟨#[], #[.agg #[.int .i64 0, .slice none 0 0, .slice none 0 0, .slice none 0 0]], []⟩ 8 (by kernel_rfl) (by kernel_rfl) (by kernel_rfl) (by kernel_rfl))
theorem bitsetSnaps_holds : Rows.BitsetSnapsSaid :=
  OpenClaim.holds_of_wide 7 Try.f7 rfl rfl rfl rfl rfl rfl rfl ⟨rfl, rfl, rfl, rfl, rfl⟩ rfl rfl rfl rfl rfl (by kernel_rfl) Try.func7 (by kernel_rfl)
    (of_decide_eq_true (by kernel_rfl)) (by unfold Func.isWrapper; first | (rw [if_pos (by decide +kernel)]; kernel_rfl) | (rw [if_neg (by decide +kernel)]; exact ⟨rfl, rfl⟩))
    (fun os started H enc _ => bitsetSnaps_lifted os started H enc)
end Go.Proofs.Ytbaglnffgbnekaa
