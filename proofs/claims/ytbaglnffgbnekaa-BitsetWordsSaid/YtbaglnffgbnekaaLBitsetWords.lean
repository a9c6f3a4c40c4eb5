/- Whatever size and lists of places come in, berthlaw01.BitsetWords returns true and leaves what came in as it was; no condition. -/
import Derived.Test.YtbaglnffgbnekaaS13
import Derived.Test.YtbaglnffgbnekaaRows
set_option linter.unusedVariables false
set_option linter.unusedSimpArgs false
namespace Go.Proofs.Ytbaglnffgbnekaa
open Go Go.V Go.B
open Go.ChangeShapes Go.WideShapes Go.ChangeAt Go.RowKit

set_option maxRecDepth 4000 in
theorem bitsetWordsW_c {t : Three} {W : World} (ht : t.In W) {R : Ending → World → Prop} (k : ∀ w', Ext [] W w' → R (.returned (.bool true)) w') : Calls Try.prog 5 #[t.val] W R := by
  unfold Three.val Three.cells
  apply berthlaw01_BitsetWords_nf
  obtain ⟨W0, hW0⟩ : ∃ W0, W0 = W.alloc (.cells ⟨t.cells⟩ 27) := ⟨_, rfl⟩
  have e0 : Ext [] W W0 := by rw [hW0]; exact (Ext.refl _ _).alloc _
  have b0 : Blk W0 W.heap.size t.cells := by rw [hW0]; exact Blk.new _ _ _
  show Calls Try.prog 12 #[] (W.alloc (.cells ⟨t.cells⟩ 27)) _
  rw [← hW0]
  refine awake_c fun w1 e1 => ⟨_, rfl, sel_false rfl ?_⟩
  have hd : ∀ {w' : World}, Ext [] W0 w' → Blk w' W.heap.size t.cells := fun e => b0.ext e (by simp)
  have fin : ∀ {w' : World}, Ext [] W0 w' → R (.returned (.bool true)) w' := fun e => k _ (e0.trans e)
  refine ⟨_, Hd.n (hd e1), sized_c _ ⟨_, rfl, ?_⟩⟩
  by_cases hs : 0 ≤ t.n ∧ t.n ≤ 65536
  rotate_left
  · refine sel_true (by simp [hs]) ⟨_, Hd.n (hd e1), FromWords_bad (by omega) ⟨_, _, rfl, num_c _ ⟨_, rfl, fin e1⟩⟩⟩
  refine sel_false (by simp [hs]) ⟨_, Hd.n (hd e1), _, _, _, Hd.a (hd e1), ?_⟩
  obtain ⟨N, hN⟩ : ∃ N : Nat, t.n = N := ⟨t.n.toNat, by omega⟩
  have hN6 : N ≤ 65536 := by omega
  rw [hN]
  refine of_c hN6 ((ht.ext0 e0).ext0 e1).a (by have := ht.al; omega) fun p bw w2 C e2 hp hbw sC nC mC => ⟨_, rfl, sel_false rfl ?_⟩
  have f2 := e1.trans e2
  have oC := sC.ok
  have hl := oC.len
  rw [nC] at hl
  refine Words_c sC.ref fun p3 b3 w3 e3 hp3 hb3 s3 => ⟨_, _, _, rfl, ?_⟩
  have f3 := f2.trans e3
  have sC3 := sC.ext0 e3
  have hx := s3.wints
  refine ⟨fun w' => Blk w' W.heap.size t.cells, (hd f3).drew, _, fun _ h => Hd.n h, ?_⟩
  have f3d := f3.drew
  have hxd := hx.ext0 (Ext.refl [] w3).drew
  have sCd := sC3.drew
  rw [hN]
  refine words_c hxd (by omega) fun A4 c4 w4 e4 own4 => ⟨_, _, _, rfl, hd (f3d.trans e4), ?_⟩
  have f4 := f3d.trans e4
  have i4 := own_ints own4
  refine FromWords_c hN6 i4 oC.lt (by omega) (fun w5 h _ => absurd hl h) (fun w5 _ _ hb _ => ?_) (fun p5 b5 w5 _ e5 hp5 hb5 s5 => ⟨_, _, rfl, hd (f4.trans e5), ?_⟩)
  · exfalso
    have : ∀ j, ((C.ws.getD (C.ws.length - 1) 0) >>> (N % 64)).testBit j = false := fun j => by
      rw [Nat.testBit_shiftRight]
      by_cases hj : N % 64 + j < 64
      · have := oC.tail (64 * (C.ws.length - 1) + (N % 64 + j)) (by omega)
        unfold SetV.mem at this
        rwa [show (64 * (C.ws.length - 1) + (N % 64 + j)) / 64 = C.ws.length - 1 by omega, show (64 * (C.ws.length - 1) + (N % 64 + j)) % 64 = N % 64 + j by omega] at this
      · refine Nat.testBit_lt_two_pow (Nat.lt_of_lt_of_le (oC.lt _) ?_)
        have : (2 : Nat) ^ 64 ≤ 2 ^ (N % 64 + j) := Nat.pow_le_pow_right (by omega) (by omega)
        omega
    exact hb (Nat.eq_of_testBit_eq fun j => by rw [this j]; simp)
  have f5 := f4.trans e5
  refine ⟨fun w' => Blk w' W.heap.size t.cells, (hd f5).drew, num_c _ ⟨_, rfl, (hd f5).drew, sel_false rfl (sel_false rfl ?_)⟩⟩
  have f5d := f5.drew
  have sC5 := ((sCd.ext0 e4).ext0 e5).drew
  have s5d := s5.drew
  have hx5 := ((hxd.ext0 e4).ext0 e5).ext0 (Ext.refl [] w5).drew
  refine Equal_c sC5.ref s5d.ref fun t1 g1 => ⟨_, rfl, (hd f5).drew, ?_⟩
  have t1t : t1 = true := g1.2 fun i => rfl
  refine sel_false (by rw [t1t]; rfl) ⟨_, fun _ h => Hd.n h, ?_⟩
  refine Size_c s5d.ref ⟨_, rfl, (hd f5).drew, sel_false (by rw [hN]; simp) ⟨_, fun _ h => Hd.n h, ?_⟩⟩
  have e6 : IntKind.wrap .i64 (Int.tdiv (IntKind.wrap .i64 (t.n + 63)) 64) = ((C.ws.length : Nat) : Int) := by
    rw [hN, hl, show IntKind.wrap .i64 ((N : Int) + 63) = ((N + 63 : Nat) : Int) by rw [w64 (by omega) (by omega)]; omega, tdiv64, w64 (by omega) (by omega)]
  rw [e6]
  refine sel_false (by simp) ?_
  clear e4 e5 e3 e2 own4 i4 g1
  generalize w5.drew = w6 at *
  refine ⟨fun a i w' => w' = w6 ∧ ∃ m : Nat, i = m ∧ m ≤ C.ws.length ∧ a = ((C.rank (64 * m) : Nat) : Int), fun _ i _ => C.ws.length - i.toNat, ⟨rfl, 0, rfl, by omega, rfl⟩, ?_⟩
  rintro _ _ _ _ ⟨rfl, m, rfl, hm, rfl⟩
  refine sel_dec (fun hlt => ?_) (fun hge => ?_)
  · have hml : m < C.ws.length := by omega
    refine when_dec ⟨by omega, by omega⟩ (Ints.at hx5 hml fun ad hc => ?_)
    rw [wi_get] at hc
    try rw [Int.toNat_natCast, Nat.mul_one]
    refine ⟨_, hc, ?_⟩
    rename_i w7
    refine ⟨fun a v w' => w' = w7 ∧ ∃ (x y : Nat), v = x ∧ x < 18446744073709551616 ∧ a = ((C.rank (64 * m) + y : Nat) : Int) ∧ y + pc 64 x = pc 64 (C.w m), fun _ v _ => pc 64 v.toNat, ⟨rfl, C.w m, 0, rfl, oC.wlt m, by omega, by omega⟩, ?_⟩
    rintro _ _ _ _ ⟨rfl, x, y, rfl, hx0, rfl, hy⟩
    have hrl := rank_le C (64 * m)
    have hpl := pc_le 64 (C.w m)
    refine sel_intro (fun hne => ?_) (fun heq => ?_)
    · have hx1 : x ≠ 0 := fun h => by rw [h] at hne; simp at hne
      have e7 : IntKind.wrap .u64 ((x : Int) - 1) = ((x - 1 : Nat) : Int) := by rw [u64 (by omega) (by omega)]; omega
      have hlow := pc_low 64 x hx1 (by omega)
      refine lt_eq (y := ((x &&& (x - 1) : Nat) : Int)) (by rw [e7, and64 hx0 (by omega)]) ⟨⟨rfl, x &&& (x - 1), y + 1, rfl, Nat.lt_of_le_of_lt Nat.and_le_left hx0, ?_, by omega⟩, ?_⟩
      · rw [up64 _ (by omega)]; rfl
      · simp only [Int.toNat_natCast]; omega
    · have hx1 : x = 0 := by simpa using heq
      have hz : pc 64 0 = 0 := pc_none fun i _ => by simp
      rw [hx1, hz] at hy
      refine ⟨⟨rfl, m + 1, up64 m (by omega), by omega, ?_⟩, by rw [up64 m (by omega)]; exact down (by omega)⟩
      rw [show 64 * (m + 1) = 64 * m + 64 by omega, rank_part C m 64 (by omega)]
      omega
  obtain rfl : m = C.ws.length := by omega
  refine Count_c sC5.ref ⟨_, rfl, sel_false ?_ ?_⟩
  · have : C.rank (64 * C.ws.length) = C.count := by rw [count_at oC (M := 64 * C.ws.length) (by omega)]
    rw [this]; simp
  rename_i w7
  refine Members_c sC5.ref fun A8 c8 w8 e8 own8 => ⟨_, _, _, rfl, ?_⟩
  have i8 := own_ints own8
  have f8 := f5d.trans e8
  have hx8 := hx5.ext0 e8
  have hcl := count_le oC
  refine ⟨fun i w' => Ext [] w8 w' ∧ ∃ m : Nat, i = m ∧ m ≤ C.count, fun i _ => C.count - i.toNat, ⟨Ext.refl _ _, 0, rfl, by omega⟩, ?_⟩
  rintro _ _ w9 ⟨e9, m, rfl, hm⟩
  have f9 := f8.trans e9
  have i9 := i8.ext0 e9
  have hx9 := hx8.ext0 e9
  refine sel_dec (fun hlt => ?_) (fun hge => ?_)
  · have hml : m < C.count := by omega
    have hmm : m < C.members.length := by rw [members_length]; exact hml
    have hge1 : C.mi.getD m 0 = ((C.members[m] : Nat) : Int) := by
      simp [SetV.mi, List.getD_eq_getElem?_getD, hmm]
    have hin : C.mem C.members[m] = true := (mem_members oC _).1 (List.getElem_mem hmm)
    have hlt : C.members[m] < N := by rw [← nC]; exact oC.mem_lt hin
    generalize C.members[m] = z at *
    refine when_dec ⟨by omega, by omega⟩ (Ints.at i9 hml fun ad hc => ?_)
    rw [hge1] at hc
    try rw [Int.toNat_natCast, Nat.mul_one]
    refine ⟨_, hc, sel_dec (fun h => by omega) (fun _ => ?_)⟩
    refine when_dec ⟨by omega, by omega⟩ (Ints.at i9 hml fun ad hc => ?_)
    rw [hge1] at hc
    refine ⟨_, hc, _, Hd.n (hd f9), sel_dec (fun h => by rw [hN] at h; omega) (fun _ => ?_)⟩
    refine when_dec ⟨by omega, by omega⟩ (Ints.at i9 hml fun ad hc => ?_)
    rw [hge1] at hc
    refine ⟨_, hc, ?_⟩
    have e10 : IntKind.wrap .i64 (Int.tdiv (z : Int) 64) = ((z / 64 : Nat) : Int) := by rw [tdiv64, w64 (by omega) (by omega)]
    rw [e10]
    refine when_dec ⟨by omega, by omega⟩ (Ints.at hx9 (show z / 64 < C.ws.length by omega) fun ad hcw => ?_)
    rw [wi_get] at hcw
    try rw [Int.toNat_natCast, Nat.mul_one]
    refine ⟨_, hcw, when_dec ⟨by omega, by omega⟩ (Ints.at i9 hml fun ad hc => ?_)⟩
    rw [hge1] at hc
    refine ⟨_, hc, ?_⟩
    rw [tmod64, u64 (x := ((z % 64 : Nat) : Int)) (by omega) (by omega)]
    refine when_dec (by omega) (sel_false ?_ ⟨⟨e9.drew, m + 1, up64 m (by omega), by omega⟩, by rw [up64 m (by omega)]; exact down (by omega)⟩)
    rw [Int.toNat_natCast, shr_nat _ _ (by omega)]
    have e2 := and64 (x := C.ws.getD (z / 64) 0 >>> (z % 64)) (y := 1) (Nat.lt_of_le_of_lt (Nat.shiftRight_le _ _) (oC.lt _)) (by omega)
    rw [show (((1 : Nat)) : Int) = 1 from rfl] at e2
    rw [e2]
    have hbit : 1 &&& (C.ws.getD (z / 64) 0 >>> (z % 64)) ≠ 0 := by
      have := hin
      unfold SetV.mem Nat.testBit at this
      simpa using this
    rw [Nat.and_comm] at hbit
    have hle : C.ws.getD (z / 64) 0 >>> (z % 64) &&& 1 ≤ 1 := Nat.and_le_right
    have : C.ws.getD (z / 64) 0 >>> (z % 64) &&& 1 = 1 := by omega
    rw [this]; rfl
  · refine ⟨_, Hd.n (hd f9), ?_⟩
    rw [hN]
    exact refused_c hN6 oC nC hx9 (Nat.le_refl _) fun w10 e10 => ⟨_, rfl, fin (f9.trans e10)⟩
theorem bitsetWords_lifted (os : Os) (started : os.Started) (H : Type) (enc : TypeId × Value → H) :
    ReturnsInHanded {} Try.checked os 5 .any (Rows.bitsetWordsSpec.pre6 enc Try.prog Try.f5 Rows.bitsetWordsRow.domain false) (Rows.bitsetWordsSpec.post enc Try.prog Try.f5 false true false false) :=
  lift1 (C := Try.checked) (T := 27) (tb := 4) own (by kernel_rfl) Try.func5 (by kernel_rfl) (by kernel_rfl) Try.underlying4 rfl (fun _ _ => rfl) laidOut (by kernel_rfl) (of_decide_eq_true (by kernel_rfl)) os started H enc
    (fun W base v d p hok h hw => by
      obtain ⟨t, rfl, ht⟩ := open_three hok h hw
      exact bitsetWordsW_c ht fun w' e => ⟨rfl, e.below⟩)
    (ChangeSpec.witness6 (enc := enc) (C := Try.checked) false ⟨#[], #[.agg #[.int .i64 0, .slice none 0 0, .slice none 0 0, .slice none 0 0]], []⟩ 8 (by kernel_rfl) (by kernel_rfl) (by kernel_rfl) (by kernel_rfl))
theorem bitsetWords_holds : Rows.BitsetWordsSaid :=
  OpenClaim.holds_of_wide 5 Try.f5 rfl rfl rfl rfl rfl rfl rfl ⟨rfl, rfl, rfl, rfl, rfl⟩ rfl rfl rfl rfl rfl (by kernel_rfl) Try.func5 (by kernel_rfl)
    (of_decide_eq_true (by kernel_rfl)) (by unfold Func.isWrapper; first | (rw [if_pos (by decide +kernel)]; kernel_rfl) | (rw [if_neg (by decide +kernel)]; exact ⟨rfl, rfl⟩))
    (fun os started H enc _ => bitsetWords_lifted os started H enc)
end Go.Proofs.Ytbaglnffgbnekaa
