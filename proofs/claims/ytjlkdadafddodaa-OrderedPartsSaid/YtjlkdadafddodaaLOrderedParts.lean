/- Whatever script comes in, berthlaw08.OrderedParts returns true and leaves what came in as it was. -/
import Derived.Test.YtjlkdadafddodaaO11
import Derived.Test.YtjlkdadafddodaaRows
set_option linter.unusedVariables false
set_option linter.unusedSimpArgs false
namespace Go.Proofs.Ytjlkdadafddodaa
open Go Go.V Go.B
open Go.ChangeShapes Go.WideShapes Go.ChangeAt Go.RowKit

theorem rank_parts {L E G A : SetV} (h : ∀ i, A.mem i = true ↔ L.mem i = true ∨ E.mem i = true ∨ G.mem i = true) (h1 : ∀ i, ¬ (L.mem i = true ∧ E.mem i = true)) (h2 : ∀ i, ¬ (L.mem i = true ∧ G.mem i = true)) (h3 : ∀ i, ¬ (E.mem i = true ∧ G.mem i = true)) :
    ∀ k, L.rank k + E.rank k + G.rank k = A.rank k
  | 0 => rfl
  | k + 1 => by
    have ih := rank_parts h h1 h2 h3 k
    have a := h k
    have b1 := h1 k
    have b2 := h2 k
    have b3 := h3 k
    rw [rank_succ, rank_succ, rank_succ, rank_succ]
    cases hL : L.mem k <;> cases hE : E.mem k <;> cases hG : G.mem k <;> cases hA : A.mem k <;> simp [hL, hE, hG, hA] at a b1 b2 b3 ⊢ <;> omega
structure PK (w : World) (x : Ix) (key : ByteArray) (n : Int) (pa ba pl bl pe be pg bg : Nat) (SA SL SE SG : SetV) : Prop where
  g : IxG w (some ⟨x.q, 0, none⟩) x
  N : x.N = 200
  a : Holds w pa ba x.N SA (hasP x key)
  l : Holds w pl bl x.N SL (findP x key 3 n)
  e : Holds w pe be x.N SE (findP x key 1 n)
  t : Holds w pg bg x.N SG (findP x key 5 n)
theorem PK.ext0 {w w' : World} {x : Ix} {key : ByteArray} {n : Int} {pa ba pl bl pe be pg bg : Nat} {SA SL SE SG : SetV} (h : PK w x key n pa ba pl bl pe be pg bg SA SL SE SG) (e : Ext [] w w') : PK w' x key n pa ba pl bl pe be pg bg SA SL SE SG :=
  ⟨h.g.ext0 e, h.N, h.a.ext0 e, h.l.ext0 e, h.e.ext0 e, h.t.ext0 e⟩
theorem find_or {x : Ix} {key : ByteArray} {n a b c : Int} (h : ∀ v : Int, standsP c v n ↔ standsP a v n ∨ standsP b v n) (i : Nat) : findP x key c n i ↔ findP x key a n i ∨ findP x key b n i := by
  unfold findP
  constructor
  · rintro ⟨v, hv, hs⟩
    rcases (h v).1 hs with hs | hs
    · exact .inl ⟨v, hv, hs⟩
    · exact .inr ⟨v, hv, hs⟩
  · rintro (⟨v, hv, hs⟩ | ⟨v, hv, hs⟩)
    · exact ⟨v, hv, (h v).2 (.inl hs)⟩
    · exact ⟨v, hv, (h v).2 (.inr hs)⟩
theorem find_apart {x : Ix} {key : ByteArray} {n a b : Int} (h : ∀ v : Int, ¬ (standsP a v n ∧ standsP b v n)) (i : Nat) : ¬ (findP x key a n i ∧ findP x key b n i) := by
  rintro ⟨⟨v, hv, hs⟩, ⟨u, hu, ht⟩⟩
  rw [hv] at hu
  cases hu
  exact h v ⟨hs, ht⟩
theorem has_parts {x : Ix} {key : ByteArray} {n : Int} (i : Nat) : hasP x key i ↔ findP x key 3 n i ∨ findP x key 1 n i ∨ findP x key 5 n i := by
  unfold hasP findP
  constructor
  · rintro ⟨v, hv⟩
    rcases Int.lt_trichotomy v n with h | h | h
    · exact .inl ⟨v, hv, by unfold standsP; omega⟩
    · exact .inr (.inl ⟨v, hv, by unfold standsP; omega⟩)
    · exact .inr (.inr ⟨v, hv, by unfold standsP; omega⟩)
  · rintro (⟨v, hv, _⟩ | ⟨v, hv, _⟩ | ⟨v, hv, _⟩) <;> exact ⟨v, hv⟩
theorem find_has {w : World} {p b N : Nat} {S : SetV} {x : Ix} {key : ByteArray} {c n : Int} (h : Holds w p b N S (findP x key c n)) (slot : Nat) : S.has (slot : Int) = true ↔ ∃ v, x.val key (slot : Int) = some v ∧ standsP c v n := by
  rw [SetV.has_nat]; exact h.mem slot
set_option maxRecDepth 8000 in
set_option maxHeartbeats 2000000 in
theorem orderedParts_c {W : World} {A : Option Addr} {m c : Nat} {ops : List Op} (ho : OpsAt W A m ops) {q : Asked} (hq : q.In) {R : Ending → World → Prop} (k : ∀ w', Ext [] W w' → R (.returned (.bool true)) w') :
    Calls Try.prog 3 #[.slice A m c, .agg #[.string q.key, .int .i64 q.n, .int .i64 q.hi]] W R := by
  apply berthlaw08_OrderedParts_nf
  have hsz := ho.sz
  intro w5 h5
  obtain ⟨b5, x5, z5⟩ := box_new (cs := [.string q.key, .int .i64 q.n, .int .i64 q.hi]) h5
  refine fixed_c fun w8 e8 => ⟨_, rfl, sel_false rfl ?_⟩
  have b8 := b5.ext e8 (by simp)
  have e08 := x5.trans e8
  refine ⟨_, cadd b8 rfl, _, cadd b8 rfl, _, cadd b8 rfl, played_c (ho.ext0 e08.drew) fun w15 F x e15 a15 k15 N15 r15 f15 => ⟨_, _, rfl, sel_false rfl ?_⟩⟩
  have g15 := a15.g k15 (by omega) r15
  have E15 := e08.drew.trans e15
  have n0 := hq.n0
  have n1 := hq.n1
  have h0 := hq.h0
  have h1 := hq.h1
  refine Has_c' g15 q.key fun pa ba w18 SA e18 _ _ HA => ⟨_, rfl, ?_⟩
  refine Find_c' (g15.ext0 e18) q.key 3 q.n n0 n1 fun pl bl w21 SL e21 _ _ HL => ⟨_, rfl, ?_⟩
  refine Find_c' ((g15.ext0 e18).ext0 e21) q.key 1 q.n n0 n1 fun pe be w24 SE e24 _ _ HE => ⟨_, rfl, ?_⟩
  refine Find_c' (((g15.ext0 e18).ext0 e21).ext0 e24) q.key 5 q.n n0 n1 fun pg bg w27 SG e27 _ _ HG => ⟨_, rfl, ?_⟩
  have P : PK w27 x q.key q.n pa ba pl bl pe be pg bg SA SL SE SG := ⟨(((g15.ext0 e18).ext0 e21).ext0 e24).ext0 e27, N15, ((HA.ext0 e21).ext0 e24).ext0 e27, (HL.ext0 e24).ext0 e27, HE.ext0 e27, HG⟩
  have E27 := (((E15.trans e18).trans e21).trans e24).trans e27
  have apL : ∀ i, ¬ (findP x q.key 3 q.n i ∧ findP x q.key 1 q.n i) := find_apart fun v => by unfold standsP; omega
  have apG : ∀ i, ¬ (findP x q.key 3 q.n i ∧ findP x q.key 5 q.n i) := find_apart fun v => by unfold standsP; omega
  have apE : ∀ i, ¬ (findP x q.key 1 q.n i ∧ findP x q.key 5 q.n i) := find_apart fun v => by unfold standsP; omega
  refine Meets_h P.l P.e apL ⟨_, rfl, sel_false rfl (Meets_h P.l P.t apG ⟨_, rfl, sel_false rfl (Meets_h P.e P.t apE ⟨_, rfl, sel_false rfl ?_⟩)⟩)⟩
  refine Count_c P.l.set.ref ⟨_, rfl, Count_c P.e.set.ref ⟨_, rfl, Count_c P.t.set.ref ⟨_, rfl, Count_c P.a.set.ref ⟨_, rfl, sel_false ?_ ?_⟩⟩⟩⟩
  · have c1 := count_le P.l.set.ok
    have c2 := count_le P.e.set.ok
    have c3 := count_le P.t.set.ok
    have := rank_parts (L := SL) (E := SE) (G := SG) (A := SA) (fun i => by rw [P.a.mem, P.l.mem, P.e.mem, P.t.mem]; exact has_parts i) (fun i => by rw [P.l.mem, P.e.mem]; exact apL i) (fun i => by rw [P.l.mem, P.t.mem]; exact apG i) (fun i => by rw [P.e.mem, P.t.mem]; exact apE i) 200
    have u1 : SL.count = SL.rank 200 := by unfold SetV.count; rw [P.l.size, P.N]
    have u2 : SE.count = SE.rank 200 := by unfold SetV.count; rw [P.e.size, P.N]
    have u3 : SG.count = SG.rank 200 := by unfold SetV.count; rw [P.t.size, P.N]
    have u4 : SA.count = SA.rank 200 := by unfold SetV.count; rw [P.a.size, P.N]
    have v1 : IntKind.wrap .i64 ((SL.count : Int) + (SE.count : Int)) = ((SL.count + SE.count : Nat) : Int) := by rw [w64 (by omega) (by omega)]; omega
    have v2 : IntKind.wrap .i64 (((SL.count + SE.count : Nat) : Int) + (SG.count : Int)) = ((SL.count + SE.count + SG.count : Nat) : Int) := by rw [w64 (by omega) (by omega)]; omega
    rw [v1, v2]
    simp; omega
  refine Or_h P.e P.t fun p49 b49 w51 S49 e51 _ _ H49 => ⟨_, rfl, Or_h (P.l.ext0 e51) H49 fun p52 b52 w54 S52 e54 _ _ H52 => ⟨_, rfl, ?_⟩⟩
  replace P := P.ext0 (e51.trans e54)
  have E54 := E27.trans (e51.trans e54)
  refine Equal_h H52 P.a (fun i => (has_parts i).symm) ⟨_, rfl, sel_false rfl ?_⟩
  refine Find_c' P.g q.key 4 q.n n0 n1 fun p58 b58 w60 S58 e60 _ _ H58 => ⟨_, rfl, Or_h (P.l.ext0 e60) (P.e.ext0 e60) fun p61 b61 w63 S61 e63 _ _ H61 => ⟨_, rfl, ?_⟩⟩
  replace P := P.ext0 (e60.trans e63)
  have E63 := E54.trans (e60.trans e63)
  refine Equal_h (H58.ext0 e63) H61 (find_or fun v => by unfold standsP; omega) ⟨_, rfl, sel_false rfl ?_⟩
  refine Find_c' P.g q.key 6 q.n n0 n1 fun p67 b67 w69 S67 e69 _ _ H67 => ⟨_, rfl, Or_h (P.t.ext0 e69) (P.e.ext0 e69) fun p70 b70 w72 S70 e72 _ _ H70 => ⟨_, rfl, ?_⟩⟩
  replace P := P.ext0 (e69.trans e72)
  have E72 := E63.trans (e69.trans e72)
  refine Equal_h (H67.ext0 e72) H70 (find_or fun v => by unfold standsP; omega) ⟨_, rfl, sel_false rfl ?_⟩
  refine Find_c' P.g q.key 2 q.n n0 n1 fun p76 b76 w78 S76 e78 _ _ H76 => ⟨_, rfl, Or_h (P.l.ext0 e78) (P.t.ext0 e78) fun p79 b79 w81 S79 e81 _ _ H79 => ⟨_, rfl, ?_⟩⟩
  replace P := P.ext0 (e78.trans e81)
  have E81 := E72.trans (e78.trans e81)
  refine Equal_h (H76.ext0 e81) H79 (find_or fun v => by unfold standsP; omega) ⟨_, rfl, sel_false rfl fun w85 h85 => ?_⟩
  obtain ⟨b85, x85, z85⟩ := box_new (cs := [.int .i64 q.n]) h85
  replace P := P.ext0 x85
  have E85 := E81.trans x85
  refine Among_c' P.g q.key (ns := [q.n]) (Ints.of_blk (xs := [q.n]) b85.blk (by intro j hj; simp at hj; subst hj; rfl)) (fun ad e => by cases e; exact b85.lt) (by simp) fun p86 b86 w88 S86 e88 _ _ H86 => ⟨_, rfl, ?_⟩
  replace P := P.ext0 e88
  have E88 := E85.trans e88
  refine Equal_h H86 P.e (fun i => by
    unfold amongP findP
    constructor
    · rintro ⟨a, ha, hb⟩
      exact ⟨a, ha, .inl ⟨rfl, by simpa using hb⟩⟩
    · rintro ⟨a, ha, hb⟩
      exact ⟨a, ha, by unfold standsP at hb; simp; omega⟩) ⟨_, rfl, sel_false rfl ?_⟩
  refine Between_c P.g q.key q.n q.n fun p92 b92 w94 S92 e94 _ _ H92 => ⟨_, rfl, ?_⟩
  replace P := P.ext0 e94
  have E94 := E88.trans e94
  refine Equal_h H92 P.e (fun i => by
    unfold between findP
    constructor
    · rintro ⟨a, ha, hb⟩
      exact ⟨a, ha, by unfold standsP; omega⟩
    · rintro ⟨a, ha, hb⟩
      exact ⟨a, ha, by unfold standsP at hb; omega⟩) ⟨_, rfl, sel_false rfl ?_⟩
  refine Between_c P.g q.key q.n q.hi fun p98 b98 w100 S98 e100 _ _ H98 => ⟨_, rfl, Find_c' (P.g.ext0 e100) q.key 6 q.n n0 n1 fun p101 b101 w103 S101 e103 _ _ H101 => ⟨_, rfl, Find_c' ((P.g.ext0 e100).ext0 e103) q.key 4 q.hi h0 h1 fun p104 b104 w106 S104 e106 _ _ H104 => ⟨_, rfl, And_h (H101.ext0 e106) H104 fun p107 b107 w109 S107 e109 _ _ H107 => ⟨_, rfl, ?_⟩⟩⟩⟩
  have e9 := ((e100.trans e103).trans e106).trans e109
  replace P := P.ext0 e9
  have E109 := E94.trans e9
  refine Equal_h ((H98.ext0 e103).ext0 e106 |>.ext0 e109) H107 (fun i => by
    unfold between findP
    constructor
    · rintro ⟨a, ha, hb⟩
      exact ⟨⟨a, ha, by unfold standsP; omega⟩, ⟨a, ha, by unfold standsP; omega⟩⟩
    · rintro ⟨⟨a, ha, hb⟩, ⟨b, hb1, hb2⟩⟩
      rw [ha] at hb1
      cases hb1
      exact ⟨a, ha, by unfold standsP at hb hb2; omega⟩) ⟨_, rfl, sel_false rfl ?_⟩
  refine ⟨fun t w' => ∃ a : Nat, t = a ∧ a ≤ 200 ∧ Ext [] w109 w', fun t _ => 200 - t.toNat, ⟨0, rfl, by omega, Ext.refl _ _⟩, ?_⟩
  rintro _ _ w117 ⟨a, rfl, ha, e117⟩
  have P' := P.ext0 e117
  refine sel_dec (fun hlt => ?_) (fun hge => k w117 (E109.trans e117))
  have hlt : a < 200 := by omega
  refine Get_c P'.g.r q.key a fun w121 e121 => ⟨_, _, rfl, ?_⟩
  have Q := P'.ext0 e121
  have fin : (∃ a' : Nat, IntKind.wrap .i64 ((a : Int) + 1) = a' ∧ a' ≤ 200 ∧ Ext [] w109 w121) ∧ 200 - (IntKind.wrap .i64 ((a : Int) + 1)).toNat < 200 - (a : Int).toNat := by
    rw [up64 a (by omega)]
    exact ⟨⟨a + 1, rfl, by omega, e117.trans e121⟩, by simp only [Int.toNat_natCast]; omega⟩
  have hA : SA.has (a : Int) = (x.val q.key (a : Int)).isSome := by
    rw [SetV.has_nat, Bool.eq_iff_iff, Q.a.mem, Option.isSome_iff_exists]
    rfl
  have hL := find_has Q.l a
  have hG := find_has Q.t a
  refine Has_c Q.a.set.ref (a : Int) ⟨_, rfl, sel_false (by rw [hA]; simp) ?_⟩
  refine Has_c Q.l.set.ref (a : Int) ⟨_, rfl, ?_⟩
  cases hv : x.val q.key (a : Int) with
  | none =>
    rw [hv] at hL hG
    have l0 : SL.has (a : Int) = false := by rw [← Bool.not_eq_true, hL]; rintro ⟨v, h, _⟩; cases h
    have g0 : SG.has (a : Int) = false := by rw [← Bool.not_eq_true, hG]; rintro ⟨v, h, _⟩; cases h
    refine sel_false rfl (sel_false (by rw [l0]; rfl) (Has_c Q.t.set.ref (a : Int) ⟨_, rfl, sel_false rfl (sel_false (by rw [g0]; rfl) fin)⟩))
  | some v =>
    rw [hv] at hL hG
    have l0 : SL.has (a : Int) = decide (v < q.n) := by
      rw [Bool.eq_iff_iff, hL, decide_eq_true_eq]
      constructor
      · rintro ⟨u, hu, hs⟩; cases hu; unfold standsP at hs; omega
      · intro h; exact ⟨v, rfl, by unfold standsP; omega⟩
    have g0 : SG.has (a : Int) = decide (v > q.n) := by
      rw [Bool.eq_iff_iff, hG, decide_eq_true_eq]
      constructor
      · rintro ⟨u, hu, hs⟩; cases hu; unfold standsP at hs; omega
      · intro h; exact ⟨v, rfl, by unfold standsP; omega⟩
    refine sel_true rfl (sel_false (by rw [l0]; simp) (Has_c Q.t.set.ref (a : Int) ⟨_, rfl, sel_true rfl (sel_false (by rw [g0]; simp) fin)⟩))
set_option maxRecDepth 100000 in
theorem orderedParts_lifted (os : Os) (started : os.Started) (H : Type) (enc : TypeId × Value → H) :
    ReturnsInHanded {} Try.checked os 3 .any (Rows.orderedPartsSpec.pre6 enc Try.prog Try.f3 Rows.orderedPartsRow.domain false) (Rows.orderedPartsSpec.post enc Try.prog Try.f3 false true false false) :=
  lift2 (C := Try.checked) (T := 22) (U := 24) (tb := 4) own (by kernel_rfl) Try.func3 (by kernel_rfl) (by kernel_rfl) Try.underlying4 rfl (fun _ _ _ => rfl) laidOut (by kernel_rfl) (of_decide_eq_true (by kernel_rfl)) (by kernel_rfl) (of_decide_eq_true (by kernel_rfl)) os started H enc
    (fun W base v v' d d' p p' hok h hw hok' h' hw' => by
      obtain ⟨A, n, c, ops, rfl, ho⟩ := open_ops hok h hw
      obtain ⟨q, rfl, hq⟩ := open_asked hok' h' hw'
      exact orderedParts_c ho hq fun w' e => ⟨rfl, e.below⟩)
    (ChangeSpec.witness6 (enc := enc) (C := Try.checked) false ⟨#[], #[.slice none 0 0, .agg #[.string ByteArray.empty, .int .i64 0, .int .i64 0]], []⟩ 8 (by kernel_rfl) (by kernel_rfl) (by kernel_rfl) (by kernel_rfl))
theorem orderedParts_holds : Rows.OrderedPartsSaid :=
  OpenClaim.holds_of_wide 3 Try.f3 rfl rfl rfl rfl rfl rfl rfl ⟨rfl, rfl, rfl, rfl, rfl⟩ rfl rfl rfl rfl rfl (by kernel_rfl) Try.func3 (by kernel_rfl)
    (of_decide_eq_true (by kernel_rfl)) (by unfold Func.isWrapper; first | (rw [if_pos (by decide +kernel)]; kernel_rfl) | (rw [if_neg (by decide +kernel)]; exact ⟨rfl, rfl⟩))
    (fun os started H enc _ => orderedParts_lifted os started H enc)
end Go.Proofs.Ytjlkdadafddodaa
