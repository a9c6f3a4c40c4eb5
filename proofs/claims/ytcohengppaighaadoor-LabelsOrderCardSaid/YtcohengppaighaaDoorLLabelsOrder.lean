/- Whatever list comes in, berthlaw03.LabelsOrder returns true and leaves what came in as it was. -/
import Derived.Test.YtcohengppaighaaDoorLb7
import Derived.Test.YtcohengppaighaaDoorLl
import Derived.Test.YtcohengppaighaaDoorRows
import Derived.Test.YtcohengppaighaaDoorTie
import Derived.Test.YtcohengppaighaaDoorCards
import Derived.ProofKit
import Derived.LaidMore
import Derived.OpenShut
import Derived.Stop.Joined
import Derived.SevenTiedAt
import Derived.LaidHandle
import Derived.Lay
set_option linter.unusedVariables false
set_option linter.unusedSimpArgs false
namespace Go.Proofs.YtcohengppaighaaDoor
open Go Go.V Go.B
open Go.ChangeShapes Go.WideShapes Go.ChangeAt Go.RowKit

theorem bs_app (a b : ByteArray) : bs (a ++ b) = bs a ++ bs b := by
  simp [bs, ByteArray.data_append]
theorem item_sum (x : Lab) : bs ((x.1 ++ ⟨#[61]⟩) ++ x.2) = itemT x := by
  rw [bs_app, bs_app, List.append_assoc]; rfl
theorem joined_c {w : World} {A : Option Addr} {n c : Nat} {l : List Lab} (h : LIn w A n l) (ok : OkL l) {R : Ending → World → Prop} (k : ∀ w', Ext [] w w' → R (.returned (.string (unb (joinT l)))) w') :
    Calls Tryd.prog 28 #[.slice A n c] w R := by
  apply berthlaw03_joined_nf
  have hl := h.len
  have hlen := ok.len
  have hmax := join_max ok
  refine ⟨fun s t w' => ∃ a : Nat, t = a ∧ a ≤ n ∧ Ext [] w w' ∧ bs s = joinT (l.take a), fun s t _ => n - t.toNat, ⟨0, rfl, by omega, Ext.refl _ _, rfl⟩, ?_⟩
  rintro s _ _ w7 ⟨a, rfl, ha, e7, hs⟩
  have hsl := bs_len s
  have hcut := join_le (l := l) a
  rw [hs] at hsl
  refine sel_dec (fun hlt => ?_) (fun hge => ?_)
  · obtain ⟨x, hx⟩ : ∃ x, l[a]? = some x := ⟨_, List.getElem?_eq_getElem (by omega)⟩
    obtain ⟨ad, rfl, rd⟩ := lab_cells h.c hx
    obtain ⟨r0, r1, r2⟩ := rd w7 e7
    have hxm := List.mem_of_getElem? hx
    have k1 := key_len (ok.key x hxm)
    have k2 := val_len (ok.val x hxm)
    have b1 := bs_len x.1
    have b2 := bs_len x.2
    have hsz : ByteArray.size ⟨#[61]⟩ = 1 := rfl
    have hsz4 : ByteArray.size ⟨#[44]⟩ = 1 := rfl
    have q1 : ByteArray.size (x.1 ++ ⟨#[61]⟩) = x.1.size + 1 := by rw [ByteArray.size_append, hsz]
    have q2 : ByteArray.size ((x.1 ++ ⟨#[61]⟩) ++ x.2) = x.1.size + 1 + x.2.size := by rw [ByteArray.size_append, q1]
    have q3 : ByteArray.size (s ++ ⟨#[44]⟩) = s.size + 1 := by rw [ByteArray.size_append, hsz4]
    refine sel_dec (fun hp => ?_) (fun hp => ?_)
    · refine when_dec (by omega) (when_dec ⟨by omega, by omega⟩ ⟨_, r0, when_dec (by omega) (when_dec ⟨by omega, by omega⟩ ⟨_, r1, when_dec (by omega) (when_dec (by omega) ?_)⟩)⟩)
      rw [up64 a (by omega)]
      refine ⟨⟨a + 1, rfl, by omega, e7.drew, ?_⟩, by simp only [Int.toNat_natCast]; omega⟩
      rw [snoc_at hx, join_snoc _ (fun e => by have := congrArg List.length e; rw [List.length_take, Nat.min_eq_left (by omega)] at this; simp at this; omega), bs_app, bs_app, item_sum, hs, List.append_assoc]; rfl
    · have h0 : a = 0 := by omega
      subst h0
      have hs0 : s.size = 0 := by rw [← hsl]; rfl
      refine when_dec ⟨by omega, by omega⟩ ⟨_, r0, when_dec (by omega) (when_dec ⟨by omega, by omega⟩ ⟨_, r1, when_dec (by omega) (when_dec (by omega) ?_)⟩)⟩
      rw [up64 0 (by omega)]
      refine ⟨⟨1, rfl, by omega, e7.drew, ?_⟩, by simp only [Int.toNat_natCast]; omega⟩
      rw [snoc_at hx, bs_app, item_sum, hs]; rfl
  · rw [List.take_of_length_le (by omega)] at hs
    have : s = unb (joinT l) := bs_inj (by rw [bs_unb, hs])
    rw [this]
    exact k w7 e7
theorem ris_rev {l : List Lab} (ok : OkL l) : makeS l.reverse = (l, ByteArray.empty, 0) := by
  have hn : (keys l.reverse).Nodup := (keys_perm (List.reverse_perm l)).nodup_iff.2 ok.ris.nodup
  rw [make_ris (by rw [List.length_reverse]; exact ok.len) (fun x hx => ok.key x (List.mem_reverse.1 hx)) (fun x hx => ok.val x (List.mem_reverse.1 hx)) hn]
  rw [← sortS_eq hn (List.reverse_perm l).symm (ok.ris.imp lt_le)]
set_option maxHeartbeats 2000000 in
theorem labelsOrder_c {w : World} {A : Option Addr} {n c : Nat} {l0 : List Lab} (h : LIn w A n l0) {R : Ending → World → Prop}
    (k : ∀ w', Ext [] w w' → R (.returned (.bool true)) w') : Calls Tryd.prog 7 #[.slice A n c] w R := by
  apply berthlaw03_LabelsOrder_nf
  refine wakes_c fun w4 e4 => ⟨_, rfl, sel_false rfl ?_⟩
  refine copiedI (h.ext0 e4) fun w7 A5 c5 e7 i7 => ⟨_, _, _, rfl, ?_⟩
  refine MakeI i7 fun w12 A8 n8 e12 i12 => ⟨_, _, _, _, _, rfl, ?_⟩
  have x12 := (e4.trans e7).trans e12
  have hl0 := h.len
  refine sel_intro (fun he => ?_) (fun he => ?_)
  · have he : (makeS l0).2.2 ≠ 0 := by simpa using he
    obtain ⟨hnil, hor⟩ := make_bad he
    rw [hnil] at i12
    have hz : n8 = 0 := i12.len.symm
    subst hz
    refine sel_true rfl (sel_intro (fun _ => k _ x12) (fun hs => ?_))
    rw [beqBytes, decide_eq_false_iff_not] at hs
    rcases hor with h1 | h1
    · exact absurd h1 hs
    · rw [decide_eq_true (by omega)]
      exact k _ x12
  have he : (makeS l0).2.2 = 0 := by simpa using he
  obtain ⟨hle, hnd, hmk, ok⟩ := make_ok he
  rw [hmk] at i12 ⊢
  obtain ⟨l, hl⟩ : ∃ l, l = sortS l0 := ⟨_, rfl⟩
  have i12 : LIn w12 A8 n8 l := by rw [hl]; exact i12
  rw [← hl] at ok
  have hll : l.length = l0.length := by rw [hl, sortS_len]
  have hl8 := i12.len
  have hn8 : n8 = n := by omega
  subst hn8
  refine copiedI i12 fun w15 A13 c13 e15 i15 => ⟨_, _, _, rfl, Check_c i15 fun w19 e19 => ⟨_, _, rfl, ?_⟩⟩
  rw [checkS_fst (checkS_zero.2 ok)]
  refine sel_false (by simp) (sel_false (by simp; omega) (sel_false rfl (sel_false rfl (sel_false (by rw [beqBytes, decide_eq_true rfl]; rfl) ?_))))
  have e12_19 := e15.trans e19
  have x19 := x12.trans e12_19
  have i19 := i12.ext0 e12_19
  have h19 := h.ext0 x19
  clear e4 e7 e12 e15 e19 i7 i15
  refine ⟨fun A' n' c' t w' => ∃ a : Nat, t = a ∧ a ≤ n8 ∧ Ext [] w19 w' ∧ n' = a ∧ LOwn w' w19.heap.size A' n' c' (l.reverse.take a), fun _ _ _ t _ => n8 - t.toNat, ⟨0, rfl, by omega, Ext.refl _ _, rfl, LstL.nil _ _ _⟩, ?_⟩
  rintro A' n' c' _ _ w25 ⟨a, rfl, ha, e25, hna, own⟩
  subst hna
  refine sel_dec (fun hlt => ?_) (fun hge => ?_)
  · obtain ⟨x, hx⟩ : ∃ x, l[n']? = some x := ⟨_, List.getElem?_eq_getElem (by omega)⟩
    obtain ⟨y, hy⟩ : ∃ y, l0[n']? = some y := ⟨_, List.getElem?_eq_getElem (by omega)⟩
    obtain ⟨z, hz⟩ : ∃ z, l[n8 - 1 - n']? = some z := ⟨_, List.getElem?_eq_getElem (by omega)⟩
    obtain ⟨ad, rfl, rd⟩ := lab_cells i19.c hx
    obtain ⟨bd, rfl, rb⟩ := lab_cells h19.c hy
    obtain ⟨ad', hA', rz⟩ := lab_cells i19.c hz
    cases hA'
    have hxm := List.mem_of_getElem? hx
    have hym := List.mem_of_getElem? hy
    have hkey := ok.key x hxm
    have hval := ok.val x hxm
    have hkl := key_len hkey
    have hb1 := bs_len x.1
    have hget : getS l y.1 = (y.2, true) := getS_at ok.ris.nodup (by rw [hl]; exact sortS_mem.2 hym)
    refine ⟨fun w' => Ext [] w19 w', e25.drew, ?_⟩
    have tail : (V.when (decide ((0 : Int) ≤ (n' : Int) ∧ ((n' : Int) : Int) < ((n8 : Nat) : Int))) (V.ptr (some ad) fun a61 =>
  ∃ s62, (∀ w27, (fun w' => Ext [] w19 w') w27 → World.cell? w27 (Addr.add (Addr.add a61 ((Int.toNat (n' : Int)) * 2)) 0) = some (Value.string s62)) ∧
  Calls Tryd.prog 24 #[(Value.string s62)] (World.drew w25) fun e64 w65 =>
  ∃ b63, e64 = Ending.returned (Value.bool b63) ∧
  (fun w' => Ext [] w19 w') w65 ∧
  V.sel (!b63)
  (R (Ending.returned (Value.bool false)) w65)
  (V.when (decide ((0 : Int) ≤ (n' : Int) ∧ ((n' : Int) : Int) < ((n8 : Nat) : Int))) (V.ptr (some ad) fun a66 =>
  ∃ s67, (∀ w27, (fun w' => Ext [] w19 w') w27 → World.cell? w27 (Addr.add (Addr.add a66 ((Int.toNat (n' : Int)) * 2)) 1) = some (Value.string s67)) ∧
  Calls Tryd.prog 25 #[(Value.string s67)] w65 fun e69 w70 =>
  ∃ b68, e69 = Ending.returned (Value.bool b68) ∧
  (fun w' => Ext [] w19 w') w70 ∧
  V.sel (!b68)
  (R (Ending.returned (Value.bool false)) w70)
  (∃ S71 : World → Prop, S71 (World.drew w70) ∧
  V.when (decide ((0 : Int) ≤ (n' : Int) ∧ ((n' : Int) : Int) < ((n8 : Nat) : Int))) (V.ptr (some bd) fun a73 =>
  ∃ s74, (∀ w72, S71 w72 → World.cell? w72 (Addr.add (Addr.add a73 ((Int.toNat (n' : Int)) * 2)) 0) = some (Value.string s74)) ∧
  Calls Tryd.prog 14 #[(Value.slice (some ad) n8 n8)] (World.drew w70) fun e76 w77 =>
  ∃ A75, ∃ A75l, ∃ A75c, e76 = Ending.returned (Value.slice A75 A75l A75c) ∧
  S71 w77 ∧
  Calls Tryd.prog 20 #[(Value.slice A75 A75l A75c), (Value.string s74)] w77 fun e80 w81 =>
  ∃ s78, ∃ b79, e80 = Ending.returned (Value.tuple #[(Value.string s78), (Value.bool b79)]) ∧
  S71 w81 ∧
  V.sel (!b79)
  (R (Ending.returned (Value.bool false)) w81)
  (V.when (decide ((0 : Int) ≤ (n' : Int) ∧ ((n' : Int) : Int) < ((n8 : Nat) : Int))) (V.ptr (some bd) fun a82 =>
  ∃ s83, World.cell? w81 (Addr.add (Addr.add a82 ((Int.toNat (n' : Int)) * 2)) 1) = some (Value.string s83) ∧
  V.sel (!(ByteArray.toList s78 == ByteArray.toList s83))
  (R (Ending.returned (Value.bool false)) w81)
  (V.when (decide ((0 : Int) ≤ (IntKind.wrap .i64 ((IntKind.wrap .i64 (((n8 : Nat) : Int) - 1)) - (n' : Int))) ∧ ((IntKind.wrap .i64 ((IntKind.wrap .i64 (((n8 : Nat) : Int) - 1)) - (n' : Int))) : Int) < ((n8 : Nat) : Int))) (V.ptr (some ad) fun a84 =>
  ∃ s85, ∃ s86, V.cellsC (fun a_ x_ => World.cell? w81 a_ = some x_) (Addr.add a84 ((Int.toNat (IntKind.wrap .i64 ((IntKind.wrap .i64 (((n8 : Nat) : Int) - 1)) - (n' : Int)))) * 2)) [(Value.string s85), (Value.string s86)] ∧
  ∀ w87, w87 = (World.alloc w81 (.cells #[(Value.string s85), (Value.string s86)] 27)) →
  ∃ A88, ∃ A88l, ∃ A88c, ∃ w89, Sem.run Tryd.prog (Builtin.append_ #[22, 22] 22 #[(Value.slice A' n' c'), (Value.slice (some ⟨Array.size (World.heap w81), 0, none⟩) 1 1)]) w87 = .ok (Value.slice A88 A88l A88c) w89 ∧
  (fun A' n' c' t w' => ∃ a : Nat, t = (a : Int) ∧ a ≤ n8 ∧ Ext [] w19 w' ∧ n' = a ∧ LOwn w' w19.heap.size A' n' c' (l.reverse.take a)) A88 A88l A88c (IntKind.wrap .i64 ((n' : Int) + 1)) w89 ∧ (fun _ _ _ t _ => n8 - Int.toNat t) A88 A88l A88c (IntKind.wrap .i64 ((n' : Int) + 1)) w89 < (fun _ _ _ t _ => n8 - Int.toNat t) A' n' c' (n' : Int) w25)))))))))) := by
      refine when_dec ⟨by omega, by omega⟩ ⟨_, fun w' e => (rd w' e).1, ?_⟩
      refine IsKey_c x.1 (by omega) fun w65 e65 => ⟨_, rfl, e25.drew.trans e65, ?_⟩
      have e65' := e25.drew.trans e65
      refine sel_false (by rw [hkey]; rfl) (when_dec ⟨by omega, by omega⟩ ⟨_, fun w' e => (rd w' e).2.1, ?_⟩)
      refine IsValue_c x.2 ⟨_, rfl, e65', sel_false (by rw [hval]; rfl) ⟨fun w' => Ext [] w19 w', e65'.drew, ?_⟩⟩
      refine when_dec ⟨by omega, by omega⟩ ⟨_, fun w' e => (rb w' e).1, ?_⟩
      refine copiedI (i19.ext0 e65'.drew) fun w77 A75 c75 e77 i77 => ⟨_, _, _, rfl, e65'.drew.trans e77, ?_⟩
      refine GetI i77 y.1 fun w81 e81 => ⟨_, _, rfl, (e65'.drew.trans e77).trans e81, ?_⟩
      have e81' := (e65'.drew.trans e77).trans e81
      rw [hget]
      refine sel_false rfl (when_dec ⟨by omega, by omega⟩ ⟨_, (rb w81 e81').2.1, sel_false (by rw [beqBytes, decide_eq_true rfl]; rfl) ?_⟩)
      have e1 : IntKind.wrap .i64 ((IntKind.wrap .i64 (((n8 : Nat) : Int) - 1)) - (n' : Int)) = ((n8 - 1 - n' : Nat) : Int) := by
        rw [w64 (x := ((n8 : Nat) : Int) - 1) (by omega) (by omega), w64 (by omega) (by omega)]; omega
      rw [e1]
      refine when_dec ⟨by omega, by omega⟩ ⟨_, _, (rz w81 e81').2.2, fun w87 h87 => ?_⟩
      have own81 : LOwn w81 w19.heap.size A' n' c' (l.reverse.take n') := own.ext0 (((Ext.refl [] w25).drew.trans e65).drew.trans (e77.trans e81))
      obtain ⟨A2, c2, w2, hr, ho, he2, _⟩ := more_lab e81' own81 h87 (by omega)
      refine ⟨_, _, _, _, hr, ?_⟩
      rw [up64 n' (by omega)]
      refine ⟨⟨n' + 1, rfl, by omega, he2, rfl, ?_⟩, by simp only [Int.toNat_natCast]; omega⟩
      have hrev : l.reverse[n']? = some z := by rw [List.getElem?_reverse (by omega), ← hz, hl8]
      rw [snoc_at hrev]
      exact ho
    refine sel_dec (fun hp => ?_) (fun hp => tail)
    obtain ⟨p, hp'⟩ : ∃ p, l[n' - 1]? = some p := ⟨_, List.getElem?_eq_getElem (by omega)⟩
    obtain ⟨ad', hA', rp⟩ := lab_cells i19.c hp'
    cases hA'
    have e1 : IntKind.wrap .i64 ((n' : Int) - 1) = ((n' - 1 : Nat) : Int) := by rw [w64 (by omega) (by omega)]; omega
    rw [e1]
    refine when_dec ⟨by omega, by omega⟩ ⟨_, fun w' e => (rd w' e).1, when_dec ⟨by omega, by omega⟩ ⟨_, fun w' e => (rp w' e).1, sel_false ?_ tail⟩⟩
    have hlt2 := ris_lt ok.ris hp' hx (by omega)
    rw [less_iff, beqBytes, Bool.or_eq_false_iff, decide_eq_false_iff_not, decide_eq_false_iff_not]
    exact ⟨fun hq => List.lt_irrefl _ (List.lt_trans hq hlt2), fun hq => by rw [hq] at hlt2; exact List.lt_irrefl _ hlt2⟩
  · have hn' : n' = n8 := by omega
    subst hn'
    rw [List.take_of_length_le (by simp; omega)] at own
    have i25 : LIn w25 A' n' l.reverse := LOwn.in_ own (Szs.sub (OkL.szs ok) fun x hx => List.mem_reverse.1 hx) (by omega)
    refine MakeI i25 fun w94 A90 n90 e94 i94 => ⟨_, _, _, _, _, rfl, ?_⟩
    rw [ris_rev ok] at i94 ⊢
    have e94' := e25.trans e94
    refine copiedI (i19.ext0 e94') fun w97 A95 c95 e97 i97 => ⟨_, _, _, rfl, Text_c i97 fun w101 e101 => ⟨_, _, rfl, ?_⟩⟩
    have hts : textS l = (unb (joinT l), 0) := by unfold textS; rw [if_pos (checkS_zero.2 ok)]
    rw [hts]
    refine ParseI (unb (joinT l)) fun w106 A102 n102 e106 i106 => ⟨_, _, _, _, _, rfl, ?_⟩
    rw [bs_unb, parse_join ok] at i106 ⊢
    have e106' := (e97.trans e101).trans e106
    refine sel_true rfl (sameI (i94.ext0 e106') ((i19.ext0 e94').ext0 e106') fun w109 e109 => ⟨_, rfl, ?_⟩)
    refine sel_true (decide_eq_true rfl) (sel_true rfl (joined_c (((i19.ext0 e94').ext0 e106').ext0 e109) ok fun w112 e112 => ⟨_, rfl, ?_⟩))
    refine sel_true (by rw [beqBytes, decide_eq_true rfl]) (sel_true rfl (sel_true rfl (sameI (i106.ext0 (e109.trans e112)) (((i19.ext0 e94').ext0 e106').ext0 (e109.trans e112)) fun w115 e115 => ⟨_, rfl, ?_⟩)))
    rw [decide_eq_true rfl]
    exact k _ ((x19.trans (e94'.trans e106')).trans ((e109.trans e112).trans e115))
/-! ### the library's tables, and the tied card -/
set_option maxRecDepth 100000 in
theorem door_met (os : Os) (args : Array Value) : laidMetH Tryd.prog Rows.labelsOrderRow.laid ((World.laidAll Tryd.prog os Rows.labelsOrderRow.laid).forCall (fun _ _ => 0) ⟨#[], args, []⟩).memory := by
  rw [MakeChecks.laidMetH_plain _ _ _ (by kernel_rfl)]
  exact laidMet_laidAll _ (by kernel_rfl) (by kernel_rfl)
set_option maxRecDepth 8000 in
theorem labelsOrder_lifted (os : Os) (started : os.Started) (H : Type) (enc : TypeId × Value → H) (F : Stop.Interp) :
    ReturnsInHanded {} Tryd.checked os 7 .any ((OpenSpec.ofChange Rows.labelsOrderSpec).preRow enc Tryd.prog Tryd.f7 Rows.labelsOrderRow.domain false Rows.labelsOrderRow.laid) (((OpenSpec.ofChange Rows.labelsOrderSpec).at F).post enc Tryd.prog Tryd.f7 false true false false) :=
  lift1L (C := Tryd.checked) (T := 22) (tb := 4) own (by kernel_rfl) Tryd.func7 (by kernel_rfl) (by kernel_rfl) Tryd.underlying4 rfl (fun _ _ => rfl) laidOut (by kernel_rfl) (of_decide_eq_true (by kernel_rfl)) os started H enc F
    (fun W base v0 d0 p0 hok0 ht0 hw0 hL => by
      obtain ⟨A0, n0, c0, l0, rfl, h0⟩ := open_labs hok0 ht0 hw0
      exact labelsOrder_c h0 fun w' e => ⟨rfl, e.below⟩)
    (ChangeSpec.witness_shaped (enc := enc) (C := Tryd.checked) (os := os) (X := fun w _ => laidMetH Tryd.prog Rows.labelsOrderRow.laid w) false (World.laidAll Tryd.prog os Rows.labelsOrderRow.laid) #[.slice none 0 0] 8 (World.laidAll_os _ _ _) (World.shaped_of_ZipB (by kernel_rfl) (by kernel_rfl)) (by kernel_rfl) (by kernel_rfl) (by kernel_rfl) (door_met os _))
theorem labelsOrder_holds : Rows.LabelsOrderSaid :=
  OpenClaim.holds_of_cond 7 Tryd.f7 rfl rfl rfl rfl rfl rfl rfl ⟨rfl, rfl, rfl, rfl, rfl⟩ rfl rfl rfl rfl rfl (by kernel_rfl) Tryd.func7 (by kernel_rfl)
    (of_decide_eq_true (by kernel_rfl)) (by unfold Func.isWrapper; first | (rw [if_pos (by decide +kernel)]; kernel_rfl) | (rw [if_neg (by decide +kernel)]; exact ⟨rfl, rfl⟩))
    (fun os started H enc _ F0 => by rw [OpenClaim.pre_eq_preRow]; exact labelsOrder_lifted os started H enc F0)
theorem labelsOrder_card_holds : Rows.LabelsOrderCardSaid :=
  Claim7.holds_tied_plain_at .later [] [.data, .pinned] true (true, Rows.labelsOrderCard.stood.harness.2) false
    labelsOrder_holds (fun _ h => by cases h) (by kernel_rfl) (fun _ h => by cases h) labelsOrder_row_tie rfl ⟨rfl, rfl⟩ (by kernel_rfl) rfl
    (fun f fn hf hfn => by
      obtain rfl : f = 7 := Option.some.inj ((show Tryd.prog.funcNamed "berth/berthlaw03.LabelsOrder" = some 7 by kernel_rfl).symm.trans hf) |>.symm
      obtain rfl : fn = Tryd.f7 := (Option.some.inj (Tryd.func7.symm.trans hfn)).symm
      exact ⟨by kernel_rfl, fun j t ht => by
        rw [Tryd.params7] at ht
        have hm : t ∈ [22] := by simpa using Array.mem_of_getElem? ht
        have hall : ([22].all fun u => !Tryd.prog.wantsStandIn u) = true := by kernel_rfl
        exact (show Tryd.prog.wantsStandIn t = false by simpa using List.all_eq_true.1 hall t hm)⟩)
    (by kernel_rfl)
end Go.Proofs.YtcohengppaighaaDoor
