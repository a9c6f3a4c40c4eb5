/- Sets: what berthlaw01.between finds, and a set's members read from their list. -/
import Derived.Test.YtbaglnffgbnekaaDoorS22
import Derived.Test.YtbaglnffgbnekaaDoorS8
import Derived.Test.YtbaglnffgbnekaaDoorB5
set_option linter.unusedVariables false
set_option linter.unusedSimpArgs false
namespace Go.Proofs.YtbaglnffgbnekaaDoor
open Go Go.V Go.B

theorem btw_tail {w : World} {q : Option Addr} {S : SetV} {f : List Nat} (h : RefAt w q S f) (ht : TzAt w) {x : Int} {R : Ending → World → Prop} {K : World → Prop} (k : K w) :
    Calls Tryd.prog 14 #[.pointer q, .int .i64 x] w fun e1 w1 => ∃ b, e1 = .returned (.bool b) ∧ V.sel (!b)
      (Calls Tryd.prog 16 #[.pointer q, .int .i64 x] w1 fun e2 w2 => ∃ n, e2 = .returned (.int .i64 n) ∧
       Calls Tryd.prog 13 #[.pointer q, .int .i64 (IntKind.wrap .i64 (((S.rank x.toNat : Nat) : Int) - 1))] w2 fun e3 w3 => ∃ m, e3 = .returned (.int .i64 m) ∧
       V.sel (n != m) (R (.returned (.bool false)) w3) (K w3)) (K w1) := by
  have o := h.ok
  refine Has_c h x ⟨_, rfl, ?_⟩
  cases hb : S.has x with
  | true => exact sel_false rfl k
  | false =>
    refine sel_true rfl (Prev_c h x fun n hn => ⟨_, rfl, ?_⟩)
    have hrk : S.rank x.toNat ≤ 65536 := by
      have := o.N
      rcases Nat.lt_or_ge x.toNat S.N with h1 | h1
      · have := rank_le S x.toNat; omega
      · rw [rank_full o h1]; have := rank_le S S.N; omega
    rw [w64 (x := ((S.rank x.toNat : Nat) : Int) - 1) (by omega) (by omega)]
    refine Select_c h ht _ (by omega) fun m hm => ⟨_, rfl, ?_⟩
    have := select_one o (prev_select o hn hb) hm
    exact sel_false (by simp [this]) k
theorem btw_mid {w : World} {q : Option Addr} {S : SetV} {f : List Nat} (h : RefAt w q S f) (ht : TzAt w) {x : Int} {R : Ending → World → Prop} {K : World → Prop} (k : K w) :
    Calls Tryd.prog 14 #[.pointer q, .int .i64 x] w fun e26 w27 => ∃ b25, e26 = .returned (.bool b25) ∧ V.sel b25
      (Calls Tryd.prog 16 #[.pointer q, .int .i64 x] w27 fun e29 w30 => ∃ n28, e29 = .returned (.int .i64 n28) ∧
       V.sel (n28 != x) (R (.returned (.bool false)) w30)
       (Calls Tryd.prog 14 #[.pointer q, .int .i64 x] w30 fun e1 w1 => ∃ b, e1 = .returned (.bool b) ∧ V.sel (!b)
        (Calls Tryd.prog 16 #[.pointer q, .int .i64 x] w1 fun e2 w2 => ∃ n, e2 = .returned (.int .i64 n) ∧
         Calls Tryd.prog 13 #[.pointer q, .int .i64 (IntKind.wrap .i64 (((S.rank x.toNat : Nat) : Int) - 1))] w2 fun e3 w3 => ∃ m, e3 = .returned (.int .i64 m) ∧
         V.sel (n != m) (R (.returned (.bool false)) w3) (K w3)) (K w1)))
      (Calls Tryd.prog 14 #[.pointer q, .int .i64 x] w27 fun e1 w1 => ∃ b, e1 = .returned (.bool b) ∧ V.sel (!b)
        (Calls Tryd.prog 16 #[.pointer q, .int .i64 x] w1 fun e2 w2 => ∃ n, e2 = .returned (.int .i64 n) ∧
         Calls Tryd.prog 13 #[.pointer q, .int .i64 (IntKind.wrap .i64 (((S.rank x.toNat : Nat) : Int) - 1))] w2 fun e3 w3 => ∃ m, e3 = .returned (.int .i64 m) ∧
         V.sel (n != m) (R (.returned (.bool false)) w3) (K w3)) (K w1)) := by
  refine Has_c h x ⟨_, rfl, ?_⟩
  cases hb : S.has x with
  | false => exact sel_false rfl (btw_tail h ht k)
  | true =>
    refine sel_true rfl (Prev_c h x fun n hn => ⟨_, rfl, ?_⟩)
    have : n = x := by
      unfold SetV.has at hb
      simp only [Bool.and_eq_true, decide_eq_true_eq] at hb
      have e : ((x.toNat : Nat) : Int) = x := by omega
      rw [← e] at hn
      rw [prev_self hn hb.2, e]
    exact sel_false (by simp [this]) (btw_tail h ht k)
theorem between_c {w : World} {q : Option Addr} {S : SetV} {f : List Nat} (h : RefAt w q S f) (ht : TzAt w) {A : Option Addr} {l c : Nat} {xs : List Int} (hx : Ints w .i64 A l xs) (hl : l * 8 ≤ 140737488355328) {R : Ending → World → Prop} (k : R (.returned (.bool true)) w) :
    Calls Tryd.prog 17 #[.pointer q, .slice A l c] w R := by
  apply berthlaw01_between_nf
  have o := h.ok
  refine ⟨fun j w' => w' = w ∧ ∃ m : Nat, j = m ∧ m ≤ l, fun j _ => l - j.toNat, ⟨rfl, 0, rfl, by omega⟩, ?_⟩
  rintro _ _ _ ⟨rfl, m, rfl, hm⟩
  refine sel_dec (fun hlt => ?_) (fun _ => k)
  have hlt : m < l := by omega
  refine when_dec ⟨by omega, by omega⟩ (Ints.at hx hlt fun ad hc => ⟨xs.getD m 0, by rw [Int.toNat_natCast, Nat.mul_one]; exact hc, ?_⟩)
  generalize xs.getD m 0 = x
  refine Rank_c h x ⟨_, rfl, Next_c h ht x fun n hn => ⟨_, rfl, ?_⟩⟩
  have hrk : S.rank x.toNat ≤ 65536 := by
    have := o.N
    rcases Nat.lt_or_ge x.toNat S.N with h1 | h1
    · have := rank_le S x.toNat; omega
    · rw [rank_full o h1]; have := rank_le S S.N; omega
  refine Select_c h ht _ (by omega) fun m' hm' => ⟨_, rfl, ?_⟩
  have e1 := select_one o (next_select o hn) hm'
  refine sel_false (by simp [e1]) (Has_c h x ⟨_, rfl, Next_c h ht x fun n2 hn2 => ⟨_, rfl, ?_⟩⟩)
  have hh := next_has hn2
  have fin : (∃ m1 : Nat, IntKind.wrap .i64 ((m : Int) + 1) = (m1 : Int) ∧ m1 ≤ l) ∧ l - (IntKind.wrap .i64 ((m : Int) + 1)).toNat < l - (m : Int).toNat := by
    rw [w64 (x := (m : Int) + 1) (by omega) (by omega)]
    exact ⟨⟨m + 1, by omega, by omega⟩, by omega⟩
  refine sel_intro (fun he => ?_) (fun he => ?_)
  · rw [he, Bool.true_and] at hh
    exact sel_false (by simp [← hh]) (btw_mid h ht ⟨⟨rfl, fin.1⟩, fin.2⟩)
  · rw [he, Bool.false_and] at hh
    exact sel_false (by simp [← hh]) (btw_mid h ht ⟨⟨rfl, fin.1⟩, fin.2⟩)
/-! ### the members in their list -/
def mv (S : SetV) (j : Nat) : Nat := S.members.getD j 0
theorem mv_at {S : SetV} {j : Nat} (h : j < S.count) : S.mi[j]? = some (mv S j : Int) ∧ S.mem (mv S j) = true ∧ S.rank (mv S j) = j := by
  obtain ⟨m, h1, h2, h3, h4⟩ := mi_at h
  have : mv S j = m := by unfold mv; rw [List.getD_eq_getElem?_getD, h1]; rfl
  rw [this]; exact ⟨h2, h3, h4⟩
theorem mv_lt {S : SetV} {i j : Nat} (hij : i < j) (h : j < S.count) : mv S i < mv S j := by
  have h1 := mv_at h
  have h2 := mv_at (show i < S.count by omega)
  rcases Nat.lt_or_ge (mv S i) (mv S j) with h3 | h3
  · exact h3
  · have := rank_mono S h3; omega
theorem mv_select {S : SetV} (o : S.Ok) {k : Nat} (h : k < S.count) {r : Int} (hr : SelectV S k r) : r = mv S k :=
  select_one o hr (.inr ⟨mv S k, rfl, (mv_at h).2.1, by rw [(mv_at h).2.2]⟩)
theorem mv_next {S : SetV} (o : S.Ok) {k : Nat} (h : k < S.count) {r : Int} (hr : NextV S ((mv S k : Int) + 1) r) : SelectV S ((k + 1 : Nat) : Int) r := by
  have := next_select o hr
  have e := rank_succ S (mv S k)
  rw [if_pos (mv_at h).2.1, (mv_at h).2.2] at e
  rw [show ((mv S k : Int) + 1).toNat = mv S k + 1 by omega, e] at this
  exact this
set_option maxRecDepth 4000 in
theorem members_lk {V : World} {S : SetV} {A : Option Addr} (hc : Cells V A (ints .i64 S.mi)) {j : Nat} (hj : j < S.count) {K : Addr → Prop}
    (h : ∀ ad, (∀ w', Ext [] V w' → w'.cell? (ad.add (Int.toNat ((j : Nat) : Int) * 1)) = some (.int .i64 (mv S j : Int))) → K ad) :
    Go.V.when (decide ((0 : Int) ≤ ((j : Nat) : Int) ∧ ((j : Nat) : Int) < ((S.count : Nat) : Int))) (Go.V.ptr A K) := by
  refine when_dec ⟨by omega, by omega⟩ ?_
  have hg : (ints .i64 S.mi)[j]? = some (.int .i64 (mv S j : Int)) := by
    unfold ints; rw [List.getElem?_map, (mv_at hj).1]; rfl
  obtain ⟨ad, rfl, hcell⟩ := hc j _ hg
  refine ptr_in (h ad fun w' e => ?_)
  obtain ⟨ad', he, hc'⟩ := (hc.ext0 e) j _ hg
  cases he
  rw [Int.toNat_natCast, Nat.mul_one]; exact hc'
end Go.Proofs.YtbaglnffgbnekaaDoor
