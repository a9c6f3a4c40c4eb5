/- Ordered: Has, Find, Among. -/
import Derived.Test.YtjlkdadafddodaaGreatDoorO3
set_option linter.unusedVariables false
set_option linter.unusedSimpArgs false
namespace Go.Proofs.YtjlkdadafddodaaGreatDoor
open Go Go.V Go.B

def hasP (x : Ix) (key : ByteArray) (i : Nat) : Prop := ∃ n, x.val key (i : Int) = some n
def standsP (cmp a n : Int) : Prop := (cmp = 1 ∧ a = n) ∨ (cmp = 2 ∧ a ≠ n) ∨ (cmp = 3 ∧ a < n) ∨ (cmp = 4 ∧ a ≤ n) ∨ (cmp = 5 ∧ n < a) ∨ (cmp = 6 ∧ n ≤ a)
def findP (x : Ix) (key : ByteArray) (cmp n : Int) (i : Nat) : Prop := ∃ a, x.val key (i : Int) = some a ∧ standsP cmp a n
def amongP (x : Ix) (key : ByteArray) (ns : List Int) (i : Nat) : Prop := ∃ a, x.val key (i : Int) = some a ∧ a ∈ ns
theorem Holds.mono {w : World} {p bw N : Nat} {S : SetV} {φ ψ : Nat → Prop} (h : Holds w p bw N S φ) (e : ∀ i, φ i ↔ ψ i) : Holds w p bw N S ψ := ⟨h.set, h.size, fun i => (h.mem i).trans (e i)⟩
theorem Holds.ext0 {w w' : World} {p bw N : Nat} {S : SetV} {φ : Nat → Prop} (h : Holds w p bw N S φ) (e : Ext [] w w') : Holds w' p bw N S φ := ⟨h.set.ext0 e, h.size, h.mem⟩
theorem Holds.ext {F : List Nat} {w w' : World} {p bw N : Nat} {S : SetV} {φ : Nat → Prop} (h : Holds w p bw N S φ) (e : Ext F w w') (h1 : p ∉ F) (h2 : bw ∉ F) : Holds w' p bw N S φ := ⟨h.set.ext e h1 h2, h.size, h.mem⟩
theorem Has_c' {w : World} {q : Option Addr} {x : Ix} (h : IxG w q x) (key : ByteArray) {R : Ending → World → Prop}
    (k : ∀ p bw w' S, Ext [] w w' → w.heap.size ≤ p → w.heap.size ≤ bw → Holds w' p bw x.N S (hasP x key) → R (.returned (.pointer (some ⟨p, 0, none⟩))) w') :
    Calls Tryz.prog 19 #[.pointer q, .string key] w R := by
  apply ordered_Index_Has_nf
  refine Between_c h key _ _ fun p bw w' S e h1 h2 hs => ⟨_, rfl, k p bw w' S e h1 h2 (hs.mono fun i => ⟨fun ⟨n, hn, _⟩ => ⟨n, hn⟩, fun ⟨n, hn⟩ => ⟨n, hn, h.rng key i n hn⟩⟩)⟩
theorem AndNot_h {w : World} {p1 b1 p2 b2 N : Nat} {S1 S2 : SetV} {φ ψ : Nat → Prop} (h1 : Holds w p1 b1 N S1 φ) (h2 : Holds w p2 b2 N S2 ψ) {R : Ending → World → Prop}
    (k : ∀ p bw w' S, Ext [] w w' → w.heap.size ≤ p → w.heap.size ≤ bw → Holds w' p bw N S (fun i => φ i ∧ ¬ ψ i) → R (.returned (.pointer (some ⟨p, 0, none⟩))) w') :
    Calls Tryz.prog 44 #[.pointer (some ⟨p1, 0, none⟩), .pointer (some ⟨p2, 0, none⟩)] w R :=
  AndNot_c h1.set.ref h2.set.ref fun p bw w' C e g1 g2 hs hN hm => k p bw w' C e g1 g2 ⟨hs, by rw [hN, h1.size, h2.size]; omega, fun i => by
    rw [hm, Bool.and_eq_true, Bool.not_eq_true', ← Bool.not_eq_true, h1.mem, h2.mem]⟩
theorem Equal_h {w : World} {p1 b1 p2 b2 N N' : Nat} {S1 S2 : SetV} {φ ψ : Nat → Prop} (h1 : Holds w p1 b1 N S1 φ) (h2 : Holds w p2 b2 N' S2 ψ) (e : ∀ i, φ i ↔ ψ i) {R : Ending → World → Prop} (k : R (.returned (.bool true)) w) :
    Calls Tryz.prog 87 #[.pointer (some ⟨p1, 0, none⟩), .pointer (some ⟨p2, 0, none⟩)] w R :=
  Equal_c h1.set.ref h2.set.ref fun t ht => by
    have : t = true := ht.2 fun i => by rw [Bool.eq_iff_iff, h1.mem, h2.mem]; exact e i
    rw [this]; exact k
theorem Find_c' {w : World} {q : Option Addr} {x : Ix} (h : IxG w q x) (key : ByteArray) (cmp n : Int) (h0 : -9223372036854775808 ≤ n) (h1 : n ≤ 9223372036854775807) {R : Ending → World → Prop}
    (k : ∀ p bw w' S, Ext [] w w' → w.heap.size ≤ p → w.heap.size ≤ bw → Holds w' p bw x.N S (findP x key cmp n) → R (.returned (.pointer (some ⟨p, 0, none⟩))) w') :
    Calls Tryz.prog 18 #[.pointer q, .string key, .int .i64 cmp, .int .i64 n] w R := by
  apply ordered_Index_Find_nf
  have btw : ∀ (lo hi : Int), (∀ a, -9223372036854775808 ≤ a → a ≤ 9223372036854775807 → (lo ≤ a ∧ a ≤ hi ↔ standsP cmp a n)) →
      Calls Tryz.prog 43 #[.pointer q, .string key, .int .i64 lo, .int .i64 hi] w fun e6 w7 => ∃ p5, e6 = .returned (.pointer p5) ∧ R (.returned (.pointer p5)) w7 := fun lo hi hh =>
    Between_c h key lo hi fun p bw w' S e g1 g2 hs => ⟨_, rfl, k p bw w' S e g1 g2 (hs.mono fun i => by
      constructor
      · rintro ⟨a, ha, hb⟩
        have := h.rng key i a ha
        exact ⟨a, ha, (hh a this.1 this.2).1 hb⟩
      · rintro ⟨a, ha, hb⟩
        have := h.rng key i a ha
        exact ⟨a, ha, (hh a this.1 this.2).2 hb⟩)⟩
  have emp : (∀ a, -9223372036854775808 ≤ a → a ≤ 9223372036854775807 → ¬ standsP cmp a n) →
      Calls Tryz.prog 27 #[.pointer q] w fun e6 w7 => ∃ p5, e6 = .returned (.pointer p5) ∧ R (.returned (.pointer p5)) w7 := fun hh =>
    empty_c h.r fun p bw w' e g1 g2 hs => ⟨_, rfl, k p bw w' _ e g1 g2 ⟨hs, rfl, fun i => by
      rw [empty_mem]
      constructor
      · intro h; cases h
      · rintro ⟨a, ha, hb⟩
        have := h.rng key i a ha
        exact absurd hb (hh a this.1 this.2)⟩⟩
  refine sel_intro (fun c => ?_) (fun c1 => sel_intro (fun c => ?_) (fun c2 => sel_intro (fun c => ?_) (fun c4 => sel_intro (fun c => ?_) (fun c6 => sel_intro (fun c => ?_) (fun c3 => sel_intro (fun c => ?_) (fun c5 => ?_))))))
  · have c := eq_of_beq c; subst c
    exact btw n n fun a _ _ => by unfold standsP; omega
  · have c := eq_of_beq c; subst c
    refine Has_c' h key fun p1 b1 w1 S1 e1 g1 g1' H1 => ⟨_, rfl, Between_c (h.ext0 e1) key n n fun p2 b2 w2 S2 e2 g2 g2' H2 => ⟨_, rfl, AndNot_h (H1.ext0 e2) H2 fun p bw w' S e g g' H => ⟨_, rfl, ?_⟩⟩⟩
    have := e1.size
    have := e2.size
    refine k p bw w' S ((e1.trans e2).trans e) (by omega) (by omega) (H.mono fun i => ?_)
    constructor
    · rintro ⟨⟨a, ha⟩, hb⟩
      refine ⟨a, ha, .inr (.inl ⟨rfl, fun e => hb ⟨a, ha, by omega, by omega⟩⟩)⟩
    · rintro ⟨a, ha, hb⟩
      refine ⟨⟨a, ha⟩, ?_⟩
      rintro ⟨b, hb1, hb2⟩
      rw [ha] at hb1
      cases hb1
      unfold standsP at hb; omega
  · have c := eq_of_beq c; subst c
    exact btw _ n fun a _ _ => by unfold standsP; omega
  · have c := eq_of_beq c; subst c
    exact btw n _ fun a _ _ => by unfold standsP; omega
  · have c := eq_of_beq c; subst c
    refine sel_dec (fun hc => ?_) (fun hc => ?_)
    · rw [w64 (by omega) (by omega)]
      exact btw _ _ fun a _ _ => by unfold standsP; omega
    · exact emp fun a _ _ => by unfold standsP; omega
  · have c := eq_of_beq c; subst c
    refine sel_dec (fun hc => ?_) (fun hc => ?_)
    · rw [w64 (by omega) (by omega)]
      exact btw _ _ fun a _ _ => by unfold standsP; omega
    · exact emp fun a _ _ => by unfold standsP; omega
  · refine emp fun a _ _ hs => ?_
    rcases hs with ⟨rfl, _⟩ | ⟨rfl, _⟩ | ⟨rfl, _⟩ | ⟨rfl, _⟩ | ⟨rfl, _⟩ | ⟨rfl, _⟩
    · cases c1
    · cases c2
    · cases c3
    · cases c4
    · cases c5
    · cases c6
end Go.Proofs.YtjlkdadafddodaaGreatDoor
