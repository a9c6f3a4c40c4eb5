/- Labels: lists that are read, Check. -/
import Derived.Test.YtpipenkaaodlgaaGreatDoorLb1
import Derived.Test.YtpipenkaaodlgaaGreatDoorLp4
import Derived.Sort.Walk0
set_option linter.unusedVariables false
set_option linter.unusedSimpArgs false
namespace Go.Proofs.YtpipenkaaodlgaaGreatDoor
open Go Go.V Go.B

def LbL : Lay Lab := ⟨fun x => [.string x.1, .string x.2], 2, fun _ => rfl, fun x v hv => by simp at hv; rcases hv with rfl | rfl <;> rfl, by omega⟩
theorem infoL : (Tryz.prog.info? 33).map (fun i => (i.zero, i.size, i.bytes)) = some (some (.agg #[.string ByteArray.empty, .string ByteArray.empty]), 2, 32) := by kernel_rfl
/-- A list that is read. -/
structure LIn (w : World) (A : Option Addr) (n : Nat) (l : List Lab) : Prop where
  c : Cells w A (LbL.flat l)
  len : l.length = n
  sz : ∀ x ∈ l, x.1.size ≤ 140737488351232 ∧ x.2.size ≤ 140737488351232
  big : n * 32 ≤ 140737488355328
theorem LIn.ext0 {w w' : World} {A : Option Addr} {n : Nat} {l : List Lab} (h : LIn w A n l) (e : Ext [] w w') : LIn w' A n l := ⟨h.c.ext0 e, h.len, h.sz, h.big⟩
theorem take_lab {w7 : World} {A : Option Addr} {n : Nat} {l : List Lab} (hc : Cells w7 A (LbL.flat l)) (hl : l.length = n) {a : Nat} (ha : a < n) {Q : ByteArray → ByteArray → World → Prop}
    (k : ∀ x w12, l[a]? = some x → BlkT w12 w7.heap.size [.string x.1, .string x.2] 33 → Ext [] w7 w12 → Q x.1 x.2 w12) :
    V.ptr A fun a8 => ∃ s9, ∃ s10, V.cellsC (fun a_ x_ => World.cell? w7 a_ = some x_) (Addr.add a8 ((Int.toNat (a : Int)) * 2)) [(Value.string s9), (Value.string s10)] ∧
      ∀ w11, w11 = (World.alloc w7 (.cells #[(Value.string ByteArray.empty), (Value.string ByteArray.empty)] 33)) →
      ∃ w12, Sem.run Tryz.prog (Instr.storeAt 33 (Value.pointer (some ⟨Array.size (World.heap w7), 0, none⟩)) (Value.agg #[(Value.string s9), (Value.string s10)])) w11 = .ok () w12 ∧ Q s9 s10 w12 := by
  obtain ⟨x, ad, hx, rfl, rd⟩ := Cells.row (L := LbL) hc hl ha
  refine ⟨_, _, rd, fun w11 h11 => ?_⟩
  obtain ⟨b1, x1, z1⟩ := box_new h11
  obtain ⟨w12, hr, b2, x2⟩ := storeW (P := Tryz.prog) (t := 33) (n := 2) (by kernel_rfl) b1 (vs := [.string x.1, .string x.2]) rfl rfl (LbL.one x)
  exact ⟨w12, hr, k x w12 hx b2 (x1.trans' x2 fun b hb => .inr (by simp at hb; omega))⟩
/-- The key before place a. -/
def prevK (l : List Lab) (a : Nat) : Option ByteArray := if a = 0 then none else (l[a - 1]?).map (·.1)
theorem Check_c {w : World} {A : Option Addr} {n c : Nat} {l : List Lab} (h : LIn w A n l) {R : Ending → World → Prop}
    (k : ∀ w', Ext [] w w' → R (.returned (.tuple #[.int .i64 (checkS l).1, .int .i64 (checkS l).2])) w') : Calls Tryz.prog 56 #[.slice A n c] w R := by
  apply labels_Check_nf
  have hl := h.len
  have hbig := h.big
  refine sel_dec (fun hgt => ?_) (fun hle => ?_)
  · have := k w (Ext.refl _ _)
    unfold checkS at this
    rw [if_pos (by omega)] at this
    exact this
  have hcs : checkS l = checkGo 0 none l := by unfold checkS; rw [if_neg (by omega)]
  refine ⟨fun t w' => ∃ a : Nat, t = a ∧ a ≤ n ∧ Ext [] w w' ∧ checkS l = checkGo a (prevK l a) (l.drop a), fun t _ => n - t.toNat, ⟨0, rfl, by omega, Ext.refl _ _, hcs⟩, ?_⟩
  rintro _ _ w7 ⟨a, rfl, ha, e7, hg⟩
  refine sel_dec (fun hlt => when_dec ⟨by omega, by omega⟩ (take_lab (h.ext0 e7).c hl (by omega) fun x w12 hx bx ex => ?_)) (fun hge => ?_)
  · have hd : l.drop a = x :: l.drop (a + 1) := by
      obtain ⟨h1, h2⟩ := List.getElem?_eq_some_iff.1 hx
      rw [List.drop_eq_getElem_cons h1, h2]
    rw [hd, checkGo] at hg
    have hsz := h.sz x (List.mem_of_getElem? hx)
    have bad : ∀ {e : Int} {w' : World}, badAt (prevK l a) x = e → e ≠ 0 → Ext [] w w' → R (.returned (.tuple #[.int .i64 (a : Int), .int .i64 e])) w' := fun {e w'} he hne ew => by
      rw [if_neg (by rw [he]; exact hne), he] at hg
      have := k w' ew
      rw [hg] at this
      exact this
    have good : ∀ {w' : World}, badAt (prevK l a) x = 0 → Ext [] w w' → (fun t w' => ∃ a : Nat, t = (a : Int) ∧ a ≤ n ∧ Ext [] w w' ∧ checkS l = checkGo a (prevK l a) (l.drop a)) (IntKind.wrap .i64 ((a : Int) + 1)) w' ∧ n - (IntKind.wrap .i64 ((a : Int) + 1)).toNat < n - ((a : Int)).toNat := fun {w'} he ew => by
      rw [if_pos he] at hg
      rw [up64 a (by omega)]
      refine ⟨⟨a + 1, rfl, by omega, ew, ?_⟩, by simp only [Int.toNat_natCast]; omega⟩
      rw [hg]
      have : prevK l (a + 1) = some x.1 := by unfold prevK; rw [if_neg (by omega), Nat.add_sub_cancel, hx]; rfl
      rw [this]; rfl
    have e12 := e7.trans ex
    refine ⟨_, cadd bx rfl, IsKey_c x.1 (by omega) fun w15 e15 => ⟨_, rfl, sel_intro (fun hk => bad (by unfold badAt; rw [if_pos (nf_ hk)]) (by decide) (e12.trans e15)) (fun hk => ?_)⟩⟩
    have hk := nt_ hk
    have bx15 := bx.ext e15 (by simp)
    refine ⟨_, cadd bx15 rfl, IsValue_c x.2 ⟨_, rfl, sel_intro (fun hv => bad (by unfold badAt; rw [if_neg (by simp [hk]), if_pos (nf_ hv)]) (by decide) (e12.trans e15)) (fun hv => ?_)⟩⟩
    have hv := nt_ hv
    have e15' := e12.trans e15
    refine sel_dec (fun h0 => ?_) (fun h0 => sel_dec (fun h1 => absurd h1 h0) (fun _ => ?_))
    · obtain ⟨y, hy⟩ : ∃ y, l[a - 1]? = some y := ⟨_, List.getElem?_eq_getElem (by omega)⟩
      have hp : prevK l a = some y.1 := by unfold prevK; rw [if_neg (by omega), hy]; rfl
      have e1 : IntKind.wrap .i64 ((a : Int) - 1) = ((a - 1 : Nat) : Int) := by rw [w64 (by omega) (by omega)]; omega
      have hcy : ∀ {w' : World}, Ext [] w w' → ∃ ad, A = some ad ∧ w'.cell? (Addr.add (Addr.add ad (Int.toNat (IntKind.wrap .i64 ((a : Int) - 1)) * 2)) 0) = some (.string y.1) := fun {w'} ew => by
        obtain ⟨ad, h2, h3⟩ := (h.c.ext0 ew) ((a - 1) * 2 + 0) (.string y.1) (LbL.flat_at hy rfl)
        exact ⟨ad, h2, by rw [e1, Int.toNat_natCast, Addr.add_add]; exact h3⟩
      refine ⟨_, cadd bx15 rfl, when_dec ⟨by rw [e1]; omega, by rw [e1]; omega⟩ ?_⟩
      obtain ⟨ad, hA, hcell⟩ := hcy e15'
      subst hA
      refine ⟨_, hcell, sel_intro (fun h1 => bad ?_ (by decide) e15'.drew) (fun h1 => ?_)⟩
      · rw [beqBytes, decide_eq_true_eq] at h1
        unfold badAt
        rw [hp]
        simp only [hk, hv, if_pos h1, Bool.true_eq_false, if_false]
      rw [beqBytes, decide_eq_false_iff_not] at h1
      refine sel_dec (fun _ => ?_) (fun h2 => absurd h0 h2)
      refine ⟨_, cadd bx15 rfl, when_dec ⟨by rw [e1]; omega, by rw [e1]; omega⟩ ?_⟩
      refine ⟨_, hcell, sel_intro (fun h3 => bad ?_ (by decide) e15'.drew.drew) (fun h3 => good ?_ e15'.drew.drew)⟩
      · rw [ByteArray.toList_eq, ByteArray.toList_eq, bytesLess_eq, decide_eq_true_eq] at h3
        have h3 : bs x.1 < bs y.1 := h3
        unfold badAt
        rw [hp]
        simp only [hk, hv, if_neg h1, if_pos h3, Bool.true_eq_false, if_false]
      · rw [ByteArray.toList_eq, ByteArray.toList_eq, bytesLess_eq, decide_eq_false_iff_not] at h3
        have h3 : ¬ bs x.1 < bs y.1 := h3
        unfold badAt
        rw [hp]
        simp only [hk, hv, if_neg h1, if_neg h3, Bool.true_eq_false, if_false]
    · have ha0 : a = 0 := by omega
      have hp : prevK l a = none := by unfold prevK; rw [if_pos ha0]
      refine good ?_ e15'.drew.drew
      unfold badAt
      rw [hp]
      simp [hk, hv]
  · have : l.drop a = [] := List.drop_eq_nil_of_le (by omega)
    rw [this] at hg
    have := k w7 e7
    rw [hg] at this
    exact this
end Go.Proofs.YtpipenkaaodlgaaGreatDoor
