/- Labels: the calls' answers as lists that are read. -/
import Derived.Test.YtcohengppaighaaGreatDoorLb6
set_option linter.unusedVariables false
set_option linter.unusedSimpArgs false
namespace Go.Proofs.YtcohengppaighaaGreatDoor
open Go Go.V Go.B

theorem put_res {l : List Lab} {k v : ByteArray} : ((putS l k v).2 = 0 ∧ OkL l ∧ OkL (putS l k v).1) ∨ ((putS l k v).2 ≠ 0 ∧ (putS l k v).1 = []) := by
  by_cases hc : (checkS l).2 = 0
  · have ok := checkS_zero.1 hc
    by_cases hp : (putS l k v).2 = 0
    · obtain ⟨hk, hv, hl⟩ := put_yes ok hp
      have := put_ok ok hk hv hl
      exact .inl ⟨hp, ok, by rw [this.1]; exact this.2⟩
    · exact .inr ⟨hp, (put_no ok hp).1⟩
  · right
    unfold putS
    rw [if_pos hc]
    exact ⟨hc, rfl⟩
theorem make_res {l : List Lab} : ((makeS l).2.2 = 0 ∧ OkL (makeS l).1) ∨ ((makeS l).2.2 ≠ 0 ∧ (makeS l).1 = []) := by
  by_cases h : (makeS l).2.2 = 0
  · obtain ⟨_, _, e, ok⟩ := make_ok h
    exact .inl ⟨h, by rw [e]; exact ok⟩
  · exact .inr ⟨h, (make_bad h).1⟩
theorem parse_res {t : List UInt8} : ((parseS t).2.2 = 0 ∧ OkL (parseS t).1) ∨ ((parseS t).2.2 ≠ 0 ∧ (parseS t).1 = []) := by
  by_cases h : (parseS t).2.2 = 0
  · obtain ⟨l, _, _, _, e, ok⟩ := parse_ok h
    exact .inl ⟨h, by rw [e]; exact ok⟩
  · exact .inr ⟨h, (parse_bad h).1⟩
theorem LIn.of {w : World} {B : Nat} {A : Option Addr} {n c : Nat} {l : List Lab} (h : LOwn w B A n c l) (hz : OkL l ∨ l = []) : LIn w A n l := by
  have hl := h.len
  rcases hz with hz | hz
  · have := hz.len
    exact LOwn.in_ h (OkL.szs hz) (by omega)
  · subst hz
    simp at hl
    exact LOwn.in_ h Szs.nil (by omega)
section
variable {w : World} {A : Option Addr} {n c : Nat} {l : List Lab} {R : Ending → World → Prop}
theorem copiedI (h : LIn w A n l) (k : ∀ w' A' c', Ext [] w w' → LIn w' A' n l → R (.returned (.slice A' n c')) w') : Calls Tryz.prog 20 #[.slice A n c] w R :=
  copied_c h.c h.len h.big fun w' A' c' e o => k w' A' c' e (LOwn.in_ o h.sz h.big)
theorem MakeI (h : LIn w A n l) (k : ∀ w' A' n', Ext [] w w' → LIn w' A' n' (makeS l).1 → R (.returned (.tuple #[.slice A' n' n', .string (makeS l).2.1, .int .i64 (makeS l).2.2])) w') : Calls Tryz.prog 32 #[.slice A n c] w R :=
  Make_c h fun w' A' n' e o => k w' A' n' e (LIn.of o (make_res.imp And.right And.right))
theorem PutI (h : LIn w A n l) {key value : ByteArray} (hk : key.size ≤ 140737488351232) (k : ∀ w' A' n', Ext [] w w' → LIn w' A' n' (putS l key value).1 → R (.returned (.tuple #[.slice A' n' n', .int .i64 (putS l key value).2])) w') : Calls Tryz.prog 33 #[.slice A n c, .string key, .string value] w R :=
  Put_c h hk fun w' A' n' e o => k w' A' n' e (LIn.of o (put_res.imp (fun a => a.2.2) And.right))
theorem DelI (h : LIn w A n l) (key : ByteArray) (k : ∀ w' A' n', Ext [] w w' → LIn w' A' n' (delS l key) → R (.returned (.tuple #[.slice A' n' n', .bool (getS l key).2])) w') : Calls Tryz.prog 34 #[.slice A n c, .string key] w R :=
  Del_c h.c h.len h.big key fun w' A' n' e o hle => k w' A' n' e (LOwn.in_ o (Szs.sub h.sz fun x hx => (del_mem.1 hx).1) (by have := h.big; omega))
theorem GetI (h : LIn w A n l) (key : ByteArray) (k : ∀ w', Ext [] w w' → R (.returned (.tuple #[.string (getS l key).1, .bool (getS l key).2])) w') : Calls Tryz.prog 26 #[.slice A n c, .string key] w R :=
  Get_c h.c h.len h.big key k
theorem sameI {B : Option Addr} {m c' : Nat} {d : List Lab} (h : LIn w A n l) (h2 : LIn w B m d) (k : ∀ w', Ext [] w w' → R (.returned (.bool (decide (l = d)))) w') : Calls Tryz.prog 18 #[.slice A n c, .slice B m c'] w R :=
  same_c h.c h.len h2.c h2.len h.big k
theorem ParseI (text : ByteArray) (k : ∀ w' A' n', Ext [] w w' → LIn w' A' n' (parseS (bs text)).1 → R (.returned (.tuple #[.slice A' n' n', .int .i64 (parseS (bs text)).2.1, .int .i64 (parseS (bs text)).2.2])) w') : Calls Tryz.prog 12 #[.string text] w R :=
  Parse_c text fun w' A' n' e o => k w' A' n' e (LIn.of o (parse_res.imp And.right And.right))
end
end Go.Proofs.YtcohengppaighaaGreatDoor
