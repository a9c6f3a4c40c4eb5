/- Labels: Text, the differences: the program's walks. -/
import Derived.Test.YtcohengppaighaaGreatDoorLb4
import Derived.Shelf.Strings.BuilderK
set_option linter.unusedVariables false
set_option linter.unusedSimpArgs false
namespace Go.Proofs.YtcohengppaighaaGreatDoor
open Go Go.V Go.B

/-! ### the text that is built -/
theorem isB_ext {T e : TypeId} {B b : Nat} {cs : List Value} {w w' : World} (h : Go.Lib.IsBuilderF T e B b cs w) (x : Ext [] w w') : Go.Lib.IsBuilderF T e B b cs w' := by
  have one : ∀ {p : Value}, Go.Lib.BuilderAtF T e B b p cs w → Go.Lib.BuilderAtF T e B b p cs w' := fun {p} ⟨hB, v, hb, ho, hne⟩ => by
    have keep : ∀ {g : Nat} {o : Obj}, w.heap[g]? = some o → w'.heap[g]? = some o := fun {g o} hg => by
      rw [x.same g (Array.getElem?_eq_some_iff.1 hg).1 (by simp)]; exact hg
    refine ⟨hB, v, keep hb, ⟨ho.1, ?_⟩, hne⟩
    rcases ho.2 with h1 | ⟨g, cap, cur, fz, h1, h2, h3, h4⟩
    · exact .inl h1
    · exact .inr ⟨g, cap, cur, fz, h1, h2, keep h3, h4⟩
  rcases h with h | h
  · exact .inl (one h)
  · exact .inr (one h)
/-- A builder that holds these bytes. -/
structure Bd (w0 w : World) (b : Nat) (l : List UInt8) : Prop where
  is : Go.Lib.IsBuilderF 117 5 w0.heap.size b (Go.Lib.byteCells l) w
  ext : Ext [] w0 w
  lt : b < w.heap.size
theorem Bd.go {w0 w w' : World} {b : Nat} {l : List UInt8} (h : Bd w0 w b l) (x : Ext [] w w') : Bd w0 w' b l := ⟨isB_ext h.is x, h.ext.trans x, Nat.lt_of_lt_of_le h.lt x.size⟩
theorem ext_below {w0 w w' : World} (h : Ext [] w0 w) (b : Go.RowKit.Below w0.heap.size w w') : Ext [] w0 w' :=
  ⟨b.os.trans h.os, b.tape.trans h.tape, b.output.trans h.output, Nat.le_trans h.size b.size, fun x hx hF => (b.block x hx).trans (h.same x hx hF)⟩
theorem kept_blk {w w' : World} {b g : Nat} {cs : List Value} (h : Go.Lib.OthersKept 5 (some b) w w') (hb : BlkT w g cs 40) (hne : g ≠ b) : BlkT w' g cs 40 :=
  h g _ hb (by simpa using hne) (fun c fz e => by
    injection e with _ h2 _
    exact absurd h2 (by decide))
theorem WB_c {w0 w : World} {b : Nat} {l : List UInt8} (h : Bd w0 w b l) (c : UInt8) (hl : l.length + 1 ≤ 140737488355328) {R : Ending → World → Prop}
    (k : ∀ w', Bd w0 w' b (l ++ [c]) → (∀ g cs, BlkT w g cs 40 → g ≠ b → BlkT w' g cs 40) → R (.returned .nilIface) w') : Calls Tryz.prog 94 #[.pointer (some ⟨b, 0, none⟩), .int .u8 (c.toNat : Int)] w R := by
  refine (Any.Builder_WriteByte_k (P := Tryz.prog) (ρ := Tryz.lays167_ren) Tryz.lays167 Tryz.extra167 w0.heap.size b (Go.Lib.byteCells l) (c.toNat : Int) w h.is (by rw [Go.Lib.byteCells_length]; exact hl) h.ext.size).mono ?_
  rintro e w' ⟨rfl, h1, h2, h3⟩
  have hx := ext_below h.ext h2
  refine k w' ⟨.inr ?_, hx, Nat.lt_of_lt_of_le h.lt h2.size⟩ fun g cs hb hne => kept_blk h3 hb hne
  rw [show Go.Lib.byteCells (l ++ [c]) = Go.Lib.byteCells l ++ [.int .u8 (c.toNat : Int)] by simp [Go.Lib.byteCells]]
  exact h1
theorem WS_c {w0 w : World} {b : Nat} {l : List UInt8} (h : Bd w0 w b l) (s : ByteArray) (hl : l.length + s.size ≤ 140737488355328) {R : Ending → World → Prop}
    (k : ∀ w', Bd w0 w' b (l ++ bs s) → (∀ g cs, BlkT w g cs 40 → g ≠ b → BlkT w' g cs 40) → R (.returned (.tuple #[.int .i64 s.size, .nilIface])) w') : Calls Tryz.prog 95 #[.pointer (some ⟨b, 0, none⟩), .string s] w R := by
  refine (Any.Builder_WriteString_k (P := Tryz.prog) (ρ := Tryz.lays166_ren) Tryz.lays166 Tryz.extra166 w0.heap.size b (Go.Lib.byteCells l) s w h.is (by rw [Go.Lib.byteCells_length]; exact hl) h.ext.size).mono ?_
  rintro e w' ⟨rfl, h1, h2, h3⟩
  have hx := ext_below h.ext h2
  refine k w' ⟨.inr ?_, hx, Nat.lt_of_lt_of_le h.lt h2.size⟩ fun g cs hb hne => kept_blk h3 hb hne
  rw [show Go.Lib.byteCells (l ++ bs s) = Go.Lib.byteCells l ++ Go.Lib.strCells s by simp [Go.Lib.byteCells, Go.Lib.strCells, bs]]
  exact h1
theorem Text_c {w : World} {A : Option Addr} {n c : Nat} {l : List Lab} (h : LIn w A n l) {R : Ending → World → Prop}
    (k : ∀ w', Ext [] w w' → R (.returned (.tuple #[.string (textS l).1, .int .i64 (textS l).2])) w') : Calls Tryz.prog 71 #[.slice A n c] w R := by
  apply labels_Text_nf
  have hl := h.len
  refine Check_c h fun w5 e5 => ⟨_, _, rfl, sel_intro (fun hc => ?_) (fun hc w6 h6 => ?_)⟩
  · have hc : (checkS l).2 ≠ 0 := by simpa using hc
    have := k w5 e5
    unfold textS at this
    rw [if_neg hc] at this; exact this
  have hc : (checkS l).2 = 0 := by simpa using hc
  have ok := checkS_zero.1 hc
  have hmax := join_max ok
  obtain ⟨b6, x6, z6⟩ := box_new h6
  have bd0 : Bd w5 w6 w5.heap.size (joinT (l.take 0)) := ⟨.inl ⟨Nat.le_refl _, _, b6, ⟨rfl, .inl ⟨rfl, rfl⟩⟩, by simp [Value.ownBlock]⟩, x6, by omega⟩
  refine ⟨fun t w' => ∃ a : Nat, t = a ∧ a ≤ n ∧ Bd w5 w' w5.heap.size (joinT (l.take a)), fun t _ => n - t.toNat, ⟨0, rfl, by omega, bd0⟩, ?_⟩
  rintro _ _ w11 ⟨a, rfl, ha, bd⟩
  refine sel_dec (fun hlt => when_dec ⟨by omega, by omega⟩ (take_lab (h.ext0 (e5.trans bd.ext)).c hl (by omega) fun x w16 hx bx ex => ?_)) (fun hge => ?_)
  · have bd16 := bd.go ex
    have hlt2 := bd.lt
    have hne : w11.heap.size ≠ w5.heap.size := by omega
    have hjt : (joinT (l.take a)).length ≤ 8192 := Nat.le_trans (join_le a) hmax
    have hkx := key_len (ok.key x (List.mem_of_getElem? hx))
    have hit := itemT_len (ok.key x (List.mem_of_getElem? hx)) (ok.val x (List.mem_of_getElem? hx))
    have hb1 := bs_len x.1
    have hb2 := bs_len x.2
    have hil : (bs x.1).length + 1 + (bs x.2).length = (itemT x).length := by unfold itemT; simp; omega
    have fin : ∀ w' (t : List UInt8), Bd w5 w' w5.heap.size t → t = joinT (l.take (a + 1)) → (fun t w' => ∃ a : Nat, t = (a : Int) ∧ a ≤ n ∧ Bd w5 w' w5.heap.size (joinT (l.take a))) (IntKind.wrap .i64 ((a : Int) + 1)) w' ∧ n - (IntKind.wrap .i64 ((a : Int) + 1)).toNat < n - ((a : Int)).toNat := fun w' t hb ht => by
      rw [up64 a (by have := h.big; omega)]
      exact ⟨⟨a + 1, rfl, by omega, ht ▸ hb⟩, by simp only [Int.toNat_natCast]; omega⟩
    refine sel_dec (fun h0 => ?_) (fun h0 => ?_)
    · have hne0 : l.take a ≠ [] := fun e => by
        have := congrArg List.length e
        rw [List.length_take, List.length_nil] at this
        omega
      refine WB_c bd16 44 (by omega) fun w19 bd19 kp19 => ⟨_, rfl, _, cadd (kp19 _ _ bx hne) rfl, ?_⟩
      have bx19 := kp19 _ _ bx hne
      refine WS_c bd19 x.1 (by simp only [List.length_append, List.length_cons, List.length_nil]; omega) fun w24 bd24 kp24 => ⟨_, _, rfl, ?_⟩
      have bx24 := kp24 _ _ bx19 hne
      refine WB_c bd24 61 (by simp only [List.length_append, List.length_cons, List.length_nil]; omega) fun w27 bd27 kp27 => ⟨_, rfl, _, cadd (kp27 _ _ bx24 hne) rfl, ?_⟩
      refine WS_c bd27 x.2 (by simp only [List.length_append, List.length_cons, List.length_nil]; omega) fun w32 bd32 kp32 => ⟨_, _, rfl, fin w32 _ bd32 ?_⟩
      rw [snoc_at hx, join_snoc x hne0]
      unfold itemT
      simp
    · have ha0 : a = 0 := by omega
      subst ha0
      refine ⟨_, cadd bx rfl, WS_c bd16 x.1 (by omega) fun w37 bd37 kp37 => ⟨_, _, rfl, ?_⟩⟩
      have bx37 := kp37 _ _ bx hne
      refine WB_c bd37 61 (by simp only [List.length_append, List.length_cons, List.length_nil]; omega) fun w40 bd40 kp40 => ⟨_, rfl, _, cadd (kp40 _ _ bx37 hne) rfl, ?_⟩
      refine WS_c bd40 x.2 (by simp only [List.length_append, List.length_cons, List.length_nil]; omega) fun w45 bd45 kp45 => ⟨_, _, rfl, fin w45 _ bd45 ?_⟩
      rw [snoc_at hx]
      show _ = itemT x
      unfold itemT
      simp [joinT]
  · have hfull : l.take a = l := List.take_of_length_le (by omega)
    rw [hfull] at bd
    refine (Any.Builder_String_any_k (P := Tryz.prog) (ρ := Tryz.lays169_ren) { Tryz.lays169 with } Tryz.extra169 w5.heap.size w5.heap.size (joinT l) w11 bd.is bd.ext.size).mono ?_
    rintro e w48 ⟨rfl, h1, h2, h3⟩
    refine ⟨_, rfl, ?_⟩
    have := k w48 (e5.trans (ext_below bd.ext h2))
    unfold textS at this
    rw [if_pos hc] at this
    exact this

/-! ### the differences -/
def DLL : Lay DL := ⟨fun d => [.string d.key, .string d.old, .string d.new, .bool d.had, .bool d.has], 5, fun _ => rfl, fun x v hv => by simp at hv; rcases hv with rfl | rfl | rfl | rfl | rfl <;> rfl, by omega⟩
theorem infoD : (Tryz.prog.info? 59).map (fun i => (i.zero, i.size, i.bytes)) = some (some (.agg #[.string ByteArray.empty, .string ByteArray.empty, .string ByteArray.empty, .bool false, .bool false]), 5, 56) := by kernel_rfl
abbrev DOwn (w : World) (B : Nat) (A : Option Addr) (n c : Nat) (l : List DL) : Prop := LstL DLL w B 59 A n c l
theorem add_dl {w W w16 : World} {A : Option Addr} {n c : Nat} {l : List DL} {d : DL} (e : Ext [] w W) (own : DOwn W w.heap.size A n c l) (h16 : w16 = W.alloc (.cells #[.string d.key, .string d.old, .string d.new, .bool d.had, .bool d.has] 59)) (hn : (n + 1) * 56 ≤ 140737488355328) :
    ∃ A' c' w2, (Builtin.append_ #[23, 23] 23 #[.slice A n c, .slice (some ⟨W.heap.size, 0, none⟩) 1 1]).run Tryz.prog w16 = .ok (.slice A' (n + 1) c') w2 ∧ DOwn w2 w.heap.size A' (n + 1) c' (l ++ [d]) ∧ Ext [] w w2 ∧ Ext [] w w16 := by
  obtain ⟨b18, x18, z18⟩ := box_new h16
  have e18 := e.trans x18
  obtain ⟨A', c', w2, hr, ho, he, hat⟩ := LstL.more (P := Tryz.prog) (t := 23) (ty := 23) (x := d) (by exact Tryz.underlying23) infoD rfl (by decide) (own.ext0 x18) b18 e18.size hn
  exact ⟨A', c', w2, hr, ho, Ext.old e18 (fun b hb => (own.fresh b hb).1) he, e18⟩
theorem lab_cells {w : World} {A : Option Addr} {l : List Lab} (hc : Cells w A (LbL.flat l)) {a : Nat} {x : Lab} (hx : l[a]? = some x) : ∃ ad, A = some ad ∧ ∀ w', Ext [] w w' →
    w'.cell? (Addr.add (Addr.add ad ((Int.toNat (a : Int)) * 2)) 0) = some (.string x.1) ∧ w'.cell? (Addr.add (Addr.add ad ((Int.toNat (a : Int)) * 2)) 1) = some (.string x.2) ∧ V.cellsC (fun a_ x_ => World.cell? w' a_ = some x_) (Addr.add ad ((Int.toNat (a : Int)) * 2)) [.string x.1, .string x.2] := by
  obtain ⟨ad, rfl, rd⟩ := LbL.read hc hx
  refine ⟨ad, rfl, fun w' e => ?_⟩
  obtain ⟨ad', e', rd'⟩ := LbL.read (hc.ext0 e) hx
  cases e'
  rw [Int.toNat_natCast]
  exact ⟨rd' 0 _ rfl, rd' 1 _ rfl, rd'⟩
section
variable {w W : World} {A B out : Option Addr} {n c wl nl : Nat} {ds : List DL} {was now : List Lab}
theorem del_tail (e : Ext [] w W) (own : DOwn W w.heap.size out n c ds) (hn : (n + 1) * 56 ≤ 140737488355328) (hA : Cells w A (LbL.flat was)) {i : Nat} {x : Lab} (hx : was[i]? = some x) (hwl : was.length = wl) {Q : Option Addr → Nat → Nat → World → Prop}
    (k : ∀ A' c' w2, Ext [] w w2 → DOwn w2 w.heap.size A' (n + 1) c' (ds ++ [⟨x.1, x.2, ByteArray.empty, true, false⟩]) → Q A' (n + 1) c' w2) :
    ∃ S10 : World → Prop, S10 W ∧
    V.when (decide ((0 : Int) ≤ (i : Int) ∧ ((i : Int) : Int) < ((wl : Nat) : Int))) (V.ptr A fun a12 =>
    ∃ s13, (∀ w11, S10 w11 → World.cell? w11 (Addr.add (Addr.add a12 ((Int.toNat (i : Int)) * 2)) 0) = some (Value.string s13)) ∧
    V.when (decide ((0 : Int) ≤ (i : Int) ∧ ((i : Int) : Int) < ((wl : Nat) : Int))) (V.ptr A fun a14 =>
    ∃ s15, (∀ w11, S10 w11 → World.cell? w11 (Addr.add (Addr.add a14 ((Int.toNat (i : Int)) * 2)) 1) = some (Value.string s15)) ∧
    ∀ w16, w16 = (World.alloc W (.cells #[(Value.string s13), (Value.string s15), (Value.string ByteArray.empty), (Value.bool true), (Value.bool false)] 59)) →
    S10 w16 ∧
    ∃ A17, ∃ A17l, ∃ A17c, ∃ w18, Sem.run Tryz.prog (Builtin.append_ #[23, 23] 23 #[(Value.slice out n c), (Value.slice (some ⟨Array.size (World.heap W), 0, none⟩) 1 1)]) w16 = .ok (Value.slice A17 A17l A17c) w18 ∧
    S10 w18 ∧ Q A17 A17l A17c w18)) := by
  have hil := (List.getElem?_eq_some_iff.1 hx).1
  obtain ⟨ad, rfl, rd⟩ := lab_cells hA hx
  refine ⟨fun w' => Ext [] w w', e, when_dec ⟨by omega, by omega⟩ ⟨_, fun w' e' => (rd w' e').1, when_dec ⟨by omega, by omega⟩ ⟨_, fun w' e' => (rd w' e').2.1, fun w16 h16 => ?_⟩⟩⟩
  obtain ⟨A', c', w2, hr, ho, he, e16⟩ := add_dl (d := ⟨x.1, x.2, ByteArray.empty, true, false⟩) e own h16 hn
  exact ⟨e16, _, _, _, _, hr, he, k _ _ _ he ho⟩
theorem add_tail (e : Ext [] w W) (own : DOwn W w.heap.size out n c ds) (hn : (n + 1) * 56 ≤ 140737488355328) (hB : Cells w B (LbL.flat now)) {j : Nat} {y : Lab} (hy : now[j]? = some y) (hnl : now.length = nl) {Q : Option Addr → Nat → Nat → World → Prop}
    (k : ∀ A' c' w2, Ext [] w w2 → DOwn w2 w.heap.size A' (n + 1) c' (ds ++ [⟨y.1, ByteArray.empty, y.2, false, true⟩]) → Q A' (n + 1) c' w2) :
    ∃ S10 : World → Prop, S10 W ∧
    V.when (decide ((0 : Int) ≤ (j : Int) ∧ ((j : Int) : Int) < ((nl : Nat) : Int))) (V.ptr B fun a12 =>
    ∃ s13, (∀ w11, S10 w11 → World.cell? w11 (Addr.add (Addr.add a12 ((Int.toNat (j : Int)) * 2)) 0) = some (Value.string s13)) ∧
    V.when (decide ((0 : Int) ≤ (j : Int) ∧ ((j : Int) : Int) < ((nl : Nat) : Int))) (V.ptr B fun a14 =>
    ∃ s15, (∀ w11, S10 w11 → World.cell? w11 (Addr.add (Addr.add a14 ((Int.toNat (j : Int)) * 2)) 1) = some (Value.string s15)) ∧
    ∀ w16, w16 = (World.alloc W (.cells #[(Value.string s13), (Value.string ByteArray.empty), (Value.string s15), (Value.bool false), (Value.bool true)] 59)) →
    S10 w16 ∧
    ∃ A17, ∃ A17l, ∃ A17c, ∃ w18, Sem.run Tryz.prog (Builtin.append_ #[23, 23] 23 #[(Value.slice out n c), (Value.slice (some ⟨Array.size (World.heap W), 0, none⟩) 1 1)]) w16 = .ok (Value.slice A17 A17l A17c) w18 ∧
    S10 w18 ∧ Q A17 A17l A17c w18)) := by
  have hjl := (List.getElem?_eq_some_iff.1 hy).1
  obtain ⟨ad, rfl, rd⟩ := lab_cells hB hy
  refine ⟨fun w' => Ext [] w w', e, when_dec ⟨by omega, by omega⟩ ⟨_, fun w' e' => (rd w' e').1, when_dec ⟨by omega, by omega⟩ ⟨_, fun w' e' => (rd w' e').2.1, fun w16 h16 => ?_⟩⟩⟩
  obtain ⟨A', c', w2, hr, ho, he, e16⟩ := add_dl (d := ⟨y.1, ByteArray.empty, y.2, false, true⟩) e own h16 hn
  exact ⟨e16, _, _, _, _, hr, he, k _ _ _ he ho⟩
theorem chg_tail (e : Ext [] w W) (own : DOwn W w.heap.size out n c ds) (hn : (n + 1) * 56 ≤ 140737488355328) (hA : Cells w A (LbL.flat was)) {i : Nat} {x : Lab} (hx : was[i]? = some x) (hwl : was.length = wl) (hB : Cells w B (LbL.flat now)) {j : Nat} {y : Lab} (hy : now[j]? = some y) (hnl : now.length = nl) {Q : Option Addr → Nat → Nat → World → Prop}
    (k : ∀ A' c' w2, Ext [] w w2 → DOwn w2 w.heap.size A' (n + 1) c' (ds ++ [⟨x.1, x.2, y.2, true, true⟩]) → Q A' (n + 1) c' w2) :
    ∃ S10 : World → Prop, S10 W ∧
    V.when (decide ((0 : Int) ≤ (i : Int) ∧ ((i : Int) : Int) < ((wl : Nat) : Int))) (V.ptr A fun a12 =>
    ∃ s13, (∀ w11, S10 w11 → World.cell? w11 (Addr.add (Addr.add a12 ((Int.toNat (i : Int)) * 2)) 0) = some (Value.string s13)) ∧
    V.when (decide ((0 : Int) ≤ (i : Int) ∧ ((i : Int) : Int) < ((wl : Nat) : Int))) (V.ptr A fun a14 =>
    ∃ s15, (∀ w11, S10 w11 → World.cell? w11 (Addr.add (Addr.add a14 ((Int.toNat (i : Int)) * 2)) 1) = some (Value.string s15)) ∧
    V.when (decide ((0 : Int) ≤ (j : Int) ∧ ((j : Int) : Int) < ((nl : Nat) : Int))) (V.ptr B fun a66 =>
    ∃ s67, (∀ w11, S10 w11 → World.cell? w11 (Addr.add (Addr.add a66 ((Int.toNat (j : Int)) * 2)) 1) = some (Value.string s67)) ∧
    ∀ w16, w16 = (World.alloc W (.cells #[(Value.string s13), (Value.string s15), (Value.string s67), (Value.bool true), (Value.bool true)] 59)) →
    S10 w16 ∧
    ∃ A17, ∃ A17l, ∃ A17c, ∃ w18, Sem.run Tryz.prog (Builtin.append_ #[23, 23] 23 #[(Value.slice out n c), (Value.slice (some ⟨Array.size (World.heap W), 0, none⟩) 1 1)]) w16 = .ok (Value.slice A17 A17l A17c) w18 ∧
    S10 w18 ∧ Q A17 A17l A17c w18))) := by
  have hil := (List.getElem?_eq_some_iff.1 hx).1
  have hjl := (List.getElem?_eq_some_iff.1 hy).1
  obtain ⟨ad, rfl, rd⟩ := lab_cells hA hx
  obtain ⟨bd, rfl, rb⟩ := lab_cells hB hy
  refine ⟨fun w' => Ext [] w w', e, when_dec ⟨by omega, by omega⟩ ⟨_, fun w' e' => (rd w' e').1, when_dec ⟨by omega, by omega⟩ ⟨_, fun w' e' => (rd w' e').2.1, when_dec ⟨by omega, by omega⟩ ⟨_, fun w' e' => (rb w' e').2.1, fun w16 h16 => ?_⟩⟩⟩⟩
  obtain ⟨A', c', w2, hr, ho, he, e16⟩ := add_dl (d := ⟨x.1, x.2, y.2, true, true⟩) e own h16 hn
  exact ⟨e16, _, _, _, _, hr, he, k _ _ _ he ho⟩
end
theorem less_iff (a b : ByteArray) : Op.bytesLess (ByteArray.toList a) (ByteArray.toList b) = decide (bs a < bs b) := by
  rw [ByteArray.toList_eq, ByteArray.toList_eq, bytesLess_eq]; rfl
theorem diffs_c {w : World} {A B : Option Addr} {n m c c' : Nat} {was now : List Lab} (hA : Cells w A (LbL.flat was)) (hwl : was.length = n) (hB : Cells w B (LbL.flat now)) (hnl : now.length = m) (hn : n ≤ 32) (hm : m ≤ 32) {R : Ending → World → Prop}
    (k : ∀ w' A' n' c', Ext [] w w' → DOwn w' w.heap.size A' n' c' (mergeD was now) → n' ≤ 64 → R (.returned (.slice A' n' c')) w') : Calls Tryz.prog 30 #[.slice A n c, .slice B m c'] w R := by
  apply labels_diffs_nf
  refine ⟨fun out q d i j w' => ∃ (a b : Nat) (ds : List DL), i = a ∧ j = b ∧ a ≤ n ∧ b ≤ m ∧ q ≤ a + b ∧ Ext [] w w' ∧ DOwn w' w.heap.size out q d ds ∧ mergeD was now = ds ++ mergeD (was.drop a) (now.drop b), fun _ _ _ i j _ => (n - i.toNat) + (m - j.toNat),
    ⟨0, 0, [], rfl, rfl, by omega, by omega, by omega, Ext.refl _ _, LstL.nil _ _ _, rfl⟩, ?_⟩
  rintro out q d _ _ _ w9 ⟨a, b, ds, rfl, rfl, ha, hb, hq, e9, own, hg⟩
  have bx : ∀ {x : Lab}, was[a]? = some x → was.drop a = x :: was.drop (a + 1) := fun {x} hx => by
    obtain ⟨h1, h2⟩ := List.getElem?_eq_some_iff.1 hx
    rw [List.drop_eq_getElem_cons h1, h2]
  have by_ : ∀ {y : Lab}, now[b]? = some y → now.drop b = y :: now.drop (b + 1) := fun {y} hy => by
    obtain ⟨h1, h2⟩ := List.getElem?_eq_some_iff.1 hy
    rw [List.drop_eq_getElem_cons h1, h2]
  have stepI : ∀ {A' : Option Addr} {q' c' : Nat} {w2 : World} {ds' : List DL}, Ext [] w w2 → DOwn w2 w.heap.size A' q' c' ds' → q' ≤ a + b + 1 → a < n → mergeD was now = ds' ++ mergeD (was.drop (a + 1)) (now.drop b) →
      (fun out q d i j w' => ∃ (a b : Nat) (ds : List DL), i = (a : Int) ∧ j = (b : Int) ∧ a ≤ n ∧ b ≤ m ∧ q ≤ a + b ∧ Ext [] w w' ∧ DOwn w' w.heap.size out q d ds ∧ mergeD was now = ds ++ mergeD (was.drop a) (now.drop b)) A' q' c' (IntKind.wrap .i64 ((a : Int) + 1)) (b : Int) w2 ∧
      (fun (_ : Option Addr) (_ _ : Nat) (i j : Int) (_ : World) => (n - i.toNat) + (m - j.toNat)) A' q' c' (IntKind.wrap .i64 ((a : Int) + 1)) (b : Int) w2 < (fun (_ : Option Addr) (_ _ : Nat) (i j : Int) (_ : World) => (n - i.toNat) + (m - j.toNat)) out q d (a : Int) (b : Int) w9 := fun {A' q' c' w2 ds'} e2 o2 hq2 hlt h2 => by
    rw [up64 a (by omega)]
    exact ⟨⟨a + 1, b, ds', rfl, rfl, by omega, hb, by omega, e2, o2, h2⟩, by simp only [Int.toNat_natCast]; omega⟩
  have stepJ : ∀ {A' : Option Addr} {q' c' : Nat} {w2 : World} {ds' : List DL}, Ext [] w w2 → DOwn w2 w.heap.size A' q' c' ds' → q' ≤ a + b + 1 → b < m → mergeD was now = ds' ++ mergeD (was.drop a) (now.drop (b + 1)) →
      (fun out q d i j w' => ∃ (a b : Nat) (ds : List DL), i = (a : Int) ∧ j = (b : Int) ∧ a ≤ n ∧ b ≤ m ∧ q ≤ a + b ∧ Ext [] w w' ∧ DOwn w' w.heap.size out q d ds ∧ mergeD was now = ds ++ mergeD (was.drop a) (now.drop b)) A' q' c' (a : Int) (IntKind.wrap .i64 ((b : Int) + 1)) w2 ∧
      (fun (_ : Option Addr) (_ _ : Nat) (i j : Int) (_ : World) => (n - i.toNat) + (m - j.toNat)) A' q' c' (a : Int) (IntKind.wrap .i64 ((b : Int) + 1)) w2 < (fun (_ : Option Addr) (_ _ : Nat) (i j : Int) (_ : World) => (n - i.toNat) + (m - j.toNat)) out q d (a : Int) (b : Int) w9 := fun {A' q' c' w2 ds'} e2 o2 hq2 hlt h2 => by
    rw [up64 b (by omega)]
    exact ⟨⟨a, b + 1, ds', rfl, rfl, ha, by omega, by omega, e2, o2, h2⟩, by simp only [Int.toNat_natCast]; omega⟩
  have stepB : ∀ {A' : Option Addr} {q' c' : Nat} {w2 : World} {ds' : List DL}, Ext [] w w2 → DOwn w2 w.heap.size A' q' c' ds' → q' ≤ a + b + 1 → a < n → b < m → mergeD was now = ds' ++ mergeD (was.drop (a + 1)) (now.drop (b + 1)) →
      (fun out q d i j w' => ∃ (a b : Nat) (ds : List DL), i = (a : Int) ∧ j = (b : Int) ∧ a ≤ n ∧ b ≤ m ∧ q ≤ a + b ∧ Ext [] w w' ∧ DOwn w' w.heap.size out q d ds ∧ mergeD was now = ds ++ mergeD (was.drop a) (now.drop b)) A' q' c' (IntKind.wrap .i64 ((a : Int) + 1)) (IntKind.wrap .i64 ((b : Int) + 1)) w2 ∧
      (fun (_ : Option Addr) (_ _ : Nat) (i j : Int) (_ : World) => (n - i.toNat) + (m - j.toNat)) A' q' c' (IntKind.wrap .i64 ((a : Int) + 1)) (IntKind.wrap .i64 ((b : Int) + 1)) w2 < (fun (_ : Option Addr) (_ _ : Nat) (i j : Int) (_ : World) => (n - i.toNat) + (m - j.toNat)) out q d (a : Int) (b : Int) w9 := fun {A' q' c' w2 ds'} e2 o2 hq2 hlt hlt2 h2 => by
    rw [up64 a (by omega), up64 b (by omega)]
    exact ⟨⟨a + 1, b + 1, ds', rfl, rfl, by omega, by omega, by omega, e2, o2, h2⟩, by simp only [Int.toNat_natCast]; omega⟩
  have e9' := e9.drew
  have e9'' := e9'.drew
  refine sel_dec (fun hi => ?_) (fun hi => sel_dec (fun hj => ?_) (fun hj => ?_))
  · obtain ⟨x, hx⟩ : ∃ x, was[a]? = some x := ⟨_, List.getElem?_eq_getElem (by omega)⟩
    rw [bx hx] at hg
    refine sel_intro (fun hjm => ?_) (fun hjm => sel_dec (fun _ => ?_) (fun h => absurd hi h))
    · have hjm : (b : Int) = m := by simpa using hjm
      have hd : now.drop b = [] := List.drop_eq_nil_of_le (by omega)
      refine del_tail e9'' own.drew2 (by omega) hA hx hwl fun A' c' w2 e2 o2 => stepI e2 o2 (by omega) (by omega) ?_
      rw [hg, hd, mergeD, List.append_assoc]; rfl
    · have hjm : (b : Int) ≠ m := by simpa using hjm
      obtain ⟨y, hy⟩ : ∃ y, now[b]? = some y := ⟨_, List.getElem?_eq_getElem (by omega)⟩
      rw [by_ hy] at hg
      obtain ⟨ad, rfl, rd⟩ := lab_cells hA hx
      obtain ⟨bd, rfl, rb⟩ := lab_cells hB hy
      refine when_dec ⟨by omega, by omega⟩ ⟨_, (rd w9 e9).1, when_dec ⟨by omega, by omega⟩ ⟨_, (rb w9 e9).1, sel_intro (fun hlt => ?_) (fun hlt => ?_)⟩⟩
      · rw [less_iff, decide_eq_true_eq] at hlt
        refine del_tail e9'' own.drew2 (by omega) hA hx hwl fun A' c' w2 e2 o2 => stepI e2 o2 (by omega) (by omega) ?_
        rw [hg, mergeD, if_pos hlt, by_ hy, List.append_assoc]; rfl
      rw [less_iff, decide_eq_false_iff_not] at hlt
      refine sel_intro (fun hin => ?_) (fun hin => ?_)
      · have hin : (a : Int) = n := by simpa using hin
        omega
      refine when_dec ⟨by omega, by omega⟩ ⟨_, (rb _ e9').1, when_dec ⟨by omega, by omega⟩ ⟨_, (rd _ e9').1, sel_intro (fun hgt => ?_) (fun hgt => ?_)⟩⟩
      · rw [less_iff, decide_eq_true_eq] at hgt
        refine add_tail e9''.drew own.drew3 (by omega) hB hy hnl fun A' c' w2 e2 o2 => stepJ e2 o2 (by omega) (by omega) ?_
        rw [hg, mergeD, if_neg hlt, if_pos hgt, bx hx, List.append_assoc]; rfl
      rw [less_iff, decide_eq_false_iff_not] at hgt
      refine when_dec ⟨by omega, by omega⟩ ⟨_, _, (rd _ e9'').2.2, when_dec ⟨by omega, by omega⟩ ⟨_, _, (rb _ e9'').2.2, sel_intro (fun hne => ?_) (fun hne => ?_)⟩⟩
      · have hne : x ≠ y := fun e => by subst e; simp [beqBytes] at hne
        refine chg_tail e9''.drew.drew own.drew4 (by omega) hA hx hwl hB hy hnl fun A' c' w2 e2 o2 => stepB e2 o2 (by omega) (by omega) (by omega) ?_
        rw [hg, mergeD, if_neg hlt, if_neg hgt, if_neg hne, List.append_assoc]; rfl
      · have heq : x = y := by
          rw [beqBytes, beqBytes] at hne
          simp at hne
          exact Prod.ext hne.1 hne.2
        refine stepB e9''.drew own.drew3 (by omega) (by omega) (by omega) ?_
        rw [hg, mergeD, if_neg hlt, if_neg hgt, if_pos heq]
  · obtain ⟨y, hy⟩ : ∃ y, now[b]? = some y := ⟨_, List.getElem?_eq_getElem (by omega)⟩
    rw [by_ hy] at hg
    have hd : was.drop a = [] := List.drop_eq_nil_of_le (by omega)
    refine sel_intro (fun hjm => ?_) (fun hjm => sel_dec (fun h => absurd h hi) (fun _ => sel_intro (fun hin => ?_) (fun hin => ?_)))
    · have hjm : (b : Int) = m := by simpa using hjm
      omega
    · refine add_tail e9''.drew own.drew3 (by omega) hB hy hnl fun A' c' w2 e2 o2 => stepJ e2 o2 (by omega) (by omega) ?_
      rw [hg, hd, mergeD, List.append_assoc]; rfl
    · have hin : (a : Int) ≠ n := by simpa using hin
      omega
  · have hd : was.drop a = [] := List.drop_eq_nil_of_le (by omega)
    have hd2 : now.drop b = [] := List.drop_eq_nil_of_le (by omega)
    rw [hd, hd2, mergeD, List.append_nil] at hg
    exact k _ out q d e9 (by rw [hg]; exact own) (by omega)
end Go.Proofs.YtcohengppaighaaGreatDoor
