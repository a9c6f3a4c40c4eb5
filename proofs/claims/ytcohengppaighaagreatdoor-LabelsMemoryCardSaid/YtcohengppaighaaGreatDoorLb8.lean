/- Labels: Patch, the iterator behind a Diff: the program's walks. -/
import Derived.Test.YtcohengppaighaaGreatDoorLb7
import Derived.Test.YtcohengppaighaaGreatDoorRg
set_option linter.unusedVariables false
set_option linter.unusedSimpArgs false
namespace Go.Proofs.YtcohengppaighaaGreatDoor
open Go Go.V Go.B

/-- What bars a difference, behind the keys' order. -/
def faultS (had has : Bool) (old new gv : ByteArray) (gb : Bool) : Int :=
  if (had = false ∧ has = false) ∨ (had = false ∧ old ≠ ByteArray.empty) ∨ (has = false ∧ new ≠ ByteArray.empty) ∨ (had = true ∧ has = true ∧ old = new) then 37
  else if (had = true ∧ valS (bs old) = false) ∨ (has = true ∧ valS (bs new) = false) then 32
  else if had ≠ gb ∨ (had = true ∧ old ≠ gv) then 38 else 0
def dcells (d : DL) : List Value := [.string d.key, .string d.old, .string d.new, .bool d.had, .bool d.has]
set_option maxHeartbeats 8000000 in
set_option maxRecDepth 8000 in
theorem fault_c {w : World} {A : Option Addr} {n c : Nat} {l : List Lab} (hc : Cells w A (LbL.flat l)) (hl : l.length = n) (big : n * 32 ≤ 140737488351232) (d : DL) {R : Ending → World → Prop}
    (k : ∀ w', Ext [] w w' → R (.returned (.int .i64 (faultS d.had d.has d.old d.new (getS l d.key).1 (getS l d.key).2))) w') : Calls Tryz.prog 53 #[.slice A n c, .agg ⟨dcells d⟩] w R := by
  obtain ⟨key, old, new, had, has⟩ := d
  unfold dcells
  apply labels_fault_nf
  intro w7 h7
  obtain ⟨b7, x7, z7⟩ := box_new h7
  refine ⟨_, cadd b7 rfl, Get_c (hc.ext0 x7) hl big key fun w12 e12 => ⟨_, _, rfl, ?_⟩⟩
  have b12 := b7.ext e12 (by simp)
  have hk : ∀ e : Int, e = faultS had has old new (getS l key).1 (getS l key).2 → R (.returned (.int .i64 e)) w12 := fun e he => by
    rw [he]; exact k w12 (x7.trans e12)
  clear k
  generalize (getS l key).1 = gv at *
  generalize (getS l key).2 = gb at *
  cases had <;> cases has <;>
  (repeat' first
    | refine ⟨_, cadd b12 rfl, ?_⟩
    | with_reducible refine sel_true (by assumption) ?_
    | with_reducible refine sel_false (by assumption) ?_
    | with_reducible refine sel_true Bool.not_false ?_
    | with_reducible refine sel_false Bool.not_true ?_
    | with_reducible refine sel_true rfl ?_
    | with_reducible refine sel_false rfl ?_
    | with_reducible refine IsValue_c _ ⟨_, rfl, ?_⟩
    | with_reducible refine sel_intro (fun h => ?_) (fun h => ?_)
    | with_reducible refine hk _ ?_) <;>
  (clear hk; try simp only [beqBytes] at *) <;> simp_all [faultS]
/-- A list of differences that is read. -/
structure DIn (w : World) (A : Option Addr) (n : Nat) (l : List DL) : Prop where
  c : Cells w A (DLL.flat l)
  len : l.length = n
  sz : ∀ x ∈ l, x.key.size ≤ 140737488351232 ∧ x.old.size ≤ 140737488351232 ∧ x.new.size ≤ 140737488351232
  big : n * 56 ≤ 140737488351232
theorem DIn.ext0 {w w' : World} {A : Option Addr} {n : Nat} {l : List DL} (h : DIn w A n l) (e : Ext [] w w') : DIn w' A n l := ⟨h.c.ext0 e, h.len, h.sz, h.big⟩
theorem dif_cells {w : World} {A : Option Addr} {l : List DL} (hc : Cells w A (DLL.flat l)) {a : Nat} {x : DL} (hx : l[a]? = some x) : ∃ ad, A = some ad ∧ ∀ w', Ext [] w w' →
    w'.cell? (Addr.add (Addr.add ad ((Int.toNat (a : Int)) * 5)) 0) = some (.string x.key) ∧ V.cellsC (fun a_ x_ => World.cell? w' a_ = some x_) (Addr.add ad ((Int.toNat (a : Int)) * 5)) (dcells x) := by
  obtain ⟨ad, rfl, rd⟩ := DLL.read hc hx
  refine ⟨ad, rfl, fun w' e => ?_⟩
  obtain ⟨ad', e', rd'⟩ := DLL.read (hc.ext0 e) hx
  cases e'
  rw [Int.toNat_natCast]
  exact ⟨rd' 0 _ rfl, rd'⟩
/-- The key before place a. -/
def prevD (ds : List DL) (a : Nat) : Option ByteArray := if a = 0 then none else (ds[a - 1]?).map (·.key)
theorem wrong_key {p : Option ByteArray} {l : List Lab} {d : DL} (h : keyS (bs d.key) = false) : wrongS p l d = 31 := by unfold wrongS; rw [if_pos h]
theorem wrong_dup {p : Option ByteArray} {l : List Lab} {d : DL} (h : keyS (bs d.key) = true) (h2 : p = some d.key) : wrongS p l d = 33 := by unfold wrongS; rw [if_neg (by rw [h]; simp), if_pos h2]
theorem wrong_ord {p : Option ByteArray} {l : List Lab} {d : DL} (h : keyS (bs d.key) = true) (h2 : p ≠ some d.key) (h3 : ∃ q, p = some q ∧ bs d.key < bs q) : wrongS p l d = 36 := by unfold wrongS; rw [if_neg (by rw [h]; simp), if_neg h2, if_pos h3]
theorem wrong_rest {p : Option ByteArray} {l : List Lab} {d : DL} (h : keyS (bs d.key) = true) (h2 : p ≠ some d.key) (h3 : ¬ ∃ q, p = some q ∧ bs d.key < bs q) : wrongS p l d = faultS d.had d.has d.old d.new (getS l d.key).1 (getS l d.key).2 := by
  unfold wrongS faultS; rw [if_neg (by rw [h]; simp), if_neg h2, if_neg h3]
theorem drop_at {α : Type} {l : List α} {a : Nat} {x : α} (h : l[a]? = some x) : l.drop a = x :: l.drop (a + 1) := by
  obtain ⟨h1, h2⟩ := List.getElem?_eq_some_iff.1 h
  rw [List.drop_eq_getElem_cons h1, h2]
set_option maxHeartbeats 2000000 in
theorem Patch_c {w : World} {A : Option Addr} {n c : Nat} {l : List Lab} (h : LIn w A n l) {D : Option Addr} {q c3 : Nat} {ds : List DL} (hd : DIn w D q ds) {R : Ending → World → Prop}
    (k : ∀ w' A' n', Ext [] w w' → LOwn w' w.heap.size A' n' n' (patchS l ds).1 → R (.returned (.tuple #[.slice A' n' n', .int .i64 (patchS l ds).2])) w') : Calls Tryz.prog 35 #[.slice A n c, .slice D q c3] w R := by
  apply labels_Patch_nf
  have hql := hd.len
  have hqb := hd.big
  have bad : ∀ {w' : World} {e : Int}, Ext [] w w' → patchS l ds = ([], e) → R (.returned (.tuple #[.slice none 0 0, .int .i64 e])) w' := fun {w' e} ew he => by
    have := k w' none 0 ew (by rw [he]; exact LstL.nil _ _ _)
    rw [he] at this; exact this
  refine Check_c h fun w6 e6 => ⟨_, _, rfl, sel_intro (fun hc => ?_) (fun hc => ?_)⟩
  · have hc : (checkS l).2 ≠ 0 := by simpa using hc
    exact bad e6 (by unfold patchS; rw [if_pos hc])
  have hc : (checkS l).2 = 0 := by simpa using hc
  have ok := checkS_zero.1 hc
  have hps : patchS l ds = patchGo l none l ds := by unfold patchS; rw [if_neg (by simpa using hc)]
  refine Clone_c (h.ext0 e6).c h.len h.big fun w9 A7 c7 e9 o9 => ⟨_, _, _, rfl, ?_⟩
  have e9' := e6.trans e9
  have hl := h.len
  have hll := ok.len
  refine ⟨fun A' n' c' t w' => ∃ (a : Nat) (out : List Lab), t = a ∧ a ≤ q ∧ Ext [] w w' ∧ LOwn w' w.heap.size A' n' c' out ∧ n' ≤ 32 + a ∧ Pat l (prevD ds a) out ∧ patchGo l none l ds = patchGo l (prevD ds a) out (ds.drop a), fun _ _ _ t _ => q - t.toNat,
    ⟨0, l, rfl, by omega, e9', o9.weaken e6.size, by omega, Pat.start ok.ris, rfl⟩, ?_⟩
  rintro A' n' c' _ _ w15 ⟨a, out, rfl, ha, e15, own, hn', hpat, hgo⟩
  have e15' := e15
  refine sel_dec (fun hlt => when_dec ⟨by omega, by omega⟩ ?_) (fun hge => ?_)
  · obtain ⟨d, hx⟩ : ∃ d, ds[a]? = some d := ⟨_, List.getElem?_eq_getElem (by omega)⟩
    obtain ⟨ad, rfl, rd⟩ := dif_cells hd.c hx
    have hsz := hd.sz d (List.mem_of_getElem? hx)
    have hol := own.len
    rw [drop_at hx, patchGo] at hgo
    have hp1 : prevD ds (a + 1) = some d.key := by unfold prevD; rw [if_neg (by omega), Nat.add_sub_cancel, hx]; rfl
    have err : ∀ {w' : World} {e : Int}, Ext [] w w' → wrongS (prevD ds a) l d = e → e ≠ 0 → R (.returned (.tuple #[.slice none 0 0, .int .i64 e])) w' := fun {w' e} ew hw hne => bad ew (by rw [hps, hgo, if_neg (by rw [hw]; exact hne), hw])
    refine ⟨_, _, _, _, _, (rd w15 e15').2, fun w22 h22 => ?_⟩
    obtain ⟨b22, x22, z22⟩ := box_new h22
    obtain ⟨w23, hr, b23, x23⟩ := storeW (P := Tryz.prog) (t := 59) (n := 5) (by kernel_rfl) b22 (vs := dcells d) rfl rfl (DLL.one d)
    have e23 : Ext [] w15 w23 := x22.trans' x23 fun b hb => .inr (by simp at hb; omega)
    refine ⟨w23, hr, _, cadd b23 rfl, IsKey_c d.key (by omega) fun w27 e27 => ⟨_, rfl, sel_intro (fun hk => err (e15'.trans (e23.trans e27)) (wrong_key (nf_ hk)) (by decide)) (fun hk => ?_)⟩⟩
    have hk := nt_ hk
    have b27 := b23.ext e27 (by simp)
    have e27' := e23.trans e27
    have x27 := e15'.trans e27'
    have bdd : BlkT w27.drew.drew w15.heap.size (dcells d) 59 := b27.ext (Ext.refl [] w27).drew.drew (by simp)
    have tail : prevD ds a ≠ some d.key → (¬ ∃ z, prevD ds a = some z ∧ bs d.key < bs z) → (∃ s34, ∃ s35, ∃ s36, ∃ b37, ∃ b38, V.cellsC (fun a_ x_ => World.cell? (World.drew (World.drew w27)) a_ = some x_) ⟨Array.size (World.heap w15), 0, none⟩ [(Value.string s34), (Value.string s35), (Value.string s36), (Value.bool b37), (Value.bool b38)] ∧
  Calls Tryz.prog 53 #[(Value.slice A n c), (Value.agg #[(Value.string s34), (Value.string s35), (Value.string s36), (Value.bool b37), (Value.bool b38)])] (World.drew (World.drew w27)) fun e40 w41 =>
  ∃ n39, e40 = Ending.returned (Value.int .i64 n39) ∧
  V.sel (n39 != 0)
  (R (Ending.returned (Value.tuple #[(Value.slice none 0 0), (Value.int .i64 n39)])) w41)
  (∃ b42, World.cell? w41 (Addr.add ⟨Array.size (World.heap w15), 0, none⟩ 3) = some (Value.bool b42) ∧
  V.sel b42
  (∃ s43, World.cell? w41 (Addr.add ⟨Array.size (World.heap w15), 0, none⟩ 0) = some (Value.string s43) ∧
  Calls Tryz.prog 34 #[(Value.slice A' n' c'), (Value.string s43)] w41 fun e46 w47 =>
  ∃ A44, ∃ A44l, ∃ A44c, ∃ b45, e46 = Ending.returned (Value.tuple #[(Value.slice A44 A44l A44c), (Value.bool b45)]) ∧
  ∃ b48, World.cell? w47 (Addr.add ⟨Array.size (World.heap w15), 0, none⟩ 4) = some (Value.bool b48) ∧
  V.sel b48
  (∃ s49, World.cell? w47 (Addr.add ⟨Array.size (World.heap w15), 0, none⟩ 0) = some (Value.string s49) ∧
  ∃ s50, World.cell? w47 (Addr.add ⟨Array.size (World.heap w15), 0, none⟩ 2) = some (Value.string s50) ∧
  ∀ w51, w51 = (World.alloc w47 (.cells #[(Value.string s49), (Value.string s50)] 40)) →
  ∃ A52, ∃ A52l, ∃ A52c, ∃ w53, Sem.run Tryz.prog (Builtin.append_ #[22, 22] 22 #[(Value.slice A44 A44l A44c), (Value.slice (some ⟨Array.size (World.heap w47), 0, none⟩) 1 1)]) w51 = .ok (Value.slice A52 A52l A52c) w53 ∧
  (fun A' n' c' t w' => ∃ (a : Nat) (out : List Lab), t = (a : Int) ∧ a ≤ q ∧ Ext [] w w' ∧ LOwn w' w.heap.size A' n' c' out ∧ n' ≤ 32 + a ∧ Pat l (prevD ds a) out ∧ patchGo l none l ds = patchGo l (prevD ds a) out (ds.drop a)) A52 A52l A52c (IntKind.wrap .i64 ((a : Int) + 1)) w53 ∧ (fun _ _ _ t _ => q - Int.toNat t) A52 A52l A52c (IntKind.wrap .i64 ((a : Int) + 1)) w53 < (fun _ _ _ t _ => q - Int.toNat t) A' n' c' (a : Int) w15)
  ((fun A' n' c' t w' => ∃ (a : Nat) (out : List Lab), t = (a : Int) ∧ a ≤ q ∧ Ext [] w w' ∧ LOwn w' w.heap.size A' n' c' out ∧ n' ≤ 32 + a ∧ Pat l (prevD ds a) out ∧ patchGo l none l ds = patchGo l (prevD ds a) out (ds.drop a)) A44 A44l A44c (IntKind.wrap .i64 ((a : Int) + 1)) w47 ∧ (fun _ _ _ t _ => q - Int.toNat t) A44 A44l A44c (IntKind.wrap .i64 ((a : Int) + 1)) w47 < (fun _ _ _ t _ => q - Int.toNat t) A' n' c' (a : Int) w15))
  (∃ b54, World.cell? w41 (Addr.add ⟨Array.size (World.heap w15), 0, none⟩ 4) = some (Value.bool b54) ∧
  V.sel b54
  (∃ s55, World.cell? w41 (Addr.add ⟨Array.size (World.heap w15), 0, none⟩ 0) = some (Value.string s55) ∧
  ∃ s56, World.cell? w41 (Addr.add ⟨Array.size (World.heap w15), 0, none⟩ 2) = some (Value.string s56) ∧
  ∀ w57, w57 = (World.alloc w41 (.cells #[(Value.string s55), (Value.string s56)] 40)) →
  ∃ A58, ∃ A58l, ∃ A58c, ∃ w59, Sem.run Tryz.prog (Builtin.append_ #[22, 22] 22 #[(Value.slice A' n' c'), (Value.slice (some ⟨Array.size (World.heap w41), 0, none⟩) 1 1)]) w57 = .ok (Value.slice A58 A58l A58c) w59 ∧
  (fun A' n' c' t w' => ∃ (a : Nat) (out : List Lab), t = (a : Int) ∧ a ≤ q ∧ Ext [] w w' ∧ LOwn w' w.heap.size A' n' c' out ∧ n' ≤ 32 + a ∧ Pat l (prevD ds a) out ∧ patchGo l none l ds = patchGo l (prevD ds a) out (ds.drop a)) A58 A58l A58c (IntKind.wrap .i64 ((a : Int) + 1)) w59 ∧ (fun _ _ _ t _ => q - Int.toNat t) A58 A58l A58c (IntKind.wrap .i64 ((a : Int) + 1)) w59 < (fun _ _ _ t _ => q - Int.toNat t) A' n' c' (a : Int) w15)
  ((fun A' n' c' t w' => ∃ (a : Nat) (out : List Lab), t = (a : Int) ∧ a ≤ q ∧ Ext [] w w' ∧ LOwn w' w.heap.size A' n' c' out ∧ n' ≤ 32 + a ∧ Pat l (prevD ds a) out ∧ patchGo l none l ds = patchGo l (prevD ds a) out (ds.drop a)) A' n' c' (IntKind.wrap .i64 ((a : Int) + 1)) w41 ∧ (fun _ _ _ t _ => q - Int.toNat t) A' n' c' (IntKind.wrap .i64 ((a : Int) + 1)) w41 < (fun _ _ _ t _ => q - Int.toNat t) A' n' c' (a : Int) w15)))) := by
      intro hne hno
      have hwr := wrong_rest (l := l) hk hne hno
      refine ⟨_, _, _, _, _, cadd0 bdd, fault_c (h.ext0 x27.drew.drew).c h.len h.big d fun w41 e41 => ⟨_, rfl, sel_intro (fun hf => err (x27.drew.drew.trans e41) hwr (by simpa using hf)) (fun hf => ?_)⟩⟩
      have hf : wrongS (prevD ds a) l d = 0 := by rw [hwr]; simpa using hf
      rw [if_pos hf, ← hp1] at hgo
      have hpat2 := hpat.step hf
      rw [← hp1] at hpat2
      have b41 := bdd.ext e41 (by simp)
      have e41' : Ext [] w15 w41 := e27'.drew.drew.trans e41
      have x41 : Ext [] w w41 := x27.drew.drew.trans e41
      have own41 := own.ext0 e41'
      -- what comes last
      have last : ∀ {w' : World} {B : Option Addr} {m c2 : Nat} {out2 : List Lab}, Ext [] w41 w' → LOwn w' w.heap.size B m c2 out2 → m ≤ 32 + a → stepP out d = out2 ++ (if d.has = true then [(d.key, d.new)] else []) →
          (∃ b48, World.cell? w' (Addr.add ⟨Array.size (World.heap w15), 0, none⟩ 4) = some (Value.bool b48) ∧
            V.sel b48
            (∃ s49, World.cell? w' (Addr.add ⟨Array.size (World.heap w15), 0, none⟩ 0) = some (Value.string s49) ∧
            ∃ s50, World.cell? w' (Addr.add ⟨Array.size (World.heap w15), 0, none⟩ 2) = some (Value.string s50) ∧
            ∀ w51, w51 = (World.alloc w' (.cells #[(Value.string s49), (Value.string s50)] 40)) →
            ∃ A52, ∃ A52l, ∃ A52c, ∃ w53, Sem.run Tryz.prog (Builtin.append_ #[22, 22] 22 #[(Value.slice B m c2), (Value.slice (some ⟨Array.size (World.heap w'), 0, none⟩) 1 1)]) w51 = .ok (Value.slice A52 A52l A52c) w53 ∧
            (∃ (a_1 : Nat) (out : List Lab), IntKind.wrap .i64 ((a : Int) + 1) = (a_1 : Int) ∧ a_1 ≤ q ∧ Ext [] w w53 ∧ LOwn w53 w.heap.size A52 A52l A52c out ∧ A52l ≤ 32 + a_1 ∧ Pat l (prevD ds a_1) out ∧ patchGo l none l ds = patchGo l (prevD ds a_1) out (ds.drop a_1)) ∧ q - Int.toNat (IntKind.wrap .i64 ((a : Int) + 1)) < q - Int.toNat (a : Int))
            ((∃ (a_1 : Nat) (out : List Lab), IntKind.wrap .i64 ((a : Int) + 1) = (a_1 : Int) ∧ a_1 ≤ q ∧ Ext [] w w' ∧ LOwn w' w.heap.size B m c2 out ∧ m ≤ 32 + a_1 ∧ Pat l (prevD ds a_1) out ∧ patchGo l none l ds = patchGo l (prevD ds a_1) out (ds.drop a_1)) ∧ q - Int.toNat (IntKind.wrap .i64 ((a : Int) + 1)) < q - Int.toNat (a : Int))) := by
        intro w' B m c2 out2 ew ow hm hst
        have bw := b41.ext ew (by simp)
        refine ⟨_, cadd bw rfl, sel_intro (fun hh => ⟨_, cadd bw rfl, _, cadd bw rfl, fun w51 h51 => ?_⟩) (fun hh => ?_)⟩
        · rw [if_pos hh] at hst
          obtain ⟨A2, c2', w2, hr2, ho, he2, _⟩ := more_lab (x41.trans ew) ow h51 (by omega)
          refine ⟨_, _, _, _, hr2, ?_⟩
          rw [up64 a (by omega)]
          refine ⟨⟨a + 1, _, rfl, by omega, ?_, ho, by omega, ?_, ?_⟩, by simp only [Int.toNat_natCast]; omega⟩
          · exact he2
          · rw [← hst]; exact hpat2
          · rw [hgo, hst]
        · rw [if_neg (by rw [hh]; simp), List.append_nil] at hst
          rw [up64 a (by omega)]
          exact ⟨⟨a + 1, _, rfl, by omega, x41.trans ew, ow, by omega, by rw [← hst]; exact hpat2, by rw [hgo, hst]⟩, by simp only [Int.toNat_natCast]; omega⟩
      refine ⟨_, cadd b41 rfl, sel_intro (fun hh => ⟨_, cadd b41 rfl, ?_⟩) (fun hh => ?_)⟩
      · refine Del_c own41.cells hol (by omega) d.key fun w47 A44 n44 e47 o47 hle => ⟨_, _, _, _, rfl, ?_⟩
        exact last e47 (o47.weaken x41.size) (by omega) (by unfold stepP; rw [if_pos hh])
      · exact last (Ext.refl _ _) own41 hn' (by unfold stepP; rw [if_neg (by rw [hh]; simp)])
    refine sel_dec (fun hp => ?_) (fun hp => sel_dec (fun h0 => absurd h0 hp) (fun _ => ?_))
    · obtain ⟨pd, hpd⟩ : ∃ pd, ds[a - 1]? = some pd := ⟨_, List.getElem?_eq_getElem (by omega)⟩
      obtain ⟨ad', hA, rp⟩ := dif_cells hd.c hpd
      cases hA
      have hprev : prevD ds a = some pd.key := by unfold prevD; rw [if_neg (by omega), hpd]; rfl
      have e1 : IntKind.wrap .i64 ((a : Int) - 1) = ((a - 1 : Nat) : Int) := by rw [w64 (by omega) (by omega)]; omega
      rw [e1]
      refine ⟨_, cadd b27 rfl, when_dec ⟨by omega, by omega⟩ ⟨_, (rp w27 x27).1, sel_intro (fun h1 => err x27.drew (wrong_dup hk ?_) (by decide)) (fun h1 => sel_dec (fun _ => ?_) (fun h0 => absurd hp h0))⟩⟩
      · rw [beqBytes, decide_eq_true_eq] at h1; rw [hprev, h1]
      rw [beqBytes, decide_eq_false_iff_not] at h1
      have hne : prevD ds a ≠ some d.key := fun e => by rw [hprev] at e; injection e with e; exact h1 e.symm
      refine ⟨_, cadd (b27.ext (Ext.refl [] w27).drew (by simp)) rfl, when_dec ⟨by omega, by omega⟩ ⟨_, (rp w27.drew x27.drew).1, sel_intro (fun h2 => err x27.drew.drew (wrong_ord hk hne ?_) (by decide)) (fun h2 => tail hne ?_)⟩⟩
      · rw [less_iff, decide_eq_true_eq] at h2; exact ⟨_, hprev, h2⟩
      · rw [less_iff, decide_eq_false_iff_not] at h2
        rintro ⟨z, hz, hlt2⟩
        rw [hprev] at hz; cases hz; exact h2 hlt2
    · have h0 : a = 0 := by omega
      have hprev : prevD ds a = none := by unfold prevD; rw [if_pos h0]
      exact tail (fun e => by rw [hprev] at e; cases e) (by rintro ⟨z, hz, _⟩; rw [hprev] at hz; cases hz)
  · have hdr : ds.drop a = [] := List.drop_eq_nil_of_le (by omega)
    rw [hdr, patchGo] at hgo
    have hol := own.len
    refine sel_dec (fun hgt => bad e15' (by rw [hps, hgo, if_pos (by omega)])) (fun hle => ?_)
    rw [if_neg (by omega)] at hgo
    refine sorted_c own.cells hol (by omega) hpat.nodup fun w143 A141 e143 o143 => ⟨_, _, _, rfl, ?_⟩
    have hh : patchS l ds = (sortS out, 0) := by rw [hps, hgo]
    have := k w143 A141 n' (e15'.trans e143) (by rw [hh]; exact o143.weaken e15'.size)
    rw [hh] at this; exact this
end Go.Proofs.YtcohengppaighaaGreatDoor
