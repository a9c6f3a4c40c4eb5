/- Labels: Put, Make, Parse: the program's walks. -/
import Derived.Test.YtcohengppaighaaGreatDoorLb3
import Derived.Test.YtcohengppaighaaGreatDoorLp7
set_option linter.unusedVariables false
set_option linter.unusedSimpArgs false
namespace Go.Proofs.YtcohengppaighaaGreatDoor
open Go Go.V Go.B

def Szs (l : List Lab) : Prop := ∀ x ∈ l, x.1.size ≤ 140737488351232 ∧ x.2.size ≤ 140737488351232
/-- append(l, label), whatever was called before. -/
theorem more_lab {w w17 w18 : World} {A : Option Addr} {n c : Nat} {l : List Lab} {k v : ByteArray} (e : Ext [] w w17) (own : LOwn w17 w.heap.size A n c l) (h18 : w18 = w17.alloc (.cells #[.string k, .string v] 40)) (hn : (n + 1) * 32 ≤ 140737488355328) :
    ∃ A' c' w2, (Builtin.append_ #[22, 22] 22 #[.slice A n c, .slice (some ⟨w17.heap.size, 0, none⟩) 1 1]).run Tryz.prog w18 = .ok (.slice A' (n + 1) c') w2 ∧ LOwn w2 w.heap.size A' (n + 1) c' (l ++ [(k, v)]) ∧ Ext [] w w2 ∧ Ext (ownF A) w17 w2 := by
  obtain ⟨b18, x18, z18⟩ := box_new h18
  have e18 := e.trans x18
  obtain ⟨A', c', w2, hr, ho, he, hat⟩ := LstL.more (P := Tryz.prog) (t := 22) (ty := 22) (x := (k, v)) (by exact Tryz.underlying22) infoL rfl (by decide) (own.ext0 x18) b18 e18.size hn
  exact ⟨A', c', w2, hr, ho, Ext.old e18 (fun b hb => (own.fresh b hb).1) he, x18.up.trans he⟩
theorem Put_c {w : World} {A : Option Addr} {n c : Nat} {l : List Lab} (h : LIn w A n l) {key value : ByteArray} (hk : key.size ≤ 140737488351232) {R : Ending → World → Prop}
    (k : ∀ w' A' n', Ext [] w w' → LOwn w' w.heap.size A' n' n' (putS l key value).1 → R (.returned (.tuple #[.slice A' n' n', .int .i64 (putS l key value).2])) w') : Calls Tryz.prog 33 #[.slice A n c, .string key, .string value] w R := by
  apply labels_Put_nf
  have bad : ∀ {w' : World} {e : Int}, Ext [] w w' → putS l key value = ([], e) → R (.returned (.tuple #[.slice none 0 0, .int .i64 e])) w' := fun {w' e} ew he => by
    have := k w' none 0 ew (by rw [he]; exact LstL.nil _ _ _)
    rw [he] at this; exact this
  refine Check_c h fun w7 e7 => ⟨_, _, rfl, sel_intro (fun hc => ?_) (fun hc => ?_)⟩
  · have hc : (checkS l).2 ≠ 0 := by simpa using hc
    exact bad e7 (by unfold putS; rw [if_pos hc])
  have hc : (checkS l).2 = 0 := by simpa using hc
  have ok := checkS_zero.1 hc
  refine IsKey_c key (by omega) fun w10 e10 => ⟨_, rfl, sel_intro (fun hkk => bad (e7.trans e10) (by unfold putS; rw [if_neg (by simpa using hc), if_pos (nf_ hkk)])) (fun hkk => ?_)⟩
  have hkk := nt_ hkk
  refine IsValue_c value ⟨_, rfl, sel_intro (fun hv => bad (e7.trans e10) (by unfold putS; rw [if_neg (by simpa using hc), if_neg (by simp [hkk]), if_pos (nf_ hv)])) (fun hv => ?_)⟩
  have hv := nt_ hv
  have e10' := e7.trans e10
  refine Del_c (h.ext0 e10').c h.len h.big key fun w17 A14 n14 e17 o17 hle => ⟨_, _, _, _, rfl, ?_⟩
  have hl := h.len
  have hll := ok.len
  have o17' : LOwn w17 w.heap.size A14 n14 n14 (delS l key) := o17.weaken e10'.size
  have e17' := e10'.trans e17
  have good : ¬ ((getS l key).2 = false ∧ l.length = 32) → ∀ w18, w18 = (World.alloc w17 (.cells #[(Value.string key), (Value.string value)] 40)) →
      ∃ A19, ∃ A19l, ∃ A19c, ∃ w20, Sem.run Tryz.prog (Builtin.append_ #[22, 22] 22 #[(Value.slice A14 n14 n14), (Value.slice (some ⟨Array.size (World.heap w17), 0, none⟩) 1 1)]) w18 = .ok (Value.slice A19 A19l A19c) w20 ∧
      Calls Tryz.prog 28 #[(Value.slice A19 A19l A19c)] w20 fun e22 w23 =>
      ∃ A21, ∃ A21l, ∃ A21c, e22 = Ending.returned (Value.slice A21 A21l A21c) ∧
      R (Ending.returned (Value.tuple #[(Value.slice A21 A21l A21c), (Value.int .i64 0)])) w23 := fun hg w18 h18 => by
    obtain ⟨A', c', w2, hr, ho, he, _⟩ := more_lab e17' o17' h18 (by omega)
    refine ⟨_, _, _, _, hr, sorted_c ho.cells ho.len (by omega) (put_nodup ok.ris.nodup key value) fun w23 A21 e23 o23 => ⟨_, _, _, rfl, ?_⟩⟩
    have hp : putS l key value = (sortS (delS l key ++ [(key, value)]), 0) := by
      unfold putS
      rw [if_neg (by simpa using hc), if_neg (by simp [hkk]), if_neg (by simp [hv]), if_neg hg]
    have := k w23 A21 (n14 + 1) (he.trans e23) (by rw [hp]; exact o23.weaken he.size)
    rw [hp] at this; exact this
  refine sel_intro (fun hb => sel_intro (fun h32 => bad e17' ?_) (fun h32 => good ?_)) (fun hb => good ?_)
  · have h32 : (n : Int) = 32 := by simpa using h32
    unfold putS
    rw [if_neg (by simpa using hc), if_neg (by simp [hkk]), if_neg (by simp [hv]), if_pos ⟨nf_ hb, by omega⟩]
  · have h32 : (n : Int) ≠ 32 := by simpa using h32
    exact fun hc => h32 (by omega)
  · exact fun hc => by have := nt_ hb; rw [this] at hc; cases hc.1
theorem zE : ∀ w, (zeroValue 79).run Tryz.prog w = .ok (.agg #[]) w := fun w => by
  have h : ((Tryz.prog.info? 79).map (fun i => i.zero)) = some (some (.agg #[])) := by kernel_rfl
  cases hq : Tryz.prog.info? 79 with
  | none => rw [hq] at h; cases h
  | some i =>
    rw [hq] at h
    simp only [Option.map_some, Option.some.injEq] at h
    simp [zeroValue, typeInfo, hq, h]
/-- The keys seen so far. -/
abbrev Seen (w : World) (r : Nat) (m : List (ByteArray × Unit)) : Prop := MapAt w r Value.string (fun _ : Unit => .agg #[]) m
theorem Make_c {w : World} {A : Option Addr} {n c : Nat} {l : List Lab} (h : LIn w A n l) {R : Ending → World → Prop}
    (k : ∀ w' A' n', Ext [] w w' → LOwn w' w.heap.size A' n' n' (makeS l).1 → R (.returned (.tuple #[.slice A' n' n', .string (makeS l).2.1, .int .i64 (makeS l).2.2])) w') : Calls Tryz.prog 32 #[.slice A n c] w R := by
  apply labels_Make_nf
  have hl := h.len
  have hbig := h.big
  have bad : ∀ {w' : World} {q : ByteArray} {e : Int}, Ext [] w w' → makeS l = ([], q, e) → R (.returned (.tuple #[.slice none 0 0, .string q, .int .i64 e])) w' := fun {w' q e} ew he => by
    have := k w' none 0 ew (by rw [he]; exact LstL.nil _ _ _)
    rw [he] at this; exact this
  refine sel_dec (fun hgt => bad (Ext.refl _ _) (by unfold makeS; rw [if_pos (by omega)])) (fun hle w2 h2 => ?_)
  have hms : makeS l = match makeGo [] l with | none => (sortS l, ByteArray.empty, 0) | some (k, e) => ([], k, e) := by
    unfold makeS
    rw [if_neg (by omega)]
    cases makeGo [] l with
    | none => rfl
    | some p => rfl
  obtain ⟨m2, x2, z2⟩ := map_new Value.string (fun _ : Unit => Value.agg #[]) h2
  refine ⟨fun t w' => ∃ (a : Nat) (seen : List ByteArray) (m : List (ByteArray × Unit)), t = a ∧ a ≤ n ∧ Ext [] w w' ∧ makeGo [] l = makeGo seen (l.drop a) ∧ Seen w' w.heap.size m ∧ ∀ q, (mget m q).isSome = seen.any fun p => decide (p = q), fun t _ => n - t.toNat,
    ⟨0, [], [], rfl, by omega, x2, rfl, m2, fun q => rfl⟩, ?_⟩
  rintro _ _ w7 ⟨a, seen, m, rfl, ha, e7, hg, hm, hs⟩
  refine sel_dec (fun hlt => when_dec ⟨by omega, by omega⟩ (take_lab (h.ext0 e7).c hl (by omega) fun x w12 hx bx ex => ?_)) (fun hge => ?_)
  · have hd : l.drop a = x :: l.drop (a + 1) := by
      obtain ⟨h1, h2⟩ := List.getElem?_eq_some_iff.1 hx
      rw [List.drop_eq_getElem_cons h1, h2]
    rw [hd, makeGo] at hg
    have hsz := h.sz x (List.mem_of_getElem? hx)
    have e12 := e7.trans ex
    have no : ∀ {w' : World} {e : Int}, Ext [] w w' → makeGo [] l = some (x.1, e) → R (.returned (.tuple #[.slice none 0 0, .string x.1, .int .i64 e])) w' := fun {w' e} ew he => bad ew (by rw [hms, he])
    refine ⟨_, cadd bx rfl, IsKey_c x.1 (by omega) fun w16 e16 => ⟨_, rfl, sel_intro (fun hk => ⟨_, cadd (bx.ext e16 (by simp)) rfl, no (e12.trans e16).drew (by rw [hg, if_pos (nf_ hk)])⟩) (fun hk => ?_)⟩⟩
    have hk := nt_ hk
    have bx16 := bx.ext e16 (by simp)
    have e16' := e12.trans e16
    rw [if_neg (by simp [hk])] at hg
    refine ⟨_, cadd bx16 rfl, IsValue_c x.2 ⟨_, rfl, sel_intro (fun hv => ⟨_, cadd bx16 rfl, no e16'.drew (by rw [hg, if_pos (nf_ hv)])⟩) (fun hv => ?_)⟩⟩
    have hv := nt_ hv
    rw [if_neg (by simp [hv])] at hg
    have m16 := hm.ext0 (ex.trans e16)
    have hlook : (Instr.lookup 78 (.map (some w.heap.size)) (.string x.1) true).run Tryz.prog w16 = .ok (.tuple #[.agg #[], .bool (mget m x.1).isSome]) w16 := by
      have h1 := (Go.B.look (P := Tryz.prog) (t := 78) (keyString (by exact Tryz.underlying9)) (by exact Tryz.underlying78) zE m16 x.1).2
      cases hq : mget m x.1 with
      | none => rw [hq] at h1; exact h1
      | some y => rw [hq] at h1; exact h1
    refine ⟨_, cadd bx16 rfl, _, _, hlook, fun w26 h26 => ?_⟩
    obtain ⟨b26, x26, z26⟩ := box_new h26
    obtain ⟨w27, hr, b27, x27⟩ := storeW (P := Tryz.prog) (t := 79) (n := 0) (by kernel_rfl) b26 (vs := []) rfl rfl (by simp)
    have e27 : Ext [] w16 w27 := x26.trans' x27 fun b hb => .inr (by simp at hb; omega)
    have bx27 := bx16.ext e27 (by simp)
    have e27' := e16'.trans e27
    refine ⟨w27, hr, sel_intro (fun hb => ⟨_, cadd bx27 rfl, no e27'.drew (by rw [hg, if_pos (by rw [← hs]; exact hb)])⟩) (fun hb => ?_)⟩
    rw [if_neg (by rw [← hs, hb]; simp)] at hg
    obtain ⟨w30, hr2, m30, x30⟩ := store_map (P := Tryz.prog) (t := 78) (keyString (by exact Tryz.underlying9)) (by exact Tryz.underlying78) (m16.ext0 e27) x.1 ()
    refine ⟨_, cadd bx27 rfl, w30, hr2, ?_⟩
    rw [up64 a (by omega)]
    refine ⟨⟨a + 1, x.1 :: seen, _, rfl, by omega, e27'.trans' x30 (fun b hb => .inr (by simp at hb; omega)), hg, m30, fun q => ?_⟩, by simp only [Int.toNat_natCast]; omega⟩
    rw [mget_mput, List.any_cons, ← hs]
    by_cases hq : x.1 = q
    · simp [hq]
    · simp [hq]
  · have hd : l.drop a = [] := List.drop_eq_nil_of_le (by omega)
    rw [hd] at hg
    have hg : makeGo [] l = none := hg
    obtain ⟨_, _, hn, _⟩ := makeGo_none hg
    refine sorted_c (h.ext0 e7).c hl hbig hn fun w33 A31 e33 o33 => ⟨_, _, _, rfl, ?_⟩
    rw [hg] at hms
    have := k w33 A31 n (e7.trans e33) (by rw [hms]; exact o33.weaken e7.size)
    rw [hms] at this; exact this
theorem Parse_c {w : World} (text : ByteArray) {R : Ending → World → Prop}
    (k : ∀ w' A' n', Ext [] w w' → LOwn w' w.heap.size A' n' n' (parseS (bs text)).1 → R (.returned (.tuple #[.slice A' n' n', .int .i64 (parseS (bs text)).2.1, .int .i64 (parseS (bs text)).2.2])) w') : Calls Tryz.prog 12 #[.string text] w R := by
  apply labels_Parse_nf
  have hl := bs_len text
  have bad : ∀ {w' : World} {p e : Int}, Ext [] w w' → parseS (bs text) = ([], p, e) → R (.returned (.tuple #[.slice none 0 0, .int .i64 p, .int .i64 e])) w' := fun {w' p e} ew he => by
    have := k w' none 0 ew (by rw [he]; exact LstL.nil _ _ _)
    rw [he] at this; exact this
  refine sel_dec (fun hgt => bad (Ext.refl _ _) (by unfold parseS; rw [if_pos (by omega)])) (fun hle => sel_intro (fun he => ?_) (fun he => ?_))
  · rw [beqBytes, decide_eq_true_eq] at he
    subst he
    exact bad (Ext.refl _ _) rfl
  have hne : bs text ≠ [] := fun e => by
    rw [beqBytes, decide_eq_false_iff_not] at he
    exact he (bs_inj e)
  have hps : parseS (bs text) = parseGo [] 0 (cutS 44 (bs text)) := by unfold parseS; rw [if_neg (by omega), if_neg hne]
  refine Split_c text 44 (by omega) fun w4 A2 ps e4 hc hcut => ⟨_, _, _, rfl, ?_⟩
  have hsum : ((ps.map fun p => (bs p).length + 1)).sum = text.size + 1 := by
    have := sum_cut 44 _ (bs text) (Nat.le_refl _)
    rw [← hcut, List.map_map] at this
    rw [← hl, ← this]; rfl
  have hpl : ps.length ≤ text.size + 1 := by
    have : ∀ (q : List ByteArray), q.length ≤ ((q.map fun p => (bs p).length + 1)).sum := by
      intro q
      induction q with
      | nil => simp
      | cons x r ih => simp only [List.map_cons, List.sum_cons, List.length_cons]; omega
    rw [← hsum]; exact this ps
  refine ⟨fun A' n' c' at_ t w' => ∃ (a : Nat) (out : List Lab) (p : Nat), t = a ∧ at_ = p ∧ a ≤ ps.length ∧ p = ((ps.take a).map fun q => (bs q).length + 1).sum ∧ Ext [] w4 w' ∧ LOwn w' w4.heap.size A' n' c' out ∧ n' ≤ 32 ∧ (keys out).Nodup ∧
      parseGo [] 0 (cutS 44 (bs text)) = parseGo out p ((ps.map bs).drop a), fun _ _ _ _ t _ => ps.length - t.toNat,
    ⟨0, [], 0, rfl, rfl, by omega, rfl, Ext.refl _ _, LstL.nil _ _ _, by omega, by simp [keys], by rw [hcut]; rfl⟩, ?_⟩
  rintro A7 n7 c7 _ _ _ w11 ⟨a, out, p, rfl, rfl, ha, hp, x11, own, hn32, hnd, hgo⟩
  have e11 := e4.trans x11
  refine sel_dec (fun hlt => when_dec ⟨by omega, by omega⟩ ?_) (fun hge => ?_)
  · obtain ⟨it, hit⟩ : ∃ it, ps[a]? = some it := ⟨_, List.getElem?_eq_getElem (by omega)⟩
    obtain ⟨ad, rfl, hcell⟩ := SL_at (hc.ext0 x11) hit
    have hitl := bs_len it
    have hps2 : p + ((bs it).length + 1) ≤ text.size + 1 := by
      have := sum_take_le (ps.map fun q => (bs q).length + 1) (a := a) (x := (bs it).length + 1) (by rw [List.getElem?_map, hit]; rfl)
      rw [hsum, ← List.map_take] at this
      rw [hp]; exact this
    have hd : (ps.map bs).drop a = bs it :: (ps.map bs).drop (a + 1) := by
      have h1 : (ps.map bs)[a]? = some (bs it) := by rw [List.getElem?_map, hit]; rfl
      obtain ⟨h1, h2⟩ := List.getElem?_eq_some_iff.1 h1
      rw [List.drop_eq_getElem_cons h1, h2]
    rw [hd, parseGo] at hgo
    have hol := own.len
    -- what both ways of the item have in common
    have body : ∀ (s14 s15 : ByteArray) (b16 : Bool) (w18 : World), itemS (bs it) = (s14, s15, b16) → s14.size ≤ it.size → s15.size ≤ it.size → Ext [] w11 w18 →
        (Calls Tryz.prog 26 #[(Value.slice A7 n7 c7), (Value.string s14)] w18 fun e21 w22 =>
  ∃ s19, ∃ b20, e21 = Ending.returned (Value.tuple #[(Value.string s19), (Value.bool b20)]) ∧
  V.sel (((n7 : Nat) : Int) == 32)
  (R (Ending.returned (Value.tuple #[(Value.slice none 0 0), (Value.int .i64 (p : Int)), (Value.int .i64 34)])) w22)
  (V.sel (!b16)
  (R (Ending.returned (Value.tuple #[(Value.slice none 0 0), (Value.int .i64 (p : Int)), (Value.int .i64 35)])) w22)
  (Calls Tryz.prog 10 #[(Value.string s14)] w22 fun e24 w25 =>
  ∃ b23, e24 = Ending.returned (Value.bool b23) ∧
  V.sel (!b23)
  (R (Ending.returned (Value.tuple #[(Value.slice none 0 0), (Value.int .i64 (p : Int)), (Value.int .i64 31)])) w25)
  (Calls Tryz.prog 27 #[(Value.string s15)] w25 fun e27 w28 =>
  ∃ b26, e27 = Ending.returned (Value.bool b26) ∧
  V.sel (!b26)
  (R (Ending.returned (Value.tuple #[(Value.slice none 0 0), (Value.int .i64 (p : Int)), (Value.int .i64 32)])) w28)
  (V.sel b20
  (R (Ending.returned (Value.tuple #[(Value.slice none 0 0), (Value.int .i64 (p : Int)), (Value.int .i64 33)])) w28)
  (∀ w29, w29 = (World.alloc w28 (.cells #[(Value.string s14), (Value.string s15)] 40)) →
  ∃ A30, ∃ A30l, ∃ A30c, ∃ w31, Sem.run Tryz.prog (Builtin.append_ #[22, 22] 22 #[(Value.slice A7 n7 c7), (Value.slice (some ⟨Array.size (World.heap w28), 0, none⟩) 1 1)]) w29 = .ok (Value.slice A30 A30l A30c) w31 ∧
  V.lt (IntKind.wrap .i64 ((p : Int) + (IntKind.wrap .i64 (((ByteArray.size it : Nat) : Int) + 1)))) fun x32 =>
  (fun A' n' c' at_ t w' => ∃ (a : Nat) (out : List Lab) (p : Nat), t = (a : Int) ∧ at_ = (p : Int) ∧ a ≤ ps.length ∧ p = ((ps.take a).map fun q => (bs q).length + 1).sum ∧ Ext [] w4 w' ∧ LOwn w' w4.heap.size A' n' c' out ∧ n' ≤ 32 ∧ (keys out).Nodup ∧ parseGo [] 0 (cutS 44 (bs text)) = parseGo out p ((ps.map bs).drop a)) A30 A30l A30c x32 (IntKind.wrap .i64 ((a : Int) + 1)) w31 ∧ (fun _ _ _ _ t _ => ps.length - Int.toNat t) A30 A30l A30c x32 (IntKind.wrap .i64 ((a : Int) + 1)) w31 < (fun _ _ _ _ t _ => ps.length - Int.toNat t) A7 n7 c7 (p : Int) (a : Int) w11)))))) := by
      intro s14 s15 b16 w18 hits h14 h15 e18
      have e18' := e11.trans e18
      have own18 := own.ext0 e18
      have err : ∀ {w' : World} {e : Int}, Ext [] w w' → itemBad out (bs it) = e → e ≠ 0 → R (.returned (.tuple #[.slice none 0 0, .int .i64 (p : Int), .int .i64 e])) w' := fun {w' e} ew hb hne => bad ew (by rw [hps, hgo, if_neg (by rw [hb]; exact hne), hb])
      refine Get_c own18.cells hol (by omega) s14 fun w22 e22 => ⟨_, _, rfl, ?_⟩
      have e22' := e18'.trans e22
      refine sel_intro (fun h32 => err e22' ?_ (by decide)) (fun h32 => sel_intro (fun hb => err e22' ?_ (by decide)) (fun hb => ?_))
      · have h32 : (n7 : Int) = 32 := by simpa using h32
        unfold itemBad; rw [if_pos (by omega)]
      · have h32 : (n7 : Int) ≠ 32 := by simpa using h32
        unfold itemBad; rw [if_neg (by omega), hits, if_pos (nf_ hb)]
      have h32 : (n7 : Int) ≠ 32 := by simpa using h32
      have hb := nt_ hb
      refine IsKey_c s14 (by omega) fun w25 e25 => ⟨_, rfl, sel_intro (fun hk => err (e22'.trans e25) ?_ (by decide)) (fun hk => ?_)⟩
      · unfold itemBad; rw [if_neg (by omega), hits, if_neg (by simp [hb]), if_pos (nf_ hk)]
      have hk := nt_ hk
      refine IsValue_c s15 ⟨_, rfl, sel_intro (fun hv => err (e22'.trans e25) ?_ (by decide)) (fun hv => ?_)⟩
      · unfold itemBad; rw [if_neg (by omega), hits, if_neg (by simp [hb]), if_neg (by simp [hk]), if_pos (nf_ hv)]
      have hv := nt_ hv
      refine sel_intro (fun hdup => err (e22'.trans e25) ?_ (by decide)) (fun hdup w29 h29 => ?_)
      · unfold itemBad; rw [if_neg (by omega), hits, if_neg (by simp [hb]), if_neg (by simp [hk]), if_neg (by simp [hv]), if_pos hdup]
      have hz : itemBad out (bs it) = 0 := by
        unfold itemBad; rw [if_neg (by omega), hits, if_neg (by simp [hb]), if_neg (by simp [hk]), if_neg (by simp [hv]), if_neg (by simp [hdup])]
      rw [if_pos hz, hits] at hgo
      have e25' := e22'.trans e25
      obtain ⟨A', c', w2, hr, ho, he, he2⟩ := more_lab (x11.trans (e18.trans (e22.trans e25))) (own18.ext0 (e22.trans e25)) h29 (by omega)
      refine ⟨_, _, _, _, hr, lt_eq (y := ((p + ((bs it).length + 1) : Nat) : Int)) ?_ ?_⟩
      · rw [w64 (x := ((it.size : Nat) : Int) + 1) (by omega) (by omega), w64 (by omega) (by omega)]
        omega
      rw [up64 a (by omega)]
      refine ⟨⟨a + 1, _, _, rfl, rfl, by omega, ?_, he, ho, by omega, ?_, ?_⟩, by simp only [Int.toNat_natCast]; omega⟩
      · rw [snoc_at hit, List.map_append, List.sum_append, ← hp]; simp
      · have hnot : s14 ∉ keys out := fun hm => by rw [getS_iff.2 hm] at hdup; cases hdup
        unfold keys at hnd hnot ⊢
        rw [List.map_append, List.nodup_append]
        refine ⟨hnd, by simp, fun a ha b hb e => ?_⟩
        simp at hb
        rw [← hb, ← e] at hnot
        exact hnot ha
      · rw [hgo]
        congr 1
    refine ⟨it, hcell, Cut_c it 61 (by omega) (fun h61 => ⟨_, _, _, rfl, ?_⟩) (fun w18 x y e18 h61 hx => ⟨_, _, _, rfl, ?_⟩)⟩
    · exact body _ _ _ w11 (item_not h61) (by omega) (by show 0 ≤ it.size; omega) (Ext.refl _ _)
    · have hxy : x.size + 1 + y.size = it.size := by rw [← hitl, h61, ← bs_len, ← bs_len]; simp; omega
      exact body _ _ _ w18 (item_cut1 h61 hx) (by omega) (by omega) e18
  · have hd : (ps.map bs).drop a = [] := List.drop_eq_nil_of_le (by rw [List.length_map]; omega)
    rw [hd, parseGo] at hgo
    refine sorted_c own.cells own.len (by omega) hnd fun w35 A33 e35 o35 => ⟨_, _, _, rfl, ?_⟩
    have hh : parseS (bs text) = (sortS out, 0, 0) := by rw [hps, hgo]
    have := k w35 A33 n7 (e11.trans e35) (by rw [hh]; exact o35.weaken e11.size)
    rw [hh] at this; exact this
end Go.Proofs.YtcohengppaighaaGreatDoor
