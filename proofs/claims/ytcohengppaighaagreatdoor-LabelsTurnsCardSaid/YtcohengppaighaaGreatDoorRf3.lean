/- Labels, the document's answer: Parse, Text, Put, Del. -/
import Derived.Test.YtcohengppaighaaGreatDoorRf2
set_option linter.unusedVariables false
set_option linter.unusedSimpArgs false
namespace Go.Proofs.YtcohengppaighaaGreatDoor
open Go Go.V Go.B

theorem bs_app (a b : ByteArray) : bs (a ++ b) = bs a ++ bs b := by
  simp [bs, ByteArray.data_append]
theorem find_get (l : List Lab) (k : ByteArray) : ((getS l k).2 = true ∧ 0 ≤ findS l k 0) ∨ ((getS l k).2 = false ∧ findS l k 0 < 0) := by
  rcases find_cases l k 0 with ⟨h1, h2⟩ | ⟨a, x, h1, h2, h3, h4, h5⟩
  · exact .inr ⟨by rw [getS_not h2], by rw [h1]; omega⟩
  · exact .inl ⟨by rw [h4], by rw [h1]; omega⟩
section
variable {w : World} {R : Ending → World → Prop}
set_option maxHeartbeats 2000000 in
theorem rParse_c (text : ByteArray)
    (k : ∀ w' A' n' c', Ext [] w w' → LOwn w' w.heap.size A' n' c' (parseS (bs text)).1 → R (.returned (.tuple #[.slice A' n' c', .int .i64 (parseS (bs text)).2.1, .int .i64 (parseS (bs text)).2.2])) w') : Calls Tryz.prog 37 #[.string text] w R := by
  apply berthref03_Parse_nf
  have hl := bs_len text
  have bad : ∀ {w' : World} {p e : Int}, Ext [] w w' → parseS (bs text) = ([], p, e) → R (.returned (.tuple #[.slice none 0 0, .int .i64 p, .int .i64 e])) w' := fun {w' p e} ew he => by
    have := k w' none 0 0 ew (by rw [he]; exact LstL.nil _ _ _)
    rw [he] at this; exact this
  refine sel_dec (fun hgt => bad (Ext.refl _ _) (by unfold parseS; rw [if_pos (by omega)])) (fun hle => sel_intro (fun he => ?_) (fun he => ?_))
  · rw [beqBytes, decide_eq_true_eq] at he
    subst he
    exact bad (Ext.refl _ _) rfl
  have hne : bs text ≠ [] := fun e => by
    rw [beqBytes, decide_eq_false_iff_not] at he
    exact he (bs_inj e)
  have hps : parseS (bs text) = parseGo [] 0 (cutS 44 (bs text)) := by unfold parseS; rw [if_neg (by omega), if_neg hne]
  refine rcut_c text 44 (by omega) fun w4 A2 c2 ps e4 hc hcut => ⟨_, _, _, rfl, ?_⟩
  have hsum : ((ps.map fun p => (bs p).length + 1)).sum = text.size + 1 := by
    have := sum_cut 44 _ (bs text) (Nat.le_refl _)
    rw [← hcut, List.map_map] at this
    rw [← hl, ← this]; rfl
  have hpl : ps.length ≤ text.size + 1 := by
    have h3 := cutS_len 44 (bs text)
    rw [← hcut, List.length_map] at h3
    omega
  refine ⟨fun A' n' c' at_ t w' => ∃ (a : Nat) (out : List Lab) (p : Nat), t = a ∧ at_ = p ∧ a ≤ ps.length ∧ n' = a ∧ p = ((ps.take a).map fun q => (bs q).length + 1).sum ∧ Ext [] w4 w' ∧ LOwn w' w4.heap.size A' n' c' out ∧ n' ≤ 32 ∧ (keys out).Nodup ∧
      parseGo [] 0 (cutS 44 (bs text)) = parseGo out p ((ps.map bs).drop a), fun _ _ _ _ t _ => ps.length - t.toNat,
    ⟨0, [], 0, rfl, rfl, by omega, rfl, rfl, Ext.refl _ _, LstL.nil _ _ _, by omega, by simp [keys], by rw [hcut]; rfl⟩, ?_⟩
  rintro A7 n7 c7 _ _ _ w11 ⟨a, out, p, rfl, rfl, ha, hna, hp, x11, own, hn32, hnd, hgo⟩
  subst hna
  have e11 := e4.trans x11
  refine sel_dec (fun hlt => when_dec ⟨by omega, by omega⟩ ?_) (fun hge => ?_)
  · obtain ⟨it, hit⟩ : ∃ it, ps[n7]? = some it := ⟨_, List.getElem?_eq_getElem (by omega)⟩
    obtain ⟨ad, rfl, hcell⟩ := SL_at (hc.ext0 x11) hit
    have hitl := bs_len it
    have hits0 := cutS_sub 44 (bs text) (bs it) (by rw [← hcut]; exact List.mem_map_of_mem (List.mem_of_getElem? hit))
    have hps2 : p + ((bs it).length + 1) ≤ text.size + 1 := by
      have := sum_take_le (ps.map fun q => (bs q).length + 1) (a := n7) (x := (bs it).length + 1) (by rw [List.getElem?_map, hit]; rfl)
      rw [hsum, ← List.map_take] at this
      rw [hp]; exact this
    rw [drop_at (show (ps.map bs)[n7]? = some (bs it) by rw [List.getElem?_map, hit]; rfl), parseGo] at hgo
    have hol := own.len
    refine ⟨it, hcell, rcut_c it 61 (by omega) fun w16 A14 c14 qs e16 hcq hcutq => ⟨_, _, _, rfl, ?_⟩⟩
    have x16 := x11.trans e16
    -- what both ways of the item have in common
    have body : ∀ (s14 s15 : ByteArray) (b16 : Bool), itemS (bs it) = (s14, s15, b16) → s14.size ≤ it.size → s15.size ≤ it.size → (b16 = false ↔ qs.length < 2) →
        (Calls Tryz.prog 54 #[(Value.string s14)] w16 fun e22 w23 =>
  ∃ b21, e22 = Ending.returned (Value.bool b21) ∧
  Calls Tryz.prog 55 #[(Value.string s15)] w23 fun e25 w26 =>
  ∃ b24, e25 = Ending.returned (Value.bool b24) ∧
  Calls Tryz.prog 56 #[(Value.slice A7 n7 c7), (Value.string s14)] w26 fun e28 w29 =>
  ∃ n27, e28 = Ending.returned (Value.int .i64 n27) ∧
  V.sel (decide ((n7 : Int) ≥ 32))
  (R (Ending.returned (Value.tuple #[(Value.slice none 0 0), (Value.int .i64 (p : Int)), (Value.int .i64 34)])) w29)
  (V.sel (decide (((qs.length : Nat) : Int) < 2))
  (R (Ending.returned (Value.tuple #[(Value.slice none 0 0), (Value.int .i64 (p : Int)), (Value.int .i64 35)])) w29)
  (V.sel (!b21)
  (R (Ending.returned (Value.tuple #[(Value.slice none 0 0), (Value.int .i64 (p : Int)), (Value.int .i64 31)])) w29)
  (V.sel (!b24)
  (R (Ending.returned (Value.tuple #[(Value.slice none 0 0), (Value.int .i64 (p : Int)), (Value.int .i64 32)])) w29)
  (V.sel (decide (n27 ≥ 0))
  (R (Ending.returned (Value.tuple #[(Value.slice none 0 0), (Value.int .i64 (p : Int)), (Value.int .i64 33)])) w29)
  (∀ w30, w30 = (World.alloc w29 (.cells #[(Value.string s14), (Value.string s15)] 40)) →
  ∃ A31, ∃ A31l, ∃ A31c, ∃ w32, Sem.run Tryz.prog (Builtin.append_ #[22, 22] 22 #[(Value.slice A7 n7 c7), (Value.slice (some ⟨Array.size (World.heap w29), 0, none⟩) 1 1)]) w30 = .ok (Value.slice A31 A31l A31c) w32 ∧
  V.when (decide ((0 : Int) ≤ (n7 : Int) ∧ ((n7 : Int) : Int) < ((ps.length : Nat) : Int))) (V.ptr (some ad) fun a33 =>
  ∃ s34, World.cell? w32 (Addr.add a33 ((Int.toNat (n7 : Int)) * 1)) = some (Value.string s34) ∧
  V.lt (IntKind.wrap .i64 ((IntKind.wrap .i64 ((p : Int) + ((ByteArray.size s34 : Nat) : Int))) + 1)) fun x35 =>
  (fun A' n' c' at_ t w' => ∃ (a : Nat) (out : List Lab) (p : Nat), t = (a : Int) ∧ at_ = (p : Int) ∧ a ≤ ps.length ∧ n' = a ∧ p = ((ps.take a).map fun q => (bs q).length + 1).sum ∧ Ext [] w4 w' ∧ LOwn w' w4.heap.size A' n' c' out ∧ n' ≤ 32 ∧ (keys out).Nodup ∧ parseGo [] 0 (cutS 44 (bs text)) = parseGo out p ((ps.map bs).drop a)) A31 A31l A31c x35 (IntKind.wrap .i64 ((n7 : Int) + 1)) w32 ∧ (fun _ _ _ _ t _ => ps.length - Int.toNat t) A31 A31l A31c x35 (IntKind.wrap .i64 ((n7 : Int) + 1)) w32 < (fun _ _ _ _ t _ => ps.length - Int.toNat t) A7 n7 c7 (p : Int) (n7 : Int) w11))))))) := by
      intro s14 s15 b16 hits h14 h15 hb2
      have err : ∀ {w' : World} {e : Int}, Ext [] w w' → itemBad out (bs it) = e → e ≠ 0 → R (.returned (.tuple #[.slice none 0 0, .int .i64 (p : Int), .int .i64 e])) w' := fun {w' e} ew hb hne => bad ew (by rw [hps, hgo, if_neg (by rw [hb]; exact hne), hb])
      refine rIsKey_c s14 fun w23 e23 => ⟨_, rfl, rIsValue_c s15 ⟨_, rfl, rFind_c (own.ext0 (e16.trans e23)).cells hol (by omega) s14 ⟨_, rfl, ?_⟩⟩⟩
      have x23 := x16.trans e23
      have e23' := e4.trans x23
      refine sel_dec (fun h32 => err e23' ?_ (by decide)) (fun h32 => sel_dec (fun hb => err e23' ?_ (by decide)) (fun hb => ?_))
      · unfold itemBad; rw [if_pos (by omega)]
      · have : b16 = false := hb2.2 (by omega)
        unfold itemBad; rw [if_neg (by omega), hits, if_pos this]
      have hb : b16 = true := by cases b16 with
        | true => rfl
        | false => exact absurd (hb2.1 rfl) (by omega)
      refine sel_intro (fun hk => err e23' ?_ (by decide)) (fun hk => sel_intro (fun hv => err e23' ?_ (by decide)) (fun hv => ?_))
      · unfold itemBad; rw [if_neg (by omega), hits, if_neg (by simp [hb]), if_pos (nf_ hk)]
      · unfold itemBad; rw [if_neg (by omega), hits, if_neg (by simp [hb]), if_neg (by simp [nt_ hk]), if_pos (nf_ hv)]
      have hk := nt_ hk
      have hv := nt_ hv
      refine sel_dec (fun hd => err e23' ?_ (by decide)) (fun hd w30 h30 => ?_)
      · have : (getS out s14).2 = true := by
          rcases find_get out s14 with h | h
          · exact h.1
          · exact absurd h.2 (by omega)
        unfold itemBad; rw [if_neg (by omega), hits, if_neg (by simp [hb]), if_neg (by simp [hk]), if_neg (by simp [hv]), if_pos this]
      have hdup : (getS out s14).2 = false := by
        rcases find_get out s14 with h | h
        · exact absurd h.2 (by omega)
        · exact h.1
      have hz : itemBad out (bs it) = 0 := by
        unfold itemBad; rw [if_neg (by omega), hits, if_neg (by simp [hb]), if_neg (by simp [hk]), if_neg (by simp [hv]), if_neg (by simp [hdup])]
      rw [if_pos hz, hits] at hgo
      obtain ⟨A', c', w2, hr, ho, he, he2⟩ := more_lab x23 (own.ext0 (e16.trans e23)) h30 (by omega)
      obtain ⟨ad', h1, hcell2⟩ := SL_at (hc.ext0 he) hit
      cases h1
      refine ⟨_, _, _, _, hr, when_dec ⟨by omega, by omega⟩ ⟨it, hcell2, lt_eq (y := ((p + ((bs it).length + 1) : Nat) : Int)) ?_ ?_⟩⟩
      · rw [w64 (x := (p : Int) + ((it.size : Nat) : Int)) (by omega) (by omega), w64 (by omega) (by omega)]
        omega
      rw [up64 n7 (by omega)]
      refine ⟨⟨n7 + 1, _, _, rfl, rfl, by omega, rfl, ?_, he, ho, by omega, ?_, ?_⟩, by simp only [Int.toNat_natCast]; omega⟩
      · rw [snoc_at hit, List.map_append, List.sum_append, ← hp]; simp
      · have hnot : s14 ∉ keys out := fun hm => by rw [getS_iff.2 hm] at hdup; cases hdup
        unfold keys at hnd hnot ⊢
        rw [List.map_append, List.nodup_append]
        refine ⟨hnd, by simp, fun a ha b hb e => ?_⟩
        simp at hb
        rw [← hb, ← e] at hnot
        exact hnot ha
      · rw [hgo]
        congr 1
    rcases cut_cases 61 (bs it) with h61 | ⟨x, y, h61, hx⟩
    · rw [cutS_not h61] at hcutq
      match qs, hcq, hcutq, body with
      | [], _, hcutq, _ => cases hcutq
      | [q], hcq, hcutq, body =>
        have hq : bs q = bs it := by simpa using hcutq
        have hq := bs_inj hq
        subst hq
        obtain ⟨qd, rfl, hqc⟩ := SL_at hcq (a := 0) (s := q) rfl
        exact when_dec ⟨by omega, by simp⟩ ⟨q, hqc, sel_false rfl (body q ByteArray.empty false (item_not h61) (by omega) (by show 0 ≤ _; omega) (by simp))⟩
      | q :: q2 :: r, _, hcutq, _ => simp at hcutq
    · rw [h61, cutS_app hx] at hcutq
      have hxy : x.length + 1 + y.length = it.size := by rw [← hitl, h61]; simp; omega
      match qs, hcq, hcutq, body with
      | [], _, hcutq, _ => cases hcutq
      | [q], _, hcutq, _ =>
        simp only [List.map_cons, List.map_nil, List.cons.injEq] at hcutq
        exact absurd hcutq.2.symm (cutS_ne _ _)
      | q :: q2 :: r, hcq, hcutq, body =>
        simp only [List.map_cons, List.cons.injEq] at hcutq
        have hqs := bs_len q
        have hql : q.size = x.length := by rw [← hqs, hcutq.1]
        obtain ⟨qd, rfl, hqc⟩ := SL_at hcq (a := 0) (s := q) rfl
        obtain ⟨ad', h1, hcell2⟩ := SL_at (hc.ext0 x16) hit
        cases h1
        refine when_dec ⟨by omega, by simp; omega⟩ ⟨q, hqc, sel_true (by simp; omega) (when_dec ⟨by omega, by omega⟩ ⟨it, hcell2, ?_⟩)⟩
        have e1 : IntKind.wrap .i64 (((ByteArray.size q : Nat) : Int) + 1) = ((q.size + 1 : Nat) : Int) := by rw [w64 (by omega) (by omega)]; omega
        have hby : bs (it.extract (Int.toNat (IntKind.wrap .i64 (((ByteArray.size q : Nat) : Int) + 1))) it.size) = y := by
          rw [e1, Int.toNat_natCast, bs_ext, h61, hql, show x ++ 61 :: y = (x ++ [61]) ++ y by simp, List.drop_left' (by simp), List.take_of_length_le (by omega)]
        refine when_dec ⟨by rw [e1]; omega, by rw [e1]; omega⟩ (body q (it.extract (Int.toNat (IntKind.wrap .i64 (((ByteArray.size q : Nat) : Int) + 1))) it.size) true ?_ (by omega) ?_ (by simp))
        · exact item_cut1 (by rw [hcutq.1, hby]; exact h61) (by rw [hcutq.1]; exact hx)
        · rw [← bs_len, hby]; omega
  · have hd : (ps.map bs).drop n7 = [] := List.drop_eq_nil_of_le (by rw [List.length_map]; omega)
    rw [hd, parseGo] at hgo
    refine rRise_c own.cells own.len (by omega) hnd fun w35 A33 c33 e35 o35 => ⟨_, _, _, rfl, ?_⟩
    have hh : parseS (bs text) = (sortS out, 0, 0) := by rw [hps, hgo]
    have := k w35 A33 n7 c33 (e11.trans e35) (by rw [hh]; exact o35.weaken e11.size)
    rw [hh] at this; exact this
variable {A : Option Addr} {n c : Nat} {l : List Lab}
theorem rText_c (h : LIn w A n l)
    (k : ∀ w', Ext [] w w' → R (.returned (.tuple #[.string (textS l).1, .int .i64 (textS l).2])) w') : Calls Tryz.prog 72 #[.slice A n c] w R := by
  apply berthref03_Text_nf
  have hl := h.len
  refine rCheck_c h fun w5 e5 => ⟨_, _, rfl, sel_intro (fun hc => ?_) (fun hc => ?_)⟩
  · have hc : (checkS l).2 ≠ 0 := by simpa using hc
    have := k w5 e5
    unfold textS at this
    rw [if_neg hc] at this; exact this
  have hc : (checkS l).2 = 0 := by simpa using hc
  have ok := checkS_zero.1 hc
  have hlen := ok.len
  have hmax := join_max ok
  refine ⟨fun s t w' => ∃ a : Nat, t = a ∧ a ≤ n ∧ Ext [] w w' ∧ bs s = joinT (l.take a), fun s t _ => n - t.toNat, ⟨0, rfl, by omega, e5, rfl⟩, ?_⟩
  rintro s _ _ w7 ⟨a, rfl, ha, e7, hs⟩
  have hsl := bs_len s
  have hcut := join_le (l := l) a
  rw [hs] at hsl
  refine sel_dec (fun hlt => ?_) (fun hge => ?_)
  · obtain ⟨x, hx⟩ : ∃ x, l[a]? = some x := ⟨_, List.getElem?_eq_getElem (by omega)⟩
    obtain ⟨ad, rfl, rd⟩ := lab_cells h.c hx
    obtain ⟨r0, r1, r2⟩ := rd w7 e7
    have hxm := List.mem_of_getElem? hx
    have k1 := key_len (ok.key x hxm)
    have k2 := val_len (ok.val x hxm)
    have b1 := bs_len x.1
    have b2 := bs_len x.2
    have hsz : ByteArray.size ⟨#[61]⟩ = 1 := rfl
    have hsz4 : ByteArray.size ⟨#[44]⟩ = 1 := rfl
    have q3 : ByteArray.size (s ++ ⟨#[44]⟩) = s.size + 1 := by rw [ByteArray.size_append, hsz4]
    have q4 : ByteArray.size (s ++ ⟨#[44]⟩ ++ x.1) = s.size + 1 + x.1.size := by rw [ByteArray.size_append, q3]
    have q5 : ByteArray.size (s ++ ⟨#[44]⟩ ++ x.1 ++ ⟨#[61]⟩) = s.size + 1 + x.1.size + 1 := by rw [ByteArray.size_append, q4, hsz]
    have q6 : ByteArray.size (s ++ x.1) = s.size + x.1.size := ByteArray.size_append
    have q7 : ByteArray.size (s ++ x.1 ++ ⟨#[61]⟩) = s.size + x.1.size + 1 := by rw [ByteArray.size_append, q6, hsz]
    refine sel_dec (fun hp => ?_) (fun hp => ?_)
    · refine when_dec (by omega) (when_dec ⟨by omega, by omega⟩ ⟨_, r0, when_dec (by omega) (when_dec (by omega) (when_dec ⟨by omega, by omega⟩ ⟨_, r1, when_dec (by omega) ?_⟩))⟩)
      rw [up64 a (by omega)]
      refine ⟨⟨a + 1, rfl, by omega, e7.drew, ?_⟩, by simp only [Int.toNat_natCast]; omega⟩
      rw [snoc_at hx, join_snoc _ (fun e => by have := congrArg List.length e; rw [List.length_take, Nat.min_eq_left (by omega)] at this; simp at this; omega), bs_app, bs_app, bs_app, bs_app, hs]
      simp [itemT, bs]
    · have h0 : a = 0 := by omega
      subst h0
      have hs0 : s.size = 0 := by rw [← hsl]; rfl
      refine when_dec ⟨by omega, by omega⟩ ⟨_, r0, when_dec (by omega) (when_dec (by omega) (when_dec ⟨by omega, by omega⟩ ⟨_, r1, when_dec (by omega) ?_⟩))⟩
      rw [up64 0 (by omega)]
      refine ⟨⟨1, rfl, by omega, e7.drew, ?_⟩, by simp only [Int.toNat_natCast]; omega⟩
      rw [snoc_at hx, bs_app, bs_app, bs_app, hs]
      simp [itemT, bs, joinT]
  · rw [List.take_of_length_le (by omega)] at hs
    have hts : textS l = (s, 0) := by
      unfold textS
      rw [if_pos hc, ← hs]; rfl
    have := k w7 e7
    rw [hts] at this; exact this
theorem rDel_c (hc : Cells w A (LbL.flat l)) (hl : l.length = n) (big : n * 32 ≤ 140737488351232) (key : ByteArray)
    (k : ∀ w' A' n' c', Ext [] w w' → LOwn w' w.heap.size A' n' c' (delS l key) → n' ≤ n → R (.returned (.tuple #[.slice A' n' c', .bool (getS l key).2])) w') : Calls Tryz.prog 39 #[.slice A n c, .string key] w R := by
  apply berthref03_Del_nf
  refine rFind_c hc hl big key ⟨_, rfl, rwithout_c hc hl big key fun w8 A6 n6 c6 e8 o8 hle => ⟨_, _, _, rfl, ?_⟩⟩
  have : decide (findS l key 0 ≥ 0) = (getS l key).2 := by
    rcases find_get l key with h | h
    · rw [h.1, decide_eq_true (by omega)]
    · rw [h.1, decide_eq_false (by omega)]
  rw [this]
  exact k w8 A6 n6 c6 e8 o8 hle
theorem rPut_c (h : LIn w A n l) {key value : ByteArray}
    (k : ∀ w' A' n' c', Ext [] w w' → LOwn w' w.heap.size A' n' c' (putS l key value).1 → R (.returned (.tuple #[.slice A' n' c', .int .i64 (putS l key value).2])) w') : Calls Tryz.prog 38 #[.slice A n c, .string key, .string value] w R := by
  apply berthref03_Put_nf
  have hl := h.len
  have bad : ∀ {w' : World} {e : Int}, Ext [] w w' → putS l key value = ([], e) → R (.returned (.tuple #[.slice none 0 0, .int .i64 e])) w' := fun {w' e} ew he => by
    have := k w' none 0 0 ew (by rw [he]; exact LstL.nil _ _ _)
    rw [he] at this; exact this
  refine rCheck_c h fun w7 e7 => ⟨_, _, rfl, rIsKey_c key fun w10 e10 => ⟨_, rfl, rIsValue_c value ⟨_, rfl, rFind_c (h.ext0 (e7.trans e10)).c hl h.big key ⟨_, rfl, ?_⟩⟩⟩⟩
  have e10' := e7.trans e10
  refine sel_intro (fun hc => ?_) (fun hc => ?_)
  · have hc : (checkS l).2 ≠ 0 := by simpa using hc
    exact bad e10' (by unfold putS; rw [if_pos hc])
  have hc : (checkS l).2 = 0 := by simpa using hc
  have ok := checkS_zero.1 hc
  have hll := ok.len
  refine sel_intro (fun hkk => bad e10' (by unfold putS; rw [if_neg (by simpa using hc), if_pos (nf_ hkk)])) (fun hkk => sel_intro (fun hv => bad e10' (by unfold putS; rw [if_neg (by simpa using hc), if_neg (by simp [nt_ hkk]), if_pos (nf_ hv)])) (fun hv => ?_))
  have hkk := nt_ hkk
  have hv := nt_ hv
  have good : ¬ ((getS l key).2 = false ∧ l.length = 32) → (Calls Tryz.prog 60 #[(Value.slice A n c), (Value.string key)] w10 fun e18 w19 =>
  ∃ A17, ∃ A17l, ∃ A17c, e18 = Ending.returned (Value.slice A17 A17l A17c) ∧
  ∀ w20, w20 = (World.alloc w19 (.cells #[(Value.string key), (Value.string value)] 40)) →
  ∃ A21, ∃ A21l, ∃ A21c, ∃ w22, Sem.run Tryz.prog (Builtin.append_ #[22, 22] 22 #[(Value.slice A17 A17l A17c), (Value.slice (some ⟨Array.size (World.heap w19), 0, none⟩) 1 1)]) w20 = .ok (Value.slice A21 A21l A21c) w22 ∧
  Calls Tryz.prog 57 #[(Value.slice A21 A21l A21c)] w22 fun e24 w25 =>
  ∃ A23, ∃ A23l, ∃ A23c, e24 = Ending.returned (Value.slice A23 A23l A23c) ∧
  R (Ending.returned (Value.tuple #[(Value.slice A23 A23l A23c), (Value.int .i64 0)])) w25) := by
    intro hg
    refine rwithout_c (h.ext0 e10').c hl h.big key fun w17 A14 n14 c14 e17 o17 hle => ⟨_, _, _, rfl, fun w18 h18 => ?_⟩
    obtain ⟨A', c', w2, hr, ho, he, _⟩ := more_lab (e10'.trans e17) (o17.weaken e10'.size) h18 (by omega)
    refine ⟨_, _, _, _, hr, rRise_c ho.cells ho.len (by omega) (put_nodup ok.ris.nodup key value) fun w23 A21 c21 e23 o23 => ⟨_, _, _, rfl, ?_⟩⟩
    have hp : putS l key value = (sortS (delS l key ++ [(key, value)]), 0) := by
      unfold putS
      rw [if_neg (by simpa using hc), if_neg (by simp [hkk]), if_neg (by simp [hv]), if_neg hg]
    have := k w23 A21 (n14 + 1) c21 (he.trans e23) (by rw [hp]; exact o23.weaken he.size)
    rw [hp] at this; exact this
  refine sel_dec (fun hf => sel_dec (fun h32 => bad e10' ?_) (fun h32 => good ?_)) (fun hf => good ?_)
  · have : (getS l key).2 = false := by
      rcases find_get l key with h | h
      · exact absurd h.2 (by omega)
      · exact h.1
    unfold putS
    rw [if_neg (by simpa using hc), if_neg (by simp [hkk]), if_neg (by simp [hv]), if_pos ⟨this, by omega⟩]
  · exact fun hq => h32 (by omega)
  · rintro ⟨h1, _⟩
    rcases find_get l key with h | h
    · rw [h.1] at h1; cases h1
    · exact hf h.2
end
end Go.Proofs.YtcohengppaighaaGreatDoor
