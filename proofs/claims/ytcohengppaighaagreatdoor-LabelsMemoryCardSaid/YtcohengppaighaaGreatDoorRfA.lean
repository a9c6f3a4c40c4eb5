/- Labels, the document's answer: names, keys, values. Labels, the document's answer: Find, Check, Rise, Make, Get, without, Same, Copy. Labels, the document's answer: Parse, Text, Put, Del. Labels, the document's answer: Diff, Patch. Labels, the document's answer: Patch. -/
import Derived.Test.YtcohengppaighaaGreatDoorLb10
set_option linter.unusedVariables false
set_option linter.unusedSimpArgs false
namespace Go.Proofs.YtcohengppaighaaGreatDoor
open Go Go.V Go.B

theorem rlow_c (c : Int) {w : World} {R : Ending → World → Prop} (k : R (.returned (.bool (lowB c))) w) : Calls Tryz.prog 120 #[.int .u8 c] w R := by
  apply berthref03_low_nf
  unfold lowB at k
  refine sel_dec (fun h1 => sel_dec (fun h2 => ?_) (fun h2 => sel_dec (fun h3 => ?_) (fun h3 => ?_))) (fun h1 => sel_dec (fun h3 => ?_) (fun h3 => ?_))
  · rw [decide_eq_true (.inl ⟨h1, h2⟩)] at k; exact k
  · rw [decide_eq_false (by omega)] at k; rw [decide_eq_false (by omega)]; exact k
  · omega
  · by_cases h : c ≤ 57
    · rw [decide_eq_true (.inr ⟨h3, h⟩)] at k; rw [decide_eq_true h]; exact k
    · rw [decide_eq_false (by omega)] at k; rw [decide_eq_false h]; exact k
  · rw [decide_eq_false (by omega)] at k; exact k
theorem rword_c (c : Int) {w : World} {R : Ending → World → Prop} (k : R (.returned (.bool (wordB c))) w) : Calls Tryz.prog 86 #[.int .u8 c] w R := by
  apply berthref03_word_nf
  unfold wordB at k
  refine rlow_c c ⟨_, rfl, sel_intro (fun h => ?_) (fun h => sel_dec (fun h1 => ?_) (fun h1 => ?_))⟩
  · rw [h] at k; exact k
  · rw [h, Bool.false_or] at k
    by_cases h2 : c ≤ 90
    · rw [decide_eq_true ⟨h1, h2⟩] at k; rw [decide_eq_true h2]; exact k
    · rw [decide_eq_false (by omega)] at k; rw [decide_eq_false h2]; exact k
  · rw [h, Bool.false_or, decide_eq_false (by omega)] at k; exact k
theorem rinner_c (c : Int) {w : World} {R : Ending → World → Prop} (k : R (.returned (.bool (innerB c))) w) : Calls Tryz.prog 85 #[.int .u8 c] w R := by
  apply berthref03_inner_nf
  unfold innerB at k
  refine rword_c c ⟨_, rfl, sel_intro (fun h => ?_) (fun h => ?_)⟩
  · rw [h] at k; exact k
  rw [h, Bool.false_or] at k
  refine sel_intro (fun h1 => ?_) (fun h1 => sel_intro (fun h2 => ?_) (fun h2 => ?_))
  · have h1 : c = 45 := by simpa using h1
    rw [decide_eq_true (.inl h1)] at k; exact k
  · have h2 : c = 95 := by simpa using h2
    rw [decide_eq_true (.inr (.inl h2))] at k; exact k
  · have h1 : c ≠ 45 := by simpa using h1
    have h2 : c ≠ 95 := by simpa using h2
    by_cases h3 : c = 46
    · rw [decide_eq_true (.inr (.inr h3))] at k
      rw [h3]; exact k
    · rw [decide_eq_false (by omega)] at k
      rw [show (c == 46) = false by simpa using h3]; exact k
theorem bs_ext (s : ByteArray) (a b : Nat) : bs (s.extract a b) = ((bs s).drop a).take (b - a) := by
  show (s.extract a b).data.toList = _
  simp only [ByteArray.data_extract, Array.toList_extract, List.extract_eq_take_drop]
  rfl
theorem infoS : (Tryz.prog.info? 9).map (fun i => (i.zero, i.size, i.bytes)) = some (some (.string ByteArray.empty), 1, 16) := by kernel_rfl
theorem more_str {w W w18 : World} {A : Option Addr} {n c : Nat} {l : List ByteArray} {x : ByteArray} (e : Ext [] w W) (own : LstL SL W w.heap.size 9 A n c l) (h18 : w18 = W.alloc (.cells #[.string x] 9)) (hn : (n + 1) * 16 ≤ 140737488355328) :
    ∃ A' c' w2, (Builtin.append_ #[50, 50] 50 #[.slice A n c, .slice (some ⟨W.heap.size, 0, none⟩) 1 1]).run Tryz.prog w18 = .ok (.slice A' (n + 1) c') w2 ∧ LstL SL w2 w.heap.size 9 A' (n + 1) c' (l ++ [x]) ∧ Ext [] w w2 := by
  obtain ⟨b18, x18, z18⟩ := box_new h18
  have e18 := e.trans x18
  obtain ⟨A', c', w2, hr, ho, he, hat⟩ := LstL.more (P := Tryz.prog) (t := 50) (ty := 50) (x := x) (by exact Tryz.underlying50) infoS rfl (by decide) (own.ext0 x18) b18 e18.size hn
  exact ⟨A', c', w2, hr, ho, Ext.old e18 (fun b hb => (own.fresh b hb).1) he⟩
theorem cutS_len (c : UInt8) (l : List UInt8) : (cutS c l).length ≤ l.length + 1 := by
  induction l with
  | nil => simp [cutS]
  | cons x r ih =>
    unfold cutS
    split
    · simp; omega
    · split
      · simp
      · rename_i p qs hq
        rw [hq] at ih
        simp at ih ⊢; omega
theorem cutS_sub (c : UInt8) : ∀ (l : List UInt8), ∀ q ∈ cutS c l, q.length ≤ l.length := by
  intro l
  induction l with
  | nil => intro q hq; simp [cutS] at hq; subst hq; simp
  | cons x r ih =>
    intro q hq
    unfold cutS at hq
    split at hq
    · rcases List.mem_cons.1 hq with rfl | hq
      · simp
      · have := ih q hq; simp; omega
    · split at hq
      · simp at hq; subst hq; simp
      · rename_i u us hu
        rw [hu] at ih
        rcases List.mem_cons.1 hq with rfl | hq
        · have := ih u (by simp); simp; omega
        · have := ih q (by simp [hq]); simp; omega
/-- cut: the text at each byte c. -/
theorem rcut_c (s : ByteArray) (c : UInt8) {w : World} (hs : s.size ≤ 8192) {R : Ending → World → Prop}
    (k : ∀ w' A c' (ps : List ByteArray), Ext [] w w' → Cells w' A (SL.flat ps) → ps.map bs = cutS c (bs s) → R (.returned (.slice A ps.length c')) w') : Calls Tryz.prog 58 #[.string s, .int .u8 (c.toNat : Int)] w R := by
  apply berthref03_cut_nf
  have hl := bs_len s
  refine ⟨fun A n c' f t w' => ∃ (a b : Nat) (ps : List ByteArray), f = b ∧ t = a ∧ b ≤ a ∧ a ≤ s.size ∧ Ext [] w w' ∧ LstL SL w' w.heap.size 9 A n c' ps ∧ n ≤ a ∧ c ∉ ((bs s).drop b).take (a - b) ∧ ps.map bs ++ cutS c ((bs s).drop b) = cutS c (bs s), fun _ _ _ _ t _ => s.size - t.toNat,
    ⟨0, 0, [], rfl, rfl, by omega, by omega, Ext.refl _ _, LstL.nil _ _ _, by omega, by simp, rfl⟩, ?_⟩
  rintro A n c' _ _ _ w9 ⟨a, b, ps, rfl, rfl, hba, ha, e9, own, hn, hno, hcut⟩
  have hol := own.len
  refine sel_dec (fun hlt => when_dec ⟨by omega, by omega⟩ ?_) (fun hge => ?_)
  · obtain ⟨d, hd, hb⟩ := byte_get (s := s) (i := a) (by omega)
    have hd2 : ((bs s).drop b)[a - b]? = some d := by rw [List.getElem?_drop, ← hd]; congr 1; omega
    rw [hb]
    refine sel_intro (fun he => ?_) (fun he => ?_)
    · have he : (d.toNat : Int) = (c.toNat : Int) := by simpa using he
      have he : d = c := UInt8.toNat_inj.1 (by omega)
      subst he
      refine when_dec ⟨by omega, by omega⟩ (when_dec ⟨by omega, by omega⟩ fun w10 h10 => ?_)
      obtain ⟨A', c2, w2, hr, ho, he⟩ := more_str e9 own h10 (by omega)
      refine ⟨_, _, _, _, hr, ?_⟩
      rw [up64 a (by omega)]
      refine ⟨⟨a + 1, a + 1, _, rfl, rfl, by omega, by omega, he, ho, by omega, by simp, ?_⟩, by simp only [Int.toNat_natCast]; omega⟩
      have hsplit : (bs s).drop b = ((bs s).drop b).take (a - b) ++ d :: (bs s).drop (a + 1) := by
        obtain ⟨g1, g2⟩ := List.getElem?_eq_some_iff.1 hd2
        conv => lhs; rw [← List.take_append_drop (a - b) ((bs s).drop b)]
        rw [List.drop_eq_getElem_cons g1, g2, List.drop_drop, show b + (a - b + 1) = a + 1 by omega]
      rw [hsplit, cutS_app hno] at hcut
      rw [← hcut, List.map_append, List.append_assoc, List.map_cons, List.map_nil, bs_ext]
      simp only [Int.toNat_natCast, List.cons_append, List.nil_append]
    · have he : (d.toNat : Int) ≠ (c.toNat : Int) := by simpa using he
      rw [up64 a (by omega)]
      refine ⟨⟨a + 1, b, ps, rfl, rfl, by omega, by omega, e9, own, by omega, ?_, hcut⟩, by simp only [Int.toNat_natCast]; omega⟩
      rw [show a + 1 - b = (a - b) + 1 by omega, snoc_at hd2]
      intro hm
      simp only [List.mem_append, List.mem_singleton] at hm
      rcases hm with hm | rfl
      · exact hno hm
      · exact he rfl
  · have : a = s.size := by omega
    subst this
    refine when_dec ⟨by omega, by omega⟩ fun w13 h13 => ?_
    obtain ⟨A', c2, w2, hr, ho, he⟩ := more_str e9 own h13 (by omega)
    refine ⟨_, _, _, _, hr, ?_⟩
    have hfin := k w2 A' c2 (ps ++ [s.extract (Int.toNat (b : Int)) s.size]) he ho.cells ?_
    · rw [List.length_append, hol] at hfin; exact hfin
    · rw [List.take_of_length_le (by simp; omega)] at hno
      rw [cutS_not hno] at hcut
      rw [← hcut, List.map_append, List.map_cons, List.map_nil, bs_ext, Int.toNat_natCast, List.take_of_length_le (by simp; omega)]
theorem last_ix' {s : ByteArray} (h : 1 ≤ s.size) (h2 : s.size ≤ 8192) : IntKind.wrap .i64 (((s.size : Nat) : Int) - 1) = ((s.size - 1 : Nat) : Int) := by rw [w64 (by omega) (by omega)]; omega
theorem size_pos {s : ByteArray} (h : (ByteArray.toList s == ByteArray.toList ByteArray.empty) = false) : 1 ≤ s.size := by
  rw [beqBytes, decide_eq_false_iff_not] at h
  rcases Nat.lt_or_ge s.size 1 with h0 | h0
  · exact absurd (bs_inj (by rw [bs_nil h0]; rfl)) h
  · exact h0
theorem rpart_c (s : ByteArray) (hs : s.size ≤ 8192) {w : World} {R : Ending → World → Prop} (k : R (.returned (.bool (partS (bs s)))) w) : Calls Tryz.prog 91 #[.string s] w R := by
  apply berthref03_part_nf
  have hl := bs_len s
  have no : partS (bs s) = false → R (.returned (.bool false)) w := fun h => by rw [h] at k; exact k
  refine sel_intro (fun h => no ?_) (fun h => ?_)
  · rw [beqBytes, decide_eq_true_eq] at h
    subst h; rfl
  have hpos := size_pos h
  have hh := byte_head hpos
  have hla := byte_last hpos
  rw [last_ix' hpos hs, hh, hla]
  refine ⟨fun t w' => ∃ a : Nat, t = a ∧ a ≤ s.size ∧ w' = w ∧ ∀ x ∈ (bs s).take a, (lowU x || x == 45) = true, fun t _ => s.size - t.toNat, ⟨0, rfl, by omega, rfl, by simp⟩, ?_⟩
  rintro _ _ _ ⟨a, rfl, ha, rfl, hin⟩
  refine sel_dec (fun hlt => ?_) (fun hge => ?_)
  · obtain ⟨c, hcc, hb3⟩ := byte_get (s := s) (i := a) (by omega)
    rw [hb3]
    refine when_dec ⟨by omega, by omega⟩ (rlow_c _ ⟨_, rfl, ?_⟩)
    rw [up64 a (by omega)]
    refine sel_intro (fun hb4 => when_dec ⟨by omega, by omega⟩ (sel_intro (fun h45 => no ?_) (fun h45 => ?_))) (fun hb4 => ?_)
    · have f1 : lowU c = false := nf_ hb4
      have f2 : (c == 45) = false := by
        rw [beq_eq_false_iff_ne]
        intro e3
        rw [e3] at h45
        exact absurd h45 (by decide)
      unfold partS; rw [all_no hcc (p := fun c => lowU c || c == 45) (by rw [f1, f2]; rfl)]; simp
    · have e3 : (c.toNat : Int) = 45 := by simpa using h45
      have e4 : c = 45 := UInt8.toNat_inj.1 (by show _ = 45; omega)
      exact ⟨⟨a + 1, rfl, by omega, rfl, all_more hcc (by rw [e4]; simp) hin⟩, by simp only [Int.toNat_natCast]; omega⟩
    · exact ⟨⟨a + 1, rfl, by omega, rfl, all_more hcc (by rw [show lowU c = true from nt_ hb4]; rfl) hin⟩, by simp only [Int.toNat_natCast]; omega⟩
  · have hall := all_yes (l := bs s) (p := fun c => lowU c || c == 45) (i := a) (by omega) hin
    refine when_dec ⟨by omega, by omega⟩ (rlow_c _ ⟨_, rfl, sel_intro (fun hb => when_dec ⟨by omega, by omega⟩ (rlow_c _ ⟨_, rfl, ?_⟩)) (fun hb => no ?_)⟩)
    · have e : partS (bs s) = lowU ((bs s).getLastD 0) := by
        unfold partS
        rw [hall, decide_eq_true (bs_ne hpos), show lowU ((bs s).headD 0) = true from hb]; simp
      rw [e] at k; exact k
    · unfold partS; rw [show lowU ((bs s).headD 0) = false from hb]; simp
theorem rIsName_c (s : ByteArray) {w : World} {R : Ending → World → Prop} (k : ∀ w', Ext [] w w' → R (.returned (.bool (nameS (bs s)))) w') : Calls Tryz.prog 64 #[.string s] w R := by
  apply berthref03_IsName_nf
  have hl := bs_len s
  have no : nameS (bs s) = false → ∀ w', Ext [] w w' → R (.returned (.bool false)) w' := fun h w' e => by have := k w' e; rw [h] at this; exact this
  refine sel_dec (fun h => no (by unfold nameS; rw [decide_eq_false (show ¬ (bs s).length ≤ 63 by omega)]; rfl) w (Ext.refl _ _)) (fun h2 => ?_)
  refine rcut_c s 46 (by omega) fun w4 A c4 ps e4 hc hps => ⟨_, _, _, rfl, ?_⟩
  have hpl : ps.length ≤ 64 := by
    have h3 := cutS_len 46 (bs s)
    rw [← hps, List.length_map] at h3
    omega
  refine ⟨fun t w' => ∃ a : Nat, t = a ∧ a ≤ ps.length ∧ w' = w4 ∧ ∀ p ∈ ps.take a, partS (bs p) = true, fun t _ => ps.length - t.toNat, ⟨0, rfl, by omega, rfl, by simp⟩, ?_⟩
  rintro _ _ _ ⟨a, rfl, ha, rfl, hall⟩
  refine sel_dec (fun hlt => when_dec ⟨by omega, by omega⟩ ?_) (fun hge => ?_)
  · obtain ⟨p, hp⟩ : ∃ p, ps[a]? = some p := ⟨_, List.getElem?_eq_getElem (by omega)⟩
    obtain ⟨ad, rfl, hcell⟩ := SL_at hc hp
    have hm : bs p ∈ cutS 46 (bs s) := by rw [← hps]; exact List.mem_map_of_mem (List.mem_of_getElem? hp)
    have hp63 := cutS_sub 46 _ _ hm
    have hpl2 := bs_len p
    refine ⟨p, hcell, rpart_c p (by omega) ⟨_, rfl, sel_intro (fun hb => no ?_ _ e4) (fun hb => ?_)⟩⟩
    · unfold nameS
      rw [← hps]
      have : (ps.map bs).all partS = false := by
        rw [Bool.eq_false_iff]
        intro ha
        have := List.all_eq_true.1 ha (bs p) (List.mem_map_of_mem (List.mem_of_getElem? hp))
        rw [nf_ hb] at this; cases this
      rw [this]; simp
    · rw [up64 a (by omega)]
      refine ⟨⟨a + 1, rfl, by omega, rfl, fun q hq => ?_⟩, by simp only [Int.toNat_natCast]; omega⟩
      rw [snoc_at hp] at hq
      simp only [List.mem_append, List.mem_singleton] at hq
      rcases hq with hq | rfl
      · exact hall q hq
      · exact nt_ hb
  · have : nameS (bs s) = true := by
      unfold nameS
      rw [← hps, decide_eq_true (show (bs s).length ≤ 63 by omega), Bool.true_and, List.all_map]
      rw [List.take_of_length_le (by omega)] at hall
      exact List.all_eq_true.2 hall
    have h3 := k _ e4
    rw [this] at h3; exact h3
theorem rshort_c (s : ByteArray) {w : World} {R : Ending → World → Prop} (k : R (.returned (.bool (shortS (bs s)))) w) : Calls Tryz.prog 84 #[.string s] w R := by
  apply berthref03_short_nf
  have hl := bs_len s
  have no : shortS (bs s) = false → R (.returned (.bool false)) w := fun h => by rw [h] at k; exact k
  refine sel_intro (fun h => no ?_) (fun h => sel_dec (fun h => no (by unfold shortS; rw [decide_eq_false (show ¬ (bs s).length ≤ 63 by omega)]; simp)) (fun h2 => ?_))
  · rw [beqBytes, decide_eq_true_eq] at h
    subst h; rfl
  have hpos := size_pos h
  have hh := byte_head hpos
  have hla := byte_last hpos
  rw [last_ix' hpos (by omega), hh, hla]
  refine ⟨fun t w' => ∃ a : Nat, t = a ∧ a ≤ s.size ∧ w' = w ∧ ∀ x ∈ (bs s).take a, innerU x = true, fun t _ => s.size - t.toNat, ⟨0, rfl, by omega, rfl, by simp⟩, ?_⟩
  rintro _ _ _ ⟨a, rfl, ha, rfl, hall⟩
  refine sel_dec (fun hlt => ?_) (fun hge => ?_)
  · obtain ⟨c, hc, hb⟩ := byte_get (s := s) (i := a) (by omega)
    rw [hb]
    refine when_dec ⟨by omega, by omega⟩ (rinner_c _ ⟨_, rfl, sel_intro (fun hi => no ?_) (fun hi => ?_)⟩)
    · have : innerU c = false := nf_ hi
      unfold shortS; rw [all_no hc this]; simp
    · have : innerU c = true := nt_ hi
      rw [up64 a (by omega)]
      exact ⟨⟨a + 1, rfl, by omega, rfl, all_more hc this hall⟩, by simp only [Int.toNat_natCast]; omega⟩
  · have hin := all_yes (l := bs s) (p := innerU) (i := a) (by omega) hall
    refine when_dec ⟨by omega, by omega⟩ (rword_c _ ⟨_, rfl, sel_intro (fun hb => when_dec ⟨by omega, by omega⟩ (rword_c _ ⟨_, rfl, ?_⟩)) (fun hb => no ?_)⟩)
    · have e : shortS (bs s) = wordU ((bs s).getLastD 0) := by
        unfold shortS
        rw [hin, decide_eq_true (bs_ne hpos), decide_eq_true (show (bs s).length ≤ 63 by omega), show wordU ((bs s).headD 0) = true from hb]; simp
      rw [e] at k; exact k
    · unfold shortS; rw [show wordU ((bs s).headD 0) = false from hb]; simp
theorem rIsValue_c (s : ByteArray) {w : World} {R : Ending → World → Prop} (k : R (.returned (.bool (valS (bs s)))) w) : Calls Tryz.prog 55 #[.string s] w R := by
  apply berthref03_IsValue_nf
  have hl := bs_len s
  refine sel_intro (fun h => ?_) (fun h => ?_)
  · rw [beqBytes, decide_eq_true_eq] at h
    subst h; exact k
  have hpos := size_pos h
  have hn := bs_ne hpos
  have no : valS (bs s) = false → R (.returned (.bool false)) w := fun h => by rw [h] at k; exact k
  refine sel_dec (fun h => no (by unfold valS; rw [decide_eq_false hn, decide_eq_false (show ¬ (bs s).length ≤ 63 by omega)]; simp)) (fun h2 => ?_)
  have hh := byte_head hpos
  have hla := byte_last hpos
  rw [last_ix' hpos (by omega), hh, hla]
  refine ⟨fun t w' => ∃ a : Nat, t = a ∧ a ≤ s.size ∧ w' = w ∧ ∀ x ∈ (bs s).take a, innerU x = true, fun t _ => s.size - t.toNat, ⟨0, rfl, by omega, rfl, by simp⟩, ?_⟩
  rintro _ _ _ ⟨a, rfl, ha, rfl, hall⟩
  refine sel_dec (fun hlt => ?_) (fun hge => ?_)
  · obtain ⟨c, hc, hb⟩ := byte_get (s := s) (i := a) (by omega)
    rw [hb]
    refine when_dec ⟨by omega, by omega⟩ (rinner_c _ ⟨_, rfl, sel_intro (fun hi => no ?_) (fun hi => ?_)⟩)
    · have : innerU c = false := nf_ hi
      unfold valS; rw [all_no hc this, decide_eq_false hn]; simp
    · have : innerU c = true := nt_ hi
      rw [up64 a (by omega)]
      exact ⟨⟨a + 1, rfl, by omega, rfl, all_more hc this hall⟩, by simp only [Int.toNat_natCast]; omega⟩
  · have hin := all_yes (l := bs s) (p := innerU) (i := a) (by omega) hall
    have e : valS (bs s) = ((wordU ((bs s).headD 0) || (bs s).headD 0 == 45) && wordU ((bs s).getLastD 0)) := by
      unfold valS
      rw [hin, decide_eq_false hn, decide_eq_true (show (bs s).length ≤ 63 by omega)]; simp
    rw [e] at k
    refine when_dec ⟨by omega, by omega⟩ (rword_c _ ⟨_, rfl, sel_intro (fun hb => when_dec ⟨by omega, by omega⟩ (rword_c _ ⟨_, rfl, ?_⟩)) (fun hb => when_dec ⟨by omega, by omega⟩ (sel_intro (fun h45 => when_dec ⟨by omega, by omega⟩ (rword_c _ ⟨_, rfl, ?_⟩)) (fun h45 => ?_)))⟩)
    · rw [show wordU ((bs s).headD 0) = true from hb] at k; exact k
    · have e3 : (((bs s).headD 0).toNat : Int) = 45 := by simpa using h45
      have e4 : (bs s).headD 0 = 45 := UInt8.toNat_inj.1 (by show _ = 45; omega)
      rw [e4] at k
      have e5 : (wordU 45 || (45 : UInt8) == 45) = true := by decide
      rw [e5, Bool.true_and] at k
      exact k
    · have f1 : wordU ((bs s).headD 0) = false := hb
      have f2 : ((bs s).headD 0 == 45) = false := by
        rw [beq_eq_false_iff_ne]
        intro e3
        rw [e3] at h45
        exact absurd h45 (by decide)
      rw [f1, f2] at k; exact k
theorem rIsKey_c (s : ByteArray) {w : World} {R : Ending → World → Prop} (k : ∀ w', Ext [] w w' → R (.returned (.bool (keyS (bs s)))) w') : Calls Tryz.prog 54 #[.string s] w R := by
  apply berthref03_IsKey_nf
  have hl := bs_len s
  refine sel_dec (fun h => ?_) (fun h => ?_)
  · have := k w (Ext.refl _ _)
    have e : keyS (bs s) = false := by
      rw [Bool.eq_false_iff]
      intro hk
      have := key_len hk
      omega
    rw [e] at this; exact this
  refine rcut_c s 47 (by omega) fun w4 A c4 ps e4 hc hps => ⟨_, _, _, rfl, ?_⟩
  rw [key_pieces, ← hps] at k
  match ps, hc, hps, k with
  | [], _, hps, _ => exact absurd hps.symm (cutS_ne _ _)
  | [a], hc, hps, k =>
    obtain ⟨ad, rfl, hcell⟩ := SL_at hc (a := 0) (s := a) rfl
    exact sel_true rfl (when_dec ⟨by omega, by simp⟩ ⟨a, hcell, rshort_c a ⟨_, rfl, k w4 e4⟩⟩)
  | [a, b], hc, hps, k =>
    obtain ⟨ad, rfl, hcell⟩ := SL_at hc (a := 0) (s := a) rfl
    refine sel_false rfl (sel_true rfl (when_dec ⟨by omega, by simp⟩ ⟨a, hcell, rIsName_c a fun w14 e14 => ⟨_, rfl, sel_intro (fun hn => ?_) (fun hn => ?_)⟩⟩))
    · obtain ⟨ad', h1, hcell'⟩ := SL_at (hc.ext0 e14) (a := 1) (s := b) rfl
      cases h1
      have := k w14 (e4.trans e14)
      refine when_dec ⟨by omega, by simp⟩ ⟨b, hcell', rshort_c b ⟨_, rfl, ?_⟩⟩
      simp only [List.map_cons, List.map_nil, hn, Bool.true_and] at this
      exact this
    · have := k w14 (e4.trans e14)
      simp only [List.map_cons, List.map_nil, hn, Bool.false_and] at this
      exact this
  | a :: b :: d :: r, hc, hps, k =>
    refine sel_false ?_ (sel_false ?_ (k w4 e4))
    · simp; omega
    · simp; omega
end Go.Proofs.YtcohengppaighaaGreatDoor
namespace Go.Proofs.YtcohengppaighaaGreatDoor
open Go Go.V Go.B

/-- The place of the first label with this key. -/
def findS : List Lab → ByteArray → Nat → Int
  | [], _, _ => -1
  | x :: r, k, i => if x.1 = k then (i : Int) else findS r k (i + 1)
theorem find_cases : ∀ (l : List Lab) (k : ByteArray) (i : Nat), (findS l k i = -1 ∧ k ∉ keys l) ∨ (∃ a x, findS l k i = ((i + a : Nat) : Int) ∧ l[a]? = some x ∧ x.1 = k ∧ getS l k = (x.2, true) ∧ k ∉ keys (l.take a))
  | [], k, i => .inl ⟨rfl, by simp [keys]⟩
  | x :: r, k, i => by
    unfold findS
    by_cases h : x.1 = k
    · rw [if_pos h]
      exact .inr ⟨0, x, rfl, rfl, h, by rw [getS, if_pos h], by simp [keys]⟩
    · rw [if_neg h]
      rcases find_cases r k (i + 1) with ⟨h1, h2⟩ | ⟨a, y, h1, h2, h3, h4, h5⟩
      · refine .inl ⟨h1, ?_⟩
        unfold keys at h2 ⊢
        rw [List.map_cons, List.mem_cons]
        rintro (h0 | h0)
        · exact h h0.symm
        · exact h2 h0
      · refine .inr ⟨a + 1, y, by rw [h1, show i + 1 + a = i + (a + 1) by omega], by simpa using h2, h3, by rw [getS, if_neg h]; exact h4, ?_⟩
        unfold keys at h5 ⊢
        rw [List.take_succ_cons, List.map_cons, List.mem_cons]
        rintro (h0 | h0)
        · exact h h0.symm
        · exact h5 h0
theorem mem_take {l : List Lab} {a j : Nat} {x : Lab} (h : l[j]? = some x) (hj : j < a) : x.1 ∈ keys (l.take a) := by
  refine mem_keys.2 ⟨x, List.mem_of_getElem? (i := j) ?_, rfl⟩
  rw [List.getElem?_take, if_pos hj]; exact h
section
variable {w : World} {A : Option Addr} {n c : Nat} {l : List Lab} {R : Ending → World → Prop}
theorem rFind_c (hc : Cells w A (LbL.flat l)) (hl : l.length = n) (big : n * 32 ≤ 140737488351232) (key : ByteArray)
    (k : R (.returned (.int .i64 (findS l key 0))) w) : Calls Tryz.prog 56 #[.slice A n c, .string key] w R := by
  apply berthref03_Find_nf
  refine ⟨fun t w' => ∃ a : Nat, t = a ∧ a ≤ n ∧ w' = w ∧ findS l key 0 = findS (l.drop a) key a, fun t _ => n - t.toNat, ⟨0, rfl, by omega, rfl, rfl⟩, ?_⟩
  rintro _ _ _ ⟨a, rfl, ha, rfl, hg⟩
  refine sel_dec (fun hlt => ?_) (fun hge => ?_)
  · obtain ⟨x, hx⟩ : ∃ x, l[a]? = some x := ⟨_, List.getElem?_eq_getElem (by omega)⟩
    obtain ⟨ad, rfl, rd⟩ := lab_cells hc hx
    rw [drop_at hx, findS] at hg
    refine when_dec ⟨by omega, by omega⟩ ⟨_, (rd _ (Ext.refl _ _)).1, sel_intro (fun h => ?_) (fun h => ?_)⟩
    · rw [beqBytes, decide_eq_true_eq] at h
      rw [if_pos h] at hg
      rw [hg] at k; exact k
    · rw [beqBytes, decide_eq_false_iff_not] at h
      rw [if_neg h] at hg
      rw [up64 a (by omega)]
      exact ⟨⟨a + 1, rfl, by omega, rfl, hg⟩, by simp only [Int.toNat_natCast]; omega⟩
  · rw [List.drop_eq_nil_of_le (by omega), findS] at hg
    rw [hg] at k; exact k
theorem rGet_c (hc : Cells w A (LbL.flat l)) (hl : l.length = n) (big : n * 32 ≤ 140737488351232) (key : ByteArray)
    (k : R (.returned (.tuple #[.string (getS l key).1, .bool (getS l key).2])) w) : Calls Tryz.prog 62 #[.slice A n c, .string key] w R := by
  apply berthref03_Get_nf
  refine rFind_c hc hl big key ⟨_, rfl, ?_⟩
  rcases find_cases l key 0 with ⟨h1, h2⟩ | ⟨a, x, h1, h2, h3, h4, h5⟩
  · rw [h1]
    rw [getS_not h2] at k
    exact sel_true rfl k
  · rw [h1, Nat.zero_add]
    obtain ⟨ad, rfl, rd⟩ := lab_cells hc h2
    have hal := (List.getElem?_eq_some_iff.1 h2).1
    rw [h4] at k
    exact sel_dec (fun h => absurd h (by omega)) (fun _ => when_dec ⟨by omega, by omega⟩ ⟨_, (rd _ (Ext.refl _ _)).2.1, k⟩)
theorem rCheck_c (h : LIn w A n l)
    (k : ∀ w', Ext [] w w' → R (.returned (.tuple #[.int .i64 (checkS l).1, .int .i64 (checkS l).2])) w') : Calls Tryz.prog 59 #[.slice A n c] w R := by
  apply berthref03_Check_nf
  have hl := h.len
  have hbig := h.big
  refine sel_dec (fun hgt => ?_) (fun hle => ?_)
  · have := k w (Ext.refl _ _)
    unfold checkS at this
    rw [if_pos (by omega)] at this
    exact this
  have hcs : checkS l = checkGo 0 none l := by unfold checkS; rw [if_neg (by omega)]
  refine ⟨fun t w' => ∃ a : Nat, t = a ∧ a ≤ n ∧ Ext [] w w' ∧ checkS l = checkGo a (prevK l a) (l.drop a), fun t _ => n - t.toNat, ⟨0, rfl, by omega, Ext.refl _ _, hcs⟩, ?_⟩
  rintro _ _ w6 ⟨a, rfl, ha, e6, hg⟩
  refine sel_dec (fun hlt => ?_) (fun hge => ?_)
  · obtain ⟨x, hx⟩ : ∃ x, l[a]? = some x := ⟨_, List.getElem?_eq_getElem (by omega)⟩
    obtain ⟨ad, rfl, rd⟩ := lab_cells h.c hx
    rw [drop_at hx, checkGo] at hg
    have bad : ∀ {e : Int} {w' : World}, badAt (prevK l a) x = e → e ≠ 0 → Ext [] w w' → R (.returned (.tuple #[.int .i64 (a : Int), .int .i64 e])) w' := fun {e w'} he hne ew => by
      rw [if_neg (by rw [he]; exact hne), he] at hg
      have := k w' ew
      rw [hg] at this
      exact this
    have good : ∀ {w' : World}, badAt (prevK l a) x = 0 → Ext [] w w' → (fun t w' => ∃ a : Nat, t = (a : Int) ∧ a ≤ n ∧ Ext [] w w' ∧ checkS l = checkGo a (prevK l a) (l.drop a)) (IntKind.wrap .i64 ((a : Int) + 1)) w' ∧ n - (IntKind.wrap .i64 ((a : Int) + 1)).toNat < n - ((a : Int)).toNat := fun {w'} he ew => by
      rw [if_pos he] at hg
      rw [up64 a (by omega)]
      refine ⟨⟨a + 1, rfl, by omega, ew, ?_⟩, by simp only [Int.toNat_natCast]; omega⟩
      rw [hg]
      have : prevK l (a + 1) = some x.1 := by unfold prevK; rw [if_neg (by omega), Nat.add_sub_cancel, hx]; rfl
      rw [this]; rfl
    refine when_dec ⟨by omega, by omega⟩ ⟨_, (rd w6 e6).1, rIsKey_c x.1 fun w11 e11 => ⟨_, rfl, ?_⟩⟩
    have e11' := e6.trans e11
    refine when_dec ⟨by omega, by omega⟩ ⟨_, (rd w11 e11').2.1, rIsValue_c x.2 ⟨_, rfl, sel_intro (fun hk => bad (by unfold badAt; rw [if_pos (nf_ hk)]) (by decide) e11') (fun hk => sel_intro (fun hv => bad (by unfold badAt; rw [if_neg (by simp [nt_ hk]), if_pos (nf_ hv)]) (by decide) e11') (fun hv => ?_))⟩⟩
    have hk := nt_ hk
    have hv := nt_ hv
    refine sel_dec (fun h0 => ?_) (fun h0 => sel_dec (fun h1 => absurd h1 h0) (fun _ => good ?_ e11'.drew.drew))
    · obtain ⟨y, hy⟩ : ∃ y, l[a - 1]? = some y := ⟨_, List.getElem?_eq_getElem (by omega)⟩
      obtain ⟨ad', hA, ry⟩ := lab_cells h.c hy
      cases hA
      have hp : prevK l a = some y.1 := by unfold prevK; rw [if_neg (by omega), hy]; rfl
      have e1 : IntKind.wrap .i64 ((a : Int) - 1) = ((a - 1 : Nat) : Int) := by rw [w64 (by omega) (by omega)]; omega
      rw [e1]
      refine when_dec ⟨by omega, by omega⟩ ⟨_, (rd w11 e11').1, when_dec ⟨by omega, by omega⟩ ⟨_, (ry w11 e11').1, sel_intro (fun h1 => bad ?_ (by decide) e11'.drew) (fun h1 => sel_dec (fun _ => ?_) (fun h2 => absurd h0 h2))⟩⟩
      · rw [beqBytes, decide_eq_true_eq] at h1
        unfold badAt
        rw [hp]
        simp only [hk, hv, if_pos h1, Bool.true_eq_false, if_false]
      rw [beqBytes, decide_eq_false_iff_not] at h1
      refine when_dec ⟨by omega, by omega⟩ ⟨_, (rd _ e11'.drew).1, when_dec ⟨by omega, by omega⟩ ⟨_, (ry _ e11'.drew).1, sel_intro (fun h3 => bad ?_ (by decide) e11'.drew.drew) (fun h3 => good ?_ e11'.drew.drew)⟩⟩
      · rw [less_iff, decide_eq_true_eq] at h3
        unfold badAt
        rw [hp]
        simp only [hk, hv, if_neg h1, if_pos h3, Bool.true_eq_false, if_false]
      · rw [less_iff, decide_eq_false_iff_not] at h3
        unfold badAt
        rw [hp]
        simp only [hk, hv, if_neg h1, if_neg h3, Bool.true_eq_false, if_false]
    · have hp : prevK l a = none := by unfold prevK; rw [if_pos (by omega)]
      unfold badAt
      rw [hp]
      simp [hk, hv]
  · rw [List.drop_eq_nil_of_le (by omega)] at hg
    have := k w6 e6
    rw [hg] at this
    exact this
theorem rwithout_c (hc : Cells w A (LbL.flat l)) (hl : l.length = n) (big : n * 32 ≤ 140737488351232) (key : ByteArray)
    (k : ∀ w' A' n' c', Ext [] w w' → LOwn w' w.heap.size A' n' c' (delS l key) → n' ≤ n → R (.returned (.slice A' n' c')) w') : Calls Tryz.prog 60 #[.slice A n c, .string key] w R := by
  apply berthref03_without_nf
  refine ⟨fun A' n' c' t w' => ∃ a : Nat, t = a ∧ a ≤ n ∧ Ext [] w w' ∧ n' ≤ a ∧ LOwn w' w.heap.size A' n' c' (delS (l.take a) key), fun _ _ _ t _ => n - t.toNat, ⟨0, rfl, by omega, Ext.refl _ _, by omega, LstL.nil _ _ _⟩, ?_⟩
  rintro A' n' c' _ _ w8 ⟨a, rfl, ha, e8, hn', own⟩
  refine sel_dec (fun hlt => ?_) (fun hge => ?_)
  · obtain ⟨x, hx⟩ : ∃ x, l[a]? = some x := ⟨_, List.getElem?_eq_getElem (by omega)⟩
    obtain ⟨ad, rfl, rd⟩ := lab_cells hc hx
    refine when_dec ⟨by omega, by omega⟩ ⟨_, (rd w8 e8).1, ?_⟩
    rw [up64 a (by omega)]
    refine sel_intro (fun h => when_dec ⟨by omega, by omega⟩ ⟨_, _, (rd w8 e8).2.2, fun w14 h14 => ?_⟩) (fun h => ?_)
    · rw [beqBytes] at h
      have h : x.1 ≠ key := by simpa using h
      obtain ⟨A2, c2, w16, hr, ho, he, _⟩ := more_lab e8 own h14 (by omega)
      refine ⟨_, _, _, _, hr, ⟨a + 1, rfl, by omega, he, by omega, ?_⟩, by simp only [Int.toNat_natCast]; omega⟩
      have : delS (l.take (a + 1)) key = delS (l.take a) key ++ [(x.1, x.2)] := by
        rw [snoc_at hx]; unfold delS; rw [List.filter_append]; simp [h]
      rw [this]; exact ho
    · rw [beqBytes] at h
      have h : x.1 = key := by simpa using h
      refine ⟨⟨a + 1, rfl, by omega, e8, by omega, ?_⟩, by simp only [Int.toNat_natCast]; omega⟩
      have : delS (l.take (a + 1)) key = delS (l.take a) key := by
        rw [snoc_at hx]; unfold delS; rw [List.filter_append]; simp [h]
      rw [this]; exact own
  · rw [List.take_of_length_le (by omega)] at own
    exact k w8 A' n' c' e8 own (by omega)
/-- Does the label stand behind those that were taken? -/
def Over (l : List Lab) (m : Nat) (y : Lab) : Prop := ∀ z, 0 < m → (sortS l)[m - 1]? = some z → bs z.1 < bs y.1
set_option maxHeartbeats 1000000 in
theorem rRise_c (hc : Cells w A (LbL.flat l)) (hl : l.length = n) (big : n * 32 ≤ 140737488351232) (hn : (keys l).Nodup)
    (k : ∀ w' A' c', Ext [] w w' → LOwn w' w.heap.size A' n c' (sortS l) → R (.returned (.slice A' n c')) w') : Calls Tryz.prog 57 #[.slice A n c] w R := by
  apply berthref03_Rise_nf
  have hsl := sortS_len l
  refine ⟨fun A' n' c' w' => n' ≤ n ∧ Ext [] w w' ∧ LOwn w' w.heap.size A' n' c' ((sortS l).take n'), fun _ n' _ _ => n - n', ⟨by omega, Ext.refl _ _, LstL.nil _ _ _⟩, ?_⟩
  rintro A' m c' _ w6 ⟨hm, e6, own⟩
  refine sel_dec (fun hlt => ?_) (fun hge => ?_)
  · refine ⟨fun best t w' => ∃ a : Nat, t = a ∧ a ≤ n ∧ Ext [] w6 w' ∧ ((best = -1 ∧ ∀ j y, j < a → l[j]? = some y → ¬ Over l m y) ∨ ∃ (b : Nat) (x : Lab), best = b ∧ l[b]? = some x ∧ Over l m x ∧ ∀ j y, j < a → l[j]? = some y → Over l m y → ¬ bs y.1 < bs x.1), fun _ t _ => n - t.toNat,
      ⟨0, rfl, by omega, Ext.refl _ _, .inl ⟨rfl, fun j y h => by omega⟩⟩, ?_⟩
    rintro best _ _ w12 ⟨a, rfl, ha, e12, hb⟩
    refine sel_dec (fun hlt2 => ?_) (fun hge2 => ?_)
    · obtain ⟨y, hy⟩ : ∃ y, l[a]? = some y := ⟨_, List.getElem?_eq_getElem (by omega)⟩
      obtain ⟨ad, rfl, rd⟩ := lab_cells hc hy
      have xx := e6.trans e12
      have tail : Over l m y → (V.sel (decide (best < 0))
  ((fun best t w' => ∃ a : Nat, t = (a : Int) ∧ a ≤ n ∧ Ext [] w6 w' ∧ ((best = -1 ∧ ∀ j y, j < a → l[j]? = some y → ¬ Over l m y) ∨ ∃ (b : Nat) (x : Lab), best = (b : Int) ∧ l[b]? = some x ∧ Over l m x ∧ ∀ j y, j < a → l[j]? = some y → Over l m y → ¬ bs y.1 < bs x.1)) (a : Int) (IntKind.wrap .i64 ((a : Int) + 1)) (World.drew (World.drew w12)) ∧ (fun _ t _ => n - Int.toNat t) (a : Int) (IntKind.wrap .i64 ((a : Int) + 1)) (World.drew (World.drew w12)) < (fun _ t _ => n - Int.toNat t) best (a : Int) w12)
  (V.when (decide ((0 : Int) ≤ (a : Int) ∧ ((a : Int) : Int) < ((n : Nat) : Int))) (V.ptr (some ad) fun a17 =>
  ∃ s18, World.cell? (World.drew w12) (Addr.add (Addr.add a17 ((Int.toNat (a : Int)) * 2)) 0) = some (Value.string s18) ∧
  V.when (decide ((0 : Int) ≤ best ∧ (best : Int) < ((n : Nat) : Int))) (V.ptr (some ad) fun a19 =>
  ∃ s20, World.cell? (World.drew w12) (Addr.add (Addr.add a19 ((Int.toNat best) * 2)) 0) = some (Value.string s20) ∧
  V.sel (Op.bytesLess (ByteArray.toList s18) (ByteArray.toList s20))
  ((fun best t w' => ∃ a : Nat, t = (a : Int) ∧ a ≤ n ∧ Ext [] w6 w' ∧ ((best = -1 ∧ ∀ j y, j < a → l[j]? = some y → ¬ Over l m y) ∨ ∃ (b : Nat) (x : Lab), best = (b : Int) ∧ l[b]? = some x ∧ Over l m x ∧ ∀ j y, j < a → l[j]? = some y → Over l m y → ¬ bs y.1 < bs x.1)) (a : Int) (IntKind.wrap .i64 ((a : Int) + 1)) (World.drew (World.drew w12)) ∧ (fun _ t _ => n - Int.toNat t) (a : Int) (IntKind.wrap .i64 ((a : Int) + 1)) (World.drew (World.drew w12)) < (fun _ t _ => n - Int.toNat t) best (a : Int) w12)
  ((fun best t w' => ∃ a : Nat, t = (a : Int) ∧ a ≤ n ∧ Ext [] w6 w' ∧ ((best = -1 ∧ ∀ j y, j < a → l[j]? = some y → ¬ Over l m y) ∨ ∃ (b : Nat) (x : Lab), best = (b : Int) ∧ l[b]? = some x ∧ Over l m x ∧ ∀ j y, j < a → l[j]? = some y → Over l m y → ¬ bs y.1 < bs x.1)) best (IntKind.wrap .i64 ((a : Int) + 1)) (World.drew (World.drew w12)) ∧ (fun _ t _ => n - Int.toNat t) best (IntKind.wrap .i64 ((a : Int) + 1)) (World.drew (World.drew w12)) < (fun _ t _ => n - Int.toNat t) best (a : Int) w12))))) := by
        intro hov
        rw [up64 a (by omega)]
        rcases hb with ⟨rfl, hno⟩ | ⟨b, x, rfl, hx, hox, hle⟩
        · refine sel_true rfl ⟨⟨a + 1, rfl, by omega, e12.drew.drew, .inr ⟨a, y, rfl, hy, hov, fun j z hj hz hoz => ?_⟩⟩, by simp only [Int.toNat_natCast]; omega⟩
          by_cases h : j = a
          · subst h; rw [hy] at hz; cases hz; exact List.lt_irrefl _
          · exact absurd hoz (hno j z (by omega) hz)
        · have hbl := (List.getElem?_eq_some_iff.1 hx).1
          obtain ⟨ad', hA, rx⟩ := lab_cells hc hx
          cases hA
          refine sel_dec (fun h => absurd h (by omega)) (fun _ => when_dec ⟨by omega, by omega⟩ ⟨_, (rd _ xx.drew).1, when_dec ⟨by omega, by omega⟩ ⟨_, (rx _ xx.drew).1, sel_intro (fun h => ?_) (fun h => ?_)⟩⟩)
          · rw [less_iff, decide_eq_true_eq] at h
            refine ⟨⟨a + 1, rfl, by omega, e12.drew.drew, .inr ⟨a, y, rfl, hy, hov, fun j z hj hz hoz hlt => ?_⟩⟩, by simp only [Int.toNat_natCast]; omega⟩
            by_cases h2 : j = a
            · subst h2; rw [hy] at hz; cases hz; exact List.lt_irrefl _ hlt
            · exact hle j z (by omega) hz hoz (List.lt_trans hlt h)
          · rw [less_iff, decide_eq_false_iff_not] at h
            refine ⟨⟨a + 1, rfl, by omega, e12.drew.drew, .inr ⟨b, x, rfl, hx, hox, fun j z hj hz hoz => ?_⟩⟩, by simp only [Int.toNat_natCast]; omega⟩
            by_cases h2 : j = a
            · subst h2; rw [hy] at hz; cases hz; exact h
            · exact hle j z (by omega) hz hoz
      refine sel_dec (fun hm0 => ?_) (fun hm0 => tail fun z h0 => by omega)
      obtain ⟨z, hz⟩ : ∃ z, (sortS l)[m - 1]? = some z := ⟨_, List.getElem?_eq_getElem (by omega)⟩
      have hz2 : ((sortS l).take m)[m - 1]? = some z := by rw [List.getElem?_take, if_pos (by omega)]; exact hz
      obtain ⟨od, rfl, ro⟩ := lab_cells own.cells hz2
      have e1 : IntKind.wrap .i64 ((m : Int) - 1) = ((m - 1 : Nat) : Int) := by rw [w64 (by omega) (by omega)]; omega
      rw [e1]
      refine when_dec ⟨by omega, by omega⟩ ⟨_, (rd _ xx).1, when_dec ⟨by omega, by omega⟩ ⟨_, (ro _ e12).1, sel_intro (fun h => ?_) (fun h => tail fun z' h0 hz' => ?_)⟩⟩
      · rw [less_iff, beqBytes, Bool.or_eq_true, decide_eq_true_eq, decide_eq_true_eq] at h
        have hnov : ¬ Over l m y := fun ho => by
          have := ho z (by omega) hz
          rcases h with h | h
          · exact List.lt_irrefl _ (List.lt_trans h this)
          · rw [h] at this; exact List.lt_irrefl _ this
        rw [up64 a (by omega)]
        refine ⟨⟨a + 1, rfl, by omega, e12.drew, ?_⟩, by simp only [Int.toNat_natCast]; omega⟩
        have ext : ∀ j z', j < a + 1 → l[j]? = some z' → Over l m z' → j < a := fun j z' hj hz' ho => by
          by_cases h2 : j = a
          · subst h2; rw [hy] at hz'; cases hz'; exact absurd ho hnov
          · omega
        rcases hb with ⟨rfl, hno⟩ | ⟨b, x, rfl, hx, hox, hle⟩
        · exact .inl ⟨rfl, fun j z' hj hz' ho => hno j z' (ext j z' hj hz' ho) hz' ho⟩
        · exact .inr ⟨b, x, rfl, hx, hox, fun j z' hj hz' ho => hle j z' (ext j z' hj hz' ho) hz' ho⟩
      · rw [hz] at hz'; cases hz'
        rw [less_iff, beqBytes, Bool.or_eq_false_iff, decide_eq_false_iff_not, decide_eq_false_iff_not] at h
        exact lt_of_le_ne (List.not_lt.1 h.1) fun e => h.2 (bs_inj e).symm
    · rcases hb with ⟨rfl, hno⟩ | ⟨b, x, rfl, hx, hox, hle⟩
      · obtain ⟨y, hy, ho⟩ := rise_some hn (m := m) (by omega)
        obtain ⟨j, hj⟩ := List.mem_iff_getElem?.1 hy
        have hjl := (List.getElem?_eq_some_iff.1 hj).1
        exact absurd ho (hno j y (by omega) hj)
      · have hnext : (sortS l)[m]? = some x := rise_next hn (by omega) (List.mem_of_getElem? hx) hox fun y hy ho => by
          obtain ⟨j, hj⟩ := List.mem_iff_getElem?.1 hy
          have hjl := (List.getElem?_eq_some_iff.1 hj).1
          exact hle j y (by omega) hj ho
        have hbl := (List.getElem?_eq_some_iff.1 hx).1
        obtain ⟨ad, rfl, rd⟩ := lab_cells hc hx
        refine sel_dec (fun h => absurd h (by omega)) (fun _ => when_dec ⟨by omega, by omega⟩ ⟨_, _, (rd _ (e6.trans e12)).2.2, fun w28 h28 => ?_⟩)
        obtain ⟨A2, c2, w30, hr, ho, he, _⟩ := more_lab (e6.trans e12) (own.ext0 e12) h28 (by omega)
        refine ⟨_, _, _, _, hr, ⟨by omega, he, by rw [snoc_at hnext]; exact ho⟩, by show n - (m + 1) < n - m; omega⟩
  · have : m = n := by omega
    subst this
    rw [List.take_of_length_le (by omega)] at own
    exact k w6 A' c' e6 own
set_option maxHeartbeats 1000000 in
theorem rMake_c (h : LIn w A n l)
    (k : ∀ w' A' n' c', Ext [] w w' → LOwn w' w.heap.size A' n' c' (makeS l).1 → R (.returned (.tuple #[.slice A' n' c', .string (makeS l).2.1, .int .i64 (makeS l).2.2])) w') : Calls Tryz.prog 36 #[.slice A n c] w R := by
  apply berthref03_Make_nf
  have hl := h.len
  have hbig := h.big
  have bad : ∀ {w' : World} {q : ByteArray} {e : Int}, Ext [] w w' → makeS l = ([], q, e) → R (.returned (.tuple #[.slice none 0 0, .string q, .int .i64 e])) w' := fun {w' q e} ew he => by
    have := k w' none 0 0 ew (by rw [he]; exact LstL.nil _ _ _)
    rw [he] at this; exact this
  refine sel_dec (fun hgt => bad (Ext.refl _ _) (by unfold makeS; rw [if_pos (by omega)])) (fun hle => ?_)
  have hms : makeS l = match makeGo [] l with | none => (sortS l, ByteArray.empty, 0) | some (k, e) => ([], k, e) := by
    unfold makeS
    rw [if_neg (by omega)]
    cases makeGo [] l with
    | none => rfl
    | some p => rfl
  refine ⟨fun t w' => ∃ (a : Nat) (seen : List ByteArray), t = a ∧ a ≤ n ∧ Ext [] w w' ∧ makeGo [] l = makeGo seen (l.drop a) ∧ ∀ q, q ∈ seen ↔ q ∈ keys (l.take a), fun t _ => n - t.toNat,
    ⟨0, [], rfl, by omega, Ext.refl _ _, rfl, fun q => by simp [keys]⟩, ?_⟩
  rintro _ _ w6 ⟨a, seen, rfl, ha, e6, hg, hs⟩
  refine sel_dec (fun hlt => ?_) (fun hge => ?_)
  · obtain ⟨x, hx⟩ : ∃ x, l[a]? = some x := ⟨_, List.getElem?_eq_getElem (by omega)⟩
    obtain ⟨ad, rfl, rd⟩ := lab_cells h.c hx
    rw [drop_at hx, makeGo] at hg
    have no : ∀ {w' : World} {e : Int}, Ext [] w w' → makeGo [] l = some (x.1, e) → R (.returned (.tuple #[.slice none 0 0, .string x.1, .int .i64 e])) w' := fun {w' e} ew he => bad ew (by rw [hms, he])
    refine when_dec ⟨by omega, by omega⟩ ⟨_, (rd w6 e6).1, rIsKey_c x.1 fun w11 e11 => ⟨_, rfl, ?_⟩⟩
    have e11' := e6.trans e11
    refine when_dec ⟨by omega, by omega⟩ ⟨_, (rd w11 e11').2.1, rIsValue_c x.2 ⟨_, rfl, when_dec ⟨by omega, by omega⟩ ⟨_, (rd w11 e11').1, rFind_c (h.ext0 e11').c hl hbig x.1 ⟨_, rfl, ?_⟩⟩⟩⟩
    have rd' := (rd w11 e11').1
    refine sel_intro (fun hk => when_dec ⟨by omega, by omega⟩ ⟨_, rd', no e11'.drew (by rw [hg, if_pos (nf_ hk)])⟩) (fun hk => ?_)
    rw [if_neg (by simp [nt_ hk])] at hg
    refine sel_intro (fun hv => when_dec ⟨by omega, by omega⟩ ⟨_, rd', no e11'.drew (by rw [hg, if_pos (nf_ hv)])⟩) (fun hv => ?_)
    rw [if_neg (by simp [nt_ hv])] at hg
    rcases find_cases l x.1 0 with ⟨h1, h2⟩ | ⟨b, y, h1, h2, h3, h4, h5⟩
    · exact absurd (mem_keys.2 ⟨x, List.mem_of_getElem? hx, rfl⟩) h2
    rw [h1, Nat.zero_add]
    refine sel_dec (fun hba => ?_) (fun hba => ?_)
    · have hm : x.1 ∈ seen := (hs _).2 (by rw [← h3]; exact mem_take h2 (by omega))
      exact when_dec ⟨by omega, by omega⟩ ⟨_, rd', no e11'.drew (by rw [hg, if_pos (List.any_eq_true.2 ⟨_, hm, by simp⟩)])⟩
    · have hm : x.1 ∉ keys (l.take a) := fun hm => h5 (by
        obtain ⟨z, hz, e⟩ := mem_keys.1 hm
        refine mem_keys.2 ⟨z, ?_, e⟩
        rw [show l.take a = (l.take b).take a by rw [List.take_take, Nat.min_eq_left (by omega)]] at hz
        exact List.mem_of_mem_take hz)
      have hns : ¬ (seen.any fun q => decide (q = x.1)) = true := fun hq => by
        obtain ⟨q, hq1, hq2⟩ := List.any_eq_true.1 hq
        rw [decide_eq_true_eq] at hq2
        exact hm ((hs _).1 (by rw [← hq2]; exact hq1))
      rw [if_neg hns] at hg
      rw [up64 a (by omega)]
      refine ⟨⟨a + 1, x.1 :: seen, rfl, by omega, e11', hg, fun q => ?_⟩, by simp only [Int.toNat_natCast]; omega⟩
      rw [snoc_at hx]
      unfold keys at hs ⊢
      rw [List.map_append, List.mem_append, ← hs, List.mem_cons]
      simp [or_comm]
  · rw [List.drop_eq_nil_of_le (by omega)] at hg
    have hg : makeGo [] l = none := hg
    obtain ⟨_, _, hnd, _⟩ := makeGo_none hg
    refine rRise_c (h.ext0 e6).c hl hbig hnd fun w30 A28 c28 e30 o30 => ⟨_, _, _, rfl, ?_⟩
    rw [hg] at hms
    have := k w30 A28 n c28 (e6.trans e30) (by rw [hms]; exact o30.weaken e6.size)
    rw [hms] at this; exact this
theorem rCopy_c (hc : Cells w A (LbL.flat l)) (hl : l.length = n) (big : n * 32 ≤ 140737488351232)
    (k : ∀ w' A' c', Ext [] w w' → LOwn w' w.heap.size A' n c' l → R (.returned (.slice A' n c')) w') : Calls Tryz.prog 69 #[.slice A n c] w R := by
  apply berthref03_Copy_nf
  intro w2 h2
  obtain ⟨A', c', w4, hr, ho, he⟩ := copyL (L := LbL) (P := Tryz.prog) (t := 22) (ty := 22) (e := 40) (xs := l) (m := n) (by exact Tryz.underlying22) infoL rfl (by decide) hc hl h2 (by omega) c
  exact ⟨A', n, c', w4, hr, k w4 A' c' he ho.lst⟩
theorem rSame_c {B : Option Addr} {m c' : Nat} {a b : List Lab} (hA : Cells w A (LbL.flat a)) (hn : a.length = n) (hB : Cells w B (LbL.flat b)) (hm : b.length = m) (big : n * 32 ≤ 140737488351232)
    (k : ∀ w', Ext [] w w' → R (.returned (.bool (decide (a = b)))) w') : Calls Tryz.prog 70 #[.slice A n c, .slice B m c'] w R := by
  apply berthref03_Same_nf
  have no : ∀ w', Ext [] w w' → a ≠ b → R (.returned (.bool false)) w' := fun w' e h => by
    have := k w' e
    rw [decide_eq_false h] at this; exact this
  refine sel_intro (fun h => no w (Ext.refl _ _) fun e => ?_) (fun h => ?_)
  · rw [e] at hn
    have h : (n : Int) ≠ m := by simpa using h
    omega
  have h : (n : Int) = m := by simpa using h
  refine ⟨fun t w' => ∃ i : Nat, t = i ∧ i ≤ n ∧ Ext [] w w' ∧ a.take i = b.take i, fun t _ => n - t.toNat, ⟨0, rfl, by omega, Ext.refl _ _, rfl⟩, ?_⟩
  rintro _ _ w7 ⟨i, rfl, hi, e7, hab⟩
  refine sel_dec (fun hlt => ?_) (fun hge => ?_)
  · obtain ⟨x, hx⟩ : ∃ x, a[i]? = some x := ⟨_, List.getElem?_eq_getElem (by omega)⟩
    obtain ⟨y, hy⟩ : ∃ y, b[i]? = some y := ⟨_, List.getElem?_eq_getElem (by omega)⟩
    obtain ⟨ad, rfl, rd⟩ := lab_cells hA hx
    obtain ⟨bd, rfl, rb⟩ := lab_cells hB hy
    refine when_dec ⟨by omega, by omega⟩ ⟨_, _, (rd w7 e7).2.2, when_dec ⟨by omega, by omega⟩ ⟨_, _, (rb w7 e7).2.2, ?_⟩⟩
    rw [lab_eq x y]
    refine sel_intro (fun hne => no _ e7.drew fun e => ?_) (fun heq => ?_)
    · rw [e, hy] at hx
      cases hx
      simp at hne
    · have heq : x = y := by simpa using heq
      rw [up64 i (by omega)]
      refine ⟨⟨i + 1, rfl, by omega, e7.drew, ?_⟩, by simp only [Int.toNat_natCast]; omega⟩
      rw [snoc_at hx, snoc_at hy, hab, heq]
  · rw [List.take_of_length_le (by omega), List.take_of_length_le (by omega)] at hab
    have := k w7 e7
    rw [decide_eq_true hab] at this; exact this
end
end Go.Proofs.YtcohengppaighaaGreatDoor
namespace Go.Proofs.YtcohengppaighaaGreatDoor
open Go Go.V Go.B

theorem bs_app (a b : ByteArray) : bs (a ++ b) = bs a ++ bs b := by
  simp [bs, ByteArray.data_append]
theorem find_get (l : List Lab) (k : ByteArray) : ((getS l k).2 = true ∧ 0 ≤ findS l k 0) ∨ ((getS l k).2 = false ∧ findS l k 0 < 0) := by
  rcases find_cases l k 0 with ⟨h1, h2⟩ | ⟨a, x, h1, h2, h3, h4, h5⟩
  · exact .inr ⟨by rw [getS_not h2], by rw [h1]; omega⟩
  · exact .inl ⟨by rw [h4], by rw [h1]; omega⟩
section
variable {w : World} {R : Ending → World → Prop}
set_option maxHeartbeats 2000000 in
theorem rParse_c (text : ByteArray)
    (k : ∀ w' A' n' c', Ext [] w w' → LOwn w' w.heap.size A' n' c' (parseS (bs text)).1 → R (.returned (.tuple #[.slice A' n' c', .int .i64 (parseS (bs text)).2.1, .int .i64 (parseS (bs text)).2.2])) w') : Calls Tryz.prog 37 #[.string text] w R := by
  apply berthref03_Parse_nf
  have hl := bs_len text
  have bad : ∀ {w' : World} {p e : Int}, Ext [] w w' → parseS (bs text) = ([], p, e) → R (.returned (.tuple #[.slice none 0 0, .int .i64 p, .int .i64 e])) w' := fun {w' p e} ew he => by
    have := k w' none 0 0 ew (by rw [he]; exact LstL.nil _ _ _)
    rw [he] at this; exact this
  refine sel_dec (fun hgt => bad (Ext.refl _ _) (by unfold parseS; rw [if_pos (by omega)])) (fun hle => sel_intro (fun he => ?_) (fun he => ?_))
  · rw [beqBytes, decide_eq_true_eq] at he
    subst he
    exact bad (Ext.refl _ _) rfl
  have hne : bs text ≠ [] := fun e => by
    rw [beqBytes, decide_eq_false_iff_not] at he
    exact he (bs_inj e)
  have hps : parseS (bs text) = parseGo [] 0 (cutS 44 (bs text)) := by unfold parseS; rw [if_neg (by omega), if_neg hne]
  refine rcut_c text 44 (by omega) fun w4 A2 c2 ps e4 hc hcut => ⟨_, _, _, rfl, ?_⟩
  have hsum : ((ps.map fun p => (bs p).length + 1)).sum = text.size + 1 := by
    have := sum_cut 44 _ (bs text) (Nat.le_refl _)
    rw [← hcut, List.map_map] at this
    rw [← hl, ← this]; rfl
  have hpl : ps.length ≤ text.size + 1 := by
    have h3 := cutS_len 44 (bs text)
    rw [← hcut, List.length_map] at h3
    omega
  refine ⟨fun A' n' c' at_ t w' => ∃ (a : Nat) (out : List Lab) (p : Nat), t = a ∧ at_ = p ∧ a ≤ ps.length ∧ n' = a ∧ p = ((ps.take a).map fun q => (bs q).length + 1).sum ∧ Ext [] w4 w' ∧ LOwn w' w4.heap.size A' n' c' out ∧ n' ≤ 32 ∧ (keys out).Nodup ∧
      parseGo [] 0 (cutS 44 (bs text)) = parseGo out p ((ps.map bs).drop a), fun _ _ _ _ t _ => ps.length - t.toNat,
    ⟨0, [], 0, rfl, rfl, by omega, rfl, rfl, Ext.refl _ _, LstL.nil _ _ _, by omega, by simp [keys], by rw [hcut]; rfl⟩, ?_⟩
  rintro A7 n7 c7 _ _ _ w11 ⟨a, out, p, rfl, rfl, ha, hna, hp, x11, own, hn32, hnd, hgo⟩
  subst hna
  have e11 := e4.trans x11
  refine sel_dec (fun hlt => when_dec ⟨by omega, by omega⟩ ?_) (fun hge => ?_)
  · obtain ⟨it, hit⟩ : ∃ it, ps[n7]? = some it := ⟨_, List.getElem?_eq_getElem (by omega)⟩
    obtain ⟨ad, rfl, hcell⟩ := SL_at (hc.ext0 x11) hit
    have hitl := bs_len it
    have hits0 := cutS_sub 44 (bs text) (bs it) (by rw [← hcut]; exact List.mem_map_of_mem (List.mem_of_getElem? hit))
    have hps2 : p + ((bs it).length + 1) ≤ text.size + 1 := by
      have := sum_take_le (ps.map fun q => (bs q).length + 1) (a := n7) (x := (bs it).length + 1) (by rw [List.getElem?_map, hit]; rfl)
      rw [hsum, ← List.map_take] at this
      rw [hp]; exact this
    rw [drop_at (show (ps.map bs)[n7]? = some (bs it) by rw [List.getElem?_map, hit]; rfl), parseGo] at hgo
    have hol := own.len
    refine ⟨it, hcell, rcut_c it 61 (by omega) fun w16 A14 c14 qs e16 hcq hcutq => ⟨_, _, _, rfl, ?_⟩⟩
    have x16 := x11.trans e16
    -- what both ways of the item have in common
    have body : ∀ (s14 s15 : ByteArray) (b16 : Bool), itemS (bs it) = (s14, s15, b16) → s14.size ≤ it.size → s15.size ≤ it.size → (b16 = false ↔ qs.length < 2) →
        (Calls Tryz.prog 54 #[(Value.string s14)] w16 fun e22 w23 =>
  ∃ b21, e22 = Ending.returned (Value.bool b21) ∧
  Calls Tryz.prog 55 #[(Value.string s15)] w23 fun e25 w26 =>
  ∃ b24, e25 = Ending.returned (Value.bool b24) ∧
  Calls Tryz.prog 56 #[(Value.slice A7 n7 c7), (Value.string s14)] w26 fun e28 w29 =>
  ∃ n27, e28 = Ending.returned (Value.int .i64 n27) ∧
  V.sel (decide ((n7 : Int) ≥ 32))
  (R (Ending.returned (Value.tuple #[(Value.slice none 0 0), (Value.int .i64 (p : Int)), (Value.int .i64 34)])) w29)
  (V.sel (decide (((qs.length : Nat) : Int) < 2))
  (R (Ending.returned (Value.tuple #[(Value.slice none 0 0), (Value.int .i64 (p : Int)), (Value.int .i64 35)])) w29)
  (V.sel (!b21)
  (R (Ending.returned (Value.tuple #[(Value.slice none 0 0), (Value.int .i64 (p : Int)), (Value.int .i64 31)])) w29)
  (V.sel (!b24)
  (R (Ending.returned (Value.tuple #[(Value.slice none 0 0), (Value.int .i64 (p : Int)), (Value.int .i64 32)])) w29)
  (V.sel (decide (n27 ≥ 0))
  (R (Ending.returned (Value.tuple #[(Value.slice none 0 0), (Value.int .i64 (p : Int)), (Value.int .i64 33)])) w29)
  (∀ w30, w30 = (World.alloc w29 (.cells #[(Value.string s14), (Value.string s15)] 40)) →
  ∃ A31, ∃ A31l, ∃ A31c, ∃ w32, Sem.run Tryz.prog (Builtin.append_ #[22, 22] 22 #[(Value.slice A7 n7 c7), (Value.slice (some ⟨Array.size (World.heap w29), 0, none⟩) 1 1)]) w30 = .ok (Value.slice A31 A31l A31c) w32 ∧
  V.when (decide ((0 : Int) ≤ (n7 : Int) ∧ ((n7 : Int) : Int) < ((ps.length : Nat) : Int))) (V.ptr (some ad) fun a33 =>
  ∃ s34, World.cell? w32 (Addr.add a33 ((Int.toNat (n7 : Int)) * 1)) = some (Value.string s34) ∧
  V.lt (IntKind.wrap .i64 ((IntKind.wrap .i64 ((p : Int) + ((ByteArray.size s34 : Nat) : Int))) + 1)) fun x35 =>
  (fun A' n' c' at_ t w' => ∃ (a : Nat) (out : List Lab) (p : Nat), t = (a : Int) ∧ at_ = (p : Int) ∧ a ≤ ps.length ∧ n' = a ∧ p = ((ps.take a).map fun q => (bs q).length + 1).sum ∧ Ext [] w4 w' ∧ LOwn w' w4.heap.size A' n' c' out ∧ n' ≤ 32 ∧ (keys out).Nodup ∧ parseGo [] 0 (cutS 44 (bs text)) = parseGo out p ((ps.map bs).drop a)) A31 A31l A31c x35 (IntKind.wrap .i64 ((n7 : Int) + 1)) w32 ∧ (fun _ _ _ _ t _ => ps.length - Int.toNat t) A31 A31l A31c x35 (IntKind.wrap .i64 ((n7 : Int) + 1)) w32 < (fun _ _ _ _ t _ => ps.length - Int.toNat t) A7 n7 c7 (p : Int) (n7 : Int) w11))))))) := by
      intro s14 s15 b16 hits h14 h15 hb2
      have err : ∀ {w' : World} {e : Int}, Ext [] w w' → itemBad out (bs it) = e → e ≠ 0 → R (.returned (.tuple #[.slice none 0 0, .int .i64 (p : Int), .int .i64 e])) w' := fun {w' e} ew hb hne => bad ew (by rw [hps, hgo, if_neg (by rw [hb]; exact hne), hb])
      refine rIsKey_c s14 fun w23 e23 => ⟨_, rfl, rIsValue_c s15 ⟨_, rfl, rFind_c (own.ext0 (e16.trans e23)).cells hol (by omega) s14 ⟨_, rfl, ?_⟩⟩⟩
      have x23 := x16.trans e23
      have e23' := e4.trans x23
      refine sel_dec (fun h32 => err e23' ?_ (by decide)) (fun h32 => sel_dec (fun hb => err e23' ?_ (by decide)) (fun hb => ?_))
      · unfold itemBad; rw [if_pos (by omega)]
      · have : b16 = false := hb2.2 (by omega)
        unfold itemBad; rw [if_neg (by omega), hits, if_pos this]
      have hb : b16 = true := by cases b16 with
        | true => rfl
        | false => exact absurd (hb2.1 rfl) (by omega)
      refine sel_intro (fun hk => err e23' ?_ (by decide)) (fun hk => sel_intro (fun hv => err e23' ?_ (by decide)) (fun hv => ?_))
      · unfold itemBad; rw [if_neg (by omega), hits, if_neg (by simp [hb]), if_pos (nf_ hk)]
      · unfold itemBad; rw [if_neg (by omega), hits, if_neg (by simp [hb]), if_neg (by simp [nt_ hk]), if_pos (nf_ hv)]
      have hk := nt_ hk
      have hv := nt_ hv
      refine sel_dec (fun hd => err e23' ?_ (by decide)) (fun hd w30 h30 => ?_)
      · have : (getS out s14).2 = true := by
          rcases find_get out s14 with h | h
          · exact h.1
          · exact absurd h.2 (by omega)
        unfold itemBad; rw [if_neg (by omega), hits, if_neg (by simp [hb]), if_neg (by simp [hk]), if_neg (by simp [hv]), if_pos this]
      have hdup : (getS out s14).2 = false := by
        rcases find_get out s14 with h | h
        · exact absurd h.2 (by omega)
        · exact h.1
      have hz : itemBad out (bs it) = 0 := by
        unfold itemBad; rw [if_neg (by omega), hits, if_neg (by simp [hb]), if_neg (by simp [hk]), if_neg (by simp [hv]), if_neg (by simp [hdup])]
      rw [if_pos hz, hits] at hgo
      obtain ⟨A', c', w2, hr, ho, he, he2⟩ := more_lab x23 (own.ext0 (e16.trans e23)) h30 (by omega)
      obtain ⟨ad', h1, hcell2⟩ := SL_at (hc.ext0 he) hit
      cases h1
      refine ⟨_, _, _, _, hr, when_dec ⟨by omega, by omega⟩ ⟨it, hcell2, lt_eq (y := ((p + ((bs it).length + 1) : Nat) : Int)) ?_ ?_⟩⟩
      · rw [w64 (x := (p : Int) + ((it.size : Nat) : Int)) (by omega) (by omega), w64 (by omega) (by omega)]
        omega
      rw [up64 n7 (by omega)]
      refine ⟨⟨n7 + 1, _, _, rfl, rfl, by omega, rfl, ?_, he, ho, by omega, ?_, ?_⟩, by simp only [Int.toNat_natCast]; omega⟩
      · rw [snoc_at hit, List.map_append, List.sum_append, ← hp]; simp
      · have hnot : s14 ∉ keys out := fun hm => by rw [getS_iff.2 hm] at hdup; cases hdup
        unfold keys at hnd hnot ⊢
        rw [List.map_append, List.nodup_append]
        refine ⟨hnd, by simp, fun a ha b hb e => ?_⟩
        simp at hb
        rw [← hb, ← e] at hnot
        exact hnot ha
      · rw [hgo]
        congr 1
    rcases cut_cases 61 (bs it) with h61 | ⟨x, y, h61, hx⟩
    · rw [cutS_not h61] at hcutq
      match qs, hcq, hcutq, body with
      | [], _, hcutq, _ => cases hcutq
      | [q], hcq, hcutq, body =>
        have hq : bs q = bs it := by simpa using hcutq
        have hq := bs_inj hq
        subst hq
        obtain ⟨qd, rfl, hqc⟩ := SL_at hcq (a := 0) (s := q) rfl
        exact when_dec ⟨by omega, by simp⟩ ⟨q, hqc, sel_false rfl (body q ByteArray.empty false (item_not h61) (by omega) (by show 0 ≤ _; omega) (by simp))⟩
      | q :: q2 :: r, _, hcutq, _ => simp at hcutq
    · rw [h61, cutS_app hx] at hcutq
      have hxy : x.length + 1 + y.length = it.size := by rw [← hitl, h61]; simp; omega
      match qs, hcq, hcutq, body with
      | [], _, hcutq, _ => cases hcutq
      | [q], _, hcutq, _ =>
        simp only [List.map_cons, List.map_nil, List.cons.injEq] at hcutq
        exact absurd hcutq.2.symm (cutS_ne _ _)
      | q :: q2 :: r, hcq, hcutq, body =>
        simp only [List.map_cons, List.cons.injEq] at hcutq
        have hqs := bs_len q
        have hql : q.size = x.length := by rw [← hqs, hcutq.1]
        obtain ⟨qd, rfl, hqc⟩ := SL_at hcq (a := 0) (s := q) rfl
        obtain ⟨ad', h1, hcell2⟩ := SL_at (hc.ext0 x16) hit
        cases h1
        refine when_dec ⟨by omega, by simp; omega⟩ ⟨q, hqc, sel_true (by simp; omega) (when_dec ⟨by omega, by omega⟩ ⟨it, hcell2, ?_⟩)⟩
        have e1 : IntKind.wrap .i64 (((ByteArray.size q : Nat) : Int) + 1) = ((q.size + 1 : Nat) : Int) := by rw [w64 (by omega) (by omega)]; omega
        have hby : bs (it.extract (Int.toNat (IntKind.wrap .i64 (((ByteArray.size q : Nat) : Int) + 1))) it.size) = y := by
          rw [e1, Int.toNat_natCast, bs_ext, h61, hql, show x ++ 61 :: y = (x ++ [61]) ++ y by simp, List.drop_left' (by simp), List.take_of_length_le (by omega)]
        refine when_dec ⟨by rw [e1]; omega, by rw [e1]; omega⟩ (body q (it.extract (Int.toNat (IntKind.wrap .i64 (((ByteArray.size q : Nat) : Int) + 1))) it.size) true ?_ (by omega) ?_ (by simp))
        · exact item_cut1 (by rw [hcutq.1, hby]; exact h61) (by rw [hcutq.1]; exact hx)
        · rw [← bs_len, hby]; omega
  · have hd : (ps.map bs).drop n7 = [] := List.drop_eq_nil_of_le (by rw [List.length_map]; omega)
    rw [hd, parseGo] at hgo
    refine rRise_c own.cells own.len (by omega) hnd fun w35 A33 c33 e35 o35 => ⟨_, _, _, rfl, ?_⟩
    have hh : parseS (bs text) = (sortS out, 0, 0) := by rw [hps, hgo]
    have := k w35 A33 n7 c33 (e11.trans e35) (by rw [hh]; exact o35.weaken e11.size)
    rw [hh] at this; exact this
variable {A : Option Addr} {n c : Nat} {l : List Lab}
theorem rText_c (h : LIn w A n l)
    (k : ∀ w', Ext [] w w' → R (.returned (.tuple #[.string (textS l).1, .int .i64 (textS l).2])) w') : Calls Tryz.prog 72 #[.slice A n c] w R := by
  apply berthref03_Text_nf
  have hl := h.len
  refine rCheck_c h fun w5 e5 => ⟨_, _, rfl, sel_intro (fun hc => ?_) (fun hc => ?_)⟩
  · have hc : (checkS l).2 ≠ 0 := by simpa using hc
    have := k w5 e5
    unfold textS at this
    rw [if_neg hc] at this; exact this
  have hc : (checkS l).2 = 0 := by simpa using hc
  have ok := checkS_zero.1 hc
  have hlen := ok.len
  have hmax := join_max ok
  refine ⟨fun s t w' => ∃ a : Nat, t = a ∧ a ≤ n ∧ Ext [] w w' ∧ bs s = joinT (l.take a), fun s t _ => n - t.toNat, ⟨0, rfl, by omega, e5, rfl⟩, ?_⟩
  rintro s _ _ w7 ⟨a, rfl, ha, e7, hs⟩
  have hsl := bs_len s
  have hcut := join_le (l := l) a
  rw [hs] at hsl
  refine sel_dec (fun hlt => ?_) (fun hge => ?_)
  · obtain ⟨x, hx⟩ : ∃ x, l[a]? = some x := ⟨_, List.getElem?_eq_getElem (by omega)⟩
    obtain ⟨ad, rfl, rd⟩ := lab_cells h.c hx
    obtain ⟨r0, r1, r2⟩ := rd w7 e7
    have hxm := List.mem_of_getElem? hx
    have k1 := key_len (ok.key x hxm)
    have k2 := val_len (ok.val x hxm)
    have b1 := bs_len x.1
    have b2 := bs_len x.2
    have hsz : ByteArray.size ⟨#[61]⟩ = 1 := rfl
    have hsz4 : ByteArray.size ⟨#[44]⟩ = 1 := rfl
    have q3 : ByteArray.size (s ++ ⟨#[44]⟩) = s.size + 1 := by rw [ByteArray.size_append, hsz4]
    have q4 : ByteArray.size (s ++ ⟨#[44]⟩ ++ x.1) = s.size + 1 + x.1.size := by rw [ByteArray.size_append, q3]
    have q5 : ByteArray.size (s ++ ⟨#[44]⟩ ++ x.1 ++ ⟨#[61]⟩) = s.size + 1 + x.1.size + 1 := by rw [ByteArray.size_append, q4, hsz]
    have q6 : ByteArray.size (s ++ x.1) = s.size + x.1.size := ByteArray.size_append
    have q7 : ByteArray.size (s ++ x.1 ++ ⟨#[61]⟩) = s.size + x.1.size + 1 := by rw [ByteArray.size_append, q6, hsz]
    refine sel_dec (fun hp => ?_) (fun hp => ?_)
    · refine when_dec (by omega) (when_dec ⟨by omega, by omega⟩ ⟨_, r0, when_dec (by omega) (when_dec (by omega) (when_dec ⟨by omega, by omega⟩ ⟨_, r1, when_dec (by omega) ?_⟩))⟩)
      rw [up64 a (by omega)]
      refine ⟨⟨a + 1, rfl, by omega, e7.drew, ?_⟩, by simp only [Int.toNat_natCast]; omega⟩
      rw [snoc_at hx, join_snoc _ (fun e => by have := congrArg List.length e; rw [List.length_take, Nat.min_eq_left (by omega)] at this; simp at this; omega), bs_app, bs_app, bs_app, bs_app, hs]
      simp [itemT, bs]
    · have h0 : a = 0 := by omega
      subst h0
      have hs0 : s.size = 0 := by rw [← hsl]; rfl
      refine when_dec ⟨by omega, by omega⟩ ⟨_, r0, when_dec (by omega) (when_dec (by omega) (when_dec ⟨by omega, by omega⟩ ⟨_, r1, when_dec (by omega) ?_⟩))⟩
      rw [up64 0 (by omega)]
      refine ⟨⟨1, rfl, by omega, e7.drew, ?_⟩, by simp only [Int.toNat_natCast]; omega⟩
      rw [snoc_at hx, bs_app, bs_app, bs_app, hs]
      simp [itemT, bs, joinT]
  · rw [List.take_of_length_le (by omega)] at hs
    have hts : textS l = (s, 0) := by
      unfold textS
      rw [if_pos hc, ← hs]; rfl
    have := k w7 e7
    rw [hts] at this; exact this
theorem rDel_c (hc : Cells w A (LbL.flat l)) (hl : l.length = n) (big : n * 32 ≤ 140737488351232) (key : ByteArray)
    (k : ∀ w' A' n' c', Ext [] w w' → LOwn w' w.heap.size A' n' c' (delS l key) → n' ≤ n → R (.returned (.tuple #[.slice A' n' c', .bool (getS l key).2])) w') : Calls Tryz.prog 39 #[.slice A n c, .string key] w R := by
  apply berthref03_Del_nf
  refine rFind_c hc hl big key ⟨_, rfl, rwithout_c hc hl big key fun w8 A6 n6 c6 e8 o8 hle => ⟨_, _, _, rfl, ?_⟩⟩
  have : decide (findS l key 0 ≥ 0) = (getS l key).2 := by
    rcases find_get l key with h | h
    · rw [h.1, decide_eq_true (by omega)]
    · rw [h.1, decide_eq_false (by omega)]
  rw [this]
  exact k w8 A6 n6 c6 e8 o8 hle
theorem rPut_c (h : LIn w A n l) {key value : ByteArray}
    (k : ∀ w' A' n' c', Ext [] w w' → LOwn w' w.heap.size A' n' c' (putS l key value).1 → R (.returned (.tuple #[.slice A' n' c', .int .i64 (putS l key value).2])) w') : Calls Tryz.prog 38 #[.slice A n c, .string key, .string value] w R := by
  apply berthref03_Put_nf
  have hl := h.len
  have bad : ∀ {w' : World} {e : Int}, Ext [] w w' → putS l key value = ([], e) → R (.returned (.tuple #[.slice none 0 0, .int .i64 e])) w' := fun {w' e} ew he => by
    have := k w' none 0 0 ew (by rw [he]; exact LstL.nil _ _ _)
    rw [he] at this; exact this
  refine rCheck_c h fun w7 e7 => ⟨_, _, rfl, rIsKey_c key fun w10 e10 => ⟨_, rfl, rIsValue_c value ⟨_, rfl, rFind_c (h.ext0 (e7.trans e10)).c hl h.big key ⟨_, rfl, ?_⟩⟩⟩⟩
  have e10' := e7.trans e10
  refine sel_intro (fun hc => ?_) (fun hc => ?_)
  · have hc : (checkS l).2 ≠ 0 := by simpa using hc
    exact bad e10' (by unfold putS; rw [if_pos hc])
  have hc : (checkS l).2 = 0 := by simpa using hc
  have ok := checkS_zero.1 hc
  have hll := ok.len
  refine sel_intro (fun hkk => bad e10' (by unfold putS; rw [if_neg (by simpa using hc), if_pos (nf_ hkk)])) (fun hkk => sel_intro (fun hv => bad e10' (by unfold putS; rw [if_neg (by simpa using hc), if_neg (by simp [nt_ hkk]), if_pos (nf_ hv)])) (fun hv => ?_))
  have hkk := nt_ hkk
  have hv := nt_ hv
  have good : ¬ ((getS l key).2 = false ∧ l.length = 32) → (Calls Tryz.prog 60 #[(Value.slice A n c), (Value.string key)] w10 fun e18 w19 =>
  ∃ A17, ∃ A17l, ∃ A17c, e18 = Ending.returned (Value.slice A17 A17l A17c) ∧
  ∀ w20, w20 = (World.alloc w19 (.cells #[(Value.string key), (Value.string value)] 40)) →
  ∃ A21, ∃ A21l, ∃ A21c, ∃ w22, Sem.run Tryz.prog (Builtin.append_ #[22, 22] 22 #[(Value.slice A17 A17l A17c), (Value.slice (some ⟨Array.size (World.heap w19), 0, none⟩) 1 1)]) w20 = .ok (Value.slice A21 A21l A21c) w22 ∧
  Calls Tryz.prog 57 #[(Value.slice A21 A21l A21c)] w22 fun e24 w25 =>
  ∃ A23, ∃ A23l, ∃ A23c, e24 = Ending.returned (Value.slice A23 A23l A23c) ∧
  R (Ending.returned (Value.tuple #[(Value.slice A23 A23l A23c), (Value.int .i64 0)])) w25) := by
    intro hg
    refine rwithout_c (h.ext0 e10').c hl h.big key fun w17 A14 n14 c14 e17 o17 hle => ⟨_, _, _, rfl, fun w18 h18 => ?_⟩
    obtain ⟨A', c', w2, hr, ho, he, _⟩ := more_lab (e10'.trans e17) (o17.weaken e10'.size) h18 (by omega)
    refine ⟨_, _, _, _, hr, rRise_c ho.cells ho.len (by omega) (put_nodup ok.ris.nodup key value) fun w23 A21 c21 e23 o23 => ⟨_, _, _, rfl, ?_⟩⟩
    have hp : putS l key value = (sortS (delS l key ++ [(key, value)]), 0) := by
      unfold putS
      rw [if_neg (by simpa using hc), if_neg (by simp [hkk]), if_neg (by simp [hv]), if_neg hg]
    have := k w23 A21 (n14 + 1) c21 (he.trans e23) (by rw [hp]; exact o23.weaken he.size)
    rw [hp] at this; exact this
  refine sel_dec (fun hf => sel_dec (fun h32 => bad e10' ?_) (fun h32 => good ?_)) (fun hf => good ?_)
  · have : (getS l key).2 = false := by
      rcases find_get l key with h | h
      · exact absurd h.2 (by omega)
      · exact h.1
    unfold putS
    rw [if_neg (by simpa using hc), if_neg (by simp [hkk]), if_neg (by simp [hv]), if_pos ⟨this, by omega⟩]
  · exact fun hq => h32 (by omega)
  · rintro ⟨h1, _⟩
    rcases find_get l key with h | h
    · rw [h.1] at h1; cases h1
    · exact hf h.2
end
end Go.Proofs.YtcohengppaighaaGreatDoor
namespace Go.Proofs.YtcohengppaighaaGreatDoor
open Go Go.V Go.B

section
variable {w : World} {R : Ending → World → Prop} {A B : Option Addr} {n m c c' : Nat} {was now l : List Lab}
theorem rone_c (h1 : Cells w A (LbL.flat was)) (hl1 : was.length = n) (g1 : n * 32 ≤ 140737488351232) (h2 : Cells w B (LbL.flat now)) (hl2 : now.length = m) (g2 : m * 32 ≤ 140737488351232) (key : ByteArray)
    (k : ∀ w', Ext [] w w' → R (.returned (.agg ⟨dcells (dOf was now key)⟩)) w') : Calls Tryz.prog 97 #[.slice A n c, .slice B m c', .string key] w R := by
  apply berthref03_one_nf
  intro w4 h4
  obtain ⟨b4, x4, z4⟩ := box_new h4
  refine rGet_c (h1.ext0 x4) hl1 g1 key ⟨_, _, rfl, rGet_c (h2.ext0 x4) hl2 g2 key ⟨_, _, rfl, ?_⟩⟩
  obtain ⟨w13, hr, b13, x13⟩ := storeW (P := Tryz.prog) (t := 59) (n := 5) (by kernel_rfl) b4 (vs := dcells (dOf was now key)) rfl rfl (DLL.one _)
  exact ⟨w13, hr, _, _, _, _, _, cadd0 b13, k w13 (x4.trans' x13 fun b hb => .inr (by simp at hb; omega))⟩
theorem keep_iff (d : DL) : dKeep d = (!(d.had == d.has) || !decide (d.old = d.new)) := by
  unfold dKeep
  rw [Bool.eq_iff_iff]
  simp
set_option maxHeartbeats 2000000 in
theorem rDiff_c (h1 : LIn w A n was) (h2 : LIn w B m now)
    (k : ∀ w' D q d, Ext [] w w' → DOwn w' w.heap.size D q d (diffS was now) → q ≤ 64 → R (.returned (.slice D q d)) w') : Calls Tryz.prog 74 #[.slice A n c, .slice B m c'] w R := by
  apply berthref03_Diff_nf
  refine rCheck_c h1 fun w6 e6 => ⟨_, _, rfl, rCheck_c (h2.ext0 e6) fun w10 e10 => ⟨_, _, rfl, ?_⟩⟩
  have e10' := e6.trans e10
  have empty : diffS was now = [] → R (.returned (.slice none 0 0)) w10 := fun h => k w10 none 0 0 e10' (by rw [h]; exact LstL.nil _ _ _) (by omega)
  refine sel_intro (fun hc1 => empty ?_) (fun hc1 => sel_intro (fun hc2 => empty ?_) (fun hc2 => ?_))
  · have hc1 : (checkS was).2 ≠ 0 := by simpa using hc1
    unfold diffS; rw [if_neg (fun h => hc1 h.1)]
  · have hc2 : (checkS now).2 ≠ 0 := by simpa using hc2
    unfold diffS; rw [if_neg (fun h => hc2 h.2)]
  have hc1 : (checkS was).2 = 0 := by simpa using hc1
  have hc2 : (checkS now).2 = 0 := by simpa using hc2
  have o1 := checkS_zero.1 hc1
  have o2 := checkS_zero.1 hc2
  have g1 := o1.len
  have g2 := o2.len
  have l1 := h1.len
  have l2 := h2.len
  refine ⟨fun A' n' c' t w' => ∃ a : Nat, t = a ∧ a ≤ n ∧ Ext [] w w' ∧ n' = a ∧ LOwn w' w.heap.size A' n' c' (was.take a), fun _ _ _ t _ => n - t.toNat, ⟨0, rfl, by omega, e10', rfl, LstL.nil _ _ _⟩, ?_⟩
  rintro A1 n1 c1 _ _ w16 ⟨a, rfl, ha, e16, hna, own⟩
  subst hna
  refine sel_dec (fun hlt => ?_) (fun hge => ?_)
  · obtain ⟨x, hx⟩ : ∃ x, was[n1]? = some x := ⟨_, List.getElem?_eq_getElem (by omega)⟩
    obtain ⟨ad, rfl, rd⟩ := lab_cells h1.c hx
    refine when_dec ⟨by omega, by omega⟩ ⟨_, _, (rd w16 e16).2.2, fun w20 h20 => ?_⟩
    obtain ⟨A2, c2, w22, hr, ho, he, _⟩ := more_lab e16 own h20 (by omega)
    refine ⟨_, _, _, _, hr, ?_⟩
    rw [up64 n1 (by omega)]
    exact ⟨⟨n1 + 1, rfl, by omega, he, rfl, by rw [snoc_at hx]; exact ho⟩, by simp only [Int.toNat_natCast]; omega⟩
  have hn1 : n1 = n := by omega
  subst hn1
  rw [List.take_of_length_le (by omega)] at own
  refine ⟨fun A' n' c' t w' => ∃ a : Nat, t = a ∧ a ≤ m ∧ Ext [] w w' ∧ n' ≤ n1 + a ∧ LOwn w' w.heap.size A' n' c' (was ++ (now.take a).filter fun x => !(getS was x.1).2), fun _ _ _ t _ => m - t.toNat, ⟨0, rfl, by omega, e16, by omega, by simpa using own⟩, ?_⟩
  rintro A2 n2 c2 _ _ w28 ⟨a, rfl, ha, e28, hn2, own2⟩
  refine sel_dec (fun hlt => ?_) (fun hge2 => ?_)
  · obtain ⟨x, hx⟩ : ∃ x, now[a]? = some x := ⟨_, List.getElem?_eq_getElem (by omega)⟩
    obtain ⟨ad, rfl, rd⟩ := lab_cells h2.c hx
    refine when_dec ⟨by omega, by omega⟩ ⟨_, (rd w28 e28).1, rFind_c (h1.ext0 e28).c l1 h1.big x.1 ⟨_, rfl, ?_⟩⟩
    rw [up64 a (by omega)]
    have hstep : was ++ (now.take (a + 1)).filter (fun x => !(getS was x.1).2) = (was ++ (now.take a).filter fun x => !(getS was x.1).2) ++ (if (getS was x.1).2 = false then [x] else []) := by
      rw [snoc_at hx, List.filter_append, List.append_assoc]
      congr 2
      cases hq : (getS was x.1).2 <;> simp [hq]
    refine sel_dec (fun hf => when_dec ⟨by omega, by omega⟩ ⟨_, _, (rd w28 e28).2.2, fun w37 h37 => ?_⟩) (fun hf => ?_)
    · have hg : (getS was x.1).2 = false := by
        rcases find_get was x.1 with h | h
        · exact absurd h.2 (by omega)
        · exact h.1
      obtain ⟨A3, c3, w39, hr, ho, he, _⟩ := more_lab e28 own2 h37 (by omega)
      refine ⟨_, _, _, _, hr, ⟨a + 1, rfl, by omega, he, by omega, ?_⟩, by simp only [Int.toNat_natCast]; omega⟩
      rw [hstep, if_pos hg]; exact ho
    · have hg : (getS was x.1).2 = true := by
        rcases find_get was x.1 with h | h
        · exact h.1
        · exact absurd h.2 hf
      refine ⟨⟨a + 1, rfl, by omega, e28, by omega, ?_⟩, by simp only [Int.toNat_natCast]; omega⟩
      rw [hstep, if_neg (by simp [hg]), List.append_nil]; exact own2
  rw [List.take_of_length_le (by omega)] at own2
  have hu : (was ++ now.filter fun x => !(getS was x.1).2) = unionS was now := rfl
  rw [hu] at own2
  refine rRise_c own2.cells own2.len (by omega) (union_nodup o1.ris o2.ris) fun w42 A40 c40 e42 o42 => ⟨_, _, _, rfl, ?_⟩
  rw [mergeU_sort o1.ris o2.ris] at o42
  have hml := o42.len
  have e42' := e28.trans e42
  have hd : diffS was now = ((mergeU was now).map fun x => dOf was now x.1).filter dKeep := by
    unfold diffS; rw [if_pos ⟨hc1, hc2⟩, mergeD_eq o1.ris o2.ris]
  refine ⟨fun A' n' c' t w' => ∃ a : Nat, t = a ∧ a ≤ n2 ∧ Ext [] w42 w' ∧ n' ≤ a ∧ DOwn w' w42.heap.size A' n' c' ((((mergeU was now).take a).map fun x => dOf was now x.1).filter dKeep), fun _ _ _ t _ => n2 - t.toNat, ⟨0, rfl, by omega, Ext.refl _ _, by omega, LstL.nil _ _ _⟩, ?_⟩
  rintro A4 n4 c4 _ _ w48 ⟨a, rfl, ha, e48, hn4, own4⟩
  have e48' := e42'.trans e48
  refine sel_dec (fun hlt => ?_) (fun hge4 => ?_)
  · obtain ⟨x, hx⟩ : ∃ x, (mergeU was now)[a]? = some x := ⟨_, List.getElem?_eq_getElem (by omega)⟩
    obtain ⟨ad, rfl, rd⟩ := lab_cells o42.cells hx
    refine when_dec ⟨by omega, by omega⟩ ⟨_, (rd w48 e48).1, rone_c (h1.ext0 e48').c l1 h1.big (h2.ext0 e48').c l2 h2.big x.1 fun w57 e57 => ⟨_, _, _, _, _, rfl, fun w58 h58 => ?_⟩⟩
    obtain ⟨b58, x58, z58⟩ := box_new h58
    generalize hdd : dOf was now x.1 = d
    obtain ⟨w59, hr, b59, x59⟩ := storeW (P := Tryz.prog) (t := 59) (n := 5) (by kernel_rfl) b58 (vs := dcells d) rfl rfl (DLL.one d)
    have e59 : Ext [] w48 w59 := (e57.trans x58).trans' x59 fun b hb => .inr (by have := e57.size; simp at hb; omega)
    have hstep : (((mergeU was now).take (a + 1)).map fun x => dOf was now x.1).filter dKeep = ((((mergeU was now).take a).map fun x => dOf was now x.1).filter dKeep) ++ (if dKeep d = true then [d] else []) := by
      have hone : List.filter dKeep [d] = if dKeep d = true then [d] else [] := by cases hq : dKeep d <;> simp [hq]
      rw [snoc_at hx, List.map_append, List.filter_append, List.map_cons, List.map_nil, hdd, hone]
    rw [up64 a (by omega)]
    have yes : dKeep d = true → ∀ w67, w67 = (World.alloc w59 (.cells #[(Value.string d.key), (Value.string d.old), (Value.string d.new), (Value.bool d.had), (Value.bool d.has)] 59)) →
        ∃ A68, ∃ A68l, ∃ A68c, ∃ w69, Sem.run Tryz.prog (Builtin.append_ #[23, 23] 23 #[(Value.slice A4 n4 c4), (Value.slice (some ⟨Array.size (World.heap w59), 0, none⟩) 1 1)]) w67 = .ok (Value.slice A68 A68l A68c) w69 ∧
        (∃ b : Nat, ((a + 1 : Nat) : Int) = (b : Int) ∧ b ≤ n2 ∧ Ext [] w42 w69 ∧ A68l ≤ b ∧ DOwn w69 w42.heap.size A68 A68l A68c ((((mergeU was now).take b).map fun x => dOf was now x.1).filter dKeep)) ∧ n2 - Int.toNat ((a + 1 : Nat) : Int) < n2 - Int.toNat (a : Int) := fun hk w67 h67 => by
      obtain ⟨A', c', w2, hr2, ho, he, hat⟩ := add_dl (d := d) (e48.trans e59) (own4.ext0 e59) h67 (by omega)
      exact ⟨_, _, _, _, hr2, ⟨a + 1, rfl, by omega, he, by omega, by rw [hstep, if_pos hk]; exact ho⟩, by simp only [Int.toNat_natCast]; omega⟩
    have no : dKeep d = false → (∃ b : Nat, ((a + 1 : Nat) : Int) = (b : Int) ∧ b ≤ n2 ∧ Ext [] w42 w59 ∧ n4 ≤ b ∧ DOwn w59 w42.heap.size A4 n4 c4 ((((mergeU was now).take b).map fun x => dOf was now x.1).filter dKeep)) ∧ n2 - Int.toNat ((a + 1 : Nat) : Int) < n2 - Int.toNat (a : Int) := fun hk =>
      ⟨⟨a + 1, rfl, by omega, e48.trans e59, by omega, by rw [hstep, if_neg (by simp [hk]), List.append_nil]; exact own4.ext0 e59⟩, by simp only [Int.toNat_natCast]; omega⟩
    have hki := keep_iff d
    refine ⟨w59, hr, _, cadd b59 rfl, _, cadd b59 rfl, sel_intro (fun hs => ⟨_, _, _, _, _, cadd0 b59, yes (by rw [hki, hs]; rfl)⟩) (fun hs => ⟨_, cadd b59 rfl, _, cadd b59 rfl, ?_⟩)⟩
    rw [beqBytes]
    refine sel_intro (fun hs2 => ⟨_, _, _, _, _, cadd0 b59, yes (by rw [hki, hs, hs2]; rfl)⟩) (fun hs2 => no (by rw [hki, hs, hs2]; rfl))
  · rw [List.take_of_length_le (by omega), ← hd] at own4
    exact k w48 A4 n4 c4 e48' (own4.weaken e42'.size) (by omega)

def C37 (d : DL) : Prop := (d.had = false ∧ d.has = false) ∨ (d.had = false ∧ d.old ≠ ByteArray.empty) ∨ (d.has = false ∧ d.new ≠ ByteArray.empty) ∨ (d.had = true ∧ d.has = true ∧ d.old = d.new)
def C32 (d : DL) : Prop := (d.had = true ∧ valS (bs d.old) = false) ∨ (d.has = true ∧ valS (bs d.new) = false)
instance (d : DL) : Decidable (C37 d) := by unfold C37; infer_instance
instance (d : DL) : Decidable (C32 d) := by unfold C32; infer_instance
open Classical in
/-- What bars a difference by itself, behind the one before it. -/
noncomputable def wrongR (p : Option ByteArray) (d : DL) : Int := if keyS (bs d.key) = false then 31 else if p = some d.key then 33 else if (∃ q, p = some q ∧ bs d.key < bs q) then 36 else if C37 d then 37 else if C32 d then 32 else 0
theorem wrong_split (p : Option ByteArray) (l : List Lab) (d : DL) : (wrongR p d ≠ 0 ∧ wrongS p l d = wrongR p d) ∨ (wrongR p d = 0 ∧ wrongS p l d = if (getS l d.key).2 ≠ d.had ∨ (getS l d.key).1 ≠ d.old then 38 else 0) := by
  unfold wrongR
  by_cases h1 : keyS (bs d.key) = false
  · rw [if_pos h1]; exact .inl ⟨by decide, wrong_key h1⟩
  rw [if_neg h1]
  have h1 : keyS (bs d.key) = true := by simpa using h1
  by_cases h2 : p = some d.key
  · rw [if_pos h2]; exact .inl ⟨by decide, wrong_dup h1 h2⟩
  rw [if_neg h2]
  by_cases h3 : ∃ q, p = some q ∧ bs d.key < bs q
  · rw [if_pos h3]; exact .inl ⟨by decide, wrong_ord h1 h2 h3⟩
  rw [if_neg h3, wrong_rest h1 h2 h3]
  by_cases h4 : C37 d
  · rw [if_pos h4]; exact .inl ⟨by decide, if_pos h4⟩
  rw [if_neg h4]
  by_cases h5 : C32 d
  · rw [if_pos h5]; exact .inl ⟨by decide, (if_neg h4).trans (if_pos h5)⟩
  rw [if_neg h5]
  refine .inr ⟨rfl, ?_⟩
  refine ((if_neg h4).trans (if_neg h5)).trans ?_
  unfold C37 at h4
  by_cases h6 : (getS l d.key).2 = d.had
  · cases hh : d.had
    · have e1 : (getS l d.key).1 = ByteArray.empty := by rw [getS_false (by rw [h6, hh])]
      have e2 : d.old = ByteArray.empty := Decidable.byContradiction fun hne => h4 (.inr (.inl ⟨hh, hne⟩))
      rw [if_neg (by rw [h6, hh]; simp), if_neg (by rw [h6, hh, e1, e2]; simp)]
    · by_cases h7 : d.old = (getS l d.key).1
      · rw [if_neg (by rw [h6, hh, h7]; simp), if_neg (by rw [h6, hh, h7]; simp)]
      · rw [if_pos (.inr ⟨rfl, h7⟩), if_pos (.inr fun e => h7 e.symm)]
  · rw [if_pos (.inl fun e => h6 e.symm), if_pos (.inl h6)]
variable {D : Option Addr} {q c3 : Nat} {ds : List DL}
set_option maxHeartbeats 2000000 in
theorem rwrong_c (hd : DIn w D q ds) {a : Nat} {x : DL} (hx : ds[a]? = some x)
    (k : ∀ w', Ext [] w w' → R (.returned (.int .i64 (wrongR (prevD ds a) x))) w') : Calls Tryz.prog 61 #[.slice D q c3, .int .i64 (a : Int)] w R := by
  apply berthref03_wrong_nf
  have hal := (List.getElem?_eq_some_iff.1 hx).1
  have hql := hd.len
  have hqb := hd.big
  obtain ⟨ad, rfl, rd⟩ := dif_cells hd.c hx
  refine when_dec ⟨by omega, by omega⟩ ⟨_, _, _, _, _, (rd w (Ext.refl _ _)).2, fun w9 h9 => ?_⟩
  obtain ⟨b9, x9, z9⟩ := box_new h9
  obtain ⟨w10, hr, b10, x10⟩ := storeW (P := Tryz.prog) (t := 59) (n := 5) (by kernel_rfl) b9 (vs := dcells x) rfl rfl (DLL.one x)
  have e10 : Ext [] w w10 := x9.trans' x10 fun b hb => .inr (by simp at hb; omega)
  refine ⟨w10, hr, _, cadd b10 rfl, rIsKey_c x.key fun w14 e14 => ⟨_, rfl, ?_⟩⟩
  have b14 := b10.ext e14 (by simp)
  have e14' := e10.trans e14
  refine ⟨_, cadd b14 rfl, rIsValue_c x.old ⟨_, rfl, _, cadd b14 rfl, rIsValue_c x.new ⟨_, rfl, ?_⟩⟩⟩
  have fin : ∀ {w' : World} {e : Int}, Ext [] w w' → wrongR (prevD ds a) x = e → R (.returned (.int .i64 e)) w' := fun {w' e} ew he => by
    have := k w' ew
    rw [he] at this; exact this
  refine sel_intro (fun hk => fin e14' (by unfold wrongR; rw [if_pos (nf_ hk)])) (fun hk => ?_)
  have hk := nt_ hk
  have hpn : ∀ (z : ByteArray), prevD ds a = some z → 0 < a := fun z hz => by
    rcases Nat.eq_zero_or_pos a with h | h
    · unfold prevD at hz; rw [if_pos h] at hz; cases hz
    · exact h
  have hpp : 0 < a → ∃ pd : DL, prevD ds a = some pd.key ∧ IntKind.wrap .i64 ((a : Int) - 1) = ((a - 1 : Nat) : Int) ∧ ∀ w', Ext [] w w' → w'.cell? (Addr.add (Addr.add ad ((Int.toNat ((a - 1 : Nat) : Int)) * 5)) 0) = some (.string pd.key) := fun h0 => by
    obtain ⟨pd, hpd⟩ : ∃ pd, ds[a - 1]? = some pd := ⟨_, List.getElem?_eq_getElem (by omega)⟩
    obtain ⟨ad', hA, rp⟩ := dif_cells hd.c hpd
    cases hA
    exact ⟨pd, by unfold prevD; rw [if_neg (by omega), hpd]; rfl, by rw [w64 (by omega) (by omega)]; omega, fun w' e => (rp w' e).1⟩
  refine ⟨fun t w' => w' = w14.drew ∧ (t = true ↔ prevD ds a = some x.key), sel_dec (fun hp => ?_) (fun hp => ⟨rfl, by simp; intro h; have := hpn _ h; omega⟩), ?_⟩
  · obtain ⟨pd, hpd, e1, rp⟩ := hpp (by omega)
    rw [e1]
    refine ⟨_, cadd b14 rfl, when_dec ⟨by omega, by omega⟩ ⟨_, rp w14 e14', rfl, ?_⟩⟩
    rw [beqBytes, decide_eq_true_eq, hpd, Option.some.injEq]; exact eq_comm
  rintro t _ _ ⟨rfl, ht⟩
  refine sel_intro (fun h => fin e14'.drew (by unfold wrongR; rw [if_neg (by rw [hk]; simp), if_pos (ht.1 h)])) (fun h => ?_)
  have hne : prevD ds a ≠ some x.key := fun hq => by rw [ht.2 hq] at h; cases h
  have b14d := b14.ext (Ext.refl [] w14).drew (by simp)
  refine ⟨fun t w' => w' = w14.drew.drew ∧ (t = true ↔ ∃ z, prevD ds a = some z ∧ bs x.key < bs z), sel_dec (fun hp => ?_) (fun hp => ⟨rfl, by simp; intro z h; have := hpn _ h; omega⟩), ?_⟩
  · obtain ⟨pd, hpd, e1, rp⟩ := hpp (by omega)
    rw [e1]
    refine ⟨_, cadd b14d rfl, when_dec ⟨by omega, by omega⟩ ⟨_, rp _ e14'.drew, rfl, ?_⟩⟩
    rw [less_iff, decide_eq_true_eq, hpd]
    exact ⟨fun h => ⟨_, rfl, h⟩, fun ⟨z, hz, h⟩ => by injection hz with hz; rw [hz]; exact h⟩
  rintro t2 _ _ ⟨rfl, ht2⟩
  refine sel_intro (fun h => fin e14'.drew.drew (by unfold wrongR; rw [if_neg (by rw [hk]; simp), if_neg hne, if_pos (ht2.1 h)])) (fun h2 => ?_)
  have hno : ¬ ∃ z, prevD ds a = some z ∧ bs x.key < bs z := fun hq => by rw [ht2.2 hq] at h2; cases h2
  have bb := b14d.ext (Ext.refl [] _).drew (by simp)
  have ee := e14'.drew.drew
  generalize w14.drew.drew = W at bb ee
  have hw : wrongR (prevD ds a) x = if C37 x then 37 else if C32 x then 32 else 0 := by unfold wrongR; rw [if_neg (by rw [hk]; simp), if_neg hne, if_neg hno]
  rw [hw] at fin
  clear k hw
  obtain ⟨key, old, new, had, has⟩ := x
  refine ⟨fun t w' => w' = W ∧ (t = true ↔ C37 ⟨key, old, new, had, has⟩), ⟨fun t w' => w' = W ∧ (t = true ↔ (had = false ∧ has = false)), ⟨_, cadd bb rfl, ?_⟩, ?_⟩, ?_⟩
  · exact sel_intro (fun h => ⟨_, cadd bb rfl, rfl, by simp at h; simp [h]⟩) (fun h => ⟨rfl, by simp at h; simp [h]⟩)
  · rintro t3 _ W1 ⟨rfl, h3⟩
    refine sel_intro (fun h => ⟨rfl, by rw [h]; exact ⟨fun _ => .inl (h3.1 h), fun _ => rfl⟩⟩) (fun h => ?_)
    have n3 : ¬ (had = false ∧ has = false) := fun hq => by rw [h3.2 hq] at h; cases h
    refine ⟨fun t w' => w' = W1 ∧ (t = true ↔ (had = false ∧ old ≠ ByteArray.empty)), ⟨_, cadd bb rfl, ?_⟩, ?_⟩
    · exact sel_intro (fun h => ⟨_, cadd bb rfl, rfl, by rw [beqBytes]; simp at h; simp [h]⟩) (fun h => ⟨rfl, by simp at h; simp [h]⟩)
    rintro t4 _ W2 ⟨rfl, h4⟩
    refine sel_intro (fun h => ⟨rfl, by rw [h]; exact ⟨fun _ => .inr (.inl (h4.1 h)), fun _ => rfl⟩⟩) (fun h => ?_)
    have n4 : ¬ (had = false ∧ old ≠ ByteArray.empty) := fun hq => by rw [h4.2 hq] at h; cases h
    refine ⟨fun t w' => w' = W2 ∧ (t = true ↔ (has = false ∧ new ≠ ByteArray.empty)), ⟨_, cadd bb rfl, ?_⟩, ?_⟩
    · exact sel_intro (fun h => ⟨_, cadd bb rfl, rfl, by rw [beqBytes]; simp at h; simp [h]⟩) (fun h => ⟨rfl, by simp at h; simp [h]⟩)
    rintro t5 _ W3 ⟨rfl, h5⟩
    refine sel_intro (fun h => ⟨rfl, by rw [h]; exact ⟨fun _ => .inr (.inr (.inl (h5.1 h))), fun _ => rfl⟩⟩) (fun h => ?_)
    have n5 : ¬ (has = false ∧ new ≠ ByteArray.empty) := fun hq => by rw [h5.2 hq] at h; cases h
    have last : C37 ⟨key, old, new, had, has⟩ ↔ (had = true ∧ has = true ∧ old = new) := ⟨fun hq => by
      rcases hq with h | h | h | h
      · exact absurd h n3
      · exact absurd h n4
      · exact absurd h n5
      · exact h, fun hq => .inr (.inr (.inr hq))⟩
    refine ⟨_, cadd bb rfl, sel_intro (fun h => ⟨_, cadd bb rfl, sel_intro (fun h' => ⟨_, cadd bb rfl, _, cadd bb rfl, rfl, ?_⟩) (fun h' => ⟨rfl, ?_⟩)⟩) (fun h => ⟨rfl, ?_⟩)⟩
    · rw [last, beqBytes]; simp at h h'; simp [h, h']
    · rw [last]; simp at h'; simp [h']
    · rw [last]; simp at h; simp [h]
  rintro t6 _ W4 ⟨rfl, h6⟩
  refine sel_intro (fun h => fin ee (by rw [if_pos (h6.1 h)])) (fun h => ?_)
  have n6 : ¬ C37 ⟨key, old, new, had, has⟩ := fun hq => by rw [h6.2 hq] at h; cases h
  rw [if_neg n6] at fin
  refine ⟨fun t w' => w' = W4 ∧ (t = true ↔ C32 ⟨key, old, new, had, has⟩), ⟨fun t w' => w' = W4 ∧ (t = true ↔ (had = true ∧ valS (bs old) = false)), ⟨_, cadd bb rfl, ?_⟩, ?_⟩, ?_⟩
  · exact sel_intro (fun h => ⟨rfl, by simp at h; simp [h]⟩) (fun h => ⟨rfl, by simp at h; simp [h]⟩)
  · rintro t7 _ W5 ⟨rfl, h7⟩
    refine sel_intro (fun h => ⟨rfl, by rw [h]; exact ⟨fun _ => .inl (h7.1 h), fun _ => rfl⟩⟩) (fun h => ?_)
    have n7 : ¬ (had = true ∧ valS (bs old) = false) := fun hq => by rw [h7.2 hq] at h; cases h
    have last : C32 ⟨key, old, new, had, has⟩ ↔ (has = true ∧ valS (bs new) = false) := ⟨fun hq => by
      rcases hq with h | h
      · exact absurd h n7
      · exact h, fun hq => .inr hq⟩
    refine ⟨_, cadd bb rfl, sel_intro (fun h => ⟨rfl, ?_⟩) (fun h => ⟨rfl, ?_⟩)⟩
    · rw [last]; simp at h; simp [h]
    · rw [last]; simp at h; simp [h]
  rintro t8 _ W6 ⟨rfl, h8⟩
  refine sel_intro (fun h => fin ee (by rw [if_pos (h8.1 h)])) (fun h => fin ee ?_)
  rw [if_neg fun hq => by rw [h8.2 hq] at h; cases h]
end
end Go.Proofs.YtcohengppaighaaGreatDoor
namespace Go.Proofs.YtcohengppaighaaGreatDoor
open Go Go.V Go.B

set_option maxHeartbeats 2000000 in
theorem rPatch_c {w : World} {A : Option Addr} {n c : Nat} {l : List Lab} (h : LIn w A n l) {D : Option Addr} {q c3 : Nat} {ds : List DL} (hd : DIn w D q ds) {R : Ending → World → Prop}
    (k : ∀ w' A' n' c', Ext [] w w' → LOwn w' w.heap.size A' n' c' (patchS l ds).1 → R (.returned (.tuple #[.slice A' n' c', .int .i64 (patchS l ds).2])) w') : Calls Tryz.prog 40 #[.slice A n c, .slice D q c3] w R := by
  apply berthref03_Patch_nf
  have hql := hd.len
  have hqb := hd.big
  have bad : ∀ {w' : World} {e : Int}, Ext [] w w' → patchS l ds = ([], e) → R (.returned (.tuple #[.slice none 0 0, .int .i64 e])) w' := fun {w' e} ew he => by
    have := k w' none 0 0 ew (by rw [he]; exact LstL.nil _ _ _)
    rw [he] at this; exact this
  refine rCheck_c h fun w6 e6 => ⟨_, _, rfl, sel_intro (fun hc => ?_) (fun hc w7 h7 => ?_)⟩
  · have hc : (checkS l).2 ≠ 0 := by simpa using hc
    exact bad e6 (by unfold patchS; rw [if_pos hc])
  have hc : (checkS l).2 = 0 := by simpa using hc
  have ok := checkS_zero.1 hc
  have hps : patchS l ds = patchGo l none l ds := by unfold patchS; rw [if_neg (by simpa using hc)]
  have hl := h.len
  have hll := ok.len
  obtain ⟨A7, c7, w9, hr9, o9, e9⟩ := copyL (L := LbL) (P := Tryz.prog) (t := 22) (ty := 22) (e := 40) (xs := l) (m := n) (by exact Tryz.underlying22) infoL rfl (by decide) (h.ext0 e6).c hl h7 (by omega) c
  have e9' := e6.trans e9
  refine ⟨_, _, _, _, hr9, ?_⟩
  refine ⟨fun e A' n' c' t w' => ∃ (a : Nat) (out : List Lab), t = a ∧ a ≤ q ∧ Ext [] w w' ∧ LOwn w' w.heap.size A' n' c' out ∧ n' ≤ 32 + a ∧ Pat l (prevD ds a) out ∧ patchGo l none l ds = patchGo l (prevD ds a) out (ds.drop a), fun _ _ _ _ t _ => q - t.toNat,
    ⟨0, l, rfl, by omega, e9', o9.lst.weaken e6.size, by omega, Pat.start ok.ris, rfl⟩, ?_⟩
  rintro e0 A' n' c' _ _ w15 ⟨a, out, rfl, ha, e15, own, hn', hpat, hgo⟩
  refine sel_dec (fun hlt => when_dec ⟨by omega, by omega⟩ ?_) (fun hge => ?_)
  · obtain ⟨d, hx⟩ : ∃ d, ds[a]? = some d := ⟨_, List.getElem?_eq_getElem (by omega)⟩
    have hD := hd
    obtain ⟨ad, rfl, rd⟩ := dif_cells hd.c hx
    have hsz := hd.sz d (List.mem_of_getElem? hx)
    have hol := own.len
    rw [drop_at hx, patchGo] at hgo
    have hp1 : prevD ds (a + 1) = some d.key := by unfold prevD; rw [if_neg (by omega), Nat.add_sub_cancel, hx]; rfl
    have err : ∀ {w' : World} {e : Int}, Ext [] w w' → wrongS (prevD ds a) l d = e → e ≠ 0 → R (.returned (.tuple #[.slice none 0 0, .int .i64 e])) w' := fun {w' e} ew hw hne => bad ew (by rw [hps, hgo, if_neg (by rw [hw]; exact hne), hw])
    refine ⟨_, _, _, _, _, (rd w15 e15).2, fun w22 h22 => ?_⟩
    obtain ⟨b22, x22, z22⟩ := box_new h22
    obtain ⟨w23, hr, b23, x23⟩ := storeW (P := Tryz.prog) (t := 59) (n := 5) (by kernel_rfl) b22 (vs := dcells d) rfl rfl (DLL.one d)
    have e23 : Ext [] w15 w23 := x22.trans' x23 fun b hb => .inr (by simp at hb; omega)
    refine ⟨w23, hr, rwrong_c (hD.ext0 (e15.trans e23)) hx fun w27 e27 => ⟨_, rfl, ?_⟩⟩
    have b27 := b23.ext e27 (by simp)
    have e27' := e23.trans e27
    have x27 := e15.trans e27'
    rcases wrong_split (prevD ds a) l d with ⟨hw1, hw2⟩ | ⟨hw1, hw2⟩
    · exact sel_true (by simpa using hw1) (err x27 hw2 hw1)
    rw [hw1]
    refine sel_false rfl ⟨_, cadd b27 rfl, rGet_c (h.ext0 x27).c hl h.big d.key ⟨_, _, rfl, _, cadd b27 rfl, ?_⟩⟩
    refine sel_intro (fun hs => err x27 (e := 38) (by rw [hw2, if_pos (.inl (by simpa using hs))]) (by decide)) (fun hs => ⟨_, cadd b27 rfl, sel_intro (fun hs2 => err x27 (e := 38) (by rw [hw2, if_pos (.inr (by rw [beqBytes] at hs2; simpa using hs2))]) (by decide)) (fun hs2 => ?_)⟩)
    have hs : (getS l d.key).2 = d.had := by simpa using hs
    have hs2 : (getS l d.key).1 = d.old := by rw [beqBytes] at hs2; simpa using hs2
    have hf : wrongS (prevD ds a) l d = 0 := by rw [hw2, if_neg (by rw [hs, hs2]; simp)]
    rw [if_pos hf, ← hp1] at hgo
    have hpat2 := hpat.step hf
    rw [← hp1] at hpat2
    have own41 := own.ext0 e27'
    -- what comes last
    have last : ∀ {w' : World} {B : Option Addr} {m c2 : Nat} {out2 : List Lab}, Ext [] w27 w' → LOwn w' w.heap.size B m c2 out2 → m ≤ 32 + a → stepP out d = out2 ++ (if d.has = true then [(d.key, d.new)] else []) →
        (∃ b48, World.cell? w' (Addr.add ⟨Array.size (World.heap w15), 0, none⟩ 4) = some (Value.bool b48) ∧
          V.sel b48
          (∃ s49, World.cell? w' (Addr.add ⟨Array.size (World.heap w15), 0, none⟩ 0) = some (Value.string s49) ∧
          ∃ s50, World.cell? w' (Addr.add ⟨Array.size (World.heap w15), 0, none⟩ 2) = some (Value.string s50) ∧
          ∀ w51, w51 = (World.alloc w' (.cells #[(Value.string s49), (Value.string s50)] 40)) →
          ∃ A52, ∃ A52l, ∃ A52c, ∃ w53, Sem.run Tryz.prog (Builtin.append_ #[22, 22] 22 #[(Value.slice B m c2), (Value.slice (some ⟨Array.size (World.heap w'), 0, none⟩) 1 1)]) w51 = .ok (Value.slice A52 A52l A52c) w53 ∧
          (∃ (a_1 : Nat) (out : List Lab), IntKind.wrap .i64 ((a : Int) + 1) = (a_1 : Int) ∧ a_1 ≤ q ∧ Ext [] w w53 ∧ LOwn w53 w.heap.size A52 A52l A52c out ∧ A52l ≤ 32 + a_1 ∧ Pat l (prevD ds a_1) out ∧ patchGo l none l ds = patchGo l (prevD ds a_1) out (ds.drop a_1)) ∧ q - Int.toNat (IntKind.wrap .i64 ((a : Int) + 1)) < q - Int.toNat (a : Int))
          ((∃ (a_1 : Nat) (out : List Lab), IntKind.wrap .i64 ((a : Int) + 1) = (a_1 : Int) ∧ a_1 ≤ q ∧ Ext [] w w' ∧ LOwn w' w.heap.size B m c2 out ∧ m ≤ 32 + a_1 ∧ Pat l (prevD ds a_1) out ∧ patchGo l none l ds = patchGo l (prevD ds a_1) out (ds.drop a_1)) ∧ q - Int.toNat (IntKind.wrap .i64 ((a : Int) + 1)) < q - Int.toNat (a : Int))) := by
      intro w' B m c2 out2 ew ow hm hst
      have bw := b27.ext ew (by simp)
      refine ⟨_, cadd bw rfl, sel_intro (fun hh => ⟨_, cadd bw rfl, _, cadd bw rfl, fun w51 h51 => ?_⟩) (fun hh => ?_)⟩
      · rw [if_pos hh] at hst
        obtain ⟨A2, c2', w2, hr2, ho, he2, _⟩ := more_lab (x27.trans ew) ow h51 (by omega)
        refine ⟨_, _, _, _, hr2, ?_⟩
        rw [up64 a (by omega)]
        exact ⟨⟨a + 1, _, rfl, by omega, he2, ho, by omega, by rw [← hst]; exact hpat2, by rw [hgo, hst]⟩, by simp only [Int.toNat_natCast]; omega⟩
      · rw [if_neg (by rw [hh]; simp), List.append_nil] at hst
        rw [up64 a (by omega)]
        exact ⟨⟨a + 1, _, rfl, by omega, x27.trans ew, ow, by omega, by rw [← hst]; exact hpat2, by rw [hgo, hst]⟩, by simp only [Int.toNat_natCast]; omega⟩
    refine ⟨_, cadd b27 rfl, sel_intro (fun hh => ⟨_, cadd b27 rfl, ?_⟩) (fun hh => ?_)⟩
    · refine rwithout_c own41.cells hol (by omega) d.key fun w47 A44 n44 c44 e47 o47 hle => ⟨_, _, _, rfl, ?_⟩
      exact last e47 (o47.weaken x27.size) (by omega) (by unfold stepP; rw [if_pos hh])
    · exact last (Ext.refl _ _) own41 hn' (by unfold stepP; rw [if_neg (by rw [hh]; simp)])
  · have hdr : ds.drop a = [] := List.drop_eq_nil_of_le (by omega)
    rw [hdr, patchGo] at hgo
    have hol := own.len
    refine sel_dec (fun hgt => bad e15 (by rw [hps, hgo, if_pos (by omega)])) (fun hle => ?_)
    rw [if_neg (by omega)] at hgo
    refine rRise_c own.cells hol (by omega) hpat.nodup fun w143 A141 c141 e143 o143 => ⟨_, _, _, rfl, ?_⟩
    have hh : patchS l ds = (sortS out, 0) := by rw [hps, hgo]
    have := k w143 A141 n' c141 (e15.trans e143) (by rw [hh]; exact o143.weaken e15.size)
    rw [hh] at this; exact this
end Go.Proofs.YtcohengppaighaaGreatDoor
