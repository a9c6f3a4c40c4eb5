/- Labels, the document's answer: names, keys, values. -/
import Derived.Test.YtpipenkaaodlgaaGreatDoorLbc
import Derived.Test.YtpipenkaaodlgaaGreatDoorG2
set_option linter.unusedVariables false
set_option linter.unusedSimpArgs false
namespace Go.Proofs.YtpipenkaaodlgaaGreatDoor
open Go Go.V Go.B

theorem rlow_c (c : Int) {w : World} {R : Ending → World → Prop} (k : R (.returned (.bool (lowB c))) w) : Calls Tryz.prog 104 #[.int .u8 c] w R := by
  apply berthref03_low_nf
  unfold lowB at k
  refine sel_dec (fun h1 => sel_dec (fun h2 => ?_) (fun h2 => sel_dec (fun h3 => ?_) (fun h3 => ?_))) (fun h1 => sel_dec (fun h3 => ?_) (fun h3 => ?_))
  · rw [decide_eq_true (.inl ⟨h1, h2⟩)] at k; exact k
  · rw [decide_eq_false (by omega)] at k; rw [decide_eq_false (by omega)]; exact k
  · omega
  · by_cases h : c ≤ 57
    · rw [decide_eq_true (.inr ⟨h3, h⟩)] at k; rw [decide_eq_true h]; exact k
    · rw [decide_eq_false (by omega)] at k; rw [decide_eq_false h]; exact k
  · rw [decide_eq_false (by omega)] at k; exact k
theorem rword_c (c : Int) {w : World} {R : Ending → World → Prop} (k : R (.returned (.bool (wordB c))) w) : Calls Tryz.prog 83 #[.int .u8 c] w R := by
  apply berthref03_word_nf
  unfold wordB at k
  refine rlow_c c ⟨_, rfl, sel_intro (fun h => ?_) (fun h => sel_dec (fun h1 => ?_) (fun h1 => ?_))⟩
  · rw [h] at k; exact k
  · rw [h, Bool.false_or] at k
    by_cases h2 : c ≤ 90
    · rw [decide_eq_true ⟨h1, h2⟩] at k; rw [decide_eq_true h2]; exact k
    · rw [decide_eq_false (by omega)] at k; rw [decide_eq_false h2]; exact k
  · rw [h, Bool.false_or, decide_eq_false (by omega)] at k; exact k
theorem rinner_c (c : Int) {w : World} {R : Ending → World → Prop} (k : R (.returned (.bool (innerB c))) w) : Calls Tryz.prog 82 #[.int .u8 c] w R := by
  apply berthref03_inner_nf
  unfold innerB at k
  refine rword_c c ⟨_, rfl, sel_intro (fun h => ?_) (fun h => ?_)⟩
  · rw [h] at k; exact k
  rw [h, Bool.false_or] at k
  refine sel_intro (fun h1 => ?_) (fun h1 => sel_intro (fun h2 => ?_) (fun h2 => ?_))
  · have h1 : c = 45 := by simpa using h1
    rw [decide_eq_true (.inl h1)] at k; exact k
  · have h2 : c = 95 := by simpa using h2
    rw [decide_eq_true (.inr (.inl h2))] at k; exact k
  · have h1 : c ≠ 45 := by simpa using h1
    have h2 : c ≠ 95 := by simpa using h2
    by_cases h3 : c = 46
    · rw [decide_eq_true (.inr (.inr h3))] at k
      rw [h3]; exact k
    · rw [decide_eq_false (by omega)] at k
      rw [show (c == 46) = false by simpa using h3]; exact k
theorem bs_ext (s : ByteArray) (a b : Nat) : bs (s.extract a b) = ((bs s).drop a).take (b - a) := by
  show (s.extract a b).data.toList = _
  simp only [ByteArray.data_extract, Array.toList_extract, List.extract_eq_take_drop]
  rfl
theorem infoS : (Tryz.prog.info? 9).map (fun i => (i.zero, i.size, i.bytes)) = some (some (.string ByteArray.empty), 1, 16) := by kernel_rfl
theorem more_str {w W w18 : World} {A : Option Addr} {n c : Nat} {l : List ByteArray} {x : ByteArray} (e : Ext [] w W) (own : LstL SL W w.heap.size 9 A n c l) (h18 : w18 = W.alloc (.cells #[.string x] 9)) (hn : (n + 1) * 16 ≤ 140737488355328) :
    ∃ A' c' w2, (Builtin.append_ #[23, 23] 23 #[.slice A n c, .slice (some ⟨W.heap.size, 0, none⟩) 1 1]).run Tryz.prog w18 = .ok (.slice A' (n + 1) c') w2 ∧ LstL SL w2 w.heap.size 9 A' (n + 1) c' (l ++ [x]) ∧ Ext [] w w2 := by
  obtain ⟨b18, x18, z18⟩ := box_new h18
  have e18 := e.trans x18
  obtain ⟨A', c', w2, hr, ho, he, hat⟩ := LstL.more (P := Tryz.prog) (t := 23) (ty := 23) (x := x) (by exact Tryz.underlying23) infoS rfl (by decide) (own.ext0 x18) b18 e18.size hn
  exact ⟨A', c', w2, hr, ho, Ext.old e18 (fun b hb => (own.fresh b hb).1) he⟩
theorem cutS_len (c : UInt8) (l : List UInt8) : (cutS c l).length ≤ l.length + 1 := by
  induction l with
  | nil => simp [cutS]
  | cons x r ih =>
    unfold cutS
    split
    · simp; omega
    · split
      · simp
      · rename_i p qs hq
        rw [hq] at ih
        simp at ih ⊢; omega
theorem cutS_sub (c : UInt8) : ∀ (l : List UInt8), ∀ q ∈ cutS c l, q.length ≤ l.length := by
  intro l
  induction l with
  | nil => intro q hq; simp [cutS] at hq; subst hq; simp
  | cons x r ih =>
    intro q hq
    unfold cutS at hq
    split at hq
    · rcases List.mem_cons.1 hq with rfl | hq
      · simp
      · have := ih q hq; simp; omega
    · split at hq
      · simp at hq; subst hq; simp
      · rename_i u us hu
        rw [hu] at ih
        rcases List.mem_cons.1 hq with rfl | hq
        · have := ih u (by simp); simp; omega
        · have := ih q (by simp [hq]); simp; omega
/-- cut: the text at each byte c. -/
theorem rcut_c (s : ByteArray) (c : UInt8) {w : World} (hs : s.size ≤ 8192) {R : Ending → World → Prop}
    (k : ∀ w' A c' (ps : List ByteArray), Ext [] w w' → Cells w' A (SL.flat ps) → ps.map bs = cutS c (bs s) → R (.returned (.slice A ps.length c')) w') : Calls Tryz.prog 79 #[.string s, .int .u8 (c.toNat : Int)] w R := by
  apply berthref03_cut_nf
  have hl := bs_len s
  refine ⟨fun A n c' f t w' => ∃ (a b : Nat) (ps : List ByteArray), f = b ∧ t = a ∧ b ≤ a ∧ a ≤ s.size ∧ Ext [] w w' ∧ LstL SL w' w.heap.size 9 A n c' ps ∧ n ≤ a ∧ c ∉ ((bs s).drop b).take (a - b) ∧ ps.map bs ++ cutS c ((bs s).drop b) = cutS c (bs s), fun _ _ _ _ t _ => s.size - t.toNat,
    ⟨0, 0, [], rfl, rfl, by omega, by omega, Ext.refl _ _, LstL.nil _ _ _, by omega, by simp, rfl⟩, ?_⟩
  rintro A n c' _ _ _ w9 ⟨a, b, ps, rfl, rfl, hba, ha, e9, own, hn, hno, hcut⟩
  have hol := own.len
  refine sel_dec (fun hlt => when_dec ⟨by omega, by omega⟩ ?_) (fun hge => ?_)
  · obtain ⟨d, hd, hb⟩ := byte_get (s := s) (i := a) (by omega)
    have hd2 : ((bs s).drop b)[a - b]? = some d := by rw [List.getElem?_drop, ← hd]; congr 1; omega
    rw [hb]
    refine sel_intro (fun he => ?_) (fun he => ?_)
    · have he : (d.toNat : Int) = (c.toNat : Int) := by simpa using he
      have he : d = c := UInt8.toNat_inj.1 (by omega)
      subst he
      refine when_dec ⟨by omega, by omega⟩ (when_dec ⟨by omega, by omega⟩ fun w10 h10 => ?_)
      obtain ⟨A', c2, w2, hr, ho, he⟩ := more_str e9 own h10 (by omega)
      refine ⟨_, _, _, _, hr, ?_⟩
      rw [up64 a (by omega)]
      refine ⟨⟨a + 1, a + 1, _, rfl, rfl, by omega, by omega, he, ho, by omega, by simp, ?_⟩, by simp only [Int.toNat_natCast]; omega⟩
      have hsplit : (bs s).drop b = ((bs s).drop b).take (a - b) ++ d :: (bs s).drop (a + 1) := by
        obtain ⟨g1, g2⟩ := List.getElem?_eq_some_iff.1 hd2
        conv => lhs; rw [← List.take_append_drop (a - b) ((bs s).drop b)]
        rw [List.drop_eq_getElem_cons g1, g2, List.drop_drop, show b + (a - b + 1) = a + 1 by omega]
      rw [hsplit, cutS_app hno] at hcut
      rw [← hcut, List.map_append, List.append_assoc, List.map_cons, List.map_nil, bs_ext]
      simp only [Int.toNat_natCast, List.cons_append, List.nil_append]
    · have he : (d.toNat : Int) ≠ (c.toNat : Int) := by simpa using he
      rw [up64 a (by omega)]
      refine ⟨⟨a + 1, b, ps, rfl, rfl, by omega, by omega, e9, own, by omega, ?_, hcut⟩, by simp only [Int.toNat_natCast]; omega⟩
      rw [show a + 1 - b = (a - b) + 1 by omega, snoc_at hd2]
      intro hm
      simp only [List.mem_append, List.mem_singleton] at hm
      rcases hm with hm | rfl
      · exact hno hm
      · exact he rfl
  · have : a = s.size := by omega
    subst this
    refine when_dec ⟨by omega, by omega⟩ fun w13 h13 => ?_
    obtain ⟨A', c2, w2, hr, ho, he⟩ := more_str e9 own h13 (by omega)
    refine ⟨_, _, _, _, hr, ?_⟩
    have hfin := k w2 A' c2 (ps ++ [s.extract (Int.toNat (b : Int)) s.size]) he ho.cells ?_
    · rw [List.length_append, hol] at hfin; exact hfin
    · rw [List.take_of_length_le (by simp; omega)] at hno
      rw [cutS_not hno] at hcut
      rw [← hcut, List.map_append, List.map_cons, List.map_nil, bs_ext, Int.toNat_natCast, List.take_of_length_le (by simp; omega)]
theorem last_ix' {s : ByteArray} (h : 1 ≤ s.size) (h2 : s.size ≤ 8192) : IntKind.wrap .i64 (((s.size : Nat) : Int) - 1) = ((s.size - 1 : Nat) : Int) := by rw [w64 (by omega) (by omega)]; omega
theorem size_pos {s : ByteArray} (h : (ByteArray.toList s == ByteArray.toList ByteArray.empty) = false) : 1 ≤ s.size := by
  rw [beqBytes, decide_eq_false_iff_not] at h
  rcases Nat.lt_or_ge s.size 1 with h0 | h0
  · exact absurd (bs_inj (by rw [bs_nil h0]; rfl)) h
  · exact h0
theorem rpart_c (s : ByteArray) (hs : s.size ≤ 8192) {w : World} {R : Ending → World → Prop} (k : R (.returned (.bool (partS (bs s)))) w) : Calls Tryz.prog 103 #[.string s] w R := by
  apply berthref03_part_nf
  have hl := bs_len s
  have no : partS (bs s) = false → R (.returned (.bool false)) w := fun h => by rw [h] at k; exact k
  refine sel_intro (fun h => no ?_) (fun h => ?_)
  · rw [beqBytes, decide_eq_true_eq] at h
    subst h; rfl
  have hpos := size_pos h
  have hh := byte_head hpos
  have hla := byte_last hpos
  rw [last_ix' hpos hs, hh, hla]
  refine ⟨fun t w' => ∃ a : Nat, t = a ∧ a ≤ s.size ∧ w' = w ∧ ∀ x ∈ (bs s).take a, (lowU x || x == 45) = true, fun t _ => s.size - t.toNat, ⟨0, rfl, by omega, rfl, by simp⟩, ?_⟩
  rintro _ _ _ ⟨a, rfl, ha, rfl, hin⟩
  refine sel_dec (fun hlt => ?_) (fun hge => ?_)
  · obtain ⟨c, hcc, hb3⟩ := byte_get (s := s) (i := a) (by omega)
    rw [hb3]
    refine when_dec ⟨by omega, by omega⟩ (rlow_c _ ⟨_, rfl, ?_⟩)
    rw [up64 a (by omega)]
    refine sel_intro (fun hb4 => when_dec ⟨by omega, by omega⟩ (sel_intro (fun h45 => no ?_) (fun h45 => ?_))) (fun hb4 => ?_)
    · have f1 : lowU c = false := nf_ hb4
      have f2 : (c == 45) = false := by
        rw [beq_eq_false_iff_ne]
        intro e3
        rw [e3] at h45
        exact absurd h45 (by decide)
      unfold partS; rw [all_no hcc (p := fun c => lowU c || c == 45) (by rw [f1, f2]; rfl)]; simp
    · have e3 : (c.toNat : Int) = 45 := by simpa using h45
      have e4 : c = 45 := UInt8.toNat_inj.1 (by show _ = 45; omega)
      exact ⟨⟨a + 1, rfl, by omega, rfl, all_more hcc (by rw [e4]; simp) hin⟩, by simp only [Int.toNat_natCast]; omega⟩
    · exact ⟨⟨a + 1, rfl, by omega, rfl, all_more hcc (by rw [show lowU c = true from nt_ hb4]; rfl) hin⟩, by simp only [Int.toNat_natCast]; omega⟩
  · have hall := all_yes (l := bs s) (p := fun c => lowU c || c == 45) (i := a) (by omega) hin
    refine when_dec ⟨by omega, by omega⟩ (rlow_c _ ⟨_, rfl, sel_intro (fun hb => when_dec ⟨by omega, by omega⟩ (rlow_c _ ⟨_, rfl, ?_⟩)) (fun hb => no ?_)⟩)
    · have e : partS (bs s) = lowU ((bs s).getLastD 0) := by
        unfold partS
        rw [hall, decide_eq_true (bs_ne hpos), show lowU ((bs s).headD 0) = true from hb]; simp
      rw [e] at k; exact k
    · unfold partS; rw [show lowU ((bs s).headD 0) = false from hb]; simp
theorem rIsName_c (s : ByteArray) {w : World} {R : Ending → World → Prop} (k : ∀ w', Ext [] w w' → R (.returned (.bool (nameS (bs s)))) w') : Calls Tryz.prog 81 #[.string s] w R := by
  apply berthref03_IsName_nf
  have hl := bs_len s
  have no : nameS (bs s) = false → ∀ w', Ext [] w w' → R (.returned (.bool false)) w' := fun h w' e => by have := k w' e; rw [h] at this; exact this
  refine sel_dec (fun h => no (by unfold nameS; rw [decide_eq_false (show ¬ (bs s).length ≤ 63 by omega)]; rfl) w (Ext.refl _ _)) (fun h2 => ?_)
  refine rcut_c s 46 (by omega) fun w4 A c4 ps e4 hc hps => ⟨_, _, _, rfl, ?_⟩
  have hpl : ps.length ≤ 64 := by
    have h3 := cutS_len 46 (bs s)
    rw [← hps, List.length_map] at h3
    omega
  refine ⟨fun t w' => ∃ a : Nat, t = a ∧ a ≤ ps.length ∧ w' = w4 ∧ ∀ p ∈ ps.take a, partS (bs p) = true, fun t _ => ps.length - t.toNat, ⟨0, rfl, by omega, rfl, by simp⟩, ?_⟩
  rintro _ _ _ ⟨a, rfl, ha, rfl, hall⟩
  refine sel_dec (fun hlt => when_dec ⟨by omega, by omega⟩ ?_) (fun hge => ?_)
  · obtain ⟨p, hp⟩ : ∃ p, ps[a]? = some p := ⟨_, List.getElem?_eq_getElem (by omega)⟩
    obtain ⟨ad, rfl, hcell⟩ := SL_at hc hp
    have hm : bs p ∈ cutS 46 (bs s) := by rw [← hps]; exact List.mem_map_of_mem (List.mem_of_getElem? hp)
    have hp63 := cutS_sub 46 _ _ hm
    have hpl2 := bs_len p
    refine ⟨p, hcell, rpart_c p (by omega) ⟨_, rfl, sel_intro (fun hb => no ?_ _ e4) (fun hb => ?_)⟩⟩
    · unfold nameS
      rw [← hps]
      have : (ps.map bs).all partS = false := by
        rw [Bool.eq_false_iff]
        intro ha
        have := List.all_eq_true.1 ha (bs p) (List.mem_map_of_mem (List.mem_of_getElem? hp))
        rw [nf_ hb] at this; cases this
      rw [this]; simp
    · rw [up64 a (by omega)]
      refine ⟨⟨a + 1, rfl, by omega, rfl, fun q hq => ?_⟩, by simp only [Int.toNat_natCast]; omega⟩
      rw [snoc_at hp] at hq
      simp only [List.mem_append, List.mem_singleton] at hq
      rcases hq with hq | rfl
      · exact hall q hq
      · exact nt_ hb
  · have : nameS (bs s) = true := by
      unfold nameS
      rw [← hps, decide_eq_true (show (bs s).length ≤ 63 by omega), Bool.true_and, List.all_map]
      rw [List.take_of_length_le (by omega)] at hall
      exact List.all_eq_true.2 hall
    have h3 := k _ e4
    rw [this] at h3; exact h3
theorem rshort_c (s : ByteArray) {w : World} {R : Ending → World → Prop} (k : R (.returned (.bool (shortS (bs s)))) w) : Calls Tryz.prog 80 #[.string s] w R := by
  apply berthref03_short_nf
  have hl := bs_len s
  have no : shortS (bs s) = false → R (.returned (.bool false)) w := fun h => by rw [h] at k; exact k
  refine sel_intro (fun h => no ?_) (fun h => sel_dec (fun h => no (by unfold shortS; rw [decide_eq_false (show ¬ (bs s).length ≤ 63 by omega)]; simp)) (fun h2 => ?_))
  · rw [beqBytes, decide_eq_true_eq] at h
    subst h; rfl
  have hpos := size_pos h
  have hh := byte_head hpos
  have hla := byte_last hpos
  rw [last_ix' hpos (by omega), hh, hla]
  refine ⟨fun t w' => ∃ a : Nat, t = a ∧ a ≤ s.size ∧ w' = w ∧ ∀ x ∈ (bs s).take a, innerU x = true, fun t _ => s.size - t.toNat, ⟨0, rfl, by omega, rfl, by simp⟩, ?_⟩
  rintro _ _ _ ⟨a, rfl, ha, rfl, hall⟩
  refine sel_dec (fun hlt => ?_) (fun hge => ?_)
  · obtain ⟨c, hc, hb⟩ := byte_get (s := s) (i := a) (by omega)
    rw [hb]
    refine when_dec ⟨by omega, by omega⟩ (rinner_c _ ⟨_, rfl, sel_intro (fun hi => no ?_) (fun hi => ?_)⟩)
    · have : innerU c = false := nf_ hi
      unfold shortS; rw [all_no hc this]; simp
    · have : innerU c = true := nt_ hi
      rw [up64 a (by omega)]
      exact ⟨⟨a + 1, rfl, by omega, rfl, all_more hc this hall⟩, by simp only [Int.toNat_natCast]; omega⟩
  · have hin := all_yes (l := bs s) (p := innerU) (i := a) (by omega) hall
    refine when_dec ⟨by omega, by omega⟩ (rword_c _ ⟨_, rfl, sel_intro (fun hb => when_dec ⟨by omega, by omega⟩ (rword_c _ ⟨_, rfl, ?_⟩)) (fun hb => no ?_)⟩)
    · have e : shortS (bs s) = wordU ((bs s).getLastD 0) := by
        unfold shortS
        rw [hin, decide_eq_true (bs_ne hpos), decide_eq_true (show (bs s).length ≤ 63 by omega), show wordU ((bs s).headD 0) = true from hb]; simp
      rw [e] at k; exact k
    · unfold shortS; rw [show wordU ((bs s).headD 0) = false from hb]; simp
theorem rIsValue_c (s : ByteArray) {w : World} {R : Ending → World → Prop} (k : R (.returned (.bool (valS (bs s)))) w) : Calls Tryz.prog 58 #[.string s] w R := by
  apply berthref03_IsValue_nf
  have hl := bs_len s
  refine sel_intro (fun h => ?_) (fun h => ?_)
  · rw [beqBytes, decide_eq_true_eq] at h
    subst h; exact k
  have hpos := size_pos h
  have hn := bs_ne hpos
  have no : valS (bs s) = false → R (.returned (.bool false)) w := fun h => by rw [h] at k; exact k
  refine sel_dec (fun h => no (by unfold valS; rw [decide_eq_false hn, decide_eq_false (show ¬ (bs s).length ≤ 63 by omega)]; simp)) (fun h2 => ?_)
  have hh := byte_head hpos
  have hla := byte_last hpos
  rw [last_ix' hpos (by omega), hh, hla]
  refine ⟨fun t w' => ∃ a : Nat, t = a ∧ a ≤ s.size ∧ w' = w ∧ ∀ x ∈ (bs s).take a, innerU x = true, fun t _ => s.size - t.toNat, ⟨0, rfl, by omega, rfl, by simp⟩, ?_⟩
  rintro _ _ _ ⟨a, rfl, ha, rfl, hall⟩
  refine sel_dec (fun hlt => ?_) (fun hge => ?_)
  · obtain ⟨c, hc, hb⟩ := byte_get (s := s) (i := a) (by omega)
    rw [hb]
    refine when_dec ⟨by omega, by omega⟩ (rinner_c _ ⟨_, rfl, sel_intro (fun hi => no ?_) (fun hi => ?_)⟩)
    · have : innerU c = false := nf_ hi
      unfold valS; rw [all_no hc this, decide_eq_false hn]; simp
    · have : innerU c = true := nt_ hi
      rw [up64 a (by omega)]
      exact ⟨⟨a + 1, rfl, by omega, rfl, all_more hc this hall⟩, by simp only [Int.toNat_natCast]; omega⟩
  · have hin := all_yes (l := bs s) (p := innerU) (i := a) (by omega) hall
    have e : valS (bs s) = ((wordU ((bs s).headD 0) || (bs s).headD 0 == 45) && wordU ((bs s).getLastD 0)) := by
      unfold valS
      rw [hin, decide_eq_false hn, decide_eq_true (show (bs s).length ≤ 63 by omega)]; simp
    rw [e] at k
    refine when_dec ⟨by omega, by omega⟩ (rword_c _ ⟨_, rfl, sel_intro (fun hb => when_dec ⟨by omega, by omega⟩ (rword_c _ ⟨_, rfl, ?_⟩)) (fun hb => when_dec ⟨by omega, by omega⟩ (sel_intro (fun h45 => when_dec ⟨by omega, by omega⟩ (rword_c _ ⟨_, rfl, ?_⟩)) (fun h45 => ?_)))⟩)
    · rw [show wordU ((bs s).headD 0) = true from hb] at k; exact k
    · have e3 : (((bs s).headD 0).toNat : Int) = 45 := by simpa using h45
      have e4 : (bs s).headD 0 = 45 := UInt8.toNat_inj.1 (by show _ = 45; omega)
      rw [e4] at k
      have e5 : (wordU 45 || (45 : UInt8) == 45) = true := by decide
      rw [e5, Bool.true_and] at k
      exact k
    · have f1 : wordU ((bs s).headD 0) = false := hb
      have f2 : ((bs s).headD 0 == 45) = false := by
        rw [beq_eq_false_iff_ne]
        intro e3
        rw [e3] at h45
        exact absurd h45 (by decide)
      rw [f1, f2] at k; exact k
theorem rIsKey_c (s : ByteArray) {w : World} {R : Ending → World → Prop} (k : ∀ w', Ext [] w w' → R (.returned (.bool (keyS (bs s)))) w') : Calls Tryz.prog 57 #[.string s] w R := by
  apply berthref03_IsKey_nf
  have hl := bs_len s
  refine sel_dec (fun h => ?_) (fun h => ?_)
  · have := k w (Ext.refl _ _)
    have e : keyS (bs s) = false := by
      rw [Bool.eq_false_iff]
      intro hk
      have := key_len hk
      omega
    rw [e] at this; exact this
  refine rcut_c s 47 (by omega) fun w4 A c4 ps e4 hc hps => ⟨_, _, _, rfl, ?_⟩
  rw [key_pieces, ← hps] at k
  match ps, hc, hps, k with
  | [], _, hps, _ => exact absurd hps.symm (cutS_ne _ _)
  | [a], hc, hps, k =>
    obtain ⟨ad, rfl, hcell⟩ := SL_at hc (a := 0) (s := a) rfl
    exact sel_true rfl (when_dec ⟨by omega, by simp⟩ ⟨a, hcell, rshort_c a ⟨_, rfl, k w4 e4⟩⟩)
  | [a, b], hc, hps, k =>
    obtain ⟨ad, rfl, hcell⟩ := SL_at hc (a := 0) (s := a) rfl
    refine sel_false rfl (sel_true rfl (when_dec ⟨by omega, by simp⟩ ⟨a, hcell, rIsName_c a fun w14 e14 => ⟨_, rfl, sel_intro (fun hn => ?_) (fun hn => ?_)⟩⟩))
    · obtain ⟨ad', h1, hcell'⟩ := SL_at (hc.ext0 e14) (a := 1) (s := b) rfl
      cases h1
      have := k w14 (e4.trans e14)
      refine when_dec ⟨by omega, by simp⟩ ⟨b, hcell', rshort_c b ⟨_, rfl, ?_⟩⟩
      simp only [List.map_cons, List.map_nil, hn, Bool.true_and] at this
      exact this
    · have := k w14 (e4.trans e14)
      simp only [List.map_cons, List.map_nil, hn, Bool.false_and] at this
      exact this
  | a :: b :: d :: r, hc, hps, k =>
    refine sel_false ?_ (sel_false ?_ (k w4 e4))
    · simp; omega
    · simp; omega
end Go.Proofs.YtpipenkaaodlgaaGreatDoor
