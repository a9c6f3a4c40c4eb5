/- Sets: the calls that change one in place. -/
import Derived.Test.YtpipenkaaodlgaaGreatDoorS3
import Derived.Test.YtpipenkaaodlgaaGreatDoorB2
set_option linter.unusedVariables false
set_option linter.unusedSimpArgs false
namespace Go.Proofs.YtpipenkaaodlgaaGreatDoor
open Go Go.V Go.B

/-- A set's blocks, whatever bits its words hold. -/
structure RawAt (w : World) (p bw N : Nat) (ws : List Nat) : Prop where
  hdr : Blk w p [.int .i64 (N : Int), .slice (some ⟨bw, 0, none⟩) ws.length ws.length]
  wrd : BlkT w bw (wcells ws) 104
  ne : p ≠ bw
theorem SetAt.raw {w : World} {p bw : Nat} {S : SetV} (h : SetAt w p bw S) : RawAt w p bw S.N S.ws := ⟨h.hdr, h.wrd, h.ne⟩
theorem RawAt.set {w : World} {p bw N : Nat} {ws : List Nat} (h : RawAt w p bw N ws) (ok : SetV.Ok ⟨N, ws⟩) : SetAt w p bw ⟨N, ws⟩ := ⟨h.hdr, h.wrd, ok, h.ne⟩
theorem RawAt.ext {F : List Nat} {w w' : World} {p bw N : Nat} {ws : List Nat} (h : RawAt w p bw N ws) (e : Ext F w w') (hp : p ∉ F) (hb : bw ∉ F) : RawAt w' p bw N ws := ⟨h.hdr.ext e hp, h.wrd.ext e hb, h.ne⟩
theorem RawAt.ext0 {w w' : World} {p bw N : Nat} {ws : List Nat} (h : RawAt w p bw N ws) (e : Ext [] w w') : RawAt w' p bw N ws := h.ext e (by simp) (by simp)
theorem RawAt.drew {w : World} {p bw N : Nat} {ws : List Nat} (h : RawAt w p bw N ws) : RawAt w.drew p bw N ws := ⟨h.hdr, h.wrd, h.ne⟩
theorem RawAt.words {w : World} {p bw N : Nat} {ws : List Nat} (h : RawAt w p bw N ws) : w.cell? (Addr.add ⟨p, 0, none⟩ 1) = some (.slice (some ⟨bw, 0, none⟩) ws.length ws.length) := by
  rw [Addr.add0]; exact h.hdr.cell rfl
theorem RawAt.size {w : World} {p bw N : Nat} {ws : List Nat} (h : RawAt w p bw N ws) : w.cell? (Addr.add ⟨p, 0, none⟩ 0) = some (.int .i64 (N : Int)) := by
  rw [Addr.add0]; exact h.hdr.cell rfl
theorem RawAt.word {w : World} {p bw N : Nat} {ws : List Nat} (h : RawAt w p bw N ws) {i : Nat} (hi : i < ws.length) : w.cell? (Addr.add ⟨bw, 0, none⟩ i) = some (.int .u64 ((ws.getD i 0 : Nat) : Int)) := by
  rw [Addr.add0]; exact h.wrd.cell (wcells_get hi)
theorem RawAt.wordAt {w : World} {p bw N : Nat} {ws : List Nat} (h : RawAt w p bw N ws) {i : Nat} (hi : i < ws.length) : w.cell? ⟨bw, i, none⟩ = some (.int .u64 ((ws.getD i 0 : Nat) : Int)) := h.wrd.cell (wcells_get hi)
theorem RawAt.frozen {w : World} {p bw N : Nat} {ws : List Nat} (h : RawAt w p bw N ws) (i : Nat) : w.frozen? ⟨bw, i, none⟩ = false := h.wrd.frozen i
theorem RawAt.upd {w : World} {p bw N : Nat} {ws : List Nat} (h : RawAt w p bw N ws) (k x : Nat) : RawAt (w.setCell ⟨bw, k, none⟩ (.int .u64 (x : Int))) p bw N (ws.set k x) := by
  refine ⟨?_, ?_, h.ne⟩
  · have := h.hdr.set_other (a := ⟨bw, k, none⟩) (.int .u64 (x : Int)) (Ne.symm h.ne)
    simpa using this
  · have := h.wrd.set k (.int .u64 (x : Int))
    rw [wcells_set] at this
    exact this

/-! ### Add, Remove -/
def SetV.put (S : SetV) (n : Nat) : SetV := S.upd (n / 64) (S.w (n / 64) ||| 2 ^ (n % 64))
def SetV.del (S : SetV) (n : Nat) : SetV := S.upd (n / 64) (andNot (S.w (n / 64)) (2 ^ (n % 64)))
theorem upd_mem {S : SetV} {k x : Nat} (hk : k < S.ws.length) (i : Nat) : (S.upd k x).mem i = if i / 64 = k then x.testBit (i % 64) else S.mem i := by
  rw [SetV.mem_w, SetV.upd_w _ _ _ _ hk]
  split
  · rfl
  · rfl
theorem put_mem {S : SetV} (h : S.Ok) {n : Nat} (hn : n < S.N) (i : Nat) : (S.put n).mem i = (S.mem i || decide (i = n)) := by
  have := h.len
  unfold SetV.put
  rw [upd_mem (by omega), SetV.mem_w]
  by_cases hk : i / 64 = n / 64
  · rw [if_pos hk, Nat.testBit_or, Nat.testBit_two_pow, hk]
    congr 1
    rw [Bool.eq_iff_iff]; simp; omega
  · rw [if_neg hk]
    have : i ≠ n := fun e => hk (by rw [e])
    simp [this]
theorem del_mem {S : SetV} (h : S.Ok) {n : Nat} (hn : n < S.N) (i : Nat) : (S.del n).mem i = (S.mem i && !decide (i = n)) := by
  have := h.len
  unfold SetV.del
  rw [upd_mem (by omega), SetV.mem_w]
  by_cases hk : i / 64 = n / 64
  · rw [if_pos hk, andNot_bit (pow_lt64 (by omega)) _ (by omega), Nat.testBit_two_pow, hk]
    congr 2
    rw [Bool.eq_iff_iff]; simp; omega
  · rw [if_neg hk]
    have : i ≠ n := fun e => hk (by rw [e])
    simp [this]
theorem upd_ok {S : SetV} (h : S.Ok) {k x : Nat} (hk : k < S.ws.length) (hx : x < 18446744073709551616) (ht : ∀ i, S.N ≤ i → (S.upd k x).mem i = false) : (S.upd k x).Ok :=
  ⟨h.N, by simp [SetV.upd, h.len], fun j => by
    have := SetV.upd_w S k x j hk
    unfold SetV.w at this
    rw [this]; split
    · exact hx
    · exact h.lt j, ht⟩
theorem put_ok {S : SetV} (h : S.Ok) {n : Nat} (hn : n < S.N) : (S.put n).Ok := by
  have := h.len
  refine upd_ok h (by omega) (Nat.or_lt_two_pow (n := 64) (h.wlt _) (pow_lt64 (by omega))) fun i hi => ?_
  have := put_mem h hn i
  unfold SetV.put at this
  rw [this, h.tail i hi]; simp; omega
theorem del_ok {S : SetV} (h : S.Ok) {n : Nat} (hn : n < S.N) : (S.del n).Ok := by
  have := h.len
  refine upd_ok h (by omega) (andNot_lt (h.wlt _)) fun i hi => ?_
  have := del_mem h hn i
  unfold SetV.del at this
  rw [this, h.tail i hi]; simp
theorem Add_nil {w : World} {i : Int} {R : Ending → World → Prop} (k : R (.returned (.bool false)) w) : Calls Tryz.prog 29 #[.pointer none, .int .i64 i] w R := by
  apply bitset_Set_Add_nf
  refine inside_c (RefAt.nil w) i ⟨_, rfl, ?_⟩
  have : decide (0 ≤ i ∧ i < (SetV.nil.N : Int)) = false := by
    rw [decide_eq_false_iff_not]
    show ¬ (0 ≤ i ∧ i < ((0 : Nat) : Int))
    omega
  rw [this]; exact k
theorem Remove_nil {w : World} {i : Int} {R : Ending → World → Prop} (k : R (.returned (.bool false)) w) : Calls Tryz.prog 44 #[.pointer none, .int .i64 i] w R := by
  apply bitset_Set_Remove_nf
  refine Has_c (RefAt.nil w) i ⟨_, rfl, ?_⟩
  have : SetV.nil.has i = false := by simp [SetV.has, SetV.nil, SetV.mem]
  rw [this]; exact k
theorem Add_c {w : World} {p bw : Nat} {S : SetV} (hs : SetAt w p bw S) (i : Int) {R : Ending → World → Prop}
    (k : ∀ w' T t, Ext [bw] w w' → SetAt w' p bw T → T.N = S.N → (∀ j, T.mem j = (S.mem j || decide (0 ≤ i ∧ i < (S.N : Int) ∧ (j : Int) = i))) → t = (decide (0 ≤ i ∧ i < (S.N : Int)) && !S.has i) → R (.returned (.bool t)) w') :
    Calls Tryz.prog 29 #[.pointer (some ⟨p, 0, none⟩), .int .i64 i] w R := by
  apply bitset_Set_Add_nf
  have hl := hs.ok.len
  have hN := hs.ok.N
  refine inside_c hs.ref i ⟨_, rfl, ?_⟩
  by_cases hin : 0 ≤ i ∧ i < (S.N : Int)
  · refine sel_false (by simp [hin]) (Has_c hs.ref i ⟨_, rfl, ?_⟩)
    obtain ⟨n, rfl⟩ : ∃ n : Nat, i = n := ⟨i.toNat, by omega⟩
    have hn : n < S.N := by omega
    rw [SetV.has_nat]
    refine sel_intro (fun hm => ?_) (fun hm => ?_)
    · refine k w S _ (Ext.refl _ _) hs rfl (fun j => ?_) (by rw [SetV.has_nat, hm]; simp)
      by_cases hj : j = n
      · subst hj; simp [hm]
      · have : ¬ ((j : Int) = (n : Int)) := by omega
        simp [this]
    · have e1 : IntKind.wrap .i64 (Int.tdiv (n : Int) 64) = ((n / 64 : Nat) : Int) := by rw [tdiv64, w64 (by omega) (by omega)]
      refine ptr_in ⟨_, _, _, hs.words, ?_⟩
      simp only [e1, tmod64, Int.toNat_natCast, Nat.mul_one]
      refine when_dec ⟨by omega, by omega⟩ (ptr_in ⟨_, hs.word (by omega), when_dec (by omega) (when_dec ⟨by omega, by omega⟩ (ptr_in ?_))⟩)
      rw [Addr.addAdd, shl1 _ (by omega), or64 (hs.ok.lt _) (pow_lt64 (by omega))]
      have hsd := hs.drew
      refine ⟨⟨_, hsd.wordAt (i := n / 64) (by omega)⟩, hsd.frozen _, ?_⟩
      refine k _ (S.put n) _ (((Ext.refl [bw] w).drew).setCell _ _ (.inl (by simp))) (hsd.upd (n / 64) _ (put_ok hs.ok hn)) rfl (fun j => ?_) (by rw [SetV.has_nat, hm]; simp; omega)
      rw [put_mem hs.ok hn j]
      congr 1
      rw [Bool.eq_iff_iff]; simp; omega
  · refine sel_true (by simp [hin]) (k w S false (Ext.refl _ _) hs rfl (fun j => ?_) (by simp [hin]))
    have : ¬ (0 ≤ i ∧ i < (S.N : Int) ∧ (j : Int) = i) := fun h => hin ⟨h.1, h.2.1⟩
    simp [this]
theorem Remove_c {w : World} {p bw : Nat} {S : SetV} (hs : SetAt w p bw S) (i : Int) {R : Ending → World → Prop}
    (k : ∀ w' T t, Ext [bw] w w' → SetAt w' p bw T → T.N = S.N → (∀ j, T.mem j = (S.mem j && !decide ((j : Int) = i))) → t = S.has i → R (.returned (.bool t)) w') :
    Calls Tryz.prog 44 #[.pointer (some ⟨p, 0, none⟩), .int .i64 i] w R := by
  apply bitset_Set_Remove_nf
  have hl := hs.ok.len
  have hN := hs.ok.N
  refine Has_c hs.ref i ⟨_, rfl, ?_⟩
  by_cases hh : S.has i = true
  · refine sel_false (by simp [hh]) ?_
    have h0 : 0 ≤ i := by unfold SetV.has at hh; simp at hh; exact hh.1
    obtain ⟨n, rfl⟩ : ∃ n : Nat, i = n := ⟨i.toNat, by omega⟩
    rw [SetV.has_nat] at hh
    have hn : n < S.N := hs.ok.mem_lt hh
    have e1 : IntKind.wrap .i64 (Int.tdiv (n : Int) 64) = ((n / 64 : Nat) : Int) := by rw [tdiv64, w64 (by omega) (by omega)]
    refine ptr_in ⟨_, _, _, hs.words, ?_⟩
    simp only [e1, tmod64, Int.toNat_natCast, Nat.mul_one]
    refine when_dec ⟨by omega, by omega⟩ (ptr_in ⟨_, hs.word (by omega), when_dec (by omega) (when_dec ⟨by omega, by omega⟩ (ptr_in ?_))⟩)
    rw [Addr.addAdd, shl1 _ (by omega), andNot64 (hs.ok.lt _) (pow_lt64 (by omega))]
    have hsd := hs.drew
    refine ⟨⟨_, hsd.wordAt (i := n / 64) (by omega)⟩, hsd.frozen _, ?_⟩
    refine k _ (S.del n) _ (((Ext.refl [bw] w).drew).setCell _ _ (.inl (by simp))) (hsd.upd (n / 64) _ (del_ok hs.ok hn)) rfl (fun j => ?_) (by rw [SetV.has_nat, hh])
    rw [del_mem hs.ok hn j]
    congr 2
    rw [Bool.eq_iff_iff]; simp; omega
  · have hh : S.has i = false := by simpa using hh
    refine sel_true (by simp [hh]) (k w S false (Ext.refl _ _) hs rfl (fun j => ?_) hh.symm)
    by_cases hj : (j : Int) = i
    · subst hj; rw [SetV.has_nat] at hh; simp [hh]
    · simp [hj]

/-! ### AndWith, OrWith, AndNotWith -/
/-- The first k words are those of F, the others those of G. -/
def mix (N k : Nat) (F G : Nat → Nat) : List Nat := (List.range ((N + 63) / 64)).map fun j => if j < k then F j else G j
theorem mix_len (N k : Nat) (F G : Nat → Nat) : (mix N k F G).length = (N + 63) / 64 := by simp [mix]
theorem mix_get {N k i : Nat} (F G : Nat → Nat) (hi : i < (N + 63) / 64) : (mix N k F G).getD i 0 = if i < k then F i else G i := by
  simp [mix, List.getD_eq_getElem?_getD, hi]
theorem mix_zero {S : SetV} (h : S.Ok) (F : Nat → Nat) : mix S.N 0 F S.w = S.ws := by
  have := congrArg SetV.ws (copyV h)
  simpa [mix, ofWords] using this
theorem mix_full (N k : Nat) (F G : Nat → Nat) (h : (N + 63) / 64 ≤ k) : mix N k F G = (ofWords N F).ws := by
  unfold mix ofWords
  apply List.map_congr_left
  intro j hj
  have := List.mem_range.1 hj
  simp [show j < k by omega]
theorem mix_set {N k : Nat} (F G : Nat → Nat) (hk : k < (N + 63) / 64) : (mix N k F G).set k (F k) = mix N (k + 1) F G := by
  unfold mix
  apply List.ext_getElem
  · simp
  · intro i h1 h2
    simp only [List.getElem_set, List.getElem_map, List.getElem_range]
    by_cases hi : k = i
    · subst hi; simp
    · simp only [hi, if_false]
      by_cases h3 : i < k
      · simp [h3, show i < k + 1 by omega]
      · simp [h3, show ¬ i < k + 1 by omega]
/-- What a word of the other set reads as while the first n words of this one have been changed. -/
def Rd (w : World) (p bw : Nat) (S : SetV) (F : Nat → Nat) (qt : Option Addr) (T : SetV) : Prop :=
  ∀ (n : Nat) (w' : World), n < (S.N + 63) / 64 → RawAt w' p bw S.N (mix S.N n F S.w) → Ext [bw] w w' → ∀ R : Ending → World → Prop, R (.returned (.int .u64 ((T.w n : Nat) : Int))) w' → Calls Tryz.prog 60 #[.pointer qt, .int .i64 (n : Int)] w' R
theorem Rd.other {w : World} {p bw : Nat} {S T : SetV} {F : Nat → Nat} {qt : Option Addr} {ft : List Nat} (ht : RefAt w qt T ft) (hb : bw ∉ ft) : Rd w p bw S F qt T :=
  fun n w' _ _ e R k => word_c (ht.ext e (by intro b hb' h; simp at h; subst h; exact hb hb')) n k
theorem Rd.self {w : World} {p bw : Nat} {S : SetV} (F : Nat → Nat) : Rd w p bw S F (some ⟨p, 0, none⟩) S := fun n w' hn h e R k => by
  apply bitset_Set_word_nf
  refine sel_false rfl (ptr_in ⟨_, _, _, h.words, ?_⟩)
  rw [mix_len]
  refine sel_dec (fun hge => by omega) (fun hlt => ptr_in ⟨_, _, _, h.words, ?_⟩)
  rw [mix_len]
  refine when_dec ⟨by omega, by omega⟩ (ptr_in ?_)
  simp only [Int.toNat_natCast, Nat.mul_one]
  refine ⟨_, h.word (by rw [mix_len]; exact hn), ?_⟩
  rw [mix_get _ _ hn, if_neg (by omega)]
  exact k
/-! ### OrWith -/
theorem orMask_mem {S T : SetV} (os : S.Ok) (ot : T.Ok) (i : Nat) (hi : i < S.N) : ((ofWords S.N fun k => S.w k ||| T.w k).w (i / 64)).testBit (i % 64) = (S.mem i || T.mem i) := by
  rw [← SetV.mem_w, ofWords_mem, Nat.testBit_or, ← SetV.mem_w, ← SetV.mem_w]
  simp [show i / 64 < (S.N + 63) / 64 by omega]
theorem OrWith_c {w : World} {p bw : Nat} {S T : SetV} {qt : Option Addr} (hs : SetAt w p bw S) (ot : T.Ok) (rd : Rd w p bw S (fun k => S.w k ||| T.w k) qt T) {R : Ending → World → Prop}
    (k : ∀ w' C, Ext [bw] w w' → SetAt w' p bw C → C.N = S.N → (∀ i, C.mem i = (S.mem i || (decide (i < S.N) && T.mem i))) → R (.returned undef) w') :
    Calls Tryz.prog 53 #[.pointer (some ⟨p, 0, none⟩), .pointer qt] w R := by
  apply bitset_Set_OrWith_nf
  have hl := hs.ok.len
  have hN := hs.ok.N
  have flt : ∀ k, S.w k ||| T.w k < 18446744073709551616 := fun k => Nat.or_lt_two_pow (n := 64) (hs.ok.wlt k) (ot.wlt k)
  refine sel_false rfl (ptr_in ⟨_, _, _, hs.words, ?_⟩)
  have h0 := hs.raw
  rw [← mix_zero hs.ok (fun k => S.w k ||| T.w k)] at h0
  refine ⟨fun i w' => ∃ n : Nat, i = n ∧ n ≤ (S.N + 63) / 64 ∧ Ext [bw] w w' ∧ RawAt w' p bw S.N (mix S.N n (fun k => S.w k ||| T.w k) S.w), fun i _ => (S.N + 63) / 64 - i.toNat, ⟨0, rfl, by omega, Ext.refl _ _, h0⟩, ?_⟩
  rintro _ _ w2 ⟨n, rfl, hn, e2, hs2⟩
  refine sel_dec (fun hlt => ?_) (fun hge => ?_)
  · have hs2d := hs2.drew
    have hn' : n < (S.N + 63) / 64 := by omega
    refine ⟨fun w' => Ext [] w2.drew w', Ext.refl _ _, ptr_in ⟨_, _, _, fun w' e => (hs2d.ext0 e).words, ?_⟩⟩
    rw [mix_len]
    refine when_dec ⟨by omega, by omega⟩ (ptr_in ?_)
    simp only [Int.toNat_natCast, Nat.mul_one]
    refine ⟨_, fun w' e => (hs2d.ext0 e).word (by rw [mix_len]; exact hn'), ?_⟩
    rw [mix_get _ _ hn', if_neg (by omega)]
    refine rd n _ hn' hs2d e2.drew _ ⟨_, rfl, Ext.refl _ _, when_dec ⟨by omega, by omega⟩ (ptr_in ?_)⟩
    rw [Addr.addAdd, up64 n (by omega), or64 (hs.ok.wlt n) (ot.wlt n)]
    refine ⟨⟨_, hs2d.wordAt (by rw [mix_len]; exact hn')⟩, hs2d.frozen n, ⟨n + 1, rfl, by omega, e2.drew.setCell _ _ (.inl (by simp)), ?_⟩, down (by omega)⟩
    have := hs2d.upd n (S.w n ||| T.w n)
    rw [mix_set (fun k => S.w k ||| T.w k) S.w hn'] at this
    exact this
  · rw [mix_full _ _ _ _ (by omega)] at hs2
    have hlen : (ofWords S.N fun k => S.w k ||| T.w k).ws.length = (S.N + 63) / 64 := by simp [ofWords]
    have hw : ∀ j, (ofWords S.N fun k => S.w k ||| T.w k).w j < 18446744073709551616 := fun j => by
      rw [ofWords_w]; split
      · exact flt j
      · omega
    refine ptr_in ⟨_, hs2.size, ?_⟩
    rw [tmod64]
    refine sel_intro (fun hne => ?_) (fun heq => ?_)
    · have hr : 0 < S.N % 64 := by
        rcases Nat.eq_zero_or_pos (S.N % 64) with h | h
        · rw [h] at hne; simp at hne
        · exact h
      have hpos : 0 < (S.N + 63) / 64 := by omega
      have e1 : IntKind.wrap .i64 ((((ofWords S.N fun k => S.w k ||| T.w k).ws.length : Nat) : Int) - 1) = (((S.N + 63) / 64 - 1 : Nat) : Int) := by
        rw [hlen, w64 (by omega) (by omega)]; omega
      refine ptr_in ⟨_, _, _, hs2.words, ptr_in ⟨_, _, _, hs2.words, ?_⟩⟩
      simp only [e1, Int.toNat_natCast, Nat.mul_one]
      have hidx : (S.N + 63) / 64 - 1 < (ofWords S.N fun k => S.w k ||| T.w k).ws.length := by rw [hlen]; omega
      refine when_dec ⟨by omega, by omega⟩ (ptr_in ⟨_, hs2.word hidx, when_dec (by omega) (when_dec ⟨by omega, by omega⟩ (ptr_in ?_))⟩)
      have em : IntKind.wrap .u64 ((IntKind.wrap .u64 (1 * 2 ^ (min (S.N % 64) 64))) - 1) = ((2 ^ (S.N % 64) - 1 : Nat) : Int) := by
        have p1 : 0 < 2 ^ (S.N % 64) := Nat.two_pow_pos _
        have p2 := pow_lt64 (k := S.N % 64) (by omega)
        rw [shl1 _ (by omega), u64 (by omega) (by omega)]; omega
      have p2 := pow_lt64 (k := S.N % 64) (by omega)
      rw [em, Addr.addAdd, and64 (x := (ofWords S.N fun k => S.w k ||| T.w k).ws.getD ((S.N + 63) / 64 - 1) 0) (hw _) (by omega)]
      have hs2d := hs2.drew
      refine ⟨⟨_, hs2d.wordAt hidx⟩, hs2d.frozen _, ?_⟩
      have hupd := hs2d.upd ((S.N + 63) / 64 - 1) ((ofWords S.N fun k => S.w k ||| T.w k).w ((S.N + 63) / 64 - 1) &&& (2 ^ (S.N % 64) - 1))
      have hm : ∀ i, ((ofWords S.N fun k => S.w k ||| T.w k).upd ((S.N + 63) / 64 - 1) ((ofWords S.N fun k => S.w k ||| T.w k).w ((S.N + 63) / 64 - 1) &&& (2 ^ (S.N % 64) - 1))).mem i = (S.mem i || (decide (i < S.N) && T.mem i)) := fun i => by
        rw [upd_mem hidx]
        by_cases hi : i / 64 = (S.N + 63) / 64 - 1
        · rw [if_pos hi, Nat.testBit_and, Nat.testBit_two_pow_sub_one]
          by_cases hlt : i < S.N
          · rw [← hi, orMask_mem hs.ok ot i hlt]
            simp [hlt, show i % 64 < S.N % 64 by omega]
          · rw [hs.ok.tail i (by omega)]
            simp [hlt, show ¬ i % 64 < S.N % 64 by omega]
        · rw [if_neg hi]
          by_cases hlt : i < S.N
          · rw [SetV.mem_w, orMask_mem hs.ok ot i hlt]; simp [hlt]
          · rw [ofWords_mem, hs.ok.tail i (by omega)]
            simp [hlt, show ¬ i / 64 < (S.N + 63) / 64 by omega]
      refine k _ _ (e2.drew.setCell _ _ (.inl (by simp))) (hupd.set ⟨hN, by simp [hlen], fun j => ?_, fun i hi => ?_⟩) rfl hm
      · have h2 : ((ofWords S.N fun k => S.w k ||| T.w k).upd ((S.N + 63) / 64 - 1) ((ofWords S.N fun k => S.w k ||| T.w k).w ((S.N + 63) / 64 - 1) &&& (2 ^ (S.N % 64) - 1))).ws.getD j 0 < 18446744073709551616 := by
          show SetV.w _ j < _
          rw [SetV.upd_w _ _ _ _ hidx]; split
          · exact Nat.lt_of_le_of_lt Nat.and_le_left (hw _)
          · exact hw j
        exact h2
      · have h2 : ((ofWords S.N fun k => S.w k ||| T.w k).upd ((S.N + 63) / 64 - 1) ((ofWords S.N fun k => S.w k ||| T.w k).w ((S.N + 63) / 64 - 1) &&& (2 ^ (S.N % 64) - 1))).mem i = false := by
          rw [hm i, hs.ok.tail i hi]
          simp [show ¬ i < S.N by exact Nat.not_lt.2 hi]
        exact h2
    · have hr : S.N % 64 = 0 := Int.ofNat_inj.1 (bne_eq_false_iff_eq.1 heq)
      have hm : ∀ i, (ofWords S.N fun k => S.w k ||| T.w k).mem i = (S.mem i || (decide (i < S.N) && T.mem i)) := fun i => by
        by_cases hlt : i < S.N
        · rw [SetV.mem_w, orMask_mem hs.ok ot i hlt]; simp [hlt]
        · rw [ofWords_mem, hs.ok.tail i (by omega)]
          simp [hlt, show ¬ i / 64 < (S.N + 63) / 64 by omega]
      refine k w2 _ e2 (hs2.set ⟨hN, hlen, hw, fun i hi => ?_⟩) rfl hm
      have h2 : (ofWords S.N fun k => S.w k ||| T.w k).mem i = false := by
        rw [hm i, hs.ok.tail i hi]
        simp [show ¬ i < S.N by exact Nat.not_lt.2 hi]
      exact h2
theorem OrWith_nil {w : World} {qt : Option Addr} {R : Ending → World → Prop} (k : R (.returned undef) w) : Calls Tryz.prog 53 #[.pointer none, .pointer qt] w R := by
  apply bitset_Set_OrWith_nf
  exact sel_true rfl k
end Go.Proofs.YtpipenkaaodlgaaGreatDoor
