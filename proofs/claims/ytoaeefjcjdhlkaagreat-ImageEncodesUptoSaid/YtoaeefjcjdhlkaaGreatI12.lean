/- Image: the reader's table of texts. -/
import Derived.Test.YtoaeefjcjdhlkaaGreatI11
set_option linter.unusedVariables false
set_option linter.unusedSimpArgs false
namespace Go.Proofs.YtoaeefjcjdhlkaaGreat
open Go Go.V Go.B

theorem blt' (a b : ByteArray) : Op.bytesLess (ByteArray.toList a) (ByteArray.toList b) = decide (bs a < bs b) := by
  rw [ByteArray.toList_eq, ByteArray.toList_eq, bytesLess_eq]; rfl
theorem beq' (a b : ByteArray) : (ByteArray.toList a == ByteArray.toList b) = decide (bs a = bs b) := by
  rw [ByteArray.toList_eq, ByteArray.toList_eq, Bool.eq_iff_iff]; simp [bs]
/-- string(b). -/
theorem conv_B {P : Program} {w : World} {src dst e : TypeId} {A : Option Addr} {n c : Nat} {l : List UInt8} (hs : P.underlying src = some (.slice e)) (he : P.underlying e = some (.int .u8)) (hd : P.underlying dst = some .string) (h : Cells w A (BL.flat l)) (hl : l.length = n) :
    (convert src dst (.slice A n c)).run P w = .ok (.string (unb l)) w := by
  rw [run_convert_bytes_string w src dst e _ n c hs he hd]
  cases l with
  | nil =>
    simp at hl
    subst hl
    cases A <;> simp [Conv.bytesToString, loadCells]
    all_goals rfl
  | cons x r =>
    obtain ⟨ad, rfl, _⟩ := h 0 (.int .u8 (x.toNat : Int)) (by rw [BL_flat]; rfl)
    have h1 : (loadCells ad n).run P w = .ok (((x :: r).map fun b => (b.toNat : Int)).map (Value.int .u8)).toArray w := by
      have := run_loadCells_list (P := P) w ad (((x :: r).map fun b => (b.toNat : Int)).map (Value.int .u8)) (fun j v hj => by
        obtain ⟨ad', e1, e2⟩ := h j v (by rw [BL_flat]; rw [List.map_map] at hj; exact hj)
        cases e1
        exact e2)
      rw [List.length_map, List.length_map, hl] at this
      exact this
    rw [run_bytesToString w ad n c _ h1, foldl_push_bytes]
    congr 2
    simp only [unb, ByteArray.empty, ByteArray.emptyWithCapacity, List.map_map]
    congr 1
    show (#[] : Array UInt8) ++ _ = _
    rw [Array.empty_append]
    congr 1
    rw [show ((fun n : Int => UInt8.ofNat n.toNat) ∘ fun b : UInt8 => (b.toNat : Int)) = id from funext fun b => by simp, List.map_id]
/-- One more at the end of a list that a box holds. -/
theorem tb_app {α : Type} {L : Lay α} {e t : TypeId} {z : Value} {bytes : Nat} (ht : Tryz.prog.underlying t = some (.slice e)) (hi : (Tryz.prog.info? e).map (fun i => (i.zero, i.size, i.bytes)) = some (some z, L.sz, bytes)) (hz : z.cells.size = L.sz) (hb0 : 0 < bytes) (hbl : bytes ≤ 1000) (hi1 : (Tryz.prog.info? t).map (·.size) = some 1)
    {w w38 : World} {rb B i n c : Nat} {A : Option Addr} {cs : List Value} {xs : List α} {x : α} {T : TypeId} (hb : BlkT w rb cs T) (hci : i < cs.length) (own : OwnL L w B e A n c xs) (hn : n ≤ 16777216) (hB : B ≤ w.heap.size) (hne : rb ∉ ownF A) (h38 : w38 = w.alloc (.cells ⟨L.enc x⟩ e)) :
    ∃ A' c' w40 w42, (Builtin.append_ #[t, t] t #[.slice A n c, .slice (some ⟨w.heap.size, 0, none⟩) 1 1]).run Tryz.prog w38 = .ok (.slice A' (n + 1) c') w40 ∧ (Instr.storeAt t (.pointer (some (Addr.add ⟨rb, 0, none⟩ i))) (.slice A' (n + 1) c')).run Tryz.prog w40 = .ok () w42 ∧ BlkT w42 rb (cs.set i (.slice A' (n + 1) c')) T ∧ OwnL L w42 B e A' (n + 1) c' (xs ++ [x]) ∧ Ext (rb :: ownF A) w w42 ∧ (∀ y ∈ ownF A', y ∈ ownF A ∨ (w.heap.size ≤ y ∧ y < w42.heap.size)) := by
  obtain ⟨b38, x38, z38⟩ := box_new h38
  have hlt := hb.lt
  obtain ⟨A', c', w40, hr, ho, he, hat⟩ := OwnL.more (P := Tryz.prog) (t := t) (ty := t) (x := x) (T := e) ht hi hz hb0 (own.ext0 x38) b38 (by omega) (by
    have : (n + 1) * bytes ≤ 16777217 * 1000 := Nat.mul_le_mul (by omega) hbl
    omega)
  have hs40 := he.size
  have hA' : ∀ y ∈ ownF A', y ∈ ownF A ∨ (w.heap.size ≤ y ∧ y < w40.heap.size) := fun y hy => by
    rcases hat with h | h
    · exact .inl (h ▸ hy)
    · exact .inr ⟨by rw [h] at hy; simp at hy; omega, (own_base ho y hy).2⟩
  have hb40 : BlkT w40 rb cs T := (hb.ext x38 (by simp)).ext he hne
  obtain ⟨w42, hr2, hb42, e42⟩ := store1a (P := Tryz.prog) (t := t) (i := i) (v := .slice A' (n + 1) c') hi1 hb40 hci rfl rfl
  have hs42 := e42.size
  refine ⟨A', c', w40, w42, hr, hr2, hb42, ho.ext e42 (fun y hy hm => ?_), ?_, fun y hy => (hA' y hy).imp id fun h => ⟨h.1, by omega⟩⟩
  · simp at hm; subst hm
    rcases hA' _ hy with h | h
    · exact hne h
    · omega
  · exact ((x38.up.trans (he.weaken fun y hy => .inl (by simp [hy]))).trans (e42.weaken fun y hy => .inl (by simp at hy; simp [hy])))
theorem uInts : Tryz.prog.underlying 134 = some (.slice 3) := by kernel_rfl
theorem uBools : Tryz.prog.underlying 135 = some (.slice 4) := by kernel_rfl
theorem uStrs : Tryz.prog.underlying 56 = some (.slice 9) := by kernel_rfl
/-- In the midst of the table. -/
structure Tb (C : RC) (s : Pst) (w : World) : Prop where
  ok : C.Ok
  rd : RdAt C s w
  sT : ∀ x ∈ ownF C.SA, x ∉ ownF C.TA
  st : Strict C.T
theorem RC.Ok.back {C : RC} (ok : C.Ok) {w w' : World} {F : List Nat} (e0 : Ext [] C.W w) (e : Ext F w w') (hF : ∀ x ∈ F, C.W.heap.size ≤ x) : Ext [] C.W w' := e0.trans' e fun x hx => .inr (hF x hx)
theorem RC.Ok.FW {C : RC} (ok : C.Ok) : ∀ x ∈ C.F, C.W.heap.size ≤ x := fun x hx => by
  rcases List.mem_cons.1 hx with rfl | hx
  · exact ok.rW
  · exact (ok.uN x hx).1
/-- One text more. -/
theorem Tb.more {C : RC} {s : Pst} {w w38 : World} (h : Tb C s w) {x : ByteArray} {a0 : Nat} (hx : x.size ≤ 16777216) (hl : ∀ l, C.T.getLast? = some l → bs l < bs x) (hn : C.T.length + 1 ≤ 16777216) (h38 : w38 = w.alloc (.cells ⟨SL.enc x⟩ 9)) :
    ∃ TA Tc w40 w42, (Builtin.append_ #[56, 56] 56 #[.slice C.TA C.T.length C.Tc, .slice (some ⟨w.heap.size, 0, none⟩) 1 1]).run Tryz.prog w38 = .ok (.slice TA (C.T.length + 1) Tc) w40 ∧ (Instr.storeAt 56 (.pointer (some (Addr.add ⟨C.rb, 0, none⟩ 2))) (.slice TA (C.T.length + 1) Tc)).run Tryz.prog w40 = .ok () w42 ∧ w42.cell? (Addr.add ⟨C.rb, 0, none⟩ 3) = some (.slice C.SA C.S.length C.Sc) ∧
    ∀ w45, w45 = w42.alloc (.cells ⟨IL.enc a0⟩ 3) → ∃ SA Sc w47 w49, (Builtin.append_ #[134, 134] 134 #[.slice C.SA C.S.length C.Sc, .slice (some ⟨w42.heap.size, 0, none⟩) 1 1]).run Tryz.prog w45 = .ok (.slice SA (C.S.length + 1) Sc) w47 ∧ (Instr.storeAt 134 (.pointer (some (Addr.add ⟨C.rb, 0, none⟩ 3))) (.slice SA (C.S.length + 1) Sc)).run Tryz.prog w47 = .ok () w49 ∧ w49.cell? (Addr.add ⟨C.rb, 0, none⟩ 4) = some (.slice C.UA C.T.length C.Uc) ∧
    ∀ w52, w52 = w49.alloc (.cells ⟨TL.enc false⟩ 4) → ∃ UA Uc w54 w56, (Builtin.append_ #[135, 135] 135 #[.slice C.UA C.T.length C.Uc, .slice (some ⟨w49.heap.size, 0, none⟩) 1 1]).run Tryz.prog w52 = .ok (.slice UA (C.T.length + 1) Uc) w54 ∧ (Instr.storeAt 135 (.pointer (some (Addr.add ⟨C.rb, 0, none⟩ 4))) (.slice UA (C.T.length + 1) Uc)).run Tryz.prog w54 = .ok () w56 ∧
    Tb { C with T := C.T ++ [x], S := C.S ++ [a0], TA := TA, Tc := Tc, SA := SA, Sc := Sc, UA := UA, Uc := Uc, N := w56.heap.size } { s with used := s.used ++ [false] } w56 := by
  obtain ⟨ok, rd, sT, st⟩ := h
  have hW := rd.ex.size
  have hrb := rd.blk.lt
  have bT := rd.t.base
  have bS := rd.st.base
  have bU := rd.u.base
  have hsl := ok.sl
  obtain ⟨TA, Tc, w40, w42, r1, r2, b42, o42, e42, f42⟩ := tb_app (L := SL) (x := x) (t := 56) (z := .string ByteArray.empty) (bytes := 16) uStrs (by kernel_rfl) (by rfl) (by omega) (by omega) (by kernel_rfl) (i := 2) rd.blk (by simp) rd.t (by omega) hW ok.rT h38
  have hs42 := e42.size
  have nS : ∀ y ∈ ownF C.SA, y ∉ C.rb :: ownF C.TA := fun y hy hm => by
    rcases List.mem_cons.1 hm with rfl | hm
    · exact ok.rS hy
    · exact sT y hy hm
  have nU : ∀ y ∈ ownF C.UA, y ∉ C.rb :: ownF C.TA := fun y hy hm => by
    rcases List.mem_cons.1 hm with rfl | hm
    · exact ok.rU hy
    · exact ok.uT y hy hm
  refine ⟨TA, Tc, w40, w42, r1, r2, cadd b42 rfl, fun w45 h45 => ?_⟩
  have oS42 := rd.st.ext e42 nS
  have oU42 := rd.u.ext e42 nU
  obtain ⟨SA, Sc, w47, w49, r3, r4, b49, o49, e49, f49⟩ := tb_app (L := IL) (x := a0) (t := 134) (z := .int .i64 0) (bytes := 8) uInts (by kernel_rfl) (by rfl) (by omega) (by omega) (by kernel_rfl) (i := 3) b42 (by simp) oS42 (by omega) (by omega) ok.rS h45
  have hs49 := e49.size
  refine ⟨SA, Sc, w47, w49, r3, r4, cadd b49 rfl, fun w52 h52 => ?_⟩
  have nT : ∀ y ∈ ownF TA, y ∉ C.rb :: ownF C.SA := fun y hy hm => by
    rcases f42 y hy with h | h
    · rcases List.mem_cons.1 hm with rfl | hm
      · exact ok.rT h
      · exact sT y hm h
    · rcases List.mem_cons.1 hm with rfl | hm
      · omega
      · have := (bS y hm).2; omega
  have nU2 : ∀ y ∈ ownF C.UA, y ∉ C.rb :: ownF C.SA := fun y hy hm => by
    rcases List.mem_cons.1 hm with rfl | hm
    · exact ok.rU hy
    · exact ok.uS y hy hm
  have oT49 := o42.ext e49 nT
  have oU49 := oU42.ext e49 nU2
  obtain ⟨UA, Uc, w54, w56, r5, r6, b56, o56, e56, f56⟩ := tb_app (L := TL) (x := false) (t := 135) (z := .bool false) (bytes := 1) uBools (by kernel_rfl) (by rfl) (by omega) (by omega) (by kernel_rfl) (i := 4) b49 (by simp) oU49 (by omega) (by omega) ok.rU h52
  have hs56 := e56.size
  have nT3 : ∀ y ∈ ownF TA, y ∉ C.rb :: ownF C.UA := fun y hy hm => by
    rcases f42 y hy with h | h
    · rcases List.mem_cons.1 hm with rfl | hm
      · exact ok.rT h
      · exact ok.uT y hm h
    · rcases List.mem_cons.1 hm with rfl | hm
      · omega
      · have := (bU y hm).2; omega
  have nS3 : ∀ y ∈ ownF SA, y ∉ C.rb :: ownF C.UA := fun y hy hm => by
    rcases f49 y hy with h | h
    · rcases List.mem_cons.1 hm with rfl | hm
      · exact ok.rS h
      · exact ok.uS y hm h
    · rcases List.mem_cons.1 hm with rfl | hm
      · omega
      · have := (bU y hm).2; omega
  have oT56 := oT49.ext e56 nT3
  have oS56 := o49.ext e56 nS3
  have hm : ∀ {y}, y ∈ C.rb :: ownF C.TA ∨ y ∈ C.rb :: ownF C.SA ∨ y ∈ C.rb :: ownF C.UA → C.W.heap.size ≤ y := fun {y} h => by
    have := ok.rW
    simp only [List.mem_cons] at h
    rcases h with (rfl | h) | (rfl | h) | (rfl | h)
    · exact this
    · exact (bT y h).1
    · exact this
    · exact (bS y h).1
    · exact this
    · exact (bU y h).1
  have ex56 : Ext [] C.W w56 := ok.back (ok.back (ok.back rd.ex e42 fun y h => hm (.inl h)) e49 fun y h => hm (.inr (.inl h))) e56 fun y h => hm (.inr (.inr h))
  refine ⟨UA, Uc, w54, w56, r5, r6, ⟨⟨?_, ok.bytes, ok.le, ok.cap, ok.rW, ?_, ?_, ?_, ?_, ?_, ?_, ?_, ?_, ?_, ?_, ?_⟩, ⟨ex56, Nat.le_refl _, ?_, ?_, ?_, ?_, rd.at_, rd.rest⟩, ?_, strict_snoc st hl⟩⟩
  · exact (strict_snoc st hl).nodup
  · show C.rb < w56.heap.size; omega
  · intro y hy
    have := (o56.base y hy)
    exact this
  · intro t ht
    rcases List.mem_append.1 ht with h | h
    · exact ok.ts t h
    · simp at h; subst h; exact hx
  · simp [hsl]
  · intro hy
    rcases f42 _ hy with h | h
    · exact ok.rT h
    · exact absurd h.1 (Nat.not_le.2 hrb)
  · intro hy
    rcases f49 _ hy with h | h
    · exact ok.rS h
    · exact absurd (Nat.le_trans hs42 h.1) (Nat.not_le.2 hrb)
  · intro hy
    rcases f56 _ hy with h | h
    · exact ok.rU h
    · exact absurd (Nat.le_trans (Nat.le_trans hs42 hs49) h.1) (Nat.not_le.2 hrb)
  · intro y hy hy2
    rcases f56 y hy with h | h
    · rcases f42 y hy2 with h' | h'
      · exact ok.uT y h h'
      · have := (bU y h).2; omega
    · rcases f42 y hy2 with h' | h'
      · have := (bT y h').2; omega
      · omega
  · intro y hy hy2
    rcases f56 y hy with h | h
    · rcases f49 y hy2 with h' | h'
      · exact ok.uS y h h'
      · have := (bU y h).2; omega
    · rcases f49 y hy2 with h' | h'
      · have := (bS y h').2; omega
      · omega
  · exact fun y hy => (oT56.base y hy).2
  · exact fun y hy => (oS56.base y hy).2
  · show BlkT w56 C.rb [.slice C.B C.b.length C.bc, .int .i64 (s.at_ : Int), .slice TA (C.T ++ [x]).length Tc, .slice SA (C.S ++ [a0]).length Sc, .slice UA (C.T ++ [x]).length Uc] _
    rw [List.length_append, List.length_append]
    exact b56
  · show OwnL SL w56 _ _ TA (C.T ++ [x]).length Tc _
    rw [List.length_append]
    exact oT56
  · show OwnL IL w56 _ _ SA (C.S ++ [a0]).length Sc _
    rw [List.length_append]
    exact oS56
  · show OwnL TL w56 _ _ UA (C.T ++ [x]).length Uc _
    rw [List.length_append]
    exact o56
  · intro y hy hy2
    rcases f49 y hy with h | h
    · rcases f42 y hy2 with h' | h'
      · exact sT y h h'
      · have := (bS y h).2; omega
    · rcases f42 y hy2 with h' | h'
      · have := (bT y h').2; omega
      · omega
/-- The same call at work, later. -/
structure Same (C D : RC) : Prop where
  W : D.W = C.W
  rb : D.rb = C.rb
  B : D.B = C.B
  bc : D.bc = C.bc
  b : D.b = C.b
set_option maxRecDepth 8000 in
/-- The table of texts. -/
theorem table_c {C : RC} {s : Pst} {w : World} (h : Tb C s w) (hT : C.T = []) (hS : C.S = []) (hu : s.used = []) {R : Ending → World → Prop}
    (k : match tableS s with
      | .ok TS s' => ∀ D w', Same C D → D.T = TS.1 → D.S = TS.2 → Tb D s' w' → R (.returned undef) w'
      | .err c p => ∀ w' fa, Ext [] C.W w' → C.W.heap.size ≤ fa → BlkT w' fa (faultC c p) 129 → R (.panicked (gaveUp fa)) w') :
    Calls Tryz.prog 60 #[.pointer (some ⟨C.rb, 0, none⟩)] w R := by
  apply image_reader_table_nf
  have hWw := h.rd.ex.size
  refine many_c h.ok h.rd ?_
  unfold tableS at k
  cases hm : manyS s with
  | err e p =>
    rw [hm] at k
    simp only [Res.bind] at k
    exact fun w' fa e hfa hb => .inr ⟨_, rfl, k w' fa (h.ok.back h.rd.ex e h.ok.FW) (by omega) hb⟩
  | ok n s1 =>
  rw [hm] at k
  simp only [Res.bind] at k
  intro w4 h4 e4 hn
  have hu1 : s1.used = s.used := by
    have := (manyS_ok (T := []) hm).1.used
    rw [mark_none (p := Piece.count n) rfl] at this
    exact this
  refine .inl ⟨_, rfl, ?_⟩
  refine ⟨fun t w' => ∃ (a : Nat) (D : RC) (s' : Pst), t = (a : Int) ∧ a ≤ n ∧ D.T.length = a ∧ Same C D ∧ Tb D s' w' ∧ tableGo n [] [] s1 = tableGo (n - a) D.T D.S s', fun t _ => n - t.toNat, ⟨0, C, s1, rfl, by omega, by rw [hT]; rfl, ⟨rfl, rfl, rfl, rfl, rfl⟩, ⟨h.ok, h4, h.sT, h.st⟩, by rw [hT, hS]; rfl⟩, ?_⟩
  rintro _ _ w9 ⟨a, D, s9, rfl, ha, hDa, hD, ⟨ok, h9, sT, st⟩, heq⟩
  refine sel_dec (fun hlt => ?_) (fun hge => ?_)
  rotate_left
  · obtain rfl : a = n := by omega
    rw [heq, Nat.sub_self] at k
    simp only [tableGo] at k
    exact k D w9 hD rfl rfl ⟨ok, h9, sT, st⟩
  obtain ⟨m, hnm⟩ : ∃ m, n - a = m + 1 := ⟨n - a - 1, by omega⟩
  rw [hnm] at heq
  simp only [tableGo] at heq
  have hWD : D.W.heap.size ≤ w9.heap.size := h9.ex.size
  rw [← hD.rb]
  refine ptr_in ⟨_, cadd h9.blk rfl, many_c ok h9 ?_⟩
  cases hm9 : manyS s9 with
  | err e p =>
    rw [hm9] at heq
    simp only [Res.bind] at heq
    rw [heq] at k
    exact fun w' fa e hfa hb => .inr ⟨_, rfl, k w' fa (hD.W ▸ ok.back h9.ex e ok.FW) (by rw [← hD.W]; omega) hb⟩
  | ok n2 s14 =>
  rw [hm9] at heq
  simp only [Res.bind] at heq
  intro w14 h14 e14 hn2
  have hr14 := (manyS_ok (T := []) hm9).2
  have hrl := h14.rlen
  have hle := ok.le
  have hcp := ok.cap
  have hat := h14.at_
  refine .inl ⟨_, rfl, ptr_in ⟨_, _, _, cadd h14.blk rfl, ptr_in ⟨_, cadd h14.blk rfl, ptr_in ⟨_, cadd h14.blk rfl, ?_⟩⟩⟩⟩
  have e1 : IntKind.wrap .i64 ((s14.at_ : Int) + (n2 : Int)) = ((s14.at_ + n2 : Nat) : Int) := by rw [wi64 (by omega)]; omega
  rw [e1]
  refine when_dec ⟨by omega, by omega⟩ (when_dec ⟨by omega, by simp only [Int.toNat_natCast]; omega⟩ ?_)
  have d14 : Ext [] w14 w14.drew := (Ext.refl _ _).drew
  have h14d := h14.stay ok d14 (by simp)
  have hcut : Cells w14.drew (V.cut D.B D.bc (Int.toNat (s14.at_ : Int)) 1) (BL.flat (s14.rest.take n2)) := by
    have h1 := ((ok.bytes.ext0 h14d.ex).cut (c := D.bc) (l := s14.at_) (sz := 1) (fun hc => by rw [BL_flat, List.length_map]; omega)).take n2
    rw [BL_flat, ← List.map_drop, ← List.map_take, Nat.mul_one, ← BL_flat, ← h14.rest] at h1
    exact h1
  generalize hx : unb (s14.rest.take n2) = x at heq
  have hbx : bs x = s14.rest.take n2 := by rw [← hx, bs_unb]
  have hxs : x.size = n2 := by rw [← bs_len, hbx, List.length_take]; omega
  obtain ⟨w25, hs25, h25, e25⟩ := h14d.put ok (a := s14.at_ + n2) (by omega) iInt
  have hWW : C.W.heap.size ≤ w14.heap.size := by have := h14.ex.size; rw [hD.W] at this; exact this
  refine ⟨x, ?_, ptr_in ⟨_, cadd h14d.blk rfl, ptr_in ⟨w25, by rw [e1]; exact hs25, ?_⟩⟩⟩
  · rw [conv_B (P := Tryz.prog) (e := 5) uB (by kernel_rfl) (by kernel_rfl) hcut (by rw [List.length_take]; simp only [Int.toNat_natCast]; omega), hx]
  have hbad : nextB D.T (bs x) = true → ∀ {J : World → Prop}, Calls Tryz.prog 62 #[.pointer (some ⟨D.rb, 0, none⟩), .int .i64 263, .int .i64 (s9.at_ : Int)] w25 fun e31 w32 => (e31 = Ending.returned undef ∧ J w32) ∨ (∃ ch33, e31 = Ending.panicked ch33 ∧ R (Ending.panicked ch33) w32) := fun hb J => by
    rw [hbx] at hb
    rw [if_pos hb] at heq
    rw [heq] at k
    exact fail_c fun w' fa e hfa hbl => .inr ⟨_, rfl, k w' fa (hD.W ▸ ok.back h25.ex e (by simp)) (by have := e25.size; have : w14.drew.heap.size = w14.heap.size := rfl; omega) hbl⟩
  refine ⟨fun w' => w' = w25 ∧ nextB D.T (bs x) = false, ?_, ?_⟩
  · refine sel_dec (fun h0 => ?_) (fun h0 => ⟨rfl, by
      have : D.T = [] := List.eq_nil_of_length_eq_zero (by omega)
      rw [this]; rfl⟩)
    have ew : IntKind.wrap .i64 ((a : Int) - 1) = ((a - 1 : Nat) : Int) := by rw [wi64 (by omega)]; omega
    rw [ew]
    refine ptr_in ⟨_, _, _, cadd h25.blk rfl, when_dec ⟨by omega, by omega⟩ ?_⟩
    obtain ⟨y, ad, hy, hTA, rdc⟩ := h25.t.row (a := a - 1) (by omega)
    rw [hTA]
    have hlast : D.T.getLast? = some y := by rw [List.getLast?_eq_getElem?, hDa]; exact hy
    have hnb : nextB D.T (bs x) = !decide (bs y < bs x) := by unfold nextB; rw [hlast]
    refine ptr_in ⟨y, by have := rdc 0 _ rfl; rw [Addr.add_zero'] at this; exact this, ?_⟩
    rw [blt', beq']
    refine sel_intro (fun hc => hbad ?_) (fun hc => ⟨rfl, ?_⟩)
    · rw [hnb]
      simp only [Bool.or_eq_true, decide_eq_true_eq] at hc
      simp only [Bool.not_eq_true', decide_eq_false_iff_not]
      rcases hc with hc | hc
      · exact fun h => lt_irr _ (lt_tr h hc)
      · rw [hc]; exact lt_irr _
    · rw [hnb]
      simp only [Bool.or_eq_false_iff, decide_eq_false_iff_not] at hc
      simp only [Bool.not_eq_false', decide_eq_true_eq]
      rcases lt_tri (bs y) (bs x) with h1 | h1 | h1
      · exact h1
      · exact absurd h1.symm hc.2
      · exact absurd h1 hc.1
  rintro _ _ ⟨rfl, hnb⟩
  have hnb' := hnb
  rw [hbx] at hnb'
  rw [hnb'] at heq
  simp only [Bool.false_eq_true, if_false] at heq
  refine ptr_in ⟨_, _, _, cadd h25.blk rfl, fun w38 h38 => ?_⟩
  obtain ⟨TA, Tc, w40, w42, r1, r2, c42, h2⟩ := (Tb.mk ok h25 sT st).more (x := x) (a0 := s9.at_) (by omega) (nextB_of.1 hnb) (by omega) h38
  refine ⟨TA, _, Tc, w40, r1, ptr_in ⟨w42, r2, ptr_in ⟨_, _, _, c42, fun w45 h45 => ?_⟩⟩⟩
  obtain ⟨SA, Sc, w47, w49, r3, r4, c49, h3⟩ := h2 w45 h45
  refine ⟨SA, _, Sc, w47, r3, ptr_in ⟨w49, r4, ptr_in ⟨_, _, _, c49, fun w52 h52 => ?_⟩⟩⟩
  obtain ⟨UA, Uc, w54, w56, r5, r6, tb⟩ := h3 w52 h52
  refine ⟨UA, _, Uc, w54, r5, ptr_in ⟨w56, r6, ?_⟩⟩
  rw [up64 a (by omega)]
  refine ⟨⟨a + 1, _, _, rfl, by omega, ?_, ?_, tb, ?_⟩, by simp only [Int.toNat_natCast]; omega⟩
  · show (D.T ++ [x]).length = a + 1
    rw [List.length_append, hDa]; rfl
  · exact ⟨hD.W, hD.rb, hD.B, hD.bc, hD.b⟩
  · rw [heq, show n - (a + 1) = m by omega]
    congr 2
    rw [h14.rest, List.drop_drop]
end Go.Proofs.YtoaeefjcjdhlkaaGreat
