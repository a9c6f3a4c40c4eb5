/- Slots: a table tells just the document's rows. -/
import Derived.Test.YtcampkaenlohbaaM20
set_option linter.unusedVariables false
set_option linter.unusedSimpArgs false
namespace Go.Proofs.Ytcampkaenlohbaa
open Go Go.V Go.B

theorem dr_one (d : DR) : ∀ v ∈ d.cells, v.oneCell' = true := by
  intro v hv
  simp [DR.cells] at hv
  rcases hv with rfl | rfl | rfl <;> rfl
theorem dr_box {w w1 : World} {d : DR} (h : w1 = w.alloc (.cells #[.int .i64 0, .string ByteArray.empty, .int .i64 0] 66)) :
    ∃ w2, Sem.run Try.prog (Instr.storeAt 66 (.pointer (some ⟨w.heap.size, 0, none⟩)) (.agg ⟨d.cells⟩)) w1 = .ok () w2 ∧ BlkT w2 w.heap.size d.cells 66 ∧ Ext [] w w2 := by
  obtain ⟨b1, x1, z1⟩ := box_new (cs := [.int .i64 0, .string ByteArray.empty, .int .i64 0]) h
  obtain ⟨w2, hr, b2, e2⟩ := storeW (P := Try.prog) (t := 66) (n := 3) (vs := d.cells) i66s b1 rfl rfl (dr_one d)
  exact ⟨w2, hr, b2, x1.trans' e2 (fun b hb => .inr (by simp at hb; omega))⟩
theorem names_le {w : World} {p : Option Nat} {f : List Nat} {s : TS} (h : Tb w p f s) : (srt (names s.rows)).length ≤ 65536 := by
  have h1 := h.len
  have h2 := prs_len s.rows
  have : (srt (names s.rows)).length = (prs s.rows).length := by simp [srt, names]
  omega
set_option maxRecDepth 4000 in
theorem told_c {w : World} {p : Option Nat} {f : List Nat} {s : TS} {A : Option Addr} {n c : Nat} {ds : List DR} (ht : Tb w p f s) (hd : Dc w A n s ds) (most : Int) {R : Ending → World → Prop} (k : ∀ w', Ext [] w w' → R (.returned (.bool true)) w') :
    Calls Try.prog 29 #[pv p, .agg ⟨dt most A n c⟩] w R := by
  have hle := hd.le
  have hlen := hd.len
  have hml := hd.dm.len
  unfold dt
  apply berthlaw05_told_nf
  intro w4 h4
  obtain ⟨b4, x4, z4⟩ := box_new (cs := dt most A n c) h4
  have d4 : Ext [] w4 w4.drew := (Ext.refl _ _).drew
  refine ⟨fun w' => Ext [] w4 w', d4, _, _, _, fun w' e => cadd (b4.ext0 e) (i := 1) rfl, Tb_Len (ht.ext0 (x4.trans d4)) ⟨_, rfl, d4, sel_false (by simp; omega) ?_⟩⟩
  refine ⟨_, _, _, _, cellsC_S fun w' (e : Ext [] w4 w') => cadd0 (b4.ext0 e), Tb_Span (ht.ext0 (x4.trans d4)) ⟨_, rfl, d4, refSpan_c (hd.ext0 (x4.trans d4)) most c fun w18 e18 => ⟨_, rfl, d4.trans e18, sel_false (by simp) ?_⟩⟩⟩
  have f18 := d4.trans e18
  refine ⟨_, _, _, _, cellsC_S fun w' (e : Ext [] w4 w') => cadd0 (b4.ext0 e), Names_c (ht.ext0 (x4.trans f18)) fun A1 n1 c1 w23 e23 own23 => ⟨_, _, _, rfl, f18.trans e23, ?_⟩⟩
  have f23 := f18.trans e23
  refine refNames_c (hd.ext0 (x4.trans f23)) most c fun A2 n2 c2 w26 e26 own26 => ⟨_, _, _, rfl, f23.trans e26, ?_⟩
  have f26 := f23.trans e26
  have hnl := names_le ht
  have hl1 := own23.len
  refine textsAre_c (own23.ext0 e26).cells own23.len own26.cells own26.len (by omega) (fun _ w29 e29 => ⟨_, rfl, f26.trans e29, sel_false rfl ?_⟩) (fun h => absurd rfl h)
  have f29 := f26.trans e29
  refine ⟨_, _, _, cadd (b4.ext0 f29) (i := 1) rfl, fun t w' => ∃ a : Nat, t = a ∧ a ≤ n ∧ Ext [] w4 w', fun t _ => n - t.toNat, ⟨0, rfl, by omega, f29⟩, ?_⟩
  rintro _ _ w35 ⟨a, rfl, ha, e35⟩
  refine sel_dec (fun hlt => ?_) (fun _ => k _ (x4.trans e35))
  have hlt : a < n := by omega
  have g35 := x4.trans e35
  obtain ⟨d, ad, hda, rfl, rd⟩ := (hd.ext0 g35).cells.row hlen hlt
  have hmem : d ∈ ds := List.mem_of_getElem? hda
  obtain ⟨r1, r2⟩ := hd.dm.row hmem
  refine when_dec ⟨by omega, by omega⟩ (ptr_in ⟨_, _, _, rd, fun w40 h40 => ?_⟩)
  obtain ⟨w41, hr41, b41, e41⟩ := dr_box (d := d) h40
  have g41 := g35.trans e41
  refine ⟨w41, hr41, _, cadd b41 (i := 1) rfl, Tb_Find (ht.ext0 g41) d.name fun w47 e47 => ⟨_, _, _, rfl, _, cadd (b41.ext0 e47) (i := 0) rfl, Tb_At (ht.ext0 (g41.trans e47)) d.slot fun w53 e53 => ⟨_, _, _, rfl, ?_⟩⟩⟩
  have b53 := b41.ext0 (e47.trans e53)
  rw [r1, r2]
  refine sel_false rfl (sel_false rfl ⟨_, cadd b53 (i := 0) rfl, sel_false (by simp) ⟨_, cadd b53 (i := 2) rfl, sel_false (by simp) ⟨_, cadd b53 (i := 1) rfl, sel_false (by simp) ⟨_, cadd b53 (i := 2) rfl, sel_false (by simp) ?_⟩⟩⟩⟩)
  rw [up64 a (by omega)]
  exact ⟨⟨a + 1, rfl, by omega, ((e35.trans e41).trans e47).trans e53⟩, by simp only [Int.toNat_natCast]; omega⟩
end Go.Proofs.Ytcampkaenlohbaa
