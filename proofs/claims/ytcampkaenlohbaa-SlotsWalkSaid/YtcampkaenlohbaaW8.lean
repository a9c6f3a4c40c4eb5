/- SlotsWalk: the iterator and the rows that are wanted, in whatever order they come up. -/
import Derived.Test.YtcampkaenlohbaaW7
set_option linter.unusedVariables false
set_option linter.unusedSimpArgs false
namespace Go.Proofs.Ytcampkaenlohbaa
open Go Go.V Go.B

theorem i59s : (Try.prog.info? 59).map (·.size) = some 1 := by kernel_rfl
theorem i52s : (Try.prog.info? 52).map (·.size) = some 1 := by kernel_rfl
def JW (w24 : World) (rows : List Rw) (ra rb : Option Addr) (w : World) : Prop := ∃ (fb gb cb : Nat) (CA : Option Addr) (cc : Nat) (WA : Option Addr) (wn wcap : Nat), ra = some ⟨fb, 0, none⟩ ∧ rb = some ⟨gb, 0, none⟩ ∧ BlkT w fb [.func (.func 41) #[] #[.pointer (some ⟨cb, 0, none⟩)]] 59 ∧ BlkT w gb [.slice WA wn wcap] 52 ∧ BlkT w cb [.slice CA rows.length cc] 77 ∧ Cells w CA (RL.flat rows) ∧ Cells w WA (DL.flat (drs rows)) ∧ (drs rows).length = wn ∧ Ext [] w24 w ∧ ∀ b ∈ fb :: gb :: cb :: (ownF CA ++ ownF WA), w24.heap.size ≤ b ∧ b < w.heap.size
theorem leaf_c {w24 u : World} {rows : List Rw} {fb gb cb : Nat} {CA : Option Addr} {cc : Nat} {WA : Option Addr} {wn wcap : Nat} (E : Ext [] w24 u) (bF : BlkT u fb [.nilFunc] 59) (bG : BlkT u gb [.slice none 0 0] 52) (bC : BlkT u cb [.slice CA rows.length cc] 77) (cC : Cells u CA (RL.flat rows)) (cW : Cells u WA (DL.flat (drs rows))) (lW : (drs rows).length = wn)
    (hlo : ∀ b ∈ fb :: gb :: cb :: (ownF CA ++ ownF WA), w24.heap.size ≤ b ∧ b < u.heap.size) (hfg : fb ≠ gb) (hap : ∀ b ∈ cb :: (ownF CA ++ ownF WA), b ≠ fb ∧ b ≠ gb) :
    ∃ w65, Sem.run Try.prog (Instr.storeAt 59 (.pointer (some ⟨fb, 0, none⟩)) (.func (.func 41) #[] #[.pointer (some ⟨cb, 0, none⟩)])) u = .ok () w65 ∧ Ext [] w24 w65 ∧
      ∃ w66, Sem.run Try.prog (Instr.storeAt 52 (.pointer (some ⟨gb, 0, none⟩)) (.slice WA wn wcap)) w65 = .ok () w66 ∧ JW w24 rows (some ⟨fb, 0, none⟩) (some ⟨gb, 0, none⟩) w66 := by
  obtain ⟨w65, hr65, b65, x65⟩ := store1 (P := Try.prog) (v := .func (.func 41) #[] #[.pointer (some ⟨cb, 0, none⟩)]) i59s bF (i := 0) (by simp) rfl rfl
  obtain ⟨w66, hr66, b66, x66⟩ := store1 (P := Try.prog) (v := .slice WA wn wcap) i52s (bG.ext x65 (by simpa using fun e => hfg e.symm)) (i := 0) (by simp) rfl rfl
  have hf := hlo fb (by simp)
  have hg := hlo gb (by simp)
  have hc := hap cb (by simp)
  have e65 : Ext [] w24 w65 := E.newer x65 (fun b hb => by rw [List.mem_singleton.1 hb]; exact hf.1)
  have s65 := x65.size
  have s66 := x66.size
  have hC : ∀ b ∈ ownF CA, b ≠ fb ∧ b ≠ gb := fun b hb => hap b (by simp [hb])
  have hW : ∀ b ∈ ownF WA, b ≠ fb ∧ b ≠ gb := fun b hb => hap b (by simp [hb])
  exact ⟨w65, hr65, e65, w66, hr66, fb, gb, cb, CA, cc, WA, wn, wcap, rfl, rfl, b65.ext x66 (by simpa using hfg), b66, (bC.ext x65 (by simpa using hc.1)).ext x66 (by simpa using hc.2), (cC.ext x65 (fun b hb => by simpa using (hC b hb).1)).ext x66 (fun b hb => by simpa using (hC b hb).2), (cW.ext x65 (fun b hb => by simpa using (hW b hb).1)).ext x66 (fun b hb => by simpa using (hW b hb).2), lW, e65.newer x66 (fun b hb => by rw [List.mem_singleton.1 hb]; exact hg.1), fun b hb => by have := hlo b hb; omega⟩
set_option maxRecDepth 8000 in
theorem orders_c {w24 : World} {r : Reg} (ht : Tb w24 r.p r.f r.s) (hd : Dc w24 r.A r.n r.s r.ds) :
    (Calls Try.prog 22 #[(Value.pointer (r.p.map fun b => (⟨b, 0, none⟩ : Addr)))] (World.drew w24) fun e58 w59 =>
  ∃ f57, ∃ f57a, ∃ f57c, e58 = Ending.returned (Value.func (.func f57) f57a f57c) ∧
  (fun w' => Ext [] w24 w') w59 ∧
  (Calls Try.prog 23 #[(Value.agg #[(Value.int .i64 ((r.s.most : Nat) : Int)), (Value.slice r.A r.n r.c)])] w59 fun e61 w62 =>
  ∃ A60, ∃ A60l, ∃ A60c, e61 = Ending.returned (Value.slice A60 A60l A60c) ∧
  (fun w' => Ext [] w24 w') w62 ∧
  (∀ w63, w63 = (World.alloc w62 (.cells #[Value.nilFunc] 59)) →
  (fun w' => Ext [] w24 w') w63 ∧
  ∀ w64, w64 = (World.alloc w63 (.cells #[(Value.slice none 0 0)] 52)) →
  (fun w' => Ext [] w24 w') w64 ∧
  ∃ w65, Sem.run Try.prog (Instr.storeAt 59 (Value.pointer (some ⟨Array.size (World.heap w62), 0, none⟩)) (Value.func (.func f57) f57a f57c)) w64 = .ok () w65 ∧
  (fun w' => Ext [] w24 w') w65 ∧
  ∃ w66, Sem.run Try.prog (Instr.storeAt 52 (Value.pointer (some ⟨Array.size (World.heap w63), 0, none⟩)) (Value.slice A60 A60l A60c)) w65 = .ok () w66 ∧
  (JW w24 r.s.rows) (some ⟨Array.size (World.heap w62), 0, none⟩) (some ⟨Array.size (World.heap w63), 0, none⟩) w66) ∧
  (∀ w67, w67 = (World.alloc w62 (.cells #[(Value.slice none 0 0)] 52)) →
  (fun w' => Ext [] w24 w') w67 ∧
  ∀ w68, w68 = (World.alloc w67 (.cells #[Value.nilFunc] 59)) →
  (fun w' => Ext [] w24 w') w68 ∧
  ∃ w69, Sem.run Try.prog (Instr.storeAt 59 (Value.pointer (some ⟨Array.size (World.heap w67), 0, none⟩)) (Value.func (.func f57) f57a f57c)) w68 = .ok () w69 ∧
  (fun w' => Ext [] w24 w') w69 ∧
  ∃ w70, Sem.run Try.prog (Instr.storeAt 52 (Value.pointer (some ⟨Array.size (World.heap w62), 0, none⟩)) (Value.slice A60 A60l A60c)) w69 = .ok () w70 ∧
  (JW w24 r.s.rows) (some ⟨Array.size (World.heap w67), 0, none⟩) (some ⟨Array.size (World.heap w62), 0, none⟩) w70) ∧ True) ∧
  (∀ w71, w71 = (World.alloc w59 (.cells #[Value.nilFunc] 59)) →
  (fun w' => Ext [] w24 w') w71 ∧
  (Calls Try.prog 23 #[(Value.agg #[(Value.int .i64 ((r.s.most : Nat) : Int)), (Value.slice r.A r.n r.c)])] w71 fun e73 w74 =>
  ∃ A72, ∃ A72l, ∃ A72c, e73 = Ending.returned (Value.slice A72 A72l A72c) ∧
  (fun w' => Ext [] w24 w') w74 ∧
  ∀ w75, w75 = (World.alloc w74 (.cells #[(Value.slice none 0 0)] 52)) →
  (fun w' => Ext [] w24 w') w75 ∧
  ∃ w76, Sem.run Try.prog (Instr.storeAt 59 (Value.pointer (some ⟨Array.size (World.heap w59), 0, none⟩)) (Value.func (.func f57) f57a f57c)) w75 = .ok () w76 ∧
  (fun w' => Ext [] w24 w') w76 ∧
  ∃ w77, Sem.run Try.prog (Instr.storeAt 52 (Value.pointer (some ⟨Array.size (World.heap w74), 0, none⟩)) (Value.slice A72 A72l A72c)) w76 = .ok () w77 ∧
  (JW w24 r.s.rows) (some ⟨Array.size (World.heap w59), 0, none⟩) (some ⟨Array.size (World.heap w74), 0, none⟩) w77) ∧
  (∀ w78, w78 = (World.alloc w71 (.cells #[(Value.slice none 0 0)] 52)) →
  (fun w' => Ext [] w24 w') w78 ∧
  Calls Try.prog 23 #[(Value.agg #[(Value.int .i64 ((r.s.most : Nat) : Int)), (Value.slice r.A r.n r.c)])] w78 fun e80 w81 =>
  ∃ A79, ∃ A79l, ∃ A79c, e80 = Ending.returned (Value.slice A79 A79l A79c) ∧
  (fun w' => Ext [] w24 w') w81 ∧
  ∃ w82, Sem.run Try.prog (Instr.storeAt 59 (Value.pointer (some ⟨Array.size (World.heap w59), 0, none⟩)) (Value.func (.func f57) f57a f57c)) w81 = .ok () w82 ∧
  (fun w' => Ext [] w24 w') w82 ∧
  ∃ w83, Sem.run Try.prog (Instr.storeAt 52 (Value.pointer (some ⟨Array.size (World.heap w71), 0, none⟩)) (Value.slice A79 A79l A79c)) w82 = .ok () w83 ∧
  (JW w24 r.s.rows) (some ⟨Array.size (World.heap w59), 0, none⟩) (some ⟨Array.size (World.heap w71), 0, none⟩) w83) ∧ True) ∧
  (∀ w84, w84 = (World.alloc w59 (.cells #[(Value.slice none 0 0)] 52)) →
  (fun w' => Ext [] w24 w') w84 ∧
  (Calls Try.prog 23 #[(Value.agg #[(Value.int .i64 ((r.s.most : Nat) : Int)), (Value.slice r.A r.n r.c)])] w84 fun e86 w87 =>
  ∃ A85, ∃ A85l, ∃ A85c, e86 = Ending.returned (Value.slice A85 A85l A85c) ∧
  (fun w' => Ext [] w24 w') w87 ∧
  ∀ w88, w88 = (World.alloc w87 (.cells #[Value.nilFunc] 59)) →
  (fun w' => Ext [] w24 w') w88 ∧
  ∃ w89, Sem.run Try.prog (Instr.storeAt 59 (Value.pointer (some ⟨Array.size (World.heap w87), 0, none⟩)) (Value.func (.func f57) f57a f57c)) w88 = .ok () w89 ∧
  (fun w' => Ext [] w24 w') w89 ∧
  ∃ w90, Sem.run Try.prog (Instr.storeAt 52 (Value.pointer (some ⟨Array.size (World.heap w59), 0, none⟩)) (Value.slice A85 A85l A85c)) w89 = .ok () w90 ∧
  (JW w24 r.s.rows) (some ⟨Array.size (World.heap w87), 0, none⟩) (some ⟨Array.size (World.heap w59), 0, none⟩) w90) ∧
  (∀ w91, w91 = (World.alloc w84 (.cells #[Value.nilFunc] 59)) →
  (fun w' => Ext [] w24 w') w91 ∧
  Calls Try.prog 23 #[(Value.agg #[(Value.int .i64 ((r.s.most : Nat) : Int)), (Value.slice r.A r.n r.c)])] w91 fun e93 w94 =>
  ∃ A92, ∃ A92l, ∃ A92c, e93 = Ending.returned (Value.slice A92 A92l A92c) ∧
  (fun w' => Ext [] w24 w') w94 ∧
  ∃ w95, Sem.run Try.prog (Instr.storeAt 59 (Value.pointer (some ⟨Array.size (World.heap w84), 0, none⟩)) (Value.func (.func f57) f57a f57c)) w94 = .ok () w95 ∧
  (fun w' => Ext [] w24 w') w95 ∧
  ∃ w96, Sem.run Try.prog (Instr.storeAt 52 (Value.pointer (some ⟨Array.size (World.heap w59), 0, none⟩)) (Value.slice A92 A92l A92c)) w95 = .ok () w96 ∧
  (JW w24 r.s.rows) (some ⟨Array.size (World.heap w84), 0, none⟩) (some ⟨Array.size (World.heap w59), 0, none⟩) w96) ∧ True) ∧ True) ∧
  (∀ w97, w97 = (World.alloc (World.drew w24) (.cells #[Value.nilFunc] 59)) →
  (fun w' => Ext [] w24 w') w97 ∧
  (Calls Try.prog 22 #[(Value.pointer (r.p.map fun b => (⟨b, 0, none⟩ : Addr)))] w97 fun e99 w100 =>
  ∃ f98, ∃ f98a, ∃ f98c, e99 = Ending.returned (Value.func (.func f98) f98a f98c) ∧
  (fun w' => Ext [] w24 w') w100 ∧
  (Calls Try.prog 23 #[(Value.agg #[(Value.int .i64 ((r.s.most : Nat) : Int)), (Value.slice r.A r.n r.c)])] w100 fun e102 w103 =>
  ∃ A101, ∃ A101l, ∃ A101c, e102 = Ending.returned (Value.slice A101 A101l A101c) ∧
  (fun w' => Ext [] w24 w') w103 ∧
  ∀ w104, w104 = (World.alloc w103 (.cells #[(Value.slice none 0 0)] 52)) →
  (fun w' => Ext [] w24 w') w104 ∧
  ∃ w105, Sem.run Try.prog (Instr.storeAt 59 (Value.pointer (some ⟨Array.size (World.heap (World.drew w24)), 0, none⟩)) (Value.func (.func f98) f98a f98c)) w104 = .ok () w105 ∧
  (fun w' => Ext [] w24 w') w105 ∧
  ∃ w106, Sem.run Try.prog (Instr.storeAt 52 (Value.pointer (some ⟨Array.size (World.heap w103), 0, none⟩)) (Value.slice A101 A101l A101c)) w105 = .ok () w106 ∧
  (JW w24 r.s.rows) (some ⟨Array.size (World.heap (World.drew w24)), 0, none⟩) (some ⟨Array.size (World.heap w103), 0, none⟩) w106) ∧
  (∀ w107, w107 = (World.alloc w100 (.cells #[(Value.slice none 0 0)] 52)) →
  (fun w' => Ext [] w24 w') w107 ∧
  Calls Try.prog 23 #[(Value.agg #[(Value.int .i64 ((r.s.most : Nat) : Int)), (Value.slice r.A r.n r.c)])] w107 fun e109 w110 =>
  ∃ A108, ∃ A108l, ∃ A108c, e109 = Ending.returned (Value.slice A108 A108l A108c) ∧
  (fun w' => Ext [] w24 w') w110 ∧
  ∃ w111, Sem.run Try.prog (Instr.storeAt 59 (Value.pointer (some ⟨Array.size (World.heap (World.drew w24)), 0, none⟩)) (Value.func (.func f98) f98a f98c)) w110 = .ok () w111 ∧
  (fun w' => Ext [] w24 w') w111 ∧
  ∃ w112, Sem.run Try.prog (Instr.storeAt 52 (Value.pointer (some ⟨Array.size (World.heap w100), 0, none⟩)) (Value.slice A108 A108l A108c)) w111 = .ok () w112 ∧
  (JW w24 r.s.rows) (some ⟨Array.size (World.heap (World.drew w24)), 0, none⟩) (some ⟨Array.size (World.heap w100), 0, none⟩) w112) ∧ True) ∧
  (∀ w113, w113 = (World.alloc w97 (.cells #[(Value.slice none 0 0)] 52)) →
  (fun w' => Ext [] w24 w') w113 ∧
  Calls Try.prog 22 #[(Value.pointer (r.p.map fun b => (⟨b, 0, none⟩ : Addr)))] w113 fun e115 w116 =>
  ∃ f114, ∃ f114a, ∃ f114c, e115 = Ending.returned (Value.func (.func f114) f114a f114c) ∧
  (fun w' => Ext [] w24 w') w116 ∧
  Calls Try.prog 23 #[(Value.agg #[(Value.int .i64 ((r.s.most : Nat) : Int)), (Value.slice r.A r.n r.c)])] w116 fun e118 w119 =>
  ∃ A117, ∃ A117l, ∃ A117c, e118 = Ending.returned (Value.slice A117 A117l A117c) ∧
  (fun w' => Ext [] w24 w') w119 ∧
  ∃ w120, Sem.run Try.prog (Instr.storeAt 59 (Value.pointer (some ⟨Array.size (World.heap (World.drew w24)), 0, none⟩)) (Value.func (.func f114) f114a f114c)) w119 = .ok () w120 ∧
  (fun w' => Ext [] w24 w') w120 ∧
  ∃ w121, Sem.run Try.prog (Instr.storeAt 52 (Value.pointer (some ⟨Array.size (World.heap w97), 0, none⟩)) (Value.slice A117 A117l A117c)) w120 = .ok () w121 ∧
  (JW w24 r.s.rows) (some ⟨Array.size (World.heap (World.drew w24)), 0, none⟩) (some ⟨Array.size (World.heap w97), 0, none⟩) w121) ∧ True) ∧
  (∀ w122, w122 = (World.alloc (World.drew w24) (.cells #[(Value.slice none 0 0)] 52)) →
  (fun w' => Ext [] w24 w') w122 ∧
  (Calls Try.prog 22 #[(Value.pointer (r.p.map fun b => (⟨b, 0, none⟩ : Addr)))] w122 fun e124 w125 =>
  ∃ f123, ∃ f123a, ∃ f123c, e124 = Ending.returned (Value.func (.func f123) f123a f123c) ∧
  (fun w' => Ext [] w24 w') w125 ∧
  (Calls Try.prog 23 #[(Value.agg #[(Value.int .i64 ((r.s.most : Nat) : Int)), (Value.slice r.A r.n r.c)])] w125 fun e127 w128 =>
  ∃ A126, ∃ A126l, ∃ A126c, e127 = Ending.returned (Value.slice A126 A126l A126c) ∧
  (fun w' => Ext [] w24 w') w128 ∧
  ∀ w129, w129 = (World.alloc w128 (.cells #[Value.nilFunc] 59)) →
  (fun w' => Ext [] w24 w') w129 ∧
  ∃ w130, Sem.run Try.prog (Instr.storeAt 59 (Value.pointer (some ⟨Array.size (World.heap w128), 0, none⟩)) (Value.func (.func f123) f123a f123c)) w129 = .ok () w130 ∧
  (fun w' => Ext [] w24 w') w130 ∧
  ∃ w131, Sem.run Try.prog (Instr.storeAt 52 (Value.pointer (some ⟨Array.size (World.heap (World.drew w24)), 0, none⟩)) (Value.slice A126 A126l A126c)) w130 = .ok () w131 ∧
  (JW w24 r.s.rows) (some ⟨Array.size (World.heap w128), 0, none⟩) (some ⟨Array.size (World.heap (World.drew w24)), 0, none⟩) w131) ∧
  (∀ w132, w132 = (World.alloc w125 (.cells #[Value.nilFunc] 59)) →
  (fun w' => Ext [] w24 w') w132 ∧
  Calls Try.prog 23 #[(Value.agg #[(Value.int .i64 ((r.s.most : Nat) : Int)), (Value.slice r.A r.n r.c)])] w132 fun e134 w135 =>
  ∃ A133, ∃ A133l, ∃ A133c, e134 = Ending.returned (Value.slice A133 A133l A133c) ∧
  (fun w' => Ext [] w24 w') w135 ∧
  ∃ w136, Sem.run Try.prog (Instr.storeAt 59 (Value.pointer (some ⟨Array.size (World.heap w125), 0, none⟩)) (Value.func (.func f123) f123a f123c)) w135 = .ok () w136 ∧
  (fun w' => Ext [] w24 w') w136 ∧
  ∃ w137, Sem.run Try.prog (Instr.storeAt 52 (Value.pointer (some ⟨Array.size (World.heap (World.drew w24)), 0, none⟩)) (Value.slice A133 A133l A133c)) w136 = .ok () w137 ∧
  (JW w24 r.s.rows) (some ⟨Array.size (World.heap w125), 0, none⟩) (some ⟨Array.size (World.heap (World.drew w24)), 0, none⟩) w137) ∧ True) ∧
  (∀ w138, w138 = (World.alloc w122 (.cells #[Value.nilFunc] 59)) →
  (fun w' => Ext [] w24 w') w138 ∧
  Calls Try.prog 22 #[(Value.pointer (r.p.map fun b => (⟨b, 0, none⟩ : Addr)))] w138 fun e140 w141 =>
  ∃ f139, ∃ f139a, ∃ f139c, e140 = Ending.returned (Value.func (.func f139) f139a f139c) ∧
  (fun w' => Ext [] w24 w') w141 ∧
  Calls Try.prog 23 #[(Value.agg #[(Value.int .i64 ((r.s.most : Nat) : Int)), (Value.slice r.A r.n r.c)])] w141 fun e143 w144 =>
  ∃ A142, ∃ A142l, ∃ A142c, e143 = Ending.returned (Value.slice A142 A142l A142c) ∧
  (fun w' => Ext [] w24 w') w144 ∧
  ∃ w145, Sem.run Try.prog (Instr.storeAt 59 (Value.pointer (some ⟨Array.size (World.heap w122), 0, none⟩)) (Value.func (.func f139) f139a f139c)) w144 = .ok () w145 ∧
  (fun w' => Ext [] w24 w') w145 ∧
  ∃ w146, Sem.run Try.prog (Instr.storeAt 52 (Value.pointer (some ⟨Array.size (World.heap (World.drew w24)), 0, none⟩)) (Value.slice A142 A142l A142c)) w145 = .ok () w146 ∧
  (JW w24 r.s.rows) (some ⟨Array.size (World.heap w122), 0, none⟩) (some ⟨Array.size (World.heap (World.drew w24)), 0, none⟩) w146) ∧ True) ∧ True := by
  have E0 : Ext [] w24 w24.drew := (Ext.refl _ _).drew
  have sd : w24.drew.heap.size = w24.heap.size := rfl
  refine ⟨?_, ?_, ?_, trivial⟩
  · refine Tb_All (ht.ext0 E0) fun cb1 CA1 cc1 u1 e1 hc1 hd1 bc1 cl1 hA1 => ⟨_, #[], _, rfl, E0.trans e1, ?_⟩
    have s1 := e1.size
    refine ⟨?_, ?_, ?_, trivial⟩
    · refine refBySlot_c (hd.ext0 (E0.trans e1)) _ r.c fun WA2 wn2 wc2 u2 e2 ow2 => ⟨_, _, _, rfl, (E0.trans e1).trans e2, ?_⟩
      have s2 := e2.size
      have hW2 := ow2.base
      refine ⟨?_, ?_, trivial⟩
      · intro u3 h3
        obtain ⟨b3, e3, z3⟩ := box_new (cs := [.nilFunc]) h3
        refine ⟨((E0.trans e1).trans e2).trans e3, ?_⟩
        intro u4 h4
        obtain ⟨b4, e4, z4⟩ := box_new (cs := [.slice none 0 0]) h4
        refine ⟨(((E0.trans e1).trans e2).trans e3).trans e4, ?_⟩
        exact leaf_c ((((E0.trans e1).trans e2).trans e3).trans e4) (b3.ext0 e4) b4 (((bc1.ext0 e2).ext0 e3).ext0 e4) (((cl1.ext0 e2).ext0 e3).ext0 e4) ((ow2.cells.ext0 e3).ext0 e4) ow2.len (by simp only [List.mem_cons, List.mem_append]; rintro b (rfl | rfl | rfl | hb | hb) <;> first | (have := hA1 b hb; omega) | (have := hW2 b hb; omega) | omega) (by omega) (by simp only [List.mem_cons, List.mem_append]; rintro b (rfl | hb | hb) <;> first | (have := hA1 b hb; omega) | (have := hW2 b hb; omega) | omega)
      · intro u5 h5
        obtain ⟨b5, e5, z5⟩ := box_new (cs := [.slice none 0 0]) h5
        refine ⟨((E0.trans e1).trans e2).trans e5, ?_⟩
        intro u6 h6
        obtain ⟨b6, e6, z6⟩ := box_new (cs := [.nilFunc]) h6
        refine ⟨(((E0.trans e1).trans e2).trans e5).trans e6, ?_⟩
        exact leaf_c ((((E0.trans e1).trans e2).trans e5).trans e6) b6 (b5.ext0 e6) (((bc1.ext0 e2).ext0 e5).ext0 e6) (((cl1.ext0 e2).ext0 e5).ext0 e6) ((ow2.cells.ext0 e5).ext0 e6) ow2.len (by simp only [List.mem_cons, List.mem_append]; rintro b (rfl | rfl | rfl | hb | hb) <;> first | (have := hA1 b hb; omega) | (have := hW2 b hb; omega) | omega) (by omega) (by simp only [List.mem_cons, List.mem_append]; rintro b (rfl | hb | hb) <;> first | (have := hA1 b hb; omega) | (have := hW2 b hb; omega) | omega)
    · intro u7 h7
      obtain ⟨b7, e7, z7⟩ := box_new (cs := [.nilFunc]) h7
      refine ⟨(E0.trans e1).trans e7, ?_⟩
      refine ⟨?_, ?_, trivial⟩
      · refine refBySlot_c (hd.ext0 ((E0.trans e1).trans e7)) _ r.c fun WA8 wn8 wc8 u8 e8 ow8 => ⟨_, _, _, rfl, ((E0.trans e1).trans e7).trans e8, ?_⟩
        have s8 := e8.size
        have hW8 := ow8.base
        intro u9 h9
        obtain ⟨b9, e9, z9⟩ := box_new (cs := [.slice none 0 0]) h9
        refine ⟨(((E0.trans e1).trans e7).trans e8).trans e9, ?_⟩
        exact leaf_c ((((E0.trans e1).trans e7).trans e8).trans e9) ((b7.ext0 e8).ext0 e9) b9 (((bc1.ext0 e7).ext0 e8).ext0 e9) (((cl1.ext0 e7).ext0 e8).ext0 e9) (ow8.cells.ext0 e9) ow8.len (by simp only [List.mem_cons, List.mem_append]; rintro b (rfl | rfl | rfl | hb | hb) <;> first | (have := hA1 b hb; omega) | (have := hW8 b hb; omega) | omega) (by omega) (by simp only [List.mem_cons, List.mem_append]; rintro b (rfl | hb | hb) <;> first | (have := hA1 b hb; omega) | (have := hW8 b hb; omega) | omega)
      · intro u10 h10
        obtain ⟨b10, e10, z10⟩ := box_new (cs := [.slice none 0 0]) h10
        refine ⟨((E0.trans e1).trans e7).trans e10, ?_⟩
        refine refBySlot_c (hd.ext0 (((E0.trans e1).trans e7).trans e10)) _ r.c fun WA11 wn11 wc11 u11 e11 ow11 => ⟨_, _, _, rfl, (((E0.trans e1).trans e7).trans e10).trans e11, ?_⟩
        have s11 := e11.size
        have hW11 := ow11.base
        exact leaf_c ((((E0.trans e1).trans e7).trans e10).trans e11) ((b7.ext0 e10).ext0 e11) (b10.ext0 e11) (((bc1.ext0 e7).ext0 e10).ext0 e11) (((cl1.ext0 e7).ext0 e10).ext0 e11) ow11.cells ow11.len (by simp only [List.mem_cons, List.mem_append]; rintro b (rfl | rfl | rfl | hb | hb) <;> first | (have := hA1 b hb; omega) | (have := hW11 b hb; omega) | omega) (by omega) (by simp only [List.mem_cons, List.mem_append]; rintro b (rfl | hb | hb) <;> first | (have := hA1 b hb; omega) | (have := hW11 b hb; omega) | omega)
    · intro u12 h12
      obtain ⟨b12, e12, z12⟩ := box_new (cs := [.slice none 0 0]) h12
      refine ⟨(E0.trans e1).trans e12, ?_⟩
      refine ⟨?_, ?_, trivial⟩
      · refine refBySlot_c (hd.ext0 ((E0.trans e1).trans e12)) _ r.c fun WA13 wn13 wc13 u13 e13 ow13 => ⟨_, _, _, rfl, ((E0.trans e1).trans e12).trans e13, ?_⟩
        have s13 := e13.size
        have hW13 := ow13.base
        intro u14 h14
        obtain ⟨b14, e14, z14⟩ := box_new (cs := [.nilFunc]) h14
        refine ⟨(((E0.trans e1).trans e12).trans e13).trans e14, ?_⟩
        exact leaf_c ((((E0.trans e1).trans e12).trans e13).trans e14) b14 ((b12.ext0 e13).ext0 e14) (((bc1.ext0 e12).ext0 e13).ext0 e14) (((cl1.ext0 e12).ext0 e13).ext0 e14) (ow13.cells.ext0 e14) ow13.len (by simp only [List.mem_cons, List.mem_append]; rintro b (rfl | rfl | rfl | hb | hb) <;> first | (have := hA1 b hb; omega) | (have := hW13 b hb; omega) | omega) (by omega) (by simp only [List.mem_cons, List.mem_append]; rintro b (rfl | hb | hb) <;> first | (have := hA1 b hb; omega) | (have := hW13 b hb; omega) | omega)
      · intro u15 h15
        obtain ⟨b15, e15, z15⟩ := box_new (cs := [.nilFunc]) h15
        refine ⟨((E0.trans e1).trans e12).trans e15, ?_⟩
        refine refBySlot_c (hd.ext0 (((E0.trans e1).trans e12).trans e15)) _ r.c fun WA16 wn16 wc16 u16 e16 ow16 => ⟨_, _, _, rfl, (((E0.trans e1).trans e12).trans e15).trans e16, ?_⟩
        have s16 := e16.size
        have hW16 := ow16.base
        exact leaf_c ((((E0.trans e1).trans e12).trans e15).trans e16) (b15.ext0 e16) ((b12.ext0 e15).ext0 e16) (((bc1.ext0 e12).ext0 e15).ext0 e16) (((cl1.ext0 e12).ext0 e15).ext0 e16) ow16.cells ow16.len (by simp only [List.mem_cons, List.mem_append]; rintro b (rfl | rfl | rfl | hb | hb) <;> first | (have := hA1 b hb; omega) | (have := hW16 b hb; omega) | omega) (by omega) (by simp only [List.mem_cons, List.mem_append]; rintro b (rfl | hb | hb) <;> first | (have := hA1 b hb; omega) | (have := hW16 b hb; omega) | omega)
  · intro u17 h17
    obtain ⟨b17, e17, z17⟩ := box_new (cs := [.nilFunc]) h17
    refine ⟨E0.trans e17, ?_⟩
    refine ⟨?_, ?_, trivial⟩
    · refine Tb_All (ht.ext0 (E0.trans e17)) fun cb18 CA18 cc18 u18 e18 hc18 hd18 bc18 cl18 hA18 => ⟨_, #[], _, rfl, (E0.trans e17).trans e18, ?_⟩
      have s18 := e18.size
      refine ⟨?_, ?_, trivial⟩
      · refine refBySlot_c (hd.ext0 ((E0.trans e17).trans e18)) _ r.c fun WA19 wn19 wc19 u19 e19 ow19 => ⟨_, _, _, rfl, ((E0.trans e17).trans e18).trans e19, ?_⟩
        have s19 := e19.size
        have hW19 := ow19.base
        intro u20 h20
        obtain ⟨b20, e20, z20⟩ := box_new (cs := [.slice none 0 0]) h20
        refine ⟨(((E0.trans e17).trans e18).trans e19).trans e20, ?_⟩
        exact leaf_c ((((E0.trans e17).trans e18).trans e19).trans e20) (((b17.ext0 e18).ext0 e19).ext0 e20) b20 ((bc18.ext0 e19).ext0 e20) ((cl18.ext0 e19).ext0 e20) (ow19.cells.ext0 e20) ow19.len (by simp only [List.mem_cons, List.mem_append]; rintro b (rfl | rfl | rfl | hb | hb) <;> first | (have := hA18 b hb; omega) | (have := hW19 b hb; omega) | omega) (by omega) (by simp only [List.mem_cons, List.mem_append]; rintro b (rfl | hb | hb) <;> first | (have := hA18 b hb; omega) | (have := hW19 b hb; omega) | omega)
      · intro u21 h21
        obtain ⟨b21, e21, z21⟩ := box_new (cs := [.slice none 0 0]) h21
        refine ⟨((E0.trans e17).trans e18).trans e21, ?_⟩
        refine refBySlot_c (hd.ext0 (((E0.trans e17).trans e18).trans e21)) _ r.c fun WA22 wn22 wc22 u22 e22 ow22 => ⟨_, _, _, rfl, (((E0.trans e17).trans e18).trans e21).trans e22, ?_⟩
        have s22 := e22.size
        have hW22 := ow22.base
        exact leaf_c ((((E0.trans e17).trans e18).trans e21).trans e22) (((b17.ext0 e18).ext0 e21).ext0 e22) (b21.ext0 e22) ((bc18.ext0 e21).ext0 e22) ((cl18.ext0 e21).ext0 e22) ow22.cells ow22.len (by simp only [List.mem_cons, List.mem_append]; rintro b (rfl | rfl | rfl | hb | hb) <;> first | (have := hA18 b hb; omega) | (have := hW22 b hb; omega) | omega) (by omega) (by simp only [List.mem_cons, List.mem_append]; rintro b (rfl | hb | hb) <;> first | (have := hA18 b hb; omega) | (have := hW22 b hb; omega) | omega)
    · intro u23 h23
      obtain ⟨b23, e23, z23⟩ := box_new (cs := [.slice none 0 0]) h23
      refine ⟨(E0.trans e17).trans e23, ?_⟩
      refine Tb_All (ht.ext0 ((E0.trans e17).trans e23)) fun cb24 CA24 cc24 u24 e24 hc24 hd24 bc24 cl24 hA24 => ⟨_, #[], _, rfl, ((E0.trans e17).trans e23).trans e24, ?_⟩
      have s24 := e24.size
      refine refBySlot_c (hd.ext0 (((E0.trans e17).trans e23).trans e24)) _ r.c fun WA25 wn25 wc25 u25 e25 ow25 => ⟨_, _, _, rfl, (((E0.trans e17).trans e23).trans e24).trans e25, ?_⟩
      have s25 := e25.size
      have hW25 := ow25.base
      exact leaf_c ((((E0.trans e17).trans e23).trans e24).trans e25) (((b17.ext0 e23).ext0 e24).ext0 e25) ((b23.ext0 e24).ext0 e25) (bc24.ext0 e25) (cl24.ext0 e25) ow25.cells ow25.len (by simp only [List.mem_cons, List.mem_append]; rintro b (rfl | rfl | rfl | hb | hb) <;> first | (have := hA24 b hb; omega) | (have := hW25 b hb; omega) | omega) (by omega) (by simp only [List.mem_cons, List.mem_append]; rintro b (rfl | hb | hb) <;> first | (have := hA24 b hb; omega) | (have := hW25 b hb; omega) | omega)
  · intro u26 h26
    obtain ⟨b26, e26, z26⟩ := box_new (cs := [.slice none 0 0]) h26
    refine ⟨E0.trans e26, ?_⟩
    refine ⟨?_, ?_, trivial⟩
    · refine Tb_All (ht.ext0 (E0.trans e26)) fun cb27 CA27 cc27 u27 e27 hc27 hd27 bc27 cl27 hA27 => ⟨_, #[], _, rfl, (E0.trans e26).trans e27, ?_⟩
      have s27 := e27.size
      refine ⟨?_, ?_, trivial⟩
      · refine refBySlot_c (hd.ext0 ((E0.trans e26).trans e27)) _ r.c fun WA28 wn28 wc28 u28 e28 ow28 => ⟨_, _, _, rfl, ((E0.trans e26).trans e27).trans e28, ?_⟩
        have s28 := e28.size
        have hW28 := ow28.base
        intro u29 h29
        obtain ⟨b29, e29, z29⟩ := box_new (cs := [.nilFunc]) h29
        refine ⟨(((E0.trans e26).trans e27).trans e28).trans e29, ?_⟩
        exact leaf_c ((((E0.trans e26).trans e27).trans e28).trans e29) b29 (((b26.ext0 e27).ext0 e28).ext0 e29) ((bc27.ext0 e28).ext0 e29) ((cl27.ext0 e28).ext0 e29) (ow28.cells.ext0 e29) ow28.len (by simp only [List.mem_cons, List.mem_append]; rintro b (rfl | rfl | rfl | hb | hb) <;> first | (have := hA27 b hb; omega) | (have := hW28 b hb; omega) | omega) (by omega) (by simp only [List.mem_cons, List.mem_append]; rintro b (rfl | hb | hb) <;> first | (have := hA27 b hb; omega) | (have := hW28 b hb; omega) | omega)
      · intro u30 h30
        obtain ⟨b30, e30, z30⟩ := box_new (cs := [.nilFunc]) h30
        refine ⟨((E0.trans e26).trans e27).trans e30, ?_⟩
        refine refBySlot_c (hd.ext0 (((E0.trans e26).trans e27).trans e30)) _ r.c fun WA31 wn31 wc31 u31 e31 ow31 => ⟨_, _, _, rfl, (((E0.trans e26).trans e27).trans e30).trans e31, ?_⟩
        have s31 := e31.size
        have hW31 := ow31.base
        exact leaf_c ((((E0.trans e26).trans e27).trans e30).trans e31) (b30.ext0 e31) (((b26.ext0 e27).ext0 e30).ext0 e31) ((bc27.ext0 e30).ext0 e31) ((cl27.ext0 e30).ext0 e31) ow31.cells ow31.len (by simp only [List.mem_cons, List.mem_append]; rintro b (rfl | rfl | rfl | hb | hb) <;> first | (have := hA27 b hb; omega) | (have := hW31 b hb; omega) | omega) (by omega) (by simp only [List.mem_cons, List.mem_append]; rintro b (rfl | hb | hb) <;> first | (have := hA27 b hb; omega) | (have := hW31 b hb; omega) | omega)
    · intro u32 h32
      obtain ⟨b32, e32, z32⟩ := box_new (cs := [.nilFunc]) h32
      refine ⟨(E0.trans e26).trans e32, ?_⟩
      refine Tb_All (ht.ext0 ((E0.trans e26).trans e32)) fun cb33 CA33 cc33 u33 e33 hc33 hd33 bc33 cl33 hA33 => ⟨_, #[], _, rfl, ((E0.trans e26).trans e32).trans e33, ?_⟩
      have s33 := e33.size
      refine refBySlot_c (hd.ext0 (((E0.trans e26).trans e32).trans e33)) _ r.c fun WA34 wn34 wc34 u34 e34 ow34 => ⟨_, _, _, rfl, (((E0.trans e26).trans e32).trans e33).trans e34, ?_⟩
      have s34 := e34.size
      have hW34 := ow34.base
      exact leaf_c ((((E0.trans e26).trans e32).trans e33).trans e34) ((b32.ext0 e33).ext0 e34) (((b26.ext0 e32).ext0 e33).ext0 e34) (bc33.ext0 e34) (cl33.ext0 e34) ow34.cells ow34.len (by simp only [List.mem_cons, List.mem_append]; rintro b (rfl | rfl | rfl | hb | hb) <;> first | (have := hA33 b hb; omega) | (have := hW34 b hb; omega) | omega) (by omega) (by simp only [List.mem_cons, List.mem_append]; rintro b (rfl | hb | hb) <;> first | (have := hA33 b hb; omega) | (have := hW34 b hb; omega) | omega)
end Go.Proofs.Ytcampkaenlohbaa
