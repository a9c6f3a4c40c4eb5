/- berthlaw01.Regs: four sets of the program's beside four of the document's. berthlaw01.Regs: one of the four is put anew. berthlaw01.Regs: a set made out of two. berthlaw01.Regs: a set made out of numbers is put in, or the refusal is the document's. berthlaw01.Op, and the steps that make a set out of numbers. berthlaw01.Regs: a set made out of a list of places. berthlaw01.Regs: a set made out of a list of words. -/
import Derived.Test.YtbaglnffgbnekaaDoorDA
set_option linter.unusedVariables false
set_option linter.unusedSimpArgs false
namespace Go.Proofs.YtbaglnffgbnekaaDoor
open Go Go.V Go.B

/-- One of the four: the program's set (none: nil), the document's. -/
structure Rg1 where
  q : Option (Nat × Nat)
  S : SetV
  A : Option Addr
  n : Nat
  c : Nat
def Rg1.p (r : Rg1) : Option Addr := r.q.map fun x => ⟨x.1, 0, none⟩
def Rg1.f (r : Rg1) : List Nat := match r.q with
  | none => []
  | some x => [x.1, x.2]
def Rg1.none : Rg1 := ⟨.none, SetV.nil, .none, 0, 0⟩
structure Rg1At (w : World) (r : Rg1) : Prop where
  ref : RefAt w r.p r.S r.f
  doc : Rf w r.S r.A r.n r.c
theorem Rg1At.ext {F : List Nat} {w w' : World} {r : Rg1} (h : Rg1At w r) (e : Ext F w w') (h1 : ∀ b ∈ r.f, b ∉ F) (h2 : ∀ b ∈ ownF r.A, b ∉ F) : Rg1At w' r := ⟨h.ref.ext e h1, h.doc.ext e h2⟩
theorem Rg1At.none (w : World) : Rg1At w Rg1.none := ⟨RefAt.nil w, ⟨SetV.Ok.nil, by
  have : SetV.nil.mi = [] := rfl
  show Cells w _ (ints .i64 SetV.nil.mi)
  rw [this]; exact Cells.nil _ _, by show 0 = SetV.nil.count; simp [SetV.count, SetV.nil, SetV.rank], Nat.le_refl _⟩⟩
theorem Rg1At.lt {w : World} {r : Rg1} (h : Rg1At w r) : ∀ b ∈ r.f, b < w.heap.size := by
  intro b hb
  rcases h.ref with ⟨_, _, hf⟩ | ⟨p, bw, _, hs, hf⟩
  · rw [hf] at hb; cases hb
  · rw [hf] at hb
    simp at hb
    rcases hb with rfl | rfl
    · exact hs.hdr.lt
    · exact hs.wrd.lt
def gcells (rs : List Rg1) : List Value := (rs.map fun r => Value.pointer r.p) ++ (rs.flatMap fun r => [.int .i64 (r.S.N : Int), .slice r.A r.n r.c]) ++ rs.map fun r => Value.bool r.q.isNone
theorem g_p {rs : List Rg1} (h : rs.length = 4) {i : Nat} {r : Rg1} (hr : rs[i]? = some r) : (gcells rs)[i]? = some (.pointer r.p) := by
  match rs, h with
  | [a, b, c, d], _ =>
    match i, hr with
    | 0, hr => cases hr; rfl
    | 1, hr => cases hr; rfl
    | 2, hr => cases hr; rfl
    | 3, hr => cases hr; rfl
    | n + 4, hr => simp at hr
theorem g_d {rs : List Rg1} (h : rs.length = 4) {i : Nat} {r : Rg1} (hr : rs[i]? = some r) : ∀ j v, ([Value.int .i64 (r.S.N : Int), .slice r.A r.n r.c] : List Value)[j]? = some v → (gcells rs)[4 + i * 2 + j]? = some v := by
  intro j v hv
  match rs, h with
  | [a, b, c, d], _ =>
    match i, hr with
    | 0, hr => cases hr; match j, hv with
      | 0, hv => exact hv
      | 1, hv => exact hv
    | 1, hr => cases hr; match j, hv with
      | 0, hv => exact hv
      | 1, hv => exact hv
    | 2, hr => cases hr; match j, hv with
      | 0, hv => exact hv
      | 1, hv => exact hv
    | 3, hr => cases hr; match j, hv with
      | 0, hv => exact hv
      | 1, hv => exact hv
    | n + 4, hr => simp at hr
theorem g_n {rs : List Rg1} (h : rs.length = 4) {i : Nat} {r : Rg1} (hr : rs[i]? = some r) : (gcells rs)[12 + i]? = some (.bool r.q.isNone) := by
  match rs, h with
  | [a, b, c, d], _ =>
    match i, hr with
    | 0, hr => cases hr; rfl
    | 1, hr => cases hr; rfl
    | 2, hr => cases hr; rfl
    | 3, hr => cases hr; rfl
    | n + 4, hr => simp at hr
theorem g_set {rs : List Rg1} (h : rs.length = 4) {i : Nat} (hi : i < 4) (r : Rg1) : ((((gcells rs).set i (.pointer r.p)).take (4 + i * 2) ++ [Value.int .i64 (r.S.N : Int), .slice r.A r.n r.c] ++ ((gcells rs).set i (.pointer r.p)).drop (4 + i * 2 + 2)).set (12 + i) (.bool r.q.isNone)) = gcells (rs.set i r) := by
  match rs, h with
  | [a, b, c, d], _ =>
    match i, hi with
    | 0, _ => rfl
    | 1, _ => rfl
    | 2, _ => rfl
    | 3, _ => rfl
theorem g_len {rs : List Rg1} (h : rs.length = 4) : (gcells rs).length = 16 := by
  match rs, h with
  | [a, b, c, d], _ => rfl
/-- The four, all apart. -/
structure Gs (w0 w : World) (gb : Nat) (rs : List Rg1) : Prop where
  e : Ext [] w0 w
  len : rs.length = 4
  blk : BlkT w gb (gcells rs) 53
  new : w0.heap.size ≤ gb ∧ ∀ (i : Nat) (r : Rg1), rs[i]? = some r → ∀ b ∈ r.f, w0.heap.size ≤ b
  at_ : ∀ (i : Nat) (r : Rg1), rs[i]? = some r → Rg1At w r
  s1 : ∀ (i j : Nat) (r r' : Rg1), i ≠ j → rs[i]? = some r → rs[j]? = some r' → ∀ b ∈ r.f, b ∉ r'.f
  s2 : ∀ (i j : Nat) (r r' : Rg1), rs[i]? = some r → rs[j]? = some r' → ∀ b ∈ ownF r.A, b ∉ r'.f
  s3 : ∀ (i : Nat) (r : Rg1), rs[i]? = some r → gb ∉ r.f ∧ gb ∉ ownF r.A
  lt : ∀ (i : Nat) (r : Rg1), rs[i]? = some r → ∀ b ∈ ownF r.A, b < w.heap.size
theorem Gs.ext0 {w0 w w' : World} {gb : Nat} {rs : List Rg1} (h : Gs w0 w gb rs) (e : Ext [] w w') : Gs w0 w' gb rs :=
  ⟨h.e.trans e, h.len, h.blk.ext0 e, h.new, fun i r hr => (h.at_ i r hr).ext e (by simp) (by simp), h.s1, h.s2, h.s3, fun i r hr b hb => by have := h.lt i r hr b hb; have := e.size; omega⟩
theorem Gs.at {w0 w : World} {gb : Nat} {rs : List Rg1} (h : Gs w0 w gb rs) {i : Nat} (hi : i < 4) : ∃ r, rs[i]? = some r := ⟨_, List.getElem?_eq_getElem (by have := h.len; omega)⟩
/-- The set a is put anew: F: what was turned. -/
theorem Gs.put {w0 w w' : World} {gb a : Nat} {rs : List Rg1} (h : Gs w0 w gb rs) {r r' : Rg1} (hr : rs[a]? = some r) {F : List Nat} (e : Ext F w w') (hF : ∀ b ∈ F, b = gb ∨ b ∈ r.f ∨ w.heap.size ≤ b) (hk : BlkT w' gb (gcells (rs.set a r')) 53) (ha : Rg1At w' r')
    (n1 : ∀ b ∈ r'.f, b ∈ r.f ∨ (w.heap.size ≤ b ∧ b ∉ ownF r'.A)) (n2 : ∀ b ∈ ownF r'.A, b ∈ ownF r.A ∨ w.heap.size ≤ b) (n3 : ∀ b ∈ ownF r'.A, b < w'.heap.size) : Gs w0 w' gb (rs.set a r') := by
  have h0 := h.e.size
  have ha4 := (List.getElem?_eq_some_iff.1 hr).1
  have hgl := h.blk.lt
  have get : ∀ {i : Nat} {x : Rg1}, (rs.set a r')[i]? = some x → (i = a ∧ x = r') ∨ (i ≠ a ∧ rs[i]? = some x) := fun {i x} hi => by
    rw [List.getElem?_set] at hi
    split at hi
    · rename_i he
      cases hi; exact .inl ⟨he.symm, rfl⟩
    · rename_i he
      exact .inr ⟨fun e => he e.symm, hi⟩
  have lo : ∀ b ∈ F, w0.heap.size ≤ b := fun b hb => by
    rcases hF b hb with h1 | h1 | h1
    · rw [h1]; exact h.new.1
    · exact h.new.2 a r hr b h1
    · omega
  refine ⟨h.e.trans' e fun b hb => .inr (lo b hb), by simpa using h.len, hk, ⟨h.new.1, fun i x hx b hb => ?_⟩, fun i x hx => ?_, fun i j x y hne hx hy b hb hm => ?_, fun i j x y hx hy b hb hm => ?_, fun i x hx => ?_, fun i x hx b hb => ?_⟩
  · rcases get hx with ⟨_, ex⟩ | ⟨_, hx2⟩
    · subst ex
      rcases n1 b hb with h1 | ⟨h1, _⟩
      · exact h.new.2 a r hr b h1
      · omega
    · exact h.new.2 i x hx2 b hb
  · rcases get hx with ⟨_, ex⟩ | ⟨hne, hx2⟩
    · subst ex
      exact ha
    · refine (h.at_ i x hx2).ext e (fun b hb hm => ?_) (fun b hb hm => ?_)
      · rcases hF b hm with h1 | h1 | h1
        · exact (h.s3 i x hx2).1 (h1 ▸ hb)
        · exact h.s1 i a x r hne hx2 hr b hb h1
        · have := (h.at_ i x hx2).lt b hb; omega
      · rcases hF b hm with h1 | h1 | h1
        · exact (h.s3 i x hx2).2 (h1 ▸ hb)
        · exact h.s2 i a x r hx2 hr b hb h1
        · have := h.lt i x hx2 b hb; omega
  · rcases get hx with ⟨hi, ex⟩ | ⟨hi, hx2⟩ <;> rcases get hy with ⟨hj, ey⟩ | ⟨hj, hy2⟩
    · subst ex; subst ey
      omega
    · subst ex
      rcases n1 b hb with h1 | ⟨h1, _⟩
      · exact h.s1 a j r y (fun e => hj e.symm) hr hy2 b h1 hm
      · have := (h.at_ j y hy2).lt b hm; omega
    · subst ey
      rcases n1 b hm with h1 | ⟨h1, _⟩
      · exact h.s1 i a x r hi hx2 hr b hb h1
      · have := (h.at_ i x hx2).lt b hb; omega
    · exact h.s1 i j x y hne hx2 hy2 b hb hm
  · rcases get hx with ⟨hi, ex⟩ | ⟨hi, hx2⟩ <;> rcases get hy with ⟨hj, ey⟩ | ⟨hj, hy2⟩
    · subst ex; subst ey
      rcases n1 b hm with h1 | ⟨h1, h2⟩
      · rcases n2 b hb with h3 | h3
        · exact h.s2 a a r r hr hr b h3 h1
        · have := (h.at_ a r hr).lt b h1; omega
      · exact h2 hb
    · subst ex
      rcases n2 b hb with h3 | h3
      · exact h.s2 a j r y hr hy2 b h3 hm
      · have := (h.at_ j y hy2).lt b hm; omega
    · subst ey
      rcases n1 b hm with h1 | ⟨h1, _⟩
      · exact h.s2 i a x r hx2 hr b hb h1
      · have := h.lt i x hx2 b hb; omega
    · exact h.s2 i j x y hx2 hy2 b hb hm
  · rcases get hx with ⟨hi, ex⟩ | ⟨hi, hx2⟩
    · subst ex
      refine ⟨fun hm => ?_, fun hm => ?_⟩
      · rcases n1 _ hm with h1 | ⟨h1, _⟩
        · exact (h.s3 a r hr).1 h1
        · omega
      · rcases n2 _ hm with h1 | h1
        · exact (h.s3 a r hr).2 h1
        · omega
    · exact h.s3 i x hx2
  · rcases get hx with ⟨hi, ex⟩ | ⟨hi, hx2⟩
    · subst ex
      exact n3 b hb
    · have := h.lt i x hx2 b hb; have := e.size; omega
end Go.Proofs.YtbaglnffgbnekaaDoor
namespace Go.Proofs.YtbaglnffgbnekaaDoor
open Go Go.V Go.B

theorem i27s : (Tryd.prog.info? 27).map (·.size) = some 1 := by kernel_rfl
theorem i4b : (Tryd.prog.info? 4).map (·.size) = some 1 := by kernel_rfl
theorem put3 {w0 wB w : World} {gb a : Nat} {rs : List Rg1} (h : Gs w0 wB gb rs) {r r' : Rg1} (hr : rs[a]? = some r) {F : List Nat} (e : Ext F wB w) (hF : ∀ b ∈ F, b ∈ r.f ∨ wB.heap.size ≤ b) (hat : Rg1At w r')
    (n1 : ∀ b ∈ r'.f, b ∈ r.f ∨ (wB.heap.size ≤ b ∧ b ∉ ownF r'.A)) (n2 : ∀ b ∈ ownF r'.A, b ∈ ownF r.A ∨ wB.heap.size ≤ b) (n3 : ∀ b ∈ ownF r'.A, b < w.heap.size) {S : World → Prop} (hS : ∀ w', Ext [gb] w w' → S w') {K : World → Prop} (k : ∀ w', Gs w0 w' gb (rs.set a r') → K w') :
    Go.V.ptr (some ⟨gb, 0, none⟩) fun a16 => Go.V.when (decide ((0 : Int) ≤ (a : Int) ∧ (a : Int) < 4)) (Go.V.ptr (some ⟨gb, 0, none⟩) fun a17 => Go.V.ptr (some ⟨gb, 0, none⟩) fun a18 =>
      ∃ w19, Sem.run Tryd.prog (Instr.storeAt 27 (.pointer (some (Addr.add (Addr.add a16 0) ((Int.toNat (a : Int)) * 1)))) (.pointer r'.p)) (World.drew w) = .ok () w19 ∧ S w19 ∧
      Go.V.when (decide ((0 : Int) ≤ (a : Int) ∧ (a : Int) < 4)) (∃ w20, Sem.run Tryd.prog (Instr.storeAt 50 (.pointer (some (Addr.add (Addr.add a17 4) ((Int.toNat (a : Int)) * 2)))) (.agg #[.int .i64 (r'.S.N : Int), .slice r'.A r'.n r'.c])) w19 = .ok () w20 ∧ S w20 ∧
      Go.V.when (decide ((0 : Int) ≤ (a : Int) ∧ (a : Int) < 4)) (∃ w21, Sem.run Tryd.prog (Instr.storeAt 4 (.pointer (some (Addr.add (Addr.add a18 12) ((Int.toNat (a : Int)) * 1)))) (.bool r'.q.isNone)) w20 = .ok () w21 ∧ S w21 ∧ K w21))) := by
  have ha4 : a < 4 := by have := (List.getElem?_eq_some_iff.1 hr).1; have := h.len; omega
  have hgl := h.blk.lt
  have s := e.size
  have hgF : gb ∉ F := fun hm => by
    rcases hF gb hm with h1 | h1
    · exact (h.s3 a r hr).1 h1
    · omega
  have b0 : BlkT w.drew gb (gcells rs) 53 := (show BlkT w gb (gcells rs) 53 from h.blk.ext e hgF)
  have gl := g_len h.len
  refine ptr_in (when_dec ⟨by omega, by omega⟩ (ptr_in (ptr_in ?_)))
  obtain ⟨w19, hr19, b19, x19⟩ := store1a (P := Tryd.prog) (v := .pointer r'.p) i27s b0 (i := a) (by omega) rfl rfl
  have x19 := x19.undrew
  refine ⟨w19, by rw [Addr.add_zero', Int.toNat_natCast, Nat.mul_one]; exact hr19, hS _ x19, when_dec ⟨by omega, by omega⟩ ?_⟩
  obtain ⟨w20, hr20, b20, x20⟩ := storeN (P := Tryd.prog) i50s b19 (o := 4 + a * 2) (vs := [.int .i64 (r'.S.N : Int), .slice r'.A r'.n r'.c]) rfl (by rw [List.length_set, gl]; omega) (fun v hv => by simp at hv; rcases hv with rfl | rfl <;> rfl)
  refine ⟨w20, by rw [Int.toNat_natCast, Addr.add_add, Addr.add_lit, Nat.zero_add]; exact hr20, hS _ (x19.trans x20), when_dec ⟨by omega, by omega⟩ ?_⟩
  obtain ⟨w21, hr21, b21, x21⟩ := store1a (P := Tryd.prog) (v := .bool r'.q.isNone) i4b b20 (i := 12 + a) (by simp [gl]; omega) rfl rfl
  refine ⟨w21, by rw [Int.toNat_natCast, Nat.mul_one, Addr.add_add]; exact hr21, hS _ ((x19.trans x20).trans x21), k w21 ?_⟩
  have x : Ext [gb] w w21 := (x19.trans x20).trans x21
  rw [g_set h.len ha4 r'] at b21
  have hlt' := hat.lt
  refine h.put hr (F := gb :: F) ⟨x.os.trans e.os, x.tape.trans e.tape, x.output.trans e.output, Nat.le_trans e.size x.size, fun q hq hm => ?_⟩ (fun b hb => ?_) b21 (hat.ext x (fun b hb hm => ?_) (fun b hb hm => ?_)) n1 n2 (fun b hb => by have := n3 b hb; have := x.size; omega)
  · simp only [List.mem_cons, not_or] at hm
    rw [x.same q (by omega) (by simpa using hm.1), e.same q hq hm.2]
  · simp only [List.mem_cons] at hb
    rcases hb with h1 | h1
    · exact .inl h1
    · rcases hF b h1 with h2 | h2
      · exact .inr (.inl h2)
      · exact .inr (.inr h2)
  · have hm : b = gb := by simpa using hm
    subst hm
    rcases n1 _ hb with h1 | ⟨h1, _⟩
    · exact (h.s3 a r hr).1 h1
    · omega
  · have hm : b = gb := by simpa using hm
    subst hm
    rcases n2 _ hb with h1 | h1
    · exact (h.s3 a r hr).2 h1
    · omega
end Go.Proofs.YtbaglnffgbnekaaDoor
namespace Go.Proofs.YtbaglnffgbnekaaDoor
open Go Go.V Go.B

theorem Gs.read_p {w0 w : World} {gb : Nat} {rs : List Rg1} (h : Gs w0 w gb rs) {i : Nat} {r : Rg1} (hr : rs[i]? = some r) : w.cell? (Addr.add (Addr.add ⟨gb, 0, none⟩ 0) (Int.toNat (i : Int) * 1)) = some (.pointer r.p) := by
  rw [Addr.add_zero', Int.toNat_natCast, Nat.mul_one]
  exact cadd h.blk (g_p h.len hr)
theorem Gs.read_d {w0 w : World} {gb : Nat} {rs : List Rg1} (h : Gs w0 w gb rs) {i : Nat} {r : Rg1} (hr : rs[i]? = some r) : cellsC (fun a v => w.cell? a = some v) (Addr.add (Addr.add ⟨gb, 0, none⟩ 4) (Int.toNat (i : Int) * 2)) [.int .i64 (r.S.N : Int), .slice r.A r.n r.c] := by
  intro j v hv
  rw [Int.toNat_natCast, Addr.add_add, Addr.add_add]
  exact cadd h.blk (by rw [← Nat.add_assoc]; exact g_d h.len hr j v hv)
set_option maxRecDepth 4000 in
theorem joinR_c {w0 w9 w16 : World} {gb a b c : Nat} {rs : List Rg1} (h : Gs w0 w9 gb rs) {r rb rc : Rg1} (hra : rs[a]? = some r) (hrb : rs[b]? = some rb) (hrc : rs[c]? = some rc) (bx : BlkT w16 w9.heap.size [.int .i64 0, .slice none 0 0] 50) (x16 : Ext [] w9 w16) {pf df : FuncId} {NN : Nat} {f : Nat → Bool}
    (hp : ∀ (w' : World) (R : Ending → World → Prop), Ext [] w9 w' → (∀ p bw w'' C, Ext [] w' w'' → w'.heap.size ≤ p → w'.heap.size ≤ bw → SetAt w'' p bw C → C.N = NN → (∀ i, C.mem i = f i) → R (.returned (.pointer (some ⟨p, 0, none⟩))) w'') → Calls Tryd.prog pf #[.pointer rb.p, .pointer rc.p] w' R)
    (hd : ∀ (w' : World) (R : Ending → World → Prop), Ext [] w9 w' → (∀ M m d w'', Ext [] w' w'' → (∀ b ∈ ownF M, w'.heap.size ≤ b ∧ b < w''.heap.size) → (∀ C : SetV, C.Ok → (∀ i, C.mem i = f i) → Rf w'' C M m d) → R (.returned (rv (NN : Int) M m d)) w'') → Calls Tryd.prog df #[rv (rb.S.N : Int) rb.A rb.n rb.c, rv (rc.S.N : Int) rc.A rc.n rc.c] w' R)
    {R : Ending → World → Prop} (k : ∀ w' rs', Gs w0 w' gb rs' → R (.returned (.bool true)) w') :
    ∃ S18 : World → Prop, S18 (World.drew w16) ∧
  V.ptr (some (⟨gb, 0, none⟩ : Addr)) fun a20 =>
  V.when (decide ((0 : Int) ≤ ((b : Nat) : Int) ∧ (((b : Nat) : Int) : Int) < 4)) (∃ p21, (∀ w19, S18 w19 → World.cell? w19 (Addr.add (Addr.add a20 0) ((Int.toNat ((b : Nat) : Int)) * 1)) = some (Value.pointer p21)) ∧
  V.ptr (some (⟨gb, 0, none⟩ : Addr)) fun a22 =>
  V.when (decide ((0 : Int) ≤ ((c : Nat) : Int) ∧ (((c : Nat) : Int) : Int) < 4)) (∃ p23, (∀ w19, S18 w19 → World.cell? w19 (Addr.add (Addr.add a22 0) ((Int.toNat ((c : Nat) : Int)) * 1)) = some (Value.pointer p23)) ∧
  V.ptr (some (⟨gb, 0, none⟩ : Addr)) fun a24 =>
  V.when (decide ((0 : Int) ≤ ((b : Nat) : Int) ∧ (((b : Nat) : Int) : Int) < 4)) (∃ n25, ∃ A26, ∃ A26l, ∃ A26c, V.cellsC (fun a_ x_ => ∀ w19, S18 w19 → World.cell? w19 a_ = some x_) (Addr.add (Addr.add a24 4) ((Int.toNat ((b : Nat) : Int)) * 2)) [(Value.int .i64 n25), (Value.slice A26 A26l A26c)] ∧
  V.ptr (some (⟨gb, 0, none⟩ : Addr)) fun a27 =>
  V.when (decide ((0 : Int) ≤ ((c : Nat) : Int) ∧ (((c : Nat) : Int) : Int) < 4)) (∃ n28, ∃ A29, ∃ A29l, ∃ A29c, V.cellsC (fun a_ x_ => ∀ w19, S18 w19 → World.cell? w19 a_ = some x_) (Addr.add (Addr.add a27 4) ((Int.toNat ((c : Nat) : Int)) * 2)) [(Value.int .i64 n28), (Value.slice A29 A29l A29c)] ∧
  Calls Tryd.prog pf #[(Value.pointer p21), (Value.pointer p23)] (World.drew w16) fun e31 w32 =>
  ∃ p30, e31 = Ending.returned (Value.pointer p30) ∧
  S18 w32 ∧
  Calls Tryd.prog df #[(Value.agg #[(Value.int .i64 n25), (Value.slice A26 A26l A26c)]), (Value.agg #[(Value.int .i64 n28), (Value.slice A29 A29l A29c)])] w32 fun e35 w36 =>
  ∃ n33, ∃ A34, ∃ A34l, ∃ A34c, e35 = Ending.returned (Value.agg #[(Value.int .i64 n33), (Value.slice A34 A34l A34c)]) ∧
  S18 w36 ∧
  ∃ w37, Sem.run Tryd.prog (Instr.storeAt 50 (Value.pointer (some ⟨Array.size (World.heap (World.drew w9)), 0, none⟩)) (Value.agg #[(Value.int .i64 n33), (Value.slice A34 A34l A34c)])) w36 = .ok () w37 ∧
  V.sel (Option.isNone p30)
  (R (Ending.returned (Value.bool false)) w37)
  (∃ S38 : World → Prop, S38 (World.drew w37) ∧
  ∃ n40, ∃ A41, ∃ A41l, ∃ A41c, V.cellsC (fun a_ x_ => ∀ w39, S38 w39 → World.cell? w39 a_ = some x_) ⟨Array.size (World.heap (World.drew w9)), 0, none⟩ [(Value.int .i64 n40), (Value.slice A41 A41l A41c)] ∧
  V.ptr (some (⟨gb, 0, none⟩ : Addr)) fun a42 =>
  V.when (decide ((0 : Int) ≤ ((a : Nat) : Int) ∧ (((a : Nat) : Int) : Int) < 4)) (V.ptr (some (⟨gb, 0, none⟩ : Addr)) fun a43 =>
  V.ptr (some (⟨gb, 0, none⟩ : Addr)) fun a44 =>
  ∃ w45, Sem.run Tryd.prog (Instr.storeAt 27 (Value.pointer (some (Addr.add (Addr.add a42 0) ((Int.toNat ((a : Nat) : Int)) * 1)))) (Value.pointer p30)) (World.drew w37) = .ok () w45 ∧
  S38 w45 ∧
  V.when (decide ((0 : Int) ≤ ((a : Nat) : Int) ∧ (((a : Nat) : Int) : Int) < 4)) (∃ w46, Sem.run Tryd.prog (Instr.storeAt 50 (Value.pointer (some (Addr.add (Addr.add a43 4) ((Int.toNat ((a : Nat) : Int)) * 2)))) (Value.agg #[(Value.int .i64 n40), (Value.slice A41 A41l A41c)])) w45 = .ok () w46 ∧
  S38 w46 ∧
  V.when (decide ((0 : Int) ≤ ((a : Nat) : Int) ∧ (((a : Nat) : Int) : Int) < 4)) (∃ w47, Sem.run Tryd.prog (Instr.storeAt 4 (Value.pointer (some (Addr.add (Addr.add a44 12) ((Int.toNat ((a : Nat) : Int)) * 1)))) (Value.bool false)) w46 = .ok () w47 ∧
  S38 w47 ∧
  R (Ending.returned (Value.bool true)) w47)))))))) := by
  have ra := (List.getElem?_eq_some_iff.1 hra).1
  have rb4 := (List.getElem?_eq_some_iff.1 hrb).1
  have rc4 := (List.getElem?_eq_some_iff.1 hrc).1
  have h4 := h.len
  have ib : (0 : Int) ≤ (b : Int) ∧ (b : Int) < 4 := by omega
  have ic : (0 : Int) ≤ (c : Int) ∧ (c : Int) < 4 := by omega
  have h16 := h.ext0 x16
  have d16 : Ext [] w16 w16.drew := (Ext.refl _ _).drew
  have s16 := x16.size
  have hxl := bx.lt
  refine ⟨fun w' => Ext [] w16 w', d16, ptr_in (when_dec ib ⟨_, fun w' e => (h16.ext0 e).read_p hrb, ptr_in (when_dec ic ⟨_, fun w' e => (h16.ext0 e).read_p hrc, ptr_in (when_dec ib ⟨_, _, _, _, cellsC_S (S := fun w' => Ext [] w16 w') (fun w' e => (h16.ext0 e).read_d hrb), ptr_in (when_dec ic ⟨_, _, _, _, cellsC_S (S := fun w' => Ext [] w16 w') (fun w' e => (h16.ext0 e).read_d hrc), ?_⟩)⟩)⟩)⟩)⟩
  refine hp _ _ (x16.trans d16) fun p bw w32 C e32 hp1 hbw hC hCN hCm => ⟨_, rfl, d16.trans e32, ?_⟩
  have f32 := (x16.trans d16).trans e32
  refine hd _ _ f32 fun M m d w36 e36 hM hrf => ⟨_, _, _, _, rfl, (d16.trans e32).trans e36, ?_⟩
  have f36 := f32.trans e36
  obtain ⟨w37, hr37, b37, x37⟩ := storeW (P := Tryd.prog) (t := 50) (n := 2) (vs := [.int .i64 (NN : Int), .slice M m d]) i50s (((bx.ext0 d16).ext0 e32).ext0 e36) rfl rfl (fun v hv => by simp at hv; rcases hv with rfl | rfl <;> rfl)
  have e37 : Ext [] w9 w37 := f36.trans' x37 (fun b hb => .inr (by simp at hb; omega))
  have d37 : Ext [w9.heap.size] w37 w37.drew := (Ext.refl _ _).drew
  have s32 := e32.size
  have s36 := e36.size
  have s37 := x37.size
  have sd : w16.drew.heap.size = w16.heap.size := rfl
  refine ⟨w37, hr37, sel_false rfl ⟨fun w' => Ext [gb] w37 w', (Ext.refl _ _).drew, _, _, _, _, cellsC_S (S := fun w' => Ext [gb] w37 w') (fun w' e => cadd0 (b37.ext e (by have := h.blk.lt; simp; omega))), ?_⟩⟩
  have hl := hC.hdr.lt
  have hl2 := hC.wrd.lt
  rw [← hCN]
  refine put3 (r' := ⟨some (p, bw), C, M, m, d⟩) h hra e37 (by simp) ⟨?_, ?_⟩ (fun y hy => ?_) (fun y hy => ?_) (fun y hy => ?_) (S := fun w' => Ext [gb] w37 w') (fun w' e => e) fun w' hg => k w' _ hg
  · exact ((hC.ext0 e36).ext x37 (by simp; omega) (by simp; omega)).ref
  · exact (hrf C hC.ok hCm).ext x37 (fun y hy hm => by have := hM y hy; simp at hm; omega)
  · have hy : y = p ∨ y = bw := by simpa [Rg1.f] using hy
    refine .inr ⟨by omega, fun hm => ?_⟩
    have := hM y hm
    omega
  · have := hM y hy
    exact .inr (by omega)
  · have := hM y hy
    show y < w37.heap.size
    omega
end Go.Proofs.YtbaglnffgbnekaaDoor
namespace Go.Proofs.YtbaglnffgbnekaaDoor
open Go Go.V Go.B

theorem madeBad_c {w : World} {gb a : Nat} {er : Int} (her : er ≠ 0) {N : Int} {A : Option Addr} {n c : Nat} {R : Ending → World → Prop} (k : ∀ w', Ext [] w w' → R (.returned (.bool true)) w') :
    Calls Tryd.prog 61 #[.pointer (some ⟨gb, 0, none⟩), .int .i64 (a : Int), .pointer none, .int .i64 er, .agg #[.int .i64 N, .slice A n c], .int .i64 er] w R := by
  apply berthlaw01_Regs_made_nf
  intro w8 h8
  obtain ⟨b8, x8, z8⟩ := box_new (cs := [.int .i64 N, .slice A n c]) h8
  refine num_c er ⟨_, rfl, sel_false (by simp) (sel_false (by simp [her]) (sel_false (by simp [her]) (k _ x8)))⟩
theorem made_c {w0 wB w : World} {gb a : Nat} {rs : List Rg1} (h : Gs w0 wB gb rs) {r : Rg1} (hra : rs[a]? = some r) (e : Ext [] wB w) {p bw : Nat} {C : SetV} {M : Option Addr} {m d : Nat} (hC : SetAt w p bw C) (hd : Rf w C M m d) (hp : wB.heap.size ≤ p ∧ wB.heap.size ≤ bw) (hM : ∀ b ∈ ownF M, wB.heap.size ≤ b ∧ b < w.heap.size ∧ b ≠ p ∧ b ≠ bw)
    {R : Ending → World → Prop} (k : ∀ w' rs', Gs w0 w' gb rs' → R (.returned (.bool true)) w') :
    Calls Tryd.prog 61 #[.pointer (some ⟨gb, 0, none⟩), .int .i64 (a : Int), .pointer (some ⟨p, 0, none⟩), .int .i64 0, .agg #[.int .i64 (C.N : Int), .slice M m d], .int .i64 0] w R := by
  apply berthlaw01_Regs_made_nf
  intro w8 h8
  obtain ⟨b8, x8, z8⟩ := box_new (cs := [.int .i64 (C.N : Int), .slice M m d]) h8
  have s := e.size
  have hgl := h.blk.lt
  refine num_c 0 ⟨_, rfl, sel_false rfl (sel_false rfl (sel_true rfl ⟨fun w' => Ext [gb] w8 w', (Ext.refl _ _).drew, _, _, _, _, cellsC_S (S := fun w' => Ext [gb] w8 w') (fun w' e => cadd0 (b8.ext e (by simp; omega))), ?_⟩))⟩
  refine put3 (r' := ⟨some (p, bw), C, M, m, d⟩) h hra (e.trans x8) (by simp) ⟨(hC.ext0 x8).ref, hd.ext0 x8⟩ (fun y hy => ?_) (fun y hy => .inr (hM y hy).1) (fun y hy => ?_) (S := fun w' => Ext [gb] w8 w') (fun w' e => e) fun w' hg => k w' _ hg
  · have hy : y = p ∨ y = bw := by simpa [Rg1.f] using hy
    refine .inr ⟨by omega, fun hm => ?_⟩
    have := hM y hm
    omega
  · have := hM y hy
    show y < w8.heap.size
    omega
end Go.Proofs.YtbaglnffgbnekaaDoor
namespace Go.Proofs.YtbaglnffgbnekaaDoor
open Go Go.V Go.B

structure BOp where
  kind : Int
  a : Int
  b : Int
  c : Int
  i : Int
  L : Option Addr
  ll : Nat
  lc : Nat
  xs : List Int
  W : Option Addr
  wl : Nat
  wcap : Nat
  ws : List Nat
def BOp.cells (o : BOp) : List Value := [.int .i64 o.kind, .int .i64 o.a, .int .i64 o.b, .int .i64 o.c, .int .i64 o.i, .slice o.L o.ll o.lc, .slice o.W o.wl o.wcap]
structure BOp.In (o : BOp) (w : World) : Prop where
  i0 : -9223372036854775808 ≤ o.i
  i1 : o.i ≤ 9223372036854775807
  l : Ints w .i64 o.L o.ll o.xs
  ll : o.ll * 8 ≤ 140737488351232
  w : Ints w .u64 o.W o.wl (wi o.ws)
  wl : o.wl * 8 ≤ 140737488351232
  wb : ∀ j, o.ws.getD j 0 < 18446744073709551616
theorem BOp.In.ext0 {o : BOp} {w w' : World} (h : o.In w) (e : Ext [] w w') : o.In w' := ⟨h.i0, h.i1, h.l.ext0 e, h.ll, h.w.ext0 e, h.wl, h.wb⟩
theorem and3 (x : Int) : ∃ i : Nat, i < 4 ∧ IntKind.wrap .i64 ((BitVec.toNat (BitVec.ofInt 64 x &&& BitVec.ofInt 64 3) : Nat) : Int) = (i : Int) := by
  have h : BitVec.toNat (BitVec.ofInt 64 x &&& BitVec.ofInt 64 3) ≤ 3 := by
    rw [BitVec.toNat_and]
    exact Nat.and_le_right
  exact ⟨_, by omega, w64 (by omega) (by omega)⟩
theorem blank_mem (n i : Nat) : (⟨n, List.replicate ((n + 63) / 64) 0⟩ : SetV).mem i = false := zeros_mem n i
theorem blank_mi (n : Nat) : (⟨n, List.replicate ((n + 63) / 64) 0⟩ : SetV).mi = [] := by
  have : (⟨n, List.replicate ((n + 63) / 64) 0⟩ : SetV).members = [] := by
    unfold SetV.members
    rw [List.filter_eq_nil_iff]
    intro y _
    rw [blank_mem]; simp
  unfold SetV.mi
  rw [this]; rfl
theorem Rf.blank {w : World} {C : SetV} (o : C.Ok) (h : C.mi = []) : Rf w C none 0 0 := ⟨o, by rw [h]; exact Cells.nil _ _, by rw [← mi_length, h]; rfl, Nat.le_refl _⟩
theorem box_set {w w1 : World} (h : w1 = w.alloc (.cells #[.int .i64 0, .slice none 0 0] 50)) (N : Int) (A : Option Addr) (n c : Nat) {K : Int → Option Addr → Nat → Nat → World → Prop} (k : ∀ w', Ext [] w w' → K N A n c w') :
    ∃ w', Sem.run Tryd.prog (Instr.storeAt 50 (.pointer (some ⟨w.heap.size, 0, none⟩)) (.agg #[.int .i64 N, .slice A n c])) w1 = .ok () w' ∧
      ∃ n9, ∃ A10, ∃ A10l, ∃ A10c, V.cellsC (fun a_ x_ => World.cell? w' a_ = some x_) ⟨w.heap.size, 0, none⟩ [.int .i64 n9, .slice A10 A10l A10c] ∧ K n9 A10 A10l A10c w' := by
  obtain ⟨b1, x1, z1⟩ := box_new (cs := [.int .i64 0, .slice none 0 0]) h
  exact box_ret b1 rfl N A n c fun w' x => k w' (x1.trans' x (fun b hb => .inr (by simp at hb; omega)))
set_option maxRecDepth 4000 in
theorem makingNew_c {w0 w : World} {gb : Nat} {rs : List Rg1} (h : Gs w0 w gb rs) {o : BOp} (hk : o.kind = 1) {R : Ending → World → Prop} (k : ∀ w' rs', Gs w0 w' gb rs' → R (.returned (.bool true)) w') :
    Calls Tryd.prog 53 #[.pointer (some ⟨gb, 0, none⟩), .agg ⟨o.cells⟩] w R := by
  unfold BOp.cells
  apply berthlaw01_Regs_making_nf
  intro w9 h9
  obtain ⟨b9, x9, z9⟩ := box_new (cs := o.cells) h9
  obtain ⟨a, ha, ea⟩ := and3 o.a
  obtain ⟨r, hr⟩ := h.at ha
  refine ⟨_, cadd b9 (i := 1) rfl, lt_eq ea ⟨_, cadd b9 (i := 0) rfl, sel_true (by simp [hk]) ⟨_, cadd b9 (i := 4) rfl, ?_⟩⟩⟩
  by_cases hb : o.i < 0 ∨ 65536 < o.i
  · refine New_bad hb ⟨_, _, rfl, _, cadd b9 (i := 4) rfl, NewRefBad_c hb fun w23 e23 => ⟨_, _, _, _, _, rfl, fun w24 h24 => box_set h24 0 none 0 0 fun w25 e25 => madeBad_c (by decide) fun w30 e30 => ⟨_, rfl, k _ rs (h.ext0 (((x9.trans e23).trans e25).trans e30))⟩⟩⟩
  · obtain ⟨N, hN⟩ : ∃ N : Nat, o.i = N := ⟨o.i.toNat, by omega⟩
    have hN6 : N ≤ 65536 := by omega
    have s9 := x9.size
    rw [hN]
    refine New_ok hN6 fun p bw w17 e17 hp hbw hC => ⟨_, _, rfl, _, by have := cadd (b9.ext0 e17) (i := 4) (v := .int .i64 o.i) rfl; rwa [hN] at this, NewRef_c hN6 fun w23 e23 => ⟨_, _, _, _, _, rfl, fun w24 h24 => box_set h24 (N : Int) none 0 0 fun w25 e25 => ?_⟩⟩
    exact made_c h hr (((x9.trans e17).trans e23).trans e25) ((hC.ext0 e23).ext0 e25) (Rf.blank hC.ok (blank_mi N)) (by omega) (by simp [ownF]) fun w30 rs' hg => ⟨_, rfl, k _ rs' hg⟩
end Go.Proofs.YtbaglnffgbnekaaDoor
namespace Go.Proofs.YtbaglnffgbnekaaDoor
open Go Go.V Go.B

set_option maxRecDepth 4000 in
theorem makingFrom_c {w0 w : World} {gb : Nat} {rs : List Rg1} (h : Gs w0 w gb rs) {o : BOp} (ho : o.In w) (hk : o.kind = 2) {R : Ending → World → Prop} (k : ∀ w' rs', Gs w0 w' gb rs' → R (.returned (.bool true)) w') :
    Calls Tryd.prog 53 #[.pointer (some ⟨gb, 0, none⟩), .agg ⟨o.cells⟩] w R := by
  have hll := ho.ll
  unfold BOp.cells
  apply berthlaw01_Regs_making_nf
  intro w9 h9
  obtain ⟨b9, x9, z9⟩ := box_new (cs := o.cells) h9
  obtain ⟨a, ha, ea⟩ := and3 o.a
  obtain ⟨r, hr⟩ := h.at ha
  have d9 : Ext [] w9 w9.drew := (Ext.refl _ _).drew
  have g9 := x9.trans d9
  refine ⟨_, cadd b9 (i := 1) rfl, lt_eq ea ⟨_, cadd b9 (i := 0) rfl, sel_false (by simp [hk]) (sel_true (by simp [hk]) ⟨fun w' => Ext [] w9 w', d9, _, fun w' e => cadd (b9.ext0 e) (i := 4) rfl, _, _, _, fun w' e => cadd (b9.ext0 e) (i := 5) rfl, ints_c (ho.ext0 g9).l (by omega) fun A' c' w37 e37 own37 => ⟨_, _, _, rfl, d9.trans e37, ?_⟩⟩)⟩⟩
  have f37 := d9.trans e37
  have s9 := x9.size
  have s37 := f37.size
  by_cases hb : o.i < 0 ∨ 65536 < o.i
  · refine From_bad hb ⟨_, _, rfl, f37, _, cadd (b9.ext0 f37) (i := 4) rfl, _, _, _, cadd (b9.ext0 f37) (i := 5) rfl, FromRefBad_c hb fun w48 e48 => ⟨_, _, _, _, _, rfl, fun w49 h49 => box_set h49 0 none 0 0 fun w50 e50 => madeBad_c (by decide) fun w55 e55 => ⟨_, rfl, k _ rs (h.ext0 ((((x9.trans f37).trans e48).trans e50).trans e55))⟩⟩⟩
  · obtain ⟨N, hN⟩ : ∃ N : Nat, o.i = N := ⟨o.i.toNat, by omega⟩
    have hN6 : N ≤ 65536 := by omega
    have rd : ∀ w', Ext [] w9 w' → World.cell? w' (Addr.add ⟨w.heap.size, 0, none⟩ 4) = some (.int .i64 (N : Int)) := fun w' e => by
      have := cadd (b9.ext0 e) (i := 4) (v := .int .i64 o.i) rfl
      rwa [hN] at this
    rw [hN]
    refine From_c hN6 (own_ints own37) (by omega) (fun j w41 hj hbad e41 => ?_) (fun p bw w41 C hall e41 hp hbw hC hCN hCm => ?_)
    · have f41 := f37.trans e41
      refine ⟨_, _, rfl, f41, _, rd _ f41, _, _, _, cadd (b9.ext0 f41) (i := 5) rfl, FromRefPlace_c hN6 (ho.ext0 (x9.trans f41)).l (by omega) ⟨j, hj, hbad⟩ fun w48 e48 => ⟨_, _, _, _, _, rfl, fun w49 h49 => box_set h49 0 none 0 0 fun w50 e50 => madeBad_c (by decide) fun w55 e55 => ⟨_, rfl, k _ rs (h.ext0 ((((x9.trans f41).trans e48).trans e50).trans e55))⟩⟩⟩
    · have f41 := f37.trans e41
      have s41 := e41.size
      have hl := hC.hdr.lt
      have hl2 := hC.wrd.lt
      have hmi := mi_placed hCN hCm
      refine ⟨_, _, rfl, f41, _, rd _ f41, _, _, _, cadd (b9.ext0 f41) (i := 5) rfl, FromRef_c hN6 (ho.ext0 (x9.trans f41)).l (by omega) (fun j hj => ?_) fun M ml mc w48 e48 own48 => ⟨_, _, _, _, _, rfl, fun w49 h49 => box_set h49 (N : Int) M ml mc fun w50 e50 => ?_⟩⟩
      · have hxl := ho.l.len
        refine hall _ ?_
        rw [List.getD_eq_getElem?_getD, List.getElem?_eq_getElem (by omega)]
        exact List.getElem_mem _
      · rw [← hCN]
        rw [← hmi] at own48
        have hb48 := own_base own48
        have s50 := e50.size
        exact made_c h hr (((x9.trans f41).trans e48).trans e50) ((hC.ext0 e48).ext0 e50) ((Rf.of_mi own48 hC.ok).ext0 e50) (by omega) (fun y hy => by have := hb48 y hy; omega) fun w30 rs' hg => ⟨_, rfl, k _ rs' hg⟩
end Go.Proofs.YtbaglnffgbnekaaDoor
namespace Go.Proofs.YtbaglnffgbnekaaDoor
open Go Go.V Go.B

theorem FromWordsRefBad_c {n : Int} (hn : n < 0 ∨ 65536 < n) {w : World} {A : Option Addr} {l c : Nat} {R : Ending → World → Prop} (k : ∀ w', Ext [] w w' → R (.returned (.tuple #[.agg #[.int .i64 0, .slice none 0 0], .int .i64 11])) w') :
    Calls Tryd.prog 66 #[.int .i64 n, .slice A l c] w R := by
  apply berthref01_FromWords_nf
  intro w3 h3
  obtain ⟨b3, x3, z3⟩ := box_new (cs := [.int .i64 0, .slice none 0 0]) h3
  refine NewRefBad_c hn fun w8 e8 => ⟨_, _, _, _, _, rfl, fun w9 h9 => ?_⟩
  obtain ⟨b9, x9, z9⟩ := box_new (cs := [.int .i64 0, .slice none 0 0]) h9
  obtain ⟨w10, hr10, b10, x10⟩ := storeW (P := Tryd.prog) (t := 50) (n := 2) (vs := [.int .i64 0, .slice none 0 0]) i50s b9 rfl rfl (fun v hv => by simp at hv; rcases hv with rfl | rfl <;> rfl)
  have s3 := x3.size
  have s8 := e8.size
  have hl3 := b3.lt
  have e10 : Ext [] w w10 := ((x3.trans e8).trans x9).trans' x10 (fun b hb => .inr (by simp at hb; omega))
  have b3' : BlkT w10 w.heap.size [.int .i64 0, .slice none 0 0] 50 := ((b3.ext0 e8).ext0 x9).ext x10 (by simp; omega)
  exact ⟨w10, hr10, sel_true rfl ⟨_, _, _, _, cadd0 b10, box_ret (K := fun N' A' n' c' w' => R (.returned (.tuple #[.agg #[.int .i64 N', .slice A' n' c'], .int .i64 11])) w') b3' rfl 0 none 0 0 fun w' x => k w' (e10.trans' x (fun b hb => .inr (by simp at hb; omega)))⟩⟩
theorem memw_mem (n : Nat) (ws : List Nat) (j : Nat) : (⟨n, ws⟩ : SetV).mem j = memw ws j := rfl
theorem pk_members {C : SetV} (o : C.Ok) : C.members = pk C.mem C.N := rfl
set_option maxRecDepth 4000 in
theorem makingWords_c {w0 w : World} {gb : Nat} {rs : List Rg1} (h : Gs w0 w gb rs) {o : BOp} (ho : o.In w) (hk : o.kind = 3) {R : Ending → World → Prop} (k : ∀ w' rs', Gs w0 w' gb rs' → R (.returned (.bool true)) w') :
    Calls Tryd.prog 53 #[.pointer (some ⟨gb, 0, none⟩), .agg ⟨o.cells⟩] w R := by
  have hwl := ho.wl
  unfold BOp.cells
  apply berthlaw01_Regs_making_nf
  intro w9 h9
  obtain ⟨b9, x9, z9⟩ := box_new (cs := o.cells) h9
  obtain ⟨a, ha, ea⟩ := and3 o.a
  obtain ⟨r, hr⟩ := h.at ha
  have d9 : Ext [] w9 w9.drew := (Ext.refl _ _).drew
  have g9 := x9.trans d9
  refine ⟨_, cadd b9 (i := 1) rfl, lt_eq ea ⟨_, cadd b9 (i := 0) rfl, sel_false (by simp [hk]) (sel_false (by simp [hk]) ⟨fun w' => Ext [] w9 w', d9, _, fun w' e => cadd (b9.ext0 e) (i := 4) rfl, _, _, _, fun w' e => cadd (b9.ext0 e) (i := 6) rfl, words_c (ho.ext0 g9).w (by omega) fun A' c' w37 e37 own37 => ⟨_, _, _, rfl, d9.trans e37, ?_⟩⟩)⟩⟩
  have f37 := d9.trans e37
  have s9 := x9.size
  have s37 := f37.size
  by_cases hb : o.i < 0 ∨ 65536 < o.i
  · refine FromWords_bad hb ⟨_, _, rfl, f37, _, cadd (b9.ext0 f37) (i := 4) rfl, _, _, _, cadd (b9.ext0 f37) (i := 6) rfl, FromWordsRefBad_c hb fun w48 e48 => ⟨_, _, _, _, _, rfl, fun w49 h49 => box_set h49 0 none 0 0 fun w50 e50 => madeBad_c (by decide) fun w55 e55 => ⟨_, rfl, k _ rs (h.ext0 ((((x9.trans f37).trans e48).trans e50).trans e55))⟩⟩⟩
  · obtain ⟨N, hN⟩ : ∃ N : Nat, o.i = N := ⟨o.i.toNat, by omega⟩
    have hN6 : N ≤ 65536 := by omega
    have rd : ∀ w', Ext [] w9 w' → World.cell? w' (Addr.add ⟨w.heap.size, 0, none⟩ 4) = some (.int .i64 (N : Int)) := fun w' e => by
      have := cadd (b9.ext0 e) (i := 4) (v := .int .i64 o.i) rfl
      rwa [hN] at this
    rw [hN]
    refine FromWords_c hN6 (own_ints own37) ho.wb (by omega) (fun w41 hlen e41 => ?_) (fun w41 hlen hn0 hbit e41 => ?_) (fun p bw w41 hlen e41 hp hbw hC => ?_)
    · have f41 := f37.trans e41
      refine ⟨_, _, rfl, f41, _, rd _ f41, _, _, _, cadd (b9.ext0 f41) (i := 6) rfl, FromWordsRef_c hN6 (ho.ext0 (x9.trans f41)).w ho.wb (by omega) (fun w48 v _ e48 hv => ?_) (fun w48 v hl _ _ _ => absurd hl hlen) (fun M m d w48 hl _ _ _ _ => absurd hl hlen)⟩
      subst hv
      exact ⟨_, _, _, _, _, rfl, fun w49 h49 => box_set h49 0 none 0 0 fun w50 e50 => madeBad_c (by decide) fun w55 e55 => ⟨_, rfl, k _ rs (h.ext0 ((((x9.trans f41).trans e48).trans e50).trans e55))⟩⟩
    · have f41 := f37.trans e41
      have hex : ∃ j, N ≤ j ∧ j < 64 * o.wl ∧ memw o.ws j = true := by
        obtain ⟨c, hc⟩ := Nat.exists_testBit_of_ne_zero hbit
        rw [Nat.testBit_shiftRight] at hc
        have hlt : N % 64 + c < 64 := by
          rcases Nat.lt_or_ge (N % 64 + c) 64 with h1 | h1
          · exact h1
          · rw [Nat.testBit_lt_two_pow (Nat.lt_of_lt_of_le (ho.wb _) (by rw [show (18446744073709551616 : Nat) = 2 ^ 64 from rfl]; exact Nat.pow_le_pow_right (by omega) h1))] at hc
            cases hc
        refine ⟨64 * (o.wl - 1) + (N % 64 + c), by omega, by omega, ?_⟩
        unfold memw
        rw [show (64 * (o.wl - 1) + (N % 64 + c)) / 64 = o.wl - 1 by omega, show (64 * (o.wl - 1) + (N % 64 + c)) % 64 = N % 64 + c by omega]
        exact hc
      refine ⟨_, _, rfl, f41, _, rd _ f41, _, _, _, cadd (b9.ext0 f41) (i := 6) rfl, FromWordsRef_c hN6 (ho.ext0 (x9.trans f41)).w ho.wb (by omega) (fun w48 v hl _ _ => absurd hlen hl) (fun w48 v _ _ e48 hv => ?_) (fun M m d w48 _ _ _ hno _ => ?_)⟩
      · subst hv
        exact ⟨_, _, _, _, _, rfl, fun w49 h49 => box_set h49 0 none 0 0 fun w50 e50 => madeBad_c (by decide) fun w55 e55 => ⟨_, rfl, k _ rs (h.ext0 ((((x9.trans f41).trans e48).trans e50).trans e55))⟩⟩
      · obtain ⟨j, h1, h2, h3⟩ := hex
        rw [hno j h1 h2] at h3; cases h3
    · have f41 := f37.trans e41
      have s41 := e41.size
      have hl := hC.hdr.lt
      have hl2 := hC.wrd.lt
      refine ⟨_, _, rfl, f41, _, rd _ f41, _, _, _, cadd (b9.ext0 f41) (i := 6) rfl, FromWordsRef_c hN6 (ho.ext0 (x9.trans f41)).w ho.wb (by omega) (fun w48 v hl _ _ => absurd hlen hl) (fun w48 v _ hex _ _ => ?_) (fun M m d w48 _ e48 _ _ own48 => ⟨_, _, _, _, _, rfl, fun w49 h49 => box_set h49 (N : Int) M m d fun w50 e50 => ?_⟩)⟩
      · obtain ⟨j, h1, h2⟩ := hex
        have := hC.ok.tail j h1
        rw [memw_mem, h2] at this; cases this
      · have hb48 := own_base own48
        have s50 := e50.size
        exact made_c h hr (((x9.trans f41).trans e48).trans e50) ((hC.ext0 e48).ext0 e50) ((Rf.of_own own48 hC.ok rfl).ext0 e50) (by omega) (fun y hy => by have := hb48 y hy; omega) fun w30 rs' hg => ⟨_, rfl, k _ rs' hg⟩
end Go.Proofs.YtbaglnffgbnekaaDoor
