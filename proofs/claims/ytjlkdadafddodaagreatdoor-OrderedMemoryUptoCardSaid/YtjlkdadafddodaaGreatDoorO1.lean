/- Ordered: how an index lies in memory. -/
import Derived.Test.YtjlkdadafddodaaGreatDoorO0
set_option linter.unusedVariables false
set_option linter.unusedSimpArgs false
namespace Go.Proofs.YtjlkdadafddodaaGreatDoor
open Go Go.V Go.B

def rowCells (r : Rw) : List Value := [.int .i64 r.n, .pointer (some ⟨r.p, 0, none⟩)]
def RL : Lay Rw := ⟨rowCells, 2, fun _ => rfl, fun x v hv => by
  simp only [rowCells, List.mem_cons, List.not_mem_nil, or_false] at hv
  rcases hv with rfl | rfl <;> rfl, by omega⟩
theorem RLsz : RL.sz = 2 := rfl
theorem flat_set_same {rows : List Rw} {i : Nat} {r x : Rw} (hi : rows[i]? = some r) (hn : x.n = r.n) (hp : x.p = r.p) : RL.flat (rows.set i x) = RL.flat rows := by
  have e : rows.set i x = rows.take i ++ x :: rows.drop (i + 1) := by
    rw [List.set_eq_take_append_cons_drop, if_pos (List.getElem?_eq_some_iff.1 hi).1]
  have e2 : rows = rows.take i ++ r :: rows.drop (i + 1) := by
    obtain ⟨hl, er⟩ := List.getElem?_eq_some_iff.1 hi
    rw [← er, ← List.drop_eq_getElem_cons hl, List.take_append_drop]
  have : RL.enc x = RL.enc r := by
    show rowCells x = rowCells r
    unfold rowCells; rw [hn, hp]
  conv => rhs; rw [e2]
  rw [e, RL.flat_app, RL.flat_app, RL.flat_cons, RL.flat_cons, this]
def topC (C : Cl) : List Nat := C.c :: C.m :: ownF C.A
def setsC (C : Cl) : List Nat := C.rows.flatMap fun r => [r.p, r.b]
def fpC (C : Cl) : List Nat := topC C ++ setsC C
theorem mem_sets {C : Cl} {b : Nat} : b ∈ setsC C ↔ ∃ r ∈ C.rows, b = r.p ∨ b = r.b := by
  unfold setsC
  simp
theorem mem_fpC {C : Cl} {b : Nat} : b ∈ fpC C ↔ b ∈ topC C ∨ ∃ r ∈ C.rows, b = r.p ∨ b = r.b := by
  unfold fpC
  rw [List.mem_append, mem_sets]
theorem mem_top {C : Cl} {b : Nat} : b ∈ topC C ↔ b = C.c ∨ b = C.m ∨ b ∈ ownF C.A := by simp [topC]
structure ClAt (w : World) (C : Cl) : Prop where
  hdr : BlkT w C.c [.slice C.A C.rows.length C.cp, .map (some C.m)] 87
  arr : OwnL RL w 0 90 C.A C.rows.length C.cp C.rows
  mp : MapAt w C.m (Value.int .i64) (Value.int .i64) C.of
  set : ∀ r ∈ C.rows, SetAt w r.p r.b r.S
  cm : C.c ≠ C.m
  cA : C.c ∉ ownF C.A
  mA : C.m ∉ ownF C.A
  cr : ∀ r ∈ C.rows, r.p ∉ topC C ∧ r.b ∉ topC C
  rr : ∀ r ∈ C.rows, ∀ s ∈ C.rows, r.n ≠ s.n → r.p ≠ s.p ∧ r.p ≠ s.b ∧ r.b ≠ s.p ∧ r.b ≠ s.b
theorem ClAt.ext {F : List Nat} {w w' : World} {C : Cl} (h : ClAt w C) (e : Ext F w w') (hF : ∀ b ∈ fpC C, b ∉ F) : ClAt w' C :=
  ⟨h.hdr.ext e (hF _ (mem_fpC.2 (.inl (mem_top.2 (.inl rfl))))), h.arr.ext e (fun b hb => hF b (mem_fpC.2 (.inl (mem_top.2 (.inr (.inr hb)))))), h.mp.ext e (hF _ (mem_fpC.2 (.inl (mem_top.2 (.inr (.inl rfl)))))),
   fun r hr => (h.set r hr).ext e (hF _ (mem_fpC.2 (.inr ⟨r, hr, .inl rfl⟩))) (hF _ (mem_fpC.2 (.inr ⟨r, hr, .inr rfl⟩))), h.cm, h.cA, h.mA, h.cr, h.rr⟩
theorem ClAt.ext0 {w w' : World} {C : Cl} (h : ClAt w C) (e : Ext [] w w') : ClAt w' C := h.ext e (by simp)
theorem ClAt.lt {w : World} {C : Cl} (h : ClAt w C) : ∀ b ∈ fpC C, b < w.heap.size := fun b hb => by
  rcases mem_fpC.1 hb with hb | ⟨r, hr, rfl | rfl⟩
  · rcases mem_top.1 hb with rfl | rfl | hb
    · exact h.hdr.lt
    · exact h.mp.lt
    · exact (h.arr.base b hb).2
  · exact (h.set r hr).hdr.lt
  · exact (h.set r hr).wrd.lt

/-- An index. -/
structure Ix where
  q : Nat
  M : Nat
  N : Nat
  cols : ByteArray → Option Cl
def ptrTo (c : Nat) : Value := .pointer (some ⟨c, 0, none⟩)
structure IxAt (w : World) (F : List Nat) (cnt : Nat) (x : Ix) : Prop where
  hdr : BlkT w x.q [.int .i64 (x.N : Int), .map (some x.M)] 82
  mp : ∃ m, MapAt w x.M Value.string ptrTo m ∧ m.length ≤ cnt ∧ ∀ k, mget m k = (x.cols k).map (·.c)
  col : ∀ k C, x.cols k = some C → ClAt w C
  small : x.N ≤ 65536
  rows : ∀ k C, x.cols k = some C → C.rows.length ≤ cnt
  qM : x.q ≠ x.M
  top : ∀ k C, x.cols k = some C → x.q ∉ fpC C ∧ x.M ∉ fpC C
  dis : ∀ k k' C C', x.cols k = some C → x.cols k' = some C' → k ≠ k' → ∀ b ∈ fpC C, b ∉ fpC C'
  qF : x.q ∈ F
  MF : x.M ∈ F
  cov : ∀ k C, x.cols k = some C → ∀ b ∈ fpC C, b ∈ F
  lt : ∀ b ∈ F, b < w.heap.size
theorem IxAt.ext {F G : List Nat} {cnt : Nat} {w w' : World} {x : Ix} (h : IxAt w F cnt x) (e : Ext G w w') (hF : ∀ b ∈ F, b ∉ G) : IxAt w' F cnt x := by
  obtain ⟨m, h1, h2, h3⟩ := h.mp
  exact ⟨h.hdr.ext e (hF _ h.qF), ⟨m, h1.ext e (hF _ h.MF), h2, h3⟩, fun k C hk => (h.col k C hk).ext e (fun b hb => hF b (h.cov k C hk b hb)), h.small, h.rows, h.qM, h.top, h.dis, h.qF, h.MF, h.cov, fun b hb => Nat.lt_of_lt_of_le (h.lt b hb) e.size⟩
theorem IxAt.ext0 {F : List Nat} {cnt : Nat} {w w' : World} {x : Ix} (h : IxAt w F cnt x) (e : Ext [] w w') : IxAt w' F cnt x := h.ext e (by simp)
theorem IxAt.cnt {F : List Nat} {cnt cnt' : Nat} {w : World} {x : Ix} (h : IxAt w F cnt x) (hc : cnt ≤ cnt') : IxAt w F cnt' x := by
  obtain ⟨m, h1, h2, h3⟩ := h.mp
  exact ⟨h.hdr, ⟨m, h1, by omega, h3⟩, h.col, h.small, fun k C hk => Nat.le_trans (h.rows k C hk) hc, h.qM, h.top, h.dis, h.qF, h.MF, h.cov, h.lt⟩
def Ix.setCol (x : Ix) (key : ByteArray) (c : Option Cl) : Ix := { x with cols := fun k => if k = key then c else x.cols k }
theorem setCol_same (x : Ix) (key : ByteArray) (c : Option Cl) : (x.setCol key c).cols key = c := by simp [Ix.setCol]
theorem setCol_other (x : Ix) {key k : ByteArray} (c : Option Cl) (h : k ≠ key) : (x.setCol key c).cols k = x.cols k := by simp [Ix.setCol, h]
theorem setCol_some {x : Ix} {key k : ByteArray} {c : Option Cl} {C : Cl} (h : (x.setCol key c).cols k = some C) : (k = key ∧ c = some C) ∨ (k ≠ key ∧ x.cols k = some C) := by
  by_cases e : k = key
  · subst e
    rw [setCol_same] at h
    exact .inl ⟨rfl, h⟩
  · rw [setCol_other x c e] at h
    exact .inr ⟨e, h⟩
theorem ClAt.in_ {w : World} {F : List Nat} {cnt : Nat} {x : Ix} (h : IxAt w F cnt x) {k : ByteArray} {C : Cl} (hk : x.cols k = some C) : ∀ b ∈ fpC C, b ∈ F := h.cov k C hk
/-- A column turned. -/
theorem IxAt.upd {w w' : World} {F : List Nat} {cnt : Nat} {x : Ix} (h : IxAt w F cnt x) {key : ByteArray} {C C' : Cl} (hk : x.cols key = some C) (e : Ext (fpC C) w w') (g : Grow w (fpC C) (fpC C')) (h' : ClAt w' C') (hc : C'.c = C.c) {cnt' : Nat} (hcc : cnt ≤ cnt') (hr : C'.rows.length ≤ cnt') :
    IxAt w' (F ++ fpC C') cnt' (x.setCol key (some C')) := by
  obtain ⟨m, h1, h2, h3⟩ := h.mp
  have hlt := h.lt
  have ht := h.top key C hk
  have gq : x.q ∉ fpC C' := fun hm => by
    rcases g _ hm with h4 | h4
    · exact ht.1 h4
    · have := hlt _ h.qF; omega
  have gM : x.M ∉ fpC C' := fun hm => by
    rcases g _ hm with h4 | h4
    · exact ht.2 h4
    · have := hlt _ h.MF; omega
  have gk : ∀ k D, k ≠ key → x.cols k = some D → ∀ b ∈ fpC D, b ∉ fpC C' := fun k D hne hD b hb hm => by
    rcases g _ hm with h4 | h4
    · exact h.dis k key D C hD hk hne b hb h4
    · have := hlt b (h.cov k D hD b hb); omega
  refine ⟨h.hdr.ext e ht.1, ⟨m, h1.ext e ht.2, by omega, fun k => ?_⟩, fun k D hD => ?_, h.small, fun k D hD => ?_, h.qM, fun k D hD => ?_, fun k k' D D' hD hD' hne b hb => ?_, by simp [Ix.setCol, h.qF], by simp [Ix.setCol, h.MF], fun k D hD b hb => ?_, fun b hb => ?_⟩
  · by_cases ek : k = key
    · subst ek
      rw [setCol_same, h3, hk]
      simp [hc]
    · rw [setCol_other x _ ek, h3]
  · rcases setCol_some hD with ⟨_, hD⟩ | ⟨hne, hD⟩
    · cases hD; exact h'
    · exact (h.col k D hD).ext e (fun b hb => h.dis k key D C hD hk hne b hb)
  · rcases setCol_some hD with ⟨_, hD⟩ | ⟨hne, hD⟩
    · cases hD; exact hr
    · have := h.rows k D hD; omega
  · rcases setCol_some hD with ⟨_, hD⟩ | ⟨hne, hD⟩
    · cases hD; exact ⟨gq, gM⟩
    · exact h.top k D hD
  · rcases setCol_some hD with ⟨ek, hD⟩ | ⟨hn, hD⟩
    · cases hD
      rcases setCol_some hD' with ⟨ek', hD'⟩ | ⟨hn', hD'⟩
      · exact absurd (ek.trans ek'.symm) hne
      · exact fun hm => gk k' D' hn' hD' b hm hb
    · rcases setCol_some hD' with ⟨ek', hD'⟩ | ⟨hn', hD'⟩
      · cases hD'; exact gk k D hn hD b hb
      · exact h.dis k k' D D' hD hD' hne b hb
  · rcases setCol_some hD with ⟨_, hD⟩ | ⟨hne, hD⟩
    · cases hD; exact List.mem_append.2 (.inr hb)
    · exact List.mem_append.2 (.inl (h.cov k D hD b hb))
  · rcases List.mem_append.1 hb with hb | hb
    · exact Nat.lt_of_lt_of_le (hlt b hb) e.size
    · exact h'.lt b hb
/-- A column more. -/
theorem IxAt.more {w w' : World} {F : List Nat} {cnt : Nat} {x : Ix} (h : IxAt w F cnt x) {key : ByteArray} {C' : Cl} (hk : x.cols key = none) (e : Ext [x.M] w w') (g : ∀ b ∈ fpC C', w.heap.size ≤ b) (h' : ClAt w' C')
    {m : List (ByteArray × Nat)} (h2 : m.length ≤ cnt) (h3 : ∀ k, mget m k = (x.cols k).map (·.c)) (hm : MapAt w' x.M Value.string ptrTo (mput m key C'.c)) (hr : C'.rows.length ≤ cnt + 1) :
    IxAt w' (F ++ fpC C') (cnt + 1) (x.setCol key (some C')) := by
  have hlt := h.lt
  have gq : x.q ∉ fpC C' := fun hm => by have := g _ hm; have := hlt _ h.qF; omega
  have gM : x.M ∉ fpC C' := fun hm => by have := g _ hm; have := hlt _ h.MF; omega
  have gk : ∀ k D, x.cols k = some D → ∀ b ∈ fpC D, b ∉ fpC C' := fun k D hD b hb hm => by have := g _ hm; have := hlt b (h.cov k D hD b hb); omega
  refine ⟨h.hdr.ext e (by simp; exact h.qM), ⟨_, hm, ?_, fun k => ?_⟩, fun k D hD => ?_, h.small, fun k D hD => ?_, h.qM, fun k D hD => ?_, fun k k' D D' hD hD' hne b hb => ?_, by simp [Ix.setCol, h.qF], by simp [Ix.setCol, h.MF], fun k D hD b hb => ?_, fun b hb => ?_⟩
  · by_cases hin : key ∈ mkeys m
    · rw [length_in _ hin]; omega
    · rw [length_out _ hin]; omega
  · rw [mget_mput]
    by_cases ek : k = key
    · subst ek
      rw [if_pos rfl, setCol_same]; rfl
    · rw [if_neg (fun e => ek e.symm), setCol_other x _ ek, h3]
  · rcases setCol_some hD with ⟨_, hD⟩ | ⟨hne, hD⟩
    · cases hD; exact h'
    · exact (h.col k D hD).ext e (fun b hb => by
        have := (h.top k D hD).2
        simp; intro e; exact this (e ▸ hb))
  · rcases setCol_some hD with ⟨_, hD⟩ | ⟨hne, hD⟩
    · cases hD; exact hr
    · have := h.rows k D hD; omega
  · rcases setCol_some hD with ⟨_, hD⟩ | ⟨hne, hD⟩
    · cases hD; exact ⟨gq, gM⟩
    · exact h.top k D hD
  · rcases setCol_some hD with ⟨ek, hD⟩ | ⟨hn, hD⟩
    · cases hD
      rcases setCol_some hD' with ⟨ek', hD'⟩ | ⟨hn', hD'⟩
      · exact absurd (ek.trans ek'.symm) hne
      · exact fun hm => gk k' D' hD' b hm hb
    · rcases setCol_some hD' with ⟨ek', hD'⟩ | ⟨hn', hD'⟩
      · cases hD'; exact gk k D hD b hb
      · exact h.dis k k' D D' hD hD' hne b hb
  · rcases setCol_some hD with ⟨_, hD⟩ | ⟨hne, hD⟩
    · cases hD; exact List.mem_append.2 (.inr hb)
    · exact List.mem_append.2 (.inl (h.cov k D hD b hb))
  · rcases List.mem_append.1 hb with hb | hb
    · exact Nat.lt_of_lt_of_le (hlt b hb) e.size
    · exact h'.lt b hb
/-- A column less. -/
theorem IxAt.less {w w' : World} {F : List Nat} {cnt : Nat} {x : Ix} (h : IxAt w F cnt x) {key : ByteArray} (e : Ext [x.M] w w')
    {m : List (ByteArray × Nat)} (h2 : m.length ≤ cnt) (h3 : ∀ k, mget m k = (x.cols k).map (·.c)) (hn : (mkeys m).Nodup) (hm : MapAt w' x.M Value.string ptrTo (mdel m key)) :
    IxAt w' F cnt (x.setCol key none) := by
  have some_of : ∀ k D, (x.setCol key none).cols k = some D → k ≠ key ∧ x.cols k = some D := fun k D hD => by
    rcases setCol_some hD with ⟨_, hD⟩ | h
    · cases hD
    · exact h
  refine ⟨h.hdr.ext e (by simp; exact h.qM), ⟨_, hm, ?_, fun k => ?_⟩, fun k D hD => ?_, h.small, fun k D hD => h.rows k D (some_of k D hD).2, h.qM, fun k D hD => h.top k D (some_of k D hD).2,
    fun k k' D D' hD hD' hne => h.dis k k' D D' (some_of k D hD).2 (some_of k' D' hD').2 hne, h.qF, h.MF, fun k D hD => h.cov k D (some_of k D hD).2, fun b hb => Nat.lt_of_lt_of_le (h.lt b hb) e.size⟩
  · by_cases hin : key ∈ mkeys m
    · have := length_mdel hin; omega
    · rw [mdel_out hin]; exact h2
  · rw [mget_mdel hn]
    by_cases ek : k = key
    · subst ek
      rw [if_pos rfl, setCol_same]; rfl
    · rw [if_neg (fun e => ek e.symm), setCol_other x _ ek, h3]
  · have hD := (some_of k D hD).2
    exact (h.col k D hD).ext e (fun b hb => by
      have := (h.top k D hD).2
      simp; intro e; exact this (e ▸ hb))
/-- What holds of all columns. -/
structure IxOk (x : Ix) : Prop where
  ok : ∀ k C, x.cols k = some C → ClOk x.N C ∧ C.full ∧ C.of ≠ []
  key : x.cols ByteArray.empty = none
def Ix.val (x : Ix) (key : ByteArray) (slot : Int) : Option Int := (x.cols key).bind fun C => mget C.of slot
def C0 : Cl := ⟨0, none, 0, 0, [], []⟩
theorem C0_ok (N : Nat) : ClOk N C0 := ⟨List.Pairwise.nil, fun r hr => (by cases hr), fun i n => ⟨fun h => (by cases h), fun ⟨r, hr, _⟩ => (by cases hr)⟩, fun k n h => (by cases h)⟩
def Ix.colOf (x : Ix) (key : ByteArray) : Cl := (x.cols key).getD C0
theorem Ix.val_col (x : Ix) (key : ByteArray) (slot : Int) : x.val key slot = mget (x.colOf key).of slot := by
  unfold Ix.val Ix.colOf
  cases x.cols key <;> rfl
theorem IxOk.colOf {x : Ix} (h : IxOk x) (key : ByteArray) : ClOk x.N (x.colOf key) ∧ (x.colOf key).full := by
  unfold Ix.colOf
  cases hk : x.cols key with
  | none => exact ⟨C0_ok _, fun r hr => (by cases hr)⟩
  | some C => exact ⟨(h.ok key C hk).1, (h.ok key C hk).2.1⟩
/-- A column that is read; the blocks behind its own. -/
structure ColV (w : World) (c : Nat) (f : List Nat) (C : Cl) : Prop where
  hdr : ∃ mo, BlkT w c [.slice C.A C.rows.length C.cp, .map mo] 87 ∧ (mo = none ∧ C.of = [] ∨ ∃ m, mo = some m ∧ MapAt w m (Value.int .i64) (Value.int .i64) C.of ∧ m ∈ f)
  arr : Cells w C.A (RL.flat C.rows)
  cap : C.rows.length ≤ C.cp
  set : ∀ r ∈ C.rows, SetAt w r.p r.b r.S
  fA : ∀ b ∈ ownF C.A, b ∈ f
  fS : ∀ r ∈ C.rows, r.p ∈ f ∧ r.b ∈ f
theorem ColV.ext {F f : List Nat} {w w' : World} {c : Nat} {C : Cl} (h : ColV w c f C) (e : Ext F w w') (hc : c ∉ F) (hf : ∀ b ∈ f, b ∉ F) : ColV w' c f C := by
  obtain ⟨mo, h1, h2⟩ := h.hdr
  refine ⟨⟨mo, h1.ext e hc, ?_⟩, h.arr.ext e (fun b hb => hf b (h.fA b hb)), h.cap, fun r hr => (h.set r hr).ext e (hf _ (h.fS r hr).1) (hf _ (h.fS r hr).2), h.fA, h.fS⟩
  rcases h2 with h2 | ⟨m, h2, h3, h4⟩
  · exact .inl h2
  · exact .inr ⟨m, h2, h3.ext e (hf m h4), h4⟩
theorem ColV.ext0 {f : List Nat} {w w' : World} {c : Nat} {C : Cl} (h : ColV w c f C) (e : Ext [] w w') : ColV w' c f C := h.ext e (by simp) (by simp)
def subC (C : Cl) : List Nat := C.m :: (ownF C.A ++ setsC C)
theorem sub_fpC {C : Cl} {b : Nat} (h : b ∈ subC C) : b ∈ fpC C := by
  unfold subC at h
  unfold fpC topC
  simp only [List.mem_cons, List.mem_append] at h ⊢
  rcases h with h | h | h
  · exact .inl (.inr (.inl h))
  · exact .inl (.inr (.inr h))
  · exact .inr h
theorem ClAt.view {w : World} {C : Cl} (h : ClAt w C) : ColV w C.c (subC C) C :=
  ⟨⟨_, h.hdr, .inr ⟨_, rfl, h.mp, by simp [subC]⟩⟩, h.arr.cells, h.arr.cap, h.set, fun b hb => by simp [subC, hb], fun r hr => by
    have h1 := mem_sets.2 ⟨r, hr, .inl rfl⟩
    have h2 := mem_sets.2 ⟨r, hr, .inr rfl⟩
    simp [subC, h1, h2]⟩
/-- An index that may be nil. -/
def IxR (w : World) (q : Option Addr) (x : Ix) : Prop := (q = none ∧ x.N = 0 ∧ ∀ k, x.cols k = none) ∨ ∃ F cnt, q = some ⟨x.q, 0, none⟩ ∧ IxAt w F cnt x
theorem IxR.ext0 {w w' : World} {q : Option Addr} {x : Ix} (h : IxR w q x) (e : Ext [] w w') : IxR w' q x := by
  rcases h with h | ⟨F, cnt, h1, h2⟩
  · exact .inl h
  · exact .inr ⟨F, cnt, h1, h2.ext0 e⟩
theorem IxR.small {w : World} {q : Option Addr} {x : Ix} (h : IxR w q x) : x.N ≤ 65536 := by
  rcases h with ⟨_, h, _⟩ | ⟨F, cnt, _, h⟩
  · omega
  · exact h.small
end Go.Proofs.YtjlkdadafddodaaGreatDoor
