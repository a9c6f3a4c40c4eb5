/- What 'fresh' does: each of four sets is turned at a place and back; all stand as before. -/
import Derived.Test.YtbaglnffgbnekaaS11
set_option linter.unusedVariables false
set_option linter.unusedSimpArgs false
namespace Go.Proofs.Ytbaglnffgbnekaa
open Go Go.V Go.B

def twoN (k : Int) (A B : SetV) : Nat := if k = 0 ∨ k = 1 ∨ k = 2 ∨ k = 3 then max A.N B.N else if k = 4 then B.N else A.N
def twoM (k : Int) (A B : SetV) (i : Nat) : Bool := if k = 0 then A.mem i && B.mem i else if k = 1 then A.mem i || B.mem i else if k = 2 then A.mem i && !B.mem i else if k = 3 then A.mem i ^^ B.mem i else if k = 4 then B.mem i && !A.mem i else A.mem i
section
variable {W w : World} {l : List Ent} {R : Ending → World → Prop}
theorem two_p (h : Pool W w l) (kind : Int) (a b : Option Nat) (va : okR l a) (vb : okR l b) {qa qb : Option Addr} (ha : ptrOf l a = qa) (hb : ptrOf l b = qb)
    (k : ∀ p q w' C, Pool W w' (l ++ [(p, q, C)]) → C.Ok → C.N = twoN kind (setOf l a) (setOf l b) → (∀ i, C.mem i = twoM kind (setOf l a) (setOf l b) i) → R (.returned (.pointer (some ⟨p, 0, none⟩))) w') :
    Calls Try.prog 70 #[.int .i64 kind, .pointer qa, .pointer qb] w R := by
  subst ha hb
  have fin : ∀ p q w' C, Pool W w' (l ++ [(p, q, C)]) → C.N = twoN kind (setOf l a) (setOf l b) → (∀ i, C.mem i = twoM kind (setOf l a) (setOf l b) i) → R (.returned (.pointer (some ⟨p, 0, none⟩))) w' := fun p q w' C K hN hm => by
    have := K.ok (some l.length) (by show l.length < _; simp)
    have e : setOf (l ++ [(p, q, C)]) (some l.length) = C := by
      show ((l ++ [(p, q, C)]).getD l.length ent0).2.2 = C
      rw [last_get]
    rw [e] at this
    exact k p q w' C K this hN hm
  apply berthlaw01_two_nf
  refine sel_intro (fun h0 => ?_) (fun h0 => ?_)
  · have h0 : kind = 0 := by simpa using h0
    exact h.And a b va vb (k := fun p q w' C K hN hm => ⟨_, rfl, fin p q w' C K (by rw [hN]; simp [twoN, h0]) fun i => by rw [hm]; simp [twoM, h0]⟩)
  have h0 : kind ≠ 0 := by simpa using h0
  refine sel_intro (fun h1 => ?_) (fun h1 => ?_)
  · have h1 : kind = 1 := by simpa using h1
    exact h.Or a b va vb (k := fun p q w' C K hN hm => ⟨_, rfl, fin p q w' C K (by rw [hN]; simp [twoN, h1]) fun i => by rw [hm]; simp [twoM, h1]⟩)
  have h1 : kind ≠ 1 := by simpa using h1
  refine sel_intro (fun h2 => ?_) (fun h2 => ?_)
  · have h2 : kind = 2 := by simpa using h2
    exact h.AndNot a b va vb (k := fun p q w' C K hN hm => ⟨_, rfl, fin p q w' C K (by rw [hN]; simp [twoN, h2]) fun i => by rw [hm]; simp [twoM, h2]⟩)
  have h2 : kind ≠ 2 := by simpa using h2
  refine sel_intro (fun h3 => ?_) (fun h3 => ?_)
  · have h3 : kind = 3 := by simpa using h3
    exact h.Xor a b va vb (k := fun p q w' C K hN hm => ⟨_, rfl, fin p q w' C K (by rw [hN]; simp [twoN, h3]) fun i => by rw [hm]; simp [twoM, h3]⟩)
  have h3 : kind ≠ 3 := by simpa using h3
  refine sel_intro (fun h4 => ?_) (fun h4 => ?_)
  · have h4 : kind = 4 := by simpa using h4
    exact h.Not a b va vb (k := fun p q w' C K hN hm => ⟨_, rfl, fin p q w' C K (by rw [hN]; simp [twoN, h4]) fun i => by rw [hm]; simp [twoM, h4]⟩)
  have h4 : kind ≠ 4 := by simpa using h4
  exact h.Clone a va (k := fun p q w' K => ⟨_, rfl, fin p q w' _ K (by simp [twoN, h0, h1, h2, h3, h4]) fun i => by simp [twoM, h0, h1, h2, h3, h4]⟩)
/-- Turned twice: nothing has changed. -/
theorem turn2_p (h : Pool W w l) {r : Option Nat} (v : okR l r) {i : Int} {C : SetV} {w1 : World} (K : Pool W w1 (updR l r C)) (oC : C.Ok) (nC : C.N = (setOf l r).N) (mC : ∀ j : Nat, C.mem j = ((setOf l r).mem j ^^ decide (0 ≤ i ∧ i < (((setOf l r).N : Nat) : Int) ∧ (j : Int) = i)))
    {q : Option Addr} (hq : ptrOf l r = q) (k : ∀ w', Pool W w' l → Rows l w1 w' → R (.returned undef) w') : Calls Try.prog 71 #[.pointer q, .int .i64 i] w1 R := by
  refine turn_p K r (okR_of (updR_len l r C).symm v) ((ptrOf_upd v C r).trans hq) i fun w2 D K2 oD nD mD rows => ?_
  have e : setOf (updR l r C) r = C := by
    rw [setOf_upd v, if_pos rfl]
    split
    · rename_i hr
      subst hr
      exact SetV.ext_mem SetV.Ok.nil oC nC.symm fun j => by
        rw [mC]
        have : ¬ (0 ≤ i ∧ i < (((setOf l none).N : Nat) : Int) ∧ (j : Int) = i) := by
          show ¬ (0 ≤ i ∧ i < ((0 : Nat) : Int) ∧ (j : Int) = i)
          omega
        simp only [this, decide_false, Bool.xor_false]; rfl
    · rfl
  rw [e] at nD mD
  have hD : D = setOf l r := SetV.ext_mem oD (h.ok r v) (nD.trans nC) fun j => by
    rw [mD, mC, nC]
    generalize decide (0 ≤ i ∧ i < (((setOf l r).N : Nat) : Int) ∧ (j : Int) = i) = d
    cases (setOf l r).mem j <;> cases d <;> rfl
  rw [hD, updR_back v] at K2
  refine k w2 K2 fun A n xs hi ha => rows A n xs hi ((Apart.upd v C).2 ha)
theorem fresh_p (h : Pool W w l) (kind : Int) (a b : Option Nat) (va : okR l a) (vb : okR l b) (i : Int) {qa qb : Option Addr} (ha : ptrOf l a = qa) (hb : ptrOf l b = qb)
    (k : ∀ w', Pool W w' l → R (.returned (.bool true)) w') : Calls Try.prog 48 #[.int .i64 kind, .pointer qa, .pointer qb, .int .i64 i] w R := by
  apply berthlaw01_fresh_nf
  refine two_p h kind a b va vb ha hb fun p q w1 C K1 oC nC mC => ⟨_, rfl, ?_⟩
  refine two_p K1 kind a b (okR_app _ va) (okR_app _ vb) ((ptrOf_app va).trans ha) ((ptrOf_app vb).trans hb) fun p' q' w2 D K2 oD nD mD => ⟨_, rfl, sel_false rfl (sel_false rfl ?_)⟩
  rw [setOf_app va, setOf_app vb] at nD
  simp only [setOf_app va, setOf_app vb] at mD
  obtain rfl : D = C := SetV.ext_mem oD oC (nD.trans nC.symm) fun j => (mD j).trans (mC j).symm
  generalize hA : setOf l a = A at *
  generalize hB : setOf l b = B at *
  clear nD mD nC mC K1
  obtain ⟨L, hL⟩ : ∃ L, L = (l ++ [(p, q, D)]) ++ [(p', q', D)] := ⟨_, rfl⟩
  rw [← hL] at K2
  have hLl : L = l ++ [(p, q, D), (p', q', D)] := by rw [hL, List.append_assoc]; rfl
  have gc : L.getD l.length ent0 = (p, q, D) := by rw [hLl, last_get]
  have gd : L.getD (l.length + 1) ent0 = (p', q', D) := by
    rw [hL]
    simp
  have hlen : L.length = l.length + 2 := by rw [hLl]; simp
  have vc : okR L (some l.length) := by show l.length < L.length; omega
  have vd : okR L (some (l.length + 1)) := by show l.length + 1 < L.length; omega
  have vA : okR L a := by rw [hLl]; exact okR_app _ va
  have vB : okR L b := by rw [hLl]; exact okR_app _ vb
  have pc : ptrOf L (some l.length) = some ⟨p, 0, none⟩ := by show some (⟨(L.getD l.length ent0).1, 0, none⟩ : Addr) = _; rw [gc]
  have pd : ptrOf L (some (l.length + 1)) = some ⟨p', 0, none⟩ := by show some (⟨(L.getD (l.length + 1) ent0).1, 0, none⟩ : Addr) = _; rw [gd]
  have pA : ptrOf L a = qa := by rw [hLl, ptrOf_app va]; exact ha
  have pB : ptrOf L b = qb := by rw [hLl, ptrOf_app vb]; exact hb
  have sc : setOf L (some l.length) = D := by show (L.getD l.length ent0).2.2 = D; rw [gc]
  have sd : setOf L (some (l.length + 1)) = D := by show (L.getD (l.length + 1) ent0).2.2 = D; rw [gd]
  have sA : setOf L a = A := by rw [hLl, setOf_app va]; exact hA
  have sB : setOf L b = B := by rw [hLl, setOf_app vb]; exact hB
  have nac : a ≠ some l.length := fun e => by subst e; exact Nat.lt_irrefl _ (show l.length < l.length from va)
  have nbc : b ≠ some l.length := fun e => by subst e; exact Nat.lt_irrefl _ (show l.length < l.length from vb)
  have nad : a ≠ some (l.length + 1) := fun e => by subst e; have : l.length + 1 < l.length := va; omega
  have nbd : b ≠ some (l.length + 1) := fun e => by subst e; have : l.length + 1 < l.length := vb; omega
  have ncd : some l.length ≠ some (l.length + 1) := by simp
  have done : ∀ {w' : World} {L' : List Ent}, Pool W w' L' → (∃ x y, L' = updR (updR (updR L (some l.length) x) (some l.length) y) (some (l.length + 1)) x → True) → True := fun _ _ => trivial
  clear done
  have hcd := (K2.ref (some l.length) vc)
  have hdd := (K2.ref (some (l.length + 1)) vd)
  rw [pc, sc] at hcd
  rw [pd, sd] at hdd
  refine Equal_c hcd hdd fun t g => ⟨_, rfl, sel_false (by rw [g.2 fun _ => rfl]; rfl) ?_⟩
  refine Size_c hcd ⟨_, rfl, Size_c hdd ⟨_, rfl, sel_false (by simp) ?_⟩⟩
  clear hcd hdd g
  refine row_p K2 a vA pA fun RA cA w3 e3 K3 iA aA => ⟨_, _, _, rfl, ?_⟩
  refine row_p K3 b vB pB fun RB cB w4 e4 K4 iB aB => ⟨_, _, _, rfl, ?_⟩
  refine row_p K4 (some l.length) vc pc fun RC cC w5 e5 K5 iC aC => ⟨_, _, _, rfl, ?_⟩
  replace iA := (iA.ext0 e4).ext0 e5
  replace iB := iB.ext0 e5
  rw [sA] at iA
  rw [sB] at iB
  rw [sc] at iC
  rw [sA, sB, sc]
  clear K2 K3 K4 e3 e4 e5
  -- c
  refine turn_p K5 (some l.length) vc pc i fun w6 C6 K6 o6 n6 m6 r6 => ⟨rfl, ?_⟩
  have jA := r6 _ _ _ iA aA
  have jB := r6 _ _ _ iB aB
  have jC := r6 _ _ _ iC aC
  have ov : ∀ {r : Option Nat} (s : Option Nat) (C : SetV), okR L s → okR (updR L r C) s := fun s C v => okR_of (updR_len _ _ _).symm v
  refine same_p K6 a (ov a C6 vA) ((ptrOf_upd vc C6 a).trans pA) jA (by rw [setOf_upd_other vc C6 nac, sA]) fun w7 e7 K7 => sel_false rfl ?_
  replace jA := jA.ext0 e7; replace jB := jB.ext0 e7; replace jC := jC.ext0 e7
  refine same_p K7 b (ov b C6 vB) ((ptrOf_upd vc C6 b).trans pB) jB (by rw [setOf_upd_other vc C6 nbc, sB]) fun w8 e8 K8 => sel_false rfl ?_
  replace jA := jA.ext0 e8; replace jB := jB.ext0 e8; replace jC := jC.ext0 e8
  refine same_p K8 (some (l.length + 1)) (ov _ C6 vd) ((ptrOf_upd vc C6 _).trans pd) jC (by rw [setOf_upd_other vc C6 (Ne.symm ncd), sd]) fun w9 e9 K9 => sel_false rfl ?_
  replace jA := jA.ext0 e9; replace jB := jB.ext0 e9; replace jC := jC.ext0 e9
  refine turn2_p K5 vc K9 o6 n6 m6 pc fun w10 K10 r10 => ⟨rfl, ?_⟩
  replace iA := r10 _ _ _ jA aA
  replace iB := r10 _ _ _ jB aB
  replace iC := r10 _ _ _ jC aC
  clear K5 K6 K7 K8 K9 o6 n6 m6 r6 r10 jA jB jC e7 e8 e9
  -- a
  refine turn_p K10 a vA pA i fun w6 C6 K6 o6 n6 m6 r6 => ⟨rfl, ?_⟩
  have jA := r6 _ _ _ iA aA
  have jB := r6 _ _ _ iB aB
  have jC := r6 _ _ _ iC aC
  refine same_p K6 (some l.length) (ov _ C6 vc) ((ptrOf_upd vA C6 _).trans pc) jC (by rw [setOf_upd_other vA C6 (Ne.symm nac), sc]) fun w7 e7 K7 => sel_false rfl ?_
  replace jA := jA.ext0 e7; replace jB := jB.ext0 e7; replace jC := jC.ext0 e7
  refine same_p K7 (some (l.length + 1)) (ov _ C6 vd) ((ptrOf_upd vA C6 _).trans pd) jC (by rw [setOf_upd_other vA C6 (Ne.symm nad), sd]) fun w8 e8 K8 => sel_false rfl ?_
  replace jA := jA.ext0 e8; replace jB := jB.ext0 e8; replace jC := jC.ext0 e8
  refine turn2_p K10 vA K8 o6 n6 m6 pA fun w10 K11 r10 => ⟨rfl, ?_⟩
  replace iA := r10 _ _ _ jA aA
  replace iB := r10 _ _ _ jB aB
  replace iC := r10 _ _ _ jC aC
  clear K10 K6 K7 K8 o6 n6 m6 r6 r10 jA jB jC e7 e8
  -- b
  refine turn_p K11 b vB pB i fun w6 C6 K6 o6 n6 m6 r6 => ⟨rfl, ?_⟩
  have jA := r6 _ _ _ iA aA
  have jB := r6 _ _ _ iB aB
  have jC := r6 _ _ _ iC aC
  refine same_p K6 (some l.length) (ov _ C6 vc) ((ptrOf_upd vB C6 _).trans pc) jC (by rw [setOf_upd_other vB C6 (Ne.symm nbc), sc]) fun w7 e7 K7 => sel_false rfl ?_
  replace jA := jA.ext0 e7; replace jB := jB.ext0 e7; replace jC := jC.ext0 e7
  refine same_p K7 (some (l.length + 1)) (ov _ C6 vd) ((ptrOf_upd vB C6 _).trans pd) jC (by rw [setOf_upd_other vB C6 (Ne.symm nbd), sd]) fun w8 e8 K8 => sel_false rfl ?_
  replace jA := jA.ext0 e8; replace jB := jB.ext0 e8; replace jC := jC.ext0 e8
  refine turn2_p K11 vB K8 o6 n6 m6 pB fun w10 K12 r10 => ⟨rfl, ?_⟩
  replace iA := r10 _ _ _ jA aA
  replace iB := r10 _ _ _ jB aB
  replace iC := r10 _ _ _ jC aC
  clear K11 K6 K7 K8 o6 n6 m6 r6 r10 jA jB jC e7 e8
  -- c, d changed for good
  rw [← pc, ← pA]
  refine K12.OrWith l.length a vc vA (k := fun w6 C6 e6 K6 n6 m6 => ⟨rfl, ?_⟩)
  replace iA := Rows.mut vc e6 _ _ _ iA aA
  replace iB := Rows.mut vc e6 _ _ _ iB aB
  have l6 : (updE L l.length C6).length = L.length := updE_len _ _ _
  have p6 : ∀ s, ptrOf (updE L l.length C6) s = ptrOf L s := fun s => ptrOf_upd (r := some l.length) vc C6 s
  have s6 : ∀ s, s ≠ some l.length → setOf (updE L l.length C6) s = setOf L s := fun s hs => setOf_upd_other (r := some l.length) vc C6 hs
  have a6 : ∀ A, Apart L A → Apart (updE L l.length C6) A := fun A h => (Apart.upd (r := some l.length) vc C6).2 h
  rw [← p6, ← pB, ← p6 b]
  refine K6.OrWith l.length b (by rw [l6]; exact vc) (okR_of l6.symm vB) (k := fun w7 C7 e7 K7 n7 m7 => ⟨rfl, ?_⟩)
  replace iA := Rows.mut (by rw [l6]; exact vc) e7 _ _ _ iA (a6 _ aA)
  replace iB := Rows.mut (by rw [l6]; exact vc) e7 _ _ _ iB (a6 _ aB)
  have v6 : okR (updE L l.length C6) (some l.length) := by show l.length < List.length _; rw [l6]; exact vc
  have l7 : (updE (updE L l.length C6) l.length C7).length = L.length := (updE_len _ _ _).trans l6
  have p7 : ∀ s, ptrOf (updE (updE L l.length C6) l.length C7) s = ptrOf L s := fun s => (ptrOf_upd (r := some l.length) v6 C7 s).trans (p6 s)
  have s7 : ∀ s, s ≠ some l.length → setOf (updE (updE L l.length C6) l.length C7) s = setOf L s := fun s hs => (setOf_upd_other (r := some l.length) v6 C7 hs).trans (s6 s hs)
  have a7 : ∀ A, Apart L A → Apart (updE (updE L l.length C6) l.length C7) A := fun A h => (Apart.upd (r := some l.length) v6 C7).2 (a6 A h)
  rw [← pd, ← p7]
  have v7 : l.length + 1 < (updE (updE L l.length C6) l.length C7).length := by rw [l7]; exact vd
  refine K7.AndNotWith (l.length + 1) (some (l.length + 1)) v7 v7 (k := fun w8 C8 e8 K8 n8 m8 => ⟨rfl, ?_⟩)
  replace iA := Rows.mut v7 e8 _ _ _ iA (a7 _ aA)
  replace iB := Rows.mut v7 e8 _ _ _ iB (a7 _ aB)
  have l8 : (updE (updE (updE L l.length C6) l.length C7) (l.length + 1) C8).length = L.length := (updE_len _ _ _).trans l7
  have p8 : ∀ s, ptrOf (updE (updE (updE L l.length C6) l.length C7) (l.length + 1) C8) s = ptrOf L s := fun s => (ptrOf_upd (r := some (l.length + 1)) v7 C8 s).trans (p7 s)
  have s8 : ∀ s, s ≠ some l.length → s ≠ some (l.length + 1) → setOf (updE (updE (updE L l.length C6) l.length C7) (l.length + 1) C8) s = setOf L s := fun s hs hs' => (setOf_upd_other (r := some (l.length + 1)) v7 C8 hs').trans (s7 s hs)
  refine same_p K8 a (okR_of l8.symm vA) (by first | exact p8 a | exact (p8 a).trans (p6 a).symm | exact (p8 a).trans (p7 a).symm) iA (by rw [s8 a nac nad, sA]) fun w9 e9 K9 => sel_true rfl ?_
  refine same_p K9 b (okR_of l8.symm vB) (by first | exact p8 b | exact (p8 b).trans (p6 b).symm | exact (p8 b).trans (p7 b).symm) (iB.ext0 e9) (by rw [s8 b nbc nbd, sB]) fun w10 e10 K10 => k w10 ?_
  refine K10.take ⟨(updE (updE (updE L l.length C6) l.length C7) (l.length + 1) C8).drop l.length, ?_⟩
  have : l = (updE (updE (updE L l.length C6) l.length C7) (l.length + 1) C8).take l.length := by
    unfold updE
    rw [List.take_set_of_le (by omega), List.take_set_of_le (by omega), List.take_set_of_le (by omega), hLl]
    simp
  conv => rhs; lhs; rw [this]
  exact (List.take_append_drop _ _).symm
end
end Go.Proofs.Ytbaglnffgbnekaa
