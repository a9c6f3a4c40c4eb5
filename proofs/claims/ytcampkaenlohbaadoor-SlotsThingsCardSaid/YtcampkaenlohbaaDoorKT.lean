/- Slots: tables of Things, over the same plain functions. -/
import Derived.Test.YtcampkaenlohbaaDoorK9
import Derived.Test.YtcampkaenlohbaaDoorNT
import Derived.Test.YtcampkaenlohbaaDoorTX
set_option linter.unusedVariables false
set_option linter.unusedSimpArgs false
namespace Go.Proofs.YtcampkaenlohbaaDoor.KT
open Go Go.V Go.B

def cells (x : Rw) : List Value := [.bool x.held, .string x.name, .int .i64 x.v, .string (tx x)]
def RL : Lay Rw := ⟨cells, 4, fun _ => rfl, fun x v hv => by
  simp only [cells, List.mem_cons, List.not_mem_nil, or_false] at hv
  rcases hv with rfl | rfl | rfl | rfl <;> rfl, by omega⟩
theorem u77 : Tryd.prog.underlying 87 = some (.slice 94) := by kernel_rfl
def z81 : Value := .agg #[.bool false, .string ByteArray.empty, .int .i64 0, .string ByteArray.empty]
theorem i81 : (Tryd.prog.info? 94).map (fun i => (i.zero, i.size, i.bytes)) = some (some z81, 4, 48) := by kernel_rfl
theorem i81s : (Tryd.prog.info? 94).map (·.size) = some 4 := by kernel_rfl
theorem i77s : (Tryd.prog.info? 87).map (·.size) = some 1 := by kernel_rfl
theorem i9s : (Tryd.prog.info? 9).map (·.size) = some 1 := by kernel_rfl
structure TM (w : World) (B p r : Nat) (A : Option Addr) (n c most low : Nat) (rows : List Rw) (m : List (ByteArray × Int)) : Prop where
  hdr : BlkT w p [.int .i64 (most : Int), .map (some r), .slice A n c, .int .i64 (low : Int)] 89
  own : OwnL RL w B 94 A n c rows
  mp : MapAt w r Value.string ki m
  hp : p ∉ ownF A
  hr : r ∉ p :: ownF A
  hB : B ≤ w.heap.size

theorem TM.ext {F : List Nat} {w w' : World} {B p r : Nat} {A : Option Addr} {n c most low : Nat} {rows : List Rw} {m : List (ByteArray × Int)} (h : TM w B p r A n c most low rows m) (e : Ext F w w') (hF : ∀ b ∈ p :: r :: ownF A, b ∉ F) : TM w' B p r A n c most low rows m :=
  ⟨h.hdr.ext e (hF p (by simp)), h.own.ext e (fun b hb => hF b (by simp [hb])), h.mp.ext e (hF r (by simp)), h.hp, h.hr, Nat.le_trans h.hB e.size⟩

theorem TM.lt {w : World} {B p r : Nat} {A : Option Addr} {n c most low : Nat} {rows : List Rw} {m : List (ByteArray × Int)} (h : TM w B p r A n c most low rows m) : ∀ b ∈ p :: r :: ownF A, b < w.heap.size := by
  intro b hb
  simp only [List.mem_cons] at hb
  rcases hb with rfl | rfl | hb
  · exact h.hdr.lt
  · exact h.mp.lt
  · exact (h.own.base b hb).2

def At (w : World) (B p : Nat) (f : List Nat) (s : TS) : Prop := ∃ r A n c, TM w B p r A n c s.most s.low s.rows s.m ∧ s.ok ∧ f = p :: r :: ownF A

theorem At.ext {F : List Nat} {w w' : World} {B p : Nat} {f : List Nat} {s : TS} (h : At w B p f s) (e : Ext F w w') (hF : ∀ b ∈ f, b ∉ F) : At w' B p f s := by
  obtain ⟨r, A, n, c, q, i, rfl⟩ := h
  exact ⟨r, A, n, c, q.ext e hF, i, rfl⟩

theorem At.ext0 {w w' : World} {B p : Nat} {f : List Nat} {s : TS} (h : At w B p f s) (e : Ext [] w w') : At w' B p f s := h.ext e (by simp)

theorem At.lt {w : World} {B p : Nat} {f : List Nat} {s : TS} (h : At w B p f s) : ∀ b ∈ f, b < w.heap.size := by
  obtain ⟨r, A, n, c, q, i, rfl⟩ := h
  exact q.lt

theorem At.inv {w : World} {B p : Nat} {f : List Nat} {s : TS} (h : At w B p f s) : s.ok := by
  obtain ⟨r, A, n, c, q, i, rfl⟩ := h
  exact i

theorem At.keys {w : World} {B p : Nat} {f : List Nat} {s : TS} (h : At w B p f s) : (mkeys s.m).Nodup := by
  obtain ⟨r, A, n, c, q, i, rfl⟩ := h
  exact q.mp.nodup

theorem look_c {w : World} {B p : Nat} {f : List Nat} {s : TS} (h : At w B p f s) (name : ByteArray) {R : Ending → World → Prop} (k : R (.returned (.tuple #[.int .i64 (lookV s name).1, .int .i64 (lookV s name).2])) w) :
    Calls Tryd.prog 39 #[.pointer (some ⟨p, 0, none⟩), .string name] w R := by
  obtain ⟨r, A, n, c, q, i, rfl⟩ := h
  apply slots_Table_berthlaw05_Thing__look_nf
  have kb : badN name → R (.returned (.tuple #[.int .i64 0, .int .i64 51])) w := fun hb => by
    unfold lookV at k; rw [if_pos hb] at k; exact k
  refine sel_false rfl (sel_dec (fun h1 => kb (.inl (by omega))) (fun h1 => sel_dec (fun h2 => kb (.inr (by omega))) (fun h2 => ptr_in ⟨_, cadd q.hdr rfl, ?_⟩)))
  have hb : ¬ badN name := by unfold badN; omega
  unfold lookV at k
  rw [if_neg hb] at k
  cases hg : mget s.m name with
  | none =>
    rw [hg] at k
    exact ⟨_, _, _, (look_no (P := Tryd.prog) kS u28 zI q.mp hg).2, sel_true rfl k⟩
  | some v =>
    rw [hg] at k
    exact ⟨_, _, _, (look_yes (P := Tryd.prog) kS u28 zI q.mp hg).2, sel_false rfl k⟩

theorem lookV_ok {w : World} {B p : Nat} {f : List Nat} {s : TS} (h : At w B p f s) {name : ByteArray} (e : (lookV s name).2 = 0) : ∃ (i : Nat) (x : Rw), s.rows[i]? = some x ∧ x.held = true ∧ x.name = name ∧ (lookV s name).1 = (i : Int) ∧ mget s.m name = some (i : Int) := by
  unfold lookV at e ⊢
  split at e
  · cases e
  · rename_i hb
    rw [if_neg hb]
    cases hg : mget s.m name with
    | none => rw [hg] at e; cases e
    | some v =>
      obtain ⟨i, x, h1, h2, h3, rfl⟩ := (h.inv.mp name v).1 hg
      exact ⟨i, x, h1, h2, h3, rfl, rfl⟩

theorem New_c {w : World} (most : Int) {R : Ending → World → Prop} (k1 : (most < 0 ∨ 65536 < most) → R (.returned (.tuple #[.pointer none, .int .i64 50])) w)
    (k2 : ∀ p f w', 0 ≤ most → most ≤ 65536 → Ext [] w w' → At w' w.heap.size p f ⟨most.toNat, [], [], 0⟩ → (∀ b ∈ f, w.heap.size ≤ b) → R (.returned (.tuple #[.pointer (some ⟨p, 0, none⟩), .int .i64 0])) w') :
    Calls Tryd.prog 13 #[.int .i64 most] w R := by
  apply slots_New_berthlaw05_Thing__nf
  refine sel_dec (fun h => k1 (.inl h)) (fun h0 => sel_dec (fun h => k1 (.inr (by omega))) (fun h1 => ?_))
  intro w1 h1 w2 h2
  obtain ⟨m1, x1, z1⟩ := map_new (β := Int) Value.string ki h1
  obtain ⟨b2, x2, z2⟩ := box_new (cs := [.int .i64 most, .map (some w.heap.size), .slice none 0 0, .int .i64 0]) h2
  refine k2 w1.heap.size [w1.heap.size, w.heap.size] w2 (by omega) (by omega) (x1.trans x2) ⟨w.heap.size, none, 0, 0, ⟨?_, OwnL.nil _ _ _, m1.ext0 x2, by simp [ownF], by simp [ownF]; omega, by omega⟩, ?_, by simp [ownF]⟩ ?_
  · have : ((most.toNat : Nat) : Int) = most := by omega
    rw [this]; exact b2
  · exact ⟨by simp, by show most.toNat ≤ 65536; omega, by simp [mget], by simp, by simp, by simp, by simp, by simp, by simp⟩
  · intro b hb
    simp at hb; omega

theorem Len_c {w : World} {B p : Nat} {f : List Nat} {s : TS} (h : At w B p f s) {R : Ending → World → Prop} (k : R (.returned (.int .i64 (s.m.length : Int))) w) : Calls Tryd.prog 45 #[.pointer (some ⟨p, 0, none⟩)] w R := by
  obtain ⟨r, A, n, c, q, i, rfl⟩ := h
  apply slots_Table_berthlaw05_Thing__Len_nf
  exact sel_false rfl (ptr_in ⟨_, cadd q.hdr rfl, _, _, len_map (P := Tryd.prog) u28 q.mp, k⟩)

def ft (y : Int × Int × Bool) : ByteArray := if y.2.2 then nt y.2.1 else ByteArray.empty
theorem i39' : (Tryd.prog.info? 39).map (·.size) = some 2 := by kernel_rfl
theorem cells_drop' {C : Addr → Value → Prop} {a : Addr} {vs : List Value} (h : cellsC C a vs) (k : Nat) : cellsC C (a.add k) (vs.drop k) := fun j v hv => by
  rw [Addr.add_add]
  exact h (k + j) v (by rwa [List.getElem?_drop] at hv)
theorem Find_c {w : World} {B p : Nat} {f : List Nat} {s : TS} (h : At w B p f s) (name : ByteArray) {R : Ending → World → Prop}
    (k : ∀ w', Ext [] w w' → R (.returned (.tuple #[.int .i64 (findV s name).1, .agg #[.int .i64 (findV s name).2.1, .string (ft (findV s name))], .bool (findV s name).2.2])) w') : Calls Tryd.prog 25 #[.pointer (some ⟨p, 0, none⟩), .string name] w R := by
  apply slots_Table_berthlaw05_Thing__Find_nf
  intro w3 h3 w4 h4
  obtain ⟨b3, x3, z3⟩ := box_new (cs := [.int .i64 0, .string ByteArray.empty]) h3
  obtain ⟨b4, x4, z4⟩ := box_new (cs := [.int .i64 0, .string ByteArray.empty]) h4
  have hlt := h.lt
  have h1 := (h.ext0 x3).ext0 x4
  have d : Ext [] w4 w4.drew := (Ext.refl _ _).drew
  have b3d := (b3.ext0 x4).ext0 d
  have e4 : Ext [] w w4.drew := (x3.trans x4).trans d
  refine look_c h1 name ⟨_, _, rfl, ?_⟩
  by_cases e : (lookV s name).2 = 0
  · obtain ⟨i, x, hx, hh, hn, e1, hg⟩ := lookV_ok h1 e
    obtain ⟨r, A, n, c, q, inv, rfl⟩ := h1
    have hl := q.own.len
    have hil := (List.getElem?_eq_some_iff.1 hx).1
    rw [e]
    unfold findV at k
    rw [if_pos e, e1] at k
    rw [e1]
    rw [Int.toNat_natCast, show s.rows.getD i Rw.zero = x by simp [List.getD_eq_getElem?_getD, hx]] at k
    obtain ⟨y, ad, hy, rfl, rd⟩ := q.own.row (a := i) (by omega)
    have qx : ∀ w', Ext [w.heap.size] w4 w' → TM w' B p r (some ad) n c s.most s.low s.rows s.m := fun w' e => q.ext e (fun b hb => by have := hlt b hb; simp; omega)
    obtain ⟨w23, hr23, b23, x23⟩ := storeW (P := Tryd.prog) (t := 39) (n := 2) (vs := [.int .i64 x.v, .string (nt x.v)]) i39' b3d rfl rfl (fun v hv => by simp at hv; rcases hv with rfl | rfl <;> rfl)
    have xx : Ext [w.heap.size] w4 w23 := (Ext.up d).trans x23
    refine sel_false rfl ⟨fun w' => Ext [w.heap.size] w4 w', Ext.up d, ptr_in ⟨_, _, _, fun w' e => cadd (qx w' e).hdr rfl, when_dec ⟨by omega, by omega⟩ (ptr_in ⟨x.v, nt x.v, cellsC_S (S := fun w' => Ext [w.heap.size] w4 w') (fun w' e => ?_), w23, hr23, xx, _, _, cadd0 b23, ?_⟩)⟩⟩
    · obtain ⟨y', ad', hy', had, rd'⟩ := (qx w' e).own.row (a := i) (by omega)
      cases had
      rw [hx] at hy'
      cases hy'
      have := cells_drop' rd' 2
      rw [show (RL.enc x).drop 2 = [.int .i64 x.v, .string (tx x)] from rfl, tx_held hh] at this
      exact this
    · exact k w23 (e4.trans' x23 (fun b hb => .inr (by simp at hb; omega)))
  · unfold findV at k
    rw [if_neg e] at k
    have b4d := b4.ext0 d
    obtain ⟨w13, hr13, b13, x13⟩ := storeW (P := Tryd.prog) (t := 39) (n := 2) (vs := [.int .i64 0, .string ByteArray.empty]) i39' b3d rfl rfl (fun v hv => by simp at hv; rcases hv with rfl | rfl <;> rfl)
    refine sel_true (by simpa using e) ⟨fun w' => Ext [w.heap.size] w4 w', Ext.up d, _, _, cellsC_S (S := fun w' => Ext [w.heap.size] w4 w') (fun w' e => cadd0 (b4.ext e (by simp; omega))), w13, hr13, (Ext.up d).trans x13, _, _, cadd0 b13, ?_⟩
    exact k w13 (e4.trans' x13 (fun b hb => .inr (by simp at hb; omega)))

theorem i39 : (Tryd.prog.info? 39).map (·.size) = some 2 := by kernel_rfl
theorem cells_drop {C : Addr → Value → Prop} {a : Addr} {vs : List Value} (h : cellsC C a vs) (k : Nat) : cellsC C (a.add k) (vs.drop k) := fun j v hv => by
  rw [Addr.add_add]
  exact h (k + j) v (by rwa [List.getElem?_drop] at hv)
theorem setTail {α : Type} {L : Lay α} {w : World} {B n c : Nat} {e : TypeId} {A : Option Addr} {xs : List α} {P : Program} (own : OwnL L w B e A n c xs) {i o : Nat} {x y : α} {vs : List Value} (hi : xs[i]? = some x) (ho : o + vs.length = L.sz) (hy : L.enc y = (L.enc x).take o ++ vs) {t : TypeId} (ht : (P.info? t).map (·.size) = some vs.length) (h1 : ∀ v ∈ vs, v.oneCell' = true) :
    ∃ g w', A = some ⟨g, 0, none⟩ ∧ (Instr.storeAt t (.pointer (some (Addr.add (Addr.add ⟨g, 0, none⟩ (i * L.sz)) o))) (.agg ⟨vs⟩)).run P w = .ok () w' ∧ OwnL L w' B e A n c (xs.set i y) ∧ Ext (ownF A) w w' := by
  have hxl := own.len
  have hil := (List.getElem?_eq_some_iff.1 hi).1
  obtain ⟨g, bs, rfl, hBg, hbk, hbl, hcm, htk⟩ := own_blk own (by omega)
  have hnc := own_cap own
  have hic : (i + 1) * L.sz ≤ c * L.sz := Nat.mul_le_mul_right _ (by omega)
  have hin : (i + 1) * L.sz ≤ n * L.sz := Nat.mul_le_mul_right _ (by omega)
  rw [Nat.succ_mul] at hic hin
  obtain ⟨w', hr, hb', ex⟩ := storeN (P := P) (t := t) (n := vs.length) (vs := vs) (o := i * L.sz + o) ht hbk rfl (by omega) h1
  have hl : bs.take (i * L.sz + o) ++ vs ++ bs.drop (i * L.sz + o + vs.length) = bs.take (i * L.sz) ++ L.enc y ++ bs.drop (i * L.sz + L.sz) := by
    have h2 : (bs.drop (i * L.sz)).take o = (L.enc x).take o := by
      have h3 := L.flat_get hi
      rw [← h3, ← htk, List.drop_take, List.take_take, List.take_take]
      congr 1
      omega
    rw [hy, List.take_add, h2, show i * L.sz + o + vs.length = i * L.sz + L.sz by omega]
    simp [List.append_assoc]
  rw [hl] at hb'
  refine ⟨g, w', rfl, ?_, own_of hb' hBg hnc hcm ?_ ?_, ex⟩
  · rw [Addr.add_lit, Addr.add_lit]
    have : 0 + i * L.sz + o = i * L.sz + o := by omega
    rw [this]; exact hr
  · simp only [List.length_append, List.length_take, List.length_drop, hbl, L.len]
    omega
  · have h1 := flat_setRow L (x := y) (show i < xs.length by omega)
    rw [← h1, ← htk, List.append_assoc, List.append_assoc, List.take_append, List.take_append]
    have hl1 : (bs.take (i * L.sz)).length = i * L.sz := by rw [List.length_take, hbl]; omega
    rw [hl1, L.len, List.take_take, List.take_take, List.take_of_length_le (l := L.enc y) (by rw [L.len]; omega), List.drop_take]
    rw [Nat.min_comm]
    congr 3
    try omega
theorem Set_c {w : World} {B p : Nat} {f : List Nat} {s : TS} (h : At w B p f s) (name : ByteArray) (v : Int) {R : Ending → World → Prop}
    (k : ∀ w', At w' B p f (setV s name v) → Ext f w w' → R (.returned (.int .i64 (lookV s name).2)) w') : Calls Tryd.prog 19 #[.pointer (some ⟨p, 0, none⟩), .string name, .agg #[.int .i64 v, .string (nt v)]] w R := by
  apply slots_Table_berthlaw05_Thing__Set_nf
  intro w5 h5
  obtain ⟨bv, xv, zv⟩ := box_new (cs := [.int .i64 v, .string (nt v)]) h5
  have h1 := h.ext0 xv
  refine look_c h1 name ⟨_, _, rfl, ?_⟩
  by_cases e : (lookV s name).2 = 0
  · obtain ⟨i, x, hx, hh, hn, e1, hg⟩ := lookV_ok h1 e
    obtain ⟨r, A, n, c, q, inv, rfl⟩ := h1
    have hl := q.own.len
    have hil := (List.getElem?_eq_some_iff.1 hx).1
    have hv : setV s name v = { s with rows := s.rows.set i { x with v := v } } := by
      unfold setV
      rw [if_pos e, e1, Int.toNat_natCast, show s.rows.getD i Rw.zero = x by simp [List.getD_eq_getElem?_getD, hx]]
    rw [hv] at k
    rw [e] at k ⊢
    rw [e1]
    have d : Ext [] w5 w5.drew := (Ext.refl _ _).drew
    have qd := q.ext d (by simp)
    obtain ⟨g, w1, rfl, hr1, own1, x1⟩ := setTail (P := Tryd.prog) (t := 39) (vs := [.int .i64 v, .string (nt v)]) (i := i) (o := 2) (x := x) (y := { x with v := v }) qd.own hx rfl (by show cells _ = (cells x).take 2 ++ _; simp [cells, tx, hh]) i39 (fun v hv => by simp at hv; rcases hv with rfl | rfl <;> rfl)
    have hr1' : Sem.run Tryd.prog (Instr.storeAt 39 (.pointer (some (Addr.add (Addr.add ⟨g, 0, none⟩ (Int.toNat (i : Int) * 4)) 2))) (.agg #[.int .i64 v, .string (nt v)])) w5.drew = .ok () w1 := by rw [Int.toNat_natCast]; exact hr1
    have hrF := q.hr
    simp only [List.mem_cons, not_or] at hrF
    refine sel_true rfl (ptr_in ⟨_, _, _, cadd q.hdr rfl, _, _, cadd0 bv, when_dec ⟨by omega, by omega⟩ (ptr_in ⟨w1, hr1', k w1 ⟨r, some ⟨g, 0, none⟩, n, c, ⟨qd.hdr.ext x1 q.hp, own1, qd.mp.ext x1 hrF.2, q.hp, q.hr, Nat.le_trans q.hB (Nat.le_trans d.size x1.size)⟩, inv.turn hx hh v, rfl⟩ ?_⟩)⟩)
    exact ((Ext.up xv).trans (Ext.up d)).trans (x1.weaken fun b hb => .inl (by simp [hb]))
  · have hv : setV s name v = s := by unfold setV; rw [if_neg e]
    rw [hv] at k
    exact sel_false (by simpa using e) (k w5 h1 (Ext.up xv))

set_option maxRecDepth 8000 in
theorem Put_in {w : World} {B p vb : Nat} {f : List Nat} {s : TS} (h : At w B p f s) (name : ByteArray) (v : Int) (bv : BlkT w vb [.int .i64 v, .string (nt v)] 39) (hvb : vb ∉ f) {R : Ending → World → Prop}
    (k : ∀ w' f', At w' B p f' (putV s name v).1 → Ext f w w' → Grow w f f' → R (.returned (.tuple #[.int .i64 (putV s name v).2.1, .int .i64 (putV s name v).2.2])) w') :
    Calls Tryd.prog 39 #[(Value.pointer (some (⟨p, 0, none⟩ : Addr))), (Value.string name)] w fun e8 w9 =>
  ∃ n6, ∃ n7, e8 = Ending.returned (Value.tuple #[(Value.int .i64 n6), (Value.int .i64 n7)]) ∧
  V.sel (n7 == 0)
  (R (Ending.returned (Value.tuple #[(Value.int .i64 0), (Value.int .i64 52)])) w9)
  (V.sel (n7 != 54)
  (R (Ending.returned (Value.tuple #[(Value.int .i64 0), (Value.int .i64 n7)])) w9)
  (V.ptr (some (⟨p, 0, none⟩ : Addr)) fun a10 =>
  ∃ m11, World.cell? w9 (Addr.add a10 1) = some (Value.map m11) ∧
  ∃ n12, Sem.run Tryd.prog (Builtin.len_ #[81] 3 #[(Value.map m11)]) (World.drew w9) = .ok (Value.int .i64 n12) (World.drew w9) ∧
  V.ptr (some (⟨p, 0, none⟩ : Addr)) fun a13 =>
  ∃ n14, World.cell? w9 (Addr.add a13 0) = some (Value.int .i64 n14) ∧
  V.sel (decide (n12 ≥ n14))
  (R (Ending.returned (Value.tuple #[(Value.int .i64 0), (Value.int .i64 53)])) (World.drew w9))
  (V.ptr (some (⟨p, 0, none⟩ : Addr)) fun a15 =>
  ∃ n16, World.cell? (World.drew w9) (Addr.add a15 3) = some (Value.int .i64 n16) ∧
  ∃ I17 : Int → World → Prop, ∃ μ18 : Int → World → Nat, I17 n16 (World.drew w9) ∧
  ∀ slot_19 (j20 : Nat → Value) (w21 : World), I17 slot_19 w21 →
  (V.ptr (some (⟨p, 0, none⟩ : Addr)) fun a22 =>
  ∃ A23, ∃ A23l, ∃ A23c, World.cell? w21 (Addr.add a22 2) = some (Value.slice A23 A23l A23c) ∧
  V.sel (decide (slot_19 < ((A23l : Nat) : Int)))
  (V.ptr (some (⟨p, 0, none⟩ : Addr)) fun a24 =>
  ∃ A25, ∃ A25l, ∃ A25c, World.cell? w21 (Addr.add a24 2) = some (Value.slice A25 A25l A25c) ∧
  V.when (decide ((0 : Int) ≤ slot_19 ∧ (slot_19 : Int) < ((A25l : Nat) : Int))) (V.ptr A25 fun a26 =>
  ∃ b27, World.cell? w21 (Addr.add (Addr.add a26 ((Int.toNat slot_19) * 4)) 0) = some (Value.bool b27) ∧
  V.sel b27
  (I17 (IntKind.wrap .i64 (slot_19 + 1)) w21 ∧ μ18 (IntKind.wrap .i64 (slot_19 + 1)) w21 < μ18 slot_19 w21)
  (V.ptr (some (⟨p, 0, none⟩ : Addr)) fun a28 =>
  ∃ A29, ∃ A29l, ∃ A29c, World.cell? w21 (Addr.add a28 2) = some (Value.slice A29 A29l A29c) ∧
  V.sel (slot_19 == ((A29l : Nat) : Int))
  (V.ptr (some (⟨p, 0, none⟩ : Addr)) fun a30 =>
  ∃ A31, ∃ A31l, ∃ A31c, World.cell? w21 (Addr.add a30 2) = some (Value.slice A31 A31l A31c) ∧
  ∀ w32, w32 = (World.alloc w21 (.cells #[(Value.bool false), (Value.string ByteArray.empty), (Value.int .i64 0), (Value.string ByteArray.empty)] 94)) →
  ∃ A33, ∃ A33l, ∃ A33c, ∃ w34, Sem.run Tryd.prog (Builtin.append_ #[87, 87] 87 #[(Value.slice A31 A31l A31c), (Value.slice (some ⟨Array.size (World.heap w21), 0, none⟩) 1 1)]) w32 = .ok (Value.slice A33 A33l A33c) w34 ∧
  V.ptr (some (⟨p, 0, none⟩ : Addr)) fun a35 =>
  ∃ w36, Sem.run Tryd.prog (Instr.storeAt 87 (Value.pointer (some (Addr.add a35 2))) (Value.slice A33 A33l A33c)) w34 = .ok () w36 ∧
  V.ptr (some (⟨p, 0, none⟩ : Addr)) fun a37 =>
  ∃ A38, ∃ A38l, ∃ A38c, World.cell? w36 (Addr.add a37 2) = some (Value.slice A38 A38l A38c) ∧
  ∃ n39, ∃ s40, V.cellsC (fun a_ x_ => World.cell? w36 a_ = some x_) ⟨vb, 0, none⟩ [(Value.int .i64 n39), (Value.string s40)] ∧
  V.when (decide ((0 : Int) ≤ slot_19 ∧ (slot_19 : Int) < ((A38l : Nat) : Int))) (V.ptr A38 fun a41 =>
  ∃ w42, Sem.run Tryd.prog (Instr.storeAt 94 (Value.pointer (some (Addr.add a41 ((Int.toNat slot_19) * 4)))) (Value.agg #[(Value.bool true), (Value.string name), (Value.int .i64 n39), (Value.string s40)])) (World.drew w36) = .ok () w42 ∧
  V.ptr (some (⟨p, 0, none⟩ : Addr)) fun a43 =>
  ∃ m44, World.cell? w42 (Addr.add a43 1) = some (Value.map m44) ∧
  ∃ w45, Sem.run Tryd.prog (Instr.mapUpdate 81 (Value.map m44) (Value.string name) (Value.int .i64 slot_19)) w42 = .ok () w45 ∧
  V.ptr (some (⟨p, 0, none⟩ : Addr)) fun a46 =>
  ∃ w47, Sem.run Tryd.prog (Instr.storeAt 3 (Value.pointer (some (Addr.add a46 3))) (Value.int .i64 (IntKind.wrap .i64 (slot_19 + 1)))) w45 = .ok () w47 ∧
  R (Ending.returned (Value.tuple #[(Value.int .i64 slot_19), (Value.int .i64 0)])) w47))
  (V.ptr (some (⟨p, 0, none⟩ : Addr)) fun a48 =>
  ∃ A49, ∃ A49l, ∃ A49c, World.cell? w21 (Addr.add a48 2) = some (Value.slice A49 A49l A49c) ∧
  ∃ n50, ∃ s51, V.cellsC (fun a_ x_ => World.cell? w21 a_ = some x_) ⟨vb, 0, none⟩ [(Value.int .i64 n50), (Value.string s51)] ∧
  V.when (decide ((0 : Int) ≤ slot_19 ∧ (slot_19 : Int) < ((A49l : Nat) : Int))) (V.ptr A49 fun a52 =>
  ∃ w53, Sem.run Tryd.prog (Instr.storeAt 94 (Value.pointer (some (Addr.add a52 ((Int.toNat slot_19) * 4)))) (Value.agg #[(Value.bool true), (Value.string name), (Value.int .i64 n50), (Value.string s51)])) (World.drew w21) = .ok () w53 ∧
  V.ptr (some (⟨p, 0, none⟩ : Addr)) fun a54 =>
  ∃ m55, World.cell? w53 (Addr.add a54 1) = some (Value.map m55) ∧
  ∃ w56, Sem.run Tryd.prog (Instr.mapUpdate 81 (Value.map m55) (Value.string name) (Value.int .i64 slot_19)) w53 = .ok () w56 ∧
  V.ptr (some (⟨p, 0, none⟩ : Addr)) fun a57 =>
  ∃ w58, Sem.run Tryd.prog (Instr.storeAt 3 (Value.pointer (some (Addr.add a57 3))) (Value.int .i64 (IntKind.wrap .i64 (slot_19 + 1)))) w56 = .ok () w58 ∧
  R (Ending.returned (Value.tuple #[(Value.int .i64 slot_19), (Value.int .i64 0)])) w58)))))
  (V.ptr (some (⟨p, 0, none⟩ : Addr)) fun a59 =>
  ∃ A60, ∃ A60l, ∃ A60c, World.cell? w21 (Addr.add a59 2) = some (Value.slice A60 A60l A60c) ∧
  V.sel (slot_19 == ((A60l : Nat) : Int))
  (V.ptr (some (⟨p, 0, none⟩ : Addr)) fun a61 =>
  ∃ A62, ∃ A62l, ∃ A62c, World.cell? w21 (Addr.add a61 2) = some (Value.slice A62 A62l A62c) ∧
  ∀ w63, w63 = (World.alloc w21 (.cells #[(Value.bool false), (Value.string ByteArray.empty), (Value.int .i64 0), (Value.string ByteArray.empty)] 94)) →
  ∃ A64, ∃ A64l, ∃ A64c, ∃ w65, Sem.run Tryd.prog (Builtin.append_ #[87, 87] 87 #[(Value.slice A62 A62l A62c), (Value.slice (some ⟨Array.size (World.heap w21), 0, none⟩) 1 1)]) w63 = .ok (Value.slice A64 A64l A64c) w65 ∧
  V.ptr (some (⟨p, 0, none⟩ : Addr)) fun a66 =>
  ∃ w67, Sem.run Tryd.prog (Instr.storeAt 87 (Value.pointer (some (Addr.add a66 2))) (Value.slice A64 A64l A64c)) w65 = .ok () w67 ∧
  V.ptr (some (⟨p, 0, none⟩ : Addr)) fun a68 =>
  ∃ A69, ∃ A69l, ∃ A69c, World.cell? w67 (Addr.add a68 2) = some (Value.slice A69 A69l A69c) ∧
  ∃ n70, ∃ s71, V.cellsC (fun a_ x_ => World.cell? w67 a_ = some x_) ⟨vb, 0, none⟩ [(Value.int .i64 n70), (Value.string s71)] ∧
  V.when (decide ((0 : Int) ≤ slot_19 ∧ (slot_19 : Int) < ((A69l : Nat) : Int))) (V.ptr A69 fun a72 =>
  ∃ w73, Sem.run Tryd.prog (Instr.storeAt 94 (Value.pointer (some (Addr.add a72 ((Int.toNat slot_19) * 4)))) (Value.agg #[(Value.bool true), (Value.string name), (Value.int .i64 n70), (Value.string s71)])) (World.drew w67) = .ok () w73 ∧
  V.ptr (some (⟨p, 0, none⟩ : Addr)) fun a74 =>
  ∃ m75, World.cell? w73 (Addr.add a74 1) = some (Value.map m75) ∧
  ∃ w76, Sem.run Tryd.prog (Instr.mapUpdate 81 (Value.map m75) (Value.string name) (Value.int .i64 slot_19)) w73 = .ok () w76 ∧
  V.ptr (some (⟨p, 0, none⟩ : Addr)) fun a77 =>
  ∃ w78, Sem.run Tryd.prog (Instr.storeAt 3 (Value.pointer (some (Addr.add a77 3))) (Value.int .i64 (IntKind.wrap .i64 (slot_19 + 1)))) w76 = .ok () w78 ∧
  R (Ending.returned (Value.tuple #[(Value.int .i64 slot_19), (Value.int .i64 0)])) w78))
  (V.ptr (some (⟨p, 0, none⟩ : Addr)) fun a79 =>
  ∃ A80, ∃ A80l, ∃ A80c, World.cell? w21 (Addr.add a79 2) = some (Value.slice A80 A80l A80c) ∧
  ∃ n81, ∃ s82, V.cellsC (fun a_ x_ => World.cell? w21 a_ = some x_) ⟨vb, 0, none⟩ [(Value.int .i64 n81), (Value.string s82)] ∧
  V.when (decide ((0 : Int) ≤ slot_19 ∧ (slot_19 : Int) < ((A80l : Nat) : Int))) (V.ptr A80 fun a83 =>
  ∃ w84, Sem.run Tryd.prog (Instr.storeAt 94 (Value.pointer (some (Addr.add a83 ((Int.toNat slot_19) * 4)))) (Value.agg #[(Value.bool true), (Value.string name), (Value.int .i64 n81), (Value.string s82)])) (World.drew w21) = .ok () w84 ∧
  V.ptr (some (⟨p, 0, none⟩ : Addr)) fun a85 =>
  ∃ m86, World.cell? w84 (Addr.add a85 1) = some (Value.map m86) ∧
  ∃ w87, Sem.run Tryd.prog (Instr.mapUpdate 81 (Value.map m86) (Value.string name) (Value.int .i64 slot_19)) w84 = .ok () w87 ∧
  V.ptr (some (⟨p, 0, none⟩ : Addr)) fun a88 =>
  ∃ w89, Sem.run Tryd.prog (Instr.storeAt 3 (Value.pointer (some (Addr.add a88 3))) (Value.int .i64 (IntKind.wrap .i64 (slot_19 + 1)))) w87 = .ok () w89 ∧
  R (Ending.returned (Value.tuple #[(Value.int .i64 slot_19), (Value.int .i64 0)])) w89))))))) := by
  refine look_c h name ⟨_, _, rfl, ?_⟩
  have same : ∀ x w', putV s name v = (s, 0, x) → Ext [] w w' → R (.returned (.tuple #[.int .i64 0, .int .i64 x])) w' := fun x w' hv e => by
    have := k w' f
    rw [hv] at this
    exact this (h.ext0 e) (Ext.up e) (Grow.refl _ _)
  refine sel_intro (fun e => same 52 w (by unfold putV; rw [if_pos (eq_of_beq e)]) (Ext.refl _ _)) (fun e => ?_)
  have e0 : (lookV s name).2 ≠ 0 := fun x => by rw [x] at e; cases e
  refine sel_intro (fun e5 => ?_) (fun e5 => ?_)
  · have e5 : (lookV s name).2 ≠ 54 := by simpa using e5
    exact same _ w (by unfold putV; rw [if_neg e0, if_pos e5]) (Ext.refl _ _)
  have e5 : (lookV s name).2 = 54 := by simpa using e5
  obtain ⟨hgood, hnone⟩ := look54 e0 e5
  obtain ⟨r, A, n, c, q, inv, rfl⟩ := h
  have hl := q.own.len
  have hrows := inv.len
  have htop := inv.top
  have d : Ext [] w w.drew := (Ext.refl [] w).drew
  have qd := q.ext d (by simp)
  have bvd := bv.ext0 d
  refine ptr_in ⟨_, cadd q.hdr rfl, _, len_map (P := Tryd.prog) u28 qd.mp, ptr_in ⟨_, cadd q.hdr rfl, sel_dec (fun hf => same 53 _ (by unfold putV; rw [if_neg e0, if_neg (by simp [e5]), if_pos (by omega)]) d) (fun hf => ?_)⟩⟩
  have hv : putV s name v = (⟨s.most, putRows s.rows (freeAt s.rows) ⟨true, name, v⟩, mput s.m name (freeAt s.rows : Int), freeAt s.rows + 1⟩, (freeAt s.rows : Int), 0) := by
    unfold putV; rw [if_neg e0, if_neg (by simp [e5]), if_neg (by omega)]
  rw [hv] at k
  have hrF := q.hr
  simp only [List.mem_cons, not_or] at hrF
  have hlt := q.lt
  have hlow : s.low ≤ n := by
    rcases Nat.lt_or_ge n s.low with h' | h'
    · obtain ⟨x, hx, _⟩ := inv.low n h'
      have := (List.getElem?_eq_some_iff.1 hx).1; omega
    · exact h'
  refine ptr_in ⟨_, cadd qd.hdr rfl, fun t w' => ∃ a : Nat, t = a ∧ a ≤ n ∧ w' = w.drew ∧ ∀ i, i < a → ∃ x, s.rows[i]? = some x ∧ x.held = true, fun t _ => n - t.toNat, ⟨s.low, rfl, hlow, rfl, inv.low⟩, ?_⟩
  rintro _ _ _ ⟨a, rfl, ha, rfl, hlo⟩
  -- the name and the next low
  have tail : ∀ (w1 : World) (A1 : Option Addr) (n1 c1 : Nat), freeAt s.rows = a → BlkT w1 p [.int .i64 (s.most : Int), .map (some r), .slice A1 n1 c1, .int .i64 (s.low : Int)] 89 → OwnL RL w1 B 94 A1 n1 c1 (putRows s.rows a ⟨true, name, v⟩) → MapAt w1 r Value.string ki s.m → Ext (p :: r :: ownF A) w w1 → (ownF A1 = ownF A ∨ ∃ g, ownF A1 = [g] ∧ w.heap.size ≤ g) →
      TInv s.most (putRows s.rows a ⟨true, name, v⟩) (mput s.m name (a : Int)) (a + 1) →
      V.ptr (some ⟨p, 0, none⟩) fun a39 =>
      ∃ m40, World.cell? w1 (Addr.add a39 1) = some (Value.map m40) ∧
      ∃ w41, Sem.run Tryd.prog (Instr.mapUpdate 81 (Value.map m40) (Value.string name) (Value.int .i64 (a : Int))) w1 = .ok () w41 ∧
      V.ptr (some ⟨p, 0, none⟩) fun a42 =>
      ∃ w43, Sem.run Tryd.prog (Instr.storeAt 3 (Value.pointer (some (Addr.add a42 3))) (Value.int .i64 (IntKind.wrap .i64 ((a : Int) + 1)))) w41 = .ok () w43 ∧
      R (Ending.returned (Value.tuple #[(Value.int .i64 (a : Int)), (Value.int .i64 0)])) w43 := fun w1 A1 n1 c1 hfr hd own mp e hA inv1 => by
    have hA1 : p ∉ ownF A1 ∧ r ∉ ownF A1 := by
      rcases hA with hA | ⟨g, hA, hg⟩
      · rw [hA]; exact ⟨q.hp, hrF.2⟩
      · rw [hA]
        have h1 := hlt p (by simp)
        have h2 := hlt r (by simp)
        simp
        omega
    obtain ⟨w2, hr2, mp2, e2⟩ := store_map (P := Tryd.prog) kS u28 mp name (a : Int)
    have hd2 := hd.ext e2 (by simp; exact fun e => hrF.1 e.symm)
    obtain ⟨w3, hr3, hd3, e3⟩ := store1a (P := Tryd.prog) (t := 3) (v := .int .i64 ((a + 1 : Nat) : Int)) i3s hd2 (i := 3) (by simp) rfl rfl
    rw [up64 a (by omega)]
    rw [hfr] at k
    refine ptr_in ⟨_, cadd hd rfl, w2, hr2, ptr_in ⟨w3, hr3, k w3 (p :: r :: ownF A1) ⟨r, A1, n1, c1, ⟨hd3, (own.ext e2 (fun b hb => by simp; exact fun e => hA1.2 (e ▸ hb))).ext e3 (fun b hb => by simp; exact fun e => hA1.1 (e ▸ hb)), mp2.ext e3 (by simp; exact hrF.1), hA1.1, by simp only [List.mem_cons, not_or]; exact ⟨hrF.1, hA1.2⟩, Nat.le_trans q.hB (Nat.le_trans e.size (Nat.le_trans e2.size e3.size))⟩, inv1, rfl⟩ ?_ ?_⟩⟩
    · exact (e.trans (e2.weaken (fun b hb => .inl (by simp at hb; simp [hb])))).trans (e3.weaken (fun b hb => .inl (by simp at hb; simp [hb])))
    · intro b hb
      simp only [List.mem_cons] at hb
      rcases hb with rfl | rfl | hb
      · exact .inl (by simp)
      · exact .inl (by simp)
      · rcases hA with hA | ⟨g, hA, hg⟩
        · rw [hA] at hb; exact .inl (by simp [hb])
        · rw [hA] at hb; simp at hb; subst hb; exact .inr hg
  refine ptr_in ⟨_, _, _, cadd qd.hdr rfl, sel_dec (fun hlt1 => ?_) (fun hge => ?_)⟩
  · obtain ⟨x, ad, hx, hA, rx⟩ := qd.own.row (a := a) (by omega)
    subst hA
    refine ptr_in ⟨_, _, _, cadd qd.hdr rfl, when_dec ⟨by omega, by omega⟩ (ptr_in ⟨_, rx 0 _ rfl, sel_intro (fun hh => ?_) (fun hh => ?_)⟩)⟩
    · rw [up64 a (by omega)]
      refine ⟨⟨a + 1, rfl, by omega, rfl, fun i hi => ?_⟩, by simp only [Int.toNat_natCast]; omega⟩
      by_cases e : i = a
      · subst e; exact ⟨x, hx, hh⟩
      · exact hlo i (by omega)
    · have hfr := freeAt_of hlo (.inr ⟨x, hx, hh⟩)
      have hpr : putRows s.rows a ⟨true, name, v⟩ = s.rows.set a ⟨true, name, v⟩ := by unfold putRows; rw [if_neg (by omega)]
      have dd : Ext [] w.drew w.drew.drew := (Ext.refl _ _).drew
      have qe := qd.ext dd (by simp)
      obtain ⟨g, w1, hg, hr1, own1, e1⟩ := qe.own.set (P := Tryd.prog) i81s (i := a) (by omega) ⟨true, name, v⟩
      cases hg
      have hr1' : Sem.run Tryd.prog (Instr.storeAt 94 (.pointer (some (Addr.add ⟨g, 0, none⟩ (Int.toNat (a : Int) * 4)))) (.agg #[.bool true, .string name, .int .i64 v, .string (nt v)])) w.drew.drew = .ok () w1 := by rw [Int.toNat_natCast]; exact hr1
      refine ptr_in ⟨_, _, _, cadd qd.hdr rfl, sel_false (by simp; omega) (ptr_in ⟨_, _, _, cadd qd.hdr rfl, _, _, cadd0 bvd, when_dec ⟨by omega, by omega⟩ (ptr_in ⟨w1, hr1', ?_⟩)⟩)⟩
      exact tail w1 _ n c hfr (qe.hdr.ext e1 q.hp) (by rw [hpr]; exact own1) (qe.mp.ext e1 hrF.2) (((Ext.up d).trans (Ext.up dd)).trans (e1.weaken (fun b hb => .inl (by simp [hb])))) (.inl rfl) (inv.put q.mp.nodup (by omega) hlo (.inr ⟨x, hx, hh⟩) hnone hgood (by omega) v)
  · have han : a = n := by omega
    subst han
    have hfr := freeAt_of hlo (.inl hl.symm)
    have hpr : putRows s.rows a ⟨true, name, v⟩ = (s.rows ++ [Rw.zero]).set a ⟨true, name, v⟩ := by
      unfold putRows
      rw [if_pos hl.symm, List.set_append_right _ _ (by omega), hl, Nat.sub_self]
      rfl
    refine ptr_in ⟨_, _, _, cadd qd.hdr rfl, sel_intro (fun _ => ?_) (fun hno => by simp at hno)⟩
    refine ptr_in ⟨_, _, _, cadd qd.hdr rfl, fun w1 h1 => ?_⟩
    obtain ⟨b1, x1, z1⟩ := box_new (cs := (cells Rw.zero)) h1
    obtain ⟨A2, c2, w2, hr2, own2, e2, hat2⟩ := (qd.own.ext0 x1).more (P := Tryd.prog) (ty := 87) (x := Rw.zero) u77 i81 rfl (by omega) b1 (Nat.le_trans qd.hB x1.size) (by omega)
    have hp1 := qd.hdr.ext x1 (by simp)
    have hp2 := hp1.ext e2 q.hp
    obtain ⟨w3, hr3, hp3, e3⟩ := store1a (P := Tryd.prog) (v := .slice A2 (a + 1) c2) i77s hp2 (i := 2) (by simp) rfl rfl
    have hdl := d.size
    have hpl := hlt p (by simp)
    have hrl := hlt r (by simp)
    have hA2 : ownF A2 = ownF A ∨ ∃ g, ownF A2 = [g] ∧ w.heap.size ≤ g := by
      rcases hat2 with e | e
      · exact .inl e
      · exact .inr ⟨_, e, Nat.le_trans hdl x1.size⟩
    have hpA2 : p ∉ ownF A2 := by
      rcases hA2 with e | ⟨g, e, hg⟩
      · rw [e]; exact q.hp
      · rw [e]; simp; omega
    have hrA2 : r ∉ ownF A2 := by
      rcases hA2 with e | ⟨g, e, hg⟩
      · rw [e]; exact hrF.2
      · rw [e]; simp; omega
    have own3 := own2.ext e3 (fun b hb => by simp; exact fun e => hpA2 (e ▸ hb))
    have d3 : Ext [] w3 w3.drew := (Ext.refl _ _).drew
    have own3d := own3.ext0 d3
    obtain ⟨g, w4, hg, hr4, own4, e4⟩ := own3d.set (P := Tryd.prog) i81s (i := a) (by omega) ⟨true, name, v⟩
    subst hg
    have hr4' : Sem.run Tryd.prog (Instr.storeAt 94 (.pointer (some (Addr.add ⟨g, 0, none⟩ (Int.toNat (a : Int) * 4)))) (.agg #[.bool true, .string name, .int .i64 v, .string (nt v)])) w3.drew = .ok () w4 := by rw [Int.toNat_natCast]; exact hr4
    have bv3 := ((bvd.ext0 x1).ext e2 (fun hm => hvb (by simp [hm]))).ext e3 (by simp; exact fun e => hvb (by simp [e]))
    refine ⟨_, _, _, _, hr2, ptr_in ⟨w3, hr3, ptr_in ⟨_, _, _, cadd hp3 rfl, _, _, cadd0 bv3, when_dec ⟨by omega, by omega⟩ (ptr_in ⟨w4, hr4', ?_⟩)⟩⟩⟩
    have nf : ∀ b ∈ ownF (some ⟨g, 0, none⟩), b ∈ p :: r :: ownF A ∨ w.heap.size ≤ b := fun b hb => by
      rcases hA2 with e | ⟨g', e, hg'⟩
      · rw [e] at hb; exact .inl (by simp [hb])
      · rw [e] at hb; simp at hb; exact .inr (by omega)
    have ee : Ext (p :: r :: ownF A) w w4 := ((((Ext.up d).then x1).trans' e2 (fun b hb => .inl (by simp [hb]))).trans' e3 (fun b hb => .inl (by simp at hb; simp [hb]))).drew.trans' e4 nf
    refine tail w4 _ (a + 1) c2 hfr ((hp3.ext0 d3).ext e4 hpA2) (by rw [hpr]; exact own4) (((((qd.mp.ext x1 (by simp)).ext e2 hrF.2).ext e3 (by simp; exact hrF.1)).ext0 d3).ext e4 hrA2) ee hA2 (inv.put q.mp.nodup (by omega) hlo (.inl hl.symm) hnone hgood (by omega) v)
theorem Put_c {w : World} {B p : Nat} {f : List Nat} {s : TS} (h : At w B p f s) (name : ByteArray) (v : Int) {R : Ending → World → Prop}
    (k : ∀ w' f', At w' B p f' (putV s name v).1 → Ext f w w' → Grow w f f' → R (.returned (.tuple #[.int .i64 (putV s name v).2.1, .int .i64 (putV s name v).2.2])) w') :
    Calls Tryd.prog 16 #[.pointer (some ⟨p, 0, none⟩), .string name, .agg #[.int .i64 v, .string (nt v)]] w R := by
  apply slots_Table_berthlaw05_Thing__Put_nf
  intro w5 h5
  obtain ⟨bv, xv, zv⟩ := box_new (cs := [.int .i64 v, .string (nt v)]) h5
  have sv := xv.size
  exact Put_in (h.ext0 xv) name v bv (fun hm => by have := h.lt _ hm; omega) fun w' f' a e g => k w' f' a ((Ext.up xv).trans e) (fun b hb => (g b hb).imp id fun h => by omega)

theorem Drop_c {w : World} {B p : Nat} {f : List Nat} {s : TS} (h : At w B p f s) (name : ByteArray) {R : Ending → World → Prop}
    (k : ∀ w', At w' B p f (dropV s name).1 → Ext f w w' → R (.returned (.tuple #[.int .i64 (dropV s name).2.1, .int .i64 (dropV s name).2.2])) w') :
    Calls Tryd.prog 22 #[.pointer (some ⟨p, 0, none⟩), .string name] w R := by
  apply slots_Table_berthlaw05_Thing__Drop_nf
  simp only [Nat.sub_zero, cut0]
  refine look_c h name ⟨_, _, rfl, ?_⟩
  by_cases e0 : (lookV s name).2 = 0
  rotate_left
  · have hv : dropV s name = (s, 0, (lookV s name).2) := by unfold dropV; rw [if_pos e0]
    rw [hv] at k
    exact sel_true (by simpa using e0) (k w h (Ext.refl _ _))
  obtain ⟨i, x, hx, hh, hname, e1, hg⟩ := lookV_ok h e0
  obtain ⟨r, A, n, c, q, inv, rfl⟩ := h
  have hl := q.own.len
  have hil := (List.getElem?_eq_some_iff.1 hx).1
  have hrows := inv.len
  have htop := inv.top
  have hv : dropV s name = (⟨s.most, trimT (s.rows.set i Rw.zero), mdel s.m name, if (i : Int) < s.low then i else s.low⟩, (i : Int), 0) := by
    unfold dropV; rw [if_neg (by simp [e0]), e1, Int.toNat_natCast]
  rw [hv] at k
  rw [e0, e1]
  have hrF := q.hr
  simp only [List.mem_cons, not_or] at hrF
  have hlt := q.lt
  subst hname
  obtain ⟨w1, hr1, mp1, x1⟩ := drop_map (P := Tryd.prog) (ty := 0) (tk := 9) kS u28 q.mp x.name
  have hd1 := q.hdr.ext x1 (by simp; exact fun e => hrF.1 e.symm)
  have own1 := q.own.ext x1 (fun b hb => by simp; exact fun e => hrF.2 (e ▸ hb))
  obtain ⟨g, w2, rfl, hr2, own2, x2⟩ := own1.set (P := Tryd.prog) i81s (i := i) (by omega) Rw.zero
  have hr2' : Sem.run Tryd.prog (Instr.storeAt 94 (.pointer (some (Addr.add ⟨g, 0, none⟩ (Int.toNat (i : Int) * 4)))) (.agg #[.bool false, .string ByteArray.empty, .int .i64 0, .string ByteArray.empty])) w1 = .ok () w2 := by rw [Int.toNat_natCast]; exact hr2
  have hd2 := hd1.ext x2 q.hp
  have mp2 := mp1.ext x2 hrF.2
  obtain ⟨rows1, hrows1⟩ : ∃ rows1, rows1 = s.rows.set i Rw.zero := ⟨_, rfl⟩
  rw [← hrows1] at own2 k
  have hl1 : rows1.length = n := by rw [hrows1, List.length_set]; exact hl
  refine sel_false rfl (ptr_in ⟨_, cadd q.hdr rfl, w1, hr1, ptr_in ⟨_, _, _, cadd hd1 rfl, when_dec ⟨by omega, by omega⟩ (ptr_in ⟨w2, hr2', ?_⟩)⟩⟩)
  have xe : Ext (p :: r :: ownF (some ⟨g, 0, none⟩)) w w2 := (x1.weaken (fun b hb => .inl (by simp at hb; simp [hb]))).trans (x2.weaken (fun b hb => .inl (by simp [hb])))
  refine ⟨fun w' => ∃ n' : Nat, n' ≤ n ∧ BlkT w' p [.int .i64 (s.most : Int), .map (some r), .slice (some ⟨g, 0, none⟩) n' c, .int .i64 (s.low : Int)] 89 ∧ OwnL RL w' B 94 (some ⟨g, 0, none⟩) n' c (rows1.take n') ∧ MapAt w' r Value.string ki (mdel s.m x.name) ∧ Ext (p :: r :: ownF (some ⟨g, 0, none⟩)) w w' ∧ ∀ (j : Nat) (y : Rw), n' ≤ j → rows1[j]? = some y → y.held = false,
    fun w' => match w'.cell? ⟨p, 2, none⟩ with | some (.slice _ l _) => l | _ => 0, ⟨n, Nat.le_refl _, hd2, by rw [List.take_of_length_le (by omega)]; exact own2, mp2, xe, fun j y hj hy => by have := (List.getElem?_eq_some_iff.1 hy).1; omega⟩, ?_⟩
  rintro _ w3 ⟨n', hn', hd3, own3, mp3, x3, hoff⟩
  -- the low slot, and out
  have fin : (n' = 0 ∨ ∃ y, rows1[n' - 1]? = some y ∧ y.held = true) →
      V.ptr (some ⟨p, 0, none⟩) fun a32 =>
      ∃ n33, World.cell? (World.drew w3) (Addr.add a32 3) = some (Value.int .i64 n33) ∧
      V.ptr (some ⟨p, 0, none⟩) fun a34 =>
      ∃ w35, Sem.run Tryd.prog (Instr.storeAt 3 (Value.pointer (some (Addr.add a34 3))) (Value.int .i64 (if (i : Int) < n33 then (i : Int) else n33))) (World.drew w3) = .ok () w35 ∧
      R (Ending.returned (Value.tuple #[(Value.int .i64 (i : Int)), (Value.int .i64 0)])) w35 := fun hend => by
    have hsp : spanOf rows1 = n' := spanOf_eq hoff hend
    have d : Ext [] w3 w3.drew := (Ext.refl [] w3).drew
    have hd4 := hd3.ext d (by simp)
    obtain ⟨w5, hr5, hd5, x5⟩ := store1a (P := Tryd.prog) (t := 3) (v := .int .i64 ((if (i : Int) < s.low then i else s.low : Nat) : Int)) i3s hd4 (i := 3) (by simp) rfl rfl
    have hlo : (if (i : Int) < (s.low : Int) then (i : Int) else (s.low : Int)) = ((if (i : Int) < s.low then i else s.low : Nat) : Int) := by split <;> rfl
    refine ptr_in ⟨_, cadd hd4 rfl, ptr_in ?_⟩
    rw [hlo]
    refine ⟨w5, hr5, k w5 ⟨r, some ⟨g, 0, none⟩, n', c, ⟨hd5, ?_, (mp3.ext d (by simp)).ext x5 (by simp; exact hrF.1), q.hp, q.hr, Nat.le_trans q.hB (Nat.le_trans x3.size (Nat.le_trans d.size x5.size))⟩, ?_, rfl⟩ ?_⟩
    · show OwnL RL w5 B 94 (some ⟨g, 0, none⟩) n' c (trimT rows1)
      unfold trimT
      rw [hsp]
      exact (own3.ext0 d).ext x5 (fun b hb => by simp; exact fun e => q.hp (e ▸ hb))
    · show TInv s.most (trimT rows1) (mdel s.m x.name) _
      unfold trimT
      rw [hsp, hrows1]
      rw [hrows1] at hoff hend
      have hb : (if (i : Int) < (s.low : Int) then i else s.low) ≤ s.low ∧ (if (i : Int) < (s.low : Int) then i else s.low) ≤ i := by
        by_cases hc : (i : Int) < (s.low : Int)
        · rw [if_pos hc]; omega
        · rw [if_neg hc]; omega
      exact inv.drop q.mp.nodup hx hh (by omega) hoff hend hb.1 hb.2
    · exact (x3.drew).trans' x5 (fun b hb => .inl (by simp at hb; simp [hb]))
  refine ptr_in ⟨_, _, _, cadd hd3 rfl, sel_dec (fun hpos => ?_) (fun hz => fin (.inl (by omega)))⟩
  have hpos : 0 < n' := by omega
  have ei : IntKind.wrap .i64 ((n' : Int) - 1) = ((n' - 1 : Nat) : Int) := by rw [w64 (by omega) (by omega)]; omega
  obtain ⟨y, ad, hy, hA, ry⟩ := own3.row (a := n' - 1) (by omega)
  cases hA
  have hy' : rows1[n' - 1]? = some y := by rw [List.getElem?_take, if_pos (by omega)] at hy; exact hy
  refine ptr_in ⟨_, _, _, cadd hd3 rfl, ptr_in ⟨_, _, _, cadd hd3 rfl, ?_⟩⟩
  rw [ei]
  refine when_dec ⟨by omega, by omega⟩ (ptr_in ⟨_, ry 0 _ rfl, sel_intro (fun hnh => ?_) (fun hhd => fin (.inr ⟨y, hy', by simpa using hhd⟩))⟩)
  have d : Ext [] w3 w3.drew := (Ext.refl [] w3).drew
  have hd4 := hd3.ext d (by simp)
  have hcap := own3.cap
  refine ptr_in ⟨_, _, _, cadd hd4 rfl, ptr_in ⟨_, _, _, cadd hd4 rfl, ?_⟩⟩
  rw [ei]
  have d2 : Ext [] w3 w3.drew.drew := d.drew
  obtain ⟨w5, hr5, hd5, x5⟩ := store1a (P := Tryd.prog) (v := .slice (some ⟨g, 0, none⟩) (n' - 1) c) i77s (hd3.ext d2 (by simp)) (i := 2) (by simp) rfl rfl
  have own5 := ((own3.ext0 d2).ext x5 (fun b hb => by simp; exact fun e => q.hp (e ▸ hb))).take (n := n' - 1) (by omega) hpos
  rw [List.take_take, Nat.min_eq_left (by omega)] at own5
  refine when_dec ⟨by omega, by omega⟩ (ptr_in ⟨w5, hr5, ⟨n' - 1, by omega, hd5, own5, (mp3.ext d2 (by simp)).ext x5 (by simp; exact hrF.1), (x3.then d2).trans' x5 (fun b hb => .inl (by simp at hb; simp [hb])), fun j z hj hz => ?_⟩, ?_⟩)
  · by_cases e : j = n' - 1
    · subst e; rw [hy'] at hz; cases hz; simpa using hnh
    · exact hoff j z (by omega) hz
  · have h3 := hd3.cell (i := 2) rfl
    have h5 := hd5.cell (i := 2) rfl
    simp only [h3, h5]
    omega

theorem Span_c {w : World} {B p : Nat} {f : List Nat} {s : TS} (h : At w B p f s) {R : Ending → World → Prop} (k : R (.returned (.int .i64 (s.rows.length : Int))) w) : Calls Tryd.prog 44 #[.pointer (some ⟨p, 0, none⟩)] w R := by
  obtain ⟨r, A, n, c, q, i, rfl⟩ := h
  apply slots_Table_berthlaw05_Thing__Span_nf
  rw [q.own.len] at k
  exact sel_false rfl (ptr_in ⟨_, _, _, cadd q.hdr rfl, k⟩)

theorem At_c {w : World} {B p : Nat} {f : List Nat} {s : TS} (h : At w B p f s) (slot : Int) {R : Ending → World → Prop}
    (k : ∀ w', Ext [] w w' → R (.returned (.tuple #[.string (atV s slot).name, .agg #[.int .i64 (atV s slot).v, .string (tx (atV s slot))], .bool (atV s slot).held])) w') : Calls Tryd.prog 27 #[.pointer (some ⟨p, 0, none⟩), .int .i64 slot] w R := by
  apply slots_Table_berthlaw05_Thing__At_nf
  intro w3 h3
  obtain ⟨b3, x3, z3⟩ := box_new (cs := [.int .i64 0, .string ByteArray.empty]) h3
  have h1 := h.ext0 x3
  have k0 : atV s slot = Rw.zero → ∀ w', Ext [] w w' → R (.returned (.tuple #[.string ByteArray.empty, .agg #[.int .i64 0, .string ByteArray.empty], .bool false])) w' := fun e w' ex => by
    have := k w' ex
    rw [e] at this; exact this
  refine sel_dec (fun h0 => ?_) (fun h0 => Span_c h1 ⟨_, rfl, sel_dec (fun h2 => ?_) (fun h2 => ?_)⟩)
  · intro w4 h4
    obtain ⟨b4, x4, z4⟩ := box_new (cs := [.int .i64 0, .string ByteArray.empty]) h4
    have d : Ext [] w4 w4.drew := (Ext.refl _ _).drew
    obtain ⟨w13, hr13, b13, x13⟩ := storeW (P := Tryd.prog) (t := 39) (n := 2) (vs := [.int .i64 0, .string ByteArray.empty]) i39' ((b3.ext0 x4).ext0 d) rfl rfl (fun v hv => by simp at hv; rcases hv with rfl | rfl <;> rfl)
    refine ⟨fun w' => Ext [w.heap.size] w4 w', Ext.up d, _, _, cellsC_S (S := fun w' => Ext [w.heap.size] w4 w') (fun w' e => cadd0 (b4.ext e (by simp; omega))), w13, hr13, (Ext.up d).trans x13, _, _, cadd0 b13, ?_⟩
    exact k0 (by unfold atV; rw [if_pos h0]) w13 (((x3.trans x4).trans d).trans' x13 (fun b hb => .inr (by simp at hb; omega)))
  · intro w4 h4
    obtain ⟨b4, x4, z4⟩ := box_new (cs := [.int .i64 0, .string ByteArray.empty]) h4
    have d : Ext [] w4 w4.drew := (Ext.refl _ _).drew
    obtain ⟨w13, hr13, b13, x13⟩ := storeW (P := Tryd.prog) (t := 39) (n := 2) (vs := [.int .i64 0, .string ByteArray.empty]) i39' ((b3.ext0 x4).ext0 d) rfl rfl (fun v hv => by simp at hv; rcases hv with rfl | rfl <;> rfl)
    refine ⟨fun w' => Ext [w.heap.size] w4 w', Ext.up d, _, _, cellsC_S (S := fun w' => Ext [w.heap.size] w4 w') (fun w' e => cadd0 (b4.ext e (by simp; omega))), w13, hr13, (Ext.up d).trans x13, _, _, cadd0 b13, ?_⟩
    refine k0 ?_ w13 (((x3.trans x4).trans d).trans' x13 (fun b hb => .inr (by simp at hb; omega)))
    unfold atV
    rw [if_neg h0, List.getD_eq_getElem?_getD, List.getElem?_eq_none (by omega)]
    rfl
  · obtain ⟨r, A, n, c, q, i, rfl⟩ := h1
    have hl := q.own.len
    obtain ⟨a, rfl⟩ : ∃ a : Nat, slot = a := ⟨slot.toNat, by omega⟩
    obtain ⟨x, ad, hx, rfl, rd⟩ := q.own.row (a := a) (by omega)
    refine ptr_in ⟨_, _, _, cadd q.hdr rfl, when_dec ⟨by omega, by omega⟩ (ptr_in ⟨_, _, _, _, rd, fun w1 h1 => ?_⟩)⟩
    obtain ⟨b1, x1, z1⟩ := box_new (cs := (cells Rw.zero)) h1
    obtain ⟨w2, hr2, b2, x2⟩ := storeW (P := Tryd.prog) (t := 94) (n := 4) (vs := (cells x)) i81s b1 rfl rfl (RL.one x)
    have e2 : Ext [] w w2 := (x3.trans x1).trans' x2 (fun b hb => .inr (by simp at hb; omega))
    have hat : atV s (a : Int) = x := by
      unfold atV
      rw [if_neg (by omega), Int.toNat_natCast, List.getD_eq_getElem?_getD, hx]
      rfl
    have d : Ext [] w2 w2.drew := (Ext.refl _ _).drew
    have s1 := x1.size
    have b3' := ((b3.ext0 x1).ext x2 (by simp; omega)).ext0 d
    obtain ⟨w38, hr38, b38, x38⟩ := storeW (P := Tryd.prog) (t := 39) (n := 2) (vs := [.int .i64 x.v, .string (tx x)]) i39' b3' rfl rfl (fun v hv => by simp at hv; rcases hv with rfl | rfl <;> rfl)
    have bx : ∀ w', Ext [w.heap.size] w2 w' → BlkT w' w3.heap.size (cells x) 94 := fun w' e => b2.ext e (by simp; omega)
    have := k w38 ((e2.trans d).trans' x38 (fun b hb => .inr (by simp at hb; omega)))
    rw [hat] at this
    refine ⟨w2, hr2, fun w' => Ext [w.heap.size] w2 w', Ext.up d, _, fun w' e => cadd (bx w' e) (i := 1) rfl, _, _, cellsC_S (S := fun w' => Ext [w.heap.size] w2 w') (fun w' e => ?_), _, fun w' e => cadd (bx w' e) (i := 0) rfl, w38, hr38, (Ext.up d).trans x38, _, _, cadd0 b38, this⟩
    have h5 : cellsC (fun a v => w'.cell? a = some v) ⟨w3.heap.size, 0, none⟩ (cells x) := cadd0 (bx w' e)
    exact cells_drop' h5 2

theorem Clone_c {w : World} {A : Option Addr} {n c : Nat} {xs : List Rw} (hx : Cells w A (RL.flat xs)) (hn : xs.length = n) (h0 : A = none → n = 0) (hb : n ≤ 65536) {R : Ending → World → Prop}
    (k : ∀ A' c' w', Ext [] w w' → OwnL RL w' w.heap.size 94 A' n c' xs → R (.returned (.slice A' n c')) w') : Calls Tryd.prog 60 #[.slice A n c] w R := by
  apply slices_Clone___slots_row_berthlaw05_Thing__slots_row_berthlaw05_Thing___nf
  refine sel_intro (fun hA => ?_) (fun hA => fun w1 h1 => ?_)
  · have hA : A = none := by cases A <;> simp at hA ⊢
    have := h0 hA
    subst this
    have hxs := List.eq_nil_of_length_eq_zero hn
    subst hxs
    exact k none 0 w (Ext.refl _ _) (OwnL.nil _ _ _)
  · obtain ⟨A', c', w2, hr, own, e⟩ := copyL (P := Tryd.prog) (ty := 87) u77 i81 rfl (by omega) hx hn h1 (by omega) c
    exact ⟨_, _, _, _, hr, k A' c' w2 e own⟩

theorem All_c {w : World} {B p : Nat} {f : List Nat} {s : TS} (h : At w B p f s) {R : Ending → World → Prop}
    (k : ∀ b A' c' w', Ext [] w w' → w.heap.size ≤ b → BlkT w' b [.slice A' s.rows.length c'] 87 → OwnL RL w' w.heap.size 94 A' s.rows.length c' s.rows → b ∉ ownF A' → R (.returned (.func (.func 61) #[] #[.pointer (some ⟨b, 0, none⟩)])) w') :
    Calls Tryd.prog 46 #[.pointer (some ⟨p, 0, none⟩)] w R := by
  obtain ⟨r, A, n, c, q, i, rfl⟩ := h
  apply slots_Table_berthlaw05_Thing__All_nf
  intro w1 h1
  obtain ⟨b1, x1, z1⟩ := box_new (cs := [.slice none 0 0]) h1
  have q1 := q.ext x1 (by simp)
  have hl := q.own.len
  have hlen := i.len
  have htop := i.top
  refine sel_true rfl (ptr_in ⟨_, _, _, cadd q1.hdr rfl, ?_⟩)
  refine Clone_c q1.own.cells hl (fun e => by
    subst e
    rcases q.own.2 with ⟨_, h⟩ | ⟨g, cap, cur, hv, _⟩
    · exact h
    · cases hv) (by omega) fun A' c' w2 e2 own2 => ⟨_, _, _, rfl, ?_⟩
  obtain ⟨w3, hr3, b3, e3⟩ := store1 (P := Tryd.prog) (v := .slice A' n c') i77s (b1.ext e2 (by simp)) (i := 0) (by simp) rfl rfl
  have hb2 := own2.base
  refine ⟨w3, hr3, ?_⟩
  rw [hl] at k
  exact k w.heap.size A' c' w3 ((x1.trans e2).trans' e3 (fun b hb => .inr (by simp at hb; omega))) (Nat.le_refl _) b3 ((own2.ext e3 (fun b hb => by simp; have := (hb2 b hb).1; omega)).weaken (by omega)) (fun hm => by have := (hb2 _ hm).1; omega)

theorem walk_c {w : World} {b n c : Nat} {A : Option Addr} {xs : List Rw} {yl : Nat} (hn : xs.length = n) (hb : n ≤ 65536) {J : Nat → World → Prop} {Q : World → Prop} {R : Ending → World → Prop} (blk : BlkT w b [.slice A n c] 87)
    (j0 : J 0 w) (stable : ∀ a w1 w2, Ext [] w1 w2 → J a w1 → J a w2) (rows : ∀ a w1, J a w1 → Cells w1 A (RL.flat xs))
    (skip : ∀ a x w1, xs[a]? = some x → x.held = false → J a w1 → J (a + 1) w1)
    (yields : ∀ a x w1, xs[a]? = some x → x.held = true → J a w1 → ∀ R' : Ending → World → Prop, (∀ w2, J (a + 1) w2 → R' (.returned (.bool true)) w2) → (∀ w2, Q w2 → R' (.returned (.bool false)) w2) → V.Yield Tryd.prog yl [.int .i64 (a : Int), .string x.name] w1 R')
    (kj : ∀ w1, J n w1 → R (.returned undef) w1) (kq : ∀ w1, Q w1 → R (.returned undef) w1) :
    Calls Tryd.prog 61 #[.func (.yield yl) #[] #[], .pointer (some ⟨b, 0, none⟩)] w R := by
  apply slots_Table_berthlaw05_Thing__All_l1_nf
  refine ptr_in ⟨_, _, _, blk.cell (i := 0) rfl, fun t w' => ∃ a : Nat, t = a ∧ a ≤ n ∧ J a w', fun t _ => n - t.toNat, ⟨0, rfl, by omega, j0⟩, ?_⟩
  rintro _ _ w1 ⟨a, rfl, ha, j1⟩
  have fin : ∀ w2, J (a + 1) w2 → a < n → (∃ a' : Nat, IntKind.wrap .i64 ((a : Int) + 1) = a' ∧ a' ≤ n ∧ J a' w2) ∧ n - (IntKind.wrap .i64 ((a : Int) + 1)).toNat < n - (a : Int).toNat := fun w2 j2 hlt => by
    rw [up64 a (by omega)]
    exact ⟨⟨a + 1, rfl, by omega, j2⟩, by simp only [Int.toNat_natCast]; omega⟩
  refine sel_dec (fun hlt => ?_) (fun hge => ?_)
  · have hlt : a < n := by omega
    obtain ⟨x, ad, hx, rfl, rd⟩ := (rows a w1 j1).row hn hlt
    refine when_dec ⟨by omega, by omega⟩ (ptr_in ⟨_, _, _, _, rd, fun w2 h2 => ?_⟩)
    obtain ⟨b2, x2, z2⟩ := box_new (cs := (cells Rw.zero)) h2
    obtain ⟨w3, hr3, b3, x3⟩ := storeW (P := Tryd.prog) (t := 94) (n := 4) (vs := (cells x)) i81s b2 rfl rfl (RL.one x)
    have e3 : Ext [] w1 w3 := x2.trans' x3 (fun b hb => .inr (by simp at hb; omega))
    have j3 := stable a w1 w3 e3 j1
    refine ⟨w3, hr3, _, cadd b3 rfl, sel_intro (fun hh => ?_) (fun hh => fin w3 (skip a x w3 hx hh j3) hlt)⟩
    exact ⟨_, cadd b3 rfl, yields a x w3 hx hh j3 _ (fun w4 j4 => ⟨_, rfl, sel_false rfl (fin w4 j4 hlt)⟩) (fun w4 q4 => ⟨_, rfl, sel_true rfl (kq w4 q4)⟩)⟩
  · have : a = n := by omega
    subst this
    exact kj w1 j1

theorem All_iter {b n c : Nat} {A : Option Addr} {xs : List Rw} (hn : xs.length = n) (hb : n ≤ 65536) :
    Iter Tryd.prog Pr.out 61 [.pointer (some ⟨b, 0, none⟩)] (prs xs) (fun w => BlkT w b [.slice A n c] 87 ∧ Cells w A (RL.flat xs)) := by
  intro yl w J Q R j0 st hK hy k1 k2
  refine walk_c (A := A) (c := c) (xs := xs) (J := fun a w1 => J (prs (xs.take a)) w1) (Q := Q) hn hb (hK _ _ j0).1 j0 (fun a w1 w2 e h => st _ _ _ e h) (fun a w1 h => (hK _ _ h).2) ?_ ?_ ?_ (fun w1 h => k2 w1 h)
  · intro a x w1 hx hh h
    rw [prs_step hx, hh]
    simpa using h
  · intro a x w1 hx hh h R' q1 q2
    refine hy _ ⟨(a : Int), x.name⟩ _ w1 (prs_split hx hh) h R' (fun w2 h2 => q1 w2 ?_) q2
    rw [prs_step hx, hh]
    simpa using h2
  · intro w1 h
    rw [List.take_of_length_le (by omega)] at h
    exact k1 w1 h

theorem At.len {w : World} {B p : Nat} {f : List Nat} {s : TS} (h : At w B p f s) : s.rows.length ≤ 65536 := by
  have := (At.inv h).len
  have := (At.inv h).top
  omega
theorem At.cnt {w : World} {B p : Nat} {f : List Nat} {s : TS} (h : At w B p f s) : s.m.length = s.rows.countP (·.held) := (At.inv h).cnt
theorem At.weaken {w : World} {B B' p : Nat} {f : List Nat} {s : TS} (h : At w B p f s) (hB : B' ≤ B) : At w B' p f s := by
  obtain ⟨r, A, n, c, q, i, rfl⟩ := h
  exact ⟨r, A, n, c, ⟨q.hdr, q.own.weaken hB, q.mp, q.hp, q.hr, Nat.le_trans hB q.hB⟩, i, rfl⟩
theorem Tb_All {w : World} {B p : Nat} {f : List Nat} {s : TS} (h : At w B p f s) {R : Ending → World → Prop}
    (k : ∀ b A' c' w', Ext [] w w' → w.heap.size ≤ b → b < w'.heap.size → BlkT w' b [.slice A' s.rows.length c'] 87 → Cells w' A' (RL.flat s.rows) → (∀ g ∈ ownF A', w.heap.size ≤ g ∧ g < w'.heap.size) → R (.returned (.func (.func 61) #[] #[.pointer (some ⟨b, 0, none⟩)])) w') :
    Calls Tryd.prog 46 #[.pointer (some ⟨p, 0, none⟩)] w R := All_c h fun b A' c' w' e hb h1 own _ => k b A' c' w' e hb h1.lt h1 own.cells own.base

set_option maxRecDepth 4000 in
theorem Names_c {w : World} {B p : Nat} {f : List Nat} {s : TS} (h : At w B p f s) {R : Ending → World → Prop}
    (k : ∀ A n c w', Ext [] w w' → OwnL SL w' w.heap.size 9 A n c (srt (names s.rows)) → R (.returned (.slice A n c)) w') : Calls Tryd.prog 30 #[.pointer (some ⟨p, 0, none⟩)] w R := by
  have hlen := (At.len h)
  have hcnt := (At.cnt h)
  have hle : s.m.length ≤ 65536 := by
    have : s.rows.countP (·.held) ≤ s.rows.length := List.countP_le_length
    omega
  apply slots_Table_berthlaw05_Thing__Names_nf
  refine Len_c h ⟨_, rfl, when_dec ⟨by omega, by omega, by omega, by omega⟩ fun w5 h5 w6 h6 => ?_⟩
  obtain ⟨b5, x5, z5⟩ := box_new (cs := V.rep (Int.toNat (s.m.length : Int)) [.string ByteArray.empty]) h5
  obtain ⟨b6, x6, z6⟩ := box_new (cs := [.slice none 0 0]) h6
  obtain ⟨w7, hr7, b7, x7⟩ := store1 (P := Tryd.prog) (v := .slice (some ⟨w.heap.size, 0, none⟩) 0 (Int.toNat (s.m.length : Int))) i41s b6 (i := 0) (by simp) rfl rfl
  have e6 : Ext [] w w6 := x5.trans x6
  have e7 : Ext [] w w7 := e6.trans' x7 (fun b hb => .inr (by simp at hb; omega))
  have s7 := x7.size
  have b57 := (b5.ext0 x6).ext x7 (by simp; omega)
  have own7 : OwnL SL w7 w.heap.size 9 (some ⟨w.heap.size, 0, none⟩) 0 (Int.toNat (s.m.length : Int)) [] := by
    refine own_of b57 (Nat.le_refl _) (Nat.zero_le _) (by simp only [maxLen]; omega) ?_ (by simp [Lay.flat])
    simp [V.rep, SL]
  refine ⟨w7, hr7, Tb_All (h.ext0 e7) fun b A' c' w10 e10 hb hb10 bb cc hg => ⟨_, #[], _, rfl, V.when_intro (by kernel_rfl) fun Rc l w13 hl h13 hy => ?_⟩⟩
  obtain ⟨l0, m0, x13, z13⟩ := enter_new hl h13
  have s10 := e10.size
  have e13 : Ext [] w7 w13 := e10.trans x13
  refine (All_iter (A := A') (b := b) (c := c') (xs := s.rows) rfl hlen).range (I := fun ps w' => Ext [] w w' ∧ w13.heap.size ≤ w'.heap.size ∧ Mrk w' w10.heap.size ∧ (BlkT w' b [.slice A' s.rows.length c'] 87 ∧ Cells w' A' (RL.flat s.rows)) ∧ ∃ A n c, BlkT w' w5.heap.size [.slice A n c] 68 ∧ OwnL SL w' w.heap.size 9 A n c (ps.map (·.name)) ∧ A ≠ none ∧ ∀ g ∈ ownF A, g = w.heap.size ∨ w13.heap.size ≤ g)
    (Q := fun _ _ => False) (fun y W R' h1 h2 => hy y.slot y.name W R' h1 ⟨h1, h2⟩) l0 ⟨e7.trans e13, Nat.le_refl _, m0, ⟨bb.ext0 x13, cc.ext0 x13⟩, _, _, _, b7.ext0 e13, own7.ext0 e13, by simp, by simp [ownF]⟩ ?_ (fun _ _ _ _ h => h.elim) (fun ps w1 h => h.2.2.2.1) ?_ ?_ (fun _ _ _ h => h.elim)
  · rintro ps w1 w2 e ⟨q1, q2, q3, ⟨q4, q5⟩, A, n, c, q6, q7, q8, q9⟩
    refine ⟨q1.trans' e (fun b hb => .inr (by simp at hb; omega)), Nat.le_trans q2 e.size, q3.ext e (by simp; omega), ⟨q4.ext e (by simp; omega), q5.ext e (fun g hg' => by have := hg g hg'; simp; omega)⟩, A, n, c, q6.ext e (by simp; omega), q7.ext e (fun g hg' => by have := q9 g hg'; simp; omega), q8, q9⟩
  · rintro ps y rest W R' hsp hW hS ⟨q1, q2, q3, ⟨q4, q5⟩, A, n, c, q6, q7, q8, q9⟩ k1 k2
    refine ⟨A, n, c, q6.cell (i := 0) rfl, fun w19 h19 => ?_⟩
    obtain ⟨b19, x19, z19⟩ := box_new (cs := SL.enc y.name) h19
    have hn1 : n < 65536 := by
      have h1 := q7.len
      have h2 := split_len hsp
      have h3 := prs_len s.rows
      simp at h1; omega
    obtain ⟨A2, c2, w21, hr, own2, xx, hat⟩ := (q7.ext0 x19).more (P := Tryd.prog) (t := 68) (ty := 68) (x := y.name) u41 i9 rfl (by omega) b19 (by have := q1.size; omega) (by omega)
    have s21 := xx.size
    have hA : ∀ g ∈ ownF A, g ∉ [w5.heap.size] := fun g hg' => by have := q9 g hg'; simp; omega
    have b21 := (q6.ext0 x19).ext xx (fun hm => by have := q9 _ hm; omega)
    obtain ⟨w22, hr22, b22, x22⟩ := store1 (P := Tryd.prog) (v := .slice A2 (n + 1) c2) i41s b21 (i := 0) (by simp) rfl rfl
    have hA2 : ∀ g ∈ ownF A2, g = w.heap.size ∨ w13.heap.size ≤ g := fun g hg' => by
      rcases hat with h1 | h1
      · rw [h1] at hg'; exact q9 g hg'
      · rw [h1] at hg'; simp at hg'; omega
    have hl' : ∀ (b : Nat), b ≠ w.heap.size → b < w13.heap.size → b ∉ ownF A := fun b h1 h2 hm => by have := q9 b hm; omega
    refine ⟨A2, n + 1, c2, w21, hr, w22, hr22, ((LoopSt.ext hS x19 (by simp)).ext xx (hl' _ (by omega) (by omega))).ext x22 (by simp; omega), k1 w22 (((LoopSt.ext hS x19 (by simp)).ext xx (hl' _ (by omega) (by omega))).ext x22 (by simp; omega)) ⟨?_, ?_, ?_, ⟨?_, ?_⟩, A2, n + 1, c2, b22, ?_, ?_, hA2⟩⟩
    · exact ((q1.trans x19).trans' xx (fun b hb => .inr (by have := q9 b hb; omega))).trans' x22 (fun b hb => .inr (by simp at hb; omega))
    · have := x22.size; omega
    · exact ((q3.ext x19 (by simp)).ext xx (hl' _ (by omega) (by omega))).ext x22 (by simp; omega)
    · exact ((q4.ext0 x19).ext xx (hl' _ (by omega) (by omega))).ext x22 (by simp; omega)
    · exact ((q5.ext0 x19).ext xx (fun g hg' => hl' g (by have := hg g hg'; omega) (by have := hg g hg'; omega))).ext x22 (fun g hg' => by have := hg g hg'; simp; omega)
    · rw [List.map_append]
      exact own2.ext x22 (fun g hg' => by have := hA2 g hg'; simp; omega)
    · rintro rfl
      rcases hat with h1 | h1
      · cases A with
        | none => exact q8 rfl
        | some a => simp [ownF] at h1
      · simp [ownF] at h1
  · rintro w25 hl25 ⟨q1, q2, q3, ⟨q4, q5⟩, A, n, c, q6, q7, q8, q9⟩
    have x26 := setLoop_ext w25 l Rc .exhausted none
    have hlA : ∀ g ∈ ownF A, g ∉ [l] := fun g hg' => by have := q9 g hg'; simp; omega
    refine .inl ⟨hl25, A, n, c, (q6.ext x26 (by simp; omega)).cell (i := 0) rfl, sort_c (q7.ext x26 hlA) q8 ?_ fun w28 own x28 => ⟨rfl, A, n, c, ((q6.ext x26 (by simp; omega)).ext x28 (fun hm => by have := q9 _ hm; omega)).cell (i := 0) rfl, close_one (((q3.ext x26 (by simp; omega)).ext x28 (fun hm => by have := q9 _ hm; omega))) fun w30 x30 => k A n c w30 ?_ ?_⟩⟩
    · have h1 := q7.len
      have h3 := prs_len s.rows
      simp at h1; omega
    · exact ((q1.trans' x26 (fun b hb => .inr (by simp at hb; omega))).trans' x28 (fun b hb => .inr (by have := q9 b hb; omega))).trans' x30 (fun b hb => .inr (by simp at hb; omega))
    · exact own.ext x30 (fun g hg' => by have := q9 g hg'; simp; omega)
end Go.Proofs.YtcampkaenlohbaaDoor.KT
