/- The calls that change a queue. -/
import Derived.Test.YtfjgiaimlmnepaaQ4
set_option linter.unusedVariables false
set_option linter.unusedSimpArgs false
namespace Go.Proofs.Ytfjgiaimlmnepaa
open Go Go.V Go.B

def Wt.new (name : ByteArray) (pr seq : Int) : Wt := ⟨name, pr, seq, 0, 0, false⟩
theorem fresh_ne {n : Nat} {f : List Nat} (h : ∀ b ∈ f, b < n) : ∀ b ∈ f, b ≠ n := fun b hb e => by have := h b hb; omega
theorem Push_c {w : World} {B p : Nat} {f : List Nat} {xs : List Wt} {next : Nat} (h : QAt w B p f xs next) (name : ByteArray) (pr : Int) {R : Ending → World → Prop}
    (k1 : ∀ x ∈ xs, x.name = name → ∀ w', Ext [] w w' → R (.returned (.int .i64 250)) w')
    (k2 : (∀ x ∈ xs, x.name ≠ name) → 2048 ≤ xs.length → ∀ w', Ext [] w w' → R (.returned (.int .i64 251)) w')
    (k3 : (∀ x ∈ xs, x.name ≠ name) → xs.length < 2048 → 1099511627776 ≤ next → ∀ w', Ext [] w w' → R (.returned (.int .i64 253)) w')
    (k4 : (∀ x ∈ xs, x.name ≠ name) → xs.length < 2048 → next < 1099511627776 → ∀ w' f', QAt w' B p f' (ins xs (Wt.new name pr next)) (next + 1) → Ext f w w' → Grow w f f' → R (.returned (.int .i64 0)) w') :
    Calls Try.prog 14 #[.pointer (some ⟨p, 0, none⟩), .string name, .int .i64 pr] w R := by
  obtain ⟨r, A, n, c, m, q, i, rfl⟩ := h
  apply queue_Queue_Push_nf
  have hxl := own_len_xs q.own
  have hl := i.len
  have hnx := i.nx
  refine sel_false rfl (ptr_in ⟨_, cadd q.hdr rfl, ?_⟩)
  -- what is behind the look-up, either way
  have behind : ∀ (v : Wt) (b : Bool), (b = true → ∃ x ∈ xs, x.name = name) → (b = false → ∀ x ∈ xs, x.name ≠ name) → ∀ w1, w1 = w.alloc (.cells ⟨Wt.zero.cells⟩ 34) → ∃ w15, Sem.run Try.prog (Instr.storeAt 34 (.pointer (some ⟨w.heap.size, 0, none⟩)) (.agg ⟨v.cells⟩)) w1 = .ok () w15 ∧
      Ext [] w w15 := fun v b _ _ w1 h1 => by
    obtain ⟨b1, x1, z1⟩ := box_new (cs := Wt.zero.cells) h1
    obtain ⟨w2, hr2, b2, e2⟩ := storeW (P := Try.prog) (t := 34) (n := 6) (vs := v.cells) i34s b1 rfl rfl (WL.one v)
    exact ⟨w2, hr2, x1.trans' e2 (fun b hb => .inr (by simp at hb; omega))⟩
  cases hg : mget m name with
  | some x =>
    obtain ⟨hx1, hx2⟩ := (i.mp name x).1 hg
    refine ⟨_, _, _, _, _, _, _, _, (look_yes (P := Try.prog) kS u60 zW q.mp hg).2, ?_⟩
    intro w1 h1
    obtain ⟨w2, hr2, e2⟩ := behind x true (fun _ => ⟨x, hx1, hx2⟩) (fun h => by cases h) w1 h1
    exact ⟨_, hr2, sel_true rfl (k1 x hx1 hx2 _ e2)⟩
  | none =>
    have hno := i.no.1 hg
    refine ⟨_, _, _, _, _, _, _, _, (look_no (P := Try.prog) kS u60 zW q.mp hg).2, ?_⟩
    intro w1 h1
    obtain ⟨w2, hr2, e2⟩ := behind Wt.zero false (fun h => by cases h) (fun _ => hno) w1 h1
    have q2 := q.ext0 e2
    refine ⟨_, hr2, sel_false rfl (ptr_in ⟨_, _, _, cadd q2.hdr rfl, sel_dec (fun h2 => k2 hno (by omega) _ e2) (fun h2 => ?_)⟩)⟩
    refine ptr_in ⟨_, cadd q2.hdr rfl, sel_dec (fun h3 => k3 hno (by omega) (by omega) _ e2) (fun h3 => ?_)⟩
    refine ptr_in ⟨_, cadd q2.hdr rfl, put_c (x := Wt.new name pr next) q2 i.sorted (by omega) fun A' c' w3 q3 e3 hF => ⟨rfl, ptr_in ⟨_, cadd q3.hdr rfl, ptr_in ?_⟩⟩⟩
    rw [up64 next (by omega)]
    obtain ⟨w4, hr4, hdr4, e4⟩ := store1a (P := Try.prog) (t := 3) (v := .int .i64 ((next + 1 : Nat) : Int)) i3s q3.hdr (i := 2) (by simp) rfl rfl
    have hpF := q3.hp
    have hrF := q3.hr
    simp only [List.mem_cons, not_or] at hrF
    refine ⟨_, hr4, k4 hno (by omega) (by omega) w4 (p :: r :: ownF A') ⟨r, A', n + 1, c', _, ⟨hdr4, own_ext q3.own e4 (fun b hb => by simp; exact fun e => hpF (e ▸ hb)), q3.mp.ext e4 (by simp; exact hrF.1), hpF, q3.hr, Nat.le_trans q3.hB e4.size⟩,
      i.more (x := Wt.new name pr next) (by omega) hno (fun y hy => by have := i.seq y hy; show y.seq ≠ (next : Int); omega) ⟨by show (0 : Int) ≤ next; omega, by show (next : Int) < ((next + 1 : Nat) : Int); omega⟩ (by omega) (by omega) ⟨by show (0:Int) ≤ 0; omega, by show (0:Int) ≤ _; omega⟩ ⟨by show (0:Int) ≤ 0; omega, by show (0:Int) ≤ _; omega⟩, rfl⟩ ?_ ?_⟩
    · exact (Ext.trans' ((e2.weaken (fun _ h => by cases h)).trans e3) e4 (fun b hb => .inl (by simp at hb; simp [hb])))
    · intro b hb
      simp only [List.mem_cons] at hb
      rcases hb with rfl | rfl | hb
      · exact .inl (by simp)
      · exact .inl (by simp)
      · rcases hF with e | ⟨g, e, hg⟩
        · exact .inl (by rw [e] at hb; simp [hb])
        · right; rw [e] at hb; simp at hb; subst hb; exact Nat.le_trans e2.size hg
theorem Push_nil {name : ByteArray} {pr : Int} {w : World} {R : Ending → World → Prop} (k : R (.returned (.int .i64 1)) w) : Calls Try.prog 14 #[.pointer none, .string name, .int .i64 pr] w R := by
  apply queue_Queue_Push_nf
  exact sel_true rfl k
theorem Take_c {w : World} {B p : Nat} {f : List Nat} {xs : List Wt} {next : Nat} (h : QAt w B p f xs next) (name : ByteArray) {R : Ending → World → Prop}
    (k1 : (∀ x ∈ xs, x.name ≠ name) → ∀ w', Ext [] w w' → R (.returned (.tuple #[Wt.zero.val, .int .i64 252])) w')
    (k2 : ∀ j x, xs[j]? = some x → x.name = name → ∀ w', QAt w' B p f (xs.eraseIdx j) next → Ext f w w' → R (.returned (.tuple #[x.val, .int .i64 0])) w') :
    Calls Try.prog 15 #[.pointer (some ⟨p, 0, none⟩), .string name] w R := by
  obtain ⟨r, A, n, c, m, q, i, rfl⟩ := h
  apply queue_Queue_Take_nf
  have hxl := own_len_xs q.own
  have hl := i.len
  have hlt := q.lt
  intro w1 h1
  obtain ⟨b1, x1, z1⟩ := box_new (cs := Wt.zero.cells) h1
  clear h1
  have q1 := q.ext0 x1
  refine sel_false rfl (ptr_in ⟨_, cadd q1.hdr rfl, ?_⟩)
  cases hg : mget m name with
  | none =>
    have hno := i.no.1 hg
    refine ⟨_, _, _, _, _, _, _, _, (look_no (P := Try.prog) kS u60 zW q1.mp hg).2, ?_⟩
    intro w2 h2
    obtain ⟨b2, x2, z2⟩ := box_new (cs := Wt.zero.cells) h2
    obtain ⟨w3, hr3, b3, e3⟩ := storeW (P := Try.prog) (t := 34) (n := 6) (vs := Wt.zero.cells) i34s b2 rfl rfl (WL.one _)
    refine ⟨_, hr3, sel_true rfl ?_⟩
    have b13 := (b1.ext x2 (by simp)).ext e3 (by simp; omega)
    obtain ⟨w4, hr4, b4, e4⟩ := storeW (P := Try.prog) (t := 34) (n := 6) (vs := Wt.zero.cells) i34s b13 rfl rfl (WL.one _)
    refine ⟨_, hr4, _, _, _, _, _, _, cadd0 b4, k1 hno _ ?_⟩
    exact ((x1.trans x2).trans' e3 (fun b hb => .inr (by simp at hb; omega))).trans' e4 (fun b hb => .inr (by simp at hb; omega))
  | some x =>
    obtain ⟨j, hj, hjl, hx⟩ := i.name_at hg
    refine ⟨_, _, _, _, _, _, _, _, (look_yes (P := Try.prog) kS u60 zW q1.mp hg).2, ?_⟩
    intro w2 h2
    obtain ⟨b2, x2, z2⟩ := box_new (cs := Wt.zero.cells) h2
    obtain ⟨w3, hr3, b3, e3⟩ := storeW (P := Try.prog) (t := 34) (n := 6) (vs := x.cells) i34s b2 rfl rfl (WL.one _)
    have e13 : Ext [] w1 w3 := x2.trans' e3 (fun b hb => .inr (by simp at hb; omega))
    have q3 := q1.ext0 e13
    have b13 := (b1.ext x2 (by simp)).ext e3 (by simp; omega)
    refine ⟨_, hr3, sel_false rfl ⟨_, _, _, _, _, _, cadd0 b3, drop_c q3 i.sorted (by omega) hj fun w4 q4 e4 => ⟨rfl, ?_⟩⟩⟩
    have nA : ∀ b ∈ p :: r :: ownF A, b ≠ w.heap.size := fresh_ne hlt
    have nA2 : ∀ b ∈ p :: r :: ownF A, b ≠ w1.heap.size := fun b hb e => by have := hlt b hb; omega
    have b34 := b3.ext e4 (fun hm => nA2 _ hm rfl)
    have b14 := b13.ext e4 (fun hm => nA _ hm rfl)
    obtain ⟨w5, hr5, b5, e5⟩ := storeW (P := Try.prog) (t := 34) (n := 6) (vs := x.cells) i34s b14 rfl rfl (WL.one _)
    rw [hx] at q4
    refine ⟨_, _, _, _, _, _, cadd0 b34, _, hr5, _, _, _, _, _, _, cadd0 b5, k2 j x hj hx w5 ⟨r, A, n - 1, c, _, q4.ext e5 (fun b hb => by simp; exact nA b hb), by rw [← hx]; exact i.erase q.mp.nodup hj, rfl⟩ ?_⟩
    exact (((x1.trans e13).weaken (fun _ h => by cases h)).trans e4).trans' e5 (fun b hb => .inr (by simp at hb; omega))
theorem Take_nil {name : ByteArray} {w : World} {R : Ending → World → Prop} (k : ∀ w', Ext [] w w' → R (.returned (.tuple #[Wt.zero.val, .int .i64 1])) w') : Calls Try.prog 15 #[.pointer none, .string name] w R := by
  apply queue_Queue_Take_nf
  intro w1 h1
  obtain ⟨b1, x1, z1⟩ := box_new (cs := Wt.zero.cells) h1
  obtain ⟨w4, hr4, b4, e4⟩ := storeW (P := Try.prog) (t := 34) (n := 6) (vs := Wt.zero.cells) i34s b1 rfl rfl (WL.one _)
  exact sel_true rfl ⟨_, hr4, _, _, _, _, _, _, cadd0 b4, k _ (x1.trans' e4 (fun b hb => .inr (by simp at hb; omega)))⟩
/-- A pod that has been parked. -/
def Wt.parked (x : Wt) (now : Int) : Wt := { x with tries := if x.tries < 1099511627776 then x.tries + 1 else x.tries, asleep := true, til := now + waitV (if x.tries < 1099511627776 then x.tries + 1 else x.tries) }
theorem Park_c {w : World} {B p : Nat} {f : List Nat} {xs : List Wt} {next : Nat} (h : QAt w B p f xs next) (name : ByteArray) (now : Int) {R : Ending → World → Prop}
    (k1 : (∀ x ∈ xs, x.name ≠ name) → ∀ w', Ext [] w w' → R (.returned (.int .i64 252)) w')
    (k2 : ∀ x ∈ xs, x.name = name → (now < 0 ∨ 1099511627776 < now) → ∀ w', Ext [] w w' → R (.returned (.int .i64 254)) w')
    (k3 : ∀ j x, xs[j]? = some x → x.name = name → 0 ≤ now → now ≤ 1099511627776 → ∀ w' f', QAt w' B p f' (xs.set j (x.parked now)) next → Ext f w w' → Grow w f f' → R (.returned (.int .i64 0)) w') :
    Calls Try.prog 17 #[.pointer (some ⟨p, 0, none⟩), .string name, .int .i64 now] w R := by
  obtain ⟨r, A, n, c, m, q, i, rfl⟩ := h
  apply queue_Queue_Park_nf
  have hxl := own_len_xs q.own
  have hl := i.len
  have hlt := q.lt
  refine sel_false rfl (ptr_in ⟨_, cadd q.hdr rfl, ?_⟩)
  cases hg : mget m name with
  | none =>
    have hno := i.no.1 hg
    refine ⟨_, _, _, _, _, _, _, _, (look_no (P := Try.prog) kS u60 zW q.mp hg).2, ?_⟩
    intro w2 h2
    obtain ⟨b2, x2, z2⟩ := box_new (cs := Wt.zero.cells) h2
    obtain ⟨w3, hr3, b3, e3⟩ := storeW (P := Try.prog) (t := 34) (n := 6) (vs := Wt.zero.cells) i34s b2 rfl rfl (WL.one _)
    exact ⟨_, hr3, sel_true rfl (k1 hno _ (x2.trans' e3 (fun b hb => .inr (by simp at hb; omega))))⟩
  | some x =>
    obtain ⟨j, hj, hjl, hx⟩ := i.name_at hg
    have hxm : x ∈ xs := List.mem_of_getElem? hj
    refine ⟨_, _, _, _, _, _, _, _, (look_yes (P := Try.prog) kS u60 zW q.mp hg).2, ?_⟩
    intro w2 h2
    obtain ⟨b2, x2, z2⟩ := box_new (cs := Wt.zero.cells) h2
    obtain ⟨w3, hr3, b3, e3⟩ := storeW (P := Try.prog) (t := 34) (n := 6) (vs := x.cells) i34s b2 rfl rfl (WL.one _)
    have e13 : Ext [] w w3 := x2.trans' e3 (fun b hb => .inr (by simp at hb; omega))
    have q3 := q.ext0 e13
    refine ⟨_, hr3, sel_false rfl (sel_dec (fun h => k2 x hxm hx (.inl h) _ e13) (fun h0 => sel_dec (fun h => k2 x hxm hx (.inr h) _ e13) (fun h1 => ?_)))⟩
    have nA : ∀ b ∈ p :: r :: ownF A, b ≠ w.heap.size := fresh_ne hlt
    refine ⟨_, _, _, _, _, _, cadd0 b3, drop_c q3 i.sorted (by omega) hj fun w4 q4 e4 => ⟨rfl, ?_⟩⟩
    have b4 := b3.ext e4 (fun hm => nA _ hm rfl)
    have ht := i.tries x hxm
    obtain ⟨T, hT⟩ : ∃ T, T = (if x.tries < 1099511627776 then x.tries + 1 else x.tries) := ⟨_, rfl⟩
    have eT : (if (1099511627776 : Int) < (IntKind.wrap .i64 (x.tries + 1)) then 1099511627776 else (IntKind.wrap .i64 (x.tries + 1))) = T := by
      rw [w64 (x := x.tries + 1) (by omega) (by omega), hT]
      split <;> split <;> omega
    have hT0 : 0 ≤ T ∧ T ≤ 1099511627776 := by rw [hT]; split <;> omega
    have hw := waitV_le T
    obtain ⟨w5, hr5, b5, e5⟩ := store1a (P := Try.prog) (t := 3) (v := .int .i64 T) i3s b4 (i := 3) (by simp [Wt.cells]) rfl rfl
    obtain ⟨w6, hr6, b6, e6⟩ := store1a (P := Try.prog) (t := 4) (v := .bool true) i4s b5 (i := 5) (by simp [Wt.cells]) rfl rfl
    obtain ⟨w7, hr7, b7, e7⟩ := store1a (P := Try.prog) (t := 3) (v := .int .i64 (now + waitV T)) i3s b6 (i := 4) (by simp [Wt.cells]) rfl rfl
    have hy : x.parked now = ⟨x.name, x.pr, x.seq, T, now + waitV T, true⟩ := by unfold Wt.parked; rw [← hT]
    have b7 : BlkT w7 w.heap.size (x.parked now).cells 34 := by rw [hy]; exact b7
    refine ⟨_, cadd b4 rfl, ?_⟩
    rw [eT]
    refine ⟨_, hr5, _, hr6, _, cadd b6 rfl, wait_c T hT0.1 hT0.2 ⟨_, rfl, ?_⟩⟩
    rw [w64 (x := now + waitV T) (by omega) (by omega)]
    have e47 : Ext [w.heap.size] w4 w7 := (e5.trans e6).trans e7
    have q7 := q4.ext e47 (fun b hb => by simp; exact nA b hb)
    have i4 := i.erase q.mp.nodup hj
    have hsl : (xs.eraseIdx j).length = n - 1 := by rw [List.length_eraseIdx_of_lt hjl, hxl]
    refine ⟨_, hr7, _, _, _, _, _, _, cadd0 b7, put_c (x := x.parked now) q7 i4.sorted (by omega) fun A' c' w8 q8 e8 hF => ⟨rfl, ?_⟩⟩
    have heq : ins (xs.eraseIdx j) (x.parked now) = xs.set j (x.parked now) := ins_erase i.sorted hj (by rw [hy]) (by rw [hy])
    rw [heq] at q8
    have i8 := i.turn q.mp.nodup hj (x := x.parked now) (by rw [hy]) (by rw [hy]) (by rw [hy]) (by rw [hy]; exact hT0) (by rw [hy]; simp only []; omega)
    refine k3 j x hj hx (by omega) (by omega) w8 (p :: r :: ownF A') ⟨r, A', n - 1 + 1, c', _, q8, ⟨i8.sorted, i8.len, i8.nx, i8.seq, i8.tries, i8.til, i8.names, i8.seqs, fun kk z => ?_⟩, rfl⟩ ?_ ?_
    · rw [← i8.mp kk z, mget_mput, mget_mput]
      by_cases e : (x.parked now).name = kk
      · rw [if_pos e, if_pos e]
      · rw [if_neg e, if_neg e, mget_mdel q.mp.nodup, if_neg (by rw [hy] at e; exact e)]
    · have s1 : Ext (p :: r :: ownF A) w w4 := (e13.weaken (fun _ h => by cases h)).trans e4
      exact (s1.trans' e47 (fun b hb => .inr (by simp at hb; omega))).trans e8
    · intro b hb
      simp only [List.mem_cons] at hb
      rcases hb with rfl | rfl | hb
      · exact .inl (by simp)
      · exact .inl (by simp)
      · rcases hF with e | ⟨g, e, hg⟩
        · exact .inl (by rw [e] at hb; simp [hb])
        · right; rw [e] at hb; simp at hb; subst hb
          exact Nat.le_trans (Nat.le_trans e13.size (Nat.le_trans e4.size e47.size)) hg
theorem Park_nil {name : ByteArray} {now : Int} {w : World} {R : Ending → World → Prop} (k : R (.returned (.int .i64 1)) w) : Calls Try.prog 17 #[.pointer none, .string name, .int .i64 now] w R := by
  apply queue_Queue_Park_nf
  exact sel_true rfl k
end Go.Proofs.Ytfjgiaimlmnepaa
