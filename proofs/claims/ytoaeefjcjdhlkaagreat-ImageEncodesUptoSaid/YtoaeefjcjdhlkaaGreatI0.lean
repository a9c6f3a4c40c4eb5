/- Image: the form of an image, in plain words; no program. -/
import Derived.Lib.Split
set_option linter.unusedVariables false
set_option linter.unusedSimpArgs false
namespace Go.B

def bs (s : ByteArray) : List UInt8 := s.data.toList
def unb (l : List UInt8) : ByteArray := ⟨l.toArray⟩
theorem bs_unb (l : List UInt8) : bs (unb l) = l := by simp [bs, unb]
theorem unb_bs (s : ByteArray) : unb (bs s) = s := by simp [bs, unb]
theorem bs_inj {a b : ByteArray} (h : bs a = bs b) : a = b := by rw [← unb_bs a, h, unb_bs]
theorem bs_len (s : ByteArray) : (bs s).length = s.size := Array.length_toList

/-- What stands in a state. -/
inductive D where
  | int (n : Int)
  | str (s : ByteArray)
  | bool (b : Bool)
  | list (l : List (List D))
inductive Ty where
  | int | str | bool
  | list (t : List Ty)
/-- The pieces of an image. -/
inductive Piece where
  | count (n : Nat)
  | num (n : Int)
  | truth (b : Bool)
  | text (s : ByteArray)
mutual
def flatD : D → List Piece
  | .int n => [.num n]
  | .str s => [.text s]
  | .bool b => [.truth b]
  | .list l => .count l.length :: flatL l
def flatR : List D → List Piece
  | [] => []
  | d :: r => flatD d ++ flatR r
def flatL : List (List D) → List Piece
  | [] => []
  | r :: l => flatR r ++ flatL l
end
mutual
/-- Has the thing the type, and are its numbers the machine's? -/
def tyD : Ty → D → Prop
  | .int, .int n => -9223372036854775808 ≤ n ∧ n < 9223372036854775808
  | .str, .str _ => True
  | .bool, .bool _ => True
  | .list ts, .list l => l.length < 9223372036854775808 ∧ tyL ts l
  | _, _ => False
def tyR : List Ty → List D → Prop
  | [], [] => True
  | t :: ts, d :: r => tyD t d ∧ tyR ts r
  | _, _ => False
def tyL : List Ty → List (List D) → Prop
  | ts, [] => True
  | ts, r :: l => tyR ts r ∧ tyL ts l
end
def sevens (n : Nat) : List UInt8 := if h : n < 128 then [UInt8.ofNat n] else UInt8.ofNat (n % 128 + 128) :: sevens (n / 128)
termination_by n
decreasing_by omega
def numCode (n : Int) : Nat := if 0 ≤ n then 2 * n.toNat else 2 * (-(n + 1)).toNat + 1
def numBack (n : Nat) : Int := if n % 2 = 0 then ((n / 2 : Nat) : Int) else -((n / 2 : Nat) : Int) - 1
def idxS (T : List ByteArray) (s : ByteArray) : Nat := (T.map bs).idxOf (bs s)
theorem idxS_lt {T : List ByteArray} {s : ByteArray} (h : s ∈ T) : idxS T s < T.length := by
  have := List.idxOf_lt_length_of_mem (List.mem_map_of_mem (f := bs) h)
  simpa [idxS] using this
theorem idxS_get {T : List ByteArray} {s : ByteArray} {i : Nat} (h : idxS T s = i) (hi : i < T.length) : T[i] = s := by
  subst h
  have h1 := List.getElem_idxOf (x := bs s) (xs := T.map bs) (by simpa [idxS] using hi)
  rw [List.getElem_map] at h1
  exact bs_inj h1
theorem idxS_of {T : List ByteArray} (h : T.Nodup) {m : Nat} (hm : m < T.length) : idxS T T[m] = m := by
  have hn : (T.map bs).Nodup := List.Pairwise.map bs (fun a b hab e => hab (bs_inj e)) h
  have := hn.idxOf_getElem m (by simpa using hm)
  rw [List.getElem_map] at this
  exact this
def pieceB (T : List ByteArray) : Piece → List UInt8
  | .count n => sevens n
  | .num n => sevens (numCode n)
  | .truth b => [if b then 1 else 0]
  | .text s => sevens (idxS T s)
def piecesB (T : List ByteArray) (ps : List Piece) : List UInt8 := ps.flatMap (pieceB T)
def textOf : Piece → Option ByteArray
  | .text s => some s
  | _ => none
def texts (ps : List Piece) : List ByteArray := ps.filterMap textOf
def Strict (l : List ByteArray) : Prop := l.Pairwise fun a b => bs a < bs b
def insS (T : List ByteArray) (s : ByteArray) : List ByteArray := T.filter (fun t => decide (bs t < bs s)) ++ s :: T.filter (fun t => decide (bs s < bs t))
def tableOf (ps : List Piece) : List ByteArray := (texts ps).foldl insS []
def rowB (t : ByteArray) : List UInt8 := sevens t.size ++ bs t
def tableB (T : List ByteArray) : List UInt8 := sevens T.length ++ T.flatMap rowB
def headB : List UInt8 := [98, 101, 114, 116, 104, 1]
def fnvStep (h : Nat) (c : UInt8) : Nat := ((h ^^^ c.toNat) * 1099511628211) % 18446744073709551616
def sumS (b : List UInt8) : Nat := b.foldl fnvStep 14695981039346656037
def le8 : Nat → Nat → List UInt8
  | 0, _ => []
  | k + 1, h => UInt8.ofNat (h % 256) :: le8 k (h / 256)
def sumB (b : List UInt8) : List UInt8 := le8 8 (sumS b)
def signS (b : List UInt8) : List UInt8 := b ++ sumB b
def innerS (r : List D) : List UInt8 := headB ++ (tableB (tableOf (flatR r)) ++ piecesB (tableOf (flatR r)) (flatR r))
def imageS (r : List D) : List UInt8 := signS (innerS r)

/-! ### reading -/
structure Pst where
  at_ : Nat
  rest : List UInt8
  used : List Bool
inductive Res (α : Type) where
  | ok (a : α) (s : Pst)
  | err (c p : Nat)
def Res.bind {α β : Type} (r : Res α) (f : α → Pst → Res β) : Res β :=
  match r with
  | .ok a s => f a s
  | .err c p => .err c p
def countGo (start : Nat) : Nat → Nat → Nat → List UInt8 → List Bool → Res Nat
  | i, acc, a, [], u => .err 262 a
  | i, acc, a, c :: r, u =>
    if (i = 9 ∧ 1 < c.toNat) ∨ (0 < i ∧ c.toNat = 0) then .err 263 start
    else if c.toNat < 128 then .ok (acc + c.toNat % 128 * 2 ^ (7 * i)) ⟨a + 1, r, u⟩
    else countGo start (i + 1) (acc + c.toNat % 128 * 2 ^ (7 * i)) (a + 1) r u
def countS (s : Pst) : Res Nat := countGo s.at_ 0 0 s.at_ s.rest s.used
def manyS (s : Pst) : Res Nat := (countS s).bind fun n s' => if s'.rest.length < n then .err 262 s.at_ else .ok n s'
def numS (s : Pst) : Res Int := (countS s).bind fun n s' => .ok (numBack n) s'
def truthS (s : Pst) : Res Bool :=
  match s.rest with
  | [] => .err 262 s.at_
  | c :: r => if 1 < c.toNat then .err 263 s.at_ else .ok (decide (c.toNat = 1)) ⟨s.at_ + 1, r, s.used⟩
def textS (T : List ByteArray) (s : Pst) : Res ByteArray := (countS s).bind fun n s' =>
  match T[n]? with
  | none => .err 263 s.at_
  | some t => .ok t { s' with used := s'.used.set n true }
def timesS (p : Pst → Res (List D)) : Nat → Pst → Res (List (List D))
  | 0, s => .ok [] s
  | k + 1, s => (p s).bind fun r s1 => (timesS p k s1).bind fun l s2 => .ok (r :: l) s2
mutual
def readT (T : List ByteArray) : Ty → Pst → Res D
  | .int, s => (numS s).bind fun n s' => .ok (.int n) s'
  | .str, s => (textS T s).bind fun n s' => .ok (.str n) s'
  | .bool, s => (truthS s).bind fun n s' => .ok (.bool n) s'
  | .list ts, s => (manyS s).bind fun k s1 => (timesS (readTs T ts) k s1).bind fun l s2 => .ok (.list l) s2
def readTs (T : List ByteArray) : List Ty → Pst → Res (List D)
  | [], s => .ok [] s
  | t :: ts, s => (readT T t s).bind fun d s1 => (readTs T ts s1).bind fun r s2 => .ok (d :: r) s2
end
/-- May t not stand behind T? -/
def nextB (T : List ByteArray) (t : List UInt8) : Bool := match T.getLast? with | some l => !decide (bs l < t) | none => false
/-- The table: k texts more behind those of T (their places in S). -/
def tableGo : Nat → List ByteArray → List Nat → Pst → Res (List ByteArray × List Nat)
  | 0, T, S, s => .ok (T, S) s
  | k + 1, T, S, s => (manyS s).bind fun n s1 =>
    if nextB T (s1.rest.take n) then .err 263 s.at_
    else tableGo k (T ++ [unb (s1.rest.take n)]) (S ++ [s.at_]) ⟨s1.at_ + n, s1.rest.drop n, s1.used ++ [false]⟩
def tableS (s : Pst) : Res (List ByteArray × List Nat) := (manyS s).bind fun k s1 => tableGo k [] [] s1
def insideS (tys : List Ty) (b : List UInt8) : Res (List D) :=
  (tableS ⟨6, b.drop 6, []⟩).bind fun TS s1 => (readTs TS.1 tys s1).bind fun r s2 =>
    if s2.rest ≠ [] then .err 264 s2.at_
    else match s2.used.findIdx? (fun u => !u) with
      | some i => .err 263 (TS.2.getD i 0)
      | none => .ok r s2
/-- The first place at which two beginnings part. -/
def partAt : List UInt8 → List UInt8 → Nat → Option Nat
  | x :: xs, y :: ys, i => if x = y then partAt xs ys (i + 1) else some i
  | _, _, _ => none
def decodeS (tys : List Ty) (b : List UInt8) : Except (Nat × Int) (List D) :=
  if 16777216 < b.length then .error (265, -1)
  else match partAt b headB 0 with
    | some i => .error (260, i)
    | none =>
      if b.length < 14 then .error (262, b.length)
      else if b.drop (b.length - 8) ≠ sumB (b.take (b.length - 8)) then .error (261, ((b.length - 8 : Nat) : Int))
      else match insideS tys (b.take (b.length - 8)) with
        | .ok r _ => .ok r
        | .err c p => .error (c, p)
end Go.B
