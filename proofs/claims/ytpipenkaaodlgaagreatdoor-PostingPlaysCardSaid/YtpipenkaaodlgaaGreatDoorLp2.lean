/- Labels: lists, what the calls answer; no program. -/
import Derived.Test.YtpipenkaaodlgaaGreatDoorLp1
import Derived.Sort.LotA
import Derived.Test.YtpipenkaaodlgaaGreatDoorG1
set_option linter.unusedVariables false
set_option linter.unusedSimpArgs false
namespace Go.B

abbrev Lab := ByteArray × ByteArray
def bs (s : ByteArray) : List UInt8 := s.data.toList
theorem bs_inj {a b : ByteArray} (h : bs a = bs b) : a = b := by
  obtain ⟨⟨a⟩⟩ := a
  obtain ⟨⟨b⟩⟩ := b
  have h : a = b := h
  rw [h]
/-- The labels by their keys. -/
def sortS (l : List Lab) : List Lab := l.mergeSort fun a b => decide (bs a.1 ≤ bs b.1)
def keys (l : List Lab) : List ByteArray := l.map (·.1)
def Ris (l : List Lab) : Prop := l.Pairwise fun a b => bs a.1 < bs b.1
theorem le_tr (a b c : Lab) : decide (bs a.1 ≤ bs b.1) = true → decide (bs b.1 ≤ bs c.1) = true → decide (bs a.1 ≤ bs c.1) = true := fun h1 h2 => by
  simp only [decide_eq_true_eq] at *; exact List.le_trans h1 h2
theorem le_to (a b : Lab) : (decide (bs a.1 ≤ bs b.1) || decide (bs b.1 ≤ bs a.1)) = true := by
  simp only [Bool.or_eq_true, decide_eq_true_eq]; exact List.le_total _ _
theorem sortS_perm (l : List Lab) : (sortS l).Perm l := List.mergeSort_perm _ _
theorem sortS_le (l : List Lab) : (sortS l).Pairwise fun a b => bs a.1 ≤ bs b.1 := (List.pairwise_mergeSort le_tr le_to l).imp fun h => by simpa using h
theorem key_uniq {l : List Lab} (hn : (keys l).Nodup) {a b : Lab} (ha : a ∈ l) (hb : b ∈ l) (h : a.1 = b.1) : a = b := nodup_uniq hn ha hb h
theorem sortS_eq {l d : List Lab} (hn : (keys l).Nodup) (hp : d.Perm l) (hs : d.Pairwise fun a b => bs a.1 ≤ bs b.1) : d = sortS l := by
  refine List.Perm.eq_of_pairwise (le := fun a b : Lab => bs a.1 ≤ bs b.1) (fun a b ha hb h1 h2 => ?_) hs (sortS_le l) (hp.trans (sortS_perm l).symm)
  exact key_uniq hn (hp.mem_iff.1 ha) ((sortS_perm l).mem_iff.1 hb) (bs_inj (List.le_antisymm h1 h2))
theorem sortS_mem {l : List Lab} {x : Lab} : x ∈ sortS l ↔ x ∈ l := (sortS_perm l).mem_iff
theorem sortS_len (l : List Lab) : (sortS l).length = l.length := (sortS_perm l).length_eq
theorem keys_perm {l d : List Lab} (h : d.Perm l) : (keys d).Perm (keys l) := h.map _
theorem lt_of_le_ne {a b : List UInt8} (h : a ≤ b) (hne : a ≠ b) : a < b := by
  rcases Decidable.em (a < b) with h1 | h1
  · exact h1
  · exact absurd (List.le_antisymm h (List.not_lt.1 h1)) hne
theorem sortS_ris {l : List Lab} (hn : (keys l).Nodup) : Ris (sortS l) := by
  have h1 := sortS_le l
  have h2 : (keys (sortS l)).Nodup := (keys_perm (sortS_perm l)).nodup_iff.2 hn
  unfold keys at h2
  rw [List.Nodup, List.pairwise_map] at h2
  exact (h1.and h2).imp fun ⟨h, hne⟩ => lt_of_le_ne h fun e => hne (bs_inj e)
theorem Ris.nodup {l : List Lab} (h : Ris l) : (keys l).Nodup := by
  unfold keys
  rw [List.Nodup, List.pairwise_map]
  exact h.imp fun h e => by rw [e] at h; exact List.lt_irrefl _ h
theorem lt_le {a b : List UInt8} (h : a < b) : a ≤ b := List.not_lt.1 fun h2 => List.lt_irrefl _ (List.lt_trans h h2)
theorem Ris.sort {l : List Lab} (h : Ris l) : sortS l = l := (sortS_eq h.nodup (List.Perm.refl _) (h.imp lt_le)).symm
/-- The value of a key. -/
def getS : List Lab → ByteArray → ByteArray × Bool
  | [], _ => (ByteArray.empty, false)
  | x :: r, k => if x.1 = k then (x.2, true) else getS r k
def delS (l : List Lab) (k : ByteArray) : List Lab := l.filter fun x => decide (x.1 ≠ k)
def badAt (p : Option ByteArray) (x : Lab) : Int :=
  if keyS (bs x.1) = false then 31 else if valS (bs x.2) = false then 32 else match p with
    | none => 0
    | some q => if x.1 = q then 33 else if bs x.1 < bs q then 36 else 0
def checkGo : Int → Option ByteArray → List Lab → Int × Int
  | _, _, [] => (0, 0)
  | i, p, x :: r => if badAt p x = 0 then checkGo (i + 1) (some x.1) r else (i, badAt p x)
def checkS (l : List Lab) : Int × Int := if 32 < l.length then (32, 34) else checkGo 0 none l
def makeGo : List ByteArray → List Lab → Option (ByteArray × Int)
  | _, [] => none
  | seen, x :: r => if keyS (bs x.1) = false then some (x.1, 31) else if valS (bs x.2) = false then some (x.1, 32) else if (seen.any fun q => decide (q = x.1)) = true then some (x.1, 33) else makeGo (x.1 :: seen) r
def makeS (l : List Lab) : List Lab × ByteArray × Int := if 32 < l.length then ([], ByteArray.empty, 34) else match makeGo [] l with
  | none => (sortS l, ByteArray.empty, 0)
  | some (k, e) => ([], k, e)
def unb (l : List UInt8) : ByteArray := ⟨l.toArray⟩
theorem unb_bs (s : ByteArray) : unb (bs s) = s := rfl
theorem bs_unb (l : List UInt8) : bs (unb l) = l := by simp [bs, unb]
/-- An item: where it is cut, and whether. -/
def itemS (it : List UInt8) : ByteArray × ByteArray × Bool := match cut1 61 it with
  | none => (unb it, ByteArray.empty, false)
  | some p => (unb p.1, unb p.2, true)
def itemBad (out : List Lab) (it : List UInt8) : Int :=
  if out.length = 32 then 34 else if (itemS it).2.2 = false then 35 else if keyS (bs (itemS it).1) = false then 31 else if valS (bs (itemS it).2.1) = false then 32 else if (getS out (itemS it).1).2 = true then 33 else 0
def parseGo : List Lab → Int → List (List UInt8) → List Lab × Int × Int
  | out, _, [] => (sortS out, 0, 0)
  | out, at_, it :: r => if itemBad out it = 0 then parseGo (out ++ [((itemS it).1, (itemS it).2.1)]) (at_ + it.length + 1) r else ([], at_, itemBad out it)
def parseS (t : List UInt8) : List Lab × Int × Int := if 8192 < t.length then ([], 0, 39) else if t = [] then ([], 0, 0) else parseGo [] 0 (cutS 44 t)
def itemT (x : Lab) : List UInt8 := bs x.1 ++ 61 :: bs x.2
def joinT : List Lab → List UInt8
  | [] => []
  | [x] => itemT x
  | x :: y :: r => itemT x ++ 44 :: joinT (y :: r)
def textS (l : List Lab) : ByteArray × Int := if (checkS l).2 = 0 then (unb (joinT l), 0) else (ByteArray.empty, (checkS l).2)
def putS (l : List Lab) (k v : ByteArray) : List Lab × Int :=
  if (checkS l).2 ≠ 0 then ([], (checkS l).2) else if keyS (bs k) = false then ([], 31) else if valS (bs v) = false then ([], 32) else if (getS l k).2 = false ∧ l.length = 32 then ([], 34) else (sortS (delS l k ++ [(k, v)]), 0)
end Go.B
