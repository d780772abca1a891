/-
  Objects of a dump, in plain words.
-/
import Derived.Test.YtohgkfnbjfhniaaWy
namespace Go.Proofs.Ytohgkfnbjfhniaa
open Go.RowKit

def limbsP (l : List Nat) : List Nat := l.flatMap fun w => [w % 4294967296, w / 4294967296]
def trimP (m : List Nat) : List Nat := if 0 < m.length ∧ m.getD (m.length - 1) 0 = 0 then m.take (m.length - 1) else m
/-- An integer's words as limbs. -/
def bigMag (l : List Nat) : List Nat := trimP (limbsP (l.drop 2))
def bigNeg (l : List Nat) : Bool := decide (l.getD 1 0 = 1)
def bigP (l : List Nat) : Bool := decide (l.getD 1 0 ≤ 1) && numMayP (bigNeg l) (bigMag l) && !smallP (bigNeg l) (bigMag l)

def bytesOf (l : List Nat) : List UInt8 := l.flatMap fun w => (List.range 8).map fun k => (w / 256 ^ k % 256).toUInt8
/-- The bytes of a head's words. -/
def bytesW (l : List Nat) : Option (List UInt8) :=
  if 64 < l.getD 1 0 ∨ l.length - 2 ≠ (l.getD 1 0 + 7) / 8 then none
  else if ((bytesOf (l.drop 2)).drop (l.getD 1 0)).all (· == 0) then some ((bytesOf (l.drop 2)).take (l.getD 1 0)) else none

/-- May the words of a head's object be, the kinds that look at no other object. -/
def rightFlat (kind : Int) (l : List Nat) : Bool :=
  if kind = 0 then decide (l.length ≤ 9) && allP (l.drop 1)
  else if kind = 1 then decide (3 ≤ l.length) && decide (l.length ≤ 6) && bigP l
  else if kind = 2 then decide (l.length = 2) && realP (l.getD 1 0)
  else if kind = 3 then decide (2 ≤ l.length) && (bytesW l).isSome
  else if kind = 4 then decide (l.length = 4) && decide (max (l.getD 1 0) (l.getD 2 0) ≤ 1073741824) && decide (l.getD 3 0 ≤ 400)
  else false

/-- A head's kind and words. -/
def headAt (m : List Frg) (a : Int) : Option (Int × List Nat) :=
  (wordsP m a 1).bind fun h => (headP (h.getD 0 0)).bind fun k => (wordsP m a (k.2 + 1)).map fun l => (k.1, l)

/-- How many bytes a word leads to. -/
def lengthP (m : List Frg) (w : Nat) : Option Nat :=
  (toP w).bind fun s => if s.2 = 4 then (headAt m s.1).bind fun o =>
    if o.1 = 3 ∧ rightFlat 3 o.2 = true then some (o.2.getD 1 0) else if o.1 = 4 ∧ rightFlat 4 o.2 = true then some (o.2.getD 3 0) else none
  else none

def rightP (m : List Frg) (kind : Int) (l : List Nat) : Bool :=
  if kind = 5 then decide (l.length = 4) && (match lengthP m (l.getD 1 0) with
    | some n => decide (l.getD 2 0 ≤ n) && decide (l.getD 3 0 ≤ n - l.getD 2 0)
    | none => false)
  else rightFlat kind l

/-- What stands at a spot. -/
def objP (m : List Frg) (a t : Int) : Option (Int × List Nat) :=
  if t = 5 then (wordsP m a 2).bind fun l => if allP l = true then some (-1, l) else none
  else (headAt m a).bind fun o => if rightP m o.1 o.2 = true then some o else none

theorem trimP_length (m : List Nat) : (trimP m).length ≤ m.length := by
  unfold trimP
  split
  · rw [List.length_take]; omega
  · omega

theorem limbsP_length (l : List Nat) : (limbsP l).length = 2 * l.length := by
  induction l with
  | nil => rfl
  | cons a r ih =>
    have : limbsP (a :: r) = [a % 4294967296, a / 4294967296] ++ limbsP r := by simp [limbsP]
    rw [this, List.length_append, ih]
    simp only [List.length_cons, List.length_nil]; omega

theorem bytesOf_length (l : List Nat) : (bytesOf l).length = 8 * l.length := by
  induction l with
  | nil => rfl
  | cons a r ih =>
    have : bytesOf (a :: r) = ((List.range 8).map fun k => (a / 256 ^ k % 256).toUInt8) ++ bytesOf r := by simp [bytesOf]
    rw [this, List.length_append, ih]
    simp only [List.length_cons, List.length_map, List.length_range]; omega

end Go.Proofs.Ytohgkfnbjfhniaa
