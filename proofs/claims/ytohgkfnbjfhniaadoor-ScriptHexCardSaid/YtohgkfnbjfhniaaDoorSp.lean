/-
  Plain words for script: splitting, lines, hex digits, numbers, what a line and a text say.
-/
import Derived.Lib.SplitLaws
import Derived.Lib.Split
import Derived.Lib.CountLaws
import Derived.Lib.AtoiAll
import Derived.Lib.ItoaNum
import Derived.Lib.IndexBytes
import Derived.Lib.IndexLaws
import Derived.Lib.IndexMore
namespace Go.Proofs.YtohgkfnbjfhniaaDoor.Sp
open Go.Lib

/-- A text at each of a byte. -/
def splitC (c : UInt8) : List UInt8 → List (List UInt8)
  | [] => [[]]
  | b :: r => if b = c then [] :: splitC c r else match splitC c r with
    | [] => [[b]]
    | h :: t => (b :: h) :: t

theorem splitC_ne (c : UInt8) (s : List UInt8) : splitC c s ≠ [] := by
  cases s with
  | nil => simp [splitC]
  | cons b r => unfold splitC; split; simp; split <;> simp

theorem splitC_miss {c : UInt8} : ∀ {s : List UInt8}, (∀ b ∈ s, b ≠ c) → splitC c s = [s]
  | [], _ => rfl
  | b :: r, h => by
    unfold splitC
    rw [if_neg (h b (by simp)), splitC_miss (fun x hx => h x (by simp [hx]))]

theorem splitC_hit {c : UInt8} : ∀ {p r : List UInt8}, (∀ b ∈ p, b ≠ c) → splitC c (p ++ c :: r) = p :: splitC c r
  | [], r, _ => by simp [splitC]
  | b :: p, r, h => by
    rw [List.cons_append, splitC, if_neg (h b (by simp)), splitC_hit (fun x hx => h x (by simp [hx]))]

/-- A byte's first place parts a text. -/
theorem index_parts {s : List UInt8} {c : UInt8} {i : Nat} (h : index s [c] = i) : s = s.take i ++ c :: s.drop (i + 1) ∧ (∀ b ∈ s.take i, b ≠ c) ∧ i < s.length := by
  rw [index_one] at h
  obtain ⟨h1, h2⟩ := indexByte_some h
  obtain ⟨hl, hc⟩ := List.getElem?_eq_some_iff.1 h1
  refine ⟨?_, ?_, hl⟩
  · conv => lhs; rw [← List.take_append_drop i s]
    rw [List.drop_eq_getElem_cons hl, hc]
  · intro b hb
    obtain ⟨k, hk, rfl⟩ := List.getElem_of_mem hb
    intro e
    have hk' : k < i := by simp at hk; omega
    apply h2 k hk'
    rw [List.getElem?_eq_getElem (by omega)]
    rw [List.getElem_take] at e; rw [e]

theorem index_misses {s : List UInt8} {c : UInt8} (h : index s [c] = -1) : ∀ b ∈ s, b ≠ c := by
  rw [index_one] at h
  intro b hb e
  obtain ⟨k, hk, rfl⟩ := List.getElem_of_mem hb
  exact indexByte_none h k (by rw [List.getElem?_eq_getElem hk, e])

theorem index_cases (s : List UInt8) (c : UInt8) : index s [c] = -1 ∨ ∃ i : Nat, index s [c] = i := by
  have := index_ge s [c]
  by_cases h : index s [c] = -1
  · exact .inl h
  · exact .inr ⟨(index s [c]).toNat, by omega⟩

theorem splitB_splitC (c : UInt8) : ∀ (k : Nat) (s : ByteArray), countB s ⟨#[c]⟩ = k → (splitB ⟨#[c]⟩ 0 k s).map (·.data.toList) = splitC c s.data.toList
  | 0, s, hk => by
    have hn : indexB s ⟨#[c]⟩ = -1 := by
      rcases indexB_cases s ⟨#[c]⟩ with hix | ⟨i, hix, _⟩
      · exact hix
      · have := countB_hit s ⟨#[c]⟩ i (by simp [ByteArray.size]) hix; omega
    rw [splitB_zero, splitC_miss (index_misses hn)]; rfl
  | k + 1, s, hk => by
    rcases indexB_cases s ⟨#[c]⟩ with hix | ⟨i, hix, _⟩
    · rw [countB_miss s _ hix] at hk; omega
    · have hc := countB_hit s ⟨#[c]⟩ i (by simp [ByteArray.size]) hix
      rw [splitB_hit _ _ _ _ i hix, List.map_cons, splitB_splitC c k _ (by omega), extract_from_zero, extract_to_end]
      obtain ⟨h1, h2, h3⟩ := index_parts (s := s.data.toList) (c := c) (i := i) hix
      conv => rhs; rw [h1]
      rw [splitC_hit h2]; rfl

/-- The lines of a text, as they are cut off one by one. -/
def linesP : List UInt8 → List (List UInt8)
  | [] => []
  | b :: r => if b = 10 then [] :: linesP r else match linesP r with
    | [] => [[b]]
    | h :: t => (b :: h) :: t

theorem linesP_ne {b : UInt8} {r : List UInt8} (h : b ≠ 10) : linesP (b :: r) = match linesP r with
    | [] => [[b]]
    | x :: t => (b :: x) :: t := by
  rw [linesP, if_neg h]
theorem linesP_some (b : UInt8) (r : List UInt8) : ∃ x y, linesP (b :: r) = x :: y := by
  rw [linesP]; split
  · exact ⟨_, _, rfl⟩
  · split <;> exact ⟨_, _, rfl⟩

theorem linesP_hit : ∀ {p r : List UInt8}, (∀ b ∈ p, b ≠ 10) → linesP (p ++ 10 :: r) = p :: linesP r
  | [], r, _ => by simp [linesP]
  | b :: p, r, h => by
    rw [List.cons_append, linesP, if_neg (h b (by simp)), linesP_hit (fun x hx => h x (by simp [hx]))]

theorem linesP_miss : ∀ {s : List UInt8}, s ≠ [] → (∀ b ∈ s, b ≠ 10) → linesP s = [s]
  | [], h, _ => absurd rfl h
  | [b], _, h => by simp [linesP, h b (by simp)]
  | b :: c :: r, _, h => by
    rw [linesP, if_neg (h b (by simp)), linesP_miss (by simp) (fun x hx => h x (by simp [hx]))]

theorem linesP_cut {s : List UInt8} (h : s ≠ []) : linesP s = (cut s [10]).1 :: linesP (cut s [10]).2.1 := by
  unfold cut
  rcases index_cases s 10 with hix | ⟨i, hix⟩
  · rw [if_neg (by omega)]
    rw [linesP_miss h (index_misses hix)]; rfl
  · rw [if_pos (by omega)]
    obtain ⟨h1, h2, h3⟩ := index_parts hix
    have e : (index s [10]).toNat = i := by omega
    rw [e]
    conv => lhs; rw [h1]
    rw [linesP_hit h2]; rfl

theorem cut_shorter {s : List UInt8} (h : s ≠ []) : (cut s [10]).2.1.length < s.length := by
  unfold cut
  have hl : 0 < s.length := List.length_pos_iff.2 h
  split
  · simp; omega
  · simp; omega

/-- Behind a text that is followed by a line's end come the other's lines. -/
theorem linesP_append (s t : List UInt8) : ∃ m : List (List UInt8), linesP (s ++ 10 :: t) = linesP s ++ m ++ linesP t ∧ (m = [] ∨ m = [[]]) ∧ (s ≠ [] → s.getLast? ≠ some 10 → m = []) := by
  induction s with
  | nil => exact ⟨[[]], by simp [linesP], .inr rfl, fun h => absurd rfl h⟩
  | cons b r ih =>
    obtain ⟨m, h1, h2, h3⟩ := ih
    by_cases hb : b = 10
    · subst hb
      refine ⟨m, ?_, h2, ?_⟩
      · rw [List.cons_append, linesP, if_pos rfl, h1, linesP, if_pos rfl]; simp
      · intro _ hl
        cases r with
        | nil => simp at hl
        | cons c q => exact h3 (by simp) (by simpa [List.getLast?_cons_cons] using hl)
    · cases r with
      | nil =>
        refine ⟨[], ?_, .inl rfl, fun _ _ => rfl⟩
        simp [linesP, hb]
      | cons c q =>
        refine ⟨m, ?_, h2, fun _ hl => h3 (by simp) (by simpa [List.getLast?_cons_cons] using hl)⟩
        obtain ⟨x, y, hq⟩ := linesP_some c q
        rw [List.cons_append, linesP_ne hb, h1, linesP_ne hb, hq]
        simp

def digitsH : List UInt8 := [48, 49, 50, 51, 52, 53, 54, 55, 56, 57, 97, 98, 99, 100, 101, 102]

/-- What a digit of base 16 counts; below 0: it is none. -/
def hexv (b : UInt8) : Int := indexByte digitsH b

theorem hexv_ge (b : UInt8) : -1 ≤ hexv b := indexByte_ge _ _
theorem hexv_lt (b : UInt8) : hexv b ≤ 15 := by
  have h := index_le digitsH [b]
  rw [index_one] at h
  have h2 : hexv b ≤ 16 := h
  by_cases e : hexv b = 16
  · obtain ⟨h3, _⟩ := indexByte_some (l := digitsH) (c := b) (o := 16) e
    simp [digitsH] at h3
  · omega

def pairsP : List UInt8 → Option (List UInt8)
  | a :: b :: r => if hexv a < 0 ∨ hexv b < 0 then none else (pairsP r).map fun q => (16 * hexv a + hexv b).toNat.toUInt8 :: q
  | _ => some []

def bytesP (s : List UInt8) : Option (List UInt8) := if s = [45] then some [] else if s = [] ∨ s.length % 2 ≠ 0 then none else pairsP s

theorem pairsP_snoc : ∀ {p o : List UInt8} {a b : UInt8}, p.length % 2 = 0 → pairsP p = some o → ¬ (hexv a < 0 ∨ hexv b < 0) → pairsP (p ++ [a, b]) = some (o ++ [(16 * hexv a + hexv b).toNat.toUInt8])
  | [], o, a, b, _, h, hn => by
    simp [pairsP] at h; subst h
    simp [pairsP, hn]
  | [x], _, _, _, hl, _, _ => by simp at hl
  | x :: y :: r, o, a, b, hl, h, hn => by
    simp only [List.cons_append]
    rw [pairsP] at h ⊢
    split at h
    · cases h
    · rename_i hxy
      rw [if_neg hxy]
      cases hr : pairsP r with
      | none => rw [hr] at h; cases h
      | some q =>
        rw [hr] at h
        simp at h; subst h
        rw [pairsP_snoc (by simp at hl ⊢; omega) hr hn]; simp

theorem pairsP_bad : ∀ {p o r : List UInt8} {a b : UInt8}, p.length % 2 = 0 → pairsP p = some o → (hexv a < 0 ∨ hexv b < 0) → pairsP (p ++ a :: b :: r) = none
  | [], _, _, _, _, _, _, hn => by simp [pairsP, hn]
  | [x], _, _, _, _, hl, _, _ => by simp at hl
  | x :: y :: q, o, r, a, b, hl, h, hn => by
    simp only [List.cons_append]
    rw [pairsP] at h ⊢
    split at h
    · cases h
    · rename_i hxy
      rw [if_neg hxy]
      cases hr : pairsP q with
      | none => rw [hr] at h; cases h
      | some z => rw [pairsP_bad (by simp at hl ⊢; omega) hr hn]; rfl

theorem pairsP_length : ∀ {p o : List UInt8}, pairsP p = some o → o.length ≤ p.length
  | [], o, h => by simp [pairsP] at h; subst h; simp
  | [x], o, h => by simp [pairsP] at h; subst h; simp
  | x :: y :: q, o, h => by
    rw [pairsP] at h
    split at h
    · cases h
    · cases hr : pairsP q with
      | none => rw [hr] at h; cases h
      | some z =>
        rw [hr] at h; simp at h; subst h
        have := pairsP_length hr
        simp; omega

/-- A number from 0 to 2^40 that is written as Itoa writes it. -/
def numP (s : List UInt8) : Option Int := match atoiAll s with
  | .ok v => if 0 ≤ v ∧ v ≤ 1099511627776 ∧ itoa v = s then some v else none
  | _ => none

abbrev Three := Int × Int × Int

def numbersP : List (List UInt8) → Option Three
  | [a, b, c] => (numP a).bind fun x => (numP b).bind fun y => (numP c).bind fun z => some (x, y, z)
  | _ => none

/-- What lines have said. -/
structure St where
  b : List UInt8
  c : Three
  es : List Three
deriving DecidableEq

def St.zero : St := ⟨[], (0, 0, 0), []⟩

def lineP (st : St) (l : List UInt8) : Option St :=
  match splitC 32 l with
  | [] => none
  | w :: ws =>
    if w = [99, 111, 100, 101] ∧ ws.length = 1 then (bytesP (ws.getD 0 [])).map fun x => { st with b := st.b ++ x }
    else match numbersP ws with
      | none => none
      | some n => if w = [115, 101, 116] then some { st with c := n } else if w = [101, 118] then some { st with es := st.es ++ [n] } else none

/-- All lines: what they have said, or the number of the first one that is wrong. -/
def runP : Nat → St → List (List UInt8) → Sum Nat St
  | _, st, [] => .inr st
  | at_, st, l :: r => match lineP st l with
    | none => .inl at_
    | some st' => runP (at_ + 1) st' r

def parseP (s : List UInt8) : Sum Nat St := runP 1 St.zero (linesP s)

theorem runP_append : ∀ (xs ys : List (List UInt8)) (k : Nat) (st : St), runP k st (xs ++ ys) = match runP k st xs with
    | .inl n => .inl n
    | .inr st' => runP (k + xs.length) st' ys
  | [], ys, k, st => by simp [runP]
  | x :: xs, ys, k, st => by
    simp only [List.cons_append, runP]
    cases lineP st x with
    | none => rfl
    | some st' => simp only; rw [runP_append xs ys]; simp [Nat.add_assoc, Nat.add_comm 1]

theorem runP_ge : ∀ (xs : List (List UInt8)) (k n : Nat) (st : St), runP k st xs = .inl n → k ≤ n
  | [], _, _, _, h => by simp [runP] at h
  | x :: xs, k, n, st, h => by
    simp only [runP] at h
    cases hx : lineP st x with
    | none => rw [hx] at h; simp at h; omega
    | some st' => rw [hx] at h; have := runP_ge xs _ _ _ h; omega

end Go.Proofs.YtohgkfnbjfhniaaDoor.Sp
