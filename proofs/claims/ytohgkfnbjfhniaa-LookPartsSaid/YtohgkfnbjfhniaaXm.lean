/-
  What is reached, in plain words.
-/
import Derived.Test.YtohgkfnbjfhniaaXl
namespace Go.Proofs.Ytohgkfnbjfhniaa

/-! ### Lists without twins -/

theorem nodup_sub {α : Type} [DecidableEq α] : ∀ {l L : List α}, l.Nodup → (∀ x ∈ l, x ∈ L) → l.length ≤ L.length
  | [], _, _, _ => Nat.zero_le _
  | a :: r, L, h, hs => by
    obtain ⟨h1, h2⟩ := List.nodup_cons.1 h
    have ha := hs a (by simp)
    have := nodup_sub (L := L.erase a) h2 (fun x hx => (List.mem_erase_of_ne (fun e => h1 (by subst e; exact hx))).2 (hs x (by simp [hx])))
    rw [List.length_erase_of_mem ha] at this
    have hp := List.length_pos_of_mem ha
    simp only [List.length_cons]; omega

/-- The sum of what a function says of a list's elements. -/
def sumP {α : Type} (f : α → Nat) (l : List α) : Nat := (l.map f).sum

theorem sum_erase {α : Type} [DecidableEq α] (f : α → Nat) {a : α} : ∀ {L : List α}, a ∈ L → sumP f L = f a + sumP f (L.erase a)
  | b :: r, h => by
    by_cases e : b = a
    · subst e; simp [sumP]
    · have ha : a ∈ r := by rcases List.mem_cons.1 h with h | h; exact absurd h.symm e; exact h
      have := sum_erase f ha
      rw [List.erase_cons_tail (by simpa using e)]
      simp only [sumP, List.map_cons, List.sum_cons] at this ⊢
      omega

theorem sum_sub {α : Type} [DecidableEq α] (f : α → Nat) : ∀ {l L : List α}, l.Nodup → (∀ x ∈ l, x ∈ L) → sumP f l ≤ sumP f L
  | [], _, _, _ => Nat.zero_le _
  | a :: r, L, h, hs => by
    obtain ⟨h1, h2⟩ := List.nodup_cons.1 h
    have ha := hs a (by simp)
    have := sum_sub f (L := L.erase a) h2 (fun x hx => (List.mem_erase_of_ne (fun e => h1 (by subst e; exact hx))).2 (hs x (by simp [hx])))
    rw [sum_erase f ha]
    simp only [sumP, List.map_cons, List.sum_cons] at this ⊢
    omega

/-! ### Reached -/

/-- The spots of all objects that roots lead to. -/
inductive Reach (m : List Frg) (roots : List Nat) : Spt → Prop
  | root {x : Nat} {s : Spt} (hx : x ∈ roots) (ht : toP x = some s) (ho : (objP m s.1 s.2).isSome = true) : Reach m roots s
  | step {s s' : Spt} {o : Int × List Nat} {x : Nat} (h : Reach m roots s) (ho : objP m s.1 s.2 = some o) (hx : x ∈ leadW o.1 o.2) (ht : toP x = some s') (ho' : (objP m s'.1 s'.2).isSome = true) : Reach m roots s'

theorem Reach.ok {m : List Frg} {roots : List Nat} {s : Spt} (h : Reach m roots s) : (objP m s.1 s.2).isSome = true := by cases h <;> assumption

theorem Reach.mono {m : List Frg} {r r' : List Nat} (h : ∀ x ∈ r, x ∈ r') {s : Spt} (hs : Reach m r s) : Reach m r' s := by
  induction hs with
  | root hx ht ho => exact .root (h _ hx) ht ho
  | step _ ho hx ht ho' ih => exact .step ih ho hx ht ho'

/-- A list of just what is reached. -/
def ReachL (m : List Frg) (roots : List Nat) (l : List Spt) : Prop := l.Nodup ∧ ∀ s, s ∈ l ↔ Reach m roots s

/-- As far as it is gone. -/
structure RInv (m : List Frg) (roots : List Nat) (c : List Spt × List Spt) : Prop where
  nod : c.1.Nodup
  sub : ∀ s ∈ c.1, s ∈ c.2
  comp : ∀ s ∈ c.2, (objP m s.1 s.2).isSome = true → s ∈ c.1
  snd : ∀ s ∈ c.1, Reach m roots s
  tag : ∀ s ∈ c.1, s.2 = 4 ∨ s.2 = 5
  bnd : ∀ s ∈ c.1, In64 s.1

theorem RInv.start (m : List Frg) (roots : List Nat) : RInv m roots ([], []) := ⟨List.nodup_nil, (fun s h => by cases h), (fun s h => by cases h), (fun s h => by cases h), (fun s h => by cases h), (fun s h => by cases h)⟩

/-- A word that may be met. -/
def Good (m : List Frg) (roots : List Nat) (x : Nat) : Prop := ∀ s, toP x = some s → (objP m s.1 s.2).isSome = true → Reach m roots s

def Met (c : List Spt × List Spt) (x : Nat) : Prop := ∀ s, toP x = some s → s ∈ c.2

theorem toP_tag {x : Nat} {s : Spt} (h : toP x = some s) : s.2 = 4 ∨ s.2 = 5 := by
  unfold toP at h
  split at h
  · rename_i q; cases h; simp only; omega
  · cases h

theorem RInv.meet {m : List Frg} {roots : List Nat} {c : List Spt × List Spt} (h : RInv m roots c) {x : Nat} (hx : x < 18446744073709551616) (hg : Good m roots x) : RInv m roots (meetP m c x) ∧ Met (meetP m c x) x ∧ (∀ s ∈ c.2, s ∈ (meetP m c x).2) ∧ (meetP m c x).2.length ≤ c.2.length + 1 ∧ (∃ t, (meetP m c x).1 = c.1 ++ t) := by
  unfold meetP
  cases ht : toP x with
  | none => exact ⟨h, (fun s hs => by rw [ht] at hs; cases hs), (fun s hs => hs), Nat.le_succ _, [], by simp⟩
  | some s =>
    simp only
    by_cases hs : s ∈ c.2
    · rw [if_pos hs]
      exact ⟨h, (fun s' hs' => by rw [ht] at hs'; cases hs'; exact hs), (fun s hs => hs), by omega, [], by simp⟩
    · rw [if_neg hs]
      refine ⟨?_, (fun s' hs' => by rw [ht] at hs'; cases hs'; simp), (fun s' hs' => by simp [hs']), by simp, ?_⟩
      · by_cases ho : (objP m s.1 s.2).isSome = true
        · simp only [ho, if_true]
          refine ⟨?_, fun s' hs' => ?_, fun s' hs' ho' => ?_, fun s' hs' => ?_, fun s' hs' => ?_, fun s' hs' => ?_⟩
          · rw [List.nodup_append]
            exact ⟨h.nod, by simp, fun a ha b hb => by simp at hb; subst hb; intro e; subst e; exact hs (h.sub _ ha)⟩
          · rcases List.mem_append.1 hs' with q | q
            · exact List.mem_append.2 (.inl (h.sub _ q))
            · exact List.mem_append.2 (.inr q)
          · rcases List.mem_append.1 hs' with q | q
            · exact List.mem_append.2 (.inl (h.comp _ q ho'))
            · exact List.mem_append.2 (.inr q)
          · rcases List.mem_append.1 hs' with q | q
            · exact h.snd _ q
            · simp at q; subst q; exact hg s' ht ho
          · rcases List.mem_append.1 hs' with q | q
            · exact h.tag _ q
            · simp at q; subst q; exact toP_tag ht
          · rcases List.mem_append.1 hs' with q | q
            · exact h.bnd _ q
            · simp at q; subst q; exact toP_in ht hx
        · have hf : (objP m s.1 s.2).isSome = false := by simpa using ho
          simp only [hf]
          refine ⟨h.nod, fun s' hs' => List.mem_append.2 (.inl (h.sub _ hs')), fun s' hs' ho' => ?_, h.snd, h.tag, h.bnd⟩
          rcases List.mem_append.1 hs' with q | q
          · exact h.comp _ q ho'
          · simp at q; subst q; exact absurd ho' ho
      · split
        · exact ⟨[s], rfl⟩
        · exact ⟨[], by simp⟩

/-- All spots that there can be. -/
def allS (m : List Frg) : List Spt := m.flatMap fun f => (List.range f.2.length).flatMap fun (j : Nat) => [((f.1 + (j : Int), (4 : Int)) : Spt), (f.1 + (j : Int), (5 : Int))]

def wordsN (m : List Frg) : Nat := (m.map fun f => f.2.length).sum

theorem sum_two {α : Type} (l : List α) : (l.map fun _ => 2).sum = 2 * l.length := by
  induction l with
  | nil => rfl
  | cons a r ih => simp only [List.map_cons, List.sum_cons, List.length_cons, ih]; omega

theorem allS_length (m : List Frg) : (allS m).length = 2 * wordsN m := by
  unfold allS wordsN
  induction m with
  | nil => rfl
  | cons f r ih =>
    rw [List.flatMap_cons, List.length_append, ih, List.map_cons, List.sum_cons]
    have : ((List.range f.2.length).flatMap fun (j : Nat) => [((f.1 + (j : Int), (4 : Int)) : Spt), (f.1 + (j : Int), (5 : Int))]).length = 2 * f.2.length := by
      rw [List.length_flatMap]; simp only [List.length_cons, List.length_nil]; rw [sum_two, List.length_range]
    omega

theorem wordsP_in : ∀ {m : List Frg} {a n : Int} {l : List Nat}, wordsP m a n = some l → ∃ f ∈ m, ∃ j : Nat, j < f.2.length ∧ a = f.1 + j
  | [], _, _, _, h => by cases h
  | f :: r, a, n, l, h => by
    unfold wordsP at h
    split at h
    · rename_i hin
      unfold inP at hin
      simp at hin
      exact ⟨f, by simp, (a - f.1).toNat, by omega, by omega⟩
    · obtain ⟨g, hg, q⟩ := wordsP_in h
      exact ⟨g, by simp [hg], q⟩

theorem objP_in {m : List Frg} {s : Spt} (h : (objP m s.1 s.2).isSome = true) (ht : s.2 = 4 ∨ s.2 = 5) : s ∈ allS m := by
  have hw : ∃ n l, wordsP m s.1 n = some l := by
    unfold objP at h
    split at h
    · cases hq : wordsP m s.1 2 with
      | none => rw [hq] at h; cases h
      | some l => exact ⟨2, l, hq⟩
    · unfold headAt at h
      cases hq : wordsP m s.1 1 with
      | none => rw [hq] at h; cases h
      | some l => exact ⟨1, l, hq⟩
  obtain ⟨n, l, hw⟩ := hw
  obtain ⟨f, hf, j, hj, ha⟩ := wordsP_in hw
  unfold allS
  rw [List.mem_flatMap]
  refine ⟨f, hf, ?_⟩
  rw [List.mem_flatMap]
  refine ⟨j, by simpa using hj, ?_⟩
  obtain ⟨x, t⟩ := s
  simp only at ha ht
  subst ha
  rcases ht with rfl | rfl <;> simp

theorem RInv.le {m : List Frg} {roots : List Nat} {c : List Spt × List Spt} (h : RInv m roots c) : c.1.length ≤ 2 * wordsN m := by
  rw [← allS_length]
  exact nodup_sub h.nod (fun s hs => objP_in (h.snd s hs).ok (h.tag s hs))

/-- Gone to the end. -/
theorem RInv.done {m : List Frg} {roots : List Nat} {c : List Spt × List Spt} (h : RInv m roots c) (hr : ∀ x ∈ roots, Met c x) (hd : ∀ s ∈ c.1, ∀ o, objP m s.1 s.2 = some o → ∀ x ∈ leadW o.1 o.2, Met c x) : ReachL m roots c.1 := by
  refine ⟨h.nod, fun s => ⟨h.snd s, fun hs => ?_⟩⟩
  induction hs with
  | root hx ht ho => exact h.comp _ (hr _ hx _ ht) ho
  | step _ ho hx ht ho' ih => exact h.comp _ (hd _ ih _ ho _ hx _ ht) ho'

theorem ReachL.sum_eq {m : List Frg} {r r' : List Nat} {l l' : List Spt} (f : Spt → Nat) (h : ReachL m r l) (h' : ReachL m r' l') (hrr : ∀ s, Reach m r s ↔ Reach m r' s) : sumP f l = sumP f l' :=
  Nat.le_antisymm (sum_sub f h.1 (fun s hs => (h'.2 s).2 ((hrr s).1 ((h.2 s).1 hs)))) (sum_sub f h'.1 (fun s hs => (h.2 s).2 ((hrr s).2 ((h'.2 s).1 hs))))

theorem lead_nat {m : List Frg} {k : Int} {l : List Nat} (h : ObjOK m k l) : ∃ fr tt : Nat, leadsP k l.length = ((fr : Int), (tt : Int)) ∧ fr ≤ tt ∧ tt ≤ l.length ∧ leadW k l = (l.drop fr).take (tt - fr) ∧ tt - fr ≤ 8 ∧ 1 ≤ l.length := by
  rcases h with (⟨rfl, h1⟩ | ⟨rfl, h1, h2⟩) | ⟨rfl, h1, _⟩ | ⟨rfl, h1⟩ | ⟨rfl, h1, _⟩ | ⟨rfl, h1⟩ | ⟨rfl, h1⟩
  · exact ⟨0, 2, rfl, by omega, by omega, rfl, by omega, by omega⟩
  · refine ⟨1, l.length, rfl, by omega, by omega, ?_, by omega, by omega⟩
    unfold leadW
    have e : leadsP 0 l.length = (1, (l.length : Int)) := rfl
    rw [e]
    congr 1
    simp only
    omega
  · exact ⟨0, 0, rfl, by omega, by omega, rfl, by omega, by omega⟩
  · exact ⟨0, 0, rfl, by omega, by omega, rfl, by omega, by omega⟩
  · exact ⟨0, 0, rfl, by omega, by omega, rfl, by omega, by omega⟩
  · have := flat4_parts h1
    exact ⟨0, 0, rfl, by omega, by omega, rfl, by omega, by omega⟩
  · have := right5_parts h1
    exact ⟨1, 2, rfl, by omega, by omega, rfl, by omega, by omega⟩

theorem leadW_le {m : List Frg} {k : Int} {l : List Nat} (h : ObjOK m k l) : (leadW k l).length ≤ 8 := by
  unfold leadW
  rw [List.length_take, List.length_drop]
  unfold leadsP
  rcases h with (⟨rfl, h1⟩ | ⟨rfl, h1, h2⟩) | ⟨rfl, _⟩ | ⟨rfl, _⟩ | ⟨rfl, _⟩ | ⟨rfl, _⟩ | ⟨rfl, _⟩
  · simp; omega
  · simp; omega
  all_goals simp
  omega

end Go.Proofs.Ytohgkfnbjfhniaa
