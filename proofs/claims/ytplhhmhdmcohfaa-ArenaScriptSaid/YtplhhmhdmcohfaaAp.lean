/-
  Plain words for the arena: a list of regions against a map's datum; a frame: which blocks may have turned.
-/
import Derived.Maps.OwnSet
import Derived.WalkKit
import Derived.Deep.QuietTactic
namespace Go.Proofs.Ytplhhmhdmcohfaa
open Go.RowKit Go.Maps

/-- What a key has in a list of pairs. -/
def lk (L : List (Int × Int)) (k : Int) : Int := ((L.find? (fun p => p.1 == k)).map (·.2)).getD 0
def hs (L : List (Int × Int)) (k : Int) : Bool := L.any (fun p => p.1 == k)
def rm (L : List (Int × Int)) (k : Int) : List (Int × Int) := L.filter (fun p => !(p.1 == k))

/-- A map's datum and a list of pairs say the same. -/
structure Rep (D : DataW Unit) (L : List (Int × Int)) : Prop where
  tidy : Tidy D
  nod : L.Pairwise (fun p q => p.1 ≠ q.1)
  has : ∀ k, Maps.has D (.int .i64 k) = hs L k
  at_ : ∀ k, D.atKey (.int .i64 k) (.lit (.int .i64 0)) = .lit (.int .i64 (lk L k))
  size : Maps.size D = L.length

theorem Rep.empty : Rep (.map []) [] :=
  ⟨tidy_empty, List.Pairwise.nil, fun _ => rfl, fun _ => rfl, rfl⟩

theorem lit_ne {a b : Int} (h : a ≠ b) : (Lit.int .i64 a) ≠ (Lit.int .i64 b) := fun e => by cases e; exact h rfl

theorem hs_snoc (L : List (Int × Int)) (x n k : Int) : hs (L ++ [(x, n)]) k = (hs L k || x == k) := by
  simp [hs]

theorem lk_of_not {L : List (Int × Int)} {k : Int} (h : hs L k = false) : lk L k = 0 := by
  have : L.find? (fun p => p.1 == k) = none := by
    rw [List.find?_eq_none]; intro p hp
    simp only [hs, List.any_eq_false] at h
    exact h p hp
  simp [lk, this]

theorem lk_snoc_other {L : List (Int × Int)} {x n k : Int} (h : x ≠ k) : lk (L ++ [(x, n)]) k = lk L k := by
  simp only [lk, List.find?_append]
  have : [(x, n)].find? (fun p => p.1 == k) = none := by simp [h]
  rw [this]; simp

theorem lk_snoc_same {L : List (Int × Int)} {x n : Int} (h : hs L x = false) : lk (L ++ [(x, n)]) x = n := by
  have : L.find? (fun p => p.1 == x) = none := by
    rw [List.find?_eq_none]; intro p hp
    simp only [hs, List.any_eq_false] at h
    exact h p hp
  simp [lk, List.find?_append, this]

theorem key_lit (k : Int) : WideAt.IsKeyLit (.int .i64 k) := by simp [WideAt.IsKeyLit]

theorem Rep.put {D : DataW Unit} {L : List (Int × Int)} (h : Rep D L) {x n : Int} (hx : hs L x = false) : Rep (D.put (.int .i64 x) (.lit (.int .i64 n))) (L ++ [(x, n)]) := by
  refine ⟨h.tidy.put (key_lit x) _, ?_, ?_, ?_, ?_⟩
  · rw [List.pairwise_append]
    refine ⟨h.nod, List.pairwise_singleton _ _, ?_⟩
    intro a ha b hb e
    simp at hb; subst hb
    simp only [hs, List.any_eq_false] at hx
    exact hx a ha (by simpa using e)
  · intro k
    by_cases e : k = x
    · subst e; rw [has_put_same h.tidy.isMap (key_lit k)]; simp [hs_snoc]
    · rw [has_put_other (lit_ne e), h.has, hs_snoc]
      have : (x == k) = false := by simp; exact fun q => e q.symm
      rw [this, Bool.or_false]
  · intro k
    by_cases e : k = x
    · subst e; rw [atKey_put_same h.tidy.isMap (key_lit k), lk_snoc_same hx]
    · rw [atKey_put_other (lit_ne e), h.at_, lk_snoc_other (fun q => e q.symm)]
  · rw [size_put h.tidy, h.has, hx, h.size]; simp

theorem hs_rm (L : List (Int × Int)) (x k : Int) : hs (rm L x) k = (hs L k && !(x == k)) := by
  induction L with
  | nil => rfl
  | cons p r ih =>
    simp only [rm, hs, List.filter_cons] at ih ⊢
    by_cases e : p.1 = x
    · subst e
      simp only [beq_self_eq_true, Bool.not_true, Bool.false_eq_true, if_false, List.any_cons]
      rw [ih]
      cases h : (p.1 == k) <;> simp
    · have : (!(p.1 == x)) = true := by simp [e]
      rw [this]; simp only [if_true, List.any_cons]; rw [ih]
      by_cases q : p.1 = k
      · subst q
        have : (x == p.1) = false := by simp; exact fun z => e z.symm
        simp [this]
      · have : (p.1 == k) = false := by simp [q]
        simp [this]

theorem lk_rm_same (L : List (Int × Int)) (x : Int) : lk (rm L x) x = 0 := by
  apply lk_of_not; rw [hs_rm]; simp

theorem lk_rm_other {L : List (Int × Int)} {x k : Int} (h : k ≠ x) : lk (rm L x) k = lk L k := by
  induction L with
  | nil => rfl
  | cons p r ih =>
    simp only [lk, rm, List.filter_cons, List.find?_cons] at ih ⊢
    by_cases e : p.1 = x
    · subst e
      have : (p.1 == k) = false := by simp; exact fun z => h z.symm
      simp [this]; simpa using ih
    · have : (!(p.1 == x)) = true := by simp [e]
      rw [this]; simp only [if_true, List.find?_cons]
      cases hq : (p.1 == k)
      · exact ih
      · rfl

theorem length_rm {L : List (Int × Int)} (hn : L.Pairwise (fun p q => p.1 ≠ q.1)) (x : Int) : (rm L x).length + (hs L x).toNat = L.length := by
  induction L with
  | nil => rfl
  | cons p r ih =>
    have ih := ih hn.of_cons
    by_cases e : p.1 = x
    · subst e
      have hno : hs r p.1 = false := by
        rw [hs, List.any_eq_false]; intro q hq
        have := (List.pairwise_cons.1 hn).1 q hq
        simp; exact fun z => this z.symm
      have a1 : rm (p :: r) p.1 = rm r p.1 := by simp [rm]
      have a2 : hs (p :: r) p.1 = true := by simp [hs]
      rw [hno] at ih; rw [a1, a2]
      simp at ih ⊢; omega
    · have a1 : rm (p :: r) x = p :: rm r x := by simp [rm, e]
      have a2 : hs (p :: r) x = hs r x := by simp [hs, e]
      rw [a1, a2, List.length_cons, List.length_cons]; omega

theorem Rep.del {D : DataW Unit} {L : List (Int × Int)} (h : Rep D L) (x : Int) : Rep (D.del (.int .i64 x)) (rm L x) := by
  refine ⟨h.tidy.del _, ?_, ?_, ?_, ?_⟩
  · exact h.nod.filter _
  · intro k
    by_cases e : k = x
    · subst e; rw [has_del_same, hs_rm]; simp
    · rw [has_del_other (lit_ne e), h.has, hs_rm]
      have : (x == k) = false := by simp; exact fun q => e q.symm
      simp [this]
  · intro k
    by_cases e : k = x
    · subst e; rw [atKey_del_same, lk_rm_same]
    · rw [atKey_del_other (lit_ne e), h.at_, lk_rm_other e]
  · have h1 := size_del (k := .int .i64 x) h.tidy
    have h2 := length_rm h.nod x
    rw [h.has] at h1
    have h3 := h.size
    cases q : hs L x <;> simp [q] at h1 h2 <;> omega

/-- But for blocks in S, what was there is there. -/
structure Fr (S : Nat → Prop) (w w' : World) : Prop where
  os : w'.os = w.os
  tape : w'.tape = w.tape
  output : w'.output = w.output
  size : w.heap.size ≤ w'.heap.size
  block : ∀ k, k < w.heap.size → ¬ S k → w'.heap[k]? = w.heap[k]?

theorem Fr.refl (S : Nat → Prop) (w : World) : Fr S w w := ⟨rfl, rfl, rfl, Nat.le_refl _, fun _ _ _ => rfl⟩
theorem Fr.trans {S : Nat → Prop} {a b c : World} (h : Fr S a b) (k : Fr S b c) : Fr S a c :=
  ⟨k.os.trans h.os, k.tape.trans h.tape, k.output.trans h.output, Nat.le_trans h.size k.size, fun i hi hs => (k.block i (Nat.lt_of_lt_of_le hi h.size) hs).trans (h.block i hi hs)⟩
theorem Fr.mono {S T : Nat → Prop} {a b : World} (h : Fr S a b) (hst : ∀ k, S k → T k) : Fr T a b :=
  ⟨h.os, h.tape, h.output, h.size, fun i hi hs => h.block i hi (fun q => hs (hst i q))⟩
theorem Fr.drewN {S : Nat → Prop} {a b : World} (h : Fr S a b) (n : Nat) : Fr S a (b.drewN n) := by
  refine ⟨h.os, h.tape, h.output, by simpa using h.size, ?_⟩
  intro k hk hs; simpa using h.block k hk hs
theorem Fr.setCell {S : Nat → Prop} {a b : World} (h : Fr S a b) {p : Addr} (hp : S p.block) (u : Value) : Fr S a (b.setCell p u) :=
  h.trans ⟨rfl, rfl, rfl, by simp [World.setCell], fun k _ hs => Below.heap_setCell _ _ _ _ (fun e => hs (e ▸ hp))⟩
theorem Fr.alloc {S : Nat → Prop} {a b : World} (h : Fr S a b) (o : Obj) : Fr S a (b.alloc o) :=
  h.trans ⟨rfl, rfl, rfl, by simp, fun k hk _ => Below.heap_alloc _ _ _ hk⟩
theorem Fr.grown {S : Nat → Prop} {a b c : World} (h : Fr S a b) {row : Option Nat} (hg : b.grownBy c row) (hr : ∀ k, row = some k → k < a.heap.size → S k) : Fr S a c := by
  refine ⟨hg.os.trans h.os, hg.tape.trans h.tape, hg.output.trans h.output, Nat.le_trans h.size hg.size, ?_⟩
  intro k hk hs
  rw [hg.block k (Nat.lt_of_lt_of_le hk h.size) (fun e => hs (hr k e.symm hk)), h.block k hk hs]
theorem Fr.turned {S : Nat → Prop} {a b c : World} (h : Fr S a b) {bm : Nat} (hg : b.mapTurned c bm) (hr : S bm) : Fr S a c :=
  h.grown hg.grown (fun k e _ => by cases e; exact hr)
theorem Fr.below {S : Nat → Prop} {a b c : World} {B : Nat} (h : Below B a b) (k : Fr S b c) (hs : ∀ i, S i → B ≤ i) (hB : B ≤ b.heap.size) : Below B a c :=
  h.trans ⟨k.os, k.tape, k.output, k.size, fun i hi => k.block i (by omega) (fun q => by have := hs i q; omega)⟩

theorem turned_cell {w w' : World} {bm : Nat} (h : w.mapTurned w' bm) {p : Addr} (hp : p.block ≠ bm) : w'.cell? p = w.cell? p := by
  have hg := h.grown
  by_cases hlt : p.block < w.heap.size
  · exact World.cell?_of_block (w := w) (hg.block p.block hlt (fun e => hp (by cases e; rfl)))
  · obtain ⟨es, c, es', c', hb, rfl⟩ := h
    have h1 : (ChangeMaps.setBlock w bm (.map es' c')).heap[p.block]? = w.heap[p.block]? := by
      simp only [ChangeMaps.setBlock]; rw [Array.getElem?_setIfInBounds, if_neg (fun e => hp e.symm)]
    exact World.cell?_of_block (w := w) h1
end Go.Proofs.Ytplhhmhdmcohfaa
