/-
  Sets as maps to bools: keyed by spots, and by numbers.
-/
import Derived.Test.YtohgkfnbjfhniaaXj
import Derived.DeepKeys5
import Derived.Maps.OwnSet
import Derived.Maps.OwnOps
namespace Go.Proofs.Ytohgkfnbjfhniaa
open Go.RowKit Go.Maps

/-- A family of keys. -/
structure Fam (α : Type) (k : TypeId) where
  val : α → Value
  lit : α → Lit
  ok : α → Prop
  key : ∀ x, ok x → keyOf Try.prog k (val x) = some (lit x)
  inj : ∀ x y, val x = val y → x = y

theorem Fam.lit_ne {α : Type} {k : TypeId} (F : Fam α k) (K : Keyed Try.prog k) {x y : α} (hx : F.ok x) (hy : F.ok y) (h : x ≠ y) : F.lit x ≠ F.lit y := fun e =>
  h (F.inj x y (K.inj (F.key x hx) (by rw [e]; exact F.key y hy)))

/-- A map that holds a set. -/
def SetAt {α : Type} [DecidableEq α] {k : TypeId} (F : Fam α k) (w : World) (b : Nat) (S : List α) : Prop :=
  ∃ (D : DataW Unit) (n : Nat), w.ownsMap Try.prog k (plainElem Try.prog 4) b n D ∧ n ≤ S.length ∧ IsMap D ∧ ∀ x, F.ok x → D.atKey (F.lit x) (.lit (.bool false)) = .lit (.bool (decide (x ∈ S)))

section
variable {α : Type} [DecidableEq α] {k : TypeId} {F : Fam α k} {w : World} {b : Nat} {S : List α}

theorem SetAt.made (F : Fam α k) (w : World) : SetAt F (w.alloc (.map #[] 0)) w.heap.size [] :=
  ⟨.map [], 0, World.ownsMap_made w _ _ _, Nat.le_refl _, ⟨_, rfl⟩, fun x _ => by simp [DataW.atKey]⟩

theorem SetAt.lt (h : SetAt F w b S) : b < w.heap.size := by
  obtain ⟨D, n, h1, _⟩ := h; exact h1.lt

theorem SetAt.kept {w' : World} {row : Option Nat} (h : SetAt F w b S) (hg : w.grownBy w' row) (hne : some b ≠ row) : SetAt F w' b S := by
  obtain ⟨D, n, h1, h2⟩ := h; exact ⟨D, n, h1.kept hg hne, h2⟩

theorem SetAt.block {w' : World} (h : SetAt F w b S) (hb : w'.heap[b]? = w.heap[b]?) : SetAt F w' b S := by
  obtain ⟨D, n, ⟨es, cl, h1, h3⟩, h2⟩ := h
  exact ⟨D, n, ⟨es, cl, hb.trans h1, h3⟩, h2⟩

theorem plainElem_bool_inv {P : Program} {e : TypeId} (he : P.underlying e = some .bool) {v : Value} {z : DataW Unit × List MemPlace} (h : plainElem P e v = some z) : ∃ x, v = .bool x ∧ z = (.lit (.bool x), []) := by
  unfold plainElem at h
  rw [he] at h
  cases v <;> simp at h
  subst h
  exact ⟨_, rfl, rfl⟩

theorem zero4 (w : World) : (zeroValue 4).run Try.prog w = .ok (.bool false) w := by kernel_rfl

theorem SetAt.look {t : TypeId} (h : SetAt F w b S) (K : Keyed Try.prog k) (ht : Try.prog.underlying t = some (.map k 4)) {x : α} (hx : F.ok x) :
    (Instr.lookup t (.map (some b)) (F.val x) false).run Try.prog w = .ok (.bool (decide (x ∈ S))) w := by
  obtain ⟨D, n, h1, h2, h3, h4⟩ := h
  obtain ⟨v, ps, hrun, hv⟩ := h1.lookup K ht (zero4 w) (plainElem_bool Try.underlying4 false) (F.key x hx)
  obtain ⟨c, rfl, hc⟩ := plainElem_bool_inv Try.underlying4 hv
  rw [h4 x hx] at hc
  simp only [Prod.mk.injEq, DataW.lit.injEq, Lit.bool.injEq] at hc
  rw [hrun, hc.1]

theorem SetAt.put {t : TypeId} (h : SetAt F w b S) (K : Keyed Try.prog k) (ht : Try.prog.underlying t = some (.map k 4)) (hS : S.length ≤ 1000000) {x : α} (hx : F.ok x) :
    ∃ w', (Instr.mapUpdate t (.map (some b)) (F.val x) (.bool true)).run Try.prog w = .ok () w' ∧ SetAt F w' b (S ++ [x]) ∧ w.grownBy w' (some b) := by
  obtain ⟨D, n, h1, h2, h3, h4⟩ := h
  obtain ⟨w', hrun, ho, hg⟩ := h1.update K ht (by unfold maxLen; omega) (F.key x hx) (plainElem_bool Try.underlying4 true)
  refine ⟨w', hrun, ⟨_, _, ho, by simp; omega, h3.put _ _, fun y hy => ?_⟩, hg⟩
  by_cases e : y = x
  · subst e
    rw [atKey_put_same h3 (K.key (F.key y hy))]
    simp
  · rw [atKey_put_other (F.lit_ne K hy hx e), h4 y hy]
    simp [e]

/-- 'm[x]' at the operation. -/
theorem wpList_look_set {ops : Array Oper} {rest : List Oper} {o : Oper} {a : Act} {Q : Exit → Act → World → Prop} (hg : Region.wanted o (yielded ops a.tmps) = true) (m x : Operand) (t : TypeId) (hop : o.op = Op.lookup t m x false)
    (K : Keyed Try.prog k) (ht : Try.prog.underlying t = some (.map k 4)) (hm : a.eval m = .map (some b)) (h : SetAt F w b S) (y : α) (hy : F.ok y) (hx : a.eval x = F.val y) (c : Bool) (hc : y ∈ S ↔ c = true)
    (hK : wpList Try.prog ops Q rest (a.put o.dst (.bool c)) w) : wpList Try.prog ops Q (o :: rest) a w := by
  have hrun := h.look K ht hy
  rw [show decide (y ∈ S) = c by rw [Bool.eq_iff_iff, ← hc]; simp] at hrun
  refine wpList_step fun K' hK' => ?_
  rw [if_pos hg]
  unfold Oper.wp
  simp [execOp, hop, hm, hx, hrun, Result.andThen]
  exact hK' _ _ hK

/-- 'm[x] = true' at the operation. -/
theorem wpList_put_set {ops : Array Oper} {rest : List Oper} {o : Oper} {a : Act} {Q : Exit → Act → World → Prop} (hg : o.guard = none) (m x v : Operand) (t : TypeId) (hop : o.op = Op.mapUpdate t m x v)
    (K : Keyed Try.prog k) (ht : Try.prog.underlying t = some (.map k 4)) (hm : a.eval m = .map (some b)) (h : SetAt F w b S) (hS : S.length ≤ 1000000) (y : α) (hy : F.ok y) (hx : a.eval x = F.val y) (hv : a.eval v = .bool true)
    (hK : ∀ w', SetAt F w' b (S ++ [y]) → w.grownBy w' (some b) → wpList Try.prog ops Q rest (a.put o.dst undef) w') : wpList Try.prog ops Q (o :: rest) a w := by
  refine wpList_plain hg fun K' hK' => ?_
  obtain ⟨w', hrun, h1, h2⟩ := h.put K ht hS hy
  unfold Oper.wp
  simp [execOp, hop, hm, hx, hv, hrun, Result.andThen]
  exact hK' _ _ (hK w' h1 h2)

end

/-! ### Keys: numbers, spots -/

theorem K3 : Keyed Try.prog 3 := int_keyed Try.underlying3

def intFam : Fam Int 3 where
  val x := .int .i64 x
  lit x := .int .i64 x
  ok x := -9223372036854775808 ≤ x ∧ x ≤ 9223372036854775807
  key x hx := keyOf_int_mk Try.underlying3 (WalkArith.wf_i64 hx)
  inj x y h := by cases h; rfl

theorem K68 : Keyed Try.prog 68 := Keyed.of_law (deep_law_gate (by kernel_rfl) (of_decide_eq_true (by kernel_rfl)) (of_decide_eq_true (by kernel_rfl)) (by kernel_rfl) (by kernel_rfl))

theorem keyOf_two {P : Program} {k e : TypeId} {f0 f1 : Field} (hu : P.underlying k = some (.struct #[f0, f1])) (hk : P.keyType k = true) (hc : P.cellsOf k = 2) (h0 : f0.offset = 0) (h1 : f1.offset = 1) (t0 : f0.type = e) (t1 : f1.type = e) (he : P.underlying e = some (.int .i64)) (hce : P.cellsOf e = 1)
    (hn : (#[f0, f1] : Array Field).all (·.name != "_") = true) (hsz : ∃ m, P.types.size = m + 1) {a b : Int} (wa : (Lit.int .i64 a).wf = true) (wb : (Lit.int .i64 b).wf = true) :
    keyOf P k (.agg #[.int .i64 a, .int .i64 b]) = some (.string (keyBytes [.int .i64 a, .int .i64 b])) := by
  obtain ⟨m, hm⟩ := hsz
  unfold keyOf
  simp only [hu]
  rw [if_pos (by simp [hk, Value.formed, hu, hc]), hm]
  unfold Program.keyLits
  simp only [hu, Value.cells]
  rw [if_pos ⟨by rw [hc]; rfl, hn⟩]
  rw [List.mapM_cons, List.mapM_cons, List.mapM_nil]
  simp [h0, h1, t0, t1, hce, Program.keyLits, he, wa, wb]

def spotLit (s : Int × Int) : Lit := .string (keyBytes [.int .i64 s.1, .int .i64 s.2])
abbrev spotV (s : Int × Int) : Value := .agg #[.int .i64 s.1, .int .i64 s.2]

theorem keyOf_spot (s : Int × Int) (h : In64 s.1 ∧ In64 s.2) : keyOf Try.prog 68 (spotV s) = some (spotLit s) :=
  keyOf_two Try.underlying68 (by kernel_rfl) (by kernel_rfl) rfl rfl rfl rfl Try.underlying3 (by kernel_rfl) (by kernel_rfl) ⟨151, by kernel_rfl⟩ (WalkArith.wf_i64 h.1) (WalkArith.wf_i64 h.2)

def spotFam : Fam (Int × Int) 68 where
  val := spotV
  lit := spotLit
  ok s := In64 s.1 ∧ In64 s.2
  key := keyOf_spot
  inj x y h := by
    simp only [spotV, Value.agg.injEq] at h
    obtain ⟨a, b⟩ := x
    obtain ⟨c, d⟩ := y
    simp at h
    obtain ⟨rfl, rfl⟩ := h
    rfl

end Go.Proofs.Ytohgkfnbjfhniaa
