/-
  What a word of a dump stands for: mem.Read, look.Read.
  Sets as maps to bools: keyed by spots, and by numbers.
  What is reached: the closure that meets a word.
  What is reached, in plain words.
  What stands at a spot, its words where the dump's own lie.
-/
import Derived.Test.YtlmpmjhanpkcnaaGreatN08
import Derived.DeepKeys5
import Derived.Maps.OwnSet
import Derived.Maps.OwnOps
set_option linter.unusedVariables false
set_option linter.unusedSimpArgs false
namespace Go.Proofs.YtlmpmjhanpkcnaaGreat
open Go.RowKit

/-- What a word stands for. -/
def readP (asks : Bool) (S : List Slt) (m : List Frg) (x : Nat) : Option Tm := (termP asks S m 301 300 x).map (·.1)

def ReadEnd (w w' : World) (r : Option Tm) (e : Ending) : Prop :=
  ∃ (tv : Value) (t : Tm), e = .returned (.tuple #[tv, .bool r.isSome]) ∧ TmAt (fun k => w.heap.size ≤ k) w' tv t ∧ (∀ t', r = some t' → t' = t) ∧ Below w.heap.size w w'

theorem read_at {w W : World} {b : Nat} {tk tn : Int} {tneg : Bool} {tm : Value} {tbits : Int} {tbytes : ByteArray} {ta : Value} {t : Tm} {r : Option Tm} (hb : w.heap.size ≤ b)
    (ht : TmAt (fun k => b < k) W (.agg #[.int .i64 tk, .int .i64 tn, .bool tneg, tm, .int .u64 tbits, .string tbytes, ta]) t) (hg : Below w.heap.size w W) (hp : ∀ p, r = some p → p = t) :
    ReadEnd w (set7 W b (.int .i64 tk) (.int .i64 tn) (.bool tneg) tm (.int .u64 tbits) (.string tbytes) ta) r (.returned (.tuple #[.agg #[.int .i64 tk, .int .i64 tn, .bool tneg, tm, .int .u64 tbits, .string tbytes, ta], .bool r.isSome])) :=
  ⟨_, t, rfl, (ht.lift (fun k hk _ => set7_off _ _ _ _ _ _ _ _ _ (by omega))).mono (fun k hk _ => by omega), hp, set7_below hg hb _ _ _ _ _ _ _⟩

set_option maxHeartbeats 4000000 in
set_option maxRecDepth 100000 in
theorem memRead_any (mv sv : Value) (asks : Bool) (S : List Slt) (m : List Frg) (x : Nat) (w : World) (hm : RsAt w mv m) (hS : SlAt w sv S) (hx : x < 18446744073709551616) :
    Calls Tryz.prog 81 #[mv, sv, .bool asks, .int .u64 x] w fun e w' => ReadEnd w w' (readP asks S m x) e := by
  obtain ⟨r, hr⟩ : ∃ r, readP asks S m x = r := ⟨_, rfl⟩
  rw [hr]
  have HE := Lib.hid hr
  have T := two_at w (.cells #[.int .i64 0, .int .i64 0, .bool false, .slice none 0 0, .int .u64 0, .string ⟨#[]⟩, .slice none 0 0] 81) (.cells #[mv, sv, .bool asks, .int .i64 300] 153)
  have hmv := hm
  have hsv := hS
  obtain ⟨-, ma, mc, rfl, -⟩ := hmv
  obtain ⟨-, sa, sc, rfl, -⟩ := hsv
  have HM := Lib.hid hm
  have HS := Lib.hid hS
  clear hm hS hr
  go_enter Tryz.func81, Tryz.ntmps81
  go_wp2_with fail
  generalize (w.alloc (.cells #[.int .i64 0, .int .i64 0, .bool false, .slice none 0 0, .int .u64 0, .string ⟨#[]⟩, .slice none 0 0] 81)).alloc (.cells #[.slice ma m.length mc, .slice sa S.length sc, .bool asks, .int .i64 300] 153) = W at *
  have X0 := Lib.hid T.1
  have XR := Lib.hid (show RdAt W (w.heap.size + 1) (.slice ma m.length mc) (.slice sa S.length sc) asks ((300 : Nat) : Int) from T.2.1)
  have XS := Lib.hid T.2.2.1
  have XB := Lib.hid T.2.2.2
  clear T
  refine (term_any (w.heap.size + 1) _ _ asks S m w (by omega) HM.out HS.out 300 300 x W (by omega) (by omega) hx XR.out XB.out).mono ?_
  rintro e w2 ⟨tv, t, lf, rfl, ht, hrd, hgr, hp⟩
  obtain ⟨tk, tn, tneg, tma, tml, tmc, tbits, tbytes, ta, tlen, tcap, rfl⟩ := ht.shape
  have HIS := Lib.hid (show (termP asks S m (300 + 1) 300 x).isSome = r.isSome by rw [← HE.out]; unfold readP; cases termP asks S m 301 300 x <;> rfl)
  rw [HIS.out]
  have HP := Lib.hid (show ∀ p, r = some p → p = t from fun p h => by
    rw [← HE.out] at h
    unfold readP at h
    cases hq : termP asks S m 301 300 x with
    | none => rw [hq] at h; cases h
    | some q => rw [hq] at h; cases h; exact (hp q hq).1)
  have U0 := Lib.hid ((hgr.block w.heap.size (by have := XS.out; omega) (by simp)).trans X0.out)
  have US := Lib.hid (show w.heap.size + 2 ≤ w2.heap.size by have := XS.out; have := hgr.size; omega)
  have UB := Lib.hid (XB.out.trans (grown_low hgr (by omega) XB.out.size))
  have UT := Lib.hid (ht.mono (Q := fun b => w.heap.size < b) (fun b hb _ => by have := XS.out; omega))
  clear ht hrd hgr hp HIS
  have A1 := fun o => (Below.heap_alloc w2 o w.heap.size (by have := US.out; omega)).trans U0.out
  have a1 := fun o i => cell_of (A1 o) i
  have f1 := fun o i => free_of (A1 o) i
  clear A1
  cases r with
  | none =>
    go_wp2_with fail
    have A := read_at (b := w.heap.size) (r := none) (Nat.le_refl _) (TmAt.zero _) (UB.out.alloc UB.out.size (.cells #[.int .i64 tk, .int .i64 tn, .bool tneg, .slice tma tml tmc, .int .u64 tbits, .string tbytes, .slice ta tlen tcap] 81)) (fun p hp => by cases hp)
    refine bodyPost_ret (v := .tuple #[.agg #[.int .i64 0, .int .i64 0, .bool false, .slice none 0 0, .int .u64 0, .string ⟨#[]⟩, .slice none 0 0], .bool false]) (by simp [results, Tryz.results81, go_sem, a1, f1]) rfl A
  | some t' =>
    go_wp2_with fail
    have A := read_at (b := w.heap.size) (r := some t') (Nat.le_refl _) (UT.out.lift (w' := w2.alloc (.cells #[.int .i64 tk, .int .i64 tn, .bool tneg, .slice tma tml tmc, .int .u64 tbits, .string tbytes, .slice ta tlen tcap] 81)) (fun k _ hk => Below.heap_alloc _ _ _ hk)) (UB.out.alloc UB.out.size _) HP.out
    refine bodyPost_ret (v := .tuple #[.agg #[.int .i64 tk, .int .i64 tn, .bool tneg, .slice tma tml tmc, .int .u64 tbits, .string tbytes, .slice ta tlen tcap], .bool true]) (by simp [results, Tryz.results81, go_sem, a1, f1]) rfl A

end Go.Proofs.YtlmpmjhanpkcnaaGreat

namespace Go.Proofs.YtlmpmjhanpkcnaaGreat
open Go.RowKit Go.Maps

/-- A family of keys. -/
structure Fam (α : Type) (k : TypeId) where
  val : α → Value
  lit : α → Lit
  ok : α → Prop
  key : ∀ x, ok x → keyOf Tryz.prog k (val x) = some (lit x)
  inj : ∀ x y, val x = val y → x = y

theorem Fam.lit_ne {α : Type} {k : TypeId} (F : Fam α k) (K : Keyed Tryz.prog k) {x y : α} (hx : F.ok x) (hy : F.ok y) (h : x ≠ y) : F.lit x ≠ F.lit y := fun e =>
  h (F.inj x y (K.inj (F.key x hx) (by rw [e]; exact F.key y hy)))

/-- A map that holds a set. -/
def SetAt {α : Type} [DecidableEq α] {k : TypeId} (F : Fam α k) (w : World) (b : Nat) (S : List α) : Prop :=
  ∃ (D : DataW Unit) (n : Nat), w.ownsMap Tryz.prog k (plainElem Tryz.prog 4) b n D ∧ n ≤ S.length ∧ IsMap D ∧ ∀ x, F.ok x → D.atKey (F.lit x) (.lit (.bool false)) = .lit (.bool (decide (x ∈ S)))

section
variable {α : Type} [DecidableEq α] {k : TypeId} {F : Fam α k} {w : World} {b : Nat} {S : List α}

theorem SetAt.made (F : Fam α k) (w : World) : SetAt F (w.alloc (.map #[] 0)) w.heap.size [] :=
  ⟨.map [], 0, World.ownsMap_made w _ _ _, Nat.le_refl _, ⟨_, rfl⟩, fun x _ => by simp [DataW.atKey]⟩

theorem SetAt.lt (h : SetAt F w b S) : b < w.heap.size := by
  obtain ⟨D, n, h1, _⟩ := h; exact h1.lt

theorem SetAt.kept {w' : World} {row : Option Nat} (h : SetAt F w b S) (hg : w.grownBy w' row) (hne : some b ≠ row) : SetAt F w' b S := by
  obtain ⟨D, n, h1, h2⟩ := h; exact ⟨D, n, h1.kept hg hne, h2⟩

theorem SetAt.block {w' : World} (h : SetAt F w b S) (hb : w'.heap[b]? = w.heap[b]?) : SetAt F w' b S := by
  obtain ⟨D, n, ⟨es, cl, h1, h3⟩, h2⟩ := h
  exact ⟨D, n, ⟨es, cl, hb.trans h1, h3⟩, h2⟩

theorem plainElem_bool_inv {P : Program} {e : TypeId} (he : P.underlying e = some .bool) {v : Value} {z : DataW Unit × List MemPlace} (h : plainElem P e v = some z) : ∃ x, v = .bool x ∧ z = (.lit (.bool x), []) := by
  unfold plainElem at h
  rw [he] at h
  cases v <;> simp at h
  subst h
  exact ⟨_, rfl, rfl⟩

theorem zero4 (w : World) : (zeroValue 4).run Tryz.prog w = .ok (.bool false) w := by kernel_rfl

theorem SetAt.look {t : TypeId} (h : SetAt F w b S) (K : Keyed Tryz.prog k) (ht : Tryz.prog.underlying t = some (.map k 4)) {x : α} (hx : F.ok x) :
    (Instr.lookup t (.map (some b)) (F.val x) false).run Tryz.prog w = .ok (.bool (decide (x ∈ S))) w := by
  obtain ⟨D, n, h1, h2, h3, h4⟩ := h
  obtain ⟨v, ps, hrun, hv⟩ := h1.lookup K ht (zero4 w) (plainElem_bool Tryz.underlying4 false) (F.key x hx)
  obtain ⟨c, rfl, hc⟩ := plainElem_bool_inv Tryz.underlying4 hv
  rw [h4 x hx] at hc
  simp only [Prod.mk.injEq, DataW.lit.injEq, Lit.bool.injEq] at hc
  rw [hrun, hc.1]

theorem SetAt.put {t : TypeId} (h : SetAt F w b S) (K : Keyed Tryz.prog k) (ht : Tryz.prog.underlying t = some (.map k 4)) (hS : S.length ≤ 1000000) {x : α} (hx : F.ok x) :
    ∃ w', (Instr.mapUpdate t (.map (some b)) (F.val x) (.bool true)).run Tryz.prog w = .ok () w' ∧ SetAt F w' b (S ++ [x]) ∧ w.grownBy w' (some b) := by
  obtain ⟨D, n, h1, h2, h3, h4⟩ := h
  obtain ⟨w', hrun, ho, hg⟩ := h1.update K ht (by unfold maxLen; omega) (F.key x hx) (plainElem_bool Tryz.underlying4 true)
  refine ⟨w', hrun, ⟨_, _, ho, by simp; omega, h3.put _ _, fun y hy => ?_⟩, hg⟩
  by_cases e : y = x
  · subst e
    rw [atKey_put_same h3 (K.key (F.key y hy))]
    simp
  · rw [atKey_put_other (F.lit_ne K hy hx e), h4 y hy]
    simp [e]

/-- 'm[x]' at the operation. -/
theorem wpList_look_set {ops : Array Oper} {rest : List Oper} {o : Oper} {a : Act} {Q : Exit → Act → World → Prop} (hg : Region.wanted o (yielded ops a.tmps) = true) (m x : Operand) (t : TypeId) (hop : o.op = Op.lookup t m x false)
    (K : Keyed Tryz.prog k) (ht : Tryz.prog.underlying t = some (.map k 4)) (hm : a.eval m = .map (some b)) (h : SetAt F w b S) (y : α) (hy : F.ok y) (hx : a.eval x = F.val y) (c : Bool) (hc : y ∈ S ↔ c = true)
    (hK : wpList Tryz.prog ops Q rest (a.put o.dst (.bool c)) w) : wpList Tryz.prog ops Q (o :: rest) a w := by
  have hrun := h.look K ht hy
  rw [show decide (y ∈ S) = c by rw [Bool.eq_iff_iff, ← hc]; simp] at hrun
  refine wpList_step fun K' hK' => ?_
  rw [if_pos hg]
  unfold Oper.wp
  simp [execOp, hop, hm, hx, hrun, Result.andThen]
  exact hK' _ _ hK

/-- 'm[x] = true' at the operation. -/
theorem wpList_put_set {ops : Array Oper} {rest : List Oper} {o : Oper} {a : Act} {Q : Exit → Act → World → Prop} (hg : o.guard = none) (m x v : Operand) (t : TypeId) (hop : o.op = Op.mapUpdate t m x v)
    (K : Keyed Tryz.prog k) (ht : Tryz.prog.underlying t = some (.map k 4)) (hm : a.eval m = .map (some b)) (h : SetAt F w b S) (hS : S.length ≤ 1000000) (y : α) (hy : F.ok y) (hx : a.eval x = F.val y) (hv : a.eval v = .bool true)
    (hK : ∀ w', SetAt F w' b (S ++ [y]) → w.grownBy w' (some b) → wpList Tryz.prog ops Q rest (a.put o.dst undef) w') : wpList Tryz.prog ops Q (o :: rest) a w := by
  refine wpList_plain hg fun K' hK' => ?_
  obtain ⟨w', hrun, h1, h2⟩ := h.put K ht hS hy
  unfold Oper.wp
  simp [execOp, hop, hm, hx, hv, hrun, Result.andThen]
  exact hK' _ _ (hK w' h1 h2)

end

/-! ### Keys: numbers, spots -/

theorem K3 : Keyed Tryz.prog 3 := int_keyed Tryz.underlying3

theorem K68 : Keyed Tryz.prog 63 := Keyed.of_law (deep_law_gate (by kernel_rfl) (of_decide_eq_true (by kernel_rfl)) (of_decide_eq_true (by kernel_rfl)) (by kernel_rfl) (by kernel_rfl))

theorem keyOf_two {P : Program} {k e : TypeId} {f0 f1 : Field} (hu : P.underlying k = some (.struct #[f0, f1])) (hk : P.keyType k = true) (hc : P.cellsOf k = 2) (h0 : f0.offset = 0) (h1 : f1.offset = 1) (t0 : f0.type = e) (t1 : f1.type = e) (he : P.underlying e = some (.int .i64)) (hce : P.cellsOf e = 1)
    (hn : (#[f0, f1] : Array Field).all (·.name != "_") = true) (hsz : ∃ m, P.types.size = m + 1) {a b : Int} (wa : (Lit.int .i64 a).wf = true) (wb : (Lit.int .i64 b).wf = true) :
    keyOf P k (.agg #[.int .i64 a, .int .i64 b]) = some (.string (keyBytes [.int .i64 a, .int .i64 b])) := by
  obtain ⟨m, hm⟩ := hsz
  unfold keyOf
  simp only [hu]
  rw [if_pos (by simp [hk, Value.formed, hu, hc]), hm]
  unfold Program.keyLits
  simp only [hu, Value.cells]
  rw [if_pos ⟨by rw [hc]; rfl, hn⟩]
  rw [List.mapM_cons, List.mapM_cons, List.mapM_nil]
  simp [h0, h1, t0, t1, hce, Program.keyLits, he, wa, wb]

def spotLit (s : Int × Int) : Lit := .string (keyBytes [.int .i64 s.1, .int .i64 s.2])
abbrev spotV (s : Int × Int) : Value := .agg #[.int .i64 s.1, .int .i64 s.2]

theorem keyOf_spot (s : Int × Int) (h : In64 s.1 ∧ In64 s.2) : keyOf Tryz.prog 63 (spotV s) = some (spotLit s) :=
  keyOf_two Tryz.underlying63 (by kernel_rfl) (by kernel_rfl) rfl rfl rfl rfl Tryz.underlying3 (by kernel_rfl) (by kernel_rfl) ⟨188, by kernel_rfl⟩ (WalkArith.wf_i64 h.1) (WalkArith.wf_i64 h.2)

def spotFam : Fam (Int × Int) 63 where
  val := spotV
  lit := spotLit
  ok s := In64 s.1 ∧ In64 s.2
  key := keyOf_spot
  inj x y h := by
    simp only [spotV, Value.agg.injEq] at h
    obtain ⟨a, b⟩ := x
    obtain ⟨c, d⟩ := y
    simp at h
    obtain ⟨rfl, rfl⟩ := h
    rfl

end Go.Proofs.YtlmpmjhanpkcnaaGreat

namespace Go.Proofs.YtlmpmjhanpkcnaaGreat
open Go.RowKit Go.Maps

theorem info68 : (Tryz.prog.info? 63).map (fun i => (i.zero, i.size, i.bytes)) = some (some (.agg #[.int .i64 0, .int .i64 0]), 2, 16) := by kernel_rfl

abbrev Spt := Int × Int

/-- Spots as cells. -/
def csS (l : List Spt) : List Value := l.flatMap fun s => [.int .i64 s.1, .int .i64 s.2]

theorem csS_snoc (l : List Spt) (s : Spt) : csS (l ++ [s]) = csS l ++ [.int .i64 s.1, .int .i64 s.2] := by simp [csS]

/-- What is met, and which of it is an object. -/
def meetP (m : List Frg) (c : List Spt × List Spt) (x : Nat) : List Spt × List Spt :=
  match toP x with
  | none => c
  | some s => if s ∈ c.2 then c else (if (objP m s.1 s.2).isSome then c.1 ++ [s] else c.1, c.2 ++ [s])

/-- The walk's variables as they lie: the dump, the row, the set. -/
structure RSt (w0 : World) (m : List Frg) (mv : Value) (w : World) (c : List Spt × List Spt) : Prop where
  rs : RsAt w0 mv m
  hM : w.heap[w0.heap.size]? = some (.cells #[mv] 55 (0, 0))
  hl : ∃ v, w.heap[w0.heap.size + 1]? = some (.cells #[v] 65 (0, 0)) ∧ w.ownsRow (w0.heap.size + 4) 63 2 v c.1.length (csS c.1)
  hp : SetAt spotFam w (w0.heap.size + 2) c.2
  hm : w.heap[w0.heap.size + 3]? = some (.cells #[.map (some (w0.heap.size + 2))] 90 (0, 0))
  size : w0.heap.size + 4 ≤ w.heap.size
  below : Below w0.heap.size w0 w

theorem RSt.lift {w0 w w' : World} {m : List Frg} {mv : Value} {c : List Spt × List Spt} (h : RSt w0 m mv w c) (hb : Below w.heap.size w w') : RSt w0 m mv w' c := by
  obtain ⟨h1, h2, ⟨v, h3, h4⟩, h5, h6, h7, h8⟩ := h
  have hg : w.grownBy w' none := ⟨hb.os, hb.tape, hb.output, hb.size, fun k hk _ => hb.block k hk⟩
  exact ⟨h1, (hb.block _ (by omega)).trans h2, ⟨v, (hb.block _ (by omega)).trans h3, h4.kept hg (by cases hv : v.ownBlock; exact .inl rfl; exact .inr (by simp))⟩, h5.kept hg (by simp), (hb.block _ (by omega)).trans h6, Nat.le_trans h7 hb.size, h8.trans (hb.mono (by omega))⟩

theorem RSt.met {w0 w w' : World} {m : List Frg} {mv : Value} {l S S' : List Spt} (h : RSt w0 m mv w (l, S)) (hs : SetAt spotFam w' (w0.heap.size + 2) S') (hg : w.grownBy w' (some (w0.heap.size + 2))) : RSt w0 m mv w' (l, S') := by
  obtain ⟨h1, h2, ⟨v, h3, h4⟩, h5, h6, h7, h8⟩ := h
  refine ⟨h1, (hg.block _ (by omega) (by simp)).trans h2, ⟨v, (hg.block _ (by omega) (by simp)).trans h3, h4.kept hg ?_⟩, hs, (hg.block _ (by omega) (by simp)).trans h6, Nat.le_trans h7 hg.size, h8.trans ⟨hg.os, hg.tape, hg.output, hg.size, fun k hk => hg.block k (by omega) (by simp; omega)⟩⟩
  by_cases hv : v.ownBlock = none
  · exact .inl hv
  · exact .inr (fun e => by have := (h4.lt _ e).1; omega)

theorem RSt.pushed {w0 w w' : World} {m : List Frg} {mv v v' : Value} {l l' S : List Spt} (h : RSt w0 m mv w (l, S)) (hv : w.heap[w0.heap.size + 1]? = some (.cells #[v] 65 (0, 0)) ∧ w.ownsRow (w0.heap.size + 4) 63 2 v l.length (csS l)) (hg : w.grownBy w' v.ownBlock)
    (ho : w'.ownsRow (w0.heap.size + 4) 63 2 v' l'.length (csS l')) : RSt w0 m mv (w'.setCell ⟨w0.heap.size + 1, 0, none⟩ v') (l', S) := by
  obtain ⟨h1, h2, -, h5, h6, h7, h8⟩ := h
  have hb := fun b (hb : b < w0.heap.size + 4) => hg.block b (by omega) (fun e => by have := (hv.2.lt b e.symm).1; omega)
  refine ⟨h1, ?_, ⟨v', ?_, ownsRow_setCell_below ho (by simp) _⟩, h5.block ?_, ?_, ?_, h8.trans ⟨hg.os, hg.tape, hg.output, by simpa [World.setCell] using hg.size, fun k hk => ?_⟩⟩
  · rw [Below.heap_setCell _ _ _ _ (by simp), hb _ (by omega)]; exact h2
  · rw [set_of ((hb _ (by omega)).trans hv.1)]; rfl
  · rw [Below.heap_setCell _ _ _ _ (by simp), hb _ (by omega)]
  · rw [Below.heap_setCell _ _ _ _ (by simp), hb _ (by omega)]; exact h6
  · have := hg.size; simp [World.setCell]; omega
  · rw [Below.heap_setCell _ _ _ _ (by simp; omega), hb _ (by omega)]

set_option maxHeartbeats 8000000 in
set_option maxRecDepth 100000 in
theorem meet_any (w0 : World) (m : List Frg) (mv : Value) (c : List Spt × List Spt) (x : Nat) (w : World) (h : RSt w0 m mv w c) (hx : x < 18446744073709551616) (hc1 : c.1.length ≤ 100000) (hc2 : c.2.length ≤ 100000) :
    Calls Tryz.prog 58 #[.int .u64 x, .pointer (some ⟨w0.heap.size + 3, 0, none⟩), .pointer (some ⟨w0.heap.size, 0, none⟩), .pointer (some ⟨w0.heap.size + 1, 0, none⟩)] w fun e w' => e = .returned (.tuple #[]) ∧ RSt w0 m mv w' (meetP m c x) := by
  obtain ⟨i0, hi, hz0, hz1, hz2⟩ := info_parts info68
  have H := Lib.hid h
  obtain ⟨l, S⟩ := c
  simp only at hc1 hc2
  obtain ⟨r, hr⟩ : ∃ r, meetP m (l, S) x = r := ⟨_, rfl⟩
  have HR := Lib.hid hr
  rw [hr]
  clear h hr
  go_enter Tryz.func58, Tryz.ntmps58
  go_wp2_with fail
  refine (to_any x hx _).mono ?_
  rintro e w1 ⟨he, hb1⟩
  unfold ToEnd at he
  have H1 := Lib.hid (H.out.lift hb1)
  clear hb1
  cases ht : toP x with
  | none =>
    rw [ht] at he
    subst he
    have HE := Lib.hid (show r = (l, S) by rw [← HR.out]; unfold meetP; rw [ht])
    clear ht
    go_wp2_with fail
    exact bodyPost_ret (v := .tuple #[]) (by simp [results, Tryz.results58, go_sem]) rfl ⟨rfl, by rw [HE.out]; exact H1.out.lift ((Below.refl _ _).alloc (Nat.le_refl _) _)⟩
  | some s =>
    rw [ht] at he
    subst he
    obtain ⟨a, t⟩ := s
    have ha := toP_in ht hx
    have htt : t = 4 ∨ t = 5 := by
      unfold toP at ht
      split at ht
      · rename_i q; cases ht; omega
      · cases ht
    simp only at ha
    have HOK := Lib.hid (show spotFam.ok (a, t) from ⟨ha, by constructor <;> simp only <;> omega⟩)
    have HT := Lib.hid ht
    have HA := Lib.hid ha
    have B2 := Below.alloc (Below.refl w1.heap.size w1) (Nat.le_refl _) (.cells #[.int .i64 a, .int .i64 t] 63)
    have X2 := World.alloc_heap_new w1 (.cells #[.int .i64 a, .int .i64 t] 63)
    have S2 : w1.heap.size < (w1.alloc (.cells #[.int .i64 a, .int .i64 t] 63)).heap.size := by simp
    clear ht ha htt
    go_upto_region 1 with fail
    generalize w1.alloc (.cells #[.int .i64 a, .int .i64 t] 63) = W at *
    have H2 := Lib.hid (H1.out.lift B2)
    have HX2 := Lib.hid X2
    have HS2 := Lib.hid S2
    have HS1 := Lib.hid H1.out.size
    clear B2 X2 S2
    have c3 := cell_of H2.out.hm 0
    have b0 := cell_of HX2.out 0
    have b1 := cell_of HX2.out 1
    simp at c3 b0 b1
    obtain ⟨inS, hin⟩ : ∃ inS : Bool, (a, t) ∈ S ↔ inS = true := ⟨decide ((a, t) ∈ S), by simp⟩
    have HIN := Lib.hid hin
    clear hin
    have HSA := Lib.hid (show SetAt spotFam W (w0.heap.size + 2) S from H2.out.hp)
    cases inS with
    | true =>
      have HE := Lib.hid (show r = (l, S) by rw [← HR.out]; unfold meetP; rw [HT.out]; simp only; rw [if_pos (HIN.out.2 rfl)])
      go_wp2_with (at_lookup; refine wpList_look_set rfl (.tmp 17) (.tmp 18) 90 rfl K68 Tryz.underlying90 rfl H2.out.hp (a, t) HOK.out rfl true HIN.out ?_)
      exact bodyPost_ret (v := .tuple #[]) (by simp [results, Tryz.results58, go_sem]) rfl ⟨rfl, by rw [HE.out]; exact H2.out⟩
    | false =>
      have HE := Lib.hid (show r = (if (objP m a t).isSome then l ++ [(a, t)] else l, S ++ [(a, t)]) by rw [← HR.out]; unfold meetP; rw [HT.out]; simp only; rw [if_neg (fun q => by have := HIN.out.1 q; cases this)])
      go_wp2_with (first
        | (at_lookup; refine wpList_look_set rfl (.tmp 17) (.tmp 18) 90 rfl K68 Tryz.underlying90 rfl H2.out.hp (a, t) HOK.out rfl false HIN.out ?_)
        | (at_mapUpdate; refine wpList_put_set rfl (.tmp 21) (.tmp 22) (.const (.bool true)) 90 rfl K68 Tryz.underlying90 rfl HSA.out (by omega) (a, t) HOK.out rfl rfl ?_; intro w5 hset hgr
           have H5 := Lib.hid (H2.out.met hset hgr)
           have HX5 := Lib.hid ((hgr.block w1.heap.size HS2.out (by have := HS1.out; simp; omega)).trans HX2.out)
           have HS5 := Lib.hid (Nat.lt_of_lt_of_le HS2.out hgr.size)
           have e0 := cell_of HX5.out 0
           have e1 := cell_of HX5.out 1
           have e2 := cell_of H5.out.hM 0
           simp at e0 e1 e2
           clear hset hgr))
      refine (object_any m mv a t w5 (H5.out.rs.below H5.out.below) HA.out).mono ?_
      rintro e w6 ⟨⟨k', v', l', ok, rfl, hws, hok, -⟩, hb6⟩
      obtain ⟨-, -, va, vc, rfl, -⟩ := hws
      have H6 := Lib.hid (H5.out.lift hb6)
      have HX6 := Lib.hid ((hb6.block w1.heap.size HS5.out).trans HX5.out)
      have HS6 := Lib.hid (Nat.lt_of_lt_of_le HS5.out hb6.size)
      rw [← hok] at HE
      clear hb6 hok e0 e1 e2 c3 b0 b1
      cases ok with
      | false =>
        have HE2 := Lib.hid (show r = (l, S ++ [(a, t)]) from HE.out)
        go_wp2_with fail
        go_end0
        exact ⟨rfl, by rw [HE2.out]; exact H6.out.lift ((Below.refl _ _).alloc (Nat.le_refl _) _)⟩
      | true =>
        have HE2 := Lib.hid (show r = (l ++ [(a, t)], S ++ [(a, t)]) from HE.out)
        obtain ⟨v, hv1, hv2⟩ := H6.out.hl
        have HV1 := Lib.hid hv1
        have HV2 := Lib.hid hv2
        have d0 := fun o => cell_of ((Below.heap_alloc w6 o w1.heap.size HS6.out).trans HX6.out) 0
        have d1 := fun o => cell_of ((Below.heap_alloc w6 o w1.heap.size HS6.out).trans HX6.out) 1
        have d2 := fun o => cell_of ((Below.heap_alloc w6 o (w0.heap.size + 1) (by have := H6.out.size; omega)).trans hv1) 0
        simp at d0 d1 d2
        clear hv1 hv2
        have LL := Lib.hid (((Below.refl w6.heap.size w6).alloc (Nat.le_refl _) (.cells #[.int .i64 k', .slice va l'.length vc] 107)).alloc (by simp) (.cells #[.int .i64 a, .int .i64 t] 63))
        have H8 := Lib.hid (H6.out.lift LL.out)
        have HS66 := Lib.hid H6.out.size
        go_wp2_with (at_builtin; refine wpList_append_own_at _ rfl (.tmp 30) (.tmp 32) 65 rfl (w0.heap.size + 4) 63 i0 _ 2 16 Tryz.underlying65 hi hz0 hz1 hz2 rfl (by decide) v l.length (csS l) rfl (World.ownsRow.alloc (World.ownsRow.alloc HV2.out _) _) _ 1 1 [.int .i64 a, .int .i64 t] rfl rfl (fun i u hi => by
            match i with
            | 0 => simp at hi; subst hi; simp [Addr.add_lit]
            | 1 => simp at hi; subst hi; simp [Addr.add_lit]
            | i + 2 => simp at hi) (fun u hu => by simp at hu; rcases hu with rfl | rfl <;> rfl) (by unfold maxLen; omega) (by omega) (by have := HS66.out; simp; omega) ?_; intro v9 w9 hown9 hgrow9 _ hloc9
                     have HG9 := Lib.hid hgrow9
                     have HO9 := Lib.hid (show w9.ownsRow (w0.heap.size + 4) 63 2 v9 (l ++ [(a, t)]).length (csS (l ++ [(a, t)])) by rw [csS_snoc, List.length_append]; exact hown9)
                     obtain ⟨vb, vcc, rfl⟩ := own_slice hown9
                     have V9 := Lib.hid (show w9.heap[w0.heap.size + 1]? = some (.cells #[v] 65 (0, 0)) from (hgrow9.block _ (by have := HS66.out; simp; omega) (fun e => by have := (HV2.out.lt _ e.symm).1; omega)).trans ((LL.out.block _ (by have := HS66.out; omega)).trans HV1.out))
                     have g0 := cell_of V9.out 0
                     have g1 := free_of V9.out 0
                     simp at g0
                     clear hown9 hgrow9 hloc9 d0 d1 d2)
        go_end0
        refine ⟨rfl, ?_⟩
        rw [HE2.out]
        exact H8.out.pushed (v := v) ⟨(LL.out.block _ (by have := HS66.out; omega)).trans HV1.out, World.ownsRow.alloc (World.ownsRow.alloc HV2.out _) _⟩ HG9.out HO9.out

end Go.Proofs.YtlmpmjhanpkcnaaGreat

namespace Go.Proofs.YtlmpmjhanpkcnaaGreat

/-! ### Lists without twins -/

theorem nodup_sub {α : Type} [DecidableEq α] : ∀ {l L : List α}, l.Nodup → (∀ x ∈ l, x ∈ L) → l.length ≤ L.length
  | [], _, _, _ => Nat.zero_le _
  | a :: r, L, h, hs => by
    obtain ⟨h1, h2⟩ := List.nodup_cons.1 h
    have ha := hs a (by simp)
    have := nodup_sub (L := L.erase a) h2 (fun x hx => (List.mem_erase_of_ne (fun e => h1 (by subst e; exact hx))).2 (hs x (by simp [hx])))
    rw [List.length_erase_of_mem ha] at this
    have hp := List.length_pos_of_mem ha
    simp only [List.length_cons]; omega

/-- The sum of what a function says of a list's elements. -/
def sumP {α : Type} (f : α → Nat) (l : List α) : Nat := (l.map f).sum

/-! ### Reached -/

/-- The spots of all objects that roots lead to. -/
inductive Reach (m : List Frg) (roots : List Nat) : Spt → Prop
  | root {x : Nat} {s : Spt} (hx : x ∈ roots) (ht : toP x = some s) (ho : (objP m s.1 s.2).isSome = true) : Reach m roots s
  | step {s s' : Spt} {o : Int × List Nat} {x : Nat} (h : Reach m roots s) (ho : objP m s.1 s.2 = some o) (hx : x ∈ leadW o.1 o.2) (ht : toP x = some s') (ho' : (objP m s'.1 s'.2).isSome = true) : Reach m roots s'

theorem Reach.ok {m : List Frg} {roots : List Nat} {s : Spt} (h : Reach m roots s) : (objP m s.1 s.2).isSome = true := by cases h <;> assumption

theorem Reach.mono {m : List Frg} {r r' : List Nat} (h : ∀ x ∈ r, x ∈ r') {s : Spt} (hs : Reach m r s) : Reach m r' s := by
  induction hs with
  | root hx ht ho => exact .root (h _ hx) ht ho
  | step _ ho hx ht ho' ih => exact .step ih ho hx ht ho'

/-- A list of just what is reached. -/
def ReachL (m : List Frg) (roots : List Nat) (l : List Spt) : Prop := l.Nodup ∧ ∀ s, s ∈ l ↔ Reach m roots s

/-- As far as it is gone. -/
structure RInv (m : List Frg) (roots : List Nat) (c : List Spt × List Spt) : Prop where
  nod : c.1.Nodup
  sub : ∀ s ∈ c.1, s ∈ c.2
  comp : ∀ s ∈ c.2, (objP m s.1 s.2).isSome = true → s ∈ c.1
  snd : ∀ s ∈ c.1, Reach m roots s
  tag : ∀ s ∈ c.1, s.2 = 4 ∨ s.2 = 5
  bnd : ∀ s ∈ c.1, In64 s.1

theorem RInv.start (m : List Frg) (roots : List Nat) : RInv m roots ([], []) := ⟨List.nodup_nil, (fun s h => by cases h), (fun s h => by cases h), (fun s h => by cases h), (fun s h => by cases h), (fun s h => by cases h)⟩

/-- A word that may be met. -/
def Good (m : List Frg) (roots : List Nat) (x : Nat) : Prop := ∀ s, toP x = some s → (objP m s.1 s.2).isSome = true → Reach m roots s

def Met (c : List Spt × List Spt) (x : Nat) : Prop := ∀ s, toP x = some s → s ∈ c.2

theorem toP_tag {x : Nat} {s : Spt} (h : toP x = some s) : s.2 = 4 ∨ s.2 = 5 := by
  unfold toP at h
  split at h
  · rename_i q; cases h; simp only; omega
  · cases h

theorem RInv.meet {m : List Frg} {roots : List Nat} {c : List Spt × List Spt} (h : RInv m roots c) {x : Nat} (hx : x < 18446744073709551616) (hg : Good m roots x) : RInv m roots (meetP m c x) ∧ Met (meetP m c x) x ∧ (∀ s ∈ c.2, s ∈ (meetP m c x).2) ∧ (meetP m c x).2.length ≤ c.2.length + 1 ∧ (∃ t, (meetP m c x).1 = c.1 ++ t) := by
  unfold meetP
  cases ht : toP x with
  | none => exact ⟨h, (fun s hs => by rw [ht] at hs; cases hs), (fun s hs => hs), Nat.le_succ _, [], by simp⟩
  | some s =>
    simp only
    by_cases hs : s ∈ c.2
    · rw [if_pos hs]
      exact ⟨h, (fun s' hs' => by rw [ht] at hs'; cases hs'; exact hs), (fun s hs => hs), by omega, [], by simp⟩
    · rw [if_neg hs]
      refine ⟨?_, (fun s' hs' => by rw [ht] at hs'; cases hs'; simp), (fun s' hs' => by simp [hs']), by simp, ?_⟩
      · by_cases ho : (objP m s.1 s.2).isSome = true
        · simp only [ho, if_true]
          refine ⟨?_, fun s' hs' => ?_, fun s' hs' ho' => ?_, fun s' hs' => ?_, fun s' hs' => ?_, fun s' hs' => ?_⟩
          · rw [List.nodup_append]
            exact ⟨h.nod, by simp, fun a ha b hb => by simp at hb; subst hb; intro e; subst e; exact hs (h.sub _ ha)⟩
          · rcases List.mem_append.1 hs' with q | q
            · exact List.mem_append.2 (.inl (h.sub _ q))
            · exact List.mem_append.2 (.inr q)
          · rcases List.mem_append.1 hs' with q | q
            · exact List.mem_append.2 (.inl (h.comp _ q ho'))
            · exact List.mem_append.2 (.inr q)
          · rcases List.mem_append.1 hs' with q | q
            · exact h.snd _ q
            · simp at q; subst q; exact hg s' ht ho
          · rcases List.mem_append.1 hs' with q | q
            · exact h.tag _ q
            · simp at q; subst q; exact toP_tag ht
          · rcases List.mem_append.1 hs' with q | q
            · exact h.bnd _ q
            · simp at q; subst q; exact toP_in ht hx
        · have hf : (objP m s.1 s.2).isSome = false := by simpa using ho
          simp only [hf]
          refine ⟨h.nod, fun s' hs' => List.mem_append.2 (.inl (h.sub _ hs')), fun s' hs' ho' => ?_, h.snd, h.tag, h.bnd⟩
          rcases List.mem_append.1 hs' with q | q
          · exact h.comp _ q ho'
          · simp at q; subst q; exact absurd ho' ho
      · split
        · exact ⟨[s], rfl⟩
        · exact ⟨[], by simp⟩

/-- All spots that there can be. -/
def allS (m : List Frg) : List Spt := m.flatMap fun f => (List.range f.2.length).flatMap fun (j : Nat) => [((f.1 + (j : Int), (4 : Int)) : Spt), (f.1 + (j : Int), (5 : Int))]

def wordsN (m : List Frg) : Nat := (m.map fun f => f.2.length).sum

theorem sum_two {α : Type} (l : List α) : (l.map fun _ => 2).sum = 2 * l.length := by
  induction l with
  | nil => rfl
  | cons a r ih => simp only [List.map_cons, List.sum_cons, List.length_cons, ih]; omega

theorem allS_length (m : List Frg) : (allS m).length = 2 * wordsN m := by
  unfold allS wordsN
  induction m with
  | nil => rfl
  | cons f r ih =>
    rw [List.flatMap_cons, List.length_append, ih, List.map_cons, List.sum_cons]
    have : ((List.range f.2.length).flatMap fun (j : Nat) => [((f.1 + (j : Int), (4 : Int)) : Spt), (f.1 + (j : Int), (5 : Int))]).length = 2 * f.2.length := by
      rw [List.length_flatMap]; simp only [List.length_cons, List.length_nil]; rw [sum_two, List.length_range]
    omega

theorem wordsP_in : ∀ {m : List Frg} {a n : Int} {l : List Nat}, wordsP m a n = some l → ∃ f ∈ m, ∃ j : Nat, j < f.2.length ∧ a = f.1 + j
  | [], _, _, _, h => by cases h
  | f :: r, a, n, l, h => by
    unfold wordsP at h
    split at h
    · rename_i hin
      unfold inP at hin
      simp at hin
      exact ⟨f, by simp, (a - f.1).toNat, by omega, by omega⟩
    · obtain ⟨g, hg, q⟩ := wordsP_in h
      exact ⟨g, by simp [hg], q⟩

theorem objP_in {m : List Frg} {s : Spt} (h : (objP m s.1 s.2).isSome = true) (ht : s.2 = 4 ∨ s.2 = 5) : s ∈ allS m := by
  have hw : ∃ n l, wordsP m s.1 n = some l := by
    unfold objP at h
    split at h
    · cases hq : wordsP m s.1 2 with
      | none => rw [hq] at h; cases h
      | some l => exact ⟨2, l, hq⟩
    · unfold headAt at h
      cases hq : wordsP m s.1 1 with
      | none => rw [hq] at h; cases h
      | some l => exact ⟨1, l, hq⟩
  obtain ⟨n, l, hw⟩ := hw
  obtain ⟨f, hf, j, hj, ha⟩ := wordsP_in hw
  unfold allS
  rw [List.mem_flatMap]
  refine ⟨f, hf, ?_⟩
  rw [List.mem_flatMap]
  refine ⟨j, by simpa using hj, ?_⟩
  obtain ⟨x, t⟩ := s
  simp only at ha ht
  subst ha
  rcases ht with rfl | rfl <;> simp

theorem RInv.le {m : List Frg} {roots : List Nat} {c : List Spt × List Spt} (h : RInv m roots c) : c.1.length ≤ 2 * wordsN m := by
  rw [← allS_length]
  exact nodup_sub h.nod (fun s hs => objP_in (h.snd s hs).ok (h.tag s hs))

/-- Gone to the end. -/
theorem RInv.done {m : List Frg} {roots : List Nat} {c : List Spt × List Spt} (h : RInv m roots c) (hr : ∀ x ∈ roots, Met c x) (hd : ∀ s ∈ c.1, ∀ o, objP m s.1 s.2 = some o → ∀ x ∈ leadW o.1 o.2, Met c x) : ReachL m roots c.1 := by
  refine ⟨h.nod, fun s => ⟨h.snd s, fun hs => ?_⟩⟩
  induction hs with
  | root hx ht ho => exact h.comp _ (hr _ hx _ ht) ho
  | step _ ho hx ht ho' ih => exact h.comp _ (hd _ ih _ ho _ hx _ ht) ho'

theorem lead_nat {m : List Frg} {k : Int} {l : List Nat} (h : ObjOK m k l) : ∃ fr tt : Nat, leadsP k l.length = ((fr : Int), (tt : Int)) ∧ fr ≤ tt ∧ tt ≤ l.length ∧ leadW k l = (l.drop fr).take (tt - fr) ∧ tt - fr ≤ 8 ∧ 1 ≤ l.length := by
  rcases h with (⟨rfl, h1⟩ | ⟨rfl, h1, h2⟩) | ⟨rfl, h1, _⟩ | ⟨rfl, h1⟩ | ⟨rfl, h1, _⟩ | ⟨rfl, h1⟩ | ⟨rfl, h1⟩
  · exact ⟨0, 2, rfl, by omega, by omega, rfl, by omega, by omega⟩
  · refine ⟨1, l.length, rfl, by omega, by omega, ?_, by omega, by omega⟩
    unfold leadW
    have e : leadsP 0 l.length = (1, (l.length : Int)) := rfl
    rw [e]
    congr 1
    simp only
    omega
  · exact ⟨0, 0, rfl, by omega, by omega, rfl, by omega, by omega⟩
  · exact ⟨0, 0, rfl, by omega, by omega, rfl, by omega, by omega⟩
  · exact ⟨0, 0, rfl, by omega, by omega, rfl, by omega, by omega⟩
  · have := flat4_parts h1
    exact ⟨0, 0, rfl, by omega, by omega, rfl, by omega, by omega⟩
  · have := right5_parts h1
    exact ⟨1, 2, rfl, by omega, by omega, rfl, by omega, by omega⟩

end Go.Proofs.YtlmpmjhanpkcnaaGreat

namespace Go.Proofs.YtlmpmjhanpkcnaaGreat
open Go.RowKit

set_option maxHeartbeats 4000000 in
set_option maxRecDepth 100000 in
theorem words_at (m : List Frg) (mv : Value) (a n : Int) (wz w : World) (hm : RsAt wz mv m) (hbz : Below wz.heap.size wz w) (ha : -9223372036854775808 ≤ a ∧ a ≤ 9223372036854775807) (hn : 0 ≤ n ∧ n ≤ 2000000) :
    Calls Tryz.prog 85 #[mv, .int .i64 a, .int .i64 n] w fun e w' => WordsEnd wz (wordsP m a n) e ∧ Below w.heap.size w w' := by
  have HM := Lib.hid hm
  have HBZ := Lib.hid hbz
  clear hbz
  obtain ⟨hl, ma, mcap, rfl, hc⟩ := hm
  have HC := Lib.hid hc
  unfold maxLen at hl
  clear hc
  go_enter Tryz.func85, Tryz.ntmps85
  go_wp2_with fail
  go_loopw [13] (fun i wr => ∃ (j : Nat), j ≤ m.length ∧ i = .int .i64 j ∧ Hid (wordsP m a n = wordsP (m.drop j) a n) ∧ Hid (Below w.heap.size w wr)) (fun i _ => m.length - (intOf i).toNat)
  case atStart => exact ⟨0, by omega, rfl, Lib.hid (by simp), Lib.hid (Below.refl _ _)⟩
  case round =>
    obtain ⟨j, hj, rfl, HW, HB⟩ := hrel
    by_cases hlt : j < m.length
    · obtain ⟨g, o, wa, wc, rfl, hi, k0, k1, hw⟩ := HC.out j hlt
      have l0 := ((HBZ.out.trans (HB.out.mono HBZ.out.size)).cell (World.block_lt_of_cell? wz _ k0)).trans k0
      have l1 := ((HBZ.out.trans (HB.out.mono HBZ.out.size)).cell (World.block_lt_of_cell? wz _ k1)).trans k1
      have HD := Lib.hid (wordsP_drop hlt a n)
      obtain ⟨⟨fa, fw⟩, hf⟩ : ∃ f, m[j] = f := ⟨_, rfl⟩
      rw [hf] at l0 l1 HD hi hw
      have HWS := Lib.hid hw
      have q4 : (j : Int) < (m.length : Int) := by omega
      have q5 : (0 : Int) ≤ (j : Int) := by omega
      have q6 : IntKind.i64.wrap ((j : Int) + 1) = (j : Int) + 1 := IntWalk.i64_in _ (by omega)
      clear k0 k1 hf hw
      go_wp2_with fail
      refine (in_any fa a wa fw.length wc _ ha).mono ?_
      rintro e w2 ⟨rfl, hb2⟩
      have e0 := hb2.cell (p := ⟨wr.heap.size, 0, none⟩) (by simp)
      have e1 := hb2.cell (p := ⟨wr.heap.size, 1, none⟩) (by simp)
      simp [go_sem] at e0 e1
      have HB2 := Lib.hid (HB.out.trans (((Below.refl wr.heap.size wr).alloc (Nat.le_refl _) (.cells #[.int .i64 fa, .slice wa fw.length wc] 24)).trans (hb2.mono (by simp)) |>.mono HB.out.size))
      clear hb2
      cases hin : inP fa fw.length a
      · have HN := Lib.hid (show wordsP m a n = wordsP (m.drop (j + 1)) a n by rw [HW.out, HD.out]; simp [hin])
        clear hin
        go_wp2_with fail
        go_roundw
        case rel => exact ⟨j + 1, by omega, by go_num, HN, HB2⟩
        case measure => simp [intOf]; omega
      · have HN := Lib.hid (show wordsP m a n = cutP (fa, fw) a n by rw [HW.out, HD.out]; simp [hin])
        obtain ⟨x1, x2, x3⟩ : 0 ≤ fa ∧ fa ≤ a ∧ a - fa < fw.length := by
          simp [inP] at hin
          omega
        obtain ⟨kk, hkk⟩ : ∃ kk : Nat, a - fa = (kk : Int) := ⟨(a - fa).toNat, by omega⟩
        have hfl := HWS.out.1
        unfold maxLen at hfl
        have q7 : IntKind.i64.wrap (a - fa) = (kk : Int) := by rw [hkk]; exact IntWalk.i64_in _ (by omega)
        have q8 : IntKind.i64.wrap ((fw.length : Int) - (kk : Int)) = (fw.length : Int) - (kk : Int) := IntWalk.i64_in _ (by omega)
        clear hin
        by_cases hbig : (fw.length : Int) - (kk : Int) < n
        · have HR := Lib.hid (show wordsP m a n = none by rw [HN.out]; unfold cutP; rw [hkk, if_neg (by simp only; omega)])
          go_wp2_with fail
          go_ret2
          exact ⟨⟨.slice none 0 0, by rw [HR.out]; rfl, by rw [HR.out]; exact Ws.nil _⟩, HB2.out⟩
        · obtain ⟨nn, rfl⟩ : ∃ nn : Nat, n = (nn : Int) := ⟨n.toNat, by omega⟩
          have q9 : IntKind.i64.wrap ((kk : Int) + (nn : Int)) = (kk : Int) + (nn : Int) := IntWalk.i64_in _ (by omega)
          have HWS2 := HWS.out
          obtain ⟨_, hu, wa', wc', hv, hcc, hcm, hcl⟩ := HWS2
          simp only [Value.slice.injEq, true_and] at hv
          obtain ⟨rfl, rfl⟩ := hv
          obtain ⟨gw, ow, rfl, _⟩ := hcl kk (by omega)
          have r1 : (kk : Int) + (nn : Int) ≤ (wc : Int) := by omega
          have r2 : kk < wc := by omega
          have r3 : ¬ wc = kk := by omega
          have r4 : ¬ wc - kk = 0 := by omega
          have r5 : ((kk : Int) + (nn : Int)).toNat - kk = nn := by omega
          have HCL := Lib.hid hcl
          have HU2 := Lib.hid hu
          have HR := Lib.hid (show wordsP m a nn = some ((fw.drop kk).take nn) by
            rw [HN.out]; unfold cutP; rw [hkk, if_pos (by simp only; omega)]; simp)
          clear hcl hu
          have HCUT := Lib.hid (Ws.cut HWS.out (k := kk) (n := nn) (by omega))
          go_wp2_with fail
          go_ret2
          exact ⟨⟨_, by rw [HR.out]; rfl, by rw [HR.out]; exact HCUT.out⟩, HB2.out⟩
    · obtain rfl : j = m.length := by omega
      have q4 : ¬ ((m.length : Nat) : Int) < (m.length : Int) := by omega
      have HR := Lib.hid (show wordsP m a n = none by rw [HW.out]; simp [wordsP])
      go_wp2_with fail
      go_ret2
      exact ⟨⟨.slice none 0 0, by rw [HR.out]; rfl, by rw [HR.out]; exact Ws.nil _⟩, HB.out⟩

set_option maxHeartbeats 8000000 in
set_option maxRecDepth 100000 in
theorem object_from (m : List Frg) (mv : Value) (R : Int → List Nat → Bool) (a t : Int) (wz w : World) (hmz : RsAt wz mv m) (hbz : Below wz.heap.size wz w) (ha : -9223372036854775808 ≤ a ∧ a ≤ 9223372036854775807)
    (hR : t ≠ 5 → ∀ k l lv w', headAt m a = some (k, l) → Below w.heap.size w w' → RsAt w' mv m → Ws w' lv l → 1 ≤ l.length → Calls Tryz.prog 87 #[mv, .int .i64 k, lv] w' fun e w'' => e = .returned (.bool (R k l)) ∧ Below w'.heap.size w' w'') :
    Calls Tryz.prog 60 #[mv, .agg #[.int .i64 a, .int .i64 t]] w fun e w' => ObjEnd wz (objR m R a t) e ∧ Below w.heap.size w w' := by
  have hm := hmz.below hbz
  have HM := Lib.hid hm
  have HMZ := Lib.hid hmz
  have HBZ := Lib.hid hbz
  clear hmz hbz
  have HR := Lib.hid hR
  obtain ⟨-, ma, mc, rfl, -⟩ := hm
  clear hR
  obtain ⟨w0, hw0⟩ : ∃ w0, (w.alloc (.cells #[.int .i64 a, .int .i64 t] 63)).alloc (.cells #[.int .i64 0, .slice none 0 0] 107) = w0 := ⟨_, rfl⟩
  have T := two_at w (.cells #[.int .i64 a, .int .i64 t] 63) (.cells #[.int .i64 0, .slice none 0 0] 107)
  rw [hw0] at T
  have HBX := Lib.hid T.1
  have HOB := Lib.hid T.2.1
  have HSZ := Lib.hid T.2.2.1
  have HBL := Lib.hid T.2.2.2
  have HW0 := Lib.hid hw0
  clear T hw0
  by_cases h5 : t = 5
  · subst h5
    have HO := Lib.hid (show objR m R a 5 = (wordsP m a 2).bind fun l => if allP l = true then some (-1, l) else none by unfold objR; rw [if_pos rfl])
    go_enter Tryz.func60, Tryz.ntmps60
    go_wp2_with fail
    rw [HW0.out]
    refine (words_at m _ a 2 wz w0 HMZ.out (HBZ.out.trans (HBL.out.mono HBZ.out.size)) ha (by omega)).mono ?_
    rintro e w1 ⟨⟨v1, rfl, hv1⟩, hb1⟩
    have HB1 := Lib.hid (HBL.out.trans (hb1.mono HBL.out.size))
    have HOB1 := Lib.hid ((hb1.block (w.heap.size + 1) (by have := HSZ.out; omega)).trans HOB.out)
    have c0 := cell_of HOB1.out 0
    have c1 := cell_of HOB1.out 1
    have z0 := free_of HOB1.out 0
    have z1 := free_of HOB1.out 1
    simp at c0 c1
    have HZ1 := Lib.hid hv1
    have HV1 := Lib.hid (hv1.below (HBZ.out.trans (HB1.out.mono HBZ.out.size)))
    clear hb1 hv1
    cases hwp : wordsP m a 2 with
    | none =>
      rw [hwp] at HV1 HZ1
      obtain ⟨_, _, va, vc, rfl, _⟩ := HV1.out
      have HE := Lib.hid (show objR m R a 5 = none by rw [HO.out, hwp]; rfl)
      clear hwp
      go_wp2_with fail
      have S := obj_store (k := -1) HOB1.out HV1.out (Nat.le_succ w.heap.size)
      refine bodyPost_ret (v := .tuple #[.agg #[.int .i64 (-1), .slice va 0 vc], .bool false]) (by simp [results, Tryz.results60, go_sem, c0, c1]) rfl ⟨⟨_, _, _, _, rfl, HZ1.out, by rw [HE.out]; rfl, fun o ho => by rw [HE.out] at ho; cases ho⟩, HB1.out.trans S.2⟩
    | some l =>
      rw [hwp] at HV1 HZ1
      obtain ⟨_, _, va, vc, rfl, _⟩ := HV1.out
      have HE := Lib.hid (show objR m R a 5 = if allP l = true then some (-1, l) else none by rw [HO.out, hwp]; rfl)
      clear hwp
      go_wp2_with fail
      refine (allplain_any l _ _ HV1.out).mono ?_
      rintro e w2 ⟨rfl, rfl⟩
      go_wp2_with fail
      have S := obj_store (k := -1) HOB1.out HV1.out (Nat.le_succ w.heap.size)
      refine bodyPost_ret (v := .tuple #[.agg #[.int .i64 (-1), .slice va l.length vc], .bool (allP l)]) (by simp [results, Tryz.results60, go_sem, c0, c1]) rfl ⟨⟨_, _, _, _, rfl, HZ1.out, ?_, fun o ho => ?_⟩, HB1.out.trans S.2⟩
      · rw [HE.out]; cases allP l <;> rfl
      · rw [HE.out] at ho
        split at ho
        · cases ho; rfl
        · cases ho
  · have q5 : (t == 5) = false := by simpa using h5
    have HO := Lib.hid (show objR m R a t = (headAt m a).bind fun o => if R o.1 o.2 = true then some o else none by unfold objR; rw [if_neg h5])
    have H5 := Lib.hid h5
    clear h5
    go_enter Tryz.func60, Tryz.ntmps60
    go_wp2_with fail
    rw [HW0.out]
    refine (words_at m _ a 1 wz w0 HMZ.out (HBZ.out.trans (HBL.out.mono HBZ.out.size)) ha (by omega)).mono ?_
    rintro e w1 ⟨⟨v1, rfl, hv1⟩, hb1⟩
    have HB1 := Lib.hid (HBL.out.trans (hb1.mono HBL.out.size))
    have HS1 := Lib.hid (Nat.le_trans (Nat.le_of_eq HSZ.out) hb1.size)
    have HOB1 := Lib.hid ((hb1.block (w.heap.size + 1) (by have := HSZ.out; omega)).trans HOB.out)
    have HBX1 := Lib.hid ((hb1.block w.heap.size (by have := HSZ.out; omega)).trans HBX.out)
    have HZ1 := Lib.hid hv1
    have HV1 := Lib.hid (hv1.below (HBZ.out.trans (HB1.out.mono HBZ.out.size)))
    clear hb1 hv1
    cases hwp : wordsP m a 1 with
    | none =>
      rw [hwp] at HV1 HZ1
      obtain ⟨_, _, va, vc, rfl, _⟩ := HV1.out
      have HE := Lib.hid (show objR m R a t = none by rw [HO.out, words_none hwp]; rfl)
      have c0 := cell_of HOB1.out 0
      have c1 := cell_of HOB1.out 1
      have z0 := free_of HOB1.out 0
      have z1 := free_of HOB1.out 1
      simp at c0 c1
      clear hwp
      go_wp2_with fail
      have S := obj_store (k := 0) HOB1.out (Ws.nil _) (Nat.le_succ w.heap.size)
      refine bodyPost_ret (v := .tuple #[.agg #[.int .i64 0, .slice none 0 0], .bool false]) (by simp [results, Tryz.results60, go_sem, c0, c1]) rfl ⟨⟨_, _, _, _, rfl, Ws.nil _, by rw [HE.out]; rfl, fun o ho => by rw [HE.out] at ho; cases ho⟩, HB1.out.trans S.2⟩
    | some h =>
      rw [hwp] at HV1 HZ1
      have HV1 := Lib.hid (show Ws w1 v1 h from HV1.out)
      have hlen := wordsP_len hwp (by omega)
      obtain ⟨g1, o1, vc, hv, hvc, hvm, _⟩ := HV1.out.open (show 0 < h.length by omega)
      subst hv
      have k0 := HV1.out.at (j := 0) (show 0 < h.length by omega)
      rw [Nat.add_zero] at k0
      have hx := HV1.out.2.1 (h.getD 0 0) (by
        have : h.getD 0 0 = h[0]'(by omega) := by simp [List.getD, List.getElem?_eq_getElem (show 0 < h.length by omega)]
        rw [this]; exact List.getElem_mem _)
      obtain ⟨x, hxx⟩ : ∃ x, h.getD 0 0 = x := ⟨_, rfl⟩
      rw [hxx] at k0 hx
      have HH := Lib.hid (show headAt m a = (headP x).bind fun k => (wordsP m a (k.2 + 1)).map fun l => (k.1, l) by unfold headAt; rw [hwp]; simp only [Option.bind_some]; rw [hxx])
      have HLEN := Lib.hid hlen
      have q1 : (0 : Int) < (h.length : Int) := by omega
      clear hxx hlen hwp
      go_wp2_with fail
      refine (parts_any x hx _).mono ?_
      rintro e w2 ⟨he, rfl⟩
      unfold HeadEnd at he
      subst he
      cases hhp : headP x with
      | none =>
        have HE := Lib.hid (show objR m R a t = none by rw [HO.out, HH.out, hhp]; rfl)
        have c0 := cell_of HOB1.out 0
        have c1 := cell_of HOB1.out 1
        have z0 := free_of HOB1.out 0
        have z1 := free_of HOB1.out 1
        simp at c0 c1
        clear hhp
        go_wp2_with fail
        have S := obj_store (k := 0) HOB1.out (Ws.nil _) (Nat.le_succ w.heap.size)
        refine bodyPost_ret (v := .tuple #[.agg #[.int .i64 0, .slice none 0 0], .bool false]) (by simp [results, Tryz.results60, go_sem, c0, c1]) rfl ⟨⟨_, _, _, _, rfl, Ws.nil _, by rw [HE.out]; rfl, fun o ho => by rw [HE.out] at ho; cases ho⟩, HB1.out.trans S.2⟩
      | some ks =>
        obtain ⟨kd, sz⟩ := ks
        have hkb := headP_le hhp
        simp only at hkb
        have HH2 := Lib.hid (show headAt m a = (wordsP m a (sz + 1)).map fun l => (kd, l) by rw [HH.out, hhp]; rfl)
        have q2 : IntKind.i64.wrap (sz + 1) = sz + 1 := IntWalk.i64_in _ (by omega)
        have b0 := cell_of HBX1.out 0
        simp at b0
        clear hhp
        go_wp2_with fail
        refine (words_at m _ a (sz + 1) wz _ HMZ.out (HBZ.out.trans (HB1.out.mono HBZ.out.size)) ha (by omega)).mono ?_
        rintro e w3 ⟨⟨v3, rfl, hv3⟩, hb3⟩
        have HB3 := Lib.hid (HB1.out.trans (hb3.mono HB1.out.size))
        have HS3 := Lib.hid (Nat.le_trans HS1.out hb3.size)
        have HOB3 := Lib.hid ((hb3.block (w.heap.size + 1) (by have := HS1.out; omega)).trans HOB1.out)
        have HZ3 := Lib.hid hv3
        have HV3 := Lib.hid (hv3.below (HBZ.out.trans (HB3.out.mono HBZ.out.size)))
        clear hb3 hv3 b0
        cases hwp : wordsP m a (sz + 1) with
        | none =>
          rw [hwp] at HV3 HZ3
          obtain ⟨_, _, va3, vc3, rfl, _⟩ := HV3.out
          have HE := Lib.hid (show objR m R a t = none by rw [HO.out, HH2.out, hwp]; rfl)
          have c0 := cell_of HOB3.out 0
          have c1 := cell_of HOB3.out 1
          have z0 := free_of HOB3.out 0
          have z1 := free_of HOB3.out 1
          simp at c0 c1
          clear hwp
          go_wp2_with fail
          have S := obj_store (k := 0) HOB3.out (Ws.nil _) (Nat.le_succ w.heap.size)
          refine bodyPost_ret (v := .tuple #[.agg #[.int .i64 0, .slice none 0 0], .bool false]) (by simp [results, Tryz.results60, go_sem, c0, c1]) rfl ⟨⟨_, _, _, _, rfl, Ws.nil _, by rw [HE.out]; rfl, fun o ho => by rw [HE.out] at ho; cases ho⟩, HB3.out.trans S.2⟩
        | some l =>
          rw [hwp] at HV3 HZ3
          have HV3 := Lib.hid (show Ws w3 v3 l from HV3.out)
          have hlen3 := wordsP_len hwp (by omega)
          have hl1 : 1 ≤ l.length := by omega
          obtain ⟨_, _, va3, vc3, hv3, _⟩ := HV3.out
          have hv3 : v3 = .slice va3 l.length vc3 := hv3
          subst hv3
          have HHA := Lib.hid (show headAt m a = some (kd, l) by rw [HH2.out, hwp]; rfl)
          have HE := Lib.hid (show objR m R a t = if R kd l = true then some (kd, l) else none by rw [HO.out, HHA.out]; rfl)
          clear hwp hlen3
          go_wp2_with fail
          refine (HR.out H5.out kd l _ _ HHA.out HB3.out (HM.out.below HB3.out) HV3.out hl1).mono ?_
          rintro e w4 ⟨rfl, hb4⟩
          have HB4 := Lib.hid (HB3.out.trans (hb4.mono HB3.out.size))
          have HOB4 := Lib.hid ((hb4.block (w.heap.size + 1) (by have := HS3.out; omega)).trans HOB3.out)
          have HV4 := Lib.hid (HV3.out.below hb4)
          have c0 := cell_of HOB4.out 0
          have c1 := cell_of HOB4.out 1
          have z0 := free_of HOB4.out 0
          have z1 := free_of HOB4.out 1
          simp at c0 c1
          clear hb4
          cases hr : R kd l
          · have HE2 := Lib.hid (show objR m R a t = none by rw [HE.out, hr]; rfl)
            go_wp2_with fail
            have S := obj_store (k := 0) HOB4.out (Ws.nil _) (Nat.le_succ w.heap.size)
            refine bodyPost_ret (v := .tuple #[.agg #[.int .i64 0, .slice none 0 0], .bool false]) (by simp [results, Tryz.results60, go_sem, c0, c1]) rfl ⟨⟨_, _, _, _, rfl, Ws.nil _, by rw [HE2.out]; rfl, fun o ho => by rw [HE2.out] at ho; cases ho⟩, HB4.out.trans S.2⟩
          · have HE2 := Lib.hid (show objR m R a t = some (kd, l) by rw [HE.out, hr]; rfl)
            go_wp2_with fail
            have S := obj_store (k := kd) HOB4.out HV4.out (Nat.le_succ w.heap.size)
            refine bodyPost_ret (v := .tuple #[.agg #[.int .i64 kd, .slice va3 l.length vc3], .bool true]) (by simp [results, Tryz.results60, go_sem, c0, c1]) rfl ⟨⟨_, _, _, _, rfl, HZ3.out, by rw [HE2.out]; rfl, fun o ho => by rw [HE2.out] at ho; cases ho; rfl⟩, HB4.out.trans S.2⟩

theorem object_at (m : List Frg) (mv : Value) (a t : Int) (wz w : World) (hm : RsAt wz mv m) (hb : Below wz.heap.size wz w) (ha : -9223372036854775808 ≤ a ∧ a ≤ 9223372036854775807) :
    Calls Tryz.prog 60 #[mv, .agg #[.int .i64 a, .int .i64 t]] w fun e w' => ObjEnd wz (objP m a t) e ∧ Below w.heap.size w w' := by
  have e : objP m a t = objR m (rightP m) a t := rfl
  rw [e]
  refine object_from m mv (rightP m) a t wz w hm hb ha fun _ k l lv w' hh _ hm' hl h1 => ?_
  have := headAt_le hh
  exact right_any m k l mv lv w' (by omega) hm' hl h1

end Go.Proofs.YtlmpmjhanpkcnaaGreat
