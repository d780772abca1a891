/-
  Chapter 25's own answer, walked: what lines say.
-/
import Derived.Test.YtohgkfnbjfhniaaDoorRg
import Derived.Test.YtohgkfnbjfhniaaDoorPa
namespace Go.Proofs.YtohgkfnbjfhniaaDoor
open Go.RowKit Sp

/-- What has been read, while Read runs. -/
structure RM (w0 : World) (st : St) (vb ve : Value) (w : World) : Prop where
  bel : Below w0.heap.size w0 w
  c0 : w.cell? ⟨w0.heap.size + 1, 0, none⟩ = some (.int .i64 st.c.1)
  c1 : w.cell? ⟨w0.heap.size + 1, 1, none⟩ = some (.int .i64 st.c.2.1)
  c2 : w.cell? ⟨w0.heap.size + 1, 2, none⟩ = some (.int .i64 st.c.2.2)
  g0 : w.frozen? ⟨w0.heap.size + 1, 0, none⟩ = false
  g1 : w.frozen? ⟨w0.heap.size + 1, 1, none⟩ = false
  g2 : w.frozen? ⟨w0.heap.size + 1, 2, none⟩ = false
  r0 : w.cell? ⟨w0.heap.size, 0, none⟩ = some (.int .i64 0)
  r1 : w.cell? ⟨w0.heap.size, 1, none⟩ = some (.int .i64 0)
  r2 : w.cell? ⟨w0.heap.size, 2, none⟩ = some (.int .i64 0)
  s0 : w.frozen? ⟨w0.heap.size, 0, none⟩ = false
  s1 : w.frozen? ⟨w0.heap.size, 1, none⟩ = false
  s2 : w.frozen? ⟨w0.heap.size, 2, none⟩ = false
  ob : w.ownsRow (w0.heap.size + 2) 5 1 vb st.b.length (cs8 st.b)
  oe : w.ownsRow (w0.heap.size + 2) 61 3 ve st.es.length (flat3 st.es)
  dd : vb.ownBlock = none ∨ vb.ownBlock ≠ ve.ownBlock
  sz : w0.heap.size + 2 ≤ w.heap.size

theorem RM.fr {w0 w w' : World} {st : St} {vb ve : Value} (h : RM w0 st vb ve w) {S : Nat → Prop} (f : Fr S w w') (hS : ∀ k, S k → w0.heap.size + 2 ≤ k) (h2 : ∀ k, vb.ownBlock = some k → ¬ S k) (h3 : ∀ k, ve.ownBlock = some k → ¬ S k) : RM w0 st vb ve w' := by
  have hsz := h.sz
  have n0 : ¬ S w0.heap.size := fun q => by have := hS _ q; omega
  have n1 : ¬ S (w0.heap.size + 1) := fun q => by have := hS _ q; omega
  exact ⟨Fr.below h.bel f (fun i q => by have := hS i q; omega) h.bel.size, f.cell h.c0 n1, f.cell h.c1 n1, f.cell h.c2 n1, (f.frozen (by show _ < _; simp; omega) n1).trans h.g0, (f.frozen (by show _ < _; simp; omega) n1).trans h.g1, (f.frozen (by show _ < _; simp; omega) n1).trans h.g2,
    f.cell h.r0 n0, f.cell h.r1 n0, f.cell h.r2 n0, (f.frozen (by show _ < _; simp; omega) n0).trans h.s0, (f.frozen (by show _ < _; simp; omega) n0).trans h.s1, (f.frozen (by show _ < _; simp; omega) n0).trans h.s2,
    Fr.own h.ob f h2, Fr.own h.oe f h3, h.dd, Nat.le_trans hsz f.size⟩

theorem RM.below {w0 w w' : World} {st : St} {vb ve : Value} (h : RM w0 st vb ve w) (hb : Below w.heap.size w w') : RM w0 st vb ve w' :=
  h.fr (Fr.of_below hb) (fun k q => Nat.le_trans h.sz q) (fun k e => by have := (h.ob.lt k e).2; omega) (fun k e => by have := (h.oe.lt k e).2; omega)

theorem RM.setB {w0 w w1 : World} {st : St} {vb ve v1 : Value} {x : List UInt8} {N : Nat} {xs : List Value} (h : RM w0 st vb ve w) (ho : w1.ownsRow (w0.heap.size + 2) 5 1 v1 N xs) (hN : N = (st.b ++ x).length) (hx : xs = cs8 (st.b ++ x))
    (hg : w.grownBy w1 vb.ownBlock) (hl : v1.ownBlock = vb.ownBlock ∨ ∀ k, v1.ownBlock = some k → w.heap.size ≤ k) : RM w0 { st with b := st.b ++ x } v1 ve w1 := by
  subst hN hx
  have f : Fr (fun k => vb.ownBlock = some k) w w1 := (Fr.refl _ w).grown hg (fun k e _ => e)
  have hsz := h.sz
  have n0 : vb.ownBlock ≠ some w0.heap.size := fun q => by have := (h.ob.lt _ q).1; omega
  have n1 : vb.ownBlock ≠ some (w0.heap.size + 1) := fun q => by have := (h.ob.lt _ q).1; omega
  have dd : v1.ownBlock = none ∨ v1.ownBlock ≠ ve.ownBlock := by
    rcases hl with e | e
    · rw [e]; exact h.dd
    · cases q : v1.ownBlock with
      | none => exact .inl rfl
      | some k => exact .inr (fun z => by have := e k q; have := (h.oe.lt k z.symm).2; omega)
  exact ⟨Fr.below h.bel f (fun i q => by have := (h.ob.lt i q).1; omega) h.bel.size, f.cell h.c0 n1, f.cell h.c1 n1, f.cell h.c2 n1, (f.frozen (by show _ < _; simp; omega) n1).trans h.g0, (f.frozen (by show _ < _; simp; omega) n1).trans h.g1, (f.frozen (by show _ < _; simp; omega) n1).trans h.g2,
    f.cell h.r0 n0, f.cell h.r1 n0, f.cell h.r2 n0, (f.frozen (by show _ < _; simp; omega) n0).trans h.s0, (f.frozen (by show _ < _; simp; omega) n0).trans h.s1, (f.frozen (by show _ < _; simp; omega) n0).trans h.s2,
    ho, Fr.own h.oe f (fun k e q => by rcases h.dd with d | d; rw [d] at q; cases q; exact d (q.trans e.symm)), dd, Nat.le_trans hsz f.size⟩

theorem RM.setE {w0 w w1 : World} {st : St} {vb ve v1 : Value} {x : List Three} {N : Nat} {xs : List Value} (h : RM w0 st vb ve w) (ho : w1.ownsRow (w0.heap.size + 2) 61 3 v1 N xs) (hN : N = (st.es ++ x).length) (hx : xs = flat3 (st.es ++ x))
    (hg : w.grownBy w1 ve.ownBlock) (hl : v1.ownBlock = ve.ownBlock ∨ ∀ k, v1.ownBlock = some k → w.heap.size ≤ k) : RM w0 { st with es := st.es ++ x } vb v1 w1 := by
  subst hN hx
  have f : Fr (fun k => ve.ownBlock = some k) w w1 := (Fr.refl _ w).grown hg (fun k e _ => e)
  have hsz := h.sz
  have n0 : ve.ownBlock ≠ some w0.heap.size := fun q => by have := (h.oe.lt _ q).1; omega
  have n1 : ve.ownBlock ≠ some (w0.heap.size + 1) := fun q => by have := (h.oe.lt _ q).1; omega
  have dd : vb.ownBlock = none ∨ vb.ownBlock ≠ v1.ownBlock := by
    rcases hl with e | e
    · rw [e]; exact h.dd
    · cases q : vb.ownBlock with
      | none => exact .inl rfl
      | some k => exact .inr (fun z => by have := e k z.symm; have := (h.ob.lt k q).2; omega)
  exact ⟨Fr.below h.bel f (fun i q => by have := (h.oe.lt i q).1; omega) h.bel.size, f.cell h.c0 n1, f.cell h.c1 n1, f.cell h.c2 n1, (f.frozen (by show _ < _; simp; omega) n1).trans h.g0, (f.frozen (by show _ < _; simp; omega) n1).trans h.g1, (f.frozen (by show _ < _; simp; omega) n1).trans h.g2,
    f.cell h.r0 n0, f.cell h.r1 n0, f.cell h.r2 n0, (f.frozen (by show _ < _; simp; omega) n0).trans h.s0, (f.frozen (by show _ < _; simp; omega) n0).trans h.s1, (f.frozen (by show _ < _; simp; omega) n0).trans h.s2,
    Fr.own h.ob f (fun k e q => by rcases h.dd with d | d; rw [d] at e; cases e; exact d (e.trans q.symm)), ho, dd, Nat.le_trans hsz f.size⟩

theorem RM.setC {w0 w : World} {st : St} {vb ve : Value} (h : RM w0 st vb ve w) (x y z : Int) :
    RM w0 { st with c := (x, y, z) } vb ve (((w.setCell ⟨w0.heap.size + 1, 0, none⟩ (.int .i64 x)).setCell ⟨w0.heap.size + 1, 1, none⟩ (.int .i64 y)).setCell ⟨w0.heap.size + 1, 2, none⟩ (.int .i64 z)) := by
  have f : Fr (fun k => k = w0.heap.size + 1) w (((w.setCell ⟨w0.heap.size + 1, 0, none⟩ (.int .i64 x)).setCell ⟨w0.heap.size + 1, 1, none⟩ (.int .i64 y)).setCell ⟨w0.heap.size + 1, 2, none⟩ (.int .i64 z)) :=
    Fr.setCell (Fr.setCell (Fr.setCell (Fr.refl (fun k => k = w0.heap.size + 1) w) (p := ⟨w0.heap.size + 1, 0, none⟩) rfl _) (p := ⟨w0.heap.size + 1, 1, none⟩) rfl _) (p := ⟨w0.heap.size + 1, 2, none⟩) rfl _
  have hsz := h.sz
  obtain ⟨bel, c0, c1, c2, g0, g1, g2, r0, r1, r2, s0, s1, s2, ob, oe, dd, sz⟩ := h
  have n0 : ¬ w0.heap.size = w0.heap.size + 1 := by omega
  refine ⟨Fr.below bel f (fun i q => by omega) bel.size, ?_, ?_, ?_, ?_, ?_, ?_, f.cell r0 n0, f.cell r1 n0, f.cell r2 n0, (f.frozen (by show _ < _; simp; omega) n0).trans s0, (f.frozen (by show _ < _; simp; omega) n0).trans s1, (f.frozen (by show _ < _; simp; omega) n0).trans s2,
    Fr.own ob f (fun k e q => by have := (ob.lt k e).1; omega), Fr.own oe f (fun k e q => by have := (oe.lt k e).1; omega), dd, Nat.le_trans hsz f.size⟩
  all_goals simp [go_sem, c0, c1, c2, g0, g1, g2]

theorem RM.start (w : World) : RM w St.zero (.slice none 0 0) (.slice none 0 0) ((w.alloc (.cells #[.int .i64 0, .int .i64 0, .int .i64 0] 38)).alloc (.cells #[.int .i64 0, .int .i64 0, .int .i64 0] 38)) := by
  refine ⟨((Below.refl _ _).alloc (Nat.le_refl _) _).alloc (by simp) _, ?_, ?_, ?_, ?_, ?_, ?_, ?_, ?_, ?_, ?_, ?_, ?_, World.ownsRow_nil _ _ _ _, World.ownsRow_nil _ _ _ _, .inl rfl, by simp⟩
  all_goals simp [go_sem, St.zero]

/-- How Read ends. -/
def ReadEnd (w : World) (r : Sum Nat St) (e : Ending) (w' : World) : Prop :=
  (match r with
    | .inl k => e = .returned (.tuple #[.slice none 0 0, .agg #[.int .i64 0, .int .i64 0, .int .i64 0], .slice none 0 0, .int .i64 k])
    | .inr st => ∃ vb ve, e = .returned (.tuple #[vb, .agg #[.int .i64 st.c.1, .int .i64 st.c.2.1, .int .i64 st.c.2.2], ve, .int .i64 0]) ∧
        w'.ownsRow w.heap.size 5 1 vb st.b.length (cs8 st.b) ∧ w'.ownsRow w.heap.size 61 3 ve st.es.length (flat3 st.es) ∧ (vb.ownBlock = none ∨ vb.ownBlock ≠ ve.ownBlock)) ∧ Below w.heap.size w w'

/-- How far Read has come. -/
structure RR (w0 : World) (ws : List ByteArray) (k : Nat) (st : St) (vb ve : Value) (w : World) : Prop where
  m : RM w0 st vb ve w
  run : runP 1 St.zero (ws.map (·.toList)) = runP (k + 1) st ((ws.map (·.toList)).drop k)
  hb : st.b.length ≤ k * 1000000
  he : st.es.length ≤ k * 1000000

theorem RR.refused {w0 w : World} {ws : List ByteArray} {k : Nat} {st : St} {vb ve : Value} (h : RR w0 ws k st vb ve w) (hk : k < ws.length) (hq : lineP st ws[k].toList = none) : runP 1 St.zero (ws.map (·.toList)) = .inl (k + 1) := by
  rw [h.run, List.drop_eq_getElem_cons (by rw [List.length_map]; exact hk)]
  simp only [runP, List.getElem_map]; rw [hq]

theorem RR.step {w0 w w' : World} {ws : List ByteArray} {k : Nat} {st st' : St} {vb ve vb' ve' : Value} (h : RR w0 ws k st vb ve w) (hk : k < ws.length) (hsz : ws[k].size ≤ 1000000) (hq : lineP st ws[k].toList = some st') (hm : RM w0 st' vb' ve' w') : RR w0 ws (k + 1) st' vb' ve' w' := by
  have hg := lineP_grows hq
  rw [size_toList] at hg
  refine ⟨hm, ?_, ?_, ?_⟩
  · rw [h.run, List.drop_eq_getElem_cons (by rw [List.length_map]; exact hk)]
    simp only [runP, List.getElem_map]; rw [hq]
  · have := h.hb; omega
  · have := h.he; omega

theorem RR.done {w0 w : World} {ws : List ByteArray} {k : Nat} {st : St} {vb ve : Value} (h : RR w0 ws k st vb ve w) (hk : ws.length ≤ k) : runP 1 St.zero (ws.map (·.toList)) = .inr st := by
  rw [h.run, List.drop_of_length_le (by rw [List.length_map]; exact hk)]; rfl

end Go.Proofs.YtohgkfnbjfhniaaDoor
