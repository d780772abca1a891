/-
  ArenaScript: whatever is taken, given back and charged, each call answers as the document says: for every budget and every list of acts the law returns true and its arguments read as they did. No condition.
-/
import Derived.Test.YtplhhmhdmcohfaaRows
import Derived.Test.YtplhhmhdmcohfaaAs
import Derived.Deep.SlicePairs
import Derived.WalkKit
import Derived.ProofKit
import Derived.OpenShut
import Derived.ShutString
import Derived.ChangeOld
import Derived.Below
namespace Go.Proofs.Ytplhhmhdmcohfaa.arenaScript
open Go.ChangeShapes Go.WideShapes Go.ChangeAt Go.RowKit
open Go.ChangeMaps (open_string shut_string)
set_option linter.unusedVariables false

theorem own : ownKnob Try.prog.godebug = none := by kernel_rfl
theorem laidOut : laidOutB Try.prog = true := by kernel_rfl

/-! ### THE ROW's STEP: WRITTEN OUT: LEAVE IT -/
set_option maxRecDepth 100000 in
theorem lifted (os : Os) (started : os.Started) (H : Type) (enc : TypeId × Value → H) :
    ReturnsInHanded {} Try.checked os 4 .any (Rows.arenaScriptSpec.pre6 enc Try.prog Try.f4 Rows.arenaScriptRow.domain false) (Rows.arenaScriptSpec.post enc Try.prog Try.f4 false true false false) := by
  refine returnsInHanded_of_change (C := Try.checked) own started (by kernel_rfl) Try.func4
    (ChangeSpec.witness6 (enc := enc) (C := Try.checked) false ⟨#[], #[.int .i64 0, .slice none 0 0], []⟩ 8 (by kernel_rfl) (by kernel_rfl) (by kernel_rfl) (by kernel_rfl)) ?_
  intro W base args ds gs before hval0 hW hcnd _
  have hval : ∀ (j : Nat) t v, Try.f4.params[j]? = some t → args[j]? = some v → Value.okWide Try.prog W .any base t v := hval0
  have hW' := hW
  obtain ⟨p, q, hA0, hV, rfl, hfz, hnd⟩ := hW
  have hA : DataW.TrodAll enc Try.prog W 0 (fun _ => true) true Try.f4.params.toList args.toList ds p := hA0
  rw [Try.params4] at hA hval
  obtain ⟨v0, vs0, d0, ds0, p0, q0, hargs, rfl, rfl, h0, r0⟩ := trodAll_cons hA
  obtain ⟨v1, vs1, d1, ds1, p1, q1, rfl, rfl, rfl, h1, r1⟩ := trodAll_cons r0
  obtain ⟨rfl, rfl, rfl⟩ := trodAll_nil r1
  obtain rfl : args = #[v0, v1] := by cases args; simp_all
  obtain ⟨rfl, rfl⟩ := trodVars_none hV
  obtain ⟨a0, rfl, rfl, rfl, w0⟩ := open_int Try.underlying3 (hval 0 3 v0 rfl rfl) h0
  obtain ⟨a1, len1, cap1, rfl⟩ := okWide_slice Try.underlying33 (hval 1 33 v1 rfl rfl)
  have k1 := h1
  have lt1 : ∀ x ∈ p1, x.block < W.heap.size := by obtain ⟨m, hm⟩ := k1; exact DataW.trod_lt m _ _ _ hm
  have hrow : len1 ≤ maxLen ∧ ∀ j, j < len1 → ∃ ab ao d n, a1 = some ⟨ab, ao, none⟩ ∧ (Lit.int .i64 n).wf = true ∧ W.cell? ⟨ab, ao + j * 2, none⟩ = some (.int .i64 d) ∧ W.cell? ⟨ab, ao + j * 2 + 1, none⟩ = some (.int .i64 n) := by
    obtain ⟨fuel, hf⟩ := h1
    rcases Go.Deep.open_slice_pairs Try.underlying33 Try.underlying37 (by kernel_rfl) rfl rfl (by kernel_rfl) (by kernel_rfl) hf with ⟨hcs, _⟩ | ⟨x, l, c, m, n, V0, V1, D0, D1, P0, P1, hcs, _, hl, hm, hmm, _, hcell⟩
    · simp [Value.cells] at hcs
      obtain ⟨rfl, rfl, rfl⟩ := hcs
      exact ⟨by unfold maxLen; omega, fun j hj => by omega⟩
    · simp [Value.cells] at hcs
      obtain ⟨rfl, rfl, rfl⟩ := hcs
      refine ⟨by omega, fun j hj => ?_⟩
      have hm' : len1 ≤ m := by rw [hmm]; split <;> omega
      obtain ⟨c0, c1, t0, t1⟩ := hcell j (by omega)
      obtain ⟨d, hd, _, _⟩ := DataW.trod_int Try.underlying3 t0
      obtain ⟨q, hq, _, hw⟩ := DataW.trod_int Try.underlying3 t1
      simp at hd hq
      obtain ⟨ab, ao, sp⟩ := x
      have e1 := World.cell?_spot c1
      have hsp : sp = none := by
        obtain ⟨z0, _⟩ := hcell 0 (by omega)
        have := World.cell?_spot z0
        simpa [Addr.add] using this
      subst hsp
      refine ⟨ab, ao, d, q, rfl, hw, ?_, ?_⟩
      · rw [← hd, ← Go.WideShapes.add_plain]; exact c0
      · rw [← hq, Nat.add_assoc, ← Go.WideShapes.add_plain]; exact c1
  clear hA0 hval0
  refine (script_any a0 a1 len1 cap1 W (by have := hrow.1; unfold maxLen at this; exact this) (fun j hj => ?_)).mono fun e W' ⟨he, bel⟩ => ?_
  · obtain ⟨ab, ao, d, n, ha, hw, c0, c1⟩ := hrow.2 j hj
    refine ⟨ab, ao, d, n, ha, hw, fun W2 hb => ⟨?_, ?_⟩⟩
    · rw [hb.cell (World.block_lt_of_cell? W _ c0)]; exact c0
    · rw [hb.cell (World.block_lt_of_cell? W _ c1)]; exact c1
  subst he
  exact ⟨_, rfl, _, _, _, [], _, [], hW', trodAll_mk1 (shut_bool Try.underlying4 _), (trodAll_cons_mk (shut_int Try.underlying3 w0) (trodAll_cons_mk (Below.trod laidOut (by kernel_rfl) (of_decide_eq_true (by kernel_rfl)) k1 bel lt1) trodAll_mk0)), rfl, bel.frame _, fun h => by cases h⟩

theorem over : Rows.arenaScriptRow.holds Try.pinned (OpenSpec.ofChange Rows.arenaScriptSpec) :=
  OpenClaim.holds_of_wide 4 Try.f4 rfl rfl rfl rfl rfl rfl rfl ⟨rfl, rfl, rfl, rfl, rfl⟩ rfl rfl rfl rfl rfl (by kernel_rfl) Try.func4 (by kernel_rfl)
    (of_decide_eq_true (by kernel_rfl)) (by unfold Func.isWrapper; first | (rw [if_pos (by decide +kernel)]; kernel_rfl) | (rw [if_neg (by decide +kernel)]; exact ⟨rfl, rfl⟩))
    (fun os started H enc _ => lifted os started H enc)

/-- ████ THE STATEMENT ████ -/
theorem proved : Rows.ArenaScriptSaid := over
#print axioms proved
end Go.Proofs.Ytplhhmhdmcohfaa.arenaScript
