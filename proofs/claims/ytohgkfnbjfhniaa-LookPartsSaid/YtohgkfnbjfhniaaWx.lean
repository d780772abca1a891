/-
  Integers: may a number be? (As in chapter 25's text Tn, renumbered.)
-/
import Derived.Test.YtohgkfnbjfhniaaWr
namespace Go.Proofs.Ytohgkfnbjfhniaa
open Go.RowKit

/-- Words of 32 bits in memory. -/
def Ms (w : World) (v : Value) (l : List Nat) : Prop :=
  ∃ a cap, v = .slice a l.length cap ∧ ∀ j, (hj : j < l.length) → ∃ g o, a = some ⟨g, o, none⟩ ∧ w.cell? ⟨g, o + j, none⟩ = some (.int .u32 l[j])

theorem Ms.below {w w' : World} {v : Value} {l : List Nat} (h : Ms w v l) (hb : Below w.heap.size w w') : Ms w' v l := by
  obtain ⟨a, cap, rfl, hc⟩ := h
  refine ⟨a, cap, rfl, fun j hj => ?_⟩
  obtain ⟨g, o, rfl, k⟩ := hc j hj
  exact ⟨g, o, rfl, (hb.cell (World.block_lt_of_cell? w _ k)).trans k⟩

def numMayP (neg : Bool) (mag : List Nat) : Bool := decide (mag.length ≤ 8) && (if mag.length = 0 then !neg else decide (mag.getD (mag.length - 1) 0 ≠ 0))
def valP : List Nat → Nat
  | [] => 0
  | a :: r => a + 4294967296 * valP r
def smallP (neg : Bool) (mag : List Nat) : Bool := numMayP neg mag && decide (mag.length ≤ 2) && (if neg then decide (valP mag ≤ 1152921504606846976) else decide (valP mag ≤ 1152921504606846975))

set_option maxHeartbeats 4000000 in
set_option maxRecDepth 100000 in
theorem numMay_any (neg : Bool) (mag : List Nat) (mv : Value) (w : World) (hm : Ms w mv mag) (hml : mag.length ≤ maxLen) :
    Calls Try.prog 80 #[.agg #[.bool neg, mv]] w fun e w' => e = .returned (.bool (numMayP neg mag)) ∧ Below w.heap.size w w' := by
  obtain ⟨a, cap, rfl, hc⟩ := hm
  have b1 : Below w.heap.size w (w.alloc (.cells #[.bool neg, .slice a mag.length cap] 36)) := (Below.refl _ _).alloc (Nat.le_refl _) _
  unfold maxLen at hml
  by_cases h8 : 8 < mag.length
  · have q1 : ¬ (mag.length : Int) ≤ 8 := by omega
    go_enter Try.func80, Try.ntmps80
    go_wp2_with fail
    go_ret
    exact ⟨by unfold numMayP; rw [decide_eq_false (by omega)]; rfl, b1⟩
  have q1 : (mag.length : Int) ≤ 8 := by omega
  by_cases h0 : mag.length = 0
  · have HE := Lib.hid (show numMayP neg mag = !neg by unfold numMayP; rw [decide_eq_true (by omega), if_pos h0]; rfl)
    rw [h0] at q1 b1 ⊢
    clear hc hml h8
    cases neg
    all_goals
      go_enter Try.func80, Try.ntmps80
      go_wp2_with fail
      go_ret
      exact ⟨by rw [HE.out]; rfl, b1⟩
  · obtain ⟨m, hlen⟩ : ∃ m, mag.length = m + 1 := ⟨mag.length - 1, by omega⟩
    obtain ⟨g, o, rfl, k⟩ := hc m (by omega)
    have k1 := (b1.cell (World.block_lt_of_cell? w _ k)).trans k
    have hgd : mag.getD (mag.length - 1) 0 = mag[m] := by
      rw [show mag.length - 1 = m by omega]; simp [List.getD, List.getElem?_eq_getElem (show m < mag.length by omega)]
    have HE := Lib.hid (show numMayP neg mag = decide (mag[m] ≠ 0) by unfold numMayP; rw [decide_eq_true (by omega), if_neg h0, hgd]; rfl)
    obtain ⟨x, hx⟩ : ∃ x, mag[m] = x := ⟨_, rfl⟩
    rw [hx] at k k1 hgd
    have HX := Lib.hid hx
    rw [hlen] at q1 b1 k1 ⊢
    have q2 : IntKind.i64.wrap (m : Int) = m := IntWalk.i64_in _ (by omega)
    have q3 : (0 : Int) < (m : Int) + 1 := by omega
    have q4 : (m : Int) < (m : Int) + 1 := by omega
    have q5 : ((m : Int) + 1 == 0) = false := by simp; omega
    have q6 : (m : Int) + 1 ≤ 8 := by omega
    have q7 : (m : Int) + 1 - 1 = m := by omega
    clear hc hml h8 k hx
    by_cases hx0 : x = 0
    · subst hx0
      go_enter Try.func80, Try.ntmps80
      go_wp2_with fail
      go_ret
      exact ⟨by rw [HE.out, HX.out]; rfl, b1⟩
    · have q8 : ((x : Int) != 0) = true := by simp; omega
      go_enter Try.func80, Try.ntmps80
      go_wp2_with fail
      go_ret
      exact ⟨by rw [HE.out, HX.out, decide_eq_true hx0]; rfl, b1⟩

end Go.Proofs.Ytohgkfnbjfhniaa
