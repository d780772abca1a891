/-
  Integers and floats of terms: may they be, are they small.
-/
import Derived.Test.YtohgkfnbjfhniaaDoorTm
import Derived.Laws.Externs
namespace Go.Proofs.YtohgkfnbjfhniaaDoor
open Go.RowKit Sp

theorem nanBits (b : Nat) : Op.floatEq .f64 b b = decide (b % 9223372036854775808 ≤ 9218868437227405312) := by
  have h1 : FloatKind.f64.format = Ieee.double := rfl
  have h2 : Ieee.double.signWeight = 9223372036854775808 := by decide
  have h3 : Ieee.double.infRung = 9218868437227405312 := by decide
  unfold Op.floatEq Ieee.Format.order Ieee.Format.read
  rw [h1, h2, h3]
  simp only
  by_cases a1 : b % 9223372036854775808 < Ieee.double.binade
  · have : Ieee.double.binade = 4503599627370496 := by decide
    rw [if_pos a1]
    simp only [Ieee.Datum.order]
    have : b % 9223372036854775808 ≤ 9218868437227405312 := by omega
    simp [this, compare, compareOfLessAndEq]
  · rw [if_neg a1]
    by_cases a2 : b % 9223372036854775808 < 9218868437227405312
    · rw [if_pos a2]
      simp only [Ieee.Datum.order]
      have : b % 9223372036854775808 ≤ 9218868437227405312 := by omega
      simp [this, compare, compareOfLessAndEq]
    · rw [if_neg a2]
      by_cases a3 : b % 9223372036854775808 = 9218868437227405312
      · rw [if_pos a3]
        simp [Ieee.Datum.order, a3, compare, compareOfLessAndEq]
      · rw [if_neg a3]
        have : ¬ b % 9223372036854775808 ≤ 9218868437227405312 := by omega
        simp [Ieee.Datum.order, this]

theorem run_frombits (b : Nat) (w : World) : (callFunc 106 #[.int .u64 b]).run Tryd.prog w = .ok (.value (.float .f64 b)) w := by
  rw [run_callFunc_extern (f := 106) (fn := Tryd.f106) (e := Extern.MathFloatBits.float64frombits) (by kernel_rfl) (by kernel_rfl) (by kernel_rfl) (by kernel_rfl) (by kernel_rfl)]
  rfl

theorem isnan_any (b : Nat) (w : World) : Calls Tryd.prog 105 #[.float .f64 b] w fun e w' => e = .returned (.bool (!decide (b % 9223372036854775808 ≤ 9218868437227405312))) ∧ w' = w := by
  have h := nanBits b
  go_enter Tryd.func105, Tryd.ntmps105
  go_wp2_with fail
  go_ret
  exact ⟨by rw [← h]; rfl, rfl⟩

theorem none_any (b : Nat) (w : World) : Calls Tryd.prog 89 #[.int .u64 b] w fun e w' => e = .returned (.bool (!decide (b % 9223372036854775808 ≤ 9218868437227405312))) ∧ w' = w := by
  have hd := run_frombits b w
  go_enter Tryd.func89, Tryd.ntmps89
  go_wp2_with fail
  refine (isnan_any b _).mono ?_
  rintro e w1 ⟨rfl, rfl⟩
  go_wp2_with fail
  go_ret
  exact ⟨rfl, rfl⟩

theorem realMay_any (b : Nat) (w : World) : Calls Tryd.prog 72 #[.int .u64 b] w fun e w' => e = .returned (.bool (realP b)) ∧ w' = w := by
  by_cases h : b = 9221120237041090561
  · subst h
    go_enter Tryd.func72, Tryd.ntmps72
    go_wp2_with fail
    go_ret
    exact ⟨by simp [realP], rfl⟩
  · have q1 : ((b : Int) == 9221120237041090561) = false := by simp; omega
    go_enter Tryd.func72, Tryd.ntmps72
    go_wp2_with fail
    refine (none_any b _).mono ?_
    rintro e w1 ⟨rfl, rfl⟩
    go_wp2_with fail
    go_ret
    exact ⟨by simp [realP, h], rfl⟩

theorem andNot63 (b : Nat) (hb : b < 18446744073709551616) : bits .andNot .u64 (b : Int) 9223372036854775808 = ((b % 9223372036854775808 : Nat) : Int) := by
  have h1 : (BitVec.ofInt 64 (b : Int)).toNat = b := by
    rw [BitVec.ofInt_natCast, BitVec.toNat_ofNat]; exact Nat.mod_eq_of_lt (by omega)
  have h2 : (~~~ BitVec.ofInt 64 9223372036854775808).toNat = 2 ^ 63 - 1 := by decide
  show IntKind.u64.wrap ((BitVec.ofInt 64 (b : Int) &&& ~~~ BitVec.ofInt 64 9223372036854775808).toNat : Int) = _
  rw [BitVec.toNat_and, h1, h2, Nat.and_two_pow_sub_one_eq_mod, IntKind.wrap_u64]
  omega

theorem nan_any (b : Nat) (hb : b < 18446744073709551616) (w : World) : Calls Tryd.prog 91 #[.int .u64 b] w fun e w' => e = .returned (.bool (!decide (b % 9223372036854775808 ≤ 9218868437227405312))) ∧ w' = w := by
  have hx := andNot63 b hb
  by_cases h : b % 9223372036854775808 ≤ 9218868437227405312
  · have q : ¬ (9218868437227405312 : Int) < ((b % 9223372036854775808 : Nat) : Int) := by omega
    rw [decide_eq_true h]
    clear h
    go_enter Tryd.func91, Tryd.ntmps91
    go_wp2_with fail
    go_ret
    exact ⟨by simpa using q, rfl⟩
  · have q : (9218868437227405312 : Int) < ((b % 9223372036854775808 : Nat) : Int) := by omega
    rw [decide_eq_false h]
    clear h
    go_enter Tryd.func91, Tryd.ntmps91
    go_wp2_with fail
    go_ret
    exact ⟨by simpa using q, rfl⟩

theorem refReal_any (b : Nat) (hb : b < 18446744073709551616) (w : World) : Calls Tryd.prog 79 #[.int .u64 b] w fun e w' => e = .returned (.bool (realP b)) ∧ w' = w := by
  by_cases h2 : b % 9223372036854775808 ≤ 9218868437227405312
  · go_enter Tryd.func79, Tryd.ntmps79
    go_wp2_with fail
    refine (nan_any b hb _).mono ?_
    rintro e w1 ⟨rfl, rfl⟩
    simp only [h2, decide_true, Bool.not_true]
    go_wp2_with fail
    go_ret
    exact ⟨by simp [realP, h2], rfl⟩
  · by_cases h : b = 9221120237041090561
    · subst h
      go_enter Tryd.func79, Tryd.ntmps79
      go_wp2_with fail
      refine (nan_any _ hb _).mono ?_
      rintro e w1 ⟨rfl, rfl⟩
      simp only [h2, decide_false, Bool.not_false]
      go_wp2_with fail
      go_ret
      exact ⟨by simp [realP], rfl⟩
    · have q1 : ((b : Int) == 9221120237041090561) = false := by simp; omega
      go_enter Tryd.func79, Tryd.ntmps79
      go_wp2_with fail
      refine (nan_any b hb _).mono ?_
      rintro e w1 ⟨rfl, rfl⟩
      simp only [h2, decide_false, Bool.not_false]
      go_wp2_with fail
      go_ret
      exact ⟨by simp [realP, h, h2], rfl⟩

/-! ### Integers -/

theorem numMay_any (neg : Bool) (mag : List Nat) (mv : Value) (w : World) (hm : Ms w mv mag) (hml : mag.length ≤ maxLen) :
    Calls Tryd.prog 71 #[.agg #[.bool neg, mv]] w fun e w' => e = .returned (.bool (numMayP neg mag)) ∧ Below w.heap.size w w' := by
  obtain ⟨a, cap, rfl, hc⟩ := hm
  have b1 : Below w.heap.size w (w.alloc (.cells #[.bool neg, .slice a mag.length cap] 24)) := (Below.refl _ _).alloc (Nat.le_refl _) _
  unfold maxLen at hml
  by_cases h8 : 8 < mag.length
  · have q1 : ¬ (mag.length : Int) ≤ 8 := by omega
    go_enter Tryd.func71, Tryd.ntmps71
    go_wp2_with fail
    go_ret
    exact ⟨by unfold numMayP; rw [decide_eq_false (by omega)]; rfl, b1⟩
  have q1 : (mag.length : Int) ≤ 8 := by omega
  by_cases h0 : mag.length = 0
  · have HE := Lib.hid (show numMayP neg mag = !neg by unfold numMayP; rw [decide_eq_true (by omega), if_pos h0]; rfl)
    rw [h0] at q1 b1 ⊢
    clear hc hml h8
    cases neg
    all_goals
      go_enter Tryd.func71, Tryd.ntmps71
      go_wp2_with fail
      go_ret
      exact ⟨by rw [HE.out]; rfl, b1⟩
  · obtain ⟨m, hlen⟩ : ∃ m, mag.length = m + 1 := ⟨mag.length - 1, by omega⟩
    obtain ⟨g, o, rfl, k⟩ := hc m (by omega)
    have k1 := (b1.cell (World.block_lt_of_cell? w _ k)).trans k
    have hgd : mag.getD (mag.length - 1) 0 = mag[m] := by
      rw [show mag.length - 1 = m by omega]; simp [List.getD, List.getElem?_eq_getElem (show m < mag.length by omega)]
    have HE := Lib.hid (show numMayP neg mag = decide (mag[m] ≠ 0) by unfold numMayP; rw [decide_eq_true (by omega), if_neg h0, hgd]; rfl)
    obtain ⟨x, hx⟩ : ∃ x, mag[m] = x := ⟨_, rfl⟩
    rw [hx] at k k1 hgd
    have HX := Lib.hid hx
    rw [hlen] at q1 b1 k1 ⊢
    have q2 : IntKind.i64.wrap (m : Int) = m := IntWalk.i64_in _ (by omega)
    have q3 : (0 : Int) < (m : Int) + 1 := by omega
    have q4 : (m : Int) < (m : Int) + 1 := by omega
    have q5 : ((m : Int) + 1 == 0) = false := by simp; omega
    have q6 : (m : Int) + 1 ≤ 8 := by omega
    have q7 : (m : Int) + 1 - 1 = m := by omega
    clear hc hml h8 k hx
    by_cases hx0 : x = 0
    · subst hx0
      go_enter Tryd.func71, Tryd.ntmps71
      go_wp2_with fail
      go_ret
      exact ⟨by rw [HE.out, HX.out]; rfl, b1⟩
    · have q8 : ((x : Int) != 0) = true := by simp; omega
      go_enter Tryd.func71, Tryd.ntmps71
      go_wp2_with fail
      go_ret
      exact ⟨by rw [HE.out, HX.out, decide_eq_true hx0]; rfl, b1⟩

theorem refNumMay_any (neg : Bool) (mag : List Nat) (mv : Value) (w : World) (hm : Ms w mv mag) (hml : mag.length ≤ maxLen) :
    Calls Tryd.prog 78 #[.agg #[.bool neg, mv]] w fun e w' => e = .returned (.bool (numMayP neg mag)) ∧ Below w.heap.size w w' := by
  obtain ⟨a, cap, rfl, hc⟩ := hm
  have b1 : Below w.heap.size w (w.alloc (.cells #[.bool neg, .slice a mag.length cap] 24)) := (Below.refl _ _).alloc (Nat.le_refl _) _
  unfold maxLen at hml
  by_cases h8 : 8 < mag.length
  · have q1 : ¬ (mag.length : Int) ≤ 8 := by omega
    go_enter Tryd.func78, Tryd.ntmps78
    go_wp2_with fail
    go_ret
    exact ⟨by unfold numMayP; rw [decide_eq_false (by omega)]; rfl, b1⟩
  have q1 : (mag.length : Int) ≤ 8 := by omega
  by_cases h0 : mag.length = 0
  · have HE := Lib.hid (show numMayP neg mag = !neg by unfold numMayP; rw [decide_eq_true (by omega), if_pos h0]; rfl)
    rw [h0] at q1 b1 ⊢
    clear hc hml h8
    cases neg
    all_goals
      go_enter Tryd.func78, Tryd.ntmps78
      go_wp2_with fail
      go_ret
      exact ⟨by rw [HE.out]; rfl, b1⟩
  · obtain ⟨m, hlen⟩ : ∃ m, mag.length = m + 1 := ⟨mag.length - 1, by omega⟩
    obtain ⟨g, o, rfl, k⟩ := hc m (by omega)
    have k1 := (b1.cell (World.block_lt_of_cell? w _ k)).trans k
    have hgd : mag.getD (mag.length - 1) 0 = mag[m] := by
      rw [show mag.length - 1 = m by omega]; simp [List.getD, List.getElem?_eq_getElem (show m < mag.length by omega)]
    have HE := Lib.hid (show numMayP neg mag = decide (mag[m] ≠ 0) by unfold numMayP; rw [decide_eq_true (by omega), if_neg h0, hgd]; rfl)
    obtain ⟨x, hx⟩ : ∃ x, mag[m] = x := ⟨_, rfl⟩
    rw [hx] at k k1 hgd
    have HX := Lib.hid hx
    rw [hlen] at q1 b1 k1 ⊢
    have q2 : IntKind.i64.wrap (m : Int) = m := IntWalk.i64_in _ (by omega)
    have q3 : (0 : Int) < (m : Int) + 1 := by omega
    have q4 : (m : Int) < (m : Int) + 1 := by omega
    have q5 : ((m : Int) + 1 == 0) = false := by simp; omega
    have q6 : (m : Int) + 1 ≤ 8 := by omega
    have q7 : (m : Int) + 1 - 1 = m := by omega
    clear hc hml h8 k hx
    by_cases hx0 : x = 0
    · subst hx0
      go_enter Tryd.func78, Tryd.ntmps78
      go_wp2_with fail
      go_ret
      exact ⟨by rw [HE.out, HX.out]; rfl, b1⟩
    · have q8 : ((x : Int) != 0) = true := by simp; omega
      go_enter Tryd.func78, Tryd.ntmps78
      go_wp2_with fail
      go_ret
      exact ⟨by rw [HE.out, HX.out, decide_eq_true hx0]; rfl, b1⟩

end Go.Proofs.YtohgkfnbjfhniaaDoor
