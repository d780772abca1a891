/-
  Floats: which bits may a float have? (As in chapter 25's text Tn, renumbered.)
-/
import Derived.Test.YtohgkfnbjfhniaaWh
import Derived.Laws.Externs
namespace Go.Proofs.Ytohgkfnbjfhniaa
open Go.RowKit

def realP (bits : Nat) : Bool := decide (bits = 9221120237041090561) || decide (bits % 9223372036854775808 ≤ 9218868437227405312)

theorem nanBits (b : Nat) : Op.floatEq .f64 b b = decide (b % 9223372036854775808 ≤ 9218868437227405312) := by
  have h1 : FloatKind.f64.format = Ieee.double := rfl
  have h2 : Ieee.double.signWeight = 9223372036854775808 := by decide
  have h3 : Ieee.double.infRung = 9218868437227405312 := by decide
  unfold Op.floatEq Ieee.Format.order Ieee.Format.read
  rw [h1, h2, h3]
  simp only
  by_cases a1 : b % 9223372036854775808 < Ieee.double.binade
  · have : Ieee.double.binade = 4503599627370496 := by decide
    rw [if_pos a1]
    simp only [Ieee.Datum.order]
    have : b % 9223372036854775808 ≤ 9218868437227405312 := by omega
    simp [this, compare, compareOfLessAndEq]
  · rw [if_neg a1]
    by_cases a2 : b % 9223372036854775808 < 9218868437227405312
    · rw [if_pos a2]
      simp only [Ieee.Datum.order]
      have : b % 9223372036854775808 ≤ 9218868437227405312 := by omega
      simp [this, compare, compareOfLessAndEq]
    · rw [if_neg a2]
      by_cases a3 : b % 9223372036854775808 = 9218868437227405312
      · rw [if_pos a3]
        simp [Ieee.Datum.order, a3, compare, compareOfLessAndEq]
      · rw [if_neg a3]
        have : ¬ b % 9223372036854775808 ≤ 9218868437227405312 := by omega
        simp [Ieee.Datum.order, this]

theorem run_frombits (b : Nat) (w : World) : (callFunc 89 #[.int .u64 b]).run Try.prog w = .ok (.value (.float .f64 b)) w := by
  rw [run_callFunc_extern (f := 89) (fn := Try.f89) (e := Extern.MathFloatBits.float64frombits) (by kernel_rfl) (by kernel_rfl) (by kernel_rfl) (by kernel_rfl) (by kernel_rfl)]
  rfl

theorem isnan_any (b : Nat) (w : World) : Calls Try.prog 88 #[.float .f64 b] w fun e w' => e = .returned (.bool (!decide (b % 9223372036854775808 ≤ 9218868437227405312))) ∧ w' = w := by
  have h := nanBits b
  go_enter Try.func88, Try.ntmps88
  go_wp2_with fail
  go_ret
  exact ⟨by rw [← h]; rfl, rfl⟩

theorem none_any (b : Nat) (w : World) : Calls Try.prog 81 #[.int .u64 b] w fun e w' => e = .returned (.bool (!decide (b % 9223372036854775808 ≤ 9218868437227405312))) ∧ w' = w := by
  have hd := run_frombits b w
  go_enter Try.func81, Try.ntmps81
  go_wp2_with fail
  refine (isnan_any b _).mono ?_
  rintro e w1 ⟨rfl, rfl⟩
  go_wp2_with fail
  go_ret
  exact ⟨rfl, rfl⟩

theorem realMay_any (b : Nat) (w : World) : Calls Try.prog 60 #[.int .u64 b] w fun e w' => e = .returned (.bool (realP b)) ∧ w' = w := by
  by_cases h : b = 9221120237041090561
  · subst h
    go_enter Try.func60, Try.ntmps60
    go_wp2_with fail
    go_ret
    exact ⟨by simp [realP], rfl⟩
  · have q1 : ((b : Int) == 9221120237041090561) = false := by simp; omega
    go_enter Try.func60, Try.ntmps60
    go_wp2_with fail
    refine (none_any b _).mono ?_
    rintro e w1 ⟨rfl, rfl⟩
    go_wp2_with fail
    go_ret
    exact ⟨by simp [realP, h], rfl⟩

end Go.Proofs.Ytohgkfnbjfhniaa
