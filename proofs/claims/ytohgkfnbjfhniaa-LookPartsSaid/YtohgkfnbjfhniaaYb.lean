/-
  A number as far as it may go: Low.
-/
import Derived.Test.YtohgkfnbjfhniaaYa
namespace Go.Proofs.Ytohgkfnbjfhniaa
open Go.RowKit

def lowP (x n : Int) : Int := x % 18446744073709551616 % n

theorem lowP_le (x : Int) {n : Int} (hn : 1 ≤ n) : 0 ≤ lowP x n ∧ lowP x n < n := ⟨Int.emod_nonneg _ (by omega), Int.emod_lt_of_pos _ (by omega)⟩

set_option maxHeartbeats 4000000 in
theorem low_any (x n : Int) (hx : In64 x) (hn : 1 ≤ n ∧ n ≤ 1000000000) (w : World) : Calls Try.prog 11 #[.int .i64 x, .int .i64 n] w fun e w' => e = .returned (.int .i64 (lowP x n)) ∧ w' = w := by
  unfold In64 at hx
  have h1 : IntKind.u64.wrap x = x % 18446744073709551616 := IntKind.wrap_u64 x
  have h2 : IntKind.u64.wrap n = n := by rw [IntKind.wrap_u64]; omega
  have h3 : 0 ≤ lowP x n ∧ lowP x n < n := lowP_le x hn.1
  have h4 : IntKind.i64.wrap (lowP x n) = lowP x n := IntWalk.i64_in _ (by omega)
  have h5 : IntKind.u64.wrap (lowP x n) = lowP x n := by rw [IntKind.wrap_u64]; omega
  have h6 : (x % 18446744073709551616).tmod n = lowP x n := by
    unfold lowP; rw [Int.tmod_eq_emod_of_nonneg (by omega)]
  have h7 : ¬ n = 0 := by omega
  go_enter Try.func11, Try.ntmps11
  go_wp2_with fail
  go_ret
  exact ⟨rfl, rfl⟩

end Go.Proofs.Ytohgkfnbjfhniaa
