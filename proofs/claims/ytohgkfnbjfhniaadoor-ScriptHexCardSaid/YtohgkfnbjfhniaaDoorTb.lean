/-
  Has a term nothing but what its kind has: both answers.
-/
import Derived.Test.YtohgkfnbjfhniaaDoorTn
namespace Go.Proofs.YtohgkfnbjfhniaaDoor
open Go.RowKit Sp

theorem len_zero {α : Type} (l : List α) : ((l.length : Int) == 0) = decide (l.length = 0) := by
  by_cases h : l.length = 0
  · simp [h]
  · have : ((l.length : Int) == 0) = false := by simp; intro q; exact h (by simp [q])
    simp [this, h]
theorem empty_nil {α : Type} (l : List α) : l.isEmpty = decide (l.length = 0) := by cases l <;> simp

set_option maxHeartbeats 4000000 in
set_option maxRecDepth 100000 in
theorem bare_any (k n : Int) (neg : Bool) (mag : List Nat) (bits : Nat) (bytes : ByteArray) (args : List Tm) (a : Option Addr) (acap : Nat) (ma : Option Addr) (mcap : Nat) (w : World) :
    Calls Tryd.prog 73 #[.agg #[.int .i64 k, .int .i64 n, .bool neg, .slice ma mag.length mcap, .int .u64 bits, .string bytes, .slice a args.length acap]] w fun e w' => e = .returned (.bool (bareP k n neg mag bits bytes args)) ∧ Below w.heap.size w w' := by
  have b1 : Below w.heap.size w (w.alloc (.cells #[.int .i64 k, .int .i64 n, .bool neg, .slice ma mag.length mcap, .int .u64 bits, .string bytes, .slice a args.length acap] 28)) := (Below.refl _ _).alloc (Nat.le_refl _) _
  have B1 := Lib.hid b1
  clear b1
  go_enter Tryd.func73, Tryd.ntmps73
  go_wp2_with fail
  all_goals
    go_ret
    refine ⟨?_, (Below.refl _ _).alloc (Nat.le_refl _) _⟩
    show Ending.returned (Value.bool _) = Ending.returned (Value.bool _)
    congr 1
    congr 1
    simp_all [bareP, len_zero, empty_nil]

set_option maxHeartbeats 4000000 in
set_option maxRecDepth 100000 in
theorem blank_any (k n : Int) (neg : Bool) (mag : List Nat) (bits : Nat) (bytes : ByteArray) (args : List Tm) (a : Option Addr) (acap : Nat) (ma : Option Addr) (mcap : Nat) (w : World) :
    Calls Tryd.prog 76 #[.agg #[.int .i64 k, .int .i64 n, .bool neg, .slice ma mag.length mcap, .int .u64 bits, .string bytes, .slice a args.length acap]] w fun e w' => e = .returned (.bool (bareP k n neg mag bits bytes args)) ∧ Below w.heap.size w w' := by
  go_enter Tryd.func76, Tryd.ntmps76
  go_wp2_with fail
  all_goals
    go_ret
    refine ⟨?_, ((Below.refl _ _).alloc (Nat.le_refl _) _).alloc (by simp) _⟩
    show Ending.returned (Value.bool _) = Ending.returned (Value.bool _)
    congr 1
    congr 1
    simp_all [bareP, len_zero, empty_nil]

end Go.Proofs.YtohgkfnbjfhniaaDoor
