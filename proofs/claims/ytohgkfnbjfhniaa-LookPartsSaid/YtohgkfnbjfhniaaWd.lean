/-
  Words of a dump: tag, load, what fits, what is plain, a head's parts; where a word leads to.
-/
import Derived.Test.YtohgkfnbjfhniaaRows
import Derived.WalkKit
import Derived.WalkSpells
import Derived.WalkLawsBesides
import Derived.WalkSmall
import Derived.Deep.QuietTactic
import Derived.BigQuiet
import Derived.Lib.Hide
import Derived.IntWalk
import Derived.Below
import Derived.Laws.Bits64b
namespace Go.Proofs.Ytohgkfnbjfhniaa
open Go.RowKit

def tagW (w : Nat) : Nat := w % 8

/-- A word's load. -/
def loadW (w : Nat) : Int := if w % 8 = 0 then (if w < 9223372036854775808 then (w : Int) else (w : Int) - 18446744073709551616) / 8 else ((w / 8 : Nat) : Int)

def loW (t : Int) : Int := if t = 0 then -1152921504606846976 else 0
def hiW (t : Int) : Int := if t = 1 then 255 else if t = 2 then 63 else if t = 3 then 0 else 1152921504606846975

/-- May a tag have a load? -/
def fitsP (t l : Int) : Bool := decide (0 ≤ t ∧ t ≤ 7) && decide (loW t ≤ l ∧ l ≤ hiW t)

def plainP (w : Nat) : Bool := decide (tagW w ≤ 5) && fitsP (tagW w) (loadW w)

def headP (w : Nat) : Option (Int × Int) := if tagW w = 6 ∧ w / 8 % 8 ≤ 5 ∧ w / 64 ≤ 1048576 then some (((w / 8 % 8 : Nat) : Int), ((w / 64 : Nat) : Int)) else none

theorem and7 (w : Nat) (hw : w < 18446744073709551616) : bits .and .u64 (w : Int) 7 = ((w % 8 : Nat) : Int) := by
  have h := bits_and_u64_nat w 7 hw (by omega)
  have e : w &&& 7 = w % 8 := Nat.and_two_pow_sub_one_eq_mod w 3
  rw [e] at h
  exact h

theorem tag_any (w : Nat) (hw : w < 18446744073709551616) (W : World) : Calls Try.prog 52 #[.int .u64 w] W fun e W' => e = .returned (.int .i64 ((tagW w : Nat) : Int)) ∧ W' = W := by
  have h1 := and7 w hw
  have h2 : IntKind.i64.wrap ((w % 8 : Nat) : Int) = ((w % 8 : Nat) : Int) := IntWalk.i64_in _ (by omega)
  go_enter Try.func52, Try.ntmps52
  go_wp2_with fail
  go_ret
  exact ⟨by unfold tagW; simp, rfl⟩

theorem load_any (w : Nat) (hw : w < 18446744073709551616) (W : World) : Calls Try.prog 51 #[.int .u64 w] W fun e W' => e = .returned (.int .i64 (loadW w)) ∧ W' = W := by
  go_enter Try.func51, Try.ntmps51
  go_wp2_with fail
  refine (tag_any w hw _).mono ?_
  rintro e W1 ⟨rfl, rfl⟩
  by_cases h0 : tagW w = 0
  · have q : (((tagW w : Nat) : Int) == 0) = true := by simp [h0]
    obtain ⟨x, hx⟩ : ∃ x : Int, IntKind.i64.wrap (w : Int) = x := ⟨_, rfl⟩
    have hwx : (if w < 9223372036854775808 then (w : Int) else (w : Int) - 18446744073709551616) = x := by
      rw [← hx, IntKind.wrap_i64]
      split <;> omega
    have HX := Lib.hid (show loadW w = x / 8 by
      unfold loadW
      rw [if_pos (show w % 8 = 0 from h0), hwx])
    clear hwx
    go_wp2_with fail
    go_ret
    exact ⟨by rw [HX.out]; rfl, rfl⟩
  · have q : (((tagW w : Nat) : Int) == 0) = false := by simp [h0]
    have HX := Lib.hid (show loadW w = ((w / 8 : Nat) : Int) by unfold loadW; rw [if_neg (show ¬ w % 8 = 0 from h0)])
    have q2 : IntKind.i64.wrap ((w / 8 : Nat) : Int) = ((w / 8 : Nat) : Int) := IntWalk.i64_in _ (by omega)
    have q3 : IntKind.i64.wrap ((w : Int) / 8) = ((w / 8 : Nat) : Int) := by rw [← q2]; congr 1
    go_wp2_with fail
    go_ret
    exact ⟨by rw [HX.out]; rfl, rfl⟩

set_option maxHeartbeats 4000000 in
theorem fits_any (t l : Int) (W : World) : Calls Try.prog 74 #[.int .i64 t, .int .i64 l] W fun e W' => e = .returned (.bool (fitsP t l)) ∧ W' = W := by
  go_enter Try.func74, Try.ntmps74
  go_wp2_with fail
  all_goals
    go_ret
    refine ⟨?_, rfl⟩
    show Ending.returned (Value.bool _) = Ending.returned (Value.bool _)
    congr 1
    congr 1
    first
      | (simp_all [fitsP, loW, hiW]; done)
      | (simp_all [fitsP, loW, hiW]; omega)

theorem plain_any (w : Nat) (hw : w < 18446744073709551616) (W : World) : Calls Try.prog 55 #[.int .u64 w] W fun e W' => e = .returned (.bool (plainP w)) ∧ W' = W := by
  have h8 : tagW w ≤ 7 := by unfold tagW; omega
  go_enter Try.func55, Try.ntmps55
  go_wp2_with fail
  refine (tag_any w hw _).mono ?_
  rintro e W1 ⟨rfl, rfl⟩
  have q1 : (0 : Int) ≤ ((tagW w : Nat) : Int) := by omega
  by_cases h5 : tagW w ≤ 5
  · have q2 : ((tagW w : Nat) : Int) ≤ 5 := by omega
    go_wp2_with fail
    refine (load_any w hw _).mono ?_
    rintro e W2 ⟨rfl, rfl⟩
    go_wp2_with fail
    refine (fits_any _ _ _).mono ?_
    rintro e W3 ⟨rfl, rfl⟩
    go_wp2_with fail
    go_ret
    exact ⟨by simp [plainP, h5], rfl⟩
  · have q2 : ¬ ((tagW w : Nat) : Int) ≤ 5 := by omega
    go_wp2_with fail
    go_ret
    exact ⟨by simp [plainP, h5], rfl⟩

end Go.Proofs.Ytohgkfnbjfhniaa
