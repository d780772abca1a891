/-
  Words by chapter 8's own answer: Tag, Load, Head, Parts; a word that is moved.
-/
import Derived.Test.YtohgkfnbjfhniaaYh
namespace Go.Proofs.Ytohgkfnbjfhniaa
open Go.RowKit

theorem tag8_any (x : Nat) (hx : x < 18446744073709551616) (W : World) : Calls Try.prog 29 #[.int .u64 x] W fun e W' => e = .returned (.int .i64 ((tagW x : Nat) : Int)) ∧ W = W' := by
  have h2 : (x : Int).tmod 8 = ((x % 8 : Nat) : Int) := by rw [Int.tmod_eq_emod_of_nonneg (by omega)]; omega
  have h3 : IntKind.i64.wrap ((x % 8 : Nat) : Int) = ((x % 8 : Nat) : Int) := IntWalk.i64_in _ (by omega)
  have h4 : IntKind.u64.wrap ((x % 8 : Nat) : Int) = ((x % 8 : Nat) : Int) := by rw [IntKind.wrap_u64]; omega
  unfold tagW
  generalize x % 8 = t at *
  go_enter Try.func29, Try.ntmps29
  go_wp2_with fail
  go_ret
  exact ⟨rfl, rfl⟩

set_option maxHeartbeats 1000000 in
theorem load8_any (x : Nat) (hx : x < 18446744073709551616) (W : World) : Calls Try.prog 30 #[.int .u64 x] W fun e W' => e = .returned (.int .i64 (loadW x)) ∧ W = W' := by
  obtain ⟨l, hl⟩ : ∃ l, loadW x = l := ⟨_, rfl⟩
  by_cases h0 : x % 8 = 0
  · have h2 : (x : Int).tmod 8 = 0 := by rw [Int.tmod_eq_emod_of_nonneg (by omega)]; omega
    obtain ⟨z, hz⟩ : ∃ z : Int, IntKind.i64.wrap (x : Int) = z := ⟨_, rfl⟩
    have hz2 : (if x < 9223372036854775808 then (x : Int) else (x : Int) - 18446744073709551616) = z := by
      rw [← hz, IntKind.wrap_i64]
      split <;> omega
    have hl2 : l = z / 8 := by rw [← hl]; unfold loadW; rw [if_pos h0, hz2]
    have hz8 : z % 8 = 0 := by rw [← hz2]; split <;> omega
    have hzb : -9223372036854775808 ≤ z ∧ z ≤ 9223372036854775807 := by rw [← hz2]; split <;> omega
    have h3 : z.tdiv 8 = l := by
      rw [hl2]
      rw [Int.tdiv_eq_ediv_of_dvd (Int.dvd_of_emod_eq_zero hz8)]
    have h4 : IntKind.i64.wrap l = l := IntWalk.i64_in _ (by omega)
    have HL := Lib.hid hl
    rw [hl]
    clear hl hl2 hz2 hz8
    go_enter Try.func30, Try.ntmps30
    go_wp2_with fail
    go_ret
    exact ⟨by first | rfl | rw [h3] | rw [h3, h4], rfl⟩
  · have h2 : (x : Int).tmod 8 = ((x % 8 : Nat) : Int) := by rw [Int.tmod_eq_emod_of_nonneg (by omega)]; omega
    have q : (((x % 8 : Nat) : Int) == 0) = false := by
      have : ((x % 8 : Nat) : Int) ≠ 0 := by omega
      simpa using this
    have h4 : IntKind.u64.wrap ((x % 8 : Nat) : Int) = ((x % 8 : Nat) : Int) := by rw [IntKind.wrap_u64]; omega
    have h5 : (x : Int).tdiv 8 = l := by rw [Int.tdiv_eq_ediv_of_nonneg (by omega), ← hl]; unfold loadW; rw [if_neg h0]; omega
    have hlb : 0 ≤ l ∧ l < 2305843009213693952 := by rw [← hl]; unfold loadW; rw [if_neg h0]; omega
    have h6 : IntKind.u64.wrap l = l := by rw [IntKind.wrap_u64]; omega
    have h7 : IntKind.i64.wrap l = l := IntWalk.i64_in _ (by omega)
    have h8 : (x : Int) / 8 = l := by rw [← h5, Int.tdiv_eq_ediv_of_nonneg (by omega)]
    rw [hl]
    clear hl hlb
    generalize x % 8 = t at *
    go_enter Try.func30, Try.ntmps30
    go_wp2_with fail
    go_ret
    exact ⟨rfl, rfl⟩

/-- A head's word. -/
def head8 (k s : Nat) : Option Nat := if k ≤ 5 ∧ s ≤ 1048576 then some ((s * 8 + k) * 8 + 6) else none

def Head8End (k s : Nat) (e : Ending) : Prop := e = .returned (.tuple #[.int .u64 (((head8 k s).getD 0 : Nat) : Int), .bool (head8 k s).isSome])

set_option maxHeartbeats 1000000 in
theorem head8_any (k s : Nat) (hk : k ≤ 1000000) (hs : s ≤ 1000000000000000000) (W : World) : Calls Try.prog 18 #[.int .i64 k, .int .i64 s] W fun e W' => Head8End k s e ∧ W = W' := by
  have p1 : ¬ (k : Int) < 0 := by omega
  have p2 : ¬ (s : Int) < 0 := by omega
  by_cases h1 : k ≤ 5
  · have p3 : ¬ (5 : Int) < (k : Int) := by omega
    by_cases h2 : s ≤ 1048576
    · have p4 : ¬ (1048576 : Int) < (s : Int) := by omega
      have HE := Lib.hid (show head8 k s = some ((s * 8 + k) * 8 + 6) by unfold head8; rw [if_pos ⟨h1, h2⟩])
      have q1 : IntKind.i64.wrap ((s : Int) * 8) = ((s * 8 : Nat) : Int) := by rw [IntWalk.i64_in _ (by omega)]; omega
      have q2 : IntKind.i64.wrap (((s * 8 : Nat) : Int) + (k : Int)) = ((s * 8 + k : Nat) : Int) := by rw [IntWalk.i64_in _ (by omega)]; omega
      have q3 : IntKind.u64.wrap ((s * 8 + k : Nat) : Int) = ((s * 8 + k : Nat) : Int) := by rw [IntKind.wrap_u64]; omega
      have q4 : IntKind.u64.wrap (((s * 8 + k : Nat) : Int) * 8) = (((s * 8 + k) * 8 : Nat) : Int) := by rw [IntKind.wrap_u64]; omega
      have q5 : IntKind.u64.wrap ((((s * 8 + k) * 8 : Nat) : Int) + 6) = (((s * 8 + k) * 8 + 6 : Nat) : Int) := by rw [IntKind.wrap_u64]; omega
      generalize (s * 8 + k) * 8 + 6 = z at *
      generalize (s * 8 + k) * 8 = y at *
      generalize s * 8 + k = x at *
      generalize s * 8 = u at *
      go_enter Try.func18, Try.ntmps18
      go_wp2_with fail
      go_ret2
      unfold Head8End
      rw [HE.out]
      exact ⟨rfl, rfl⟩
    · have p4 : (1048576 : Int) < (s : Int) := by omega
      have HE := Lib.hid (show head8 k s = none by unfold head8; rw [if_neg (fun q => h2 q.2)])
      go_enter Try.func18, Try.ntmps18
      go_wp2_with fail
      go_ret2
      unfold Head8End
      rw [HE.out]
      exact ⟨rfl, rfl⟩
  · have p3 : (5 : Int) < (k : Int) := by omega
    have HE := Lib.hid (show head8 k s = none by unfold head8; rw [if_neg (fun q => h1 q.1)])
    go_enter Try.func18, Try.ntmps18
    go_wp2_with fail
    go_ret2
    unfold Head8End
    rw [HE.out]
    exact ⟨rfl, rfl⟩

theorem head8_headP (x : Nat) : (match head8 (x / 8 % 8) (x / 64) with | some z => if z = x then some (((x / 8 % 8 : Nat) : Int), ((x / 64 : Nat) : Int)) else none | none => none) = headP x := by
  unfold head8 headP tagW
  by_cases h : x / 8 % 8 ≤ 5 ∧ x / 64 ≤ 1048576
  · rw [if_pos h]
    simp only
    by_cases h6 : x % 8 = 6
    · rw [if_pos (by omega), if_pos ⟨h6, h.1, h.2⟩]
    · rw [if_neg (by omega), if_neg (fun q => h6 q.1)]
  · rw [if_neg h, if_neg (fun q => h q.2)]

set_option maxHeartbeats 1000000 in
theorem parts8_any (x : Nat) (hx : x < 18446744073709551616) (W : World) : Calls Try.prog 15 #[.int .u64 x] W fun e W' => HeadEnd x e ∧ W = W' := by
  have HH := Lib.hid (head8_headP x)
  have HKB := Lib.hid (show x / 8 % 8 ≤ 1000000 ∧ x / 64 ≤ 1000000000000000000 by omega)
  have q1 : (x : Int).tdiv 8 = ((x / 8 : Nat) : Int) := by rw [Int.tdiv_eq_ediv_of_nonneg (by omega)]; omega
  have q2 : ((x / 8 : Nat) : Int).tmod 8 = ((x / 8 % 8 : Nat) : Int) := by rw [Int.tmod_eq_emod_of_nonneg (by omega)]; omega
  have q3 : (x : Int).tdiv 64 = ((x / 64 : Nat) : Int) := by rw [Int.tdiv_eq_ediv_of_nonneg (by omega)]; omega
  have q4 : IntKind.i64.wrap ((x / 8 % 8 : Nat) : Int) = ((x / 8 % 8 : Nat) : Int) := IntWalk.i64_in _ (by omega)
  have q5 : IntKind.i64.wrap ((x / 64 : Nat) : Int) = ((x / 64 : Nat) : Int) := IntWalk.i64_in _ (by omega)
  have r1 : (x : Int) / 8 = ((x / 8 : Nat) : Int) := by omega
  have r2 : ((x / 8 : Nat) : Int) % 8 = ((x / 8 % 8 : Nat) : Int) := by omega
  have r3 : (x : Int) / 64 = ((x / 64 : Nat) : Int) := by omega
  obtain ⟨r, hr⟩ : ∃ r, headP x = r := ⟨_, rfl⟩
  have HR := Lib.hid hr
  rw [hr] at HH
  clear hr
  generalize x / 8 % 8 = k at *
  generalize x / 64 = s at *
  generalize x / 8 = y at *
  go_enter Try.func15, Try.ntmps15
  go_wp2_with fail
  refine (head8_any k s HKB.out.1 HKB.out.2 W).mono ?_
  rintro e w ⟨he, rfl⟩
  unfold Head8End at he
  obtain ⟨h8, hh8⟩ : ∃ h, head8 k s = h := ⟨_, rfl⟩
  rw [hh8] at HH he
  clear hh8
  subst he
  cases h8 with
  | none =>
    have HE := Lib.hid (show r = none from HH.out.symm)
    go_wp2_with fail
    refine bodyPost_ret (v := .tuple #[.int .i64 0, .int .i64 0, .bool false]) (by simp [results, Try.results15, go_sem]) rfl ⟨?_, rfl⟩
    unfold HeadEnd
    rw [HR.out, HE.out]; rfl
  | some z =>
    by_cases hz : z = x
    · have HE := Lib.hid (show r = some ((k : Int), (s : Int)) by rw [← HH.out]; simp [hz])
      subst hz
      go_wp2_with fail
      refine bodyPost_ret (v := .tuple #[.int .i64 k, .int .i64 s, .bool true]) (by simp [results, Try.results15, go_sem]) rfl ⟨?_, rfl⟩
      unfold HeadEnd
      rw [HR.out, HE.out]; rfl
    · have HE := Lib.hid (show r = none by rw [← HH.out]; simp [hz])
      have p1 : ((z : Int) != (x : Int)) = true := by
        have : (z : Int) ≠ (x : Int) := by omega
        simpa using this
      have p2 : ¬ (z : Int) = (x : Int) := by omega
      go_wp2_with fail
      refine bodyPost_ret (v := .tuple #[.int .i64 0, .int .i64 0, .bool false]) (by simp [results, Try.results15, go_sem]) rfl ⟨?_, rfl⟩
      unfold HeadEnd
      rw [HR.out, HE.out]; rfl

end Go.Proofs.Ytohgkfnbjfhniaa
