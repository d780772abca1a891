/-
  May all words stand for terms?
-/
import Derived.Test.YtohgkfnbjfhniaaWm
namespace Go.Proofs.Ytohgkfnbjfhniaa
open Go.RowKit

theorem not_plain (x : Nat) (hx : x < 18446744073709551616) (w : World) : Calls Try.prog 58 #[.int .u64 x] w fun e w' => e = .returned (.bool (!plainP x)) ∧ w' = w := by
  go_enter Try.func58, Try.ntmps58
  go_wp2_with fail
  refine (plain_any x hx _).mono ?_
  rintro e w1 ⟨rfl, rfl⟩
  go_wp2_with fail
  go_ret
  exact ⟨rfl, rfl⟩

def allP (l : List Nat) : Bool := l.all plainP

def IdxEnd (b : Bool) (e : Ending) : Prop := ∃ i : Int, e = .returned (.int .i64 i) ∧ ((i = -1 ∧ b = true) ∨ (0 ≤ i ∧ b = false))

theorem allP_take {l : List Nat} {k : Nat} (h : k < l.length) : allP (l.take (k + 1)) = (allP (l.take k) && plainP l[k]) := by
  unfold allP
  rw [List.take_succ_eq_append_getElem h, List.all_append]
  simp only [List.all_cons, List.all_nil, Bool.and_true]

theorem allP_not {l : List Nat} {k : Nat} (h : k < l.length) (hf : plainP l[k] = false) : allP l = false := by
  unfold allP
  rw [List.all_eq_false]
  exact ⟨l[k], List.getElem_mem h, by simp [hf]⟩

set_option maxHeartbeats 4000000 in
set_option maxRecDepth 100000 in
theorem index_plain (l : List Nat) (lv : Value) (w : World) (h : Ws w lv l) : Calls Try.prog 50 #[lv, .func (.func 58) #[] #[]] w fun e w' => IdxEnd (allP l) e ∧ w' = w := by
  obtain ⟨hl, hu, a, cap, rfl, _, _, hc⟩ := h
  have HC := Lib.hid hc
  have HU := Lib.hid hu
  unfold maxLen at hl
  clear hc hu
  go_enter Try.func50, Try.ntmps50
  go_wp2_with fail
  go_loop [8] (fun i => ∃ (k : Nat), k ≤ l.length ∧ i = .int .i64 k ∧ Hid (allP (l.take k) = true)) (fun i => l.length - (intOf i).toNat)
  case atStart => exact ⟨0, by omega, rfl, Lib.hid (by simp [allP])⟩
  case round =>
    obtain ⟨j, hj, rfl, HR⟩ := hrel
    by_cases hlt' : j < l.length
    · have q4 : (j : Int) < (l.length : Int) := by omega
      have q5 : (0 : Int) ≤ (j : Int) := by omega
      have q6 : IntKind.i64.wrap ((j : Int) + 1) = (j : Int) + 1 := IntWalk.i64_in _ (by omega)
      obtain ⟨g, o, rfl, k0⟩ := HC.out j hlt'
      have hx := HU.out _ (List.getElem_mem hlt')
      have HRT := Lib.hid (allP_take hlt')
      have HRN := Lib.hid (fun hf => allP_not hlt' hf)
      obtain ⟨x, hxx⟩ : ∃ x, l[j] = x := ⟨_, rfl⟩
      rw [hxx] at k0 hx HRT HRN
      clear hxx
      go_wp2_with fail
      refine (not_plain x hx _).mono ?_
      rintro e w5 ⟨rfl, rfl⟩
      cases hr : plainP x with
      | true =>
        rw [hr] at HRT
        clear HRN hr
        go_wp2_with fail
        go_round
        case rel => exact ⟨j + 1, by omega, by go_num, Lib.hid (by rw [HRT.out, HR.out]; rfl)⟩
        case measure => simp [intOf]; omega
      | false =>
        have HRF := Lib.hid (HRN.out hr)
        clear HRN hr HRT
        go_wp2_with fail
        go_ret
        exact ⟨⟨j, rfl, .inr ⟨by omega, HRF.out⟩⟩, rfl⟩
    · obtain rfl : j = l.length := by omega
      have q4 : ¬ ((l.length : Nat) : Int) < (l.length : Int) := by omega
      have HRE := Lib.hid (show allP l = true by have h := HR.out; rwa [List.take_length] at h)
      go_wp2_with fail
      go_ret
      exact ⟨⟨-1, rfl, .inl ⟨rfl, HRE.out⟩⟩, rfl⟩

theorem contains_plain (l : List Nat) (lv : Value) (w : World) (h : Ws w lv l) : Calls Try.prog 34 #[lv, .func (.func 58) #[] #[]] w fun e w' => e = .returned (.bool (!allP l)) ∧ w' = w := by
  go_enter Try.func34, Try.ntmps34
  go_wp2_with fail
  refine (index_plain l lv w h).mono ?_
  rintro e w1 ⟨⟨i, rfl, hi⟩, rfl⟩
  rcases hi with ⟨rfl, hr⟩ | ⟨hi, hr⟩
  · have HR := Lib.hid hr
    clear hr
    go_wp2_with fail
    go_ret
    exact ⟨by rw [HR.out]; rfl, rfl⟩
  · have HR := Lib.hid hr
    clear hr
    go_wp2_with fail
    go_ret
    exact ⟨by rw [HR.out]; simp [hi], rfl⟩

theorem allplain_any (l : List Nat) (lv : Value) (w : World) (h : Ws w lv l) : Calls Try.prog 45 #[lv] w fun e w' => e = .returned (.bool (allP l)) ∧ w' = w := by
  go_enter Try.func45, Try.ntmps45
  go_wp2_with fail
  refine (contains_plain l lv w h).mono ?_
  rintro e w1 ⟨rfl, rfl⟩
  go_wp2_with fail
  go_ret
  exact ⟨by simp, rfl⟩

end Go.Proofs.Ytohgkfnbjfhniaa
