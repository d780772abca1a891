/-
  A head's parts; is an address in a region; where a word leads to.
-/
import Derived.Test.YtohgkfnbjfhniaaWd
namespace Go.Proofs.Ytohgkfnbjfhniaa
open Go.RowKit

theorem and7i (x : Nat) (hx : x < 9223372036854775808) : bits .and .i64 (x : Int) 7 = ((x % 8 : Nat) : Int) := by
  have h1 : (BitVec.ofInt 64 (x : Int)).toNat = x := by
    rw [BitVec.ofInt_natCast, BitVec.toNat_ofNat]; exact Nat.mod_eq_of_lt (by omega)
  have h2 : (BitVec.ofInt 64 7).toNat = 7 := by decide
  show IntKind.i64.wrap ((BitVec.ofInt 64 (x : Int) &&& BitVec.ofInt 64 7).toNat : Int) = _
  rw [BitVec.toNat_and, h1, h2, show x &&& 7 = x % 8 from Nat.and_two_pow_sub_one_eq_mod x 3, IntKind.wrap_i64]
  omega

def HeadEnd (w : Nat) (e : Ending) : Prop := e = .returned (.tuple #[.int .i64 ((headP w).getD (0, 0)).1, .int .i64 ((headP w).getD (0, 0)).2, .bool (headP w).isSome])

theorem parts_any (w : Nat) (hw : w < 18446744073709551616) (W : World) : Calls Try.prog 36 #[.int .u64 w] W fun e W' => HeadEnd w e ∧ W' = W := by
  by_cases h6 : tagW w = 6
  · have hl : loadW w = ((w / 8 : Nat) : Int) := by unfold loadW; unfold tagW at h6; rw [if_neg (by omega)]
    have h1 := and7i (w / 8) (by omega)
    have q0 : (((tagW w : Nat) : Int) != 6) = false := by simp [h6]
    have h3 : ((w / 8 : Nat) : Int) / 8 = ((w / 64 : Nat) : Int) := by omega
    obtain ⟨l, hl8⟩ : ∃ l, w / 8 = l := ⟨_, rfl⟩
    obtain ⟨kd, hkd⟩ : ∃ kd, w / 8 % 8 = kd := ⟨_, rfl⟩
    obtain ⟨sz, hsz⟩ : ∃ sz, w / 64 = sz := ⟨_, rfl⟩
    rw [hkd, hl8] at h1
    rw [hl8] at hl
    rw [hl8, hsz] at h3
    have HL := Lib.hid hl
    have hok : (kd ≤ 5 ∧ sz ≤ 1048576) ∨ ¬ (kd ≤ 5 ∧ sz ≤ 1048576) := by omega
    rcases hok with ⟨a1, a2⟩ | hno
    · have HP := Lib.hid (show headP w = some ((kd : Int), (sz : Int)) by unfold headP; rw [hkd, hsz, if_pos ⟨h6, a1, a2⟩])
      have q1 : ¬ (5 : Int) < (kd : Int) := by omega
      have q2 : ¬ (1048576 : Int) < (sz : Int) := by omega
      clear hkd hsz hl8 h6 hl
      go_enter Try.func36, Try.ntmps36
      go_wp2_with fail
      refine (load_any w hw _).mono ?_
      rintro e W1 ⟨rfl, rfl⟩
      rw [HL.out]
      go_wp2_with fail
      refine (tag_any w hw _).mono ?_
      rintro e W1 ⟨rfl, rfl⟩
      go_wp2_with fail
      go_ret3
      exact ⟨by unfold HeadEnd; rw [HP.out]; rfl, rfl⟩
    · have HP := Lib.hid (show headP w = none by unfold headP; rw [hkd, hsz, if_neg (fun q => hno ⟨q.2.1, q.2.2⟩)])
      have hsp : (5 : Int) < (kd : Int) ∨ (¬ (5 : Int) < (kd : Int) ∧ (1048576 : Int) < (sz : Int)) := by omega
      clear hkd hsz hl8 h6 hl hno
      rcases hsp with q1 | ⟨q1, q2⟩
      all_goals
        go_enter Try.func36, Try.ntmps36
        go_wp2_with fail
        refine (load_any w hw _).mono ?_
        rintro e W1 ⟨rfl, rfl⟩
        rw [HL.out]
        go_wp2_with fail
        refine (tag_any w hw _).mono ?_
        rintro e W1 ⟨rfl, rfl⟩
        go_wp2_with fail
        go_ret3
        exact ⟨by unfold HeadEnd; rw [HP.out]; rfl, rfl⟩
  · have q0 : (((tagW w : Nat) : Int) != 6) = true := by simp; omega
    have HP := Lib.hid (show headP w = none by unfold headP; rw [if_neg (fun q => h6 q.1)])
    obtain ⟨l, hl⟩ : ∃ l, loadW w = l := ⟨_, rfl⟩
    have HL := Lib.hid hl
    clear hl
    go_enter Try.func36, Try.ntmps36
    go_wp2_with fail
    refine (load_any w hw _).mono ?_
    rintro e W1 ⟨rfl, rfl⟩
    rw [HL.out]
    go_wp2_with fail
    refine (tag_any w hw _).mono ?_
    rintro e W1 ⟨rfl, rfl⟩
    go_wp2_with fail
    go_ret3
    exact ⟨by unfold HeadEnd; rw [HP.out]; rfl, rfl⟩

/-- Does an address lie in a region? -/
def inP (at_ : Int) (len : Nat) (a : Int) : Bool := decide (0 ≤ at_) && decide (at_ ≤ a) && decide (a - at_ < len)

theorem in_any (at_ a : Int) (wa : Option Addr) (len cap : Nat) (W : World) (h1 : -9223372036854775808 ≤ a ∧ a ≤ 9223372036854775807) : Calls Try.prog 53 #[.agg #[.int .i64 at_, .slice wa len cap], .int .i64 a] W fun e W' => e = .returned (.bool (inP at_ len a)) ∧ Below W.heap.size W W' := by
  have B1 := Lib.hid ((Below.refl W.heap.size W).alloc (Nat.le_refl _) (.cells #[.int .i64 at_, .slice wa len cap] 24))
  by_cases g0 : 0 ≤ at_
  · by_cases g1 : at_ ≤ a
    · have q : IntKind.i64.wrap (a - at_) = a - at_ := IntWalk.i64_in _ (by omega)
      go_enter Try.func53, Try.ntmps53
      go_wp2_with fail
      go_ret
      exact ⟨by simp [inP, g0, g1], B1.out⟩
    · go_enter Try.func53, Try.ntmps53
      go_wp2_with fail
      go_ret
      exact ⟨by simp [inP, g0]; omega, B1.out⟩
  · go_enter Try.func53, Try.ntmps53
    go_wp2_with fail
    go_ret
    exact ⟨by simp [inP]; omega, B1.out⟩

end Go.Proofs.Ytohgkfnbjfhniaa
