/-
  Where a word leads to; are regions apart; chapter 8's own words.
-/
import Derived.Test.YtohgkfnbjfhniaaWp
namespace Go.Proofs.Ytohgkfnbjfhniaa
open Go.RowKit

/-- Where a word leads to: an address and a tag. -/
def toP (w : Nat) : Option (Int × Int) := if plainP w = true ∧ (tagW w = 4 ∨ tagW w = 5) then some (loadW w, ((tagW w : Nat) : Int)) else none

def ToEnd (w : Nat) (e : Ending) : Prop := e = .returned (.tuple #[.agg #[.int .i64 ((toP w).getD (0, 0)).1, .int .i64 ((toP w).getD (0, 0)).2], .bool (toP w).isSome])

theorem to_any (w : Nat) (hw : w < 18446744073709551616) (W : World) : Calls Try.prog 42 #[.int .u64 w] W fun e W' => ToEnd w e ∧ Below W.heap.size W W' := by
  have h7 : tagW w ≤ 7 := by unfold tagW; omega
  obtain ⟨t, ht⟩ : ∃ t, tagW w = t := ⟨_, rfl⟩
  obtain ⟨l, hl⟩ : ∃ l, loadW w = l := ⟨_, rfl⟩
  obtain ⟨p, hp⟩ : ∃ p, plainP w = p := ⟨_, rfl⟩
  have HT := Lib.hid ht
  have HL := Lib.hid hl
  have HP := Lib.hid hp
  by_cases hok : p = true ∧ (t = 4 ∨ t = 5)
  · have HTO := Lib.hid (show toP w = some (l, (t : Int)) by unfold toP; rw [hp, ht, hl, if_pos hok])
    obtain ⟨rfl, h45⟩ := hok
    clear ht hl hp
    rcases h45 with rfl | rfl
    all_goals
      go_enter Try.func42, Try.ntmps42
      go_wp2_with fail
      refine (tag_any w hw _).mono ?_
      rintro e W1 ⟨rfl, rfl⟩
      rw [HT.out]
      go_wp2_with fail
      refine (plain_any w hw _).mono ?_
      rintro e W1 ⟨rfl, rfl⟩
      rw [HP.out]
      go_wp2_with fail
      refine (load_any w hw _).mono ?_
      rintro e W1 ⟨rfl, rfl⟩
      rw [HL.out]
      go_wp2_with fail
      refine bodyPost_ret (v := .tuple #[.agg #[.int .i64 l, .int .i64 _], .bool true]) (by simp [results, Try.results42, go_sem]; rfl) rfl ⟨?_, (Below.refl _ _).alloc (Nat.le_refl _) _⟩
      unfold ToEnd
      rw [HTO.out]
      rfl
  · have HTO := Lib.hid (show toP w = none by unfold toP; rw [hp, ht, if_neg hok])
    have hsp : p = false ∨ (p = true ∧ t ≠ 4 ∧ t ≠ 5) := by
      cases p
      · exact .inl rfl
      · exact .inr ⟨rfl, fun q => hok ⟨rfl, .inl q⟩, fun q => hok ⟨rfl, .inr q⟩⟩
    clear ht hl hp hok
    rcases hsp with rfl | ⟨rfl, h4, h5⟩
    · go_enter Try.func42, Try.ntmps42
      go_wp2_with fail
      refine (tag_any w hw _).mono ?_
      rintro e W1 ⟨rfl, rfl⟩
      go_wp2_with fail
      refine (plain_any w hw _).mono ?_
      rintro e W1 ⟨rfl, rfl⟩
      rw [HP.out]
      go_wp2_with fail
      refine bodyPost_ret (v := .tuple #[.agg #[.int .i64 0, .int .i64 0], .bool false]) (by simp [results, Try.results42, go_sem]) rfl ⟨?_, (Below.refl _ _).alloc (Nat.le_refl _) _⟩
      unfold ToEnd
      rw [HTO.out]
      rfl
    · have q4 : ((t : Int) != 4) = true := by simp; omega
      have q5 : ((t : Int) != 5) = true := by simp; omega
      go_enter Try.func42, Try.ntmps42
      go_wp2_with fail
      refine (tag_any w hw _).mono ?_
      rintro e W1 ⟨rfl, rfl⟩
      rw [HT.out]
      go_wp2_with fail
      refine (plain_any w hw _).mono ?_
      rintro e W1 ⟨rfl, rfl⟩
      rw [HP.out]
      go_wp2_with fail
      refine bodyPost_ret (v := .tuple #[.agg #[.int .i64 0, .int .i64 0], .bool false]) (by simp [results, Try.results42, go_sem]) rfl ⟨?_, (Below.refl _ _).alloc (Nat.le_refl _) _⟩
      unfold ToEnd
      rw [HTO.out]
      rfl

/-- Have two regions no address in common? -/
def apartP (a1 : Int) (l1 : Nat) (a2 : Int) (l2 : Nat) : Bool := decide (l1 = 0) || decide (l2 = 0) || decide (a1 + l1 ≤ a2) || decide (a2 + l2 ≤ a1)

theorem apart_any (a1 a2 : Int) (p1 p2 : Option Addr) (l1 l2 c1 c2 : Nat) (W : World) (hb : l1 = 0 ∨ l2 = 0 ∨ ((0 ≤ a1 ∧ a1 ≤ 1125899906842624 ∧ l1 ≤ 1000000) ∧ (0 ≤ a2 ∧ a2 ≤ 1125899906842624 ∧ l2 ≤ 1000000))) :
    Calls Try.prog 33 #[.agg #[.int .i64 a1, .slice p1 l1 c1], .agg #[.int .i64 a2, .slice p2 l2 c2]] W fun e W' => e = .returned (.bool (apartP a1 l1 a2 l2)) ∧ Below W.heap.size W W' := by
  have B1 := Lib.hid (((Below.refl W.heap.size W).alloc (Nat.le_refl _) (.cells #[.int .i64 a1, .slice p1 l1 c1] 24)).alloc (by simp) (.cells #[.int .i64 a2, .slice p2 l2 c2] 24))
  by_cases g1 : l1 = 0
  · subst g1
    go_enter Try.func33, Try.ntmps33
    go_wp2_with fail
    go_ret
    exact ⟨by simp [apartP], B1.out⟩
  · have q1 : ((l1 : Int) == 0) = false := by simp; omega
    by_cases g2 : l2 = 0
    · subst g2
      go_enter Try.func33, Try.ntmps33
      go_wp2_with fail
      go_ret
      exact ⟨by simp [apartP], B1.out⟩
    · have q2 : ((l2 : Int) == 0) = false := by simp; omega
      have q3 : IntKind.i64.wrap (a1 + (l1 : Int)) = a1 + (l1 : Int) := IntWalk.i64_in _ (by omega)
      have q4 : IntKind.i64.wrap (a2 + (l2 : Int)) = a2 + (l2 : Int) := IntWalk.i64_in _ (by omega)
      by_cases g3 : a1 + (l1 : Int) ≤ a2
      · go_enter Try.func33, Try.ntmps33
        go_wp2_with fail
        go_ret
        exact ⟨by simp [apartP, g3], B1.out⟩
      · go_enter Try.func33, Try.ntmps33
        go_wp2_with fail
        go_ret
        have e : decide (a1 + (l1 : Int) ≤ a2) = false := decide_eq_false (by omega)
        exact ⟨by simp [apartP, g1, g2, e], B1.out⟩

end Go.Proofs.Ytohgkfnbjfhniaa
