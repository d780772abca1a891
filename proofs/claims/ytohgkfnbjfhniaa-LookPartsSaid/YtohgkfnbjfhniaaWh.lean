/-
  Does a word lead to where a region is not?
-/
import Derived.Test.YtohgkfnbjfhniaaWg
import Derived.Deep.RegionWith
import Derived.Deep.RegionHeld3
import Derived.StillTailTactics
namespace Go.Proofs.Ytohgkfnbjfhniaa
open Go.RowKit

/-- Does a word lead to where a region is not? -/
def leavesP (f : Frg) (w : Nat) : Bool := (decide (tagW w = 4) || decide (tagW w = 5)) && !inP f.1 f.2.length (loadW w)

theorem loadW_in (w : Nat) (hw : w < 18446744073709551616) : -9223372036854775808 ≤ loadW w ∧ loadW w ≤ 9223372036854775807 := by
  unfold loadW
  split
  · split <;> omega
  · omega

set_option maxHeartbeats 4000000 in
set_option maxRecDepth 100000 in
theorem leaves_any (f : Frg) (wa : Option Addr) (wc : Nat) (x : Nat) (hx : x < 18446744073709551616) (w : World) : Calls Try.prog 37 #[.agg #[.int .i64 f.1, .slice wa f.2.length wc], .int .u64 x] w fun e w' => e = .returned (.bool (leavesP f x)) ∧ Below w.heap.size w w' := by
  obtain ⟨fa, fw⟩ := f
  have HB := Lib.hid ((Below.refl w.heap.size w).alloc (Nat.le_refl _) (.cells #[.int .i64 fa, .slice wa fw.length wc] 24))
  obtain ⟨t, ht⟩ : ∃ t, tagW x = t := ⟨_, rfl⟩
  have hl := loadW_in x hx
  go_enter Try.func37, Try.ntmps37
  go_wp2_with fail
  refine (tag_any x hx _).mono ?_
  rintro e w1 ⟨rfl, rfl⟩
  rw [ht]
  obtain ⟨u, hu⟩ : ∃ u : Int, (t : Int) = u := ⟨_, rfl⟩
  rw [hu]
  by_cases h4 : t = 4
  · have HT := Lib.hid (show tagW x = 4 by rw [ht, h4])
    have q4 : u = 4 := by omega
    clear ht h4 hu
    subst q4
    go_wp2_with fail
    have e0 : (w.alloc (.cells #[.int .i64 fa, .slice wa fw.length wc] 24)).drew.cell? ⟨w.heap.size, 0, none⟩ = some (.int .i64 fa) := by simp
    have e1 : (w.alloc (.cells #[.int .i64 fa, .slice wa fw.length wc] 24)).drew.cell? ⟨w.heap.size, 1, none⟩ = some (.slice wa fw.length wc) := by simp
    have hbd : Below w.heap.size w (w.alloc (.cells #[.int .i64 fa, .slice wa fw.length wc] 24)).drew := HB.out.drew
    refine wp_region_still_tail 10 (by kernel_rfl) (by kernel_rfl) ?_
    simp only [List.take_succ_cons, List.take_zero, List.drop_succ_cons, List.drop_zero]
    change wpStill _ _ (w.alloc (.cells #[.int .i64 fa, .slice wa fw.length wc] 24)).drew (fun a' => wpList _ _ _ _ a' (w.alloc (.cells #[.int .i64 fa, .slice wa fw.length wc] 24)).drew) _ _
    generalize (w.alloc (.cells #[.int .i64 fa, .slice wa fw.length wc] 24)).drew = wd at *
    repeat still_step
    still_call (load_any x hx _)
    refine wpStill_nil ?_
    go_wp2_with fail
    refine (in_any fa (loadW x) wa fw.length wc _ hl).mono ?_
    rintro e w3 ⟨rfl, hb3⟩
    have HB3 := Lib.hid (hbd.trans (hb3.mono hbd.size))
    clear hb3
    go_wp2_with fail
    go_ret
    exact ⟨by simp [leavesP, HT.out], HB3.out⟩
  · by_cases h5 : t = 5
    · have HT := Lib.hid (show tagW x = 5 by rw [ht, h5])
      have q5 : u = 5 := by omega
      clear ht h4 h5 hu
      subst q5
      go_wp2_with fail
      have e0 : (w.alloc (.cells #[.int .i64 fa, .slice wa fw.length wc] 24)).cell? ⟨w.heap.size, 0, none⟩ = some (.int .i64 fa) := by simp
      have e1 : (w.alloc (.cells #[.int .i64 fa, .slice wa fw.length wc] 24)).cell? ⟨w.heap.size, 1, none⟩ = some (.slice wa fw.length wc) := by simp
      go_region_held3 (fun w' => w'.cell? ⟨w.heap.size, 0, none⟩ = some (.int .i64 fa) ∧ w'.cell? ⟨w.heap.size, 1, none⟩ = some (.slice wa fw.length wc)) (first | exact ⟨d0, d1⟩ | exact ⟨e0, e1⟩ | go_keep) (first
        | (go_at_call 51; refine (load_any x hx _).mono ?_; rintro e w2 ⟨rfl, rfl⟩)
        | (go_at_call 53; refine (in_any fa (loadW x) wa fw.length wc _ hl).mono ?_; rintro e w3 ⟨rfl, hb3⟩
           have HB3 := Lib.hid (HB.out.trans (Below.trans (Below.drew (Below.refl _ _)) (hb3.mono HB.out.size)))
           have d0 := (hb3.cell (p := ⟨w.heap.size, 0, none⟩) (by simp)).trans e0
           have d1 := (hb3.cell (p := ⟨w.heap.size, 1, none⟩) (by simp)).trans e1
           clear hb3))
      all_goals
        go_wp2_with fail
        go_ret
        exact ⟨by simp [leavesP, HT.out], HB3.out⟩
    · have HT := Lib.hid ht
      have H4 := Lib.hid h4
      have H5 := Lib.hid h5
      have q4 : (u == 4) = false := by simp; omega
      have q5 : (u == 5) = false := by simp; omega
      clear h4 h5 ht hu
      go_wp2_with fail
      go_quiet (fail)
      go_wp2_with fail
      go_ret
      exact ⟨by simp [leavesP, HT.out, H4.out, H5.out], (HB.out.trans ⟨rfl, rfl, rfl, Nat.le_refl _, fun _ _ => rfl⟩)⟩

end Go.Proofs.Ytohgkfnbjfhniaa
