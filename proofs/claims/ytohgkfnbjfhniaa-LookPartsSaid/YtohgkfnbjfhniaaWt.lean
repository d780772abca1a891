/-
  May the words of a head's object be; what stands at a spot: in full.
-/
import Derived.Test.YtohgkfnbjfhniaaWs
namespace Go.Proofs.Ytohgkfnbjfhniaa
open Go.RowKit

theorem lengthP_le {m : List Frg} {x n : Nat} (h : lengthP m x = some n) : n ≤ 400 := by
  unfold lengthP at h
  cases ht : toP x with
  | none => rw [ht] at h; cases h
  | some s =>
    rw [ht] at h
    simp only [Option.bind_some] at h
    split at h
    · cases hh : headAt m s.1 with
      | none => rw [hh] at h; cases h
      | some o =>
        rw [hh] at h
        simp only [Option.bind_some] at h
        split at h
        · rename_i q
          have := flat3_parts q.2
          simp only [Option.some.injEq] at h; omega
        · split at h
          · rename_i q
            have := flat4_parts q.2
            simp only [Option.some.injEq] at h; omega
          · cases h
    · cases h

set_option maxHeartbeats 4000000 in
set_option maxRecDepth 100000 in
theorem right5 (m : List Frg) (l : List Nat) (mv lv : Value) (w : World) (hm : RsAt w mv m) (h : Ws w lv l) (h1 : 1 ≤ l.length) :
    Calls Try.prog 46 #[mv, .int .i64 5, lv] w fun e w' => e = .returned (.bool (rightP m 5 l)) ∧ Below w.heap.size w w' := by
  have HM := Lib.hid hm
  have HW := Lib.hid h
  obtain ⟨g, o, c, rfl, hlc, hcm, hml⟩ := h.open h1
  unfold maxLen at hml
  clear h hm
  by_cases hn : l.length = 4
  · have k1 := HW.out.at (j := 1) (by omega)
    have k2 := HW.out.at (j := 2) (by omega)
    have k3 := HW.out.at (j := 3) (by omega)
    have hx := HW.out.2.1 (l.getD 1 0) (by
      have : l.getD 1 0 = l[1]'(by omega) := by simp [List.getD, List.getElem?_eq_getElem (show 1 < l.length by omega)]
      rw [this]; exact List.getElem_mem _)
    have hz := HW.out.2.1 (l.getD 3 0) (by
      have : l.getD 3 0 = l[3]'(by omega) := by simp [List.getD, List.getElem?_eq_getElem (show 3 < l.length by omega)]
      rw [this]; exact List.getElem_mem _)
    have q1 : ((l.length : Int) != 4) = false := by simp [hn]
    have q2 : (1 : Int) < (l.length : Int) := by omega
    have q3 : (2 : Int) < (l.length : Int) := by omega
    have q4 : (3 : Int) < (l.length : Int) := by omega
    have HE := Lib.hid (show rightP m 5 l = (match lengthP m (l.getD 1 0) with | some n => decide (l.getD 2 0 ≤ n) && decide (l.getD 3 0 ≤ n - l.getD 2 0) | none => false) by
      unfold rightP; rw [if_pos rfl, decide_eq_true hn]; rfl)
    obtain ⟨x, hxe⟩ : ∃ x, l.getD 1 0 = x := ⟨_, rfl⟩
    obtain ⟨y, hye⟩ : ∃ y, l.getD 2 0 = y := ⟨_, rfl⟩
    obtain ⟨z, hze⟩ : ∃ z, l.getD 3 0 = z := ⟨_, rfl⟩
    rw [hxe] at k1 hx HE
    rw [hye] at k2 HE
    rw [hze] at k3 hz HE
    clear hxe hye hze hn
    go_enter Try.func46, Try.ntmps46
    go_wp2_with fail
    refine (length_any m _ x _ HM.out hx).mono ?_
    rintro e w1 ⟨he, hb⟩
    unfold LenEnd at he
    subst he
    have up := fun {p : Addr} {v : Value} (q : w.cell? p = some v) => (hb.cell (World.block_lt_of_cell? w _ q)).trans q
    have j2 := up k2
    have j3 := up k3
    have HB := Lib.hid hb
    clear hb up
    cases hl : lengthP m x with
    | none =>
      rw [hl] at HE
      have HE := Lib.hid (show rightP m 5 l = false from HE.out)
      clear hl
      go_wp2_with fail
      go_quiet (fail)
      go_wp2_with fail
      go_ret
      exact ⟨by rw [HE.out]; rfl, HB.out.trans ⟨rfl, rfl, rfl, Nat.le_refl _, fun _ _ => rfl⟩⟩
    | some n =>
      rw [hl] at HE
      have HE := Lib.hid (show rightP m 5 l = (decide (y ≤ n) && decide (z ≤ n - y)) from HE.out)
      have hn4 := lengthP_le hl
      have q5 : IntKind.u64.wrap (n : Int) = (n : Int) := by rw [IntKind.wrap_u64]; omega
      clear hl
      by_cases hy : y ≤ n
      · have q6 : (y : Int) ≤ (n : Int) := by omega
        have q7 : decide ((y : Int) ≤ (n : Int)) = true := decide_eq_true q6
        have q8 : IntKind.u64.wrap ((n : Int) - (y : Int)) = (n : Int) - (y : Int) := by rw [IntKind.wrap_u64]; omega
        have q9 : decide (y ≤ n) = true := decide_eq_true hy
        rw [decide_eq_true hy] at HE
        have HY := Lib.hid hy
        go_wp2_with fail
        go_quiet (fail)
        go_wp2_with fail
        go_ret
        exact ⟨by rw [HE.out]; simp; have := HY.out; omega, HB.out.trans ⟨rfl, rfl, rfl, Nat.le_refl _, fun _ _ => rfl⟩⟩
      · have q6 : ¬ (y : Int) ≤ (n : Int) := by omega
        have q7 : decide ((y : Int) ≤ (n : Int)) = false := decide_eq_false q6
        have q9 : decide (y ≤ n) = false := decide_eq_false hy
        rw [decide_eq_false hy] at HE
        go_wp2_with fail
        go_quiet (fail)
        go_wp2_with fail
        go_ret
        exact ⟨by rw [HE.out]; rfl, HB.out.trans ⟨rfl, rfl, rfl, Nat.le_refl _, fun _ _ => rfl⟩⟩
  · have q1 : ((l.length : Int) != 4) = true := by simp; omega
    have HE := Lib.hid (show rightP m 5 l = false by unfold rightP; rw [if_pos rfl, decide_eq_false hn]; rfl)
    clear hn
    go_enter Try.func46, Try.ntmps46
    go_wp2_with fail
    go_ret
    exact ⟨by rw [HE.out]; rfl, Below.refl _ _⟩

theorem right_any (m : List Frg) (k : Int) (l : List Nat) (mv lv : Value) (w : World) (hk : 0 ≤ k ∧ k ≤ 5) (hm : RsAt w mv m) (h : Ws w lv l) (h1 : 1 ≤ l.length) :
    Calls Try.prog 46 #[mv, .int .i64 k, lv] w fun e w' => e = .returned (.bool (rightP m k l)) ∧ Below w.heap.size w w' := by
  have h : k = 0 ∨ k = 1 ∨ k = 2 ∨ k = 3 ∨ k = 4 ∨ k = 5 := by omega
  rcases h with rfl | rfl | rfl | rfl | rfl | rfl
  · exact right0 l mv lv w ‹_› h1
  · exact right1 l mv lv w ‹_› h1
  · exact right2 l mv lv w ‹_› h1
  · exact right3 l mv lv w ‹_› h1
  · exact right4 l mv lv w ‹_› h1
  · exact right5 m l mv lv w hm ‹_› h1

theorem headAt_le {m : List Frg} {a k : Int} {l : List Nat} (h : headAt m a = some (k, l)) : 0 ≤ k ∧ k ≤ 5 ∧ 1 ≤ l.length := by
  unfold headAt at h
  cases h1 : wordsP m a 1 with
  | none => rw [h1] at h; cases h
  | some x =>
    rw [h1] at h
    simp only [Option.bind_some] at h
    cases h2 : headP (x.getD 0 0) with
    | none => rw [h2] at h; cases h
    | some ks =>
      rw [h2] at h
      simp only [Option.bind_some] at h
      have hk := headP_le h2
      cases h3 : wordsP m a (ks.2 + 1) with
      | none => rw [h3] at h; cases h
      | some l' =>
        rw [h3] at h
        simp only [Option.map_some, Option.some.injEq, Prod.mk.injEq] at h
        obtain ⟨rfl, rfl⟩ := h
        have := wordsP_len h3 (by omega)
        omega

theorem object_any (m : List Frg) (mv : Value) (a t : Int) (w : World) (hm : RsAt w mv m) (ha : -9223372036854775808 ≤ a ∧ a ≤ 9223372036854775807) :
    Calls Try.prog 27 #[mv, .agg #[.int .i64 a, .int .i64 t]] w fun e w' => ObjEnd w' (objP m a t) e ∧ Below w.heap.size w w' := by
  have e : objP m a t = objR m (rightP m) a t := rfl
  rw [e]
  refine object_of m mv (rightP m) a t w hm ha fun _ k l lv w' hh _ hm' hl h1 => ?_
  have := headAt_le hh
  exact right_any m k l mv lv w' (by omega) hm' hl h1

end Go.Proofs.Ytohgkfnbjfhniaa
