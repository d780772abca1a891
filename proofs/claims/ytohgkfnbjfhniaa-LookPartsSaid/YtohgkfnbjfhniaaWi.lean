/-
  May the words of a head's object be: the kinds that look at no other object.
-/
import Derived.Test.YtohgkfnbjfhniaaWe
namespace Go.Proofs.Ytohgkfnbjfhniaa
open Go.RowKit

theorem Ws.at {w : World} {g o c : Nat} {l : List Nat} (h : Ws w (.slice (some ⟨g, o, none⟩) l.length c) l) {j : Nat} (hj : j < l.length) : w.cell? ⟨g, o + j, none⟩ = some (.int .u64 (l.getD j 0 : Nat)) := by
  obtain ⟨h1, h2, a, cap, hv, h3, h4, hc⟩ := h
  simp only [Value.slice.injEq, true_and] at hv
  obtain ⟨rfl, rfl⟩ := hv
  obtain ⟨g', o', e, q⟩ := hc j hj
  cases e
  simpa [List.getD, List.getElem?_eq_getElem hj] using q

theorem Ws.open {w : World} {v : Value} {l : List Nat} (h : Ws w v l) (h0 : 0 < l.length) : ∃ g o c, v = .slice (some ⟨g, o, none⟩) l.length c ∧ l.length ≤ c ∧ c ≤ maxLen ∧ l.length ≤ maxLen := by
  obtain ⟨h1, h2, a, cap, hv, h3, h4, hc⟩ := h
  obtain ⟨g, o, rfl, _⟩ := hc 0 h0
  exact ⟨g, o, cap, hv, h3, h4, h1⟩

theorem Ws.tail {w : World} {g o c : Nat} {l : List Nat} (h : Ws w (.slice (some ⟨g, o, none⟩) l.length c) l) (h1 : 1 ≤ l.length) (hc : 2 ≤ c) : Ws w (.slice (some ⟨g, o + 1, none⟩) (l.length - 1) (c - 1)) (l.drop 1) := by
  have := h.cut (k := 1) (n := l.length - 1) (by omega)
  rwa [List.take_of_length_le (by rw [List.length_drop]; omega)] at this

theorem Ws.empty {w : World} (a : Option Addr) (c : Nat) (hc : c ≤ maxLen) : Ws w (.slice a 0 c) [] :=
  ⟨by simp, (fun x hx => by cases hx), a, c, rfl, by simp, hc, fun j hj => by simp at hj⟩

/-- A head's tuple. -/
theorem right0 (l : List Nat) (mv lv : Value) (w : World) (h : Ws w lv l) (h1 : 1 ≤ l.length) :
    Calls Try.prog 46 #[mv, .int .i64 0, lv] w fun e w' => e = .returned (.bool (rightFlat 0 l)) ∧ Below w.heap.size w w' := by
  have HW := Lib.hid h
  obtain ⟨g, o, c, rfl, hlc, hcm, hml⟩ := h.open h1
  unfold maxLen at hml
  have q0 : IntKind.i64.wrap ((l.length : Int) - 1) = (l.length : Int) - 1 := IntWalk.i64_in _ (by omega)
  clear h
  by_cases hn : l.length ≤ 9
  · have q1 : (l.length : Int) - 1 ≤ 8 := by omega
    by_cases hc1 : c = 1
    · have HN := Lib.hid (show l.drop 1 = [] from List.eq_nil_of_length_eq_zero (by rw [List.length_drop]; omega))
      have HE := Lib.hid (Ws.empty (w := w) (some ⟨g, o, none⟩) 0 (by unfold maxLen; omega))
      have HL := Lib.hid (show l.length = 1 by omega)
      subst hc1
      go_enter Try.func46, Try.ntmps46
      go_wp2_with fail
      refine (allplain_any [] _ _ HE.out).mono ?_
      rintro e w1 ⟨rfl, rfl⟩
      go_wp2_with fail
      go_ret
      exact ⟨by unfold rightFlat; rw [if_pos rfl, HN.out, HL.out]; simp, Below.refl _ _⟩
    · have HE := Lib.hid (HW.out.tail h1 (by omega))
      have r1 : ¬ c - 1 = 0 := by omega
      have r2 : ¬ c = 1 := hc1
      have r3 : 1 < c := by omega
      go_enter Try.func46, Try.ntmps46
      go_wp2_with fail
      refine (allplain_any (l.drop 1) _ _ HE.out).mono ?_
      rintro e w1 ⟨rfl, rfl⟩
      go_wp2_with fail
      go_ret
      exact ⟨by unfold rightFlat; rw [if_pos rfl]; simp [hn], Below.refl _ _⟩
  · have q1 : ¬ (l.length : Int) - 1 ≤ 8 := by omega
    go_enter Try.func46, Try.ntmps46
    go_wp2_with fail
    go_ret
    exact ⟨by unfold rightFlat; rw [if_pos rfl]; simp [hn], Below.refl _ _⟩

theorem right1 (l : List Nat) (mv lv : Value) (w : World) (h : Ws w lv l) (h1 : 1 ≤ l.length) :
    Calls Try.prog 46 #[mv, .int .i64 1, lv] w fun e w' => e = .returned (.bool (rightFlat 1 l)) ∧ Below w.heap.size w w' := by
  have HW := Lib.hid h
  obtain ⟨g, o, c, rfl, hlc, hcm, hml⟩ := h.open h1
  unfold maxLen at hml
  clear h
  by_cases hn : l.length < 3
  · have q1 : (l.length : Int) < 3 := by omega
    go_enter Try.func46, Try.ntmps46
    go_wp2_with fail
    go_ret
    exact ⟨by unfold rightFlat; rw [if_neg (by decide), if_pos rfl, decide_eq_false (by omega)]; rfl, Below.refl _ _⟩
  · have q1 : ¬ (l.length : Int) < 3 := by omega
    by_cases hn2 : 6 < l.length
    · have q2 : (6 : Int) < (l.length : Int) := by omega
      go_enter Try.func46, Try.ntmps46
      go_wp2_with fail
      go_ret
      exact ⟨by unfold rightFlat; rw [if_neg (by decide), if_pos rfl, decide_eq_true (show 3 ≤ l.length by omega), decide_eq_false (show ¬ l.length ≤ 6 by omega)]; rfl, Below.refl _ _⟩
    · have q2 : ¬ (6 : Int) < (l.length : Int) := by omega
      have HE := Lib.hid (show rightFlat 1 l = bigP l by unfold rightFlat; rw [if_neg (by decide), if_pos rfl, decide_eq_true (show 3 ≤ l.length by omega), decide_eq_true (show l.length ≤ 6 by omega)]; rfl)
      go_enter Try.func46, Try.ntmps46
      go_wp2_with fail
      refine (big_any l _ _ HW.out (by omega) (by omega)).mono ?_
      rintro e w1 ⟨⟨mv, rfl, hm, -⟩, hb⟩
      obtain ⟨ma, mc, rfl, _⟩ := hm
      have HB := Lib.hid hb
      clear hb
      go_wp2_with fail
      go_ret
      exact ⟨by rw [HE.out]; rfl, HB.out.alloc HB.out.size _⟩

theorem right2 (l : List Nat) (mv lv : Value) (w : World) (h : Ws w lv l) (h1 : 1 ≤ l.length) :
    Calls Try.prog 46 #[mv, .int .i64 2, lv] w fun e w' => e = .returned (.bool (rightFlat 2 l)) ∧ Below w.heap.size w w' := by
  have HW := Lib.hid h
  obtain ⟨g, o, c, rfl, hlc, hcm, hml⟩ := h.open h1
  unfold maxLen at hml
  clear h
  by_cases hn : l.length = 2
  · have k1 := HW.out.at (j := 1) (by omega)
    have q1 : ((l.length : Int) == 2) = true := by simp [hn]
    have q2 : (1 : Int) < (l.length : Int) := by omega
    obtain ⟨x, hx⟩ : ∃ x, l.getD 1 0 = x := ⟨_, rfl⟩
    rw [hx] at k1
    have HE := Lib.hid (show rightFlat 2 l = realP x by unfold rightFlat; rw [if_neg (by decide), if_neg (by decide), if_pos rfl, decide_eq_true hn, hx]; rfl)
    clear hx hn
    go_enter Try.func46, Try.ntmps46
    go_wp2_with fail
    refine (realMay_any x _).mono ?_
    rintro e w1 ⟨rfl, rfl⟩
    go_wp2_with fail
    go_ret
    exact ⟨by rw [HE.out]; rfl, Below.refl _ _⟩
  · have q1 : ((l.length : Int) == 2) = false := by simp; omega
    go_enter Try.func46, Try.ntmps46
    go_wp2_with fail
    go_ret
    exact ⟨by unfold rightFlat; rw [if_neg (by decide), if_neg (by decide), if_pos rfl, decide_eq_false hn]; rfl, Below.refl _ _⟩

theorem right3 (l : List Nat) (mv lv : Value) (w : World) (h : Ws w lv l) (h1 : 1 ≤ l.length) :
    Calls Try.prog 46 #[mv, .int .i64 3, lv] w fun e w' => e = .returned (.bool (rightFlat 3 l)) ∧ Below w.heap.size w w' := by
  have HW := Lib.hid h
  obtain ⟨g, o, c, rfl, hlc, hcm, hml⟩ := h.open h1
  unfold maxLen at hml
  clear h
  by_cases hn : l.length < 2
  · have q1 : (l.length : Int) < 2 := by omega
    go_enter Try.func46, Try.ntmps46
    go_wp2_with fail
    go_ret
    exact ⟨by unfold rightFlat; rw [if_neg (by decide), if_neg (by decide), if_neg (by decide), if_pos rfl, decide_eq_false (by omega)]; rfl, Below.refl _ _⟩
  · have q1 : ¬ (l.length : Int) < 2 := by omega
    have HE := Lib.hid (show rightFlat 3 l = (bytesW l).isSome by unfold rightFlat; rw [if_neg (by decide), if_neg (by decide), if_neg (by decide), if_pos rfl, decide_eq_true (by omega)]; rfl)
    go_enter Try.func46, Try.ntmps46
    go_wp2_with fail
    refine (bytes_any l _ _ HW.out (by omega)).mono ?_
    rintro e w1 ⟨⟨b, rfl, _⟩, hb⟩
    have HB := Lib.hid hb
    clear hb
    go_wp2_with fail
    go_ret
    exact ⟨by rw [HE.out]; rfl, HB.out⟩

set_option maxHeartbeats 1000000 in
theorem right4 (l : List Nat) (mv lv : Value) (w : World) (h : Ws w lv l) (h1 : 1 ≤ l.length) :
    Calls Try.prog 46 #[mv, .int .i64 4, lv] w fun e w' => e = .returned (.bool (rightFlat 4 l)) ∧ Below w.heap.size w w' := by
  have HW := Lib.hid h
  obtain ⟨g, o, c, rfl, hlc, hcm, hml⟩ := h.open h1
  unfold maxLen at hml
  clear h
  by_cases hn : l.length = 4
  · have k1 := HW.out.at (j := 1) (by omega)
    have k2 := HW.out.at (j := 2) (by omega)
    have k3 := HW.out.at (j := 3) (by omega)
    have q1 : ((l.length : Int) == 4) = true := by simp [hn]
    have q2 : (1 : Int) < (l.length : Int) := by omega
    have q3 : (2 : Int) < (l.length : Int) := by omega
    have q4 : (3 : Int) < (l.length : Int) := by omega
    obtain ⟨x, hx⟩ : ∃ x, l.getD 1 0 = x := ⟨_, rfl⟩
    obtain ⟨y, hy⟩ : ∃ y, l.getD 2 0 = y := ⟨_, rfl⟩
    obtain ⟨z, hz⟩ : ∃ z, l.getD 3 0 = z := ⟨_, rfl⟩
    rw [hx] at k1
    rw [hy] at k2
    rw [hz] at k3
    have HE := Lib.hid (show rightFlat 4 l = (decide (max x y ≤ 1073741824) && decide (z ≤ 400)) by
      unfold rightFlat; rw [if_neg (by decide), if_neg (by decide), if_neg (by decide), if_neg (by decide), if_pos rfl, decide_eq_true hn, hx, hy, hz]; simp)
    clear hx hy hz hn
    obtain ⟨m, hm, hxy⟩ : ∃ m : Nat, max x y = m ∧ ((x < y ∧ m = y) ∨ (¬ x < y ∧ m = x)) := ⟨_, rfl, by omega⟩
    rw [hm] at HE
    clear hm
    rcases hxy with ⟨hlt, rfl⟩ | ⟨hlt, rfl⟩
    all_goals
      first
        | (have q7 : (x : Int) < (m : Int) := by omega)
        | (have q7 : ¬ (m : Int) < (y : Int) := by omega)
      by_cases hm : m ≤ 1073741824
      · have q5 : decide ((m : Int) ≤ 1073741824) = true := decide_eq_true (by omega)
        have q6 : (m : Int) ≤ 1073741824 := by omega
        rw [decide_eq_true hm] at HE
        clear hm hlt
        go_enter Try.func46, Try.ntmps46
        go_wp2_with fail
        go_quiet (fail)
        go_wp2_with fail
        go_ret
        exact ⟨by rw [HE.out]; simp; omega, ⟨rfl, rfl, rfl, Nat.le_refl _, fun _ _ => rfl⟩⟩
      · have q5 : decide ((m : Int) ≤ 1073741824) = false := decide_eq_false (by omega)
        have q6 : ¬ (m : Int) ≤ 1073741824 := by omega
        rw [decide_eq_false hm] at HE
        clear hm hlt
        go_enter Try.func46, Try.ntmps46
        go_wp2_with fail
        go_quiet (fail)
        go_wp2_with fail
        go_ret
        exact ⟨by rw [HE.out]; simp, ⟨rfl, rfl, rfl, Nat.le_refl _, fun _ _ => rfl⟩⟩
  · have q1 : ((l.length : Int) == 4) = false := by simp; omega
    go_enter Try.func46, Try.ntmps46
    go_wp2_with fail
    go_quiet (fail)
    go_wp2_with fail
    go_ret
    exact ⟨by unfold rightFlat; rw [if_neg (by decide), if_neg (by decide), if_neg (by decide), if_neg (by decide), if_pos rfl, decide_eq_false hn]; rfl, ⟨rfl, rfl, rfl, Nat.le_refl _, fun _ _ => rfl⟩⟩

/-- What stands at a spot, as an answer. -/
def ObjEnd (w' : World) (r : Option (Int × List Nat)) (e : Ending) : Prop :=
  ∃ (k : Int) (v : Value) (l : List Nat) (ok : Bool), e = .returned (.tuple #[.agg #[.int .i64 k, v], .bool ok]) ∧ Ws w' v l ∧ ok = r.isSome ∧ (∀ o, r = some o → o = (k, l))

theorem headP_le {w : Nat} {k : Int × Int} (h : headP w = some k) : 0 ≤ k.1 ∧ k.1 ≤ 5 ∧ 0 ≤ k.2 ∧ k.2 ≤ 1048576 := by
  unfold headP at h
  split at h
  · cases h; refine ⟨?_, ?_, ?_, ?_⟩ <;> simp only <;> omega
  · cases h

theorem wordsP_len : ∀ {m : List Frg} {a n : Int} {l : List Nat}, wordsP m a n = some l → 0 ≤ n → (l.length : Int) = n
  | [], _, _, _, h, _ => by cases h
  | f :: r, a, n, l, h, hn => by
    unfold wordsP at h
    split at h
    · rename_i hin
      unfold cutP at h
      split at h
      · rename_i hle
        cases h
        rw [List.length_take, List.length_drop]
        unfold inP at hin
        simp at hin
        omega
      · cases h
    · exact wordsP_len h hn

end Go.Proofs.Ytohgkfnbjfhniaa
