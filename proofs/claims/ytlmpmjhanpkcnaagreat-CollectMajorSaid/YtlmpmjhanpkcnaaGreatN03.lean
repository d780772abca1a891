/-
  May the words of a head's object be: the kinds that look at no other object.
  What stands at a spot: Object, whatever may say of a head's words.
  How many bytes a word leads to; may the words of a part be; what stands at a spot, in full.
  May the words of a head's object be; what stands at a spot: in full.
-/
import Derived.Test.YtlmpmjhanpkcnaaGreatN02
set_option linter.unusedVariables false
set_option linter.unusedSimpArgs false
namespace Go.Proofs.YtlmpmjhanpkcnaaGreat
open Go.RowKit

theorem Ws.at {w : World} {g o c : Nat} {l : List Nat} (h : Ws w (.slice (some ⟨g, o, none⟩) l.length c) l) {j : Nat} (hj : j < l.length) : w.cell? ⟨g, o + j, none⟩ = some (.int .u64 (l.getD j 0 : Nat)) := by
  obtain ⟨h1, h2, a, cap, hv, h3, h4, hc⟩ := h
  simp only [Value.slice.injEq, true_and] at hv
  obtain ⟨rfl, rfl⟩ := hv
  obtain ⟨g', o', e, q⟩ := hc j hj
  cases e
  simpa [List.getD, List.getElem?_eq_getElem hj] using q

theorem Ws.open {w : World} {v : Value} {l : List Nat} (h : Ws w v l) (h0 : 0 < l.length) : ∃ g o c, v = .slice (some ⟨g, o, none⟩) l.length c ∧ l.length ≤ c ∧ c ≤ maxLen ∧ l.length ≤ maxLen := by
  obtain ⟨h1, h2, a, cap, hv, h3, h4, hc⟩ := h
  obtain ⟨g, o, rfl, _⟩ := hc 0 h0
  exact ⟨g, o, cap, hv, h3, h4, h1⟩

theorem Ws.tail {w : World} {g o c : Nat} {l : List Nat} (h : Ws w (.slice (some ⟨g, o, none⟩) l.length c) l) (h1 : 1 ≤ l.length) (hc : 2 ≤ c) : Ws w (.slice (some ⟨g, o + 1, none⟩) (l.length - 1) (c - 1)) (l.drop 1) := by
  have := h.cut (k := 1) (n := l.length - 1) (by omega)
  rwa [List.take_of_length_le (by rw [List.length_drop]; omega)] at this

theorem Ws.empty {w : World} (a : Option Addr) (c : Nat) (hc : c ≤ maxLen) : Ws w (.slice a 0 c) [] :=
  ⟨by simp, (fun x hx => by cases hx), a, c, rfl, by simp, hc, fun j hj => by simp at hj⟩

/-- A head's tuple. -/
theorem right0 (l : List Nat) (mv lv : Value) (w : World) (h : Ws w lv l) (h1 : 1 ≤ l.length) :
    Calls Tryz.prog 87 #[mv, .int .i64 0, lv] w fun e w' => e = .returned (.bool (rightFlat 0 l)) ∧ Below w.heap.size w w' := by
  have HW := Lib.hid h
  obtain ⟨g, o, c, rfl, hlc, hcm, hml⟩ := h.open h1
  unfold maxLen at hml
  have q0 : IntKind.i64.wrap ((l.length : Int) - 1) = (l.length : Int) - 1 := IntWalk.i64_in _ (by omega)
  clear h
  by_cases hn : l.length ≤ 9
  · have q1 : (l.length : Int) - 1 ≤ 8 := by omega
    by_cases hc1 : c = 1
    · have HN := Lib.hid (show l.drop 1 = [] from List.eq_nil_of_length_eq_zero (by rw [List.length_drop]; omega))
      have HE := Lib.hid (Ws.empty (w := w) (some ⟨g, o, none⟩) 0 (by unfold maxLen; omega))
      have HL := Lib.hid (show l.length = 1 by omega)
      subst hc1
      go_enter Tryz.func87, Tryz.ntmps87
      go_wp2_with fail
      refine (allplain_any [] _ _ HE.out).mono ?_
      rintro e w1 ⟨rfl, rfl⟩
      go_wp2_with fail
      go_ret
      exact ⟨by unfold rightFlat; rw [if_pos rfl, HN.out, HL.out]; simp, Below.refl _ _⟩
    · have HE := Lib.hid (HW.out.tail h1 (by omega))
      have r1 : ¬ c - 1 = 0 := by omega
      have r2 : ¬ c = 1 := hc1
      have r3 : 1 < c := by omega
      go_enter Tryz.func87, Tryz.ntmps87
      go_wp2_with fail
      refine (allplain_any (l.drop 1) _ _ HE.out).mono ?_
      rintro e w1 ⟨rfl, rfl⟩
      go_wp2_with fail
      go_ret
      exact ⟨by unfold rightFlat; rw [if_pos rfl]; simp [hn], Below.refl _ _⟩
  · have q1 : ¬ (l.length : Int) - 1 ≤ 8 := by omega
    go_enter Tryz.func87, Tryz.ntmps87
    go_wp2_with fail
    go_ret
    exact ⟨by unfold rightFlat; rw [if_pos rfl]; simp [hn], Below.refl _ _⟩

theorem right1 (l : List Nat) (mv lv : Value) (w : World) (h : Ws w lv l) (h1 : 1 ≤ l.length) :
    Calls Tryz.prog 87 #[mv, .int .i64 1, lv] w fun e w' => e = .returned (.bool (rightFlat 1 l)) ∧ Below w.heap.size w w' := by
  have HW := Lib.hid h
  obtain ⟨g, o, c, rfl, hlc, hcm, hml⟩ := h.open h1
  unfold maxLen at hml
  clear h
  by_cases hn : l.length < 3
  · have q1 : (l.length : Int) < 3 := by omega
    go_enter Tryz.func87, Tryz.ntmps87
    go_wp2_with fail
    go_ret
    exact ⟨by unfold rightFlat; rw [if_neg (by decide), if_pos rfl, decide_eq_false (by omega)]; rfl, Below.refl _ _⟩
  · have q1 : ¬ (l.length : Int) < 3 := by omega
    by_cases hn2 : 6 < l.length
    · have q2 : (6 : Int) < (l.length : Int) := by omega
      go_enter Tryz.func87, Tryz.ntmps87
      go_wp2_with fail
      go_ret
      exact ⟨by unfold rightFlat; rw [if_neg (by decide), if_pos rfl, decide_eq_true (show 3 ≤ l.length by omega), decide_eq_false (show ¬ l.length ≤ 6 by omega)]; rfl, Below.refl _ _⟩
    · have q2 : ¬ (6 : Int) < (l.length : Int) := by omega
      have HE := Lib.hid (show rightFlat 1 l = bigP l by unfold rightFlat; rw [if_neg (by decide), if_pos rfl, decide_eq_true (show 3 ≤ l.length by omega), decide_eq_true (show l.length ≤ 6 by omega)]; rfl)
      go_enter Tryz.func87, Tryz.ntmps87
      go_wp2_with fail
      refine (big_any l _ _ HW.out (by omega) (by omega)).mono ?_
      rintro e w1 ⟨⟨mv, rfl, hm, -⟩, hb⟩
      obtain ⟨ma, mc, rfl, _⟩ := hm
      have HB := Lib.hid hb
      clear hb
      go_wp2_with fail
      go_ret
      exact ⟨by rw [HE.out]; rfl, HB.out.alloc HB.out.size _⟩

theorem right2 (l : List Nat) (mv lv : Value) (w : World) (h : Ws w lv l) (h1 : 1 ≤ l.length) :
    Calls Tryz.prog 87 #[mv, .int .i64 2, lv] w fun e w' => e = .returned (.bool (rightFlat 2 l)) ∧ Below w.heap.size w w' := by
  have HW := Lib.hid h
  obtain ⟨g, o, c, rfl, hlc, hcm, hml⟩ := h.open h1
  unfold maxLen at hml
  clear h
  by_cases hn : l.length = 2
  · have k1 := HW.out.at (j := 1) (by omega)
    have q1 : ((l.length : Int) == 2) = true := by simp [hn]
    have q2 : (1 : Int) < (l.length : Int) := by omega
    obtain ⟨x, hx⟩ : ∃ x, l.getD 1 0 = x := ⟨_, rfl⟩
    rw [hx] at k1
    have HE := Lib.hid (show rightFlat 2 l = realP x by unfold rightFlat; rw [if_neg (by decide), if_neg (by decide), if_pos rfl, decide_eq_true hn, hx]; rfl)
    clear hx hn
    go_enter Tryz.func87, Tryz.ntmps87
    go_wp2_with fail
    refine (realMay_any x _).mono ?_
    rintro e w1 ⟨rfl, rfl⟩
    go_wp2_with fail
    go_ret
    exact ⟨by rw [HE.out]; rfl, Below.refl _ _⟩
  · have q1 : ((l.length : Int) == 2) = false := by simp; omega
    go_enter Tryz.func87, Tryz.ntmps87
    go_wp2_with fail
    go_ret
    exact ⟨by unfold rightFlat; rw [if_neg (by decide), if_neg (by decide), if_pos rfl, decide_eq_false hn]; rfl, Below.refl _ _⟩

theorem right3 (l : List Nat) (mv lv : Value) (w : World) (h : Ws w lv l) (h1 : 1 ≤ l.length) :
    Calls Tryz.prog 87 #[mv, .int .i64 3, lv] w fun e w' => e = .returned (.bool (rightFlat 3 l)) ∧ Below w.heap.size w w' := by
  have HW := Lib.hid h
  obtain ⟨g, o, c, rfl, hlc, hcm, hml⟩ := h.open h1
  unfold maxLen at hml
  clear h
  by_cases hn : l.length < 2
  · have q1 : (l.length : Int) < 2 := by omega
    go_enter Tryz.func87, Tryz.ntmps87
    go_wp2_with fail
    go_ret
    exact ⟨by unfold rightFlat; rw [if_neg (by decide), if_neg (by decide), if_neg (by decide), if_pos rfl, decide_eq_false (by omega)]; rfl, Below.refl _ _⟩
  · have q1 : ¬ (l.length : Int) < 2 := by omega
    have HE := Lib.hid (show rightFlat 3 l = (bytesW l).isSome by unfold rightFlat; rw [if_neg (by decide), if_neg (by decide), if_neg (by decide), if_pos rfl, decide_eq_true (by omega)]; rfl)
    go_enter Tryz.func87, Tryz.ntmps87
    go_wp2_with fail
    refine (bytes_any l _ _ HW.out (by omega)).mono ?_
    rintro e w1 ⟨⟨b, rfl, _⟩, hb⟩
    have HB := Lib.hid hb
    clear hb
    go_wp2_with fail
    go_ret
    exact ⟨by rw [HE.out]; rfl, HB.out⟩

set_option maxHeartbeats 1000000 in
theorem right4 (l : List Nat) (mv lv : Value) (w : World) (h : Ws w lv l) (h1 : 1 ≤ l.length) :
    Calls Tryz.prog 87 #[mv, .int .i64 4, lv] w fun e w' => e = .returned (.bool (rightFlat 4 l)) ∧ Below w.heap.size w w' := by
  have HW := Lib.hid h
  obtain ⟨g, o, c, rfl, hlc, hcm, hml⟩ := h.open h1
  unfold maxLen at hml
  clear h
  by_cases hn : l.length = 4
  · have k1 := HW.out.at (j := 1) (by omega)
    have k2 := HW.out.at (j := 2) (by omega)
    have k3 := HW.out.at (j := 3) (by omega)
    have q1 : ((l.length : Int) == 4) = true := by simp [hn]
    have q2 : (1 : Int) < (l.length : Int) := by omega
    have q3 : (2 : Int) < (l.length : Int) := by omega
    have q4 : (3 : Int) < (l.length : Int) := by omega
    obtain ⟨x, hx⟩ : ∃ x, l.getD 1 0 = x := ⟨_, rfl⟩
    obtain ⟨y, hy⟩ : ∃ y, l.getD 2 0 = y := ⟨_, rfl⟩
    obtain ⟨z, hz⟩ : ∃ z, l.getD 3 0 = z := ⟨_, rfl⟩
    rw [hx] at k1
    rw [hy] at k2
    rw [hz] at k3
    have HE := Lib.hid (show rightFlat 4 l = (decide (max x y ≤ 1073741824) && decide (z ≤ 400)) by
      unfold rightFlat; rw [if_neg (by decide), if_neg (by decide), if_neg (by decide), if_neg (by decide), if_pos rfl, decide_eq_true hn, hx, hy, hz]; simp)
    clear hx hy hz hn
    obtain ⟨m, hm, hxy⟩ : ∃ m : Nat, max x y = m ∧ ((x < y ∧ m = y) ∨ (¬ x < y ∧ m = x)) := ⟨_, rfl, by omega⟩
    rw [hm] at HE
    clear hm
    rcases hxy with ⟨hlt, rfl⟩ | ⟨hlt, rfl⟩
    all_goals
      first
        | (have q7 : (x : Int) < (m : Int) := by omega)
        | (have q7 : ¬ (m : Int) < (y : Int) := by omega)
      by_cases hm : m ≤ 1073741824
      · have q5 : decide ((m : Int) ≤ 1073741824) = true := decide_eq_true (by omega)
        have q6 : (m : Int) ≤ 1073741824 := by omega
        rw [decide_eq_true hm] at HE
        clear hm hlt
        go_enter Tryz.func87, Tryz.ntmps87
        go_wp2_with fail
        go_quiet (fail)
        go_wp2_with fail
        go_ret
        exact ⟨by rw [HE.out]; simp; omega, ⟨rfl, rfl, rfl, Nat.le_refl _, fun _ _ => rfl⟩⟩
      · have q5 : decide ((m : Int) ≤ 1073741824) = false := decide_eq_false (by omega)
        have q6 : ¬ (m : Int) ≤ 1073741824 := by omega
        rw [decide_eq_false hm] at HE
        clear hm hlt
        go_enter Tryz.func87, Tryz.ntmps87
        go_wp2_with fail
        go_quiet (fail)
        go_wp2_with fail
        go_ret
        exact ⟨by rw [HE.out]; simp, ⟨rfl, rfl, rfl, Nat.le_refl _, fun _ _ => rfl⟩⟩
  · have q1 : ((l.length : Int) == 4) = false := by simp; omega
    go_enter Tryz.func87, Tryz.ntmps87
    go_wp2_with fail
    go_quiet (fail)
    go_wp2_with fail
    go_ret
    exact ⟨by unfold rightFlat; rw [if_neg (by decide), if_neg (by decide), if_neg (by decide), if_neg (by decide), if_pos rfl, decide_eq_false hn]; rfl, ⟨rfl, rfl, rfl, Nat.le_refl _, fun _ _ => rfl⟩⟩

/-- What stands at a spot, as an answer. -/
def ObjEnd (w' : World) (r : Option (Int × List Nat)) (e : Ending) : Prop :=
  ∃ (k : Int) (v : Value) (l : List Nat) (ok : Bool), e = .returned (.tuple #[.agg #[.int .i64 k, v], .bool ok]) ∧ Ws w' v l ∧ ok = r.isSome ∧ (∀ o, r = some o → o = (k, l))

theorem headP_le {w : Nat} {k : Int × Int} (h : headP w = some k) : 0 ≤ k.1 ∧ k.1 ≤ 5 ∧ 0 ≤ k.2 ∧ k.2 ≤ 1048576 := by
  unfold headP at h
  split at h
  · cases h; refine ⟨?_, ?_, ?_, ?_⟩ <;> simp only <;> omega
  · cases h

theorem wordsP_len : ∀ {m : List Frg} {a n : Int} {l : List Nat}, wordsP m a n = some l → 0 ≤ n → (l.length : Int) = n
  | [], _, _, _, h, _ => by cases h
  | f :: r, a, n, l, h, hn => by
    unfold wordsP at h
    split at h
    · rename_i hin
      unfold cutP at h
      split at h
      · rename_i hle
        cases h
        rw [List.length_take, List.length_drop]
        unfold inP at hin
        simp at hin
        omega
      · cases h
    · exact wordsP_len h hn

end Go.Proofs.YtlmpmjhanpkcnaaGreat

namespace Go.Proofs.YtlmpmjhanpkcnaaGreat
open Go.RowKit

/-- What stands at a spot, when R says which heads' words may be. -/
def objR (m : List Frg) (R : Int → List Nat → Bool) (a t : Int) : Option (Int × List Nat) :=
  if t = 5 then (wordsP m a 2).bind fun l => if allP l = true then some (-1, l) else none
  else (headAt m a).bind fun o => if R o.1 o.2 = true then some o else none

theorem Ws.set {w : World} {v : Value} {l : List Nat} {b i : Nat} {x : Int} {p : Option Addr} {q r : Nat} {t : TypeId} (h : Ws w v l) (hb : w.heap[b]? = some (.cells #[.int .i64 x, .slice p q r] t (0, 0))) (u : Value) : Ws (w.setCell ⟨b, i, none⟩ u) v l := by
  obtain ⟨h1, h2, a, cap, rfl, h3, h4, hc⟩ := h
  refine ⟨h1, h2, a, cap, rfl, h3, h4, fun j hj => ?_⟩
  obtain ⟨g, o, rfl, k⟩ := hc j hj
  refine ⟨g, o, rfl, ?_⟩
  by_cases e : g = b
  · exfalso
    subst e
    rw [cell_of hb] at k
    match o + j, k with
    | 0, k => simp at k
    | 1, k => simp at k
    | n + 2, k => simp at k
  · rw [World.cell?_of_block (w := w) (Below.heap_setCell _ _ _ _ (by simpa using e))]; exact k

/-- An object stored into the result's block. -/
theorem obj_store {w : World} {l : List Nat} {b n c B : Nat} {x k : Int} {p va : Option Addr} {q r : Nat} {t : TypeId} (hb : w.heap[b]? = some (.cells #[.int .i64 x, .slice p q r] t (0, 0))) (hw : Ws w (.slice va n c) l) (hB : B ≤ b) :
    Ws ((w.setCell ⟨b, 0, none⟩ (.int .i64 k)).setCell ⟨b, 1, none⟩ (.slice va n c)) (.slice va n c) l ∧ Below B w ((w.setCell ⟨b, 0, none⟩ (.int .i64 k)).setCell ⟨b, 1, none⟩ (.slice va n c)) := by
  have h1 := set_of hb 0 (.int .i64 k)
  exact ⟨(hw.set hb _).set (x := k) (p := p) (q := q) (r := r) (t := t) h1 _, ((Below.refl B w).setCell (p := ⟨b, 0, none⟩) hB _).setCell (p := ⟨b, 1, none⟩) hB _⟩

theorem words_none {m : List Frg} {a : Int} (h : wordsP m a 1 = none) : headAt m a = none := by unfold headAt; rw [h]; rfl

set_option maxHeartbeats 8000000 in
set_option maxRecDepth 100000 in
theorem object_of (m : List Frg) (mv : Value) (R : Int → List Nat → Bool) (a t : Int) (w : World) (hm : RsAt w mv m) (ha : -9223372036854775808 ≤ a ∧ a ≤ 9223372036854775807)
    (hR : t ≠ 5 → ∀ k l lv w', headAt m a = some (k, l) → Below w.heap.size w w' → RsAt w' mv m → Ws w' lv l → 1 ≤ l.length → Calls Tryz.prog 87 #[mv, .int .i64 k, lv] w' fun e w'' => e = .returned (.bool (R k l)) ∧ Below w'.heap.size w' w'') :
    Calls Tryz.prog 60 #[mv, .agg #[.int .i64 a, .int .i64 t]] w fun e w' => ObjEnd w' (objR m R a t) e ∧ Below w.heap.size w w' := by
  have HM := Lib.hid hm
  have HR := Lib.hid hR
  obtain ⟨-, ma, mc, rfl, -⟩ := hm
  clear hR
  obtain ⟨w0, hw0⟩ : ∃ w0, (w.alloc (.cells #[.int .i64 a, .int .i64 t] 63)).alloc (.cells #[.int .i64 0, .slice none 0 0] 107) = w0 := ⟨_, rfl⟩
  have T := two_at w (.cells #[.int .i64 a, .int .i64 t] 63) (.cells #[.int .i64 0, .slice none 0 0] 107)
  rw [hw0] at T
  have HBX := Lib.hid T.1
  have HOB := Lib.hid T.2.1
  have HSZ := Lib.hid T.2.2.1
  have HBL := Lib.hid T.2.2.2
  have HW0 := Lib.hid hw0
  clear T hw0
  by_cases h5 : t = 5
  · subst h5
    have HO := Lib.hid (show objR m R a 5 = (wordsP m a 2).bind fun l => if allP l = true then some (-1, l) else none by unfold objR; rw [if_pos rfl])
    go_enter Tryz.func60, Tryz.ntmps60
    go_wp2_with fail
    rw [HW0.out]
    refine (words_any m _ a 2 w0 (HM.out.below HBL.out) ha (by omega)).mono ?_
    rintro e w1 ⟨⟨v1, rfl, hv1⟩, hb1⟩
    have HB1 := Lib.hid (HBL.out.trans (hb1.mono HBL.out.size))
    have HOB1 := Lib.hid ((hb1.block (w.heap.size + 1) (by have := HSZ.out; omega)).trans HOB.out)
    have c0 := cell_of HOB1.out 0
    have c1 := cell_of HOB1.out 1
    have z0 := free_of HOB1.out 0
    have z1 := free_of HOB1.out 1
    simp at c0 c1
    have HV1 := Lib.hid hv1
    clear hb1 hv1
    cases hwp : wordsP m a 2 with
    | none =>
      rw [hwp] at HV1
      obtain ⟨_, _, va, vc, rfl, _⟩ := HV1.out
      have HE := Lib.hid (show objR m R a 5 = none by rw [HO.out, hwp]; rfl)
      clear hwp
      go_wp2_with fail
      have S := obj_store (k := -1) HOB1.out HV1.out (Nat.le_succ w.heap.size)
      refine bodyPost_ret (v := .tuple #[.agg #[.int .i64 (-1), .slice va 0 vc], .bool false]) (by simp [results, Tryz.results60, go_sem, c0, c1]) rfl ⟨⟨_, _, _, _, rfl, S.1, by rw [HE.out]; rfl, fun o ho => by rw [HE.out] at ho; cases ho⟩, HB1.out.trans S.2⟩
    | some l =>
      rw [hwp] at HV1
      obtain ⟨_, _, va, vc, rfl, _⟩ := HV1.out
      have HE := Lib.hid (show objR m R a 5 = if allP l = true then some (-1, l) else none by rw [HO.out, hwp]; rfl)
      clear hwp
      go_wp2_with fail
      refine (allplain_any l _ _ HV1.out).mono ?_
      rintro e w2 ⟨rfl, rfl⟩
      go_wp2_with fail
      have S := obj_store (k := -1) HOB1.out HV1.out (Nat.le_succ w.heap.size)
      refine bodyPost_ret (v := .tuple #[.agg #[.int .i64 (-1), .slice va l.length vc], .bool (allP l)]) (by simp [results, Tryz.results60, go_sem, c0, c1]) rfl ⟨⟨_, _, _, _, rfl, S.1, ?_, fun o ho => ?_⟩, HB1.out.trans S.2⟩
      · rw [HE.out]; cases allP l <;> rfl
      · rw [HE.out] at ho
        split at ho
        · cases ho; rfl
        · cases ho
  · have q5 : (t == 5) = false := by simpa using h5
    have HO := Lib.hid (show objR m R a t = (headAt m a).bind fun o => if R o.1 o.2 = true then some o else none by unfold objR; rw [if_neg h5])
    have H5 := Lib.hid h5
    clear h5
    go_enter Tryz.func60, Tryz.ntmps60
    go_wp2_with fail
    rw [HW0.out]
    refine (words_any m _ a 1 w0 (HM.out.below HBL.out) ha (by omega)).mono ?_
    rintro e w1 ⟨⟨v1, rfl, hv1⟩, hb1⟩
    have HB1 := Lib.hid (HBL.out.trans (hb1.mono HBL.out.size))
    have HS1 := Lib.hid (Nat.le_trans (Nat.le_of_eq HSZ.out) hb1.size)
    have HOB1 := Lib.hid ((hb1.block (w.heap.size + 1) (by have := HSZ.out; omega)).trans HOB.out)
    have HBX1 := Lib.hid ((hb1.block w.heap.size (by have := HSZ.out; omega)).trans HBX.out)
    have HV1 := Lib.hid hv1
    clear hb1 hv1
    cases hwp : wordsP m a 1 with
    | none =>
      rw [hwp] at HV1
      obtain ⟨_, _, va, vc, rfl, _⟩ := HV1.out
      have HE := Lib.hid (show objR m R a t = none by rw [HO.out, words_none hwp]; rfl)
      have c0 := cell_of HOB1.out 0
      have c1 := cell_of HOB1.out 1
      have z0 := free_of HOB1.out 0
      have z1 := free_of HOB1.out 1
      simp at c0 c1
      clear hwp
      go_wp2_with fail
      have S := obj_store (k := 0) HOB1.out (Ws.nil _) (Nat.le_succ w.heap.size)
      refine bodyPost_ret (v := .tuple #[.agg #[.int .i64 0, .slice none 0 0], .bool false]) (by simp [results, Tryz.results60, go_sem, c0, c1]) rfl ⟨⟨_, _, _, _, rfl, S.1, by rw [HE.out]; rfl, fun o ho => by rw [HE.out] at ho; cases ho⟩, HB1.out.trans S.2⟩
    | some h =>
      rw [hwp] at HV1
      have HV1 := Lib.hid (show Ws w1 v1 h from HV1.out)
      have hlen := wordsP_len hwp (by omega)
      obtain ⟨g1, o1, vc, hv, hvc, hvm, _⟩ := HV1.out.open (show 0 < h.length by omega)
      subst hv
      have k0 := HV1.out.at (j := 0) (show 0 < h.length by omega)
      rw [Nat.add_zero] at k0
      have hx := HV1.out.2.1 (h.getD 0 0) (by
        have : h.getD 0 0 = h[0]'(by omega) := by simp [List.getD, List.getElem?_eq_getElem (show 0 < h.length by omega)]
        rw [this]; exact List.getElem_mem _)
      obtain ⟨x, hxx⟩ : ∃ x, h.getD 0 0 = x := ⟨_, rfl⟩
      rw [hxx] at k0 hx
      have HH := Lib.hid (show headAt m a = (headP x).bind fun k => (wordsP m a (k.2 + 1)).map fun l => (k.1, l) by unfold headAt; rw [hwp]; simp only [Option.bind_some]; rw [hxx])
      have HLEN := Lib.hid hlen
      have q1 : (0 : Int) < (h.length : Int) := by omega
      clear hxx hlen hwp
      go_wp2_with fail
      refine (parts_any x hx _).mono ?_
      rintro e w2 ⟨he, rfl⟩
      unfold HeadEnd at he
      subst he
      cases hhp : headP x with
      | none =>
        have HE := Lib.hid (show objR m R a t = none by rw [HO.out, HH.out, hhp]; rfl)
        have c0 := cell_of HOB1.out 0
        have c1 := cell_of HOB1.out 1
        have z0 := free_of HOB1.out 0
        have z1 := free_of HOB1.out 1
        simp at c0 c1
        clear hhp
        go_wp2_with fail
        have S := obj_store (k := 0) HOB1.out (Ws.nil _) (Nat.le_succ w.heap.size)
        refine bodyPost_ret (v := .tuple #[.agg #[.int .i64 0, .slice none 0 0], .bool false]) (by simp [results, Tryz.results60, go_sem, c0, c1]) rfl ⟨⟨_, _, _, _, rfl, S.1, by rw [HE.out]; rfl, fun o ho => by rw [HE.out] at ho; cases ho⟩, HB1.out.trans S.2⟩
      | some ks =>
        obtain ⟨kd, sz⟩ := ks
        have hkb := headP_le hhp
        simp only at hkb
        have HH2 := Lib.hid (show headAt m a = (wordsP m a (sz + 1)).map fun l => (kd, l) by rw [HH.out, hhp]; rfl)
        have q2 : IntKind.i64.wrap (sz + 1) = sz + 1 := IntWalk.i64_in _ (by omega)
        have b0 := cell_of HBX1.out 0
        simp at b0
        clear hhp
        go_wp2_with fail
        refine (words_any m _ a (sz + 1) _ (HM.out.below HB1.out) ha (by omega)).mono ?_
        rintro e w3 ⟨⟨v3, rfl, hv3⟩, hb3⟩
        have HB3 := Lib.hid (HB1.out.trans (hb3.mono HB1.out.size))
        have HS3 := Lib.hid (Nat.le_trans HS1.out hb3.size)
        have HOB3 := Lib.hid ((hb3.block (w.heap.size + 1) (by have := HS1.out; omega)).trans HOB1.out)
        have HV3 := Lib.hid hv3
        clear hb3 hv3 b0
        cases hwp : wordsP m a (sz + 1) with
        | none =>
          rw [hwp] at HV3
          obtain ⟨_, _, va3, vc3, rfl, _⟩ := HV3.out
          have HE := Lib.hid (show objR m R a t = none by rw [HO.out, HH2.out, hwp]; rfl)
          have c0 := cell_of HOB3.out 0
          have c1 := cell_of HOB3.out 1
          have z0 := free_of HOB3.out 0
          have z1 := free_of HOB3.out 1
          simp at c0 c1
          clear hwp
          go_wp2_with fail
          have S := obj_store (k := 0) HOB3.out (Ws.nil _) (Nat.le_succ w.heap.size)
          refine bodyPost_ret (v := .tuple #[.agg #[.int .i64 0, .slice none 0 0], .bool false]) (by simp [results, Tryz.results60, go_sem, c0, c1]) rfl ⟨⟨_, _, _, _, rfl, S.1, by rw [HE.out]; rfl, fun o ho => by rw [HE.out] at ho; cases ho⟩, HB3.out.trans S.2⟩
        | some l =>
          rw [hwp] at HV3
          have HV3 := Lib.hid (show Ws w3 v3 l from HV3.out)
          have hlen3 := wordsP_len hwp (by omega)
          have hl1 : 1 ≤ l.length := by omega
          obtain ⟨_, _, va3, vc3, hv3, _⟩ := HV3.out
          have hv3 : v3 = .slice va3 l.length vc3 := hv3
          subst hv3
          have HHA := Lib.hid (show headAt m a = some (kd, l) by rw [HH2.out, hwp]; rfl)
          have HE := Lib.hid (show objR m R a t = if R kd l = true then some (kd, l) else none by rw [HO.out, HHA.out]; rfl)
          clear hwp hlen3
          go_wp2_with fail
          refine (HR.out H5.out kd l _ _ HHA.out HB3.out (HM.out.below HB3.out) HV3.out hl1).mono ?_
          rintro e w4 ⟨rfl, hb4⟩
          have HB4 := Lib.hid (HB3.out.trans (hb4.mono HB3.out.size))
          have HOB4 := Lib.hid ((hb4.block (w.heap.size + 1) (by have := HS3.out; omega)).trans HOB3.out)
          have HV4 := Lib.hid (HV3.out.below hb4)
          have c0 := cell_of HOB4.out 0
          have c1 := cell_of HOB4.out 1
          have z0 := free_of HOB4.out 0
          have z1 := free_of HOB4.out 1
          simp at c0 c1
          clear hb4
          cases hr : R kd l
          · have HE2 := Lib.hid (show objR m R a t = none by rw [HE.out, hr]; rfl)
            go_wp2_with fail
            have S := obj_store (k := 0) HOB4.out (Ws.nil _) (Nat.le_succ w.heap.size)
            refine bodyPost_ret (v := .tuple #[.agg #[.int .i64 0, .slice none 0 0], .bool false]) (by simp [results, Tryz.results60, go_sem, c0, c1]) rfl ⟨⟨_, _, _, _, rfl, S.1, by rw [HE2.out]; rfl, fun o ho => by rw [HE2.out] at ho; cases ho⟩, HB4.out.trans S.2⟩
          · have HE2 := Lib.hid (show objR m R a t = some (kd, l) by rw [HE.out, hr]; rfl)
            go_wp2_with fail
            have S := obj_store (k := kd) HOB4.out HV4.out (Nat.le_succ w.heap.size)
            refine bodyPost_ret (v := .tuple #[.agg #[.int .i64 kd, .slice va3 l.length vc3], .bool true]) (by simp [results, Tryz.results60, go_sem, c0, c1]) rfl ⟨⟨_, _, _, _, rfl, S.1, by rw [HE2.out]; rfl, fun o ho => by rw [HE2.out] at ho; cases ho; rfl⟩, HB4.out.trans S.2⟩

end Go.Proofs.YtlmpmjhanpkcnaaGreat

namespace Go.Proofs.YtlmpmjhanpkcnaaGreat
open Go.RowKit

def LenEnd (r : Option Nat) (e : Ending) : Prop := e = .returned (.tuple #[.int .i64 ((r.getD 0 : Nat) : Int), .bool r.isSome])

theorem headP_tag {w : Nat} {k : Int × Int} (h : headP w = some k) : tagW w = 6 := by
  unfold headP at h
  split at h
  · rename_i q; exact q.1
  · cases h

theorem flat3_parts {l : List Nat} (h : rightFlat 3 l = true) : 2 ≤ l.length ∧ l.getD 1 0 ≤ 64 := by
  unfold rightFlat at h
  rw [if_neg (by decide), if_neg (by decide), if_neg (by decide), if_pos rfl, Bool.and_eq_true, decide_eq_true_eq] at h
  refine ⟨h.1, ?_⟩
  have h2 := h.2
  unfold bytesW at h2
  split at h2
  · cases h2
  · omega

theorem flat4_parts {l : List Nat} (h : rightFlat 4 l = true) : l.length = 4 ∧ l.getD 1 0 ≤ 1073741824 ∧ l.getD 2 0 ≤ 1073741824 ∧ l.getD 3 0 ≤ 400 := by
  unfold rightFlat at h
  rw [if_neg (by decide), if_neg (by decide), if_neg (by decide), if_neg (by decide), if_pos rfl, Bool.and_eq_true, Bool.and_eq_true, decide_eq_true_eq, decide_eq_true_eq, decide_eq_true_eq] at h
  omega

set_option maxHeartbeats 8000000 in
set_option maxRecDepth 100000 in
theorem length_any (m : List Frg) (mv : Value) (x : Nat) (w : World) (hm : RsAt w mv m) (hx : x < 18446744073709551616) :
    Calls Tryz.prog 112 #[mv, .int .u64 x] w fun e w' => LenEnd (lengthP m x) e ∧ Below w.heap.size w w' := by
  have HM := Lib.hid hm
  obtain ⟨-, ma, mc, rfl, -⟩ := hm
  go_enter Tryz.func112, Tryz.ntmps112
  go_wp2_with fail
  refine (to_any x hx _).mono ?_
  rintro e w1 ⟨he, hb1⟩
  unfold ToEnd at he
  subst he
  have HB1 := Lib.hid hb1
  have HSW := Lib.hid hb1.size
  cases ht : toP x with
  | none =>
    have HE := Lib.hid (show lengthP m x = none by unfold lengthP; rw [ht]; rfl)
    clear ht hb1
    go_wp2_with fail
    go_ret2
    exact ⟨by unfold LenEnd; rw [HE.out]; rfl, HB1.out.alloc HSW.out _⟩
  | some s =>
    obtain ⟨a, t⟩ := s
    have HB2 := Lib.hid (hb1.alloc hb1.size (.cells #[.int .i64 a, .int .i64 t] 63))
    have HBX := Lib.hid (World.alloc_heap_new w1 (.cells #[.int .i64 a, .int .i64 t] 63))
    obtain ⟨w2, hw2⟩ : ∃ w2, w1.alloc (.cells #[.int .i64 a, .int .i64 t] 63) = w2 := ⟨_, rfl⟩
    rw [hw2] at HB2 HBX
    have HSZ := Lib.hid (show w1.heap.size + 1 = w2.heap.size by rw [← hw2]; simp)
    have HW2 := Lib.hid hw2
    have HT := Lib.hid ht
    clear ht hb1 hw2
    by_cases h4 : t = 4
    · subst h4
      have ha := loadW_in x hx
      have HL := Lib.hid (show lengthP m x = (headAt m a).bind fun o => if o.1 = 3 ∧ rightFlat 3 o.2 = true then some (o.2.getD 1 0) else if o.1 = 4 ∧ rightFlat 4 o.2 = true then some (o.2.getD 3 0) else none by
        unfold lengthP; rw [HT.out]; rfl)
      have haa : loadW x = a := by
        have h := HT.out
        unfold toP at h
        split at h
        · simp only [Option.some.injEq, Prod.mk.injEq] at h; exact h.1
        · cases h
      rw [haa] at ha
      clear haa
      go_wp2_with fail
      rw [HW2.out]
      refine (words_any m _ a 1 w2 (HM.out.below HB2.out) ha (by omega)).mono ?_
      rintro e w3 ⟨⟨v1, rfl, hv1⟩, hb3⟩
      have HB3 := Lib.hid (HB2.out.trans (hb3.mono HB2.out.size))
      have HBX3 := Lib.hid ((hb3.block w1.heap.size (by have := HSZ.out; omega)).trans HBX.out)
      have HV1 := Lib.hid hv1
      clear hb3 hv1
      cases hwp : wordsP m a 1 with
      | none =>
        rw [hwp] at HV1
        obtain ⟨_, _, va, vc, rfl, _⟩ := HV1.out
        have HE := Lib.hid (show lengthP m x = none by rw [HL.out, words_none hwp]; rfl)
        clear hwp
        go_wp2_with fail
        go_ret2
        exact ⟨by unfold LenEnd; rw [HE.out]; rfl, HB3.out⟩
      | some h =>
        rw [hwp] at HV1
        have HV1 := Lib.hid (show Ws w3 v1 h from HV1.out)
        have hlen := wordsP_len hwp (by omega)
        obtain ⟨g1, o1, vc, hv, hvc, hvm, _⟩ := HV1.out.open (show 0 < h.length by omega)
        subst hv
        have k0 := HV1.out.at (j := 0) (show 0 < h.length by omega)
        rw [Nat.add_zero] at k0
        have hy := HV1.out.2.1 (h.getD 0 0) (by
          have : h.getD 0 0 = h[0]'(by omega) := by simp [List.getD, List.getElem?_eq_getElem (show 0 < h.length by omega)]
          rw [this]; exact List.getElem_mem _)
        obtain ⟨y, hyy⟩ : ∃ y, h.getD 0 0 = y := ⟨_, rfl⟩
        rw [hyy] at k0 hy
        have HH := Lib.hid (show headAt m a = (headP y).bind fun k => (wordsP m a (k.2 + 1)).map fun l => (k.1, l) by unfold headAt; rw [hwp]; simp only [Option.bind_some]; rw [hyy])
        have q1 : (0 : Int) < (h.length : Int) := by omega
        clear hyy hlen hwp
        go_wp2_with fail
        refine (parts_any y hy _).mono ?_
        rintro e w4 ⟨he, rfl⟩
        unfold HeadEnd at he
        subst he
        cases hhp : headP y with
        | none =>
          have HE := Lib.hid (show lengthP m x = none by rw [HL.out, HH.out, hhp]; rfl)
          clear hhp
          go_wp2_with fail
          refine (tag_any y hy _).mono ?_
          rintro e w5 ⟨rfl, rfl⟩
          by_cases ht6 : tagW y = 6
          all_goals
            first
              | (have q6 : (((tagW y : Nat) : Int) != 6) = false := by simp [ht6]; done)
              | (have q6 : (((tagW y : Nat) : Int) != 6) = true := by simp; omega)
            clear ht6
            go_wp2_with fail
            go_ret2
            exact ⟨by unfold LenEnd; rw [HE.out]; rfl, HB3.out⟩
        | some ks =>
          obtain ⟨kd, sz⟩ := ks
          have hkb := headP_le hhp
          have ht6 := headP_tag hhp
          simp only at hkb
          have HH2 := Lib.hid (show headAt m a = (wordsP m a (sz + 1)).map fun l => (kd, l) by rw [HH.out, hhp]; rfl)
          have q6 : (((tagW y : Nat) : Int) != 6) = false := by simp [ht6]
          clear hhp ht6
          go_wp2_with fail
          refine (tag_any y hy _).mono ?_
          rintro e w5 ⟨rfl, rfl⟩
          have hk : kd = 3 ∨ kd = 4 ∨ (kd ≠ 3 ∧ kd ≠ 4) := by omega
          clear hkb
          rcases hk with hk | hk | ⟨hk3, hk4⟩
          · subst hk
            have HLE := Lib.hid (show ∀ l, headAt m a = some (3, l) → lengthP m x = if rightFlat 3 l = true then some (l.getD 1 0) else none from fun l q => by
              rw [HL.out, q]; simp)
            have HOB := Lib.hid (object_of m _ rightFlat a 4 _ (HM.out.below HB3.out) ha (fun _ k l lv w' hh _ _ hl h1 => by
              have e : k = 3 := by
                rw [HH2.out] at hh
                cases hq : wordsP m a (sz + 1) with
                | none => rw [hq] at hh; cases hh
                | some l' => rw [hq] at hh; simp only [Option.map_some, Option.some.injEq, Prod.mk.injEq] at hh; exact hh.1.symm
              subst e
              exact right3 l _ _ _ hl h1))
            have b0 := cell_of HBX3.out 0
            have b1 := cell_of HBX3.out 1
            simp at b0 b1
            go_wp2_with fail
            refine HOB.out.mono ?_
            rintro e w6 ⟨⟨k, v, l, ok, rfl, hws, hok, hsome⟩, hb6⟩
            have hws2 := hws
            obtain ⟨-, -, va, vc, rfl, -⟩ := hws2
            have HB6 := Lib.hid (HB3.out.trans (hb6.mono HB3.out.size))
            have HWS := Lib.hid hws
            clear hb6 hws b0 b1
            have ho5 : objR m rightFlat a 4 = (headAt m a).bind fun o => if rightFlat o.1 o.2 = true then some o else none := by unfold objR; rw [if_neg (by decide)]
            cases hho : objR m rightFlat a 4 with
            | none =>
              have HE := Lib.hid (show lengthP m x = none by
                rw [hho] at ho5
                cases hq : headAt m a with
                | none => rw [HL.out, hq]; rfl
                | some o =>
                  obtain ⟨k', l'⟩ := o
                  have e : k' = 3 := by
                    rw [HH2.out] at hq
                    cases hq2 : wordsP m a (sz + 1) with
                    | none => rw [hq2] at hq; cases hq
                    | some l' => rw [hq2] at hq; simp only [Option.map_some, Option.some.injEq, Prod.mk.injEq] at hq; exact hq.1.symm
                  subst e
                  rw [HLE.out l' hq]
                  rw [hq] at ho5
                  simp only [Option.bind_some] at ho5
                  split at ho5
                  · cases ho5
                  · rename_i hf; rw [if_neg hf])
              rw [hho] at hok
              subst hok
              clear hho ho5 hsome
              go_wp2_with fail
              go_ret2
              exact ⟨by unfold LenEnd; rw [HE.out]; rfl, HB6.out.alloc HB6.out.size _⟩
            | some o =>
              have e0 := hsome o hho
              subst e0
              rw [hho] at ho5 hok
              subst hok
              have hf : k = 3 ∧ rightFlat 3 l = true ∧ headAt m a = some (3, l) := by
                cases hq : headAt m a with
                | none => rw [hq] at ho5; cases ho5
                | some o =>
                  obtain ⟨k', l'⟩ := o
                  have e : k' = 3 := by
                    rw [HH2.out] at hq
                    cases hq2 : wordsP m a (sz + 1) with
                    | none => rw [hq2] at hq; cases hq
                    | some l' => rw [hq2] at hq; simp only [Option.map_some, Option.some.injEq, Prod.mk.injEq] at hq; exact hq.1.symm
                  subst e
                  rw [hq] at ho5
                  simp only [Option.bind_some] at ho5
                  split at ho5
                  · rename_i hf; simp only [Option.some.injEq, Prod.mk.injEq] at ho5; obtain ⟨rfl, rfl⟩ := ho5; exact ⟨rfl, hf, rfl⟩
                  · cases ho5
              obtain ⟨rfl, hf1, hf2⟩ := hf
              have HE := Lib.hid (show lengthP m x = some (l.getD 1 0) by rw [HLE.out l hf2, if_pos hf1])
              have hp := flat3_parts hf1
              obtain ⟨g5, o5, c5, hv5, -, -, -⟩ := HWS.out.open (show 0 < l.length by omega)
              simp only [Value.slice.injEq, true_and] at hv5
              obtain ⟨rfl, rfl⟩ := hv5
              have kx := HWS.out.at (j := 1) (by omega)
              obtain ⟨z, hz⟩ : ∃ z, l.getD 1 0 = z := ⟨_, rfl⟩
              rw [hz] at kx hp
              have q8 : (1 : Int) < (l.length : Int) := by omega
              have hzb : z ≤ 400 := by omega
              have ky := fun o => (((Below.refl _ w6).alloc (Nat.le_refl _) o).cell (World.block_lt_of_cell? w6 _ kx)).trans kx
              have q9 : IntKind.i64.wrap (z : Int) = (z : Int) := IntWalk.i64_in _ (by omega)
              have HZ := Lib.hid hz
              clear hz hp hf1 hf2 hho ho5 hsome
              go_wp2_with fail
              go_ret2
              exact ⟨by unfold LenEnd; rw [HE.out, HZ.out]; rfl, HB6.out.alloc HB6.out.size _⟩
          · subst hk
            have HLE := Lib.hid (show ∀ l, headAt m a = some (4, l) → lengthP m x = if rightFlat 4 l = true then some (l.getD 3 0) else none from fun l q => by
              rw [HL.out, q]; simp)
            have HOB := Lib.hid (object_of m _ rightFlat a 4 _ (HM.out.below HB3.out) ha (fun _ k l lv w' hh _ _ hl h1 => by
              have e : k = 4 := by
                rw [HH2.out] at hh
                cases hq : wordsP m a (sz + 1) with
                | none => rw [hq] at hh; cases hh
                | some l' => rw [hq] at hh; simp only [Option.map_some, Option.some.injEq, Prod.mk.injEq] at hh; exact hh.1.symm
              subst e
              exact right4 l _ _ _ hl h1))
            have b0 := cell_of HBX3.out 0
            have b1 := cell_of HBX3.out 1
            simp at b0 b1
            go_wp2_with fail
            refine HOB.out.mono ?_
            rintro e w6 ⟨⟨k, v, l, ok, rfl, hws, hok, hsome⟩, hb6⟩
            have hws2 := hws
            obtain ⟨-, -, va, vc, rfl, -⟩ := hws2
            have HB6 := Lib.hid (HB3.out.trans (hb6.mono HB3.out.size))
            have HWS := Lib.hid hws
            clear hb6 hws b0 b1
            have ho5 : objR m rightFlat a 4 = (headAt m a).bind fun o => if rightFlat o.1 o.2 = true then some o else none := by unfold objR; rw [if_neg (by decide)]
            cases hho : objR m rightFlat a 4 with
            | none =>
              have HE := Lib.hid (show lengthP m x = none by
                rw [hho] at ho5
                cases hq : headAt m a with
                | none => rw [HL.out, hq]; rfl
                | some o =>
                  obtain ⟨k', l'⟩ := o
                  have e : k' = 4 := by
                    rw [HH2.out] at hq
                    cases hq2 : wordsP m a (sz + 1) with
                    | none => rw [hq2] at hq; cases hq
                    | some l' => rw [hq2] at hq; simp only [Option.map_some, Option.some.injEq, Prod.mk.injEq] at hq; exact hq.1.symm
                  subst e
                  rw [HLE.out l' hq]
                  rw [hq] at ho5
                  simp only [Option.bind_some] at ho5
                  split at ho5
                  · cases ho5
                  · rename_i hf; rw [if_neg hf])
              rw [hho] at hok
              subst hok
              clear hho ho5 hsome
              go_wp2_with fail
              go_ret2
              exact ⟨by unfold LenEnd; rw [HE.out]; rfl, HB6.out.alloc HB6.out.size _⟩
            | some o =>
              have e0 := hsome o hho
              subst e0
              rw [hho] at ho5 hok
              subst hok
              have hf : k = 4 ∧ rightFlat 4 l = true ∧ headAt m a = some (4, l) := by
                cases hq : headAt m a with
                | none => rw [hq] at ho5; cases ho5
                | some o =>
                  obtain ⟨k', l'⟩ := o
                  have e : k' = 4 := by
                    rw [HH2.out] at hq
                    cases hq2 : wordsP m a (sz + 1) with
                    | none => rw [hq2] at hq; cases hq
                    | some l' => rw [hq2] at hq; simp only [Option.map_some, Option.some.injEq, Prod.mk.injEq] at hq; exact hq.1.symm
                  subst e
                  rw [hq] at ho5
                  simp only [Option.bind_some] at ho5
                  split at ho5
                  · rename_i hf; simp only [Option.some.injEq, Prod.mk.injEq] at ho5; obtain ⟨rfl, rfl⟩ := ho5; exact ⟨rfl, hf, rfl⟩
                  · cases ho5
              obtain ⟨rfl, hf1, hf2⟩ := hf
              have HE := Lib.hid (show lengthP m x = some (l.getD 3 0) by rw [HLE.out l hf2, if_pos hf1])
              have hp := flat4_parts hf1
              obtain ⟨g5, o5, c5, hv5, -, -, -⟩ := HWS.out.open (show 0 < l.length by omega)
              simp only [Value.slice.injEq, true_and] at hv5
              obtain ⟨rfl, rfl⟩ := hv5
              have kx := HWS.out.at (j := 3) (by omega)
              obtain ⟨z, hz⟩ : ∃ z, l.getD 3 0 = z := ⟨_, rfl⟩
              rw [hz] at kx hp
              have q8 : (3 : Int) < (l.length : Int) := by omega
              have hzb : z ≤ 400 := by omega
              have ky := fun o => (((Below.refl _ w6).alloc (Nat.le_refl _) o).cell (World.block_lt_of_cell? w6 _ kx)).trans kx
              have q9 : IntKind.i64.wrap (z : Int) = (z : Int) := IntWalk.i64_in _ (by omega)
              have HZ := Lib.hid hz
              clear hz hp hf1 hf2 hho ho5 hsome
              go_wp2_with fail
              go_ret2
              exact ⟨by unfold LenEnd; rw [HE.out, HZ.out]; rfl, HB6.out.alloc HB6.out.size _⟩
          · have q7 : (kd != 3) = true := by simpa using hk3
            have q8 : (kd != 4) = true := by simpa using hk4
            have HE := Lib.hid (show lengthP m x = none by
              rw [HL.out, HH2.out]
              cases wordsP m a (sz + 1) with
              | none => rfl
              | some l => simp [hk3, hk4])
            clear hk3 hk4
            go_wp2_with fail
            go_ret2
            exact ⟨by unfold LenEnd; rw [HE.out]; rfl, HB3.out⟩
    · have q4 : (t == 4) = false := by simpa using h4
      have q5 : (t != 4) = true := by simpa using h4
      have HE := Lib.hid (show lengthP m x = none by unfold lengthP; rw [HT.out]; simp [h4])
      clear h4
      go_wp2_with fail
      go_ret2
      exact ⟨by unfold LenEnd; rw [HE.out]; rfl, HB1.out.alloc HSW.out _⟩

end Go.Proofs.YtlmpmjhanpkcnaaGreat

namespace Go.Proofs.YtlmpmjhanpkcnaaGreat
open Go.RowKit

theorem lengthP_le {m : List Frg} {x n : Nat} (h : lengthP m x = some n) : n ≤ 400 := by
  unfold lengthP at h
  cases ht : toP x with
  | none => rw [ht] at h; cases h
  | some s =>
    rw [ht] at h
    simp only [Option.bind_some] at h
    split at h
    · cases hh : headAt m s.1 with
      | none => rw [hh] at h; cases h
      | some o =>
        rw [hh] at h
        simp only [Option.bind_some] at h
        split at h
        · rename_i q
          have := flat3_parts q.2
          simp only [Option.some.injEq] at h; omega
        · split at h
          · rename_i q
            have := flat4_parts q.2
            simp only [Option.some.injEq] at h; omega
          · cases h
    · cases h

set_option maxHeartbeats 4000000 in
set_option maxRecDepth 100000 in
theorem right5 (m : List Frg) (l : List Nat) (mv lv : Value) (w : World) (hm : RsAt w mv m) (h : Ws w lv l) (h1 : 1 ≤ l.length) :
    Calls Tryz.prog 87 #[mv, .int .i64 5, lv] w fun e w' => e = .returned (.bool (rightP m 5 l)) ∧ Below w.heap.size w w' := by
  have HM := Lib.hid hm
  have HW := Lib.hid h
  obtain ⟨g, o, c, rfl, hlc, hcm, hml⟩ := h.open h1
  unfold maxLen at hml
  clear h hm
  by_cases hn : l.length = 4
  · have k1 := HW.out.at (j := 1) (by omega)
    have k2 := HW.out.at (j := 2) (by omega)
    have k3 := HW.out.at (j := 3) (by omega)
    have hx := HW.out.2.1 (l.getD 1 0) (by
      have : l.getD 1 0 = l[1]'(by omega) := by simp [List.getD, List.getElem?_eq_getElem (show 1 < l.length by omega)]
      rw [this]; exact List.getElem_mem _)
    have hz := HW.out.2.1 (l.getD 3 0) (by
      have : l.getD 3 0 = l[3]'(by omega) := by simp [List.getD, List.getElem?_eq_getElem (show 3 < l.length by omega)]
      rw [this]; exact List.getElem_mem _)
    have q1 : ((l.length : Int) != 4) = false := by simp [hn]
    have q2 : (1 : Int) < (l.length : Int) := by omega
    have q3 : (2 : Int) < (l.length : Int) := by omega
    have q4 : (3 : Int) < (l.length : Int) := by omega
    have HE := Lib.hid (show rightP m 5 l = (match lengthP m (l.getD 1 0) with | some n => decide (l.getD 2 0 ≤ n) && decide (l.getD 3 0 ≤ n - l.getD 2 0) | none => false) by
      unfold rightP; rw [if_pos rfl, decide_eq_true hn]; rfl)
    obtain ⟨x, hxe⟩ : ∃ x, l.getD 1 0 = x := ⟨_, rfl⟩
    obtain ⟨y, hye⟩ : ∃ y, l.getD 2 0 = y := ⟨_, rfl⟩
    obtain ⟨z, hze⟩ : ∃ z, l.getD 3 0 = z := ⟨_, rfl⟩
    rw [hxe] at k1 hx HE
    rw [hye] at k2 HE
    rw [hze] at k3 hz HE
    clear hxe hye hze hn
    go_enter Tryz.func87, Tryz.ntmps87
    go_wp2_with fail
    refine (length_any m _ x _ HM.out hx).mono ?_
    rintro e w1 ⟨he, hb⟩
    unfold LenEnd at he
    subst he
    have up := fun {p : Addr} {v : Value} (q : w.cell? p = some v) => (hb.cell (World.block_lt_of_cell? w _ q)).trans q
    have j2 := up k2
    have j3 := up k3
    have HB := Lib.hid hb
    clear hb up
    cases hl : lengthP m x with
    | none =>
      rw [hl] at HE
      have HE := Lib.hid (show rightP m 5 l = false from HE.out)
      clear hl
      go_wp2_with fail
      go_quiet (fail)
      go_wp2_with fail
      go_ret
      exact ⟨by rw [HE.out]; rfl, HB.out.trans ⟨rfl, rfl, rfl, Nat.le_refl _, fun _ _ => rfl⟩⟩
    | some n =>
      rw [hl] at HE
      have HE := Lib.hid (show rightP m 5 l = (decide (y ≤ n) && decide (z ≤ n - y)) from HE.out)
      have hn4 := lengthP_le hl
      have q5 : IntKind.u64.wrap (n : Int) = (n : Int) := by rw [IntKind.wrap_u64]; omega
      clear hl
      by_cases hy : y ≤ n
      · have q6 : (y : Int) ≤ (n : Int) := by omega
        have q7 : decide ((y : Int) ≤ (n : Int)) = true := decide_eq_true q6
        have q8 : IntKind.u64.wrap ((n : Int) - (y : Int)) = (n : Int) - (y : Int) := by rw [IntKind.wrap_u64]; omega
        have q9 : decide (y ≤ n) = true := decide_eq_true hy
        rw [decide_eq_true hy] at HE
        have HY := Lib.hid hy
        go_wp2_with fail
        go_quiet (fail)
        go_wp2_with fail
        go_ret
        exact ⟨by rw [HE.out]; simp; have := HY.out; omega, HB.out.trans ⟨rfl, rfl, rfl, Nat.le_refl _, fun _ _ => rfl⟩⟩
      · have q6 : ¬ (y : Int) ≤ (n : Int) := by omega
        have q7 : decide ((y : Int) ≤ (n : Int)) = false := decide_eq_false q6
        have q9 : decide (y ≤ n) = false := decide_eq_false hy
        rw [decide_eq_false hy] at HE
        go_wp2_with fail
        go_quiet (fail)
        go_wp2_with fail
        go_ret
        exact ⟨by rw [HE.out]; rfl, HB.out.trans ⟨rfl, rfl, rfl, Nat.le_refl _, fun _ _ => rfl⟩⟩
  · have q1 : ((l.length : Int) != 4) = true := by simp; omega
    have HE := Lib.hid (show rightP m 5 l = false by unfold rightP; rw [if_pos rfl, decide_eq_false hn]; rfl)
    clear hn
    go_enter Tryz.func87, Tryz.ntmps87
    go_wp2_with fail
    go_ret
    exact ⟨by rw [HE.out]; rfl, Below.refl _ _⟩

theorem right_any (m : List Frg) (k : Int) (l : List Nat) (mv lv : Value) (w : World) (hk : 0 ≤ k ∧ k ≤ 5) (hm : RsAt w mv m) (h : Ws w lv l) (h1 : 1 ≤ l.length) :
    Calls Tryz.prog 87 #[mv, .int .i64 k, lv] w fun e w' => e = .returned (.bool (rightP m k l)) ∧ Below w.heap.size w w' := by
  have h : k = 0 ∨ k = 1 ∨ k = 2 ∨ k = 3 ∨ k = 4 ∨ k = 5 := by omega
  rcases h with rfl | rfl | rfl | rfl | rfl | rfl
  · exact right0 l mv lv w ‹_› h1
  · exact right1 l mv lv w ‹_› h1
  · exact right2 l mv lv w ‹_› h1
  · exact right3 l mv lv w ‹_› h1
  · exact right4 l mv lv w ‹_› h1
  · exact right5 m l mv lv w hm ‹_› h1

theorem headAt_le {m : List Frg} {a k : Int} {l : List Nat} (h : headAt m a = some (k, l)) : 0 ≤ k ∧ k ≤ 5 ∧ 1 ≤ l.length := by
  unfold headAt at h
  cases h1 : wordsP m a 1 with
  | none => rw [h1] at h; cases h
  | some x =>
    rw [h1] at h
    simp only [Option.bind_some] at h
    cases h2 : headP (x.getD 0 0) with
    | none => rw [h2] at h; cases h
    | some ks =>
      rw [h2] at h
      simp only [Option.bind_some] at h
      have hk := headP_le h2
      cases h3 : wordsP m a (ks.2 + 1) with
      | none => rw [h3] at h; cases h
      | some l' =>
        rw [h3] at h
        simp only [Option.map_some, Option.some.injEq, Prod.mk.injEq] at h
        obtain ⟨rfl, rfl⟩ := h
        have := wordsP_len h3 (by omega)
        omega

theorem object_any (m : List Frg) (mv : Value) (a t : Int) (w : World) (hm : RsAt w mv m) (ha : -9223372036854775808 ≤ a ∧ a ≤ 9223372036854775807) :
    Calls Tryz.prog 60 #[mv, .agg #[.int .i64 a, .int .i64 t]] w fun e w' => ObjEnd w' (objP m a t) e ∧ Below w.heap.size w w' := by
  have e : objP m a t = objR m (rightP m) a t := rfl
  rw [e]
  refine object_of m mv (rightP m) a t w hm ha fun _ k l lv w' hh _ hm' hl h1 => ?_
  have := headAt_le hh
  exact right_any m k l mv lv w' (by omega) hm' hl h1

end Go.Proofs.YtlmpmjhanpkcnaaGreat
