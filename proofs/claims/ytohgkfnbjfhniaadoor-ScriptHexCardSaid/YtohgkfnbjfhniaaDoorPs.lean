/-
  ScriptPrints: the law's walk.
-/
import Derived.Test.YtohgkfnbjfhniaaDoorRq
import Derived.Test.YtohgkfnbjfhniaaDoorBk
namespace Go.Proofs.YtohgkfnbjfhniaaDoor
open Go.RowKit Sp

set_option maxHeartbeats 4000000 in
set_option maxRecDepth 100000 in
theorem prints_any (vb : Value) (b : List UInt8) (c0 c1 c2 : Int) (ve : Value) (es : List Three) (w : World) (g : GW w) (h9 : 9 ≤ w.heap.size) (hb : Bs w vb b) (he : Es w ve es)
    (hc : In64 c0 ∧ In64 c1 ∧ In64 c2) (hes : ∀ e ∈ es, In64 e.1 ∧ In64 e.2.1 ∧ In64 e.2.2) :
    Calls Tryd.prog 6 #[vb, .agg #[.int .i64 c0, .int .i64 c1, .int .i64 c2], ve] w fun e w' => e = .returned (.bool true) ∧ Below w.heap.size w w' := by
  have HB := Lib.hid hb
  have HE := Lib.hid he
  have HC := Lib.hid hc
  have HES := Lib.hid hes
  obtain ⟨ba, bcap, rfl, hbc⟩ := hb
  obtain ⟨ea, ecap, rfl, hec⟩ := he
  have b1 : Below w.heap.size w (w.alloc (.cells #[.int .i64 c0, .int .i64 c1, .int .i64 c2] 38)) := (Below.refl _ _).alloc (Nat.le_refl _) _
  have B1 := Lib.hid b1
  have HG0 := Lib.hid g
  have HG1 := Lib.hid (g.below b1 h9)
  clear hbc hec b1 g hc hes
  have hawk : (70000 < b.length ∨ 100 < es.length) ∨ (b.length ≤ 70000 ∧ es.length ≤ 100) := by omega
  rcases hawk with hawk | ⟨h1, h2⟩
  · have hsplit : (70000 : Int) < (b.length : Int) ∨ (¬ (70000 : Int) < (b.length : Int) ∧ (100 : Int) < (es.length : Int)) := by omega
    rcases hsplit with q1 | ⟨q1, q2⟩
    all_goals
      go_enter Tryd.func6, Tryd.ntmps6
      go_wp2_with fail
      refine (awake_any _ HG1.out (by simp; omega)).mono ?_
      rintro e w1 ⟨rfl, hb1⟩
      have B2 := Lib.hid (B1.out.trans (hb1.mono (by simp)))
      clear hb1
      go_wp2_with fail
      go_ret
      exact ⟨rfl, B2.out⟩
  · have q1 : ¬ (70000 : Int) < (b.length : Int) := by omega
    have q2 : ¬ (100 : Int) < (es.length : Int) := by omega
    obtain ⟨T, hT⟩ : ∃ T : ByteArray, (⟨(printP b (c0, c1, c2) es).1.toArray⟩ : ByteArray) = T := ⟨_, rfl⟩
    obtain ⟨N, hN⟩ : ∃ N, (printP b (c0, c1, c2) es).2 = N := ⟨_, rfl⟩
    have HT := Lib.hid hT
    have HN := Lib.hid hN
    clear hT hN
    go_enter Tryd.func6, Tryd.ntmps6
    go_wp2_with fail
    refine (print_any _ _ b c0 c1 c2 es _ HG1.out (by simp; omega) (HB.out.below B1.out) (HE.out.below B1.out) (by omega) (by omega) HC.out HES.out).mono ?_
    rintro e w2 ⟨he2, hb2⟩
    rw [HT.out, HN.out] at he2
    subst he2
    have k0 := hb2.cell (p := ⟨w.heap.size, 0, none⟩) (by simp)
    have k1 := hb2.cell (p := ⟨w.heap.size, 1, none⟩) (by simp)
    have k2 := hb2.cell (p := ⟨w.heap.size, 2, none⟩) (by simp)
    simp [go_sem] at k0 k1 k2
    have B2 := Lib.hid (B1.out.trans (hb2.mono (by simp)))
    clear hb2
    go_wp2_with fail
    refine (refPrint_any _ _ b c0 c1 c2 es _ (HB.out.below B2.out) (HE.out.below B2.out) (by omega) (by omega) HC.out HES.out).mono ?_
    rintro e w3 ⟨he3, hb3⟩
    rw [HT.out, HN.out] at he3
    subst he3
    have B3 := Lib.hid (B2.out.trans (hb3.mono B2.out.size))
    clear hb3 k0 k1 k2
    go_wp2_with fail
    refine (num_any _ _).mono ?_
    rintro e w4 ⟨rfl, rfl⟩
    go_wp2_with fail
    refine (awake_any _ (HG0.out.below B3.out h9) (Nat.le_trans h9 B3.out.size)).mono ?_
    rintro e w5 ⟨rfl, hb5⟩
    have B5 := Lib.hid (B3.out.trans (hb5.mono B3.out.size))
    clear hb5
    go_wp2_with fail
    go_ret
    exact ⟨rfl, B5.out⟩

end Go.Proofs.YtohgkfnbjfhniaaDoor
