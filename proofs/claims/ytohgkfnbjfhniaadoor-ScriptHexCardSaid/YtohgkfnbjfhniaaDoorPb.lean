/-
  ScriptBack: the law's walk.
-/
import Derived.Test.YtohgkfnbjfhniaaDoorPs
namespace Go.Proofs.YtohgkfnbjfhniaaDoor
open Go.RowKit Sp

theorem outP_size (s : ByteArray) : (outP s).1.length ≤ s.size ∧ (outP s).2.2.1.length ≤ s.size := by
  unfold outP
  split
  · simp
  · cases hp : parseP s.toList with
    | inl k => simp
    | inr st =>
      have h1 := runP_grows _ _ _ _ hp
      have h2 := linesP_sum s.toList
      rw [size_toList] at h2
      simp [St.zero] at h1 ⊢
      omega

theorem num3_in64 {c : Three} (h : Num3 c) : In64 c.1 ∧ In64 c.2.1 ∧ In64 c.2.2 := by
  unfold Num3 at h
  unfold In64
  omega

set_option maxHeartbeats 8000000 in
set_option maxRecDepth 100000 in
theorem back_any (vb : Value) (b : List UInt8) (c0 c1 c2 : Int) (ve : Value) (es : List Three) (s : ByteArray) (w : World) (g : GW w) (h9 : 9 ≤ w.heap.size) (hb : Bs w vb b) (he : Es w ve es)
    (hc : In64 c0 ∧ In64 c1 ∧ In64 c2) (hes : ∀ e ∈ es, In64 e.1 ∧ In64 e.2.1 ∧ In64 e.2.2) :
    Calls Tryd.prog 7 #[vb, .agg #[.int .i64 c0, .int .i64 c1, .int .i64 c2], ve, .string s] w fun e w' => e = .returned (.bool true) ∧ Below w.heap.size w w' := by
  have HB := Lib.hid hb
  have HE := Lib.hid he
  have HC := Lib.hid hc
  have HES := Lib.hid hes
  obtain ⟨ba, bcap, rfl, hbc⟩ := hb
  obtain ⟨ea, ecap, rfl, hec⟩ := he
  have b1 : Below w.heap.size w (w.alloc (.cells #[.int .i64 c0, .int .i64 c1, .int .i64 c2] 38)) := (Below.refl _ _).alloc (Nat.le_refl _) _
  have B1 := Lib.hid b1
  have HG0 := Lib.hid g
  have HG1 := Lib.hid (g.below b1 h9)
  clear hbc hec b1 g hc hes
  have hawk : (4000 < b.length ∨ 100 < es.length ∨ 20000 < s.size) ∨ (b.length ≤ 4000 ∧ es.length ≤ 100 ∧ s.size ≤ 20000) := by omega
  rcases hawk with hawk | ⟨h1, h2, h3⟩
  · have hsplit : (4000 : Int) < (b.length : Int) ∨ (¬ (4000 : Int) < (b.length : Int) ∧ (100 : Int) < (es.length : Int)) ∨ (¬ (4000 : Int) < (b.length : Int) ∧ ¬ (100 : Int) < (es.length : Int) ∧ (20000 : Int) < (s.size : Int)) := by omega
    rcases hsplit with q1 | ⟨q1, q2⟩ | ⟨q1, q2, q3⟩
    all_goals
      go_enter Tryd.func7, Tryd.ntmps7
      go_wp2_with fail
      refine (awake_any _ HG1.out (by simp; omega)).mono ?_
      rintro e w1 ⟨rfl, hb1⟩
      have B2 := Lib.hid (B1.out.trans (hb1.mono (by simp)))
      clear hb1
      go_wp2_with fail
      go_ret
      exact ⟨rfl, B2.out⟩
  · have q1 : ¬ (4000 : Int) < (b.length : Int) := by omega
    have q2 : ¬ (100 : Int) < (es.length : Int) := by omega
    have q3 : ¬ (20000 : Int) < (s.size : Int) := by omega
    obtain ⟨T, hT⟩ : ∃ T : ByteArray, (⟨(printP b (c0, c1, c2) es).1.toArray⟩ : ByteArray) = T := ⟨_, rfl⟩
    obtain ⟨N, hN⟩ : ∃ N, (printP b (c0, c1, c2) es).2 = N := ⟨_, rfl⟩
    have HT := Lib.hid hT
    have HN := Lib.hid hN
    have HO := Lib.hid (fun h : (printP b (c0, c1, c2) es).2 = 0 => outP_print (t := T) (by rw [← hT, toList_mk]) h)
    have HNE := Lib.hid (show N ≠ 0 → T = ⟨#[]⟩ from fun h => by rw [← hT, printP_bad (by rw [hN]; exact h)])
    have hsz := outP_size s
    have hnm := outP_num s
    have hre := outP_err (s := s)
    obtain ⟨⟨lb, ⟨d0, d1, d2⟩, le, at_, er⟩, hout⟩ : ∃ o, outP s = o := ⟨_, rfl⟩
    rw [hout] at hsz hnm hre
    obtain ⟨hl1, hl2⟩ : lb.length ≤ 100000 ∧ le.length ≤ 1000000 := by
      obtain ⟨x, y⟩ := hsz
      simp only at x y
      omega
    have HOUT := Lib.hid hout
    have HER := Lib.hid (show er ≠ 0 → lb = [] from hre)
    have HD := Lib.hid (show In64 d0 ∧ In64 d1 ∧ In64 d2 from num3_in64 hnm.1)
    have HLE := Lib.hid (show ∀ e ∈ le, In64 e.1 ∧ In64 e.2.1 ∧ In64 e.2.2 from fun e h => num3_in64 (hnm.2 e h))
    obtain ⟨T2, hT2⟩ : ∃ T : ByteArray, (⟨(printP lb (d0, d1, d2) le).1.toArray⟩ : ByteArray) = T := ⟨_, rfl⟩
    obtain ⟨N2, hN2⟩ : ∃ N, (printP lb (d0, d1, d2) le).2 = N := ⟨_, rfl⟩
    have HT2 := Lib.hid hT2
    have HN2 := Lib.hid hN2
    have HO2 := Lib.hid (fun h : (printP lb (d0, d1, d2) le).2 = 0 => outP_print (t := T2) (by rw [← hT2, toList_mk]) h)
    have HF2 := Lib.hid (show N2 = 0 ∨ N2 = 3 by rw [← hN2]; exact printP_full hnm.1 hnm.2)
    clear hT hN hT2 hN2 hout hnm hre hsz
    go_enter Tryd.func7, Tryd.ntmps7
    go_wp2_with fail
    refine (print_any _ _ b c0 c1 c2 es _ HG1.out (by simp; omega) (HB.out.below B1.out) (HE.out.below B1.out) (by omega) (by omega) HC.out HES.out).mono ?_
    rintro e w2 ⟨he2, hb2⟩
    rw [HT.out, HN.out] at he2
    subst he2
    have k0 := hb2.cell (p := ⟨w.heap.size, 0, none⟩) (by simp)
    have k1 := hb2.cell (p := ⟨w.heap.size, 1, none⟩) (by simp)
    have k2 := hb2.cell (p := ⟨w.heap.size, 2, none⟩) (by simp)
    simp [go_sem] at k0 k1 k2
    have B2 := Lib.hid (B1.out.trans (hb2.mono (by simp)))
    have s2 := hb2.size
    simp at s2
    have hlt2 : w.heap.size < w2.heap.size := by omega
    clear hb2
    by_cases hN0 : N = 0
    · subst hN0
      go_wp2_with fail
      refine (parse_po T w2 (HG0.out.below B2.out h9) (Nat.le_trans h9 B2.out.size)).mono ?_
      rintro e w3 h3
      rw [HO.out HN.out] at h3
      obtain ⟨xb, xe, rfl, ob, oe, dd, hb3⟩ := h3
      have OX3 := Lib.hid ob
      have OF3 := Lib.hid oe
      have j0 := (hb3.cell (p := ⟨w.heap.size, 0, none⟩) hlt2).trans k0
      have j1 := (hb3.cell (p := ⟨w.heap.size, 1, none⟩) hlt2).trans k1
      have j2 := (hb3.cell (p := ⟨w.heap.size, 2, none⟩) hlt2).trans k2
      have B3 := Lib.hid (B2.out.trans (hb3.mono B2.out.size))
      have hs3 := hb3.size
      have hlt3 : w.heap.size < w3.heap.size := by omega
      clear ob oe dd hb3 k0 k1 k2
      go_wp2_with fail
      have b4 := (Below.refl w3.heap.size w3).alloc (Nat.le_refl _) (.cells #[.int .i64 c0, .int .i64 c1, .int .i64 c2] 38)
      refine (same_events _ xe es es _ (HE.out.below (B3.out.trans (b4.mono B3.out.size))) ((Es.of_own OF3.out).below b4) (by omega) (by omega)).mono ?_
      rintro e w4 ⟨rfl, n4, rfl⟩
      simp only [decide_true]
      go_wp2_with fail
      have b5 := below_drewN b4 n4
      refine (same_bytes xb _ b b _ ((Bs.of_own OX3.out).below b5) (HB.out.below (B3.out.trans (b5.mono B3.out.size))) (by omega) (by omega)).mono ?_
      rintro e w5 ⟨rfl, n5, rfl⟩
      simp only [decide_true]
      have BT := Lib.hid (B3.out.trans ((below_drewN b4 (n4 + n5)).mono B3.out.size))
      clear b4 b5 j0 j1 j2
      go_wp2_with fail
      refine (parse_po s _ (HG0.out.below BT.out h9) (Nat.le_trans h9 BT.out.size)).mono ?_
      rintro e w5 h5
      rw [HOUT.out] at h5
      obtain ⟨yb, ye, rfl, ob, oe, dd, hb5⟩ := h5
      have OB5 := Lib.hid ob
      have OE5 := Lib.hid oe
      have B5 := Lib.hid (BT.out.trans (hb5.mono BT.out.size))
      clear ob oe dd hb5
      have b6 := (Below.refl w5.heap.size w5).alloc (Nat.le_refl _) (.cells #[.int .i64 d0, .int .i64 d1, .int .i64 d2] 38)
      have B6 := Lib.hid (B5.out.trans (b6.mono B5.out.size))
      have OB6 := Lib.hid (own_below OB5.out b6)
      have OE6 := Lib.hid (own_below OE5.out b6)
      have s6 : w.heap.size ≤ w5.heap.size := B5.out.size
      clear b6
      by_cases her : er = 0
      · subst her
        obtain ⟨ya, ycap, rfl⟩ := own_form OB5.out
        go_wp2_with fail
        refine (print_any _ ye lb d0 d1 d2 le _ (HG0.out.below B6.out h9) (Nat.le_trans h9 B6.out.size) (Bs.of_own OB6.out) (Es.of_own OE6.out) hl1 hl2 HD.out HLE.out).mono ?_
        rintro e w7 ⟨he7, hb7⟩
        rw [HT2.out, HN2.out] at he7
        subst he7
        have k0 := hb7.cell (p := ⟨w5.heap.size, 0, none⟩) (by simp)
        have k1 := hb7.cell (p := ⟨w5.heap.size, 1, none⟩) (by simp)
        have k2 := hb7.cell (p := ⟨w5.heap.size, 2, none⟩) (by simp)
        simp [go_sem] at k0 k1 k2
        have OB7 := Lib.hid (own_below OB6.out hb7)
        have OE7 := Lib.hid (own_below OE6.out hb7)
        have B7 := Lib.hid (B6.out.trans (hb7.mono B6.out.size))
        have s7 := hb7.size
        simp at s7
        have hlt7 : w5.heap.size < w7.heap.size := by omega
        clear hb7
        go_wp2_with fail
        refine (parse_po T2 w7 (HG0.out.below B7.out h9) (Nat.le_trans h9 B7.out.size)).mono ?_
        rintro e w8 h8
        by_cases hn2 : N2 = 0
        · subst hn2
          rw [HO2.out HN2.out] at h8
          obtain ⟨zb, ze, rfl, ob, oe, _, hb8⟩ := h8
          have OZ8 := Lib.hid ob
          have OF8 := Lib.hid oe
          have j0 := (hb8.cell (p := ⟨w5.heap.size, 0, none⟩) hlt7).trans k0
          have j1 := (hb8.cell (p := ⟨w5.heap.size, 1, none⟩) hlt7).trans k1
          have j2 := (hb8.cell (p := ⟨w5.heap.size, 2, none⟩) hlt7).trans k2
          have OB8 := Lib.hid (own_below OB7.out hb8)
          have OE8 := Lib.hid (own_below OE7.out hb8)
          have B8 := Lib.hid (B7.out.trans (hb8.mono B7.out.size))
          have hs8 := hb8.size
          have hlt8 : w5.heap.size < w8.heap.size := by omega
          clear ob oe hb8 k0 k1 k2
          go_wp2_with fail
          have b9 := (Below.refl w8.heap.size w8).alloc (Nat.le_refl _) (.cells #[.int .i64 d0, .int .i64 d1, .int .i64 d2] 38)
          refine (same_events ze ye le le _ ((Es.of_own OF8.out).below b9) ((Es.of_own OE8.out).below b9) (by omega) (by omega)).mono ?_
          rintro e w9 ⟨rfl, n9, rfl⟩
          simp only [decide_true]
          go_wp2_with fail
          have b10 := below_drewN b9 n9
          refine (same_bytes zb _ lb lb _ ((Bs.of_own OZ8.out).below b10) ((Bs.of_own OB8.out).below b10) (by omega) (by omega)).mono ?_
          rintro e w10 ⟨rfl, n10, rfl⟩
          simp only [decide_true]
          have B10 := Lib.hid (B8.out.trans ((below_drewN b9 (n9 + n10)).mono B8.out.size))
          clear b9 b10
          go_wp2_with fail
          refine (awake_any _ (HG0.out.below B10.out h9) (Nat.le_trans h9 B10.out.size)).mono ?_
          rintro e w11 ⟨rfl, hb11⟩
          have B11 := Lib.hid (B10.out.trans (hb11.mono B10.out.size))
          clear hb11
          go_wp2_with fail
          go_ret
          exact ⟨rfl, B11.out⟩
        · obtain rfl : N2 = 3 := by have := HF2.out; omega
          obtain ⟨⟨zl, ⟨f0, f1, f2⟩, zf, za, zr⟩, ho⟩ : ∃ o, outP T2 = o := ⟨_, rfl⟩
          rw [ho] at h8
          obtain ⟨zb, ze, rfl, _, _, _, hb8⟩ := h8
          have B8 := Lib.hid (B7.out.trans (hb8.mono B7.out.size))
          have b9 := Lib.hid ((Below.refl w8.heap.size w8).alloc (Nat.le_refl _) (.cells #[.int .i64 f0, .int .i64 f1, .int .i64 f2] 38))
          have B9 := Lib.hid (B8.out.trans (b9.out.mono B8.out.size))
          clear hb8 ho k0 k1 k2
          go_wp2_with fail
          refine (awake_any _ (HG0.out.below B9.out h9) (Nat.le_trans h9 B9.out.size)).mono ?_
          rintro e w11 ⟨rfl, hb11⟩
          have B11 := Lib.hid (B9.out.trans (hb11.mono B9.out.size))
          clear hb11
          go_wp2_with fail
          go_ret
          exact ⟨rfl, B11.out⟩
      · obtain rfl : lb = [] := HER.out her
        obtain ⟨ya, ycap, rfl⟩ := own_form OB5.out
        have qe : ((er : Int) == 0) = false := by simp; omega
        have qe2 : ¬ (er : Int) = 0 := by omega
        go_wp2_with fail
        refine (awake_any _ (HG0.out.below B6.out h9) (Nat.le_trans h9 B6.out.size)).mono ?_
        rintro e w11 ⟨rfl, hb11⟩
        have B11 := Lib.hid (B6.out.trans (hb11.mono B6.out.size))
        clear hb11
        go_wp2_with fail
        go_ret
        exact ⟨rfl, B11.out⟩
    · have qn : ((N : Int) == 0) = false := by simp; omega
      have qn2 : ¬ (N : Int) = 0 := by omega
      obtain rfl := HNE.out hN0
      have BT := B2
      clear k0 k1 k2
      go_wp2_with fail
      refine (parse_po s _ (HG0.out.below BT.out h9) (Nat.le_trans h9 BT.out.size)).mono ?_
      rintro e w5 h5
      rw [HOUT.out] at h5
      obtain ⟨yb, ye, rfl, ob, oe, dd, hb5⟩ := h5
      have OB5 := Lib.hid ob
      have OE5 := Lib.hid oe
      have B5 := Lib.hid (BT.out.trans (hb5.mono BT.out.size))
      clear ob oe dd hb5
      have b6 := (Below.refl w5.heap.size w5).alloc (Nat.le_refl _) (.cells #[.int .i64 d0, .int .i64 d1, .int .i64 d2] 38)
      have B6 := Lib.hid (B5.out.trans (b6.mono B5.out.size))
      have OB6 := Lib.hid (own_below OB5.out b6)
      have OE6 := Lib.hid (own_below OE5.out b6)
      have s6 : w.heap.size ≤ w5.heap.size := B5.out.size
      clear b6
      by_cases her : er = 0
      · subst her
        obtain ⟨ya, ycap, rfl⟩ := own_form OB5.out
        go_wp2_with fail
        refine (print_any _ ye lb d0 d1 d2 le _ (HG0.out.below B6.out h9) (Nat.le_trans h9 B6.out.size) (Bs.of_own OB6.out) (Es.of_own OE6.out) hl1 hl2 HD.out HLE.out).mono ?_
        rintro e w7 ⟨he7, hb7⟩
        rw [HT2.out, HN2.out] at he7
        subst he7
        have k0 := hb7.cell (p := ⟨w5.heap.size, 0, none⟩) (by simp)
        have k1 := hb7.cell (p := ⟨w5.heap.size, 1, none⟩) (by simp)
        have k2 := hb7.cell (p := ⟨w5.heap.size, 2, none⟩) (by simp)
        simp [go_sem] at k0 k1 k2
        have OB7 := Lib.hid (own_below OB6.out hb7)
        have OE7 := Lib.hid (own_below OE6.out hb7)
        have B7 := Lib.hid (B6.out.trans (hb7.mono B6.out.size))
        have s7 := hb7.size
        simp at s7
        have hlt7 : w5.heap.size < w7.heap.size := by omega
        clear hb7
        go_wp2_with fail
        refine (parse_po T2 w7 (HG0.out.below B7.out h9) (Nat.le_trans h9 B7.out.size)).mono ?_
        rintro e w8 h8
        by_cases hn2 : N2 = 0
        · subst hn2
          rw [HO2.out HN2.out] at h8
          obtain ⟨zb, ze, rfl, ob, oe, _, hb8⟩ := h8
          have OZ8 := Lib.hid ob
          have OF8 := Lib.hid oe
          have j0 := (hb8.cell (p := ⟨w5.heap.size, 0, none⟩) hlt7).trans k0
          have j1 := (hb8.cell (p := ⟨w5.heap.size, 1, none⟩) hlt7).trans k1
          have j2 := (hb8.cell (p := ⟨w5.heap.size, 2, none⟩) hlt7).trans k2
          have OB8 := Lib.hid (own_below OB7.out hb8)
          have OE8 := Lib.hid (own_below OE7.out hb8)
          have B8 := Lib.hid (B7.out.trans (hb8.mono B7.out.size))
          have hs8 := hb8.size
          have hlt8 : w5.heap.size < w8.heap.size := by omega
          clear ob oe hb8 k0 k1 k2
          go_wp2_with fail
          have b9 := (Below.refl w8.heap.size w8).alloc (Nat.le_refl _) (.cells #[.int .i64 d0, .int .i64 d1, .int .i64 d2] 38)
          refine (same_events ze ye le le _ ((Es.of_own OF8.out).below b9) ((Es.of_own OE8.out).below b9) (by omega) (by omega)).mono ?_
          rintro e w9 ⟨rfl, n9, rfl⟩
          simp only [decide_true]
          go_wp2_with fail
          have b10 := below_drewN b9 n9
          refine (same_bytes zb _ lb lb _ ((Bs.of_own OZ8.out).below b10) ((Bs.of_own OB8.out).below b10) (by omega) (by omega)).mono ?_
          rintro e w10 ⟨rfl, n10, rfl⟩
          simp only [decide_true]
          have B10 := Lib.hid (B8.out.trans ((below_drewN b9 (n9 + n10)).mono B8.out.size))
          clear b9 b10
          go_wp2_with fail
          refine (awake_any _ (HG0.out.below B10.out h9) (Nat.le_trans h9 B10.out.size)).mono ?_
          rintro e w11 ⟨rfl, hb11⟩
          have B11 := Lib.hid (B10.out.trans (hb11.mono B10.out.size))
          clear hb11
          go_wp2_with fail
          go_ret
          exact ⟨rfl, B11.out⟩
        · obtain rfl : N2 = 3 := by have := HF2.out; omega
          obtain ⟨⟨zl, ⟨f0, f1, f2⟩, zf, za, zr⟩, ho⟩ : ∃ o, outP T2 = o := ⟨_, rfl⟩
          rw [ho] at h8
          obtain ⟨zb, ze, rfl, _, _, _, hb8⟩ := h8
          have B8 := Lib.hid (B7.out.trans (hb8.mono B7.out.size))
          have b9 := Lib.hid ((Below.refl w8.heap.size w8).alloc (Nat.le_refl _) (.cells #[.int .i64 f0, .int .i64 f1, .int .i64 f2] 38))
          have B9 := Lib.hid (B8.out.trans (b9.out.mono B8.out.size))
          clear hb8 ho k0 k1 k2
          go_wp2_with fail
          refine (awake_any _ (HG0.out.below B9.out h9) (Nat.le_trans h9 B9.out.size)).mono ?_
          rintro e w11 ⟨rfl, hb11⟩
          have B11 := Lib.hid (B9.out.trans (hb11.mono B9.out.size))
          clear hb11
          go_wp2_with fail
          go_ret
          exact ⟨rfl, B11.out⟩
      · obtain rfl : lb = [] := HER.out her
        obtain ⟨ya, ycap, rfl⟩ := own_form OB5.out
        have qe : ((er : Int) == 0) = false := by simp; omega
        have qe2 : ¬ (er : Int) = 0 := by omega
        go_wp2_with fail
        refine (awake_any _ (HG0.out.below B6.out h9) (Nat.le_trans h9 B6.out.size)).mono ?_
        rintro e w11 ⟨rfl, hb11⟩
        have B11 := Lib.hid (B6.out.trans (hb11.mono B6.out.size))
        clear hb11
        go_wp2_with fail
        go_ret
        exact ⟨rfl, B11.out⟩

end Go.Proofs.YtohgkfnbjfhniaaDoor
