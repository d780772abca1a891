/-
  ScriptReads: the law's walk.
-/
import Derived.Test.YtohgkfnbjfhniaaDoorRp
import Derived.Test.YtohgkfnbjfhniaaDoorOv
import Derived.Test.YtohgkfnbjfhniaaDoorAx
namespace Go.Proofs.YtohgkfnbjfhniaaDoor
open Go.RowKit Sp

theorem linesP_sum : ∀ s : List UInt8, ((linesP s).map List.length).sum ≤ s.length
  | [] => by simp [linesP]
  | b :: r => by
    have ih := linesP_sum r
    by_cases hb : b = 10
    · subst hb; rw [linesP, if_pos rfl]; simp; omega
    · rw [linesP_ne hb]
      cases hq : linesP r with
      | nil => simp
      | cons x t => rw [hq] at ih; simp at ih ⊢; omega

theorem runP_grows : ∀ (ls : List (List UInt8)) (k : Nat) (st st' : St), runP k st ls = .inr st' → st'.b.length ≤ st.b.length + (ls.map List.length).sum ∧ st'.es.length ≤ st.es.length + (ls.map List.length).sum
  | [], _, st, st', h => by simp [runP] at h; subst h; simp
  | l :: r, k, st, st', h => by
    simp only [runP] at h
    cases hq : lineP st l with
    | none => rw [hq] at h; cases h
    | some s2 =>
      rw [hq] at h
      have h1 := lineP_grows hq
      have h2 := runP_grows r _ _ _ h
      simp only [List.map_cons, List.sum_cons]
      omega

/-- What a text is read as: bytes, configuration, events, the line that is refused, the error's number. -/
def outP (s : ByteArray) : List UInt8 × Three × List Three × Nat × Nat :=
  if 131072 < s.size then ([], (0, 0, 0), [], 0, 3)
  else match parseP s.toList with
    | .inl k => ([], (0, 0, 0), [], k, 8)
    | .inr st => (st.b, st.c, st.es, 0, 0)

/-- How a Parse ends, whichever. -/
def PO (w : World) (o : List UInt8 × Three × List Three × Nat × Nat) (e : Ending) (w' : World) : Prop :=
  ∃ vb ve, e = .returned (.tuple #[vb, .agg #[.int .i64 o.2.1.1, .int .i64 o.2.1.2.1, .int .i64 o.2.1.2.2], ve, .int .i64 o.2.2.2.1, .int .i64 o.2.2.2.2]) ∧
    w'.ownsRow w.heap.size 5 1 vb o.1.length (cs8 o.1) ∧ w'.ownsRow w.heap.size 61 3 ve o.2.2.1.length (flat3 o.2.2.1) ∧ (vb.ownBlock = none ∨ vb.ownBlock ≠ ve.ownBlock) ∧ Below w.heap.size w w'

theorem PO.of_end {w : World} {s : ByteArray} (hs : s.size ≤ 131072) {e : Ending} {w' : World} (h : ParseEnd w (parseP s.toList) e w') : PO w (outP s) e w' := by
  unfold outP
  rw [if_neg (by omega)]
  obtain ⟨h1, h2⟩ := h
  cases hp : parseP s.toList with
  | inl k =>
    rw [hp] at h1
    subst h1
    exact ⟨_, _, rfl, World.ownsRow_nil _ _ _ _, World.ownsRow_nil _ _ _ _, .inl rfl, h2⟩
  | inr st =>
    rw [hp] at h1
    obtain ⟨vb, ve, rfl, ob, oe, dd⟩ := h1
    exact ⟨vb, ve, rfl, ob, oe, dd, h2⟩

theorem PO.of_big {w : World} {s : ByteArray} (hs : 131072 < s.size) {e : Ending} {w' : World} (h : e = .returned (.tuple #[.slice none 0 0, .agg #[.int .i64 0, .int .i64 0, .int .i64 0], .slice none 0 0, .int .i64 0, .int .i64 3]) ∧ Below w.heap.size w w') : PO w (outP s) e w' := by
  unfold outP
  rw [if_pos hs]
  obtain ⟨rfl, h2⟩ := h
  exact ⟨_, _, rfl, World.ownsRow_nil _ _ _ _, World.ownsRow_nil _ _ _ _, .inl rfl, h2⟩

theorem parse_po (s : ByteArray) (w : World) (g : GW w) (h9 : 9 ≤ w.heap.size) : Calls Tryd.prog 17 #[.string s] w (PO w (outP s)) := by
  by_cases hs : 131072 < s.size
  · exact (parse_big s hs w).mono fun e w' h => PO.of_big hs h
  · exact (parse_any s (by omega) w g h9).mono fun e w' h => PO.of_end (by omega) h

theorem refParse_po (s : ByteArray) (w : World) : Calls Tryd.prog 18 #[.string s] w (PO w (outP s)) := by
  by_cases hs : 131072 < s.size
  · exact (refParse_big s hs w).mono fun e w' h => PO.of_big hs h
  · exact (refParse_any s (by omega) w).mono fun e w' h => PO.of_end (by omega) h

theorem outP_small {s : ByteArray} (hs : s.size ≤ 132000) : (outP s).1.length ≤ 132000 ∧ (outP s).2.2.1.length ≤ 132000 := by
  unfold outP
  split
  · simp
  · cases hp : parseP s.toList with
    | inl k => simp
    | inr st =>
      have h1 := runP_grows _ _ _ _ hp
      have h2 := linesP_sum s.toList
      rw [size_toList] at h2
      simp [St.zero] at h1 ⊢
      omega

theorem num_any (n : Int) (w : World) : Calls Tryd.prog 21 #[.int .i64 n] w fun e w' => e = .returned (.int .i64 n) ∧ w' = w := by
  go_enter Tryd.func21, Tryd.ntmps21
  go_wp2_with fail
  go_ret
  exact ⟨rfl, rfl⟩

theorem own_below {w w' : World} {base e size : Nat} {v : Value} {n : Nat} {xs : List Value} (h : w.ownsRow base e size v n xs) (hb : Below w.heap.size w w') : w'.ownsRow base e size v n xs :=
  Fr.own h (Fr.of_below hb) (fun k e q => by have := (h.lt k e).2; omega)

set_option maxRecDepth 100000 in
set_option maxHeartbeats 8000000 in
theorem reads_any (s : ByteArray) (w : World) (g : GW w) (h20 : 9 ≤ w.heap.size) : Calls Tryd.prog 4 #[.string s] w fun e w' => e = .returned (.bool true) ∧ Below w.heap.size w w' := by
  have HG := Lib.hid g
  clear g
  by_cases hs : 132000 < s.size
  · have q1 : (132000 : Int) < (s.size : Int) := by omega
    go_enter Tryd.func4, Tryd.ntmps4
    go_wp2_with fail
    refine (awake_any _ HG.out h20).mono ?_
    rintro e w1 ⟨rfl, hb⟩
    go_wp2_with fail
    go_ret
    exact ⟨rfl, hb⟩
  have q1 : ¬ (132000 : Int) < (s.size : Int) := by omega
  have hsm := outP_small (s := s) (by omega)
  obtain ⟨⟨lb, ⟨c0, c1, c2⟩, le, at_, er⟩, hout⟩ : ∃ o, outP s = o := ⟨_, rfl⟩
  rw [hout] at hsm
  obtain ⟨hl1, hl2⟩ := hsm
  simp only at hl1 hl2
  have HOUT := Lib.hid hout
  clear hout
  go_enter Tryd.func4, Tryd.ntmps4
  go_wp2_with fail
  refine (parse_po s w HG.out h20).mono ?_
  rintro e w1 h1
  rw [HOUT.out] at h1
  obtain ⟨vb, ve, rfl, ob, oe, dd, hb1⟩ := h1
  have OB1 := Lib.hid ob
  have OE1 := Lib.hid oe
  have DD := Lib.hid dd
  have B1 := Lib.hid hb1
  have hs1 := hb1.size
  clear ob oe dd hb1
  go_wp2_with fail
  have b1a := (Below.refl w1.heap.size w1).alloc (Nat.le_refl _) (.cells #[.int .i64 c0, .int .i64 c1, .int .i64 c2] 38)
  have B1a := Lib.hid (B1.out.trans (b1a.mono hs1))
  have OB1a := Lib.hid (own_below OB1.out b1a)
  have OE1a := Lib.hid (own_below OE1.out b1a)
  clear b1a
  refine (refParse_po s _).mono ?_
  rintro e w2 h2
  rw [HOUT.out] at h2
  obtain ⟨xb, xe, rfl, ob, oe, _, hb2⟩ := h2
  have d0 := hb2.cell (p := ⟨w1.heap.size, 0, none⟩) (by simp)
  have d1 := hb2.cell (p := ⟨w1.heap.size, 1, none⟩) (by simp)
  have d2 := hb2.cell (p := ⟨w1.heap.size, 2, none⟩) (by simp)
  simp [go_sem] at d0 d1 d2
  have hs2 := hb2.size
  have OX2 := Lib.hid ob
  have OY2 := Lib.hid oe
  have OB2 := Lib.hid (own_below OB1a.out hb2)
  have OE2 := Lib.hid (own_below OE1a.out hb2)
  have B2 := Lib.hid (B1a.out.trans (hb2.mono (by simp; omega)))
  simp at hs2
  clear hb2 ob oe
  have hlt : w1.heap.size < w2.heap.size := by omega
  go_wp2_with fail
  have b2a := (Below.refl w2.heap.size w2).alloc (Nat.le_refl _) (.cells #[.int .i64 c0, .int .i64 c1, .int .i64 c2] 38)
  refine (same_bytes vb xb lb lb _ ((Bs.of_own OB2.out).below b2a) ((Bs.of_own OX2.out).below b2a) (by omega) (by omega)).mono ?_
  rintro e w3 ⟨rfl, n3, rfl⟩
  simp only [decide_true]
  go_wp2_with fail
  have b3 := below_drewN b2a n3
  refine (same_events ve xe le le _ ((Es.of_own OE2.out).below b3) ((Es.of_own OY2.out).below b3) (by omega) (by omega)).mono ?_
  rintro e w4 ⟨rfl, n4, rfl⟩
  simp only [decide_true]
  have B4 := Lib.hid (below_drewN b2a (n3 + n4))
  clear b2a b3
  go_wp2_with fail
  refine (num_any _ _).mono ?_
  rintro e w5 ⟨rfl, rfl⟩
  go_wp2_with fail
  have OB4 := own_below OB2.out B4.out
  have OE4 := own_below OE2.out B4.out
  have OX4 := own_below OX2.out B4.out
  have OY4 := own_below OY2.out B4.out
  refine (over_bytes vb _ _ w.heap.size _ OB4 (by omega) (Nat.le_trans B2.out.size B4.out.size)).mono ?_
  rintro e w5 ⟨rfl, f5⟩
  have OE5 := Lib.hid (Fr.own OE4 f5 (fun k e q => by
    rcases DD.out with d | d
    · rw [d] at q; cases q
    · exact d (q.trans e.symm)))
  have OX5 := Lib.hid (Fr.own OX4 f5 (fun k e q => by have h1 := (OX2.out.lt k e).1; have h2 := (OB1.out.lt k q).2; simp at h1; omega))
  have OY5 := Lib.hid (Fr.own OY4 f5 (fun k e q => by have h1 := (OY2.out.lt k e).1; have h2 := (OB1.out.lt k q).2; simp at h1; omega))
  have B5 := Lib.hid (Fr.below (B2.out.trans (B4.out.mono B2.out.size)) f5 (fun i q => (OB1.out.lt i q).1) (Nat.le_trans B2.out.size B4.out.size))
  clear f5 OB4 OE4 OX4 OY4
  go_wp2_with fail
  refine (over_events ve _ _ w.heap.size _ OE5.out (by omega) B5.out.size).mono ?_
  rintro e w6 ⟨rfl, f6⟩
  have OX6 := Lib.hid (Fr.own OX5.out f6 (fun k e q => by have h1 := (OX2.out.lt k e).1; have h2 := (OE1.out.lt k q).2; simp at h1; omega))
  have OY6 := Lib.hid (Fr.own OY5.out f6 (fun k e q => by have h1 := (OY2.out.lt k e).1; have h2 := (OE1.out.lt k q).2; simp at h1; omega))
  have B6 := Lib.hid (Fr.below B5.out f6 (fun i q => (OE1.out.lt i q).1) B5.out.size)
  clear f6
  go_wp2_with fail
  refine (parse_po s w6 (HG.out.below B6.out h20) (Nat.le_trans h20 B6.out.size)).mono ?_
  rintro e w7 h7
  rw [HOUT.out] at h7
  obtain ⟨yb, ye, rfl, ob, oe, _, hb7⟩ := h7
  have OP7 := Lib.hid ob
  have OQ7 := Lib.hid oe
  have OX7 := Lib.hid (own_below OX6.out hb7)
  have OY7 := Lib.hid (own_below OY6.out hb7)
  have B7 := Lib.hid (B6.out.trans (hb7.mono B6.out.size))
  clear ob oe hb7
  go_wp2_with fail
  refine (same_bytes yb xb lb lb _ (Bs.of_own OP7.out) (Bs.of_own OX7.out) (by omega) (by omega)).mono ?_
  rintro e w8 ⟨rfl, n8, rfl⟩
  simp only [decide_true]
  go_wp2_with fail
  refine (same_events ye xe le le _ ((Es.of_own OQ7.out).drewN _) ((Es.of_own OY7.out).drewN _) (by omega) (by omega)).mono ?_
  rintro e w9 ⟨rfl, n9, rfl⟩
  simp only [decide_true]
  go_wp2_with fail
  have B9 := Lib.hid (below_drewN B7.out (n8 + n9))
  refine (awake_any _ (HG.out.below B9.out h20) (Nat.le_trans h20 B9.out.size)).mono ?_
  rintro e w10 ⟨rfl, hb10⟩
  have B10 := Lib.hid (B9.out.trans (hb10.mono B9.out.size))
  clear hb10
  go_wp2_with fail
  go_ret
  exact ⟨rfl, B10.out⟩

end Go.Proofs.YtohgkfnbjfhniaaDoor
