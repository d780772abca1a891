/-
  ScriptHex: a term shown by both; the law's walk.
-/
import Derived.Test.YtohgkfnbjfhniaaDoorTv
import Derived.Test.YtohgkfnbjfhniaaDoorTr
import Derived.Test.YtohgkfnbjfhniaaDoorBk
namespace Go.Proofs.YtohgkfnbjfhniaaDoor
open Go.RowKit Sp

/-- What a term's bytes are, where it may be. -/
def layP (t : Tm) : List UInt8 := if t.may then t.lay else []

theorem layP_len (t : Tm) : (layP t).length ≤ 200000 := by
  unfold layP
  split
  · rename_i h
    unfold Tm.may at h
    simp only [Bool.and_eq_true, decide_eq_true_eq] at h
    have := lay_len t h.2
    omega
  · simp

def LayEnd (w : World) (t : Tm) (e : Ending) (w' : World) : Prop := ∃ (v : Value) (er : Int), e = .returned (.tuple #[v, .int .i64 er]) ∧ w'.ownsRow w.heap.size 5 1 v (layP t).length (cs8 (layP t)) ∧ Below w.heap.size w w'

theorem row_nil (w : World) (base : Nat) : Row w base (.slice none 0 0) [] := World.ownsRow_nil _ _ _ _

set_option maxHeartbeats 4000000 in
set_option maxRecDepth 100000 in
theorem lays_any (t : Tm) (v : Value) (w : World) (h : TmAt w v t) (hsm : t.small = true) : Calls Tryd.prog 30 #[v] w (LayEnd w t) := by
  obtain ⟨k, n, neg, mag, bits, bytes, args, mv, av, he, rfl, _, _, hms, _, _, _, _, hts⟩ := h.open
  obtain ⟨ma, mcap, rfl, _⟩ := hms
  obtain ⟨_, a, acap, rfl, _⟩ := hts
  have b1 := (Below.refl w.heap.size w).alloc (Nat.le_refl _) (.cells #[.int .i64 k, .int .i64 n, .bool neg, .slice ma mag.length mcap, .int .u64 bits, .string bytes, .slice a args.length acap] 28)
  have B1 := Lib.hid b1
  have HT := Lib.hid h
  clear b1 h he
  unfold termV
  go_enter Tryd.func30, Tryd.ntmps30
  go_wp2_with fail
  refine (may_any t _ _ (HT.out.lift B1.out) hsm).mono ?_
  rintro e w1 ⟨rfl, hb1⟩
  have d0 := seven_back hb1 0
  have d1 := seven_back hb1 1
  have d2 := seven_back hb1 2
  have d3 := seven_back hb1 3
  have d4 := seven_back hb1 4
  have d5 := seven_back hb1 5
  have d6 := seven_back hb1 6
  simp at d0 d1 d2 d3 d4 d5 d6
  have B2 := Lib.hid (B1.out.trans (hb1.mono B1.out.size))
  clear hb1
  cases hmy : t.may with
  | true =>
    have hr : t.right = true := by
      unfold Tm.may at hmy
      simp only [Bool.and_eq_true] at hmy
      exact hmy.2
    have HLP := Lib.hid (show layP t = t.lay by unfold layP; rw [if_pos hmy])
    have hlen : ([] : List UInt8).length + t.lay.length ≤ 1000000000 := by
      have h := layP_len t
      rw [HLP.out] at h
      simp only [List.length_nil]
      omega
    clear hmy
    go_wp2_with fail
    refine (lay_all t _ _ [] w.heap.size w w1 HT.out hr (row_nil _ _) hlen B2.out.size (Nat.le_refl _) B2.out).mono ?_
    rintro e w2 ⟨v2, rfl, hr2, ho2⟩
    have HR2 := Lib.hid hr2
    have B3 := Lib.hid (B2.out.trans (ho2.below (base := w.heap.size) (fun q e => by cases e) B2.out.size))
    clear hr2 ho2
    go_wp2_with fail
    go_ret2
    exact ⟨v2, 0, rfl, by rw [HLP.out]; simpa [Row] using HR2.out, B3.out⟩
  | false =>
    have HLP := Lib.hid (show layP t = [] by unfold layP; rw [if_neg (by simp [hmy])])
    clear hmy
    go_wp2_with fail
    go_ret2
    exact ⟨.slice none 0 0, 2, rfl, by rw [HLP.out]; exact World.ownsRow_nil _ _ _ _, B2.out⟩

set_option maxHeartbeats 4000000 in
set_option maxRecDepth 100000 in
theorem refLays_any (t : Tm) (v : Value) (w : World) (h : TmAt w v t) (hsm : t.small = true) : Calls Tryd.prog 31 #[v] w (LayEnd w t) := by
  obtain ⟨k, n, neg, mag, bits, bytes, args, mv, av, he, rfl, _, _, hms, _, _, _, _, hts⟩ := h.open
  obtain ⟨ma, mcap, rfl, _⟩ := hms
  obtain ⟨_, a, acap, rfl, _⟩ := hts
  have b1 := (Below.refl w.heap.size w).alloc (Nat.le_refl _) (.cells #[.int .i64 k, .int .i64 n, .bool neg, .slice ma mag.length mcap, .int .u64 bits, .string bytes, .slice a args.length acap] 28)
  have B1 := Lib.hid b1
  have HT := Lib.hid h
  clear b1 h he
  unfold termV
  go_enter Tryd.func31, Tryd.ntmps31
  go_wp2_with fail
  refine (refMay_any t _ _ (HT.out.lift B1.out) hsm).mono ?_
  rintro e w1 ⟨rfl, hb1⟩
  have d0 := seven_back hb1 0
  have d1 := seven_back hb1 1
  have d2 := seven_back hb1 2
  have d3 := seven_back hb1 3
  have d4 := seven_back hb1 4
  have d5 := seven_back hb1 5
  have d6 := seven_back hb1 6
  simp at d0 d1 d2 d3 d4 d5 d6
  have B2 := Lib.hid (B1.out.trans (hb1.mono B1.out.size))
  clear hb1
  cases hmy : t.may with
  | true =>
    have hr : t.right = true := by
      unfold Tm.may at hmy
      simp only [Bool.and_eq_true] at hmy
      exact hmy.2
    have HLP := Lib.hid (show layP t = t.lay by unfold layP; rw [if_pos hmy])
    have hlen : ([] : List UInt8).length + t.lay.length ≤ 1000000000 := by
      have h := layP_len t
      rw [HLP.out] at h
      simp only [List.length_nil]
      omega
    clear hmy
    go_wp2_with fail
    refine (reflay_all t _ _ [] w.heap.size w w1 HT.out hr (row_nil _ _) hlen B2.out.size (Nat.le_refl _) B2.out).mono ?_
    rintro e w2 ⟨v2, rfl, hr2, ho2⟩
    have HR2 := Lib.hid hr2
    have B3 := Lib.hid (B2.out.trans (ho2.below (base := w.heap.size) (fun q e => by cases e) B2.out.size))
    clear hr2 ho2
    go_wp2_with fail
    go_ret2
    exact ⟨v2, 0, rfl, by rw [HLP.out]; simpa [Row] using HR2.out, B3.out⟩
  | false =>
    have HLP := Lib.hid (show layP t = [] by unfold layP; rw [if_neg (by simp [hmy])])
    clear hmy
    go_wp2_with fail
    go_ret2
    exact ⟨.slice none 0 0, 2, rfl, by rw [HLP.out]; exact World.ownsRow_nil _ _ _ _, B2.out⟩

def ShowEnd (w : World) (t : Tm) (e : Ending) (w' : World) : Prop := e = .returned (.string ⟨(hexP (layP t)).toArray⟩) ∧ Below w.heap.size w w'

set_option maxHeartbeats 4000000 in
set_option maxRecDepth 100000 in
theorem show_any (t : Tm) (v : Value) (w : World) (h : TmAt w v t) (hsm : t.small = true) : Calls Tryd.prog 15 #[v] w (ShowEnd w t) := by
  obtain ⟨k, n, neg, mag, bits, bytes, args, mv, av, he, rfl, _, _, hms, _, _, _, _, hts⟩ := h.open
  obtain ⟨ma, mcap, rfl, _⟩ := hms
  obtain ⟨_, a, acap, rfl, _⟩ := hts
  have b1 := (Below.refl w.heap.size w).alloc (Nat.le_refl _) (.cells #[.int .i64 k, .int .i64 n, .bool neg, .slice ma mag.length mcap, .int .u64 bits, .string bytes, .slice a args.length acap] 28)
  have B1 := Lib.hid b1
  have HT := Lib.hid h
  clear b1 h he
  unfold termV
  go_enter Tryd.func15, Tryd.ntmps15
  go_wp2_with fail
  refine (lays_any t _ _ (HT.out.lift B1.out) hsm).mono ?_
  rintro e w1 ⟨v2, er, rfl, ho, hb1⟩
  have hcv := conv_own ho
  have B2 := Lib.hid (B1.out.trans (hb1.mono B1.out.size))
  have hll := layP_len t
  clear hb1 ho
  go_wp2_with fail
  refine (hex_any _ (by simp [ByteArray.size]; omega) _).mono ?_
  rintro e w2 ⟨rfl, hb2⟩
  have B3 := Lib.hid (B2.out.trans (hb2.mono B2.out.size))
  clear hb2
  go_wp2_with fail
  go_ret
  exact ⟨by simp only [toList_mk]; rfl, B3.out⟩

set_option maxHeartbeats 4000000 in
set_option maxRecDepth 100000 in
theorem refShow_any (t : Tm) (v : Value) (w : World) (h : TmAt w v t) (hsm : t.small = true) : Calls Tryd.prog 16 #[v] w (ShowEnd w t) := by
  obtain ⟨k, n, neg, mag, bits, bytes, args, mv, av, he, rfl, _, _, hms, _, _, _, _, hts⟩ := h.open
  obtain ⟨ma, mcap, rfl, _⟩ := hms
  obtain ⟨_, a, acap, rfl, _⟩ := hts
  have b1 := (Below.refl w.heap.size w).alloc (Nat.le_refl _) (.cells #[.int .i64 k, .int .i64 n, .bool neg, .slice ma mag.length mcap, .int .u64 bits, .string bytes, .slice a args.length acap] 28)
  have B1 := Lib.hid b1
  have HT := Lib.hid h
  clear b1 h he
  unfold termV
  go_enter Tryd.func16, Tryd.ntmps16
  go_wp2_with fail
  refine (refLays_any t _ _ (HT.out.lift B1.out) hsm).mono ?_
  rintro e w1 ⟨v2, er, rfl, ho, hb1⟩
  have hcv := conv_own ho
  have B2 := Lib.hid (B1.out.trans (hb1.mono B1.out.size))
  have hll := layP_len t
  clear hb1 ho
  go_wp2_with fail
  refine (refHex_any _ (by simp [ByteArray.size]; omega) _).mono ?_
  rintro e w2 ⟨rfl, hb2⟩
  have B3 := Lib.hid (B2.out.trans (hb2.mono B2.out.size))
  clear hb2
  go_wp2_with fail
  go_ret
  exact ⟨by simp only [toList_mk]; rfl, B3.out⟩

theorem bytes_eq {r s : ByteArray} (h : r.toList = s.toList) : r = s := by
  rw [Lib.toList_data, Lib.toList_data] at h
  exact ByteArray.ext (Array.toList_inj.1 h)

set_option maxHeartbeats 4000000 in
set_option maxRecDepth 100000 in
theorem hexlaw_any (s0 s1 : ByteArray) (v2 : Value) (t : Tm) (w : World) (g : GW w) (h9 : 9 ≤ w.heap.size) (h : TmAt w v2 t) :
    Calls Tryd.prog 3 #[.string s0, .string s1, v2] w fun e w' => e = .returned (.bool true) ∧ Below w.heap.size w w' := by
  obtain ⟨k, n, neg, mag, bits, bytes, args, mv, av, he, rfl, _, _, hms, _, _, _, _, hts⟩ := h.open
  obtain ⟨ma, mcap, rfl, _⟩ := hms
  obtain ⟨_, a, acap, rfl, _⟩ := hts
  have b1 := (Below.refl w.heap.size w).alloc (Nat.le_refl _) (.cells #[.int .i64 k, .int .i64 n, .bool neg, .slice ma mag.length mcap, .int .u64 bits, .string bytes, .slice a args.length acap] 28)
  have B1 := Lib.hid b1
  have HT := Lib.hid h
  have HG0 := Lib.hid g
  have HG1 := Lib.hid (g.below b1 h9)
  have HBX := Lib.hid (Below.refl (w.heap.size + 1) (w.alloc (.cells #[.int .i64 k, .int .i64 n, .bool neg, .slice ma mag.length mcap, .int .u64 bits, .string bytes, .slice a args.length acap] 28)))
  clear b1 h he g
  unfold termV
  have hawk : (500 < s0.size ∨ 500 < s1.size) ∨ (s0.size ≤ 500 ∧ s1.size ≤ 500) := by omega
  rcases hawk with hawk | ⟨h1, h2⟩
  · have hsplit : (500 : Int) < (s0.size : Int) ∨ (¬ (500 : Int) < (s0.size : Int) ∧ (500 : Int) < (s1.size : Int)) := by omega
    rcases hsplit with q1 | ⟨q1, q2⟩
    all_goals
      go_enter Tryd.func3, Tryd.ntmps3
      go_wp2_with fail
      refine (awake_any _ HG1.out (by simp; omega)).mono ?_
      rintro e w1 ⟨rfl, hb1⟩
      have B2 := Lib.hid (B1.out.trans (hb1.mono (by simp)))
      clear hb1
      go_wp2_with fail
      go_ret
      exact ⟨rfl, B2.out⟩
  · have q1 : ¬ (500 : Int) < (s0.size : Int) := by omega
    have q2 : ¬ (500 : Int) < (s1.size : Int) := by omega
    go_enter Tryd.func3, Tryd.ntmps3
    go_wp2_with fail
    refine (great_any t _ _ (HT.out.lift B1.out)).mono ?_
    rintro e w1 ⟨he1, hb1⟩
    have HB1 := Lib.hid (HBX.out.trans (hb1.mono (by simp)))
    clear hb1
    have sz1 : w.heap.size + 1 ≤ w1.heap.size := by have := HB1.out.size; simpa using this
    rcases he1 with rfl | ⟨rfl, hsm⟩
    · go_wp2_with fail
      refine (awake_any _ (HG0.out.below (box_below HB1.out) h9) (by omega)).mono ?_
      rintro e w2 ⟨rfl, hb2⟩
      have B2 := Lib.hid ((box_below HB1.out).trans (hb2.mono (by omega)))
      clear hb2
      go_wp2_with fail
      go_ret
      exact ⟨rfl, B2.out⟩
    · obtain ⟨X, hX⟩ : ∃ X : ByteArray, (⟨(hexP s0.toList).toArray⟩ : ByteArray) = X := ⟨_, rfl⟩
      obtain ⟨Y, hY⟩ : ∃ Y : ByteArray, (⟨(hexP (layP t)).toArray⟩ : ByteArray) = Y := ⟨_, rfl⟩
      have hXl : X.toList = hexP s0.toList := by rw [← hX, toList_mk]
      have hXs : X.size ≤ 2000 := by
        rw [← size_toList, hXl]
        have := hexP_length s0.toList
        rw [size_toList] at this
        omega
      have RX := Lib.hid (show ∀ w, Calls Tryd.prog 11 #[.string s0] w fun e w' => e = .returned (.string X) ∧ Below w.heap.size w w' from fun w => by rw [← hX]; exact hex_any s0 (by omega) w)
      have RY := Lib.hid (show ∀ w, Calls Tryd.prog 14 #[.string s0] w fun e w' => e = .returned (.string X) ∧ Below w.heap.size w w' from fun w => by rw [← hX]; exact refHex_any s0 (by omega) w)
      have RS := Lib.hid (show ∀ w v, TmAt w v t → Calls Tryd.prog 15 #[v] w fun e w' => e = .returned (.string Y) ∧ Below w.heap.size w w' from fun w v h => by rw [← hY]; exact show_any t v w h hsm)
      have RT := Lib.hid (show ∀ w v, TmAt w v t → Calls Tryd.prog 16 #[v] w fun e w' => e = .returned (.string Y) ∧ Below w.heap.size w w' from fun w v h => by rw [← hY]; exact refShow_any t v w h hsm)
      clear hX hY
      go_wp2_with fail
      refine (RX.out w1).mono ?_
      rintro e w2 ⟨rfl, hb2⟩
      have HB2 := Lib.hid (HB1.out.trans (hb2.mono sz1))
      have sz2 : w.heap.size + 1 ≤ w2.heap.size := by have := HB2.out.size; simpa using this
      clear hb2
      go_wp2_with fail
      refine (bytes_any X w2 (by omega)).mono ?_
      rintro e w3 ⟨r0, he3, hr0, hb3⟩
      rw [hXl, bytesP_hex] at he3 hr0
      obtain rfl : r0 = s0 := bytes_eq hr0
      subst he3
      simp only [Option.isSome_some]
      have HB3 := Lib.hid (HB2.out.trans (hb3.mono sz2))
      have sz3 : w.heap.size + 1 ≤ w3.heap.size := by have := HB3.out.size; simpa using this
      clear hb3 hr0 hXl
      go_wp2_with fail
      refine (bytes_any s1 w3 (by omega)).mono ?_
      rintro e w4 ⟨r1, he4, hr1, hb4⟩
      have HB4 := Lib.hid (HB3.out.trans (hb4.mono sz3))
      have sz4 : w.heap.size + 1 ≤ w4.heap.size := by have := HB4.out.size; simpa using this
      obtain ⟨ok, hok⟩ : ∃ ok, (bytesP s1.toList).isSome = ok := ⟨_, rfl⟩
      rw [hok] at he4
      subst he4
      clear hb4
      go_wp2_with fail
      refine (refBytes_any s1 w4 (by omega)).mono ?_
      rintro e w5 ⟨r2, he5, hr2, hb5⟩
      obtain rfl : r2 = r1 := bytes_eq (hr2.trans hr1.symm)
      rw [hok] at he5
      subst he5
      have HB5 := Lib.hid (HB4.out.trans (hb5.mono sz4))
      have sz5 : w.heap.size + 1 ≤ w5.heap.size := by have := HB5.out.size; simpa using this
      clear hb5 hr2 hr1 hok
      have d0 := box_cells HB5.out 0; have d1 := box_cells HB5.out 1; have d2 := box_cells HB5.out 2; have d3 := box_cells HB5.out 3; have d4 := box_cells HB5.out 4; have d5 := box_cells HB5.out 5; have d6 := box_cells HB5.out 6; simp at d0 d1 d2 d3 d4 d5 d6
      have HB5d := Lib.hid (Below.drew HB5.out)
      have sz5d : w.heap.size + 1 ≤ w5.drew.heap.size := sz5
      cases ok
      all_goals
        go_wp2_with fail
        go_region_held3 (fun w' => w'.cell? ⟨w.heap.size, 0, none⟩ = some (.int .i64 k) ∧ w'.cell? ⟨w.heap.size, 1, none⟩ = some (.int .i64 n) ∧ w'.cell? ⟨w.heap.size, 2, none⟩ = some (.bool neg) ∧ w'.cell? ⟨w.heap.size, 3, none⟩ = some (.slice ma mag.length mcap) ∧ w'.cell? ⟨w.heap.size, 4, none⟩ = some (.int .u64 bits) ∧ w'.cell? ⟨w.heap.size, 5, none⟩ = some (.string bytes) ∧ w'.cell? ⟨w.heap.size, 6, none⟩ = some (.slice a args.length acap)) (first | exact ⟨d0, d1, d2, d3, d4, d5, d6⟩ | exact ⟨e0, e1, e2, e3, e4, e5, e6⟩ | exact ⟨f0, f1, f2, f3, f4, f5, f6⟩ | exact ⟨g0, g1, g2, g3, g4, g5, g6⟩ | exact ⟨i0, i1, i2, i3, i4, i5, i6⟩ | go_keep) (first
          | (go_at_call 14; refine (RY.out w5.drew).mono ?_; rintro e w6 ⟨rfl, hb6⟩; have HB6 := Lib.hid (HB5d.out.trans (hb6.mono sz5d)); have sz6 : w.heap.size + 1 ≤ w6.heap.size := (by have := HB6.out.size; simpa using this); have e0 := box_cells HB6.out 0; have e1 := box_cells HB6.out 1; have e2 := box_cells HB6.out 2; have e3 := box_cells HB6.out 3; have e4 := box_cells HB6.out 4; have e5 := box_cells HB6.out 5; have e6 := box_cells HB6.out 6; simp at e0 e1 e2 e3 e4 e5 e6; clear hb6)
          | (go_at_call 15; refine (RS.out w6 _ (HT.out.lift (box_below HB6.out))).mono ?_; rintro e w7 ⟨rfl, hb7⟩; have HB7 := Lib.hid (HB6.out.trans (hb7.mono sz6)); have sz7 : w.heap.size + 1 ≤ w7.heap.size := (by have := HB7.out.size; simpa using this); have f0 := box_cells HB7.out 0; have f1 := box_cells HB7.out 1; have f2 := box_cells HB7.out 2; have f3 := box_cells HB7.out 3; have f4 := box_cells HB7.out 4; have f5 := box_cells HB7.out 5; have f6 := box_cells HB7.out 6; simp at f0 f1 f2 f3 f4 f5 f6; clear hb7)
          | (go_at_call 16; refine (RT.out w7 _ (HT.out.lift (box_below HB7.out))).mono ?_; rintro e w8 ⟨rfl, hb8⟩; have HB8 := Lib.hid (HB7.out.trans (hb8.mono sz7)); have sz8 : w.heap.size + 1 ≤ w8.heap.size := (by have := HB8.out.size; simpa using this); have g0 := box_cells HB8.out 0; have g1 := box_cells HB8.out 1; have g2 := box_cells HB8.out 2; have g3 := box_cells HB8.out 3; have g4 := box_cells HB8.out 4; have g5 := box_cells HB8.out 5; have g6 := box_cells HB8.out 6; simp at g0 g1 g2 g3 g4 g5 g6; clear hb8)
          | (go_at_call 10; refine (awake_any w8 (HG0.out.below (box_below HB8.out) h9) (by omega)).mono ?_; rintro e w9 ⟨rfl, hb9⟩; have HB9 := Lib.hid (HB8.out.trans (hb9.mono sz8)); have i0 := box_cells HB9.out 0; have i1 := box_cells HB9.out 1; have i2 := box_cells HB9.out 2; have i3 := box_cells HB9.out 3; have i4 := box_cells HB9.out 4; have i5 := box_cells HB9.out 5; have i6 := box_cells HB9.out 6; simp at i0 i1 i2 i3 i4 i5 i6; clear hb9))
        go_wp2_with fail
        go_ret
        exact ⟨rfl, box_below HB9.out⟩

end Go.Proofs.YtohgkfnbjfhniaaDoor
