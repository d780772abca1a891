/-
  Collect: Minor, of a dump that may not be collected, and of one in which nothing is old.
-/
import Derived.Test.YtlmpmjhanpkcnaaGreatN30
set_option linter.unusedVariables false
set_option linter.unusedSimpArgs false
namespace Go.Proofs.YtlmpmjhanpkcnaaGreat
open Go.RowKit Go.Maps

theorem get_alloc (w : World) (o : Obj) (i : Nat) : (w.alloc o).heap[i]? = if i = w.heap.size then some o else w.heap[i]? := by
  by_cases h : i = w.heap.size
  · subst h; rw [if_pos rfl]; exact World.alloc_heap_new w o
  · rw [if_neg h]
    by_cases h2 : i < w.heap.size
    · exact Below.heap_alloc w o i h2
    · rw [Array.getElem?_eq_none (by simp; omega), Array.getElem?_eq_none (by omega)]

theorem get_drew (w : World) (k : Nat) : w.drew.heap[k]? = w.heap[k]? := rfl

theorem undrew {B : Nat} {a w : World} (h : Below B a w.drew) : Below B a w := ⟨h.os, h.tape, h.output, h.size, h.block⟩

theorem four_at (w : World) (o1 o2 o3 o4 : Obj) : ((((w.alloc o1).alloc o2).alloc o3).alloc o4).drew.heap[w.heap.size]? = some o1 ∧ ((((w.alloc o1).alloc o2).alloc o3).alloc o4).drew.heap[w.heap.size + 1]? = some o2 ∧
    ((((w.alloc o1).alloc o2).alloc o3).alloc o4).drew.heap[w.heap.size + 2]? = some o3 ∧ ((((w.alloc o1).alloc o2).alloc o3).alloc o4).drew.heap[w.heap.size + 3]? = some o4 ∧ Below w.heap.size w ((((w.alloc o1).alloc o2).alloc o3).alloc o4).drew := by
  refine ⟨?_, ?_, ?_, ?_, (((((Below.refl _ _).alloc (Nat.le_refl _) _).alloc (by simp) _).alloc (by simp; omega) _).alloc (by simp; omega) _).drew⟩
  · rw [get_drew, get_alloc, if_neg (by simp <;> omega), get_alloc, if_neg (by simp <;> omega), get_alloc, if_neg (by simp <;> omega), get_alloc, if_pos rfl]
  · rw [get_drew, get_alloc, if_neg (by simp <;> omega), get_alloc, if_neg (by simp <;> omega), get_alloc, if_pos (by simp)]
  · rw [get_drew, get_alloc, if_neg (by simp <;> omega), get_alloc, if_pos (by simp)]
  · rw [get_drew, get_alloc, if_pos (by simp)]

def TwoSp (w wx : World) (an : Int) (p q y o : Value) : Prop := ∃ Y O T U, p = .pointer (some ⟨T, 0, none⟩) ∧ q = .pointer (some ⟨U, 0, none⟩) ∧ y = .pointer (some ⟨Y, 0, none⟩) ∧ o = .pointer (some ⟨O, 0, none⟩) ∧
  wx.heap[Y]? = some (.cells #[.int .i64 an, .slice none 0 0] 59 (0, 0)) ∧ wx.heap[O]? = some (.cells #[.int .i64 0, .slice none 0 0] 59 (0, 0)) ∧ wx.heap[T]? = some (.cells #[.pointer (some ⟨Y, 0, none⟩)] 57 (0, 0)) ∧ wx.heap[U]? = some (.cells #[.pointer (some ⟨O, 0, none⟩)] 57 (0, 0)) ∧
  (w.heap.size ≤ Y ∧ w.heap.size ≤ O ∧ w.heap.size ≤ T ∧ w.heap.size ≤ U ∧ O ≠ Y ∧ T ≠ Y ∧ U ≠ Y) ∧ Below w.heap.size w wx

theorem oldP_none (x : Int) : oldP (x, []) = true := rfl

set_option maxHeartbeats 16000000 in
set_option maxRecDepth 100000 in
theorem minor_none (d : Dmp) (c0 c1 c6 c7 : Value) (a : Int) (w : World) (hd : DmAt w (dmpV c0 c1 (.int .i64 0) (.slice none 0 0) d.size 0 c6 c7 (.slice none 0 0)) d) (hmk : d.mark = 0) (ho : d.old = (0, [])) (hf : d.frags.length ≤ 100000) (hN : wordsN d.mem ≤ 5000) (hrl : d.roots.length ≤ 1000) (hsn : saneP d a = true)
    (hhs : ∀ l, ReachL d.mem d.roots l → (hsM d.mem (majorSt d a.toNat l).went l).length < 2) :
    Calls Tryz.prog 20 #[dmpV c0 c1 (.int .i64 0) (.slice none 0 0) d.size 0 c6 c7 (.slice none 0 0), .int .i64 a] w fun e w' => ∃ l dv, ReachL d.mem d.roots l ∧ e = .returned (.tuple #[dv, .bool true]) ∧ MajorOut w w' d a.toNat l dv ∧ Below w.heap.size w w' := by
  have HD := Lib.hid hd
  have HMK := Lib.hid hmk
  have HOLD := Lib.hid ho
  have HHS := Lib.hid hhs
  have hrt : Ws w c7 d.roots := by
    obtain ⟨_, _, _, _, _, _, _, e, -, -, -, -, -, h, -⟩ := hd
    simp [dmpV] at e
    obtain ⟨-, -, -, -, -, -, rfl, -⟩ := e
    exact h
  have HRT := Lib.hid hrt
  have HSN := Lib.hid hsn
  clear hd hrt hsn hmk ho hhs
  have T := two_at w (.cells #[c0, c1, .int .i64 0, .slice none 0 0, .int .i64 d.size, .int .i64 0, c6, c7, .slice none 0 0] 28) (.cells #[.int .i64 0, .slice none 0 0, .int .i64 0, .slice none 0 0, .int .i64 0, .int .i64 0, .slice none 0 0, .slice none 0 0, .slice none 0 0] 28)
  obtain ⟨t1, t2, t3, t4⟩ := T
  have c00 := cell_of t1 0
  have hmm := @run_makeMap Tryz.prog
  go_enter Tryz.func20, Tryz.ntmps20
  go_wp2_with fail
  generalize (w.alloc (.cells #[c0, c1, .int .i64 0, .slice none 0 0, .int .i64 d.size, .int .i64 0, c6, c7, .slice none 0 0] 28)).alloc _ = W at *
  refine (sane_any d _ a W (HD.out.below t4) hf hN).mono ?_
  rw [HSN.out]
  rintro e w2 ⟨rfl, hb2⟩
  have X2 := Lib.hid ((hb2.block _ (lt_of_block t1)).trans t1)
  have X4 := Lib.hid ((hb2.block _ (lt_of_block t2)).trans t2)
  have HB := Lib.hid (t4.trans (hb2.mono (by omega)))
  have HS := Lib.hid (show w.heap.size + 2 ≤ w2.heap.size by have := hb2.size; omega)
  clear t1 t2 t3 t4 hb2 c00
  have hsane := HSN.out
  unfold saneP at hsane
  simp only [Bool.and_eq_true, decide_eq_true_eq] at hsane
  obtain ⟨⟨⟨hrg, hro⟩, ha1⟩, ha2⟩ := hsane
  have HRO := Lib.hid (rd_roots hro)
  clear hrg hro
  obtain ⟨an, rfl⟩ : ∃ an : Nat, a = (an : Int) := ⟨a.toNat, by omega⟩
  have y0 := cell_of X2.out 0
  have y1 := cell_of X2.out 1
  have y2 := cell_of X2.out 2
  have y3 := cell_of X2.out 3
  have y4 := cell_of X2.out 4
  have y5 := cell_of X2.out 5
  have y6 := cell_of X2.out 6
  have y7 := cell_of X2.out 7
  have y8 := cell_of X2.out 8
  simp at y0 y1 y2 y3 y4 y5 y6 y7 y8
  go_wp2_with fail
  refine (old_any d _ w2 (HD.out.below HB.out) (by rw [HOLD.out]; simp)).mono ?_
  rw [HOLD.out, oldP_none]
  rintro e w2' ⟨rfl, hb2⟩
  have X2 := Lib.hid ((hb2.block _ (lt_of_block X2.out)).trans X2.out)
  have X4 := Lib.hid ((hb2.block _ (lt_of_block X4.out)).trans X4.out)
  have HB := Lib.hid (HB.out.trans (hb2.mono (by have := HS.out; omega)))
  have HS := Lib.hid (show w.heap.size + 2 ≤ w2'.heap.size by have := hb2.size; have := HS.out; omega)
  clear hb2 y0 y1 y2 y3 y4 y5 y6 y7 y8
  have y0 := cell_of X2.out 0
  have y1 := cell_of X2.out 1
  have y2 := cell_of X2.out 2
  have y3 := cell_of X2.out 3
  have y4 := cell_of X2.out 4
  have y5 := cell_of X2.out 5
  have y6 := cell_of X2.out 6
  have y7 := cell_of X2.out 7
  have y8 := cell_of X2.out 8
  simp at y0 y1 y2 y3 y4 y5 y6 y7 y8
  go_wp2_with fail
  refine (of_any d _ w2' (HD.out.below HB.out) hf).mono ?_
  rintro e w3 ⟨mv, rfl, hmv, hb3⟩
  obtain ⟨_, ma, mc, rfl, _⟩ := id hmv
  have X3 := Lib.hid ((hb3.block _ (lt_of_block X2.out)).trans X2.out)
  have Z3 := Lib.hid ((hb3.block _ (lt_of_block X4.out)).trans X4.out)
  have HB3 := Lib.hid (HB.out.trans (hb3.mono (by have := HS.out; omega)))
  have HS3 := Lib.hid (show w.heap.size + 2 ≤ w3.heap.size by have := hb3.size; have := HS.out; omega)
  have HM := Lib.hid hmv
  clear hmv hb3 y0 y1 y2 y3 y4 y5 y6 y7 y8 X2 X4 HB HS
  have y7 := cell_of X3.out 7
  simp at y7
  go_wp2_with fail
  refine (reached_own d.mem d.roots _ c7 w3 HM.out (HRT.out.below HB3.out) hN hrl).mono ?_
  rintro e w4 ⟨sv, l, rfl, hown4, hL, hok, hll, hb4⟩
  have X4 := Lib.hid ((hb4.block _ (lt_of_block X3.out)).trans X3.out)
  have Z4 := Lib.hid ((hb4.block _ (lt_of_block Z3.out)).trans Z3.out)
  have HB4 := Lib.hid (HB3.out.trans (hb4.mono (by have := HS3.out; omega)))
  have HS4 := Lib.hid (show w.heap.size + 2 ≤ w4.heap.size by have := hb4.size; have := HS3.out; omega)
  have HM4 := Lib.hid (HM.out.below hb4)
  have HL := Lib.hid hL
  have HC := Lib.hid (closed_of HRO.out hL)
  have HOK := Lib.hid hok
  have HO4 := Lib.hid hown4
  obtain ⟨sa5, sc5, rfl⟩ := own_slice hown4
  clear hb4 hok hL hown4 y7 X3 Z3 HS3
  have y0 := cell_of X4.out 0
  have y1 := cell_of X4.out 1
  have y2 := cell_of X4.out 2
  have y3 := cell_of X4.out 3
  have y4 := cell_of X4.out 4
  have y5 := cell_of X4.out 5
  have y6 := cell_of X4.out 6
  have y7 := cell_of X4.out 7
  have y8 := cell_of X4.out 8
  simp at y0 y1 y2 y3 y4 y5 y6 y7 y8
  go_wp2_with fail
  refine (elder_any d _ _ _ d.mem l w4 (HD.out.below HB4.out) HMK.out (by rw [HOLD.out]) HM4.out hN (SpAt.of_own HO4.out (by omega)) (fun s hs => (HOK.out s hs).2)).mono ?_
  rintro e w5 ⟨eb, rfl, hset, hebs, hb5⟩
  have X5 := Lib.hid ((hb5.block _ (lt_of_block X4.out)).trans X4.out)
  have Z5 := Lib.hid ((hb5.block _ (lt_of_block Z4.out)).trans Z4.out)
  have HB5 := Lib.hid (HB4.out.trans (hb5.mono (by have := HS4.out; omega)))
  have HS5 := Lib.hid (show w.heap.size + 2 ≤ w5.heap.size by have := hb5.size; have := HS4.out; omega)
  have HM5 := Lib.hid (HM4.out.below hb5)
  have HO5 := Lib.hid (own_lift HO4.out hb5)
  have HSE := Lib.hid hset
  clear hset hebs hb5 y0 y1 y2 y3 y4 y5 y6 y7 y8 X4 Z4 HS4 HM4
  go_upto_region 6 with fail
  have T := one_at w5 (.cells #[.map (some eb)] 90)
  obtain ⟨t1, t2, t3⟩ := T
  have X6 := Lib.hid ((t3.block _ (lt_of_block X5.out)).trans X5.out)
  have Z6 := Lib.hid ((t3.block _ (lt_of_block Z5.out)).trans Z5.out)
  have HB6 := Lib.hid (HB5.out.trans (t3.mono (by have := HS5.out; omega)))
  have HM6 := Lib.hid (HM5.out.below t3)
  have HO6 := Lib.hid (own_lift HO5.out t3)
  have HSE6 := Lib.hid (HSE.out.block (t3.block _ HSE.out.lt))
  have HA6 := Lib.hid t1
  obtain ⟨A, hA⟩ : ∃ A, w5.heap.size = A := ⟨_, rfl⟩
  rw [hA] at HA6 t2 HS5 ⊢
  generalize w5.alloc (.cells #[.map (some eb)] 90) = w6 at *
  clear t1 t3 X5 Z5 HM5 HO5 HSE
  have y0 := cell_of X6.out 0
  have y1 := cell_of X6.out 1
  have y2 := cell_of X6.out 2
  have y3 := cell_of X6.out 3
  have y4 := cell_of X6.out 4
  have y5 := cell_of X6.out 5
  have y6 := cell_of X6.out 6
  have y7 := cell_of X6.out 7
  have y8 := cell_of X6.out 8
  simp at y0 y1 y2 y3 y4 y5 y6 y7 y8
  go_cut [9, 10, 49, 58] from 47 to 58 (fun p q y o wx => TwoSp w6 wx an p q y o)
  case first =>
    have SK := Lib.hid (show ∀ V, Below w6.heap.size w6 V → (fun w' => w'.cell? ⟨w.heap.size, 2, none⟩ = some (.int .i64 0) ∧ w'.cell? ⟨w.heap.size, 3, none⟩ = some (.slice none 0 0) ∧ Below w6.heap.size w6 w') V from fun V hV => ⟨(hV.cell (lt_of_block X6.out)).trans y2, (hV.cell (lt_of_block X6.out)).trans y3, hV⟩)
    have SA := Lib.hid (show ∀ (V : World) o, Below w6.heap.size w6 V.drew → (fun w' => w'.cell? ⟨w.heap.size, 2, none⟩ = some (.int .i64 0) ∧ w'.cell? ⟨w.heap.size, 3, none⟩ = some (.slice none 0 0) ∧ Below w6.heap.size w6 w') (V.alloc o).drew from fun V o hV => SK.out _ ((undrew hV).alloc (undrew hV).size o).drew)
    have SS := Lib.hid (show ∀ (V : World) b u, Below w6.heap.size w6 V.drew → w6.heap.size ≤ b → (fun w' => w'.cell? ⟨w.heap.size, 2, none⟩ = some (.int .i64 0) ∧ w'.cell? ⟨w.heap.size, 3, none⟩ = some (.slice none 0 0) ∧ Below w6.heap.size w6 w') (V.setCell ⟨b, 0, none⟩ u).drew from fun V b u hV hb => SK.out _ ((undrew hV).setCell hb u).drew)
    have SD := Lib.hid (SK.out _ (Below.refl w6.heap.size w6).drew)
    -- SLOW
    go_region_held3 (fun w' => w'.cell? ⟨w.heap.size, 2, none⟩ = some (.int .i64 0) ∧ w'.cell? ⟨w.heap.size, 3, none⟩ = some (.slice none 0 0) ∧ Below w6.heap.size w6 w')
      (first | with_reducible exact SD.out | with_reducible assumption | (go_split_ands; with_reducible exact SK.out _ (by assumption)) | (go_split_ands; with_reducible exact SA.out _ _ (by assumption)) | (go_split_ands; with_reducible exact SS.out _ _ _ (by assumption) (by simp <;> omega)) | with_reducible exact SK.out _ (by refine Below.drew ?_; repeat (first | with_reducible exact Below.refl _ _ | refine Below.alloc ?_ (by simp <;> omega) _)))
      (first | (go_at_call 46; refine (clone_nil _).mono ?_; rintro e w7 ⟨rfl, rfl⟩))
    all_goals go_wp2_with fail
    all_goals go_meet
    all_goals exact ⟨_, _, _, _, rfl, rfl, rfl, rfl, by first | exact (four_at w6 _ _ _ _).1 | exact (four_at w6 _ _ _ _).2.1 | exact (four_at w6 _ _ _ _).2.2.1 | exact (four_at w6 _ _ _ _).2.2.2.1,
      by first | exact (four_at w6 _ _ _ _).1 | exact (four_at w6 _ _ _ _).2.1 | exact (four_at w6 _ _ _ _).2.2.1 | exact (four_at w6 _ _ _ _).2.2.2.1,
      by first | exact (four_at w6 _ _ _ _).1 | exact (four_at w6 _ _ _ _).2.1 | exact (four_at w6 _ _ _ _).2.2.1 | exact (four_at w6 _ _ _ _).2.2.2.1,
      by first | exact (four_at w6 _ _ _ _).1 | exact (four_at w6 _ _ _ _).2.1 | exact (four_at w6 _ _ _ _).2.2.1 | exact (four_at w6 _ _ _ _).2.2.2.1,
      by simp <;> omega, (four_at w6 _ _ _ _).2.2.2.2⟩
    -- END
  case rest =>
    obtain ⟨Y, O, T, U, rfl, rfl, rfl, rfl, hY, hO, hT, hU, hne, hBc⟩ := hcut
    generalize wc = Wz at *
    clear y0 y1 y2 y3 y4 y5 y6 y7 y8
    have HNE := Lib.hid hne
    have hyl : Y < Wz.heap.size := lt_of_block hY
    have hA6 := lt_of_block HA6.out
    have HE := Lib.hid (show MvEnv w6 Wz Y d.mem (.slice ma d.mem.length mc) 47 #[.pointer (some ⟨A, 0, none⟩), .pointer (some ⟨U, 0, none⟩), .pointer (some ⟨w.heap.size, 0, none⟩), .pointer (some ⟨T, 0, none⟩)] from
      ⟨HM6.out, HNE.out.1, hyl, hBc, enter_minor, fun s W hs hW => by
        have k1 := hW.block A (by have := hBc.size; omega) (by simp; have := HNE.out.1; omega)
        have k2 := hW.block eb (by have := hBc.size; have := HSE6.out.lt; omega) (by simp; have := HNE.out.1; have := HSE6.out.lt; omega)
        have k3 := hW.block w.heap.size (by have := hBc.size; have := lt_of_block X6.out; omega) (by simp; have := HNE.out.1; have := lt_of_block X6.out; omega)
        have k4 := hW.block T (lt_of_block hT) (by simp; have := HNE.out; omega)
        exact goes_minor s hs A U w.heap.size T Y eb _ _ _ _ _ _ _ _ _ _ W (k1.trans ((hBc.block A hA6).trans HA6.out)) (HSE6.out.block (k2.trans (hBc.block _ HSE6.out.lt))) (k3.trans ((hBc.block _ (lt_of_block X6.out)).trans X6.out)) (k4.trans hT)⟩)
    have HS0 := Lib.hid (mv_start Wz Y 47 an (.slice ma d.mem.length mc) #[.pointer (some ⟨A, 0, none⟩), .pointer (some ⟨U, 0, none⟩), .pointer (some ⟨w.heap.size, 0, none⟩), .pointer (some ⟨T, 0, none⟩)] hY)
    have HYW := Lib.hid (show Y < Wz.heap.size ∧ w.heap.size + 2 ≤ Y ∧ w6.heap.size ≤ Y ∧ w.heap.size + 2 ≤ w6.heap.size from ⟨hyl, by have := HNE.out; have := HS5.out; omega, HNE.out.1, by have := HS5.out; omega⟩)
    have HB0 := Lib.hid (HB6.out.trans (hBc.mono (by have := HYW.out; omega)))
    have X0 := Lib.hid ((hBc.block _ (lt_of_block X6.out)).trans X6.out)
    have Z0 := Lib.hid ((hBc.block _ (lt_of_block Z6.out)).trans Z6.out)
    have HO0 := Lib.hid (own_lift HO6.out hBc)
    have KO6 := Lib.hid (show ∀ k, (Value.slice sa5 l.length sc5).ownBlock = some k → k < w6.heap.size from fun k hk => (HO6.out.lt k hk).2)
    have HTC := Lib.hid hT
    have HUC := Lib.hid hU
    have HOC := Lib.hid hO
    clear hT hU hO hY hne hBc X6 Z6 HO6
    go_upto_region 8 with fail
    generalize (Wz.alloc (Obj.map #[] 0)).alloc (Obj.cells #[.slice ma d.mem.length mc, .map (some Wz.heap.size), .func (.func 47) #[] #[.pointer (some ⟨A, 0, none⟩), .pointer (some ⟨U, 0, none⟩), .pointer (some ⟨w.heap.size, 0, none⟩), .pointer (some ⟨T, 0, none⟩)], .slice none 0 0] 67) = w8 at *
    have y7 := cell_of ((HS0.out.base.block _ (by have := HYW.out; omega) (by have := HYW.out; simp; omega)).trans X0.out) 7
    simp at y7
    have HBL := Lib.hid (show ∀ V, Wz.grownBy V (some Y) → Below w.heap.size w V from fun V hV => HB6.out.trans ((HE.out.below hV).mono (by have := HYW.out; omega)))
    go_wp2_with fail
    refine (moved_any w6 Wz Y d.mem _ 47 _ _ an l ⟨[], []⟩ c7 d.roots w8 HE.out HS0.out (MInv.start _ _ _) (by omega) HC.out.1 HOK.out (by omega) (HRT.out.below HB6.out) hrl HC.out.2).mono ?_
    rintro e w9 ⟨rv, rfl, hro, hms, hkn⟩
    have H6 := Lib.hid hms
    have HR6 := Lib.hid hro
    have HKN := Lib.hid hkn
    obtain ⟨ra6, rc6, rfl⟩ := own_slice hro
    clear hms hro hkn y7 HS0
    go_upto_region 9 with fail
    have X7 := Lib.hid (World.alloc_heap_new w9 (.cells #[.int .i64 0, .slice none 0 0, .int .i64 0, .slice none 0 0, .int .i64 0, .int .i64 0, .slice none 0 0, .slice ra6 (movesP d.mem an d.roots ⟨[], []⟩).1.length rc6, .slice none 0 0] 28))
    have B7 := Lib.hid ((Below.refl w9.heap.size w9).alloc (Nat.le_refl _) (.cells #[.int .i64 0, .slice none 0 0, .int .i64 0, .slice none 0 0, .int .i64 0, .int .i64 0, .slice none 0 0, .slice ra6 (movesP d.mem an d.roots ⟨[], []⟩).1.length rc6, .slice none 0 0] 28))
    generalize w9.alloc (.cells #[.int .i64 0, .slice none 0 0, .int .i64 0, .slice none 0 0, .int .i64 0, .int .i64 0, .slice none 0 0, .slice ra6 (movesP d.mem an d.roots ⟨[], []⟩).1.length rc6, .slice none 0 0] 28) = w10 at *
    have H7 := Lib.hid (H6.out.lift HYW.out.1 B7.out)
    have t0 := cell_of ((H7.out.base.block T (lt_of_block HTC.out) (by have := HNE.out; simp; omega)).trans HTC.out) 0
    have u0 := cell_of ((H7.out.base.block U (lt_of_block HUC.out) (by have := HNE.out; simp; omega)).trans HUC.out) 0
    have o0 := cell_of ((H7.out.base.block O (lt_of_block HOC.out) (by have := HNE.out; simp; omega)).trans HOC.out) 0
    have o1 := cell_of ((H7.out.base.block O (lt_of_block HOC.out) (by have := HNE.out; simp; omega)).trans HOC.out) 1
    obtain ⟨yv, qv, hmid⟩ := H6.out.mid
    have M6 := Lib.hid hmid
    have s0 := cell_of ((B7.out.block Y (lt_of_block hmid.r1)).trans hmid.r1) 0
    have s1 := cell_of ((B7.out.block Y (lt_of_block hmid.r1)).trans hmid.r1) 1
    obtain ⟨ya, yc, rfl⟩ := own_slice hmid.r2
    have X0' := Lib.hid ((H7.out.base.block _ (by have := HYW.out; omega) (by have := HYW.out; simp; omega)).trans X0.out)
    have q2 := cell_of X0'.out 2
    simp at t0 u0 o0 o1 s0 s1 q2
    clear hmid
    have hst : scanP d.mem an (l.length + 1) 0 (movesP d.mem an d.roots ⟨[], []⟩).2 = majorSt d an l := rfl
    rw [hst] at H6 H7 M6 s1
    go_upto_region 11 with fail
    go_cut [] from 82 to 97 (fun wx => Hid (wx = ((((w10.setCell ⟨w9.heap.size, 0, none⟩ (.int .i64 (an : Int))).setCell ⟨w9.heap.size, 1, none⟩ (.slice ya (majorSt d an l).words.length yc)).setCell ⟨w9.heap.size, 2, none⟩ (.int .i64 0)).setCell ⟨w9.heap.size, 3, none⟩ (.slice none 0 0)).drew))
    case first =>
      have SK := Lib.hid (show ∀ V, Below w9.heap.size w9 V → (fun w' => w'.cell? ⟨T, 0, none⟩ = some (.pointer (some ⟨Y, 0, none⟩)) ∧ w'.cell? ⟨Y, 1, none⟩ = some (.slice ya (majorSt d an l).words.length yc) ∧ w'.cell? ⟨w.heap.size, 2, none⟩ = some (.int .i64 0) ∧ w'.cell? ⟨U, 0, none⟩ = some (.pointer (some ⟨O, 0, none⟩)) ∧ w'.cell? ⟨O, 1, none⟩ = some (.slice none 0 0) ∧ Below w9.heap.size w9 w') V from fun V hV => by
        have k := H6.out.base
        have a0 := cell_of ((hV.block T (by have := lt_of_block HTC.out; have := k.size; omega)).trans ((k.block T (lt_of_block HTC.out) (by have := HNE.out; simp; omega)).trans HTC.out)) 0
        have a1 := cell_of ((hV.block Y (lt_of_block M6.out.r1)).trans M6.out.r1) 1
        have a2 := cell_of ((hV.block w.heap.size (by have := HYW.out; have := k.size; omega)).trans ((k.block w.heap.size (by have := HYW.out; omega) (by have := HYW.out; simp; omega)).trans X0.out)) 2
        have a3 := cell_of ((hV.block U (by have := lt_of_block HUC.out; have := k.size; omega)).trans ((k.block U (lt_of_block HUC.out) (by have := HNE.out; simp; omega)).trans HUC.out)) 0
        have a4 := cell_of ((hV.block O (by have := lt_of_block HOC.out; have := k.size; omega)).trans ((k.block O (lt_of_block HOC.out) (by have := HNE.out; simp; omega)).trans HOC.out)) 1
        exact ⟨a0, a1, a2, a3, a4, hV⟩)
      have SD := Lib.hid (SK.out _ B7.out.drew)
      have y0 := cell_of X7.out 0
      have z0 := free_of X7.out 0
      have y1 := cell_of X7.out 1
      have z1 := free_of X7.out 1
      have y2 := cell_of X7.out 2
      have z2 := free_of X7.out 2
      have y3 := cell_of X7.out 3
      have z3 := free_of X7.out 3
      simp at y0 y1 y2 y3
      go_region_held3 (fun w' => w'.cell? ⟨T, 0, none⟩ = some (.pointer (some ⟨Y, 0, none⟩)) ∧ w'.cell? ⟨Y, 1, none⟩ = some (.slice ya (majorSt d an l).words.length yc) ∧ w'.cell? ⟨w.heap.size, 2, none⟩ = some (.int .i64 0) ∧ w'.cell? ⟨U, 0, none⟩ = some (.pointer (some ⟨O, 0, none⟩)) ∧ w'.cell? ⟨O, 1, none⟩ = some (.slice none 0 0) ∧ Below w9.heap.size w9 w')
        (first | with_reducible exact SD.out | with_reducible assumption | with_reducible exact SK.out _ (by repeat (first | with_reducible exact B7.out | refine Below.drew ?_ | refine Below.setCell ?_ (by simp) _))) (fail)
      all_goals go_wp2_with fail
      all_goals go_meet
      all_goals exact Lib.hid rfl
    case rest =>
      have X8 := Lib.hid (show wc.heap[w9.heap.size]? = some (.cells #[.int .i64 (an : Int), .slice ya (majorSt d an l).words.length yc, .int .i64 0, .slice none 0 0, .int .i64 0, .int .i64 0, .slice none 0 0, .slice ra6 (movesP d.mem an d.roots ⟨[], []⟩).1.length rc6, .slice none 0 0] 28 (0, 0)) from by rw [hcut.out]; exact set_of (set_of (set_of (set_of X7.out 0 _) 1 _) 2 _) 3 _)
      have B8 := Lib.hid (show Below w9.heap.size w9 wc from by rw [hcut.out]; exact ((((B7.out.setCell (p := ⟨w9.heap.size, 0, none⟩) (Nat.le_refl _) _).setCell (p := ⟨w9.heap.size, 1, none⟩) (Nat.le_refl _) _).setCell (p := ⟨w9.heap.size, 2, none⟩) (Nat.le_refl _) _).setCell (p := ⟨w9.heap.size, 3, none⟩) (Nat.le_refl _) _).drew)
      clear hcut X7 H7 t0 u0 o0 o1 s0 s1 q2 B7
      generalize wc = w11 at *
      have H8 := Lib.hid (H6.out.lift HYW.out.1 B8.out)
      have t0 := cell_of ((H8.out.base.block T (lt_of_block HTC.out) (by have := HNE.out; simp; omega)).trans HTC.out) 0
      have s1 := cell_of ((B8.out.block Y (lt_of_block M6.out.r1)).trans M6.out.r1) 1
      have y4 := cell_of X8.out 4
      have y5 := cell_of X8.out 5
      have z4 := free_of X8.out 4
      have z5 := free_of X8.out 5
      simp at t0 s1 y4 y5
      go_upto_region 12 with fail
      go_region
      have X9 := Lib.hid (show ((w11.setCell ⟨w9.heap.size, 4, none⟩ (.int .i64 ((majorSt d an l).words.length : Int))).setCell ⟨w9.heap.size, 5, none⟩ (.int .i64 ((majorSt d an l).words.length : Int))).drew.heap[w9.heap.size]? = some (.cells #[.int .i64 (an : Int), .slice ya (majorSt d an l).words.length yc, .int .i64 0, .slice none 0 0, .int .i64 ((majorSt d an l).words.length : Int), .int .i64 ((majorSt d an l).words.length : Int), .slice none 0 0, .slice ra6 (movesP d.mem an d.roots ⟨[], []⟩).1.length rc6, .slice none 0 0] 28 (0, 0)) from set_of (set_of X8.out 4 _) 5 _)
      have B9 := Lib.hid (((B8.out.setCell (p := ⟨w9.heap.size, 4, none⟩) (Nat.le_refl _) (.int .i64 ((majorSt d an l).words.length : Int))).setCell (p := ⟨w9.heap.size, 5, none⟩) (Nat.le_refl _) (.int .i64 ((majorSt d an l).words.length : Int))).drew)
      clear y4 y5 z4 z5 s1 t0 X8 H8
      generalize ((w11.setCell ⟨w9.heap.size, 4, none⟩ (.int .i64 ((majorSt d an l).words.length : Int))).setCell ⟨w9.heap.size, 5, none⟩ (.int .i64 ((majorSt d an l).words.length : Int))).drew = w12 at *
      have H9 := Lib.hid (H6.out.keep HYW.out.1 B9.out X9.out (Nat.le_refl _))
      have HAG := Lib.hid (all_gone (a := an) (R := l) HM.out.bnd (by omega) (by omega) HC.out.1 HRT.out.2.1 HC.out.2)
      have HSPT := Lib.hid (show ∀ w', Wz.grownBy w' (some Y) → (∀ p ∈ ((w9.heap.size, Obj.cells #[.int .i64 (an : Int), .slice ya (majorSt d an l).words.length yc, .int .i64 0, .slice none 0 0, .int .i64 ((majorSt d an l).words.length : Int), .int .i64 ((majorSt d an l).words.length : Int), .slice none 0 0, .slice ra6 (movesP d.mem an d.roots ⟨[], []⟩).1.length rc6, .slice none 0 0] 28 (0, 0)) :: Kout (.slice ra6 (movesP d.mem an d.roots ⟨[], []⟩).1.length rc6) w9 []), w'.heap[p.1]? = some p.2) → SpAt w' (.slice sa5 l.length sc5) l from fun w' hg _ => SpAt.of_own (HO0.out.kept (row := some Y) hg (by
        cases hv : (Value.slice sa5 l.length sc5).ownBlock with
        | none => exact .inl rfl
        | some k => exact .inr (fun q => by cases q; have := KO6.out _ hv; have := HYW.out; omega))) (by omega))
      have HGO := Lib.hid (show ∀ s ∈ l, (s.2 = 4 ∨ s.2 = 5) ∧ In64 s.1 ∧ (objP d.mem s.1 s.2).isSome = true ∧ ∃ n, n ≤ 1125899907842624 ∧ wentAt (majorSt d an l).went s = some (n * 8 + s.2.toNat) from fun s hs => ⟨(HOK.out s hs).1, (HOK.out s hs).2, ((HL.out.2 s).1 hs).ok, gone_at HAG.out.1.inv (by omega) (by omega) (HAG.out.2.2.2 s ((HL.out.2 s).1 hs))⟩)
      go_wp2_with fail
      refine (handlesM_any w6 Wz Y d.mem _ 47 _ _ an (majorSt d an l) _ l w12 HE.out H9.out HSPT.out HGO.out (by omega)).mono ?_
      rintro e w13 ⟨hv, rfl, hbw10, hown10, hms10, hkn10⟩
      have HO10 := Lib.hid hown10
      obtain ⟨ha10, hc10, rfl⟩ := own_slice hown10
      have X10 := Lib.hid (hms10.kept (Kout_sub _ List.mem_cons_self))
      have HBS := Lib.hid hms10.base
      have y8 := cell_of X10.out 8
      have z8 := free_of X10.out 8
      simp at y8
      clear hown10 hms10 hkn10 HSPT
      have HB10 := Lib.hid hbw10
      clear hbw10
      go_upto_region 14 with fail
      have hlen : (hsM d.mem (majorSt d an l).went l).length ≤ 1000000 := by have := hsM_le d.mem (majorSt d an l).went l; omega
      have X11 := Lib.hid (show (w13.setCell ⟨w9.heap.size, 8, none⟩ (.slice ha10 (hsM d.mem (majorSt d an l).went l).length hc10)).heap[w9.heap.size]? = some (.cells #[.int .i64 (an : Int), .slice ya (majorSt d an l).words.length yc, .int .i64 0, .slice none 0 0, .int .i64 ((majorSt d an l).words.length : Int), .int .i64 ((majorSt d an l).words.length : Int), .slice none 0 0, .slice ra6 (movesP d.mem an d.roots ⟨[], []⟩).1.length rc6, .slice ha10 (hsM d.mem (majorSt d an l).went l).length hc10] 28 (0, 0)) from set_of X10.out 8 (.slice ha10 (hsM d.mem (majorSt d an l).went l).length hc10))
      have B11 := Lib.hid ((B9.out.trans (HB10.out.mono B9.out.size)).setCell (p := ⟨w9.heap.size, 8, none⟩) (Nat.le_refl _) (.slice ha10 (hsM d.mem (majorSt d an l).went l).length hc10))
      have O11 := Lib.hid (own_set HO10.out (g := w9.heap.size) (i := 8) (by exact lt_of_block X9.out) (.slice ha10 (hsM d.mem (majorSt d an l).went l).length hc10))
      generalize w13.setCell ⟨w9.heap.size, 8, none⟩ (.slice ha10 (hsM d.mem (majorSt d an l).went l).length hc10) = w14 at *
      have y8 := cell_of X11.out 8
      have q8 := cell_of ((B11.out.block w.heap.size (by have := HYW.out; have := H6.out.base.size; omega)).trans ((H6.out.base.block w.heap.size (by have := HYW.out; omega) (by have := HYW.out; simp; omega)).trans X0.out)) 8
      simp at y8 q8
      clear z8
      go_wp2_with fail
      go_loopw [117] (fun i wr => i = .int .i64 0 ∧ w14 = wr) (fun _ _ => 0)
      case atStart => exact ⟨rfl, rfl⟩
      case round =>
      obtain ⟨rfl, rfl⟩ := hrel
      go_wp2_with fail
      refine (sort_any _ _ _ w14 O11.out hlen).mono ?_
      rintro e w15 ⟨rfl, hso, hgr⟩
      have B12 := Lib.hid (B11.out.grown hgr (by have := B11.out.size; have := B9.out.size; omega) (fun k hk => by have := (O11.out.lt k hk).1; have := B9.out.size; omega))
      have X12 := Lib.hid ((hgr.block w9.heap.size (lt_of_block X11.out) (fun e => by have := (O11.out.lt _ e.symm).1; have := lt_of_block X9.out; omega)).trans X11.out)
      have OH := Lib.hid hso
      clear hso hgr y8 q8
      have y8 := cell_of X12.out 8
      have z8 := free_of X12.out 8
      simp at y8
      go_wp2_with fail
      refine (compact_short ha10 _ hc10 (HHS.out l HL.out) w15).mono ?_
      rintro e w15' ⟨rfl, rfl⟩
      go_upto_region 22 with fail
      have X13 := Lib.hid (show (w15.setCell ⟨w9.heap.size, 8, none⟩ (.slice ha10 (hsM d.mem (majorSt d an l).went l).length hc10)).heap[w9.heap.size]? = some (.cells #[.int .i64 (an : Int), .slice ya (majorSt d an l).words.length yc, .int .i64 0, .slice none 0 0, .int .i64 ((majorSt d an l).words.length : Int), .int .i64 ((majorSt d an l).words.length : Int), .slice none 0 0, .slice ra6 (movesP d.mem an d.roots ⟨[], []⟩).1.length rc6, .slice ha10 (hsM d.mem (majorSt d an l).went l).length hc10] 28 (0, 0)) from set_of X12.out 8 (.slice ha10 (hsM d.mem (majorSt d an l).went l).length hc10))
      have B13 := Lib.hid (B12.out.setCell (p := ⟨w9.heap.size, 8, none⟩) (Nat.le_refl _) (.slice ha10 (hsM d.mem (majorSt d an l).went l).length hc10))
      have OH13 := Lib.hid (own_set OH.out (g := w9.heap.size) (i := 8) (by exact lt_of_block X9.out) (.slice ha10 (hsM d.mem (majorSt d an l).went l).length hc10))
      generalize w15.setCell ⟨w9.heap.size, 8, none⟩ (.slice ha10 (hsM d.mem (majorSt d an l).went l).length hc10) = w16 at *
      clear y8 z8 X12 B12 OH
      have OY := Lib.hid (own_lift M6.out.r2 B13.out)
      have OR := Lib.hid (own_lift HR6.out B13.out)
      have Z12 := Lib.hid ((B13.out.block _ (by have := H6.out.base.size; have := HYW.out; omega)).trans ((H6.out.base.block _ (by have := HYW.out; omega) (by have := HYW.out; simp; omega)).trans Z0.out))
      have HBF := Lib.hid ((HBL.out w9 H6.out.base).trans (B13.out.mono (by have := H6.out.base.size; have := HYW.out; omega)))
      have HSF := Lib.hid (show w.heap.size ≤ w9.heap.size ∧ w.heap.size ≤ Wz.heap.size by have := H6.out.base.size; have := HYW.out; omega)
      have x0 := cell_of X13.out 0
      have x1 := cell_of X13.out 1
      have x2 := cell_of X13.out 2
      have x3 := cell_of X13.out 3
      have x4 := cell_of X13.out 4
      have x5 := cell_of X13.out 5
      have x6 := cell_of X13.out 6
      have x7 := cell_of X13.out 7
      have x8 := cell_of X13.out 8
      have y0 := cell_of Z12.out 0
      have z0 := free_of Z12.out 0
      have y1 := cell_of Z12.out 1
      have z1 := free_of Z12.out 1
      have y2 := cell_of Z12.out 2
      have z2 := free_of Z12.out 2
      have y3 := cell_of Z12.out 3
      have z3 := free_of Z12.out 3
      have y4 := cell_of Z12.out 4
      have z4 := free_of Z12.out 4
      have y5 := cell_of Z12.out 5
      have z5 := free_of Z12.out 5
      have y6 := cell_of Z12.out 6
      have z6 := free_of Z12.out 6
      have y7 := cell_of Z12.out 7
      have z7 := free_of Z12.out 7
      have y8 := cell_of Z12.out 8
      have z8 := free_of Z12.out 8
      simp at x0 x1 x2 x3 x4 x5 x6 x7 x8 y0 y1 y2 y3 y4 y5 y6 y7 y8
      go_wp2_with fail
      have HH := set9_heap Z12.out (.int .i64 (an : Int)) (.slice ya (majorSt d an l).words.length yc) (.int .i64 0) (.slice none 0 0) (.int .i64 ((majorSt d an l).words.length : Int)) (.int .i64 ((majorSt d an l).words.length : Int)) (.slice none 0 0) (.slice ra6 (movesP d.mem an d.roots ⟨[], []⟩).1.length rc6) (.slice ha10 (hsM d.mem (majorSt d an l).went l).length hc10)
      have HBB := Lib.hid (set9_below HBF.out (show w.heap.size ≤ w.heap.size + 1 by omega) (.int .i64 (an : Int)) (.slice ya (majorSt d an l).words.length yc) (.int .i64 0) (.slice none 0 0) (.int .i64 ((majorSt d an l).words.length : Int)) (.int .i64 ((majorSt d an l).words.length : Int)) (.slice none 0 0) (.slice ra6 (movesP d.mem an d.roots ⟨[], []⟩).1.length rc6) (.slice ha10 (hsM d.mem (majorSt d an l).went l).length hc10))
      have OY2 := Lib.hid (own_low (own_set9 OY.out (b := w.heap.size + 1) (by have := HYW.out; omega) (.int .i64 (an : Int)) (.slice ya (majorSt d an l).words.length yc) (.int .i64 0) (.slice none 0 0) (.int .i64 ((majorSt d an l).words.length : Int)) (.int .i64 ((majorSt d an l).words.length : Int)) (.slice none 0 0) (.slice ra6 (movesP d.mem an d.roots ⟨[], []⟩).1.length rc6) (.slice ha10 (hsM d.mem (majorSt d an l).went l).length hc10)) (base' := w.heap.size) (by have := HSF.out; omega))
      have OR2 := Lib.hid (own_low (own_set9 OR.out (b := w.heap.size + 1) (by have := HYW.out; omega) (.int .i64 (an : Int)) (.slice ya (majorSt d an l).words.length yc) (.int .i64 0) (.slice none 0 0) (.int .i64 ((majorSt d an l).words.length : Int)) (.int .i64 ((majorSt d an l).words.length : Int)) (.slice none 0 0) (.slice ra6 (movesP d.mem an d.roots ⟨[], []⟩).1.length rc6) (.slice ha10 (hsM d.mem (majorSt d an l).went l).length hc10)) (base' := w.heap.size) (by have := HSF.out; omega))
      have OH2 := Lib.hid (own_low (own_set9 OH13.out (b := w.heap.size + 1) (by have := HYW.out; have := B9.out.size; have := H6.out.base.size; omega) (.int .i64 (an : Int)) (.slice ya (majorSt d an l).words.length yc) (.int .i64 0) (.slice none 0 0) (.int .i64 ((majorSt d an l).words.length : Int)) (.int .i64 ((majorSt d an l).words.length : Int)) (.slice none 0 0) (.slice ra6 (movesP d.mem an d.roots ⟨[], []⟩).1.length rc6) (.slice ha10 (hsM d.mem (majorSt d an l).went l).length hc10)) (base' := w.heap.size) (by have := HSF.out; have := B9.out.size; omega))
      clear y0 y1 y2 y3 y4 y5 y6 y7 y8 z0 z1 z2 z3 z4 z5 z6 z7 z8 x0 x1 x2 x3 x4 x5 x6 x7 x8
      unfold set9 set7 at HH HBB OY2 OR2 OH2
      generalize World.setCell _ ⟨w.heap.size + 1, 8, none⟩ (.slice ha10 (hsM d.mem (majorSt d an l).went l).length hc10) = V at *
      have y0 := cell_of HH 0
      have y1 := cell_of HH 1
      have y2 := cell_of HH 2
      have y3 := cell_of HH 3
      have y4 := cell_of HH 4
      have y5 := cell_of HH 5
      have y6 := cell_of HH 6
      have y7 := cell_of HH 7
      have y8 := cell_of HH 8
      simp at y0 y1 y2 y3 y4 y5 y6 y7 y8
      have hsl : (sortI (hsM d.mem (majorSt d an l).went l)).length = (hsM d.mem (majorSt d an l).went l).length := by unfold sortI; exact List.length_mergeSort _
      have HOUT := Lib.hid (show MajorOut w V d an l (dmpV (.int .i64 (an : Int)) (.slice ya (majorSt d an l).words.length yc) (.int .i64 0) (.slice none 0 0) ((majorSt d an l).words.length : Int) ((majorSt d an l).words.length : Int) (.slice none 0 0) (.slice ra6 (movesP d.mem an d.roots ⟨[], []⟩).1.length rc6) (.slice ha10 (hsM d.mem (majorSt d an l).went l).length hc10)) from
        ⟨_, _, _, rfl, OY2.out, OR2.out, by show V.ownsRow _ _ _ _ (sortI (hsM d.mem (majorSt d an l).went l)).length _; rw [hsl]; exact OH2.out⟩)
      refine bodyPost_ret (v := .tuple #[(dmpV (.int .i64 (an : Int)) (.slice ya (majorSt d an l).words.length yc) (.int .i64 0) (.slice none 0 0) ((majorSt d an l).words.length : Int) ((majorSt d an l).words.length : Int) (.slice none 0 0) (.slice ra6 (movesP d.mem an d.roots ⟨[], []⟩).1.length rc6) (.slice ha10 (hsM d.mem (majorSt d an l).went l).length hc10)), .bool true]) (by simp [results, Tryz.results20, go_sem, y0, y1, y2, y3, y4, y5, y6, y7, y8]) rfl ⟨l, _, HL.out, rfl, by rw [Int.toNat_natCast]; exact HOUT.out, HBB.out⟩

end Go.Proofs.YtlmpmjhanpkcnaaGreat
