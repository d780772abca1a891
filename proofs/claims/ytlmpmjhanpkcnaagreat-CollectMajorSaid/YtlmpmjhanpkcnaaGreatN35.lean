/-
  Collect: chapter 12's own walk.
-/
import Derived.Test.YtlmpmjhanpkcnaaGreatN34
set_option linter.unusedVariables false
set_option linter.unusedSimpArgs false
namespace Go.Proofs.YtlmpmjhanpkcnaaGreat
open Go.RowKit

def WalkEnd (R : Nat) (K : List (Nat × Obj)) (s' : Mt) (w w' : World) (e : Ending) : Prop := e = .returned (.tuple #[]) ∧ (∃ av hv, MtAt R K s' w' av hv) ∧ Below R w w'

theorem walk_not {m : List Frg} {f : Nat} {s : Mt} {x : Nat} (h : tagW x ≠ 4 ∧ tagW x ≠ 5) : walkP m (f + 1) s x = s := by rw [walkP, if_pos h]
theorem walk_in {m : List Frg} {f : Nat} {s : Mt} {x : Nat} (h : ¬ (tagW x ≠ 4 ∧ tagW x ≠ 5)) (h2 : x ∈ s.at_) : walkP m (f + 1) s x = s := by rw [walkP, if_neg h, if_pos h2]
theorem walk_cons {m : List Frg} {f : Nat} {s : Mt} {x : Nat} (h : tagW x = 5) (h2 : x ∉ s.at_) : walkP m (f + 1) s x = if (restP m (loadW x)).length < 2 then s else walkP m f (walkP m f ⟨s.at_ ++ [x], s.words + 2, s.hs⟩ ((restP m (loadW x)).getD 0 0)) ((restP m (loadW x)).getD 1 0) := by
  rw [walkP, if_neg (by omega), if_neg h2, if_pos h]
def boxW (m : List Frg) (f : Nat) (s : Mt) (x : Nat) : Option (Int × List Nat) → Mt
  | none => s
  | some o =>
    if o.1 = 0 then o.2.foldl (walkP m f) ⟨s.at_ ++ [x], s.words + 1 + o.2.length, s.hs⟩
    else if o.1 = 5 ∧ 0 < o.2.length then walkP m f ⟨s.at_ ++ [x], s.words + 1 + o.2.length, s.hs⟩ (o.2.getD 0 0)
    else if o.1 = 4 then ⟨s.at_ ++ [x], s.words + 1 + o.2.length, insP s.hs (loadW x)⟩
    else ⟨s.at_ ++ [x], s.words + 1 + o.2.length, s.hs⟩

theorem walk_box {m : List Frg} {f : Nat} {s : Mt} {x : Nat} (h : tagW x = 4) (h2 : x ∉ s.at_) : walkP m (f + 1) s x = boxW m f s x (boxP m x) := by
  rw [walkP, if_neg (by omega), if_neg h2, if_neg (by omega)]
  cases boxP m x <;> rfl

set_option maxHeartbeats 16000000 in
set_option maxRecDepth 100000 in
theorem walk_step (d : Dmp) (S : List Slt) (c0 c1 c2 c3 c4 c5 c6 c7 c8 c9 : Value) (deep : Bool) (wz : World) (R : Nat) (hlk : LkAt wz (.agg #[c0, c1, c2, c3, c4, c5, c6, c7, c8, c9, .bool deep]) d S deep) (hf : d.frags.length ≤ 100000) (hN : wordsN d.mem ≤ 5000) (hm : MemB d.mem) (hR : wz.heap.size ≤ R)
    (f : Nat) (ih : ∀ (s : Mt) (x : Nat) (K : List (Nat × Obj)) (w : World) (av hv : Value), MtOk d.mem s → 2 * wordsN d.mem + 1 ≤ f + s.at_.length → x < 18446744073709551616 → Below wz.heap.size wz w → MtAt R K s w av hv →
      Calls Tryz.prog 33 #[.agg #[c0, c1, c2, c3, c4, c5, c6, c7, c8, c9, .bool deep], .pointer (some ⟨R, 0, none⟩), .int .u64 x] w fun e w' => WalkEnd R K (walkP d.mem f s x) w w' e)
    (s : Mt) (x : Nat) (K : List (Nat × Obj)) (w : World) (av hv : Value) (hs : MtOk d.mem s) (hfu : 2 * wordsN d.mem + 1 ≤ f + 1 + s.at_.length) (hx : x < 18446744073709551616) (hbz : Below wz.heap.size wz w) (hM : MtAt R K s w av hv) :
    Calls Tryz.prog 33 #[.agg #[c0, c1, c2, c3, c4, c5, c6, c7, c8, c9, .bool deep], .pointer (some ⟨R, 0, none⟩), .int .u64 x] w fun e w' => WalkEnd R K (walkP d.mem (f + 1) s x) w w' e := by
  have HLK := Lib.hid hlk
  have IH := Lib.hid ih
  have HOK := Lib.hid hs
  have HFU := Lib.hid hfu
  have HX := Lib.hid hx
  have HBZ := Lib.hid hbz
  have HMB := Lib.hid hm
  have HNN := Lib.hid hN
  have HFF := Lib.hid hf
  have HRZ := Lib.hid hR
  have HRW := Lib.hid (lt_of_block hM.blk)
  obtain ⟨b, hbe⟩ : ∃ b, w.heap.size = b := ⟨_, rfl⟩
  have T := one_at w (.cells #[c0, c1, c2, c3, c4, c5, c6, c7, c8, c9, .bool deep] 53)
  have HM1 := Lib.hid (hM.keep T.2.2 T.1 (Nat.le_refl _))
  have HB1 := Lib.hid (T.2.2.mono (show R ≤ w.heap.size from Nat.le_of_lt HRW.out))
  rw [hbe] at HM1
  obtain ⟨tg, htg⟩ : ∃ tg, tagW x = tg := ⟨_, rfl⟩
  obtain ⟨l, hl⟩ : ∃ l, loadW x = l := ⟨_, rfl⟩
  have HTG := Lib.hid (show ∀ W, Calls Tryz.prog 40 #[.int .u64 x] W fun e W' => e = .returned (.int .i64 (tg : Nat)) ∧ W = W' from fun W => (tag8_any x hx W).mono fun e w' q => ⟨by rw [q.1, htg], q.2⟩)
  have HLD := Lib.hid (show ∀ W, Calls Tryz.prog 39 #[.int .u64 x] W fun e W' => e = .returned (.int .i64 l) ∧ W = W' from fun W => (load8_any x hx W).mono fun e w' q => ⟨by rw [q.1, hl], q.2⟩)
  have HTE := Lib.hid htg
  have HLE := Lib.hid hl
  have HIN := Lib.hid (show -9223372036854775808 ≤ l ∧ l ≤ 9223372036854775807 by rw [← hl]; exact loadW_in x hx)
  clear hlk hf hN hm hR ih hs hfu hx hbz hM T htg hl
  go_enter Tryz.func33, Tryz.ntmps33
  go_upto_region 1 with fail
  generalize w.alloc (.cells #[c0, c1, c2, c3, c4, c5, c6, c7, c8, c9, .bool deep] 53) = w1 at *
  by_cases h45 : tg = 4 ∨ tg = 5
  case neg =>
    have q1 : ((tg : Int) != 4) = true := by rw [bne_iff_ne]; omega
    have q2 : ((tg : Int) != 5) = true := by rw [bne_iff_ne]; omega
    have HW := Lib.hid (show walkP d.mem (f + 1) s x = s from walk_not (by rw [HTE.out]; omega))
    clear h45
    go_wp2_with (go_at_call 40; refine (HTG.out _).mono ?_; rintro e w4 ⟨rfl, rfl⟩)
    exact bodyPost_ret (v := .tuple #[]) (by simp [results, Tryz.results33, go_sem]) rfl ⟨rfl, by rw [HW.out]; exact ⟨_, _, HM1.out.less (fun p hp => List.mem_cons_of_mem _ hp)⟩, HB1.out⟩
  case pos =>
  have H45 := Lib.hid h45
  go_upto_region 2 with (go_at_call 40; refine (HTG.out _).mono ?_; rintro e w4 ⟨rfl, rfl⟩)
  go_cut [21] from 16 to 21 (fun c wx => c = .bool false ∧ w1 = wx)
  case first =>
    rcases h45 with h4 | h5
    · have q1 : ((tg : Int) != 4) = false := by rw [h4]; rfl
      clear h4
      go_wp2_with fail
      go_meet
      exact ⟨rfl, rfl⟩
    · have q1 : ((tg : Int) != 4) = true := by rw [h5]; rfl
      have q2 : ((tg : Int) != 5) = false := by rw [h5]; rfl
      clear h5
      go_wp2_with fail
      go_meet
      exact ⟨rfl, rfl⟩
  case rest =>
  obtain ⟨rfl, hw1⟩ := hcut
  subst hw1
  clear h45
  have hcx : HTG.out = HTG.out := rfl
  have r0 := cell_of HM1.out.blk 0
  simp at r0
  obtain ⟨aa, ac, rfl⟩ := own_slice HM1.out.oa
  have HNE : ¬ (tagW x ≠ 4 ∧ tagW x ≠ 5) := by rw [HTE.out]; have := H45.out; omega
  have HNE := Lib.hid HNE
  have HAL := Lib.hid (show s.at_.length ≤ 1000000 by have := HOK.out.count; have := HNN.out; omega)
  clear hcx
  go_wp2_with (go_at_call 39; refine (HLD.out _).mono ?_; rintro e w4 ⟨rfl, rfl⟩)
  go_loopw [8] (fun i wr => ∃ (k : Nat), k ≤ s.at_.length ∧ i = .int .i64 k ∧ Hid (x ∉ s.at_.take k) ∧ w1 = wr) (fun i _ => s.at_.length - (intOf i).toNat)
  case atStart => exact ⟨0, by omega, rfl, Lib.hid (by simp), rfl⟩
  case round =>
  obtain ⟨k, hk, rfl, HT, rfl⟩ := hrel
  by_cases hlt : k < s.at_.length
  · have q1 : (k : Int) < (s.at_.length : Int) := by omega
    have q0 : (0 : Int) ≤ (k : Int) := by omega
    rcases HM1.out.oa.2 with ⟨e, h0⟩ | ⟨g, cap, cur, e, hbg, hg, hnc, hcm, hcs, htk⟩
    · omega
    · simp only [Value.slice.injEq, true_and] at e
      obtain ⟨rfl, rfl⟩ := e
      have k0 := (own_cellW HM1.out.oa hlt).1
      obtain ⟨p, hp⟩ : ∃ p, s.at_[k] = p := ⟨_, rfl⟩
      rw [hp] at k0
      have HP := Lib.hid hp
      clear hp hbg hg hnc hcm hcs htk
      by_cases he : p = x
      · have q3 : ((p : Int) == (x : Int)) = true := by rw [he]; simp
        have HW := Lib.hid (show walkP d.mem (f + 1) s x = s from walk_in HNE.out (by rw [← he, ← HP.out]; exact List.getElem_mem hlt))
        clear he
        go_wp2_with fail
        exact bodyPost_ret (v := .tuple #[]) (by simp [results, Tryz.results33, go_sem]) rfl ⟨rfl, by rw [HW.out]; exact ⟨_, _, HM1.out.less (fun p hp => List.mem_cons_of_mem _ hp)⟩, HB1.out⟩
      · have q3 : ((p : Int) == (x : Int)) = false := by rw [beq_eq_false_iff_ne]; omega
        have HT2 := Lib.hid (show x ∉ s.at_.take (k + 1) by
          rw [List.take_succ_eq_append_getElem hlt]
          intro h
          rcases List.mem_append.1 h with q | q
          · exact HT.out q
          · simp at q; exact he (by rw [← HP.out, q]))
        have QK := Lib.hid (show k + 1 ≤ s.at_.length ∧ s.at_.length - (k + 1) < s.at_.length - k by omega)
        have q5 : IntKind.i64.wrap ((k : Int) + 1) = (k : Int) + 1 := IntWalk.i64_in _ (by have := HAL.out; omega)
        clear he
        go_wp2_with fail
        go_roundw
        case rel => exact ⟨k + 1, QK.out.1, by go_num, HT2, by first | rfl | trivial⟩
        case measure => clear q5; have := QK.out.2; simp [intOf]; omega
  obtain rfl : k = s.at_.length := by omega
  have q1 : ¬ (s.at_.length : Int) < (s.at_.length : Int) := by omega
  have HNI := Lib.hid (show x ∉ s.at_ by have := HT.out; rwa [List.take_length] at this)
  clear HT hk hlt
  by_cases h5 : tg = 5
  · -- a pair
    subst h5
    obtain ⟨ws, hws0⟩ : ∃ ws, restP d.mem l = ws := ⟨_, rfl⟩
    have HWS := Lib.hid hws0
    have HWK := Lib.hid (show walkP d.mem (f + 1) s x = if ws.length < 2 then s else walkP d.mem f (walkP d.mem f ⟨s.at_ ++ [x], s.words + 2, s.hs⟩ (ws.getD 0 0)) (ws.getD 1 0) by rw [walk_cons HTE.out HNI.out, HLE.out, hws0])
    have XBK := Lib.hid (HM1.out.kp _ List.mem_cons_self).1
    have x0 := cell_of XBK.out 0
    have x1 := cell_of XBK.out 1
    have x2 := cell_of XBK.out 2
    have x3 := cell_of XBK.out 3
    have x4 := cell_of XBK.out 4
    have x5 := cell_of XBK.out 5
    have x6 := cell_of XBK.out 6
    have x7 := cell_of XBK.out 7
    have x8 := cell_of XBK.out 8
    have x9 := cell_of XBK.out 9
    have x10 := cell_of XBK.out 10
    simp at x0 x1 x2 x3 x4 x5 x6 x7 x8 x9 x10
    have HZ1 := Lib.hid (HBZ.out.trans (HB1.out.mono HRZ.out))
    go_wp2_with fail
    refine (at2_any d S deep _ l wz w1 HLK.out HZ1.out HFF.out HIN.out).mono ?_
    rintro e w2 ⟨⟨wv, rfl, hws⟩, hb2⟩
    rw [hws0] at hws
    clear hws0
    have HM2 := Lib.hid (HM1.out.lift hb2)
    have HB2 := Lib.hid (HB1.out.trans (hb2.mono (by have := lt_of_block HM1.out.blk; omega)))
    have HV := Lib.hid hws
    obtain ⟨_, _, va, vc, rfl, _⟩ := hws
    clear hb2 r0 x0 x1 x2 x3 x4 x5 x6 x7 x8 x9 x10
    by_cases h2 : ws.length < 2
    · have q2 : ¬ (2 : Int) ≤ (ws.length : Int) := by omega
      have q3 : (ws.length : Int) < 2 := by omega
      have HW := Lib.hid (show walkP d.mem (f + 1) s x = s by rw [HWK.out, if_pos h2])
      clear h2
      go_wp2_with fail
      exact bodyPost_ret (v := .tuple #[]) (by simp [results, Tryz.results33, go_sem]) rfl ⟨rfl, by rw [HW.out]; exact ⟨_, _, HM2.out.less (fun p hp => List.mem_cons_of_mem _ hp)⟩, HB2.out⟩
    · have q2 : (2 : Int) ≤ (ws.length : Int) := by omega
      have q3 : ¬ (ws.length : Int) < 2 := by omega
      have HW := Lib.hid (show walkP d.mem (f + 1) s x = walkP d.mem f (walkP d.mem f ⟨s.at_ ++ [x], s.words + 2, s.hs⟩ (ws.getD 0 0)) (ws.getD 1 0) by rw [HWK.out, if_neg h2])
      have H2 := Lib.hid (show 2 ≤ ws.length by omega)
      clear h2
      have r0 := cell_of HM2.out.blk 0
      have r1 := cell_of HM2.out.blk 1
      simp at r0 r1
      obtain ⟨i0, hi, hz0, hz1, hz2⟩ := info_parts info37
      go_upto_region 12 with (at_builtin; refine wpList_append_any _ rfl (.tmp 54) (.tmp 56) 22 rfl (R + 1) 47 i0 _ 1 8 Tryz.underlying22 hi hz0 hz1 hz2 rfl (by omega) _ s.at_.length (csW s.at_) rfl (World.ownsRow.alloc HM2.out.oa _) _ (some ⟨w2.heap.size, 0, none⟩) 1 1 [.int .u64 x] rfl (reads_many w2 [.int .u64 x] 47 1 rfl) (one_u64 x) (by have := HAL.out; unfold maxLen; omega) (by have := HAL.out; omega) (by have := lt_of_block HM2.out.blk; simp; omega) ?_; intro v9 w9 hown9 hg9 hv9; have PB := Lib.hid (HM2.out.pushed hg9 hown9 hv9); obtain ⟨bq, cq, rfl⟩ := own_slice hown9; have yy := cell_of PB.out.1 0; have yf := free_of PB.out.1 0; simp at yy yf; clear hown9 hg9 hv9)
      have HM3 := Lib.hid PB.out.2.1
      have HB3 := Lib.hid (HB2.out.trans PB.out.2.2)
      clear PB yy yf r0 r1
      generalize w9.setCell ⟨R, 0, none⟩ (.slice bq (s.at_.length + 1) cq) = w3 at *
      have r1 := cell_of HM3.out.blk 1
      have f1 := free_of HM3.out.blk 1
      simp at r1
      have HWD := Lib.hid (show s.words ≤ 60000000 by have := HOK.out.wle; have := HOK.out.count; have := HNN.out; omega)
      have q5 : IntKind.i64.wrap ((s.words : Int) + 2) = ((s.words + 2 : Nat) : Int) := by rw [IntWalk.i64_in _ (by have := HWD.out; omega)]; omega
      obtain ⟨wn, hwn⟩ : ∃ wn : Nat, s.words + 2 = wn := ⟨_, rfl⟩
      rw [hwn] at q5
      go_upto_region 13 with fail
      have HM4 := Lib.hid (HM3.out.counted wn)
      have HB4 := Lib.hid (HB3.out.setCell (p := ⟨R, 1, none⟩) (Nat.le_refl _) (.int .i64 (wn : Int)))
      clear r1 f1 q5
      generalize w3.setCell ⟨R, 1, none⟩ (.int .i64 (wn : Int)) = w4 at *
      have HOK1 := Lib.hid (show MtOk d.mem ⟨s.at_ ++ [x], wn, s.hs⟩ by rw [← hwn]; exact HOK.out.push HNN.out HX.out (.inr HTE.out) (by rw [HLE.out, HWS.out]; intro e; have := H2.out; rw [e] at this; simp at this) HNI.out (by omega) (Nat.le_succ _))
      have HFU1 := Lib.hid (show 2 * wordsN d.mem + 1 ≤ f + (Mt.mk (s.at_ ++ [x]) wn s.hs).at_.length by have := HFU.out; simp; omega)
      rw [hwn] at HW
      clear hwn HWD
      have HZ4 := Lib.hid (HBZ.out.trans (HB4.out.mono HRZ.out))
      obtain ⟨g, o, hva⟩ : ∃ g o, va = some ⟨g, o, none⟩ := by
        obtain ⟨_, _, a', c', e, _, _, hc⟩ := HV.out
        simp only [Value.slice.injEq, true_and] at e
        obtain ⟨rfl, rfl⟩ := e
        obtain ⟨g, o, e, _⟩ := hc 0 (by have := H2.out; omega)
        exact ⟨g, o, e⟩
      subst hva
      have HE0 := Lib.hid (HV.out.at (j := 0) (by have := H2.out; omega))
      have HE1 := Lib.hid (HV.out.at (j := 1) (by have := H2.out; omega))
      have hu0 := HE0.out
      have hu1 := HE1.out
      obtain ⟨u0, hu0e⟩ : ∃ u0, ws.getD 0 0 = u0 := ⟨_, rfl⟩
      obtain ⟨u1, hu1e⟩ : ∃ u1, ws.getD 1 0 = u1 := ⟨_, rfl⟩
      have HU0 := Lib.hid (show u0 < 18446744073709551616 by rw [← hu0e]; exact HV.out.2.1 _ (getD_mem (by have := H2.out; omega)))
      have HU1 := Lib.hid (show u1 < 18446744073709551616 by rw [← hu1e]; exact HV.out.2.1 _ (getD_mem (by have := H2.out; omega)))
      rw [hu0e] at HW hu0
      rw [hu1e] at HW hu1
      have HC0 := Lib.hid hu0
      have HC1 := Lib.hid hu1
      clear hu0 hu1 hu0e hu1e HE0 HE1 HWK
      have q6 : (0 : Int) < (ws.length : Int) := by omega
      have q7 : (1 : Int) < (ws.length : Int) := by omega
      have q6n : 0 < ws.length := by omega
      have q7n : 1 < ws.length := by omega
      have XBK := Lib.hid (HM4.out.kp _ List.mem_cons_self).1
      have x0 := cell_of XBK.out 0
      have x1 := cell_of XBK.out 1
      have x2 := cell_of XBK.out 2
      have x3 := cell_of XBK.out 3
      have x4 := cell_of XBK.out 4
      have x5 := cell_of XBK.out 5
      have x6 := cell_of XBK.out 6
      have x7 := cell_of XBK.out 7
      have x8 := cell_of XBK.out 8
      have x9 := cell_of XBK.out 9
      have x10 := cell_of XBK.out 10
      simp at x0 x1 x2 x3 x4 x5 x6 x7 x8 x9 x10
      have y0 := (HZ4.out.cell (World.block_lt_of_cell? wz _ HC0.out)).trans HC0.out
      refine wp_region_still_tail 5 (by kernel_rfl) (by kernel_rfl) ?_
      simp only [List.take_succ_cons, List.take_zero, List.drop_succ_cons, List.drop_zero]
      change wpStill _ _ w4.drew (fun a' => wpList _ _ _ _ a' w4.drew) _ _
      have x0 : w4.drew.cell? _ = _ := x0
      have x1 : w4.drew.cell? _ = _ := x1
      have x2 : w4.drew.cell? _ = _ := x2
      have x3 : w4.drew.cell? _ = _ := x3
      have x4 : w4.drew.cell? _ = _ := x4
      have x5 : w4.drew.cell? _ = _ := x5
      have x6 : w4.drew.cell? _ = _ := x6
      have x7 : w4.drew.cell? _ = _ := x7
      have x8 : w4.drew.cell? _ = _ := x8
      have x9 : w4.drew.cell? _ = _ := x9
      have x10 : w4.drew.cell? _ = _ := x10
      have y0 : w4.drew.cell? _ = _ := y0
      have DB := Lib.hid (show Below w4.heap.size w4 w4.drew from (Below.refl _ _).drew)
      have HM4d := Lib.hid (HM4.out.lift DB.out)
      have HB4d := Lib.hid (HB4.out.drew)
      generalize w4.drew = wd at *
      try simp at x0 x1 x2 x3 x4 x5 x6 x7 x8 x9 x10 y0
      repeat still_step
      refine wpStill_nil ?_
      go_wp2_with fail
      have HQ := IH.out ⟨s.at_ ++ [x], wn, s.hs⟩ u0 _ wd _ _ HOK1.out HFU1.out HU0.out (HBZ.out.trans (HB4d.out.mono HRZ.out)) HM4d.out
      refine HQ.mono ?_
      clear HQ
      rintro e w5 ⟨rfl, ⟨av5, hv5, hM5⟩, hb5⟩
      have HM5 := Lib.hid hM5
      have HB5 := Lib.hid (HB4d.out.trans hb5)
      have HK1 := Lib.hid (walk_ok HMB.out HNN.out f _ u0 HOK1.out HU0.out)
      clear hM5 hb5 y0 x0 x1 x2 x3 x4 x5 x6 x7 x8 x9 x10
      have HZ5 := Lib.hid (HBZ.out.trans (HB5.out.mono HRZ.out))
      have XBK := Lib.hid (HM5.out.kp _ List.mem_cons_self).1
      have x0 := cell_of XBK.out 0
      have x1 := cell_of XBK.out 1
      have x2 := cell_of XBK.out 2
      have x3 := cell_of XBK.out 3
      have x4 := cell_of XBK.out 4
      have x5 := cell_of XBK.out 5
      have x6 := cell_of XBK.out 6
      have x7 := cell_of XBK.out 7
      have x8 := cell_of XBK.out 8
      have x9 := cell_of XBK.out 9
      have x10 := cell_of XBK.out 10
      simp at x0 x1 x2 x3 x4 x5 x6 x7 x8 x9 x10
      have y0 := (HZ5.out.cell (World.block_lt_of_cell? wz _ HC1.out)).trans HC1.out
      go_upto_region 14 with fail
      refine wp_region_still_tail 5 (by kernel_rfl) (by kernel_rfl) ?_
      simp only [List.take_succ_cons, List.take_zero, List.drop_succ_cons, List.drop_zero]
      change wpStill _ _ w5.drew (fun a' => wpList _ _ _ _ a' w5.drew) _ _
      have x0 : w5.drew.cell? _ = _ := x0
      have x1 : w5.drew.cell? _ = _ := x1
      have x2 : w5.drew.cell? _ = _ := x2
      have x3 : w5.drew.cell? _ = _ := x3
      have x4 : w5.drew.cell? _ = _ := x4
      have x5 : w5.drew.cell? _ = _ := x5
      have x6 : w5.drew.cell? _ = _ := x6
      have x7 : w5.drew.cell? _ = _ := x7
      have x8 : w5.drew.cell? _ = _ := x8
      have x9 : w5.drew.cell? _ = _ := x9
      have x10 : w5.drew.cell? _ = _ := x10
      have y0 : w5.drew.cell? _ = _ := y0
      have DB := Lib.hid (show Below w5.heap.size w5 w5.drew from (Below.refl _ _).drew)
      have HM5d := Lib.hid (HM5.out.lift DB.out)
      have HB5d := Lib.hid (HB5.out.drew)
      generalize w5.drew = wd at *
      try simp at x0 x1 x2 x3 x4 x5 x6 x7 x8 x9 x10 y0
      repeat still_step
      refine wpStill_nil ?_
      go_wp2_with fail
      have HQ := IH.out _ u1 _ wd _ _ HK1.out.1 (by have := HFU1.out; have := HK1.out.2; omega) HU1.out (HBZ.out.trans (HB5d.out.mono HRZ.out)) HM5d.out
      refine HQ.mono ?_
      clear HQ
      rintro e w6 ⟨rfl, ⟨av6, hv6, hM6⟩, hb6⟩
      have HM6 := Lib.hid hM6
      have HB6 := Lib.hid (HB5d.out.trans hb6)
      clear hM6 hb6 y0 x0 x1 x2 x3 x4 x5 x6 x7 x8 x9 x10
      go_wp2_with fail
      exact bodyPost_ret (v := .tuple #[]) (by simp [results, Tryz.results33, go_sem]) rfl ⟨rfl, by rw [HW.out]; exact ⟨_, _, HM6.out.less (fun p hp => List.mem_cons_of_mem _ hp)⟩, HB6.out⟩
  · -- a box
    have h4 : tg = 4 := by have := H45.out; omega
    subst h4
    obtain ⟨r, hr0⟩ : ∃ r, boxP d.mem x = r := ⟨_, rfl⟩
    have HBX := Lib.hid hr0
    have HWK := Lib.hid (show walkP d.mem (f + 1) s x = boxW d.mem f s x r by rw [walk_box HTE.out HNI.out, hr0])
    have XBK := Lib.hid (HM1.out.kp _ List.mem_cons_self).1
    have x0 := cell_of XBK.out 0
    have x1 := cell_of XBK.out 1
    have x2 := cell_of XBK.out 2
    have x3 := cell_of XBK.out 3
    have x4 := cell_of XBK.out 4
    have x5 := cell_of XBK.out 5
    have x6 := cell_of XBK.out 6
    have x7 := cell_of XBK.out 7
    have x8 := cell_of XBK.out 8
    have x9 := cell_of XBK.out 9
    have x10 := cell_of XBK.out 10
    simp at x0 x1 x2 x3 x4 x5 x6 x7 x8 x9 x10
    have HZ1 := Lib.hid (HBZ.out.trans (HB1.out.mono HRZ.out))
    go_wp2_with fail
    refine (box2_any d S deep _ x wz w1 HLK.out HZ1.out HFF.out HX.out).mono ?_
    rintro e w2 ⟨⟨wv, rfl, hws⟩, hb2⟩
    rw [hr0] at hws
    rw [hr0]
    clear hr0
    have HM2 := Lib.hid (HM1.out.lift hb2)
    have HB2 := Lib.hid (HB1.out.trans (hb2.mono (by have := lt_of_block HM1.out.blk; omega)))
    clear hb2 r0 x0 x1 x2 x3 x4 x5 x6 x7 x8 x9 x10
    cases r with
    | none =>
      have HW := Lib.hid (show walkP d.mem (f + 1) s x = s from HWK.out)
      obtain ⟨_, _, va, vc, rfl, _⟩ := hws
      go_wp2_with fail
      exact bodyPost_ret (v := .tuple #[]) (by simp [results, Tryz.results33, go_sem]) rfl ⟨rfl, by rw [HW.out]; exact ⟨_, _, HM2.out.less (fun p hp => List.mem_cons_of_mem _ hp)⟩, HB2.out⟩
    | some o =>
      obtain ⟨kd, ws⟩ := o
      simp only [Option.getD_some, Option.isSome_some] at hws ⊢
      have HV := Lib.hid hws
      obtain ⟨_, _, va, vc, rfl, _⟩ := hws
      have HBL := Lib.hid (box_len HBX.out)
      have HWL := Lib.hid (show ws.length ≤ 5000 by have h1 := HBL.out.2.1; have h2 := HNN.out; exact Nat.le_trans h1 h2)
      have r0 := cell_of HM2.out.blk 0
      have r1 := cell_of HM2.out.blk 1
      simp at r0 r1
      obtain ⟨i0, hi, hz0, hz1, hz2⟩ := info_parts info37
      go_upto_region 18 with (at_builtin; refine wpList_append_any _ rfl (.tmp 93) (.tmp 95) 22 rfl (R + 1) 47 i0 _ 1 8 Tryz.underlying22 hi hz0 hz1 hz2 rfl (by omega) _ s.at_.length (csW s.at_) rfl (World.ownsRow.alloc HM2.out.oa _) _ (some ⟨w2.heap.size, 0, none⟩) 1 1 [.int .u64 x] rfl (reads_many w2 [.int .u64 x] 47 1 rfl) (one_u64 x) (by have := HAL.out; unfold maxLen; omega) (by have := HAL.out; omega) (by have := lt_of_block HM2.out.blk; simp; omega) ?_; intro v9 w9 hown9 hg9 hv9; have PB := Lib.hid (HM2.out.pushed hg9 hown9 hv9); obtain ⟨bq, cq, rfl⟩ := own_slice hown9; have yy := cell_of PB.out.1 0; have yf := free_of PB.out.1 0; simp at yy yf; clear hown9 hg9 hv9)
      have HM3 := Lib.hid PB.out.2.1
      have HB3 := Lib.hid (HB2.out.trans PB.out.2.2)
      clear PB yy yf r0 r1
      generalize w9.setCell ⟨R, 0, none⟩ (.slice bq (s.at_.length + 1) cq) = w3 at *
      have r1 := cell_of HM3.out.blk 1
      have f1 := free_of HM3.out.blk 1
      simp at r1
      have HWD := Lib.hid (show s.words ≤ 60000000 by have := HOK.out.wle; have := HOK.out.count; have := HNN.out; omega)
      have q4 : IntKind.i64.wrap ((s.words : Int) + 1) = ((s.words + 1 : Nat) : Int) := by rw [IntWalk.i64_in _ (by have := HWD.out; omega)]; omega
      have q5 : IntKind.i64.wrap (((s.words + 1 : Nat) : Int) + (ws.length : Int)) = ((s.words + 1 + ws.length : Nat) : Int) := by rw [IntWalk.i64_in _ (by have := HWD.out; have := HWL.out; omega)]; omega
      obtain ⟨wm, hwm⟩ : ∃ wm : Nat, s.words + 1 = wm := ⟨_, rfl⟩
      rw [hwm] at q4 q5
      obtain ⟨wn, hwn⟩ : ∃ wn : Nat, wm + ws.length = wn := ⟨_, rfl⟩
      rw [hwn] at q5
      go_upto_region 19 with fail
      have HM4 := Lib.hid (HM3.out.counted wn)
      have HB4 := Lib.hid (HB3.out.setCell (p := ⟨R, 1, none⟩) (Nat.le_refl _) (.int .i64 (wn : Int)))
      clear r1 f1 q5 q4
      generalize w3.setCell ⟨R, 1, none⟩ (.int .i64 (wn : Int)) = w4 at *
      have HWN := Lib.hid (show s.words + 1 + ws.length = wn by rw [hwm, hwn])
      have HPUSH := Lib.hid (show ∀ (hs : List Int), hs.length ≤ s.hs.length + 1 → MtOk d.mem ⟨s.at_ ++ [x], wn, hs⟩ from fun hs hh => by rw [← HWN.out, Nat.add_assoc]; exact HOK.out.push HNN.out HX.out (.inl HTE.out) HBL.out.1 HNI.out (by have := HWL.out; omega) hh)
      have HOK1 := Lib.hid (HPUSH.out s.hs (Nat.le_succ _))
      have HFU1 := Lib.hid (show 2 * wordsN d.mem + 1 ≤ f + (Mt.mk (s.at_ ++ [x]) wn s.hs).at_.length by have := HFU.out; simp; omega)
      have HWK := Lib.hid (show walkP d.mem (f + 1) s x = if kd = 0 then ws.foldl (walkP d.mem f) ⟨s.at_ ++ [x], wn, s.hs⟩ else if kd = 5 ∧ 0 < ws.length then walkP d.mem f ⟨s.at_ ++ [x], wn, s.hs⟩ (ws.getD 0 0) else if kd = 4 then ⟨s.at_ ++ [x], wn, insP s.hs (loadW x)⟩ else ⟨s.at_ ++ [x], wn, s.hs⟩ by rw [HWK.out, ← HWN.out]; rfl)
      clear hwn hwm HWD
      have HZ4 := Lib.hid (HBZ.out.trans (HB4.out.mono HRZ.out))
      by_cases k0 : kd = 0
      · subst k0
        have HW := Lib.hid (show walkP d.mem (f + 1) s x = ws.foldl (walkP d.mem f) ⟨s.at_ ++ [x], wn, s.hs⟩ by rw [HWK.out, if_pos rfl])
        go_wp2_with fail
        go_loopw [13] (fun i wr => ∃ (j : Nat) (s' : Mt) (av' hv' : Value), j ≤ ws.length ∧ i = .int .i64 j ∧ Hid (s' = (ws.take j).foldl (walkP d.mem f) ⟨s.at_ ++ [x], wn, s.hs⟩) ∧ Hid (MtAt R ((b, .cells #[c0, c1, c2, c3, c4, c5, c6, c7, c8, c9, .bool deep] 53 (0, 0)) :: K) s' wr av' hv') ∧ Hid (Below R w wr) ∧ Hid (MtOk d.mem s' ∧ s.at_.length + 1 ≤ s'.at_.length)) (fun i _ => ws.length - (intOf i).toNat)
        case atStart => exact ⟨0, _, _, _, by omega, rfl, Lib.hid rfl, HM4, HB4, Lib.hid ⟨HOK1.out, by simp⟩⟩
        case round =>
          obtain ⟨j, s', av', hv', hj, rfl, HSE, HMr, HBr, HOr⟩ := hrel
          by_cases hlt : j < ws.length
          · have q1 : (j : Int) < (ws.length : Int) := by omega
            have q0 : (0 : Int) ≤ (j : Int) := by omega
            have HZr := Lib.hid (HBZ.out.trans (HBr.out.mono HRZ.out))
            obtain ⟨g, o, hva⟩ : ∃ g o, va = some ⟨g, o, none⟩ := by
              obtain ⟨_, _, a', c', e, _, _, hc⟩ := HV.out
              simp only [Value.slice.injEq, true_and] at e
              obtain ⟨rfl, rfl⟩ := e
              obtain ⟨g, o, e, _⟩ := hc j hlt
              exact ⟨g, o, e⟩
            subst hva
            have hu0 := HV.out.at (j := j) hlt
            obtain ⟨u0, hu0e⟩ : ∃ u0, ws.getD j 0 = u0 := ⟨_, rfl⟩
            have HU0 := Lib.hid (show u0 < 18446744073709551616 by rw [← hu0e]; exact HV.out.2.1 _ (getD_mem hlt))
            rw [hu0e] at hu0
            have HC0 := Lib.hid hu0
            have HUE := Lib.hid (show ws[j] = u0 by rw [← hu0e, List.getD_eq_getElem?_getD, List.getElem?_eq_getElem hlt]; rfl)
            clear hu0 hu0e
            have HLT := Lib.hid hlt
            have QK := Lib.hid (show j + 1 ≤ ws.length ∧ ws.length - (j + 1) < ws.length - j by omega)
            have XBK := Lib.hid (HMr.out.kp _ List.mem_cons_self).1
            have x0 := cell_of XBK.out 0
            have x1 := cell_of XBK.out 1
            have x2 := cell_of XBK.out 2
            have x3 := cell_of XBK.out 3
            have x4 := cell_of XBK.out 4
            have x5 := cell_of XBK.out 5
            have x6 := cell_of XBK.out 6
            have x7 := cell_of XBK.out 7
            have x8 := cell_of XBK.out 8
            have x9 := cell_of XBK.out 9
            have x10 := cell_of XBK.out 10
            simp at x0 x1 x2 x3 x4 x5 x6 x7 x8 x9 x10
            have y0 := (HZr.out.cell (World.block_lt_of_cell? wz _ HC0.out)).trans HC0.out
            go_upto_region 23 with fail
            refine wp_region_still_tail 6 (by kernel_rfl) (by kernel_rfl) ?_
            simp only [List.take_succ_cons, List.take_zero, List.drop_succ_cons, List.drop_zero]
            change wpStill _ _ wr.drew (fun a' => wpList _ _ _ _ a' wr.drew) _ _
            have x0 : wr.drew.cell? _ = _ := x0
            have x1 : wr.drew.cell? _ = _ := x1
            have x2 : wr.drew.cell? _ = _ := x2
            have x3 : wr.drew.cell? _ = _ := x3
            have x4 : wr.drew.cell? _ = _ := x4
            have x5 : wr.drew.cell? _ = _ := x5
            have x6 : wr.drew.cell? _ = _ := x6
            have x7 : wr.drew.cell? _ = _ := x7
            have x8 : wr.drew.cell? _ = _ := x8
            have x9 : wr.drew.cell? _ = _ := x9
            have x10 : wr.drew.cell? _ = _ := x10
            have y0 : wr.drew.cell? _ = _ := y0
            have DB := Lib.hid (show Below wr.heap.size wr wr.drew from (Below.refl _ _).drew)
            have HMrd := Lib.hid (HMr.out.lift DB.out)
            have HBrd := Lib.hid (HBr.out.drew)
            generalize wr.drew = wd at *
            try simp at x0 x1 x2 x3 x4 x5 x6 x7 x8 x9 x10 y0
            repeat still_step
            refine wpStill_nil ?_
            go_wp2_with fail
            have HQ := IH.out s' u0 _ wd _ _ HOr.out.1 (by have := HFU1.out; have := HOr.out.2; simp at this ⊢; simp at *; omega) HU0.out (HBZ.out.trans (HBrd.out.mono HRZ.out)) HMrd.out
            refine HQ.mono ?_
            clear HQ
            rintro e w5 ⟨rfl, ⟨av5, hv5, hM5⟩, hb5⟩
            have HM5 := Lib.hid hM5
            have HB5 := Lib.hid (HBrd.out.trans hb5)
            have HK1 := Lib.hid (walk_ok HMB.out HNN.out f s' u0 HOr.out.1 HU0.out)
            clear hM5 hb5 y0 x0 x1 x2 x3 x4 x5 x6 x7 x8 x9 x10
            have q5 : IntKind.i64.wrap ((j : Int) + 1) = (j : Int) + 1 := IntWalk.i64_in _ (by have := HWL.out; have := QK.out.1; omega)
            go_wp2_with fail
            go_roundw
            case rel => exact ⟨j + 1, _, _, _, QK.out.1, by go_num, Lib.hid (by rw [List.take_succ_eq_append_getElem HLT.out, List.foldl_append, ← HSE.out, HUE.out]; rfl), HM5, HB5, Lib.hid ⟨HK1.out.1, by have := HK1.out.2; have := HOr.out.2; omega⟩⟩
            case measure => clear q5; have := QK.out.2; simp [intOf]; omega
          · obtain rfl : j = ws.length := by omega
            have q1 : ¬ (ws.length : Int) < (ws.length : Int) := by omega
            have HW2 := Lib.hid (show walkP d.mem (f + 1) s x = s' by rw [HW.out, HSE.out, List.take_length])
            clear hlt hj
            go_wp2_with fail
            first | (exact bodyPost_ret (v := .tuple #[]) (by simp [results, Tryz.results33, go_sem]) rfl ⟨rfl, by rw [HW2.out]; exact ⟨_, _, HMr.out.less (fun p hp => List.mem_cons_of_mem _ hp)⟩, HBr.out⟩) | (go_end0; exact ⟨rfl, by rw [HW2.out]; exact ⟨_, _, HMr.out.less (fun p hp => List.mem_cons_of_mem _ hp)⟩, HBr.out⟩)
      · by_cases k5 : kd = 5 ∧ 0 < ws.length
        · obtain ⟨e5, hlt⟩ := k5
          subst e5
          have HW := Lib.hid (show walkP d.mem (f + 1) s x = walkP d.mem f ⟨s.at_ ++ [x], wn, s.hs⟩ (ws.getD 0 0) by rw [HWK.out, if_neg (by decide), if_pos ⟨rfl, hlt⟩])
          have q1 : (0 : Int) < (ws.length : Int) := by omega
          obtain ⟨g, o, hva⟩ : ∃ g o, va = some ⟨g, o, none⟩ := by
            obtain ⟨_, _, a', c', e, _, _, hc⟩ := HV.out
            simp only [Value.slice.injEq, true_and] at e
            obtain ⟨rfl, rfl⟩ := e
            obtain ⟨g, o, e, _⟩ := hc 0 hlt
            exact ⟨g, o, e⟩
          subst hva
          have hu0 := HV.out.at (j := 0) hlt
          obtain ⟨u0, hu0e⟩ : ∃ u0, ws.getD 0 0 = u0 := ⟨_, rfl⟩
          have HU0 := Lib.hid (show u0 < 18446744073709551616 by rw [← hu0e]; exact HV.out.2.1 _ (getD_mem hlt))
          rw [hu0e] at hu0 HW
          have HC0 := Lib.hid hu0
          clear hu0 hu0e k0
          have XBK := Lib.hid (HM4.out.kp _ List.mem_cons_self).1
          have x0 := cell_of XBK.out 0
          have x1 := cell_of XBK.out 1
          have x2 := cell_of XBK.out 2
          have x3 := cell_of XBK.out 3
          have x4 := cell_of XBK.out 4
          have x5 := cell_of XBK.out 5
          have x6 := cell_of XBK.out 6
          have x7 := cell_of XBK.out 7
          have x8 := cell_of XBK.out 8
          have x9 := cell_of XBK.out 9
          have x10 := cell_of XBK.out 10
          simp at x0 x1 x2 x3 x4 x5 x6 x7 x8 x9 x10
          have y0 := (HZ4.out.cell (World.block_lt_of_cell? wz _ HC0.out)).trans HC0.out
          go_upto_region 25 with fail
          refine wp_region_still_tail 5 (by kernel_rfl) (by kernel_rfl) ?_
          simp only [List.take_succ_cons, List.take_zero, List.drop_succ_cons, List.drop_zero]
          change wpStill _ _ w4.drew (fun a' => wpList _ _ _ _ a' w4.drew) _ _
          have x0 : w4.drew.cell? _ = _ := x0
          have x1 : w4.drew.cell? _ = _ := x1
          have x2 : w4.drew.cell? _ = _ := x2
          have x3 : w4.drew.cell? _ = _ := x3
          have x4 : w4.drew.cell? _ = _ := x4
          have x5 : w4.drew.cell? _ = _ := x5
          have x6 : w4.drew.cell? _ = _ := x6
          have x7 : w4.drew.cell? _ = _ := x7
          have x8 : w4.drew.cell? _ = _ := x8
          have x9 : w4.drew.cell? _ = _ := x9
          have x10 : w4.drew.cell? _ = _ := x10
          have y0 : w4.drew.cell? _ = _ := y0
          have DB := Lib.hid (show Below w4.heap.size w4 w4.drew from (Below.refl _ _).drew)
          have HM4d := Lib.hid (HM4.out.lift DB.out)
          have HB4d := Lib.hid (HB4.out.drew)
          generalize w4.drew = wd at *
          try simp at x0 x1 x2 x3 x4 x5 x6 x7 x8 x9 x10 y0
          repeat still_step
          refine wpStill_nil ?_
          go_wp2_with fail
          have HQ := IH.out ⟨s.at_ ++ [x], wn, s.hs⟩ u0 _ wd _ _ HOK1.out HFU1.out HU0.out (HBZ.out.trans (HB4d.out.mono HRZ.out)) HM4d.out
          refine HQ.mono ?_
          clear HQ
          rintro e w5 ⟨rfl, ⟨av5, hv5, hM5⟩, hb5⟩
          have HM5 := Lib.hid hM5
          have HB5 := Lib.hid (HB4d.out.trans hb5)
          clear hM5 hb5 y0 x0 x1 x2 x3 x4 x5 x6 x7 x8 x9 x10
          go_wp2_with fail
          first | (exact bodyPost_ret (v := .tuple #[]) (by simp [results, Tryz.results33, go_sem]) rfl ⟨rfl, by rw [HW.out]; exact ⟨_, _, HM5.out.less (fun p hp => List.mem_cons_of_mem _ hp)⟩, HB5.out⟩) | (go_end0; exact ⟨rfl, by rw [HW.out]; exact ⟨_, _, HM5.out.less (fun p hp => List.mem_cons_of_mem _ hp)⟩, HB5.out⟩)
        · by_cases k4 : kd = 4
          · subst k4
            have HW := Lib.hid (show walkP d.mem (f + 1) s x = ⟨s.at_ ++ [x], wn, insP s.hs l⟩ by rw [HWK.out, if_neg (by decide), if_neg (by omega), if_pos rfl, HLE.out])
            have r2 := cell_of HM4.out.blk 2
            simp at r2
            clear k0 k5
            obtain ⟨ha, hc, rfl⟩ := own_slice HM4.out.oh
            go_wp2_with fail
            refine (insert_any s.hs l _ (R + 1) w4 HM4.out.oh (by have := HOK.out.hle; have := HOK.out.count; have := HNN.out; omega)).mono ?_
            rintro e w5 ⟨iv, rfl, hown5, hb5⟩
            rw [← insP_len s.hs l] at hown5
            have PB := Lib.hid (HM4.out.handled (hs := insP s.hs l) hb5 hown5)
            obtain ⟨bq2, cq2, rfl⟩ := own_slice hown5
            have yy := cell_of PB.out.1 2
            have yf := free_of PB.out.1 2
            simp at yy yf
            clear hown5 hb5 r2
            have HM5 := Lib.hid PB.out.2.1
            have HB5 := Lib.hid (HB4.out.trans PB.out.2.2)
            go_wp2_with fail
            first | (exact bodyPost_ret (v := .tuple #[]) (by simp [results, Tryz.results33, go_sem]) rfl ⟨rfl, by rw [HW.out]; exact ⟨_, _, HM5.out.less (fun p hp => List.mem_cons_of_mem _ hp)⟩, HB5.out⟩) | (go_end0; exact ⟨rfl, by rw [HW.out]; exact ⟨_, _, HM5.out.less (fun p hp => List.mem_cons_of_mem _ hp)⟩, HB5.out⟩)
          · have HW := Lib.hid (show walkP d.mem (f + 1) s x = ⟨s.at_ ++ [x], wn, s.hs⟩ by rw [HWK.out, if_neg k0, if_neg k5, if_neg k4])
            have p0 : (kd == 0) = false := by simpa using k0
            have p4 : (kd == 4) = false := by simpa using k4
            by_cases h5 : kd = 5
            · have p5 : (kd == 5) = true := by simpa using h5
              have q1 : ¬ (0 : Int) < (ws.length : Int) := by omega
              have q2 : decide ((0 : Int) < (ws.length : Int)) = false := by simpa using q1
              clear k0 k5 k4 h5
              go_wp2_with fail
              all_goals first | (exact bodyPost_ret (v := .tuple #[]) (by simp [results, Tryz.results33, go_sem]) rfl ⟨rfl, by rw [HW.out]; exact ⟨_, _, HM4.out.less (fun p hp => List.mem_cons_of_mem _ hp)⟩, HB4.out⟩) | (go_end0; exact ⟨rfl, by rw [HW.out]; exact ⟨_, _, HM4.out.less (fun p hp => List.mem_cons_of_mem _ hp)⟩, HB4.out⟩)
            · have p5 : (kd == 5) = false := by simpa using h5
              clear k0 k5 k4 h5
              go_wp2_with fail
              all_goals first | (exact bodyPost_ret (v := .tuple #[]) (by simp [results, Tryz.results33, go_sem]) rfl ⟨rfl, by rw [HW.out]; exact ⟨_, _, HM4.out.less (fun p hp => List.mem_cons_of_mem _ hp)⟩, HB4.out⟩) | (go_end0; exact ⟨rfl, by rw [HW.out]; exact ⟨_, _, HM4.out.less (fun p hp => List.mem_cons_of_mem _ hp)⟩, HB4.out⟩)

end Go.Proofs.YtlmpmjhanpkcnaaGreat
