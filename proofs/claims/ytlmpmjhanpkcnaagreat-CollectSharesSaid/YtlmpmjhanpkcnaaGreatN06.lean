/-
  Collect: chapter 12's own old, handles and Why where nothing is old and there are no handles.
-/
import Derived.Test.YtlmpmjhanpkcnaaGreatN05
set_option linter.unusedVariables false
set_option linter.unusedSimpArgs false
namespace Go.Proofs.YtlmpmjhanpkcnaaGreat
open Go.RowKit

set_option maxHeartbeats 4000000 in
theorem old0_any (d : Dmp) (v : Value) (w : World) (hd : DmAt w v d) (h0 : d.old.2 = []) : Calls Tryz.prog 23 #[v] w fun e w' => TrueEnd w w' e := by
  obtain ⟨wa1, wc1, wa2, wc2, fa, fc, ra, rc, ha, hc, rfl⟩ := hd.shape
  have e0 : d.old.2.length = 0 := by rw [h0]; rfl
  rw [e0]
  clear hd h0 e0
  have T := one_at w (.cells #[.int .i64 d.young.1, .slice wa1 d.young.2.length wc1, .int .i64 d.old.1, .slice wa2 0 wc2, .int .i64 d.size, .int .i64 d.mark, .slice fa d.frags.length fc, .slice ra d.roots.length rc, .slice ha d.handles.length hc] 28)
  go_enter Tryz.func23, Tryz.ntmps23
  go_upto_region 1 with fail
  generalize w.alloc (.cells #[.int .i64 d.young.1, .slice wa1 d.young.2.length wc1, .int .i64 d.old.1, .slice wa2 0 wc2, .int .i64 d.size, .int .i64 d.mark, .slice fa d.frags.length fc, .slice ra d.roots.length rc, .slice ha d.handles.length hc] 28) = W at *
  obtain ⟨t1, -, t3⟩ := T
  have y3 := cell_of t1 3
  simp at y3
  go_wp2_with fail
  go_loopw [4] (fun i wr => i = .int .i64 0 ∧ W = wr) (fun _ _ => 0)
  case atStart => exact ⟨rfl, rfl⟩
  case round =>
    obtain ⟨rfl, rfl⟩ := hrel
    go_wp2_with fail
    go_ret
    exact ⟨rfl, t3⟩

set_option maxHeartbeats 8000000 in
set_option maxRecDepth 100000 in
theorem handles0_any (d : Dmp) (S : List Slt) (v : Value) (w : World) (h : LkAt w v d S true) (hh : d.handles = []) (hf : d.frags.length ≤ 100000) (hN : wordsN d.mem ≤ 5000) (hm : MemB d.mem) (hrl : d.roots.length ≤ 100000) (hms : (metP d.mem d.roots).hs = []) :
    Calls Tryz.prog 24 #[v] w fun e w' => TrueEnd w w' e := by
  obtain ⟨_, _, _, _, _, _, _, sv, rfl, hd, hs⟩ := h
  obtain ⟨wa1, wc1, wa2, wc2, fa, fc, ra, rc, ha, hc, e⟩ := hd.shape
  simp only [dmpV, Value.agg.injEq, Array.mk.injEq, List.cons.injEq, true_and, and_true] at e
  obtain ⟨rfl, rfl, rfl, rfl, rfl, rfl, rfl⟩ := e
  obtain ⟨-, sa, sc, rfl, -⟩ := hs
  have HD := Lib.hid hd
  have HMS := Lib.hid hms
  have HHH := Lib.hid hh
  have e0 : d.handles.length = 0 := by rw [hh]; rfl
  rw [e0] at HD ⊢
  clear hd hms e0 hh
  have T := two_at' w (.cells #[.int .i64 d.young.1, .slice wa1 d.young.2.length wc1, .int .i64 d.old.1, .slice wa2 d.old.2.length wc2, .int .i64 d.size, .int .i64 d.mark, .slice fa d.frags.length fc, .slice ra d.roots.length rc, .slice ha 0 hc, .slice sa S.length sc, .bool true] 53) (.cells #[.int .i64 d.young.1, .slice wa1 d.young.2.length wc1, .int .i64 d.old.1, .slice wa2 d.old.2.length wc2, .int .i64 d.size, .int .i64 d.mark, .slice fa d.frags.length fc, .slice ra d.roots.length rc, .slice ha 0 hc] 28)
  go_enter Tryz.func24, Tryz.ntmps24
  go_upto_region 2 with fail
  generalize (w.alloc (.cells #[.int .i64 d.young.1, .slice wa1 d.young.2.length wc1, .int .i64 d.old.1, .slice wa2 d.old.2.length wc2, .int .i64 d.size, .int .i64 d.mark, .slice fa d.frags.length fc, .slice ra d.roots.length rc, .slice ha 0 hc, .slice sa S.length sc, .bool true] 53)).alloc (.cells #[.int .i64 d.young.1, .slice wa1 d.young.2.length wc1, .int .i64 d.old.1, .slice wa2 d.old.2.length wc2, .int .i64 d.size, .int .i64 d.mark, .slice fa d.frags.length fc, .slice ra d.roots.length rc, .slice ha 0 hc] 28) = W at *
  obtain ⟨t1, t2, t3⟩ := T
  have X2 := Lib.hid t2
  have B0 := Lib.hid t3
  clear t1 t2 t3
  have y0 := cell_of X2.out 0
  have y1 := cell_of X2.out 1
  have y2 := cell_of X2.out 2
  have y3 := cell_of X2.out 3
  have y4 := cell_of X2.out 4
  have y5 := cell_of X2.out 5
  have y6 := cell_of X2.out 6
  have y7 := cell_of X2.out 7
  have y8 := cell_of X2.out 8
  simp at y0 y1 y2 y3 y4 y5 y6 y7 y8
  go_wp2_with fail
  go_loopw [4] (fun i wr => i = .int .i64 0 ∧ W = wr) (fun _ _ => 0)
  case atStart => exact ⟨rfl, rfl⟩
  case round =>
    obtain ⟨rfl, rfl⟩ := hrel
    go_wp2_with fail
    have HQ := reached12_any d _ W (HD.out.below B0.out) hf hN hm hrl
    refine HQ.mono ?_
    clear HQ
    rintro e w2 ⟨av, hv, rfl, ho1, ho2, hb⟩
    rw [HMS.out] at ho2
    obtain ⟨aa, ac, rfl⟩ := own_slice ho1
    obtain ⟨ba, bc, rfl⟩ := own_slice ho2
    have X3 := Lib.hid ((hb.block _ (lt_of_block X2.out)).trans X2.out)
    have B2 := Lib.hid (B0.out.trans (hb.mono B0.out.size))
    clear ho1 ho2 hb y0 y1 y2 y3 y4 y5 y6 y7 y8
    obtain ⟨al, hal⟩ : ∃ al, (metP d.mem d.roots).at_.length = al := ⟨_, rfl⟩
    obtain ⟨wl, hwl⟩ : ∃ wl, (metP d.mem d.roots).words = wl := ⟨_, rfl⟩
    rw [hal, hwl]
    clear hal hwl
    have T := one_at w2 (.cells #[.slice aa al ac, .int .i64 wl, .slice ba 0 bc] 39)
    simp only [List.length_nil] at *
    go_upto_region 18 with fail
    generalize w2.alloc (.cells #[.slice aa al ac, .int .i64 wl, .slice ba 0 bc] 39) = W3 at *
    obtain ⟨t1, -, t3⟩ := T
    have z2 := cell_of t1 2
    simp at z2
    go_wp2_with fail
    go_loopw [15] (fun i wr => i = .int .i64 0 ∧ W3 = wr) (fun _ _ => 0)
    case atStart => exact ⟨rfl, rfl⟩
    case round =>
      obtain ⟨rfl, rfl⟩ := hrel
      go_wp2_with fail
      go_ret
      exact ⟨rfl, B2.out.trans (t3.mono B2.out.size)⟩

set_option maxHeartbeats 8000000 in
set_option maxRecDepth 100000 in
theorem why0_any (d : Dmp) (S : List Slt) (v sv : Value) (w : World) (hd : DmAt w v d) (hs : SlAt w sv S) (hh : d.handles = []) (ho : d.old.2 = []) (hf : d.frags.length ≤ 100000) (hN : wordsN d.mem ≤ 5000) (hm : MemB d.mem) (hrl : d.roots.length ≤ 100000) (hms : (metP d.mem d.roots).hs = [])
    (hr1 : regionsP d = true) (hr2 : refRoots true S d = true) :
    Calls Tryz.prog 8 #[v, sv] w fun e w' => e = .returned (.string ⟨#[]⟩) ∧ Below w.heap.size w w' := by
  obtain ⟨wa1, wc1, wa2, wc2, fa, fc, ra, rc, ha, hc, rfl⟩ := hd.shape
  have HD := Lib.hid hd
  have HS := Lib.hid hs
  obtain ⟨-, sa, sc, rfl, -⟩ := hs
  have HR1 := Lib.hid hr1
  have HR2 := Lib.hid hr2
  have HHH := Lib.hid hh
  have HO := Lib.hid ho
  have HMS := Lib.hid hms
  have HLK := Lib.hid (show LkAt w (.agg #[.int .i64 d.young.1, .slice wa1 d.young.2.length wc1, .int .i64 d.old.1, .slice wa2 d.old.2.length wc2, .int .i64 d.size, .int .i64 d.mark, .slice fa d.frags.length fc, .slice ra d.roots.length rc, .slice ha d.handles.length hc, .slice sa S.length sc, .bool true]) d S true from ⟨_, _, _, _, _, _, _, _, rfl, HD.out, HS.out⟩)
  clear hd hr1 hr2 hh ho hms
  have T := two_at' w (.cells #[.int .i64 d.young.1, .slice wa1 d.young.2.length wc1, .int .i64 d.old.1, .slice wa2 d.old.2.length wc2, .int .i64 d.size, .int .i64 d.mark, .slice fa d.frags.length fc, .slice ra d.roots.length rc, .slice ha d.handles.length hc] 28) (.cells #[.int .i64 d.young.1, .slice wa1 d.young.2.length wc1, .int .i64 d.old.1, .slice wa2 d.old.2.length wc2, .int .i64 d.size, .int .i64 d.mark, .slice fa d.frags.length fc, .slice ra d.roots.length rc, .slice ha d.handles.length hc, .slice sa S.length sc, .bool true] 53)
  go_enter Tryz.func8, Tryz.ntmps8
  go_upto_region 2 with fail
  generalize (w.alloc (.cells #[.int .i64 d.young.1, .slice wa1 d.young.2.length wc1, .int .i64 d.old.1, .slice wa2 d.old.2.length wc2, .int .i64 d.size, .int .i64 d.mark, .slice fa d.frags.length fc, .slice ra d.roots.length rc, .slice ha d.handles.length hc] 28)).alloc (.cells #[.int .i64 d.young.1, .slice wa1 d.young.2.length wc1, .int .i64 d.old.1, .slice wa2 d.old.2.length wc2, .int .i64 d.size, .int .i64 d.mark, .slice fa d.frags.length fc, .slice ra d.roots.length rc, .slice ha d.handles.length hc, .slice sa S.length sc, .bool true] 53) = W at *
  obtain ⟨t1, t2, t3⟩ := T
  have X1 := Lib.hid t1
  have X2 := Lib.hid t2
  have B0 := Lib.hid t3
  clear t1 t2 t3
  have x0 := cell_of X1.out 0
  have x1 := cell_of X1.out 1
  have x2 := cell_of X1.out 2
  have x3 := cell_of X1.out 3
  have x4 := cell_of X1.out 4
  have x5 := cell_of X1.out 5
  have x6 := cell_of X1.out 6
  have x7 := cell_of X1.out 7
  have x8 := cell_of X1.out 8
  simp at x0 x1 x2 x3 x4 x5 x6 x7 x8
  go_wp2_with fail
  refine (regions12_any d _ W (HD.out.below B0.out) hf hN).mono ?_
  rw [HR1.out]
  rintro e w2 ⟨rfl, hb⟩
  have X1b := Lib.hid ((hb.block _ (lt_of_block X1.out)).trans X1.out)
  have X2b := Lib.hid ((hb.block _ (lt_of_block X2.out)).trans X2.out)
  have B2 := Lib.hid (B0.out.trans (hb.mono B0.out.size))
  clear hb x0 x1 x2 x3 x4 x5 x6 x7 x8 X1 X2 B0
  have x0 := cell_of X2b.out 0
  have x1 := cell_of X2b.out 1
  have x2 := cell_of X2b.out 2
  have x3 := cell_of X2b.out 3
  have x4 := cell_of X2b.out 4
  have x5 := cell_of X2b.out 5
  have x6 := cell_of X2b.out 6
  have x7 := cell_of X2b.out 7
  have x8 := cell_of X2b.out 8
  have x9 := cell_of X2b.out 9
  have x10 := cell_of X2b.out 10
  simp at x0 x1 x2 x3 x4 x5 x6 x7 x8 x9 x10
  go_wp2_with fail
  refine (roots12_any d S true _ w2 (HLK.out.below B2.out) hf).mono ?_
  rw [HR2.out]
  rintro e w3 ⟨rfl, hb⟩
  have X1 := Lib.hid ((hb.block _ (lt_of_block X1b.out)).trans X1b.out)
  have X2 := Lib.hid ((hb.block _ (lt_of_block X2b.out)).trans X2b.out)
  have B3 := Lib.hid (B2.out.trans (hb.mono B2.out.size))
  clear hb x0 x1 x2 x3 x4 x5 x6 x7 x8 x9 x10 X1b X2b B2
  have x0 := cell_of X1.out 0
  have x1 := cell_of X1.out 1
  have x2 := cell_of X1.out 2
  have x3 := cell_of X1.out 3
  have x4 := cell_of X1.out 4
  have x5 := cell_of X1.out 5
  have x6 := cell_of X1.out 6
  have x7 := cell_of X1.out 7
  have x8 := cell_of X1.out 8
  simp at x0 x1 x2 x3 x4 x5 x6 x7 x8
  go_wp2_with fail
  refine (old0_any d _ w3 (HD.out.below B3.out) HO.out).mono ?_
  rintro e w4 ⟨rfl, hb⟩
  have X2b := Lib.hid ((hb.block _ (lt_of_block X2.out)).trans X2.out)
  have B4 := Lib.hid (B3.out.trans (hb.mono B3.out.size))
  clear hb x0 x1 x2 x3 x4 x5 x6 x7 x8 X1 X2 B3
  have x0 := cell_of X2b.out 0
  have x1 := cell_of X2b.out 1
  have x2 := cell_of X2b.out 2
  have x3 := cell_of X2b.out 3
  have x4 := cell_of X2b.out 4
  have x5 := cell_of X2b.out 5
  have x6 := cell_of X2b.out 6
  have x7 := cell_of X2b.out 7
  have x8 := cell_of X2b.out 8
  have x9 := cell_of X2b.out 9
  have x10 := cell_of X2b.out 10
  simp at x0 x1 x2 x3 x4 x5 x6 x7 x8 x9 x10
  go_wp2_with fail
  refine (handles0_any d S _ w4 (HLK.out.below B4.out) HHH.out hf hN hm hrl HMS.out).mono ?_
  rintro e w5 ⟨rfl, hb⟩
  have B5 := Lib.hid (B4.out.trans (hb.mono B4.out.size))
  clear hb x0 x1 x2 x3 x4 x5 x6 x7 x8 x9 x10 X2b B4
  go_wp2_with fail
  go_ret
  exact ⟨rfl, B5.out⟩

end Go.Proofs.YtlmpmjhanpkcnaaGreat
