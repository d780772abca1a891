/-
  Collect: CopyDump walked.
-/
import Derived.Test.YtlmpmjhanpkcnaaGreatN38
set_option linter.unusedVariables false
set_option linter.unusedSimpArgs false
namespace Go.Proofs.YtlmpmjhanpkcnaaGreat
open Go.RowKit Go.Maps

set_option maxHeartbeats 16000000 in
set_option maxRecDepth 100000 in
theorem copy_any (d : Dmp) (v : Value) (w : World) (hd : DmAt w v d) (hf : ∀ f ∈ d.mem, f.2.length ≤ 1000) (hfl : d.frags.length ≤ 1000) (hrl : d.roots.length ≤ 1000) (hhl : d.handles.length ≤ 1000) :
    Calls Tryz.prog 11 #[v] w fun e w' => ∃ v', e = .returned v' ∧ DmAt w' v' d ∧ Below w.heap.size w w' := by
  obtain ⟨i0, hi, hz0, hz1, hz2⟩ := info_parts info37
  obtain ⟨j0, gi, gz0, gz1, gz2⟩ := info_parts info3
  obtain ⟨k0', ki, kz0, kz1, kz2⟩ := info_parts info24
  have HD := Lib.hid hd
  obtain ⟨a, b, a', b', f, r, h, rfl, ⟨-, rfl, wa1, wc1, rfl, hw1⟩, ⟨-, rfl, wa2, wc2, rfl, hw2⟩, -, -, hfr, hro, hha⟩ := hd
  have HY := Lib.hid hw1
  have HO := Lib.hid hw2
  have HF := Lib.hid hfr
  have HR := Lib.hid hro
  have HH := Lib.hid hha
  obtain ⟨-, fa, fc, rfl, hfc⟩ := hfr
  have HFC := Lib.hid hfc
  obtain ⟨-, -, ra, rc, rfl, -⟩ := hro
  obtain ⟨-, -, ha, hc, rfl, -⟩ := hha
  have HLM := Lib.hid hf
  obtain ⟨⟨ya, yl⟩, ⟨oa, ol⟩, sz, mk, fr, ro, hn⟩ := d
  simp only at hfl hrl hhl HY HO HF HR HH HFC ⊢
  have hyl : yl.length ≤ 1000 := HLM.out (ya, yl) (by simp [Dmp.mem])
  have hol : ol.length ≤ 1000 := HLM.out (oa, ol) (by simp [Dmp.mem])
  have HLF := Lib.hid (show ∀ f ∈ fr, f.2.length ≤ 1000 from fun f h => HLM.out f (by simp [Dmp.mem, h]))
  clear hw1 hw2 hf hfc
  have T := two_at' w (.cells #[.int .i64 ya, .slice wa1 yl.length wc1, .int .i64 oa, .slice wa2 ol.length wc2, .int .i64 sz, .int .i64 mk, .slice fa fr.length fc, .slice ra ro.length rc, .slice ha hn.length hc] 28) (.cells #[.int .i64 0, .slice none 0 0, .int .i64 0, .slice none 0 0, .int .i64 0, .int .i64 0, .slice none 0 0, .slice none 0 0, .slice none 0 0] 28)
  have T4 := Lib.hid (two_at w (.cells #[.int .i64 ya, .slice wa1 yl.length wc1, .int .i64 oa, .slice wa2 ol.length wc2, .int .i64 sz, .int .i64 mk, .slice fa fr.length fc, .slice ra ro.length rc, .slice ha hn.length hc] 28) (.cells #[.int .i64 0, .slice none 0 0, .int .i64 0, .slice none 0 0, .int .i64 0, .int .i64 0, .slice none 0 0, .slice none 0 0, .slice none 0 0] 28)).2.2.1
  go_enter Tryz.func11, Tryz.ntmps11
  go_upto_region 1 with fail
  generalize (w.alloc (.cells #[.int .i64 ya, .slice wa1 yl.length wc1, .int .i64 oa, .slice wa2 ol.length wc2, .int .i64 sz, .int .i64 mk, .slice fa fr.length fc, .slice ra ro.length rc, .slice ha hn.length hc] 28)).alloc (.cells #[.int .i64 0, .slice none 0 0, .int .i64 0, .slice none 0 0, .int .i64 0, .int .i64 0, .slice none 0 0, .slice none 0 0, .slice none 0 0] 28) = V0 at *
  have A0 := Lib.hid T.1
  have Z0 := Lib.hid T.2.1
  have WB0 := Lib.hid T.2.2
  have RK0 := Lib.hid (show RowsK V0 (w.heap.size + 2) [] from fun p hp => by cases hp)
  have SZ0 := Lib.hid (show w.heap.size + 2 ≤ V0.heap.size by rw [T4.out]; exact Nat.le_refl _)
  clear T T4
  have HRD := Lib.hid (Ws.reads (HY.out.below WB0.out))
  have x := cell_of A0.out 1
  simp at x
  have HBS := SZ0
  go_upto_region 2 with (at_builtin; refine wpList_append_any _ rfl (.const (.slice none 0 0)) (.tmp 7) 22 rfl (w.heap.size + 2) 47 i0 _ 1 8 Tryz.underlying22 hi hz0 hz1 hz2 rfl (by omega) (.slice none 0 0) 0 [] rfl ⟨by simp, .inl ⟨rfl, rfl⟩⟩ V0.heap.size wa1 yl.length wc1 (csW yl) rfl HRD.out (csW_one _) (by unfold maxLen; (try simp); (try omega)) (by (try simp); (try omega)) HBS.out ?_; intro v1 w1 hown hg _
                         have HB1 := Lib.hid ((Below.refl V0.heap.size V0).grown hg (Nat.le_refl _) (by simp [Value.ownBlock]))
                         have HOW := Lib.hid (show w1.ownsRow (w.heap.size + 2) 47 1 v1 yl.length (csW yl) by rw [Nat.zero_add, List.nil_append] at hown; exact hown)
                         have HRK := Lib.hid (RK0.out.none_ hg)
                         obtain ⟨b1, c1, rfl⟩ := own_slice HOW.out
                         have AQ := Lib.hid ((HB1.out.block _ (lt_of_block A0.out)).trans A0.out)
                         have y := cell_of AQ.out 1
                         have yf := free_of AQ.out 1
                         simp at y yf
                         clear hown hg x)
  have A1 := Lib.hid (show (w1.setCell ⟨w.heap.size, 1, none⟩ (.slice b1 yl.length c1)).heap[w.heap.size]? = some (.cells #[.int .i64 ya, .slice b1 yl.length c1, .int .i64 oa, .slice wa2 ol.length wc2, .int .i64 sz, .int .i64 mk, .slice fa fr.length fc, .slice ra ro.length rc, .slice ha hn.length hc] 28 (0, 0)) from set_of AQ.out 1 _)
  have Z1 := Lib.hid ((Below.heap_setCell w1 ⟨w.heap.size, 1, none⟩ (.slice b1 yl.length c1) (w.heap.size + 1) (by simp)).trans ((HB1.out.block _ (lt_of_block Z0.out)).trans Z0.out))
  have WB1 := Lib.hid ((WB0.out.trans (HB1.out.mono WB0.out.size)).setCell (p := ⟨w.heap.size, 1, none⟩) (Nat.le_refl _) (.slice b1 yl.length c1))
  have RK1 := Lib.hid (show RowsK (w1.setCell ⟨w.heap.size, 1, none⟩ (.slice b1 yl.length c1)) (w.heap.size + 2) ((47, .slice b1 yl.length c1, csW yl) :: []) from (HRK.out.cons HOW.out (by simp [csW]) (by decide)).set (b := w.heap.size) (i := 1) (by omega) _)
  have SZ1 := Lib.hid (show w.heap.size + 2 ≤ (w1.setCell ⟨w.heap.size, 1, none⟩ (.slice b1 yl.length c1)).heap.size by rw [size_setc]; exact Nat.le_trans SZ0.out HB1.out.size)
  clear y yf AQ HB1 HRD HOW HRK HBS
  generalize w1.setCell ⟨w.heap.size, 1, none⟩ (.slice b1 yl.length c1) = V1 at *
  clear A0 Z0 WB0 RK0 SZ0
  have HRD := Lib.hid (Ws.reads (HO.out.below WB1.out))
  have x := cell_of A1.out 3
  simp at x
  have HBS := SZ1
  go_upto_region 3 with (at_builtin; refine wpList_append_any _ rfl (.const (.slice none 0 0)) (.tmp 13) 22 rfl (w.heap.size + 2) 47 i0 _ 1 8 Tryz.underlying22 hi hz0 hz1 hz2 rfl (by omega) (.slice none 0 0) 0 [] rfl ⟨by simp, .inl ⟨rfl, rfl⟩⟩ V1.heap.size wa2 ol.length wc2 (csW ol) rfl HRD.out (csW_one _) (by unfold maxLen; (try simp); (try omega)) (by (try simp); (try omega)) HBS.out ?_; intro v1 w1 hown hg _
                         have HB1 := Lib.hid ((Below.refl V1.heap.size V1).grown hg (Nat.le_refl _) (by simp [Value.ownBlock]))
                         have HOW := Lib.hid (show w1.ownsRow (w.heap.size + 2) 47 1 v1 ol.length (csW ol) by rw [Nat.zero_add, List.nil_append] at hown; exact hown)
                         have HRK := Lib.hid (RK1.out.none_ hg)
                         obtain ⟨b2, c2, rfl⟩ := own_slice HOW.out
                         have AQ := Lib.hid ((HB1.out.block _ (lt_of_block A1.out)).trans A1.out)
                         have y := cell_of AQ.out 3
                         have yf := free_of AQ.out 3
                         simp at y yf
                         clear hown hg x)
  have A2 := Lib.hid (show (w1.setCell ⟨w.heap.size, 3, none⟩ (.slice b2 ol.length c2)).heap[w.heap.size]? = some (.cells #[.int .i64 ya, .slice b1 yl.length c1, .int .i64 oa, .slice b2 ol.length c2, .int .i64 sz, .int .i64 mk, .slice fa fr.length fc, .slice ra ro.length rc, .slice ha hn.length hc] 28 (0, 0)) from set_of AQ.out 3 _)
  have Z2 := Lib.hid ((Below.heap_setCell w1 ⟨w.heap.size, 3, none⟩ (.slice b2 ol.length c2) (w.heap.size + 1) (by simp)).trans ((HB1.out.block _ (lt_of_block Z1.out)).trans Z1.out))
  have WB2 := Lib.hid ((WB1.out.trans (HB1.out.mono WB1.out.size)).setCell (p := ⟨w.heap.size, 3, none⟩) (Nat.le_refl _) (.slice b2 ol.length c2))
  have RK2 := Lib.hid (show RowsK (w1.setCell ⟨w.heap.size, 3, none⟩ (.slice b2 ol.length c2)) (w.heap.size + 2) ((47, .slice b2 ol.length c2, csW ol) :: (47, .slice b1 yl.length c1, csW yl) :: []) from (HRK.out.cons HOW.out (by simp [csW]) (by decide)).set (b := w.heap.size) (i := 3) (by omega) _)
  have SZ2 := Lib.hid (show w.heap.size + 2 ≤ (w1.setCell ⟨w.heap.size, 3, none⟩ (.slice b2 ol.length c2)).heap.size by rw [size_setc]; exact Nat.le_trans SZ1.out HB1.out.size)
  clear y yf AQ HB1 HRD HOW HRK HBS
  generalize w1.setCell ⟨w.heap.size, 3, none⟩ (.slice b2 ol.length c2) = V2 at *
  clear A1 Z1 WB1 RK1 SZ1
  have x := cell_of A2.out 6
  have xf := free_of A2.out 6
  simp at x xf
  go_upto_region 5 with fail
  have A3 := Lib.hid (show (V2.setCell ⟨w.heap.size, 6, none⟩ (.slice none 0 0)).heap[w.heap.size]? = some (.cells #[.int .i64 ya, .slice b1 yl.length c1, .int .i64 oa, .slice b2 ol.length c2, .int .i64 sz, .int .i64 mk, .slice none 0 0, .slice ra ro.length rc, .slice ha hn.length hc] 28 (0, 0)) from set_of A2.out 6 _)
  have Z3 := Lib.hid ((Below.heap_setCell V2 ⟨w.heap.size, 6, none⟩ (.slice none 0 0) (w.heap.size + 1) (by simp)).trans Z2.out)
  have WB3 := Lib.hid (WB2.out.setCell (p := ⟨w.heap.size, 6, none⟩) (Nat.le_refl _) (.slice none 0 0))
  have RK3 := Lib.hid (RK2.out.set (b := w.heap.size) (i := 6) (by omega) (.slice none 0 0))
  have SZ3 := Lib.hid (show w.heap.size + 2 ≤ (V2.setCell ⟨w.heap.size, 6, none⟩ (.slice none 0 0)).heap.size by rw [size_setc]; exact SZ2.out)
  clear x xf
  generalize V2.setCell ⟨w.heap.size, 6, none⟩ (.slice none 0 0) = V3 at *
  clear A2 Z2 WB2 RK2 SZ2
  go_upto_region 6 with fail
  go_loopw [4] (fun i V => ∃ (k : Nat), k ≤ fr.length ∧ i = .int .i64 k ∧ ∃ fb fcc fxs RL, Hid (V.heap[w.heap.size]? = some (.cells #[.int .i64 ya, .slice b1 yl.length c1, .int .i64 oa, .slice b2 ol.length c2, .int .i64 sz, .int .i64 mk, .slice fb k fcc, .slice ra ro.length rc, .slice ha hn.length hc] 28 (0, 0))) ∧ Hid (V.heap[w.heap.size + 1]? = some (.cells #[.int .i64 0, .slice none 0 0, .int .i64 0, .slice none 0 0, .int .i64 0, .int .i64 0, .slice none 0 0, .slice none 0 0, .slice none 0 0] 28 (0, 0))) ∧ Hid (Below w.heap.size w V) ∧ Hid (RowsK V (w.heap.size + 2) RL) ∧ Hid (∀ p ∈ ((47, .slice b2 ol.length c2, csW ol) :: (47, .slice b1 yl.length c1, csW yl) :: []), p ∈ RL) ∧ Hid (V.ownsRow (w.heap.size + 2) 24 2 (.slice fb k fcc) k fxs) ∧ Hid (HeldL RL fxs (fr.take k)) ∧ Hid (w.heap.size + 2 ≤ V.heap.size)) (fun i _ => fr.length - (intOf i).toNat)
  case atStart => exact ⟨0, by omega, rfl, none, 0, [], _, A3, Z3, WB3, RK3, Lib.hid (fun p h => h), Lib.hid ⟨rfl, .inl ⟨rfl, rfl⟩⟩, Lib.hid trivial, SZ3⟩
  case round =>
  clear A3 Z3 WB3 RK3 SZ3
  obtain ⟨k, hk, rfl, fb, fcc, fxs, RL, A3, Z3, WB3, RK3, HL0, OF3, HH3, SZ3⟩ := hrel
  have q0 : (0 : Int) ≤ (k : Int) := by omega
  by_cases hlt : k < fr.length
  · have q1 : (k : Int) < (fr.length : Int) := by omega
    obtain ⟨g, og, wa, wc, rfl, hin, k0, k1, hw⟩ := HFC.out k hlt
    have l0 := (WB3.out.cell (World.block_lt_of_cell? w _ k0)).trans k0
    have l1 := (WB3.out.cell (World.block_lt_of_cell? w _ k1)).trans k1
    have HTK := Lib.hid (List.take_succ_eq_append_getElem hlt)
    obtain ⟨f, hfe⟩ : ∃ f, fr[k] = f := ⟨_, rfl⟩
    have hfm : f ∈ fr := by rw [← hfe]; exact List.getElem_mem hlt
    rw [hfe] at l0 l1 hin hw HTK
    have hfn := HLF.out f hfm
    obtain ⟨fat, fwl⟩ := f
    simp only at l0 l1 hin hw hfn
    have HRD := Lib.hid ((hw.below WB3.out).reads)
    have HIN := Lib.hid hin
    have QK := Lib.hid (show k + 1 ≤ fr.length ∧ fr.length - (k + 1) < fr.length - k by omega)
    have q5 : IntKind.i64.wrap ((k : Int) + 1) = (k : Int) + 1 := IntWalk.i64_in _ (by omega)
    have x6 := cell_of A3.out 6
    have x6f := free_of A3.out 6
    simp at x6 x6f
    have HM1 := Lib.hid (show 0 + fwl.length ≤ maxLen by unfold maxLen; omega)
    have HM2 := Lib.hid (show (0 + fwl.length) * 8 ≤ 140737488355328 by omega)
    have HM3 := Lib.hid (show k + 1 ≤ maxLen by unfold maxLen; omega)
    have HM4 := Lib.hid (show (k + 1) * 32 ≤ 140737488355328 by omega)
    clear k0 k1 hw hfe hfm hfn hin
    go_upto_region 8 with fail
    go_region_law (first
      | (refine step_append_any _ (by rfl) (.const (.slice none 0 0)) (.tmp 37) 22 (by rfl) (w.heap.size + 2) 47 i0 _ 1 8 Tryz.underlying22 hi hz0 hz1 hz2 rfl (by omega) (.slice none 0 0) 0 [] (by rfl) ⟨by simp, .inl ⟨rfl, rfl⟩⟩ wr.heap.size wa fwl.length wc (csW fwl) (by rfl) HRD.out.drew (csW_one _) HM1.out HM2.out SZ3.out ?_
         intro v1 w1 hown1 hg1 _
         have HO1 := Lib.hid (show w1.ownsRow (w.heap.size + 2) 47 1 v1 fwl.length (csW fwl) by rw [Nat.zero_add, List.nil_append] at hown1; exact hown1)
         have HB1 := Lib.hid ((Below.refl wr.heap.size wr).drew.grown hg1 (Nat.le_refl _) (by simp [Value.ownBlock]))
         have HRK1 := Lib.hid (show RowsK w1 (w.heap.size + 2) RL from RowsK.none_ (V := wr.drew) RK3.out hg1)
         obtain ⟨b1', c1', rfl⟩ := own_slice HO1.out
         have HRK2 := Lib.hid ((HRK1.out.cons HO1.out (by simp [csW]) (by decide)).alloc (.cells #[.int .i64 fat, .slice b1' fwl.length c1'] 24))
         have HX1 := Lib.hid (reads_frag fat (.slice b1' fwl.length c1') w1)
         have HOF1 := Lib.hid (World.ownsRow.alloc (own_far2 OF3.out (fun g ob _ q => HB1.out.block g (lt_of_block q))) (.cells #[.int .i64 fat, .slice b1' fwl.length c1'] 24))
         have HS1 := Lib.hid (show w.heap.size + 2 ≤ (w1.alloc (.cells #[.int .i64 fat, .slice b1' fwl.length c1'] 24)).heap.size from Nat.le_trans SZ3.out (Nat.le_trans HB1.out.size (by simp)))
         have A4 := Lib.hid ((Below.heap_alloc w1 (.cells #[.int .i64 fat, .slice b1' fwl.length c1'] 24) w.heap.size (Nat.lt_of_lt_of_le (lt_of_block A3.out) HB1.out.size)).trans ((HB1.out.block _ (lt_of_block A3.out)).trans A3.out))
         have Z4 := Lib.hid ((Below.heap_alloc w1 (.cells #[.int .i64 fat, .slice b1' fwl.length c1'] 24) (w.heap.size + 1) (Nat.lt_of_lt_of_le (lt_of_block Z3.out) HB1.out.size)).trans ((HB1.out.block _ (lt_of_block Z3.out)).trans Z3.out))
         have WB4 := Lib.hid ((WB3.out.trans (HB1.out.mono WB3.out.size)).alloc (Nat.le_trans WB3.out.size HB1.out.size) (.cells #[.int .i64 fat, .slice b1' fwl.length c1'] 24))
         have y6 := cell_of A4.out 6
         simp at y6
         have x6w := (HB1.out.cell (World.block_lt_of_cell? _ _ x6)).trans x6
         have l0w := (HB1.out.cell (World.block_lt_of_cell? _ _ l0)).trans l0
         clear hown1 hg1)
      | (refine step_append_any _ (by rfl) (.tmp 27) (.tmp 40) 25 (by rfl) (w.heap.size + 2) 24 k0' _ 2 32 Tryz.underlying25 ki kz0 kz1 kz2 rfl (by omega) (.slice fb k fcc) k fxs (by rfl) HOF1.out _ (some ⟨w1.heap.size, 0, none⟩) 1 1 [.int .i64 fat, .slice b1' fwl.length c1'] (by rfl) HX1.out (frag_one _ _ _ _) HM3.out HM4.out HS1.out ?_
         intro v2 w2 hown2 hg2 _
         have HO2 := Lib.hid hown2
         have HRK3 := Lib.hid (HRK2.out.some_ HOF1.out hg2)
         have HRW := Lib.hid (show ∀ q, (Value.slice fb k fcc).ownBlock = some q → w.heap.size + 2 ≤ q from fun q hq => (HOF1.out.lt q hq).1)
         have A5 := Lib.hid ((hg2.block _ (lt_of_block A4.out) (fun e => by have := HRW.out _ e.symm; omega)).trans A4.out)
         have Z5 := Lib.hid ((hg2.block _ (lt_of_block Z4.out) (fun e => by have := HRW.out _ e.symm; omega)).trans Z4.out)
         have WB5 := Lib.hid (WB4.out.grown hg2 WB4.out.size (fun q hq => by have := HRW.out q hq; omega))
         have SZ5 := Lib.hid (Nat.le_trans HS1.out hg2.size)
         obtain ⟨b2', c2', rfl⟩ := own_slice hown2
         have y6 := cell_of A5.out 6
         have y6f := free_of A5.out 6
         simp at y6 y6f
         clear hown2 hg2))
    all_goals (
      have A6 := Lib.hid (show (w2.setCell ⟨w.heap.size, 6, none⟩ (.slice b2' (k + 1) c2')).heap[w.heap.size]? = some (.cells #[.int .i64 ya, .slice b1 yl.length c1, .int .i64 oa, .slice b2 ol.length c2, .int .i64 sz, .int .i64 mk, .slice b2' (k + 1) c2', .slice ra ro.length rc, .slice ha hn.length hc] 28 (0, 0)) from set_of A5.out 6 _)
      have Z6 := Lib.hid ((Below.heap_setCell w2 ⟨w.heap.size, 6, none⟩ (.slice b2' (k + 1) c2') (w.heap.size + 1) (by simp)).trans Z5.out)
      have WB6 := Lib.hid (WB5.out.setCell (p := ⟨w.heap.size, 6, none⟩) (Nat.le_refl _) (.slice b2' (k + 1) c2'))
      have RK6 := Lib.hid (HRK3.out.set (b := w.heap.size) (i := 6) (by omega) (.slice b2' (k + 1) c2'))
      have HL6 := Lib.hid (show ∀ p ∈ ((47, .slice b2 ol.length c2, csW ol) :: (47, .slice b1 yl.length c1, csW yl) :: []), p ∈ (47, .slice b1' fwl.length c1', csW fwl) :: RL from fun p h => List.mem_cons_of_mem _ (HL0.out p h))
      have OF6 := Lib.hid (own_far2 HO2.out (fun gg ob hB hq => Below.heap_setCell w2 ⟨w.heap.size, 6, none⟩ (.slice b2' (k + 1) c2') gg (fun e => by simp at e; omega)))
      have HH6 := Lib.hid (show HeldL ((47, .slice b1' fwl.length c1', csW fwl) :: RL) (fxs ++ [.int .i64 fat, .slice b1' fwl.length c1']) (fr.take (k + 1)) by
        rw [HTK.out]
        exact HeldL.snoc (f := (fat, fwl)) ⟨HIN.out, rfl, ⟨_, _, rfl⟩, List.mem_cons_self⟩ (HH3.out.more fun p h => List.mem_cons_of_mem _ h))
      have SZ6 := Lib.hid (show w.heap.size + 2 ≤ (w2.setCell ⟨w.heap.size, 6, none⟩ (.slice b2' (k + 1) c2')).heap.size by rw [size_setc]; exact SZ5.out)
      clear A5 Z5 WB5 HRK3 HO2 SZ5 A4 Z4 WB4 HRK2 HOF1 HX1 HS1 HRK1 HB1 HO1 A3 Z3 WB3 RK3 HL0 OF3 HH3 SZ3 y6 y6f x6 x6f l0 l1 x6w l0w HRW HRD
      generalize w2.setCell ⟨w.heap.size, 6, none⟩ (.slice b2' (k + 1) c2') = V6 at *
      go_wp2_with fail
      go_roundw
      case rel => exact ⟨k + 1, QK.out.1, by go_num, b2', c2', _, _, A6, Z6, WB6, RK6, HL6, OF6, HH6, SZ6⟩
      case measure => clear q5; have := QK.out.2; simp [intOf]; omega)
  · have hk2 : k = fr.length := by omega
    subst hk2
    have q1 : ¬ (fr.length : Int) < (fr.length : Int) := by omega
    rw [List.take_length] at HH3
    go_upto_region 9 with fail
    have HRD := Lib.hid (Ws.reads (HR.out.below WB3.out))
    have x := cell_of A3.out 7
    simp at x
    have HBS := SZ3
    go_upto_region 10 with (at_builtin; refine wpList_append_any _ rfl (.const (.slice none 0 0)) (.tmp 44) 22 rfl (w.heap.size + 2) 47 i0 _ 1 8 Tryz.underlying22 hi hz0 hz1 hz2 rfl (by omega) (.slice none 0 0) 0 [] rfl ⟨by simp, .inl ⟨rfl, rfl⟩⟩ wr.heap.size ra ro.length rc (csW ro) rfl HRD.out (csW_one _) (by unfold maxLen; (try simp); (try omega)) (by (try simp); (try omega)) HBS.out ?_; intro v1 w1 hown hg _
                            have HB1 := Lib.hid ((Below.refl wr.heap.size wr).grown hg (Nat.le_refl _) (by simp [Value.ownBlock]))
                            have HOW := Lib.hid (show w1.ownsRow (w.heap.size + 2) 47 1 v1 ro.length (csW ro) by rw [Nat.zero_add, List.nil_append] at hown; exact hown)
                            have HRK := Lib.hid (RK3.out.none_ hg)
                            obtain ⟨b4, c4, rfl⟩ := own_slice HOW.out
                            have AQ := Lib.hid ((HB1.out.block _ (lt_of_block A3.out)).trans A3.out)
                            have y := cell_of AQ.out 7
                            have yf := free_of AQ.out 7
                            simp at y yf
                            clear hown hg x)
    have A4 := Lib.hid (show (w1.setCell ⟨w.heap.size, 7, none⟩ (.slice b4 ro.length c4)).heap[w.heap.size]? = some (.cells #[.int .i64 ya, .slice b1 yl.length c1, .int .i64 oa, .slice b2 ol.length c2, .int .i64 sz, .int .i64 mk, .slice fb fr.length fcc, .slice b4 ro.length c4, .slice ha hn.length hc] 28 (0, 0)) from set_of AQ.out 7 _)
    have Z4 := Lib.hid ((Below.heap_setCell w1 ⟨w.heap.size, 7, none⟩ (.slice b4 ro.length c4) (w.heap.size + 1) (by simp)).trans ((HB1.out.block _ (lt_of_block Z3.out)).trans Z3.out))
    have WB4 := Lib.hid ((WB3.out.trans (HB1.out.mono WB3.out.size)).setCell (p := ⟨w.heap.size, 7, none⟩) (Nat.le_refl _) (.slice b4 ro.length c4))
    have RK4 := Lib.hid (show RowsK (w1.setCell ⟨w.heap.size, 7, none⟩ (.slice b4 ro.length c4)) (w.heap.size + 2) ((47, .slice b4 ro.length c4, csW ro) :: RL) from (HRK.out.cons HOW.out (by simp [csW]) (by decide)).set (b := w.heap.size) (i := 7) (by omega) _)
    have SZ4 := Lib.hid (show w.heap.size + 2 ≤ (w1.setCell ⟨w.heap.size, 7, none⟩ (.slice b4 ro.length c4)).heap.size by rw [size_setc]; exact Nat.le_trans SZ3.out HB1.out.size)
    have OF4 := Lib.hid (show (w1.setCell ⟨w.heap.size, 7, none⟩ (.slice b4 ro.length c4)).ownsRow (w.heap.size + 2) 24 2 (.slice fb fr.length fcc) fr.length fxs from own_far2 OF3.out (fun g ob hB hq => (Below.heap_setCell w1 ⟨w.heap.size, 7, none⟩ (.slice b4 ro.length c4) g (fun e => by simp at e; omega)).trans (HB1.out.block g (lt_of_block hq))))
    clear OF3
    clear y yf AQ HB1 HRD HOW HRK HBS
    generalize w1.setCell ⟨w.heap.size, 7, none⟩ (.slice b4 ro.length c4) = V4 at *
    clear A3 Z3 WB3 RK3 SZ3
    have HRD := Lib.hid (Is.readsI (HH.out.below WB4.out))
    have x := cell_of A4.out 8
    simp at x
    have HBS := SZ4
    go_upto_region 11 with (at_builtin; refine wpList_append_any _ rfl (.const (.slice none 0 0)) (.tmp 48) 26 rfl (w.heap.size + 2) 3 j0 _ 1 8 Tryz.underlying26 gi gz0 gz1 gz2 rfl (by omega) (.slice none 0 0) 0 [] rfl ⟨by simp, .inl ⟨rfl, rfl⟩⟩ V4.heap.size ha hn.length hc (csI hn) rfl HRD.out (csI_one _) (by unfold maxLen; (try simp); (try omega)) (by (try simp); (try omega)) HBS.out ?_; intro v1 w1 hown hg _
                            have HB1 := Lib.hid ((Below.refl V4.heap.size V4).grown hg (Nat.le_refl _) (by simp [Value.ownBlock]))
                            have HOW := Lib.hid (show w1.ownsRow (w.heap.size + 2) 3 1 v1 hn.length (csI hn) by rw [Nat.zero_add, List.nil_append] at hown; exact hown)
                            have HRK := Lib.hid (RK4.out.none_ hg)
                            obtain ⟨b5, c5, rfl⟩ := own_slice HOW.out
                            have AQ := Lib.hid ((HB1.out.block _ (lt_of_block A4.out)).trans A4.out)
                            have y := cell_of AQ.out 8
                            have yf := free_of AQ.out 8
                            simp at y yf
                            clear hown hg x)
    have A5 := Lib.hid (show (w1.setCell ⟨w.heap.size, 8, none⟩ (.slice b5 hn.length c5)).heap[w.heap.size]? = some (.cells #[.int .i64 ya, .slice b1 yl.length c1, .int .i64 oa, .slice b2 ol.length c2, .int .i64 sz, .int .i64 mk, .slice fb fr.length fcc, .slice b4 ro.length c4, .slice b5 hn.length c5] 28 (0, 0)) from set_of AQ.out 8 _)
    have Z5 := Lib.hid ((Below.heap_setCell w1 ⟨w.heap.size, 8, none⟩ (.slice b5 hn.length c5) (w.heap.size + 1) (by simp)).trans ((HB1.out.block _ (lt_of_block Z4.out)).trans Z4.out))
    have WB5 := Lib.hid ((WB4.out.trans (HB1.out.mono WB4.out.size)).setCell (p := ⟨w.heap.size, 8, none⟩) (Nat.le_refl _) (.slice b5 hn.length c5))
    have RK5 := Lib.hid (show RowsK (w1.setCell ⟨w.heap.size, 8, none⟩ (.slice b5 hn.length c5)) (w.heap.size + 2) ((3, .slice b5 hn.length c5, csI hn) :: (47, .slice b4 ro.length c4, csW ro) :: RL) from (HRK.out.cons HOW.out (by simp [csI]) (by decide)).set (b := w.heap.size) (i := 8) (by omega) _)
    have SZ5 := Lib.hid (show w.heap.size + 2 ≤ (w1.setCell ⟨w.heap.size, 8, none⟩ (.slice b5 hn.length c5)).heap.size by rw [size_setc]; exact Nat.le_trans SZ4.out HB1.out.size)
    have OF5 := Lib.hid (show (w1.setCell ⟨w.heap.size, 8, none⟩ (.slice b5 hn.length c5)).ownsRow (w.heap.size + 2) 24 2 (.slice fb fr.length fcc) fr.length fxs from own_far2 OF4.out (fun g ob hB hq => (Below.heap_setCell w1 ⟨w.heap.size, 8, none⟩ (.slice b5 hn.length c5) g (fun e => by simp at e; omega)).trans (HB1.out.block g (lt_of_block hq))))
    clear OF4
    clear y yf AQ HB1 HRD HOW HRK HBS
    generalize w1.setCell ⟨w.heap.size, 8, none⟩ (.slice b5 hn.length c5) = V5 at *
    clear A4 Z4 WB4 RK4 SZ4
    have c := fun i => cell_of A5.out i
    have z := fun i => cell_of Z5.out i
    have zf := fun i => free_of Z5.out i
    go_wp2_with fail
    refine bodyPost_ret (v := .agg #[.int .i64 ya, .slice b1 yl.length c1, .int .i64 oa, .slice b2 ol.length c2, .int .i64 sz, .int .i64 mk, .slice fb fr.length fcc, .slice b4 ro.length c4, .slice b5 hn.length c5]) (by simp [results, Tryz.results11, go_sem, z, zf]) rfl ⟨_, rfl, ?_, ?_⟩
    · refine copy_done (B := w.heap.size + 2) (RL := _) (xs := fxs) (d := ⟨(ya, yl), (oa, ol), sz, mk, fr, ro, hn⟩) HD.out ?_ (HH3.out.more fun p h => List.mem_cons_of_mem _ (List.mem_cons_of_mem _ h)) (List.mem_cons_of_mem _ (List.mem_cons_of_mem _ (HL0.out _ (List.mem_cons_of_mem _ List.mem_cons_self)))) (List.mem_cons_of_mem _ (List.mem_cons_of_mem _ (HL0.out _ List.mem_cons_self))) (List.mem_cons_of_mem _ List.mem_cons_self) List.mem_cons_self HLM.out hrl hhl
      iterate 9 refine both_set ?_ (Nat.lt_succ_self _)
      exact ⟨RK5.out, OF5.out⟩
    · iterate 9 refine Below.setCell ?_ (Nat.le_succ _) _
      exact WB5.out

end Go.Proofs.YtlmpmjhanpkcnaaGreat
