/-
  Collect: stands, of two dumps whose roots stand for the same terms.
-/
import Derived.Test.YtlmpmjhanpkcnaaGreatN06
import Derived.Test.YtlmpmjhanpkcnaaGreatM20
set_option linter.unusedVariables false
set_option linter.unusedSimpArgs false
namespace Go.Proofs.YtlmpmjhanpkcnaaGreat
open Go.RowKit

/-- Two dumps' roots stand for the same terms. -/
def Alike (d e : Dmp) (S : List Slt) : Prop := e.roots.length = d.roots.length ∧ ∀ j, j < d.roots.length → ∃ t, refRead true S d.mem (d.roots.getD j 0) = some t ∧ refRead true S e.mem (e.roots.getD j 0) = some t

set_option maxHeartbeats 16000000 in
set_option maxRecDepth 100000 in
theorem stands_any (d e : Dmp) (S : List Slt) (v v' sv : Value) (w : World) (hd : DmAt w v d) (he : DmAt w v' e) (hs : SlAt w sv S) (hfd : d.frags.length ≤ 100000) (hfe : e.frags.length ≤ 100000) (hal : Alike d e S)
    (hwhy : ∀ V, Below w.heap.size w V → Calls Tryz.prog 8 #[v', sv] V fun e w' => e = .returned (.string ⟨#[]⟩) ∧ Below V.heap.size V w') :
    Calls Tryz.prog 15 #[v, v', sv] w fun e w' => TrueEnd w w' e := by
  obtain ⟨a1, a2, a3, a4, a5, a6, a7, a8, a9, a10, rfl⟩ := hd.shape
  obtain ⟨b1, b2, b3, b4, b5, b6, b7, b8, b9, b10, rfl⟩ := he.shape
  have HD := Lib.hid hd
  have HE := Lib.hid he
  have HS := Lib.hid hs
  have HWD := Lib.hid hd.ws
  have HWE := Lib.hid he.ws
  have HAL := Lib.hid hal
  have HWY := Lib.hid hwhy
  have T := two_at' w (.cells #[.int .i64 d.young.1, .slice a1 d.young.2.length a2, .int .i64 d.old.1, .slice a3 d.old.2.length a4, .int .i64 d.size, .int .i64 d.mark, .slice a5 d.frags.length a6, .slice a7 d.roots.length a8, .slice a9 d.handles.length a10] 28) (.cells #[.int .i64 e.young.1, .slice b1 e.young.2.length b2, .int .i64 e.old.1, .slice b3 e.old.2.length b4, .int .i64 e.size, .int .i64 e.mark, .slice b5 e.frags.length b6, .slice b7 e.roots.length b8, .slice b9 e.handles.length b10] 28)
  have q1 : ((d.roots.length : Int) != (e.roots.length : Int)) = false := by rw [hal.1]; simp
  clear hd he hs hal hwhy
  go_enter Tryz.func15, Tryz.ntmps15
  go_upto_region 1 with fail
  generalize (w.alloc (.cells #[.int .i64 d.young.1, .slice a1 d.young.2.length a2, .int .i64 d.old.1, .slice a3 d.old.2.length a4, .int .i64 d.size, .int .i64 d.mark, .slice a5 d.frags.length a6, .slice a7 d.roots.length a8, .slice a9 d.handles.length a10] 28)).alloc (.cells #[.int .i64 e.young.1, .slice b1 e.young.2.length b2, .int .i64 e.old.1, .slice b3 e.old.2.length b4, .int .i64 e.size, .int .i64 e.mark, .slice b5 e.frags.length b6, .slice b7 e.roots.length b8, .slice b9 e.handles.length b10] 28) = W at *
  obtain ⟨t1, t2, t3⟩ := T
  have X1 := Lib.hid t1
  have X2 := Lib.hid t2
  have B0 := Lib.hid t3
  clear t1 t2 t3
  have x7 := cell_of X1.out 7
  simp at x7
  have y0 := cell_of X2.out 0
  have y1 := cell_of X2.out 1
  have y2 := cell_of X2.out 2
  have y3 := cell_of X2.out 3
  have y4 := cell_of X2.out 4
  have y5 := cell_of X2.out 5
  have y6 := cell_of X2.out 6
  have y7 := cell_of X2.out 7
  have y8 := cell_of X2.out 8
  simp at y0 y1 y2 y3 y4 y5 y6 y7 y8
  have p1 : (!(⟨#[]⟩ : ByteArray) == ⟨#[]⟩) = false := by rfl
  go_wp2_with fail
  refine (HWY.out W B0.out).mono ?_
  rintro ee w2 ⟨rfl, hb⟩
  have Y1 := Lib.hid ((hb.block _ (lt_of_block X1.out)).trans X1.out)
  have Y2 := Lib.hid ((hb.block _ (lt_of_block X2.out)).trans X2.out)
  have B2 := Lib.hid (B0.out.trans (hb.mono B0.out.size))
  have HSZ := Lib.hid (show w.heap.size + 2 ≤ w2.heap.size by have := lt_of_block X2.out; have := hb.size; omega)
  clear hb x7 y0 y1 y2 y3 y4 y5 y6 y7 y8 X1 X2 B0 q1 p1
  have HRL := Lib.hid (show d.roots.length ≤ maxLen from HWD.out.1)
  go_wp2_with fail
  go_loopw [7] (fun i wr => ∃ (j : Nat), j ≤ d.roots.length ∧ i = .int .i64 j ∧ Hid (Below w2.heap.size w2 wr)) (fun i _ => d.roots.length - (intOf i).toNat)
  case atStart => exact ⟨0, by omega, rfl, Lib.hid (Below.refl _ _)⟩
  case round =>
    obtain ⟨j, hj, rfl, HB⟩ := hrel
    have Z1 := Lib.hid ((HB.out.block _ (lt_of_block Y1.out)).trans Y1.out)
    have Z2 := Lib.hid ((HB.out.block _ (lt_of_block Y2.out)).trans Y2.out)
    have HBW := Lib.hid (B2.out.trans (HB.out.mono B2.out.size))
    have x7 := cell_of Z1.out 7
    simp at x7
    by_cases hlt : j < d.roots.length
    · have q1 : (j : Int) < (d.roots.length : Int) := by omega
      have q0 : (0 : Int) ≤ (j : Int) := by omega
      have q2 : (j : Int) < (e.roots.length : Int) := by rw [HAL.out.1]; exact q1
      have hlt2 : j < e.roots.length := by rw [HAL.out.1]; exact hlt
      obtain ⟨t, ht1, ht2⟩ := HAL.out.2 j hlt
      obtain ⟨g, go, hva⟩ : ∃ g o, a7 = some ⟨g, o, none⟩ := by
        obtain ⟨_, _, a', c', ee, _, _, hc⟩ := HWD.out
        simp only [Value.slice.injEq, true_and] at ee
        obtain ⟨rfl, rfl⟩ := ee
        obtain ⟨g, o, ee, _⟩ := hc j hlt
        exact ⟨g, o, ee⟩
      subst hva
      obtain ⟨h, ho, hvb⟩ : ∃ g o, b7 = some ⟨g, o, none⟩ := by
        obtain ⟨_, _, a', c', ee, _, _, hc⟩ := HWE.out
        simp only [Value.slice.injEq, true_and] at ee
        obtain ⟨rfl, rfl⟩ := ee
        obtain ⟨g, o, ee, _⟩ := hc j hlt2
        exact ⟨g, o, ee⟩
      subst hvb
      have hu := HWD.out.at (j := j) hlt
      have hv := HWE.out.at (j := j) hlt2
      have HXU := Lib.hid (HWD.out.2.1 _ (getD_mem hlt))
      have HXV := Lib.hid (HWE.out.2.1 _ (getD_mem hlt2))
      obtain ⟨u, hue⟩ : ∃ u, d.roots.getD j 0 = u := ⟨_, rfl⟩
      obtain ⟨u', hve⟩ : ∃ u, e.roots.getD j 0 = u := ⟨_, rfl⟩
      rw [hue] at hu HXU ht1
      rw [hve] at hv HXV ht2
      have HT1 := Lib.hid ht1
      have HT2 := Lib.hid ht2
      have k0 := (HBW.out.cell (World.block_lt_of_cell? w _ hu)).trans hu
      have k1 := (HBW.out.cell (World.block_lt_of_cell? w _ hv)).trans hv
      have HK1 := Lib.hid k1
      have QK := Lib.hid (show j + 1 ≤ d.roots.length ∧ d.roots.length - (j + 1) < d.roots.length - j by omega)
      clear hue hve hu hv ht1 ht2 k1 x7
      have HCD := Lib.hid (fun (V : World) (hb : Below wr.heap.size wr V) => (refRead_any d _ _ S u V (HD.out.below (HBW.out.trans (hb.mono HBW.out.size))) (HS.out.below (HBW.out.trans (hb.mono HBW.out.size))) hfd HXU.out).mono fun e w' h => full_readEnd h HT1.out)
      have K3 := Lib.hid (fun (V : World) (hb : Below wr.heap.size wr V) => keep6 Z1.out k0 hb)
      have x7 := cell_of Z1.out 7
      simp at x7
      clear k0
      go_upto_region 6 with fail
      go_cut [8, 9] from 32 to 42 (fun p u wx => Hid (RdCut wr wx t p) ∧ u = .bool true)
      case first =>
        obtain ⟨g0, g1, g2, g3, g4, g5, g6, g7, g8, g9, -⟩ := K3.out wr (Below.refl _ _)
        go_region_held3 (fun w' => w'.cell? ⟨w.heap.size, 0, none⟩ = some (.int .i64 d.young.1) ∧ w'.cell? ⟨w.heap.size, 1, none⟩ = some (.slice a1 d.young.2.length a2) ∧ w'.cell? ⟨w.heap.size, 2, none⟩ = some (.int .i64 d.old.1) ∧ w'.cell? ⟨w.heap.size, 3, none⟩ = some (.slice a3 d.old.2.length a4) ∧ w'.cell? ⟨w.heap.size, 4, none⟩ = some (.int .i64 d.size) ∧ w'.cell? ⟨w.heap.size, 5, none⟩ = some (.int .i64 d.mark) ∧ w'.cell? ⟨w.heap.size, 6, none⟩ = some (.slice a5 d.frags.length a6) ∧ w'.cell? ⟨w.heap.size, 7, none⟩ = some (.slice (some ⟨g, go, none⟩) d.roots.length a8) ∧ w'.cell? ⟨w.heap.size, 8, none⟩ = some (.slice a9 d.handles.length a10) ∧ w'.cell? ⟨g, go + j, none⟩ = some (.int .u64 u) ∧ Below wr.heap.size wr w')
          (first | with_reducible exact K3.out _ (set7_below HB7.out (Nat.le_refl _) _ _ _ _ _ _ _) | with_reducible exact K3.out _ (Below.refl _ _).drew | with_reducible exact K3.out _ (by assumption) | with_reducible exact K3.out _ ((Below.refl wr.heap.size wr).alloc (Nat.le_refl _) _).drew | with_reducible exact K3.out _ (HB6.out.alloc HB6.out.size _) | go_keep)
          (first
            | (go_at_call 36
               first
                 | ((with_reducible refine (HCD.out _ (Below.refl _ _).drew).mono ?_)
                    rintro e w6 ⟨kk, kn, kneg, kma, kml, kmc, kbits, kbytes, ka, klen, kcap, rfl, htm, hb6⟩
                    have HT6 := Lib.hid htm
                    have HR6 := Lib.hid hb6
                    have HB6 := Lib.hid (show Below wr.heap.size wr w6 from (Below.refl wr.heap.size wr).drew.trans hb6)
                    have hb7 := HB6.out
                    clear htm hb6)
                 | ((with_reducible refine (HCD.out _ ((Below.refl wr.heap.size wr).alloc (Nat.le_refl _) _).drew).mono ?_)
                    rintro e w6 ⟨kk, kn, kneg, kma, kml, kmc, kbits, kbytes, ka, klen, kcap, rfl, htm, hb6⟩
                    have HT6 := Lib.hid htm
                    have HO6 := Lib.hid hb6
                    have HB7 := Lib.hid (show Below wr.heap.size wr w6 from ((Below.refl wr.heap.size wr).alloc (Nat.le_refl _) _).drew.trans (hb6.mono (by simp)))
                    have hb7 := HB7.out
                    have f := held_new hb6
                    have f0 := free_of f 0
                    have f1 := free_of f 1
                    have f2 := free_of f 2
                    have f3 := free_of f 3
                    have f4 := free_of f 4
                    have f5 := free_of f 5
                    have f6 := free_of f 6
                    have y0 := cell_of f 0
                    have y1 := cell_of f 1
                    have y2 := cell_of f 2
                    have y3 := cell_of f 3
                    have y4 := cell_of f 4
                    have y5 := cell_of f 5
                    have y6 := cell_of f 6
                    simp at y0 y1 y2 y3 y4 y5 y6
                    clear htm hb6 f)))
        all_goals go_wp2_with fail
        all_goals go_meet
        all_goals
          first
            | (have hz := rd_behind HT6.out HR6.out
               exact ⟨Lib.hid hz, rfl⟩)
            | (have hz := rd_ahead rfl HT6.out HO6.out
               exact ⟨Lib.hid hz, rfl⟩)
      case rest =>
        obtain ⟨HP, rfl⟩ := hcut
        obtain ⟨nb, kk, n1', neg1, ma1, ml1, mc1, bi1, by1, aa1, le1, ca1, rfl, h1, ht1, hg1, hb1⟩ := HP.out
        have R0 := Lib.hid h1
        have R1 := Lib.hid ht1
        have R2 := Lib.hid hb1
        clear HP h1 ht1 hg1 hb1 x7
        obtain ⟨Wc, hWc⟩ : ∃ V, V = wc := ⟨wc, rfl⟩
        subst hWc
        have Z2c := Lib.hid ((R2.out.block _ (lt_of_block Z2.out)).trans Z2.out)
        have HBC := Lib.hid (HBW.out.trans (R2.out.mono HBW.out.size))
        have k1c := (R2.out.cell (World.block_lt_of_cell? wr _ HK1.out)).trans HK1.out
        have HCE := Lib.hid (fun (V : World) (hb : Below Wc.heap.size Wc V) => (refRead_any e _ _ S u' V (HE.out.below (HBC.out.trans (hb.mono HBC.out.size))) (HS.out.below (HBC.out.trans (hb.mono HBC.out.size))) hfe HXV.out).mono fun e w' h => full_readEnd h HT2.out)
        have K4 := Lib.hid (fun (V : World) (hb : Below Wc.heap.size Wc V) => keep6 Z2c.out k1c hb)
        have x7 := cell_of Z2c.out 7
        simp at x7
        clear k1c
        go_upto_region 7 with fail
        go_cut [10, 11] from 43 to 53 (fun p u wx => Hid (RdCut Wc wx t p) ∧ u = .bool true)
        case first =>
          obtain ⟨g0, g1, g2, g3, g4, g5, g6, g7, g8, g9, -⟩ := K4.out Wc (Below.refl _ _)
          go_region_held3 (fun w' => w'.cell? ⟨(w.heap.size + 1), 0, none⟩ = some (.int .i64 e.young.1) ∧ w'.cell? ⟨(w.heap.size + 1), 1, none⟩ = some (.slice b1 e.young.2.length b2) ∧ w'.cell? ⟨(w.heap.size + 1), 2, none⟩ = some (.int .i64 e.old.1) ∧ w'.cell? ⟨(w.heap.size + 1), 3, none⟩ = some (.slice b3 e.old.2.length b4) ∧ w'.cell? ⟨(w.heap.size + 1), 4, none⟩ = some (.int .i64 e.size) ∧ w'.cell? ⟨(w.heap.size + 1), 5, none⟩ = some (.int .i64 e.mark) ∧ w'.cell? ⟨(w.heap.size + 1), 6, none⟩ = some (.slice b5 e.frags.length b6) ∧ w'.cell? ⟨(w.heap.size + 1), 7, none⟩ = some (.slice (some ⟨h, ho, none⟩) e.roots.length b8) ∧ w'.cell? ⟨(w.heap.size + 1), 8, none⟩ = some (.slice b9 e.handles.length b10) ∧ w'.cell? ⟨h, ho + j, none⟩ = some (.int .u64 u') ∧ Below Wc.heap.size Wc w')
            (first | with_reducible exact K4.out _ (set7_below HB7.out (Nat.le_refl _) _ _ _ _ _ _ _) | with_reducible exact K4.out _ (Below.refl _ _).drew | with_reducible exact K4.out _ (by assumption) | with_reducible exact K4.out _ ((Below.refl Wc.heap.size Wc).alloc (Nat.le_refl _) _).drew | with_reducible exact K4.out _ (HB6.out.alloc HB6.out.size _) | go_keep)
            (first
              | (go_at_call 36
                 first
                   | ((with_reducible refine (HCE.out _ (Below.refl _ _).drew).mono ?_)
                      rintro e w6 ⟨kk, kn, kneg, kma, kml, kmc, kbits, kbytes, ka, klen, kcap, rfl, htm, hb6⟩
                      have HT6 := Lib.hid htm
                      have HR6 := Lib.hid hb6
                      have HB6 := Lib.hid (show Below Wc.heap.size Wc w6 from (Below.refl Wc.heap.size Wc).drew.trans hb6)
                      have hb7 := HB6.out
                      clear htm hb6)
                   | ((with_reducible refine (HCE.out _ ((Below.refl Wc.heap.size Wc).alloc (Nat.le_refl _) _).drew).mono ?_)
                      rintro e w6 ⟨kk, kn, kneg, kma, kml, kmc, kbits, kbytes, ka, klen, kcap, rfl, htm, hb6⟩
                      have HT6 := Lib.hid htm
                      have HO6 := Lib.hid hb6
                      have HB7 := Lib.hid (show Below Wc.heap.size Wc w6 from ((Below.refl Wc.heap.size Wc).alloc (Nat.le_refl _) _).drew.trans (hb6.mono (by simp)))
                      have hb7 := HB7.out
                      have f := held_new hb6
                      have f0 := free_of f 0
                      have f1 := free_of f 1
                      have f2 := free_of f 2
                      have f3 := free_of f 3
                      have f4 := free_of f 4
                      have f5 := free_of f 5
                      have f6 := free_of f 6
                      have y0 := cell_of f 0
                      have y1 := cell_of f 1
                      have y2 := cell_of f 2
                      have y3 := cell_of f 3
                      have y4 := cell_of f 4
                      have y5 := cell_of f 5
                      have y6 := cell_of f 6
                      simp at y0 y1 y2 y3 y4 y5 y6
                      clear htm hb6 f)))
          all_goals go_wp2_with fail
          all_goals go_meet
          all_goals
            first
              | (have hz := rd_behind HT6.out HR6.out
                 exact ⟨Lib.hid hz, rfl⟩)
              | (have hz := rd_ahead rfl HT6.out HO6.out
                 exact ⟨Lib.hid hz, rfl⟩)
        case rest =>
          obtain ⟨HP, rfl⟩ := hcut
          obtain ⟨nb2, kk2, n2', neg2, ma2, ml2, mc2, bi2, by2, aa2, le2, ca2, rfl, h1, ht1, hg1, hb1⟩ := HP.out
          have V0 := Lib.hid ((hb1.block _ (lt_of_block R0.out)).trans R0.out)
          have V1 := Lib.hid (R1.out.lift (fun k _ hk => hb1.block k hk))
          have U0 := Lib.hid h1
          have U1 := Lib.hid ht1
          have U2 := Lib.hid (R2.out.trans (hb1.mono R2.out.size))
          clear HP h1 ht1 hg1 hb1 x7
          generalize wc = Wd at *
          have x0 := cell_of V0.out 0
          have x1 := cell_of V0.out 1
          have x2 := cell_of V0.out 2
          have x3 := cell_of V0.out 3
          have x4 := cell_of V0.out 4
          have x5 := cell_of V0.out 5
          have x6 := cell_of V0.out 6
          simp at x0 x1 x2 x3 x4 x5 x6
          have y0 := cell_of U0.out 0
          have y1 := cell_of U0.out 1
          have y2 := cell_of U0.out 2
          have y3 := cell_of U0.out 3
          have y4 := cell_of U0.out 4
          have y5 := cell_of U0.out 5
          have y6 := cell_of U0.out 6
          simp at y0 y1 y2 y3 y4 y5 y6
          go_wp2_with fail
          refine (same_any t _ _ _ _ Wd V1.out U1.out).mono ?_
          rintro ee w9 ⟨rfl, hb9⟩
          have HBF := Lib.hid (HB.out.trans ((U2.out.trans (hb9.mono U2.out.size)).mono HB.out.size))
          clear hb9 x0 x1 x2 x3 x4 x5 x6 y0 y1 y2 y3 y4 y5 y6
          have q5 : IntKind.i64.wrap ((j : Int) + 1) = (j : Int) + 1 := IntWalk.i64_in _ (by have := HRL.out; unfold maxLen at this; have := QK.out.1; omega)
          go_wp2_with fail
          go_roundw
          case rel => exact ⟨j + 1, QK.out.1, by go_num, HBF⟩
          case measure => clear q5; have := QK.out.2; simp [intOf]; omega
    · obtain rfl : j = d.roots.length := by omega
      have q1 : ¬ (d.roots.length : Int) < (d.roots.length : Int) := by omega
      go_wp2_with fail
      go_ret
      exact ⟨rfl, HBW.out⟩

end Go.Proofs.YtlmpmjhanpkcnaaGreat
