/-
  Collect: stands, of two dumps whose roots stand for the same terms.
  Collect, plain: a dump collected wholly stands for the same terms; its regions are right.
  Collect, plain: chapter 12's own walk meets just what is reached.
  Collect: chapter 12's own inOld and old answer, whatever they answer.
-/
import Derived.Test.YtlmpmjhanpkcnaaGreatN36
import Derived.Test.YtlmpmjhanpkcnaaGreatN19
set_option linter.unusedVariables false
set_option linter.unusedSimpArgs false
namespace Go.Proofs.YtlmpmjhanpkcnaaGreat
open Go.RowKit

/-- Two dumps' roots stand for the same terms. -/
def Alike (d e : Dmp) (S : List Slt) : Prop := e.roots.length = d.roots.length ∧ ∀ j, j < d.roots.length → ∃ t, refRead true S d.mem (d.roots.getD j 0) = some t ∧ refRead true S e.mem (e.roots.getD j 0) = some t

set_option maxHeartbeats 16000000 in
set_option maxRecDepth 100000 in
theorem stands_any (d e : Dmp) (S : List Slt) (v v' sv : Value) (w : World) (hd : DmAt w v d) (he : DmAt w v' e) (hs : SlAt w sv S) (hfd : d.frags.length ≤ 100000) (hfe : e.frags.length ≤ 100000) (hal : Alike d e S)
    (hwhy : ∀ V, Below w.heap.size w V → Calls Tryz.prog 8 #[v', sv] V fun e w' => e = .returned (.string ⟨#[]⟩) ∧ Below V.heap.size V w') :
    Calls Tryz.prog 15 #[v, v', sv] w fun e w' => TrueEnd w w' e := by
  obtain ⟨a1, a2, a3, a4, a5, a6, a7, a8, a9, a10, rfl⟩ := hd.shape
  obtain ⟨b1, b2, b3, b4, b5, b6, b7, b8, b9, b10, rfl⟩ := he.shape
  have HD := Lib.hid hd
  have HE := Lib.hid he
  have HS := Lib.hid hs
  have HWD := Lib.hid hd.ws
  have HWE := Lib.hid he.ws
  have HAL := Lib.hid hal
  have HWY := Lib.hid hwhy
  have T := two_at' w (.cells #[.int .i64 d.young.1, .slice a1 d.young.2.length a2, .int .i64 d.old.1, .slice a3 d.old.2.length a4, .int .i64 d.size, .int .i64 d.mark, .slice a5 d.frags.length a6, .slice a7 d.roots.length a8, .slice a9 d.handles.length a10] 28) (.cells #[.int .i64 e.young.1, .slice b1 e.young.2.length b2, .int .i64 e.old.1, .slice b3 e.old.2.length b4, .int .i64 e.size, .int .i64 e.mark, .slice b5 e.frags.length b6, .slice b7 e.roots.length b8, .slice b9 e.handles.length b10] 28)
  have q1 : ((d.roots.length : Int) != (e.roots.length : Int)) = false := by rw [hal.1]; simp
  clear hd he hs hal hwhy
  go_enter Tryz.func15, Tryz.ntmps15
  go_upto_region 1 with fail
  generalize (w.alloc (.cells #[.int .i64 d.young.1, .slice a1 d.young.2.length a2, .int .i64 d.old.1, .slice a3 d.old.2.length a4, .int .i64 d.size, .int .i64 d.mark, .slice a5 d.frags.length a6, .slice a7 d.roots.length a8, .slice a9 d.handles.length a10] 28)).alloc (.cells #[.int .i64 e.young.1, .slice b1 e.young.2.length b2, .int .i64 e.old.1, .slice b3 e.old.2.length b4, .int .i64 e.size, .int .i64 e.mark, .slice b5 e.frags.length b6, .slice b7 e.roots.length b8, .slice b9 e.handles.length b10] 28) = W at *
  obtain ⟨t1, t2, t3⟩ := T
  have X1 := Lib.hid t1
  have X2 := Lib.hid t2
  have B0 := Lib.hid t3
  clear t1 t2 t3
  have x7 := cell_of X1.out 7
  simp at x7
  have y0 := cell_of X2.out 0
  have y1 := cell_of X2.out 1
  have y2 := cell_of X2.out 2
  have y3 := cell_of X2.out 3
  have y4 := cell_of X2.out 4
  have y5 := cell_of X2.out 5
  have y6 := cell_of X2.out 6
  have y7 := cell_of X2.out 7
  have y8 := cell_of X2.out 8
  simp at y0 y1 y2 y3 y4 y5 y6 y7 y8
  have p1 : (!(⟨#[]⟩ : ByteArray) == ⟨#[]⟩) = false := by rfl
  go_wp2_with fail
  refine (HWY.out W B0.out).mono ?_
  rintro ee w2 ⟨rfl, hb⟩
  have Y1 := Lib.hid ((hb.block _ (lt_of_block X1.out)).trans X1.out)
  have Y2 := Lib.hid ((hb.block _ (lt_of_block X2.out)).trans X2.out)
  have B2 := Lib.hid (B0.out.trans (hb.mono B0.out.size))
  have HSZ := Lib.hid (show w.heap.size + 2 ≤ w2.heap.size by have := lt_of_block X2.out; have := hb.size; omega)
  clear hb x7 y0 y1 y2 y3 y4 y5 y6 y7 y8 X1 X2 B0 q1 p1
  have HRL := Lib.hid (show d.roots.length ≤ maxLen from HWD.out.1)
  go_wp2_with fail
  go_loopw [7] (fun i wr => ∃ (j : Nat), j ≤ d.roots.length ∧ i = .int .i64 j ∧ Hid (Below w2.heap.size w2 wr)) (fun i _ => d.roots.length - (intOf i).toNat)
  case atStart => exact ⟨0, by omega, rfl, Lib.hid (Below.refl _ _)⟩
  case round =>
    obtain ⟨j, hj, rfl, HB⟩ := hrel
    have Z1 := Lib.hid ((HB.out.block _ (lt_of_block Y1.out)).trans Y1.out)
    have Z2 := Lib.hid ((HB.out.block _ (lt_of_block Y2.out)).trans Y2.out)
    have HBW := Lib.hid (B2.out.trans (HB.out.mono B2.out.size))
    have x7 := cell_of Z1.out 7
    simp at x7
    by_cases hlt : j < d.roots.length
    · have q1 : (j : Int) < (d.roots.length : Int) := by omega
      have q0 : (0 : Int) ≤ (j : Int) := by omega
      have q2 : (j : Int) < (e.roots.length : Int) := by rw [HAL.out.1]; exact q1
      have hlt2 : j < e.roots.length := by rw [HAL.out.1]; exact hlt
      obtain ⟨t, ht1, ht2⟩ := HAL.out.2 j hlt
      obtain ⟨g, go, hva⟩ : ∃ g o, a7 = some ⟨g, o, none⟩ := by
        obtain ⟨_, _, a', c', ee, _, _, hc⟩ := HWD.out
        simp only [Value.slice.injEq, true_and] at ee
        obtain ⟨rfl, rfl⟩ := ee
        obtain ⟨g, o, ee, _⟩ := hc j hlt
        exact ⟨g, o, ee⟩
      subst hva
      obtain ⟨h, ho, hvb⟩ : ∃ g o, b7 = some ⟨g, o, none⟩ := by
        obtain ⟨_, _, a', c', ee, _, _, hc⟩ := HWE.out
        simp only [Value.slice.injEq, true_and] at ee
        obtain ⟨rfl, rfl⟩ := ee
        obtain ⟨g, o, ee, _⟩ := hc j hlt2
        exact ⟨g, o, ee⟩
      subst hvb
      have hu := HWD.out.at (j := j) hlt
      have hv := HWE.out.at (j := j) hlt2
      have HXU := Lib.hid (HWD.out.2.1 _ (getD_mem hlt))
      have HXV := Lib.hid (HWE.out.2.1 _ (getD_mem hlt2))
      obtain ⟨u, hue⟩ : ∃ u, d.roots.getD j 0 = u := ⟨_, rfl⟩
      obtain ⟨u', hve⟩ : ∃ u, e.roots.getD j 0 = u := ⟨_, rfl⟩
      rw [hue] at hu HXU ht1
      rw [hve] at hv HXV ht2
      have HT1 := Lib.hid ht1
      have HT2 := Lib.hid ht2
      have k0 := (HBW.out.cell (World.block_lt_of_cell? w _ hu)).trans hu
      have k1 := (HBW.out.cell (World.block_lt_of_cell? w _ hv)).trans hv
      have HK1 := Lib.hid k1
      have QK := Lib.hid (show j + 1 ≤ d.roots.length ∧ d.roots.length - (j + 1) < d.roots.length - j by omega)
      clear hue hve hu hv ht1 ht2 k1 x7
      have HCD := Lib.hid (fun (V : World) (hb : Below wr.heap.size wr V) => (refRead_any d _ _ S u V (HD.out.below (HBW.out.trans (hb.mono HBW.out.size))) (HS.out.below (HBW.out.trans (hb.mono HBW.out.size))) hfd HXU.out).mono fun e w' h => full_readEnd h HT1.out)
      have K3 := Lib.hid (fun (V : World) (hb : Below wr.heap.size wr V) => keep6 Z1.out k0 hb)
      have x7 := cell_of Z1.out 7
      simp at x7
      clear k0
      go_upto_region 6 with fail
      go_cut [8, 9] from 32 to 42 (fun p u wx => Hid (RdCut wr wx t p) ∧ u = .bool true)
      case first =>
        obtain ⟨g0, g1, g2, g3, g4, g5, g6, g7, g8, g9, -⟩ := K3.out wr (Below.refl _ _)
        go_region_held3 (fun w' => w'.cell? ⟨w.heap.size, 0, none⟩ = some (.int .i64 d.young.1) ∧ w'.cell? ⟨w.heap.size, 1, none⟩ = some (.slice a1 d.young.2.length a2) ∧ w'.cell? ⟨w.heap.size, 2, none⟩ = some (.int .i64 d.old.1) ∧ w'.cell? ⟨w.heap.size, 3, none⟩ = some (.slice a3 d.old.2.length a4) ∧ w'.cell? ⟨w.heap.size, 4, none⟩ = some (.int .i64 d.size) ∧ w'.cell? ⟨w.heap.size, 5, none⟩ = some (.int .i64 d.mark) ∧ w'.cell? ⟨w.heap.size, 6, none⟩ = some (.slice a5 d.frags.length a6) ∧ w'.cell? ⟨w.heap.size, 7, none⟩ = some (.slice (some ⟨g, go, none⟩) d.roots.length a8) ∧ w'.cell? ⟨w.heap.size, 8, none⟩ = some (.slice a9 d.handles.length a10) ∧ w'.cell? ⟨g, go + j, none⟩ = some (.int .u64 u) ∧ Below wr.heap.size wr w')
          (first | with_reducible exact K3.out _ (set7_below HB7.out (Nat.le_refl _) _ _ _ _ _ _ _) | with_reducible exact K3.out _ (Below.refl _ _).drew | with_reducible exact K3.out _ (by assumption) | with_reducible exact K3.out _ ((Below.refl wr.heap.size wr).alloc (Nat.le_refl _) _).drew | with_reducible exact K3.out _ (HB6.out.alloc HB6.out.size _) | go_keep)
          (first
            | (go_at_call 36
               first
                 | ((with_reducible refine (HCD.out _ (Below.refl _ _).drew).mono ?_)
                    rintro e w6 ⟨kk, kn, kneg, kma, kml, kmc, kbits, kbytes, ka, klen, kcap, rfl, htm, hb6⟩
                    have HT6 := Lib.hid htm
                    have HR6 := Lib.hid hb6
                    have HB6 := Lib.hid (show Below wr.heap.size wr w6 from (Below.refl wr.heap.size wr).drew.trans hb6)
                    have hb7 := HB6.out
                    clear htm hb6)
                 | ((with_reducible refine (HCD.out _ ((Below.refl wr.heap.size wr).alloc (Nat.le_refl _) _).drew).mono ?_)
                    rintro e w6 ⟨kk, kn, kneg, kma, kml, kmc, kbits, kbytes, ka, klen, kcap, rfl, htm, hb6⟩
                    have HT6 := Lib.hid htm
                    have HO6 := Lib.hid hb6
                    have HB7 := Lib.hid (show Below wr.heap.size wr w6 from ((Below.refl wr.heap.size wr).alloc (Nat.le_refl _) _).drew.trans (hb6.mono (by simp)))
                    have hb7 := HB7.out
                    have f := held_new hb6
                    have f0 := free_of f 0
                    have f1 := free_of f 1
                    have f2 := free_of f 2
                    have f3 := free_of f 3
                    have f4 := free_of f 4
                    have f5 := free_of f 5
                    have f6 := free_of f 6
                    have y0 := cell_of f 0
                    have y1 := cell_of f 1
                    have y2 := cell_of f 2
                    have y3 := cell_of f 3
                    have y4 := cell_of f 4
                    have y5 := cell_of f 5
                    have y6 := cell_of f 6
                    simp at y0 y1 y2 y3 y4 y5 y6
                    clear htm hb6 f)))
        all_goals go_wp2_with fail
        all_goals go_meet
        all_goals
          first
            | (have hz := rd_behind HT6.out HR6.out
               exact ⟨Lib.hid hz, rfl⟩)
            | (have hz := rd_ahead rfl HT6.out HO6.out
               exact ⟨Lib.hid hz, rfl⟩)
      case rest =>
        obtain ⟨HP, rfl⟩ := hcut
        obtain ⟨nb, kk, n1', neg1, ma1, ml1, mc1, bi1, by1, aa1, le1, ca1, rfl, h1, ht1, hg1, hb1⟩ := HP.out
        have R0 := Lib.hid h1
        have R1 := Lib.hid ht1
        have R2 := Lib.hid hb1
        clear HP h1 ht1 hg1 hb1 x7
        obtain ⟨Wc, hWc⟩ : ∃ V, V = wc := ⟨wc, rfl⟩
        subst hWc
        have Z2c := Lib.hid ((R2.out.block _ (lt_of_block Z2.out)).trans Z2.out)
        have HBC := Lib.hid (HBW.out.trans (R2.out.mono HBW.out.size))
        have k1c := (R2.out.cell (World.block_lt_of_cell? wr _ HK1.out)).trans HK1.out
        have HCE := Lib.hid (fun (V : World) (hb : Below Wc.heap.size Wc V) => (refRead_any e _ _ S u' V (HE.out.below (HBC.out.trans (hb.mono HBC.out.size))) (HS.out.below (HBC.out.trans (hb.mono HBC.out.size))) hfe HXV.out).mono fun e w' h => full_readEnd h HT2.out)
        have K4 := Lib.hid (fun (V : World) (hb : Below Wc.heap.size Wc V) => keep6 Z2c.out k1c hb)
        have x7 := cell_of Z2c.out 7
        simp at x7
        clear k1c
        go_upto_region 7 with fail
        go_cut [10, 11] from 43 to 53 (fun p u wx => Hid (RdCut Wc wx t p) ∧ u = .bool true)
        case first =>
          obtain ⟨g0, g1, g2, g3, g4, g5, g6, g7, g8, g9, -⟩ := K4.out Wc (Below.refl _ _)
          go_region_held3 (fun w' => w'.cell? ⟨(w.heap.size + 1), 0, none⟩ = some (.int .i64 e.young.1) ∧ w'.cell? ⟨(w.heap.size + 1), 1, none⟩ = some (.slice b1 e.young.2.length b2) ∧ w'.cell? ⟨(w.heap.size + 1), 2, none⟩ = some (.int .i64 e.old.1) ∧ w'.cell? ⟨(w.heap.size + 1), 3, none⟩ = some (.slice b3 e.old.2.length b4) ∧ w'.cell? ⟨(w.heap.size + 1), 4, none⟩ = some (.int .i64 e.size) ∧ w'.cell? ⟨(w.heap.size + 1), 5, none⟩ = some (.int .i64 e.mark) ∧ w'.cell? ⟨(w.heap.size + 1), 6, none⟩ = some (.slice b5 e.frags.length b6) ∧ w'.cell? ⟨(w.heap.size + 1), 7, none⟩ = some (.slice (some ⟨h, ho, none⟩) e.roots.length b8) ∧ w'.cell? ⟨(w.heap.size + 1), 8, none⟩ = some (.slice b9 e.handles.length b10) ∧ w'.cell? ⟨h, ho + j, none⟩ = some (.int .u64 u') ∧ Below Wc.heap.size Wc w')
            (first | with_reducible exact K4.out _ (set7_below HB7.out (Nat.le_refl _) _ _ _ _ _ _ _) | with_reducible exact K4.out _ (Below.refl _ _).drew | with_reducible exact K4.out _ (by assumption) | with_reducible exact K4.out _ ((Below.refl Wc.heap.size Wc).alloc (Nat.le_refl _) _).drew | with_reducible exact K4.out _ (HB6.out.alloc HB6.out.size _) | go_keep)
            (first
              | (go_at_call 36
                 first
                   | ((with_reducible refine (HCE.out _ (Below.refl _ _).drew).mono ?_)
                      rintro e w6 ⟨kk, kn, kneg, kma, kml, kmc, kbits, kbytes, ka, klen, kcap, rfl, htm, hb6⟩
                      have HT6 := Lib.hid htm
                      have HR6 := Lib.hid hb6
                      have HB6 := Lib.hid (show Below Wc.heap.size Wc w6 from (Below.refl Wc.heap.size Wc).drew.trans hb6)
                      have hb7 := HB6.out
                      clear htm hb6)
                   | ((with_reducible refine (HCE.out _ ((Below.refl Wc.heap.size Wc).alloc (Nat.le_refl _) _).drew).mono ?_)
                      rintro e w6 ⟨kk, kn, kneg, kma, kml, kmc, kbits, kbytes, ka, klen, kcap, rfl, htm, hb6⟩
                      have HT6 := Lib.hid htm
                      have HO6 := Lib.hid hb6
                      have HB7 := Lib.hid (show Below Wc.heap.size Wc w6 from ((Below.refl Wc.heap.size Wc).alloc (Nat.le_refl _) _).drew.trans (hb6.mono (by simp)))
                      have hb7 := HB7.out
                      have f := held_new hb6
                      have f0 := free_of f 0
                      have f1 := free_of f 1
                      have f2 := free_of f 2
                      have f3 := free_of f 3
                      have f4 := free_of f 4
                      have f5 := free_of f 5
                      have f6 := free_of f 6
                      have y0 := cell_of f 0
                      have y1 := cell_of f 1
                      have y2 := cell_of f 2
                      have y3 := cell_of f 3
                      have y4 := cell_of f 4
                      have y5 := cell_of f 5
                      have y6 := cell_of f 6
                      simp at y0 y1 y2 y3 y4 y5 y6
                      clear htm hb6 f)))
          all_goals go_wp2_with fail
          all_goals go_meet
          all_goals
            first
              | (have hz := rd_behind HT6.out HR6.out
                 exact ⟨Lib.hid hz, rfl⟩)
              | (have hz := rd_ahead rfl HT6.out HO6.out
                 exact ⟨Lib.hid hz, rfl⟩)
        case rest =>
          obtain ⟨HP, rfl⟩ := hcut
          obtain ⟨nb2, kk2, n2', neg2, ma2, ml2, mc2, bi2, by2, aa2, le2, ca2, rfl, h1, ht1, hg1, hb1⟩ := HP.out
          have V0 := Lib.hid ((hb1.block _ (lt_of_block R0.out)).trans R0.out)
          have V1 := Lib.hid (R1.out.lift (fun k _ hk => hb1.block k hk))
          have U0 := Lib.hid h1
          have U1 := Lib.hid ht1
          have U2 := Lib.hid (R2.out.trans (hb1.mono R2.out.size))
          clear HP h1 ht1 hg1 hb1 x7
          generalize wc = Wd at *
          have x0 := cell_of V0.out 0
          have x1 := cell_of V0.out 1
          have x2 := cell_of V0.out 2
          have x3 := cell_of V0.out 3
          have x4 := cell_of V0.out 4
          have x5 := cell_of V0.out 5
          have x6 := cell_of V0.out 6
          simp at x0 x1 x2 x3 x4 x5 x6
          have y0 := cell_of U0.out 0
          have y1 := cell_of U0.out 1
          have y2 := cell_of U0.out 2
          have y3 := cell_of U0.out 3
          have y4 := cell_of U0.out 4
          have y5 := cell_of U0.out 5
          have y6 := cell_of U0.out 6
          simp at y0 y1 y2 y3 y4 y5 y6
          go_wp2_with fail
          refine (same_any t _ _ _ _ Wd V1.out U1.out).mono ?_
          rintro ee w9 ⟨rfl, hb9⟩
          have HBF := Lib.hid (HB.out.trans ((U2.out.trans (hb9.mono U2.out.size)).mono HB.out.size))
          clear hb9 x0 x1 x2 x3 x4 x5 x6 y0 y1 y2 y3 y4 y5 y6
          have q5 : IntKind.i64.wrap ((j : Int) + 1) = (j : Int) + 1 := IntWalk.i64_in _ (by have := HRL.out; unfold maxLen at this; have := QK.out.1; omega)
          go_wp2_with fail
          go_roundw
          case rel => exact ⟨j + 1, QK.out.1, by go_num, HBF⟩
          case measure => clear q5; have := QK.out.2; simp [intOf]; omega
    · obtain rfl : j = d.roots.length := by omega
      have q1 : ¬ (d.roots.length : Int) < (d.roots.length : Int) := by omega
      go_wp2_with fail
      go_ret
      exact ⟨rfl, HBW.out⟩

end Go.Proofs.YtlmpmjhanpkcnaaGreat

namespace Go.Proofs.YtlmpmjhanpkcnaaGreat
open Go.RowKit Go.Maps

theorem major_home {d : Dmp} {a : Nat} {l : List Spt} (ha : a ≤ 1125899906842624) (hl : ReachL d.mem d.roots l) (hlen : l.length ≤ 10000) (hrd : ∀ x ∈ d.roots, Rd d.mem x) :
    Home d.mem a (majorSt d a l) ∧ (majorD d a l).roots = d.roots.map (phi (majorSt d a l).went) ∧ ∀ x ∈ d.roots, ∀ s, toP x = some s → s ∈ (majorSt d a l).keys := by
  obtain ⟨hC, hg⟩ := closed_of hrd hl
  obtain ⟨h1, h2, h3, h4⟩ := all_went (a := a) hC hg
  refine ⟨⟨h1, fun s hs => ?_, ?_⟩, h2, h4⟩
  · exact ((hl.2 s).1 (h3.sub s hs)).tag
  · have := h3.words
    show a + (scanP d.mem a (l.length + 1) 0 (movesP d.mem a d.roots ⟨[], []⟩).2).words.length ≤ 1125899907842624
    omega

theorem memW_low {a : Nat} {st : Mv} (h : a + st.words.length ≤ 1125899907842624) : LowM (memW a st) := by
  intro f hf x hx
  unfold memW at hf
  rcases List.mem_cons.1 hf with rfl | hf
  · have := inP_parts hx
    simp only at this
    omega
  · rcases List.mem_cons.1 hf with rfl | hf
    · have := inP_parts hx
      simp at this
      omega
    · cases hf

theorem major_mem (d : Dmp) (a : Nat) (l : List Spt) : (majorD d a l).mem = memW a (majorSt d a l) := rfl

theorem major_alike {d : Dmp} {a : Nat} {l : List Spt} {S : List Slt} (ha : a ≤ 1125899906842624) (hl : ReachL d.mem d.roots l) (hlen : l.length ≤ 10000) (hlow : LowM d.mem) (hrd : ∀ x ∈ d.roots, Rd d.mem x) (hr : refRoots true S d = true) : Alike d (majorD d a l) S := by
  obtain ⟨hh, h2, h3⟩ := major_home ha hl hlen hrd
  refine ⟨by rw [h2, List.length_map], fun j hj => ?_⟩
  have hx : d.roots.getD j 0 ∈ d.roots := getD_mem hj
  have e : (majorD d a l).roots.getD j 0 = phi (majorSt d a l).went (d.roots.getD j 0) := by
    rw [h2, List.getD_eq_getElem?_getD, List.getElem?_map, List.getD_eq_getElem?_getD, List.getElem?_eq_getElem hj]
    rfl
  unfold refRoots refReads at hr
  rw [List.all_eq_true] at hr
  obtain ⟨t, ht⟩ := Option.isSome_iff_exists.1 (hr _ hx)
  refine ⟨t, ht, ?_⟩
  rw [e, major_mem, read_same (memW_low hh.low), hh.read true S (h3 _ hx), ← read_same hlow]
  exact ht

theorem alike_roots {d e : Dmp} {S : List Slt} (h : Alike d e S) : refRoots true S e = true := by
  unfold refRoots refReads
  rw [List.all_eq_true]
  intro x hx
  obtain ⟨j, hj, rfl⟩ := List.getElem_of_mem hx
  obtain ⟨t, -, ht⟩ := h.2 j (by rw [← h.1]; exact hj)
  rw [List.getD_eq_getElem?_getD, List.getElem?_eq_getElem hj] at ht
  simp only [Option.getD_some] at ht
  rw [ht]
  rfl

theorem regions_major {d : Dmp} {a : Nat} {l : List Spt} (ha : a ≤ 1125899906842624) : regionsP (majorD d a l) = true := by
  unfold regionsP
  rw [major_mem]
  have h1 : regL [] (memW a (majorSt d a l)) = true := by
    unfold memW regL regL regL
    simp [okA, apF, apartP]
    omega
  have h2 : marksP (majorD d a l) = true := by
    unfold marksP majorD
    simp
  rw [h1, h2]
  rfl

end Go.Proofs.YtlmpmjhanpkcnaaGreat

namespace Go.Proofs.YtlmpmjhanpkcnaaGreat
open Go.RowKit

def spotOf (x : Nat) : Spt := (loadW x, ((tagW x : Nat) : Int))

def Ptr (x : Nat) : Prop := tagW x = 4 ∨ tagW x = 5

/-- A word that is no pointer, or one to an object of a list. -/
def Gd (R : List Spt) (x : Nat) : Prop := Ptr x → toP x = some (spotOf x) ∧ spotOf x ∈ R

theorem toP_plain {x : Nat} (hp : plainP x = true) (ht : Ptr x) : toP x = some (spotOf x) := by
  unfold toP; rw [if_pos ⟨hp, ht⟩]; rfl

theorem lead_plain {m : List Frg} {s : Spt} {k : Int} {l : List Nat} (h : objP m s.1 s.2 = some (k, l)) : ∀ y ∈ leadW k l, Ptr y → toP y = some (spotOf y) := by
  intro y hy ht
  have hok := objP_ok h
  by_cases h5 : s.2 = 5
  · unfold objP at h
    rw [if_pos h5] at h
    obtain ⟨q, hq, h⟩ := Option.bind_eq_some_iff.1 h
    split at h
    · rename_i ha
      cases h
      rcases hok with (⟨-, h2⟩ | ⟨e, -⟩) | ⟨e, -⟩ | ⟨e, -⟩ | ⟨e, -⟩ | ⟨e, -⟩ | ⟨e, -⟩
      · rw [lead_two h2] at hy
        unfold allP at ha
        exact toP_plain (List.all_eq_true.1 ha y hy) ht
      all_goals cases e
    · cases h
  · unfold objP at h
    rw [if_neg h5] at h
    obtain ⟨q, hq, h⟩ := Option.bind_eq_some_iff.1 h
    split at h
    · rename_i hr
      cases h
      rcases hok with (⟨e, h2⟩ | ⟨e, h2, -⟩) | ⟨e, -⟩ | ⟨e, -⟩ | ⟨e, -⟩ | ⟨e, -⟩ | ⟨e, -⟩
      · have := (headAt_le hq).1; omega
      · rw [e, lead_tup h2] at hy
        unfold rightP at hr
        rw [e, if_neg (show ¬ (0 : Int) = 5 by decide)] at hr
        have e1 : rightFlat 0 l = (decide (l.length ≤ 9) && allP (l.drop 1)) := by simp [rightFlat]
        rw [e1, Bool.and_eq_true] at hr
        have ha := hr.2
        unfold allP at ha
        exact toP_plain (List.all_eq_true.1 ha y hy) ht
      · rw [leadW_none l (by omega)] at hy; cases hy
      · rw [leadW_none l (by omega)] at hy; cases hy
      · rw [leadW_none l (by omega)] at hy; cases hy
      · rw [leadW_none l (by omega)] at hy; cases hy
      · rw [e] at hy hr
        have := leadW_five hy
        subst this
        unfold rightP at hr
        rw [if_pos rfl, Bool.and_eq_true] at hr
        cases hto : toP (l.getD 1 0) with
        | none =>
          have hl : lengthP m (l.getD 1 0) = none := by unfold lengthP; rw [hto]; rfl
          rw [hl] at hr
          cases hr.2
        | some s1 => rw [(toP_eq hto).2.2]; rfl
    · cases h

/-- Objects of which each leads to objects of the list alone. -/
def ClG (m : List Frg) (R : List Spt) : Prop := ∀ s ∈ R, ∃ k l, objP m s.1 s.2 = some (k, l) ∧ ∀ y ∈ leadW k l, Gd R y

theorem clG_of {m : List Frg} {R : List Spt} (h : Closed m R) : ClG m R := by
  intro s hs
  obtain ⟨k, l, ho, hl⟩ := h s hs
  refine ⟨k, l, ho, fun y hy ht => ?_⟩
  have := lead_plain ho y hy ht
  exact ⟨this, hl y hy _ this⟩

def pushP (s : Mt) (x : Nat) (k : Int) (l : List Nat) : Mt := ⟨s.at_ ++ [x], s.words + l.length, if k = 4 then insP s.hs (loadW x) else s.hs⟩

theorem walk_gd {m : List Frg} {f : Nat} {s : Mt} {x : Nat} (ht : Ptr x) (hn : x ∉ s.at_) {k : Int} {l : List Nat} (ho : objP m (loadW x) ((tagW x : Nat) : Int) = some (k, l)) :
    walkP m (f + 1) s x = (leadW k l).foldl (walkP m f) (pushP s x k l) := by
  have hok := objP_ok ho
  rcases ht with h4 | h5
  · rw [walk_box h4 hn, box_head m x h4]
    rw [h4] at ho
    have ho : objP m (loadW x) 4 = some (k, l) := ho
    rw [obj_head] at ho
    obtain ⟨q, hq, ho⟩ := Option.bind_eq_some_iff.1 ho
    split at ho
    · cases ho
      rw [hq]
      have hl := (headAt_le hq).2.2
      have ew : s.words + 1 + (l.drop 1).length = s.words + l.length := by rw [List.length_drop]; omega
      show boxW m f s x (some (k, l.drop 1)) = _
      unfold boxW pushP
      simp only
      rw [ew]
      rcases hok with (⟨e, h2⟩ | ⟨e, h2, -⟩) | ⟨e, -⟩ | ⟨e, -⟩ | ⟨e, -⟩ | ⟨e, -⟩ | ⟨e, h5⟩
      · have := (headAt_le hq).1; omega
      · subst e
        rw [if_pos rfl, lead_tup h2, if_neg (by decide)]
      · subst e; rw [if_neg (by decide), if_neg (by omega), if_neg (by decide), leadW_none l (by omega), if_neg (by decide)]; rfl
      · subst e; rw [if_neg (by decide), if_neg (by omega), if_neg (by decide), leadW_none l (by omega), if_neg (by decide)]; rfl
      · subst e; rw [if_neg (by decide), if_neg (by omega), if_neg (by decide), leadW_none l (by omega), if_neg (by decide)]; rfl
      · subst e; rw [if_neg (by decide), if_neg (by omega), if_pos rfl, leadW_none l (by omega), if_pos rfl]; rfl
      · subst e
        have hl4 : l.length = 4 := by
          unfold rightP at h5
          rw [if_pos rfl, Bool.and_eq_true, decide_eq_true_eq] at h5
          exact h5.1
        have e2 : leadW 5 l = [l.getD 1 0] := by
          unfold leadW leadsP
          match l, hl4 with
          | [_, y, _, _], _ => simp
        rw [if_neg (by decide), if_pos ⟨rfl, by rw [List.length_drop]; omega⟩, if_neg (by decide), e2, getD_drop]
        rfl
    · cases ho
  · rw [walk_cons h5 hn]
    rw [h5] at ho
    unfold objP at ho
    rw [if_pos (show ((5 : Nat) : Int) = 5 from rfl), words_rest m _ 2 (by decide)] at ho
    by_cases h2 : (2 : Int) ≤ ((restP m (loadW x)).length : Int)
    · rw [if_pos h2] at ho
      simp only [Option.bind_some] at ho
      split at ho
      · cases ho
        rw [if_neg (by omega)]
        have hl2 : ((restP m (loadW x)).take 2).length = 2 := by rw [List.length_take]; omega
        have e2 : (2 : Int).toNat = 2 := rfl
        rw [e2, lead_two hl2]
        unfold pushP
        rw [if_neg (by decide), hl2]
        generalize restP m (loadW x) = rr at h2 ⊢
        match rr, h2 with
        | a :: b :: r, _ => rfl
        | [a], h2 => simp at h2
        | [], h2 => simp at h2
      · cases ho
    · rw [if_neg h2] at ho; cases ho

/-- What has been met since is closed. -/
structure Met' (m : List Frg) (R : List Spt) (s s' : Mt) : Prop where
  sub : ∀ y ∈ s.at_, y ∈ s'.at_
  new : ∀ y ∈ s'.at_, y ∈ s.at_ ∨ (Ptr y ∧ spotOf y ∈ R ∧ ∀ k l, objP m (spotOf y).1 (spotOf y).2 = some (k, l) → ∀ z ∈ leadW k l, Ptr z → z ∈ s'.at_)

theorem Met'.refl (m : List Frg) (R : List Spt) (s : Mt) : Met' m R s s := ⟨fun _ h => h, fun _ h => .inl h⟩
theorem Met'.trans {m : List Frg} {R : List Spt} {a b c : Mt} (h : Met' m R a b) (k : Met' m R b c) : Met' m R a c := by
  refine ⟨fun y hy => k.sub y (h.sub y hy), fun y hy => ?_⟩
  rcases k.new y hy with q | q
  · rcases h.new y q with q | ⟨q1, q2, q3⟩
    · exact .inl q
    · exact .inr ⟨q1, q2, fun kk l ho z hz ht => k.sub z (q3 kk l ho z hz ht)⟩
  · exact .inr q

def h4 (m : List Frg) (y : Nat) : Option Int := if ((objP m (spotOf y).1 (spotOf y).2).getD (0, [])).1 = 4 then some (loadW y) else none

/-- The words and the handles of what has been met. -/
structure Acc (m : List Frg) (s : Mt) : Prop where
  words : s.words = sumP (fun y => objW m (spotOf y)) s.at_
  perm : s.hs.Perm (s.at_.filterMap (h4 m))
  sorted : s.hs.Pairwise (· ≤ ·)

theorem insP_perm (L : List Int) (n : Int) : (insP L n).Perm (n :: L) := by
  unfold insP
  have h := List.takeWhile_append_dropWhile (p := fun x => decide (x < n)) (l := L)
  have : (L.takeWhile (fun x => decide (x < n)) ++ n :: L.dropWhile (fun x => decide (x < n))).Perm (n :: (L.takeWhile (fun x => decide (x < n)) ++ L.dropWhile (fun x => decide (x < n)))) := List.perm_middle
  rw [h] at this
  exact this

theorem insP_sorted {L : List Int} (h : L.Pairwise (· ≤ ·)) (n : Int) : (insP L n).Pairwise (· ≤ ·) := by
  induction L with
  | nil => simp [insP]
  | cons a r ih =>
    obtain ⟨h1, h2⟩ := List.pairwise_cons.1 h
    unfold insP
    rw [List.takeWhile_cons, List.dropWhile_cons]
    by_cases ha : a < n
    · simp only [ha, decide_true, if_true, List.cons_append]
      have ih := ih h2
      rw [List.pairwise_cons]
      refine ⟨fun b hb => ?_, ih⟩
      have hb : b ∈ insP r n := hb
      have := (insP_perm r n).mem_iff.1 hb
      rcases List.mem_cons.1 this with rfl | q
      · omega
      · exact h1 b q
    · simp only [ha, decide_false, Bool.false_eq_true, if_false, List.nil_append]
      rw [List.pairwise_cons]
      refine ⟨fun b hb => ?_, h⟩
      rcases List.mem_cons.1 hb with rfl | q
      · omega
      · have := h1 b q; omega

theorem Acc.push {m : List Frg} {s : Mt} (h : Acc m s) {x : Nat} {k : Int} {l : List Nat} (ho : objP m (loadW x) ((tagW x : Nat) : Int) = some (k, l)) : Acc m (pushP s x k l) := by
  have ho' : objP m (spotOf x).1 (spotOf x).2 = some (k, l) := ho
  have e1 : objW m (spotOf x) = l.length := by unfold objW; rw [ho']
  have e2 : h4 m x = if k = 4 then some (loadW x) else none := by unfold h4; rw [ho']; rfl
  refine ⟨?_, ?_, ?_⟩
  · show s.words + l.length = sumP _ (s.at_ ++ [x])
    simp only [sumP, List.map_append, List.sum_append, List.map_cons, List.map_nil, List.sum_cons, List.sum_nil]
    rw [h.words, e1]
    rfl
  · show (if k = 4 then insP s.hs (loadW x) else s.hs).Perm ((s.at_ ++ [x]).filterMap (h4 m))
    rw [List.filterMap_append]
    by_cases hk : k = 4
    · rw [if_pos hk]
      have : [x].filterMap (h4 m) = [loadW x] := by simp [e2, hk]
      rw [this]
      exact (insP_perm _ _).trans (((h.perm).cons _).trans (List.perm_append_singleton _ _).symm)
    · rw [if_neg hk]
      have : [x].filterMap (h4 m) = [] := by simp [e2, hk]
      rw [this, List.append_nil]
      exact h.perm
  · show (if k = 4 then insP s.hs (loadW x) else s.hs).Pairwise (· ≤ ·)
    split
    · exact insP_sorted h.sorted _
    · exact h.sorted

theorem walk_met {m : List Frg} {R : List Spt} (hC : ClG m R) (hm : MemB m) (hN : wordsN m ≤ 5000) : ∀ (f : Nat) (s : Mt) (x : Nat), MtOk m s → 2 * wordsN m + 1 ≤ f + s.at_.length → x < 18446744073709551616 → Gd R x → Acc m s →
      Met' m R s (walkP m f s x) ∧ (Ptr x → x ∈ (walkP m f s x).at_) ∧ Acc m (walkP m f s x)
  | 0, s, x, hs, hf, _, _, _ => by have := hs.count; omega
  | f + 1, s, x, hs, hf, hx, hg, ha => by
    by_cases ht : Ptr x
    · by_cases hn : x ∈ s.at_
      · rw [walk_in (by unfold Ptr at ht; omega) hn]
        exact ⟨Met'.refl _ _ _, fun _ => hn, ha⟩
      · obtain ⟨hto, hR⟩ := hg ht
        obtain ⟨k, l, ho, hl⟩ := hC _ hR
        have ho' : objP m (loadW x) ((tagW x : Nat) : Int) = some (k, l) := ho
        rw [walk_gd ht hn ho']
        have hpo : MtOk m (pushP s x k l) := by
          have h1 := (walk_ok hm hN 1 s x hs hx).1
          have hrest : restP m (loadW x) ≠ [] := by
            intro e
            rcases ht with h4 | h5
            · rw [h4] at ho'
              have ho' : objP m (loadW x) 4 = some (k, l) := ho'
              rw [obj_head, headAt_rest, e] at ho'
              cases ho'
            · rw [h5] at ho'
              unfold objP at ho'
              rw [if_pos (show ((5 : Nat) : Int) = 5 from rfl), words_rest m _ 2 (by decide), e] at ho'
              cases ho'
          have hll := objOK_le (objP_ok ho')
          exact hs.push hN hx ht hrest hn (n := l.length) (by omega) (by split; (rw [insP_len]; exact Nat.le_refl _); omega)
        have hbl : ∀ y ∈ leadW k l, y < 18446744073709551616 := fun y hy => objP_bnd hm ho' y (List.mem_of_mem_drop (List.mem_of_mem_take hy))
        have F : ∀ (L : List Nat) (s1 : Mt), MtOk m s1 → 2 * wordsN m + 1 ≤ f + s1.at_.length → (∀ y ∈ L, y < 18446744073709551616 ∧ Gd R y) → Acc m s1 →
            Met' m R s1 (L.foldl (walkP m f) s1) ∧ (∀ y ∈ L, Ptr y → y ∈ (L.foldl (walkP m f) s1).at_) ∧ Acc m (L.foldl (walkP m f) s1) := by
          intro L
          induction L with
          | nil => intro s1 _ _ _ h; exact ⟨Met'.refl _ _ _, (fun y hy => by cases hy), h⟩
          | cons y r ih =>
            intro s1 h1 h2 h3 h4
            obtain ⟨b1, b2⟩ := h3 y List.mem_cons_self
            obtain ⟨c1, c2, c3⟩ := walk_met hC hm hN f s1 y h1 h2 b1 b2 h4
            obtain ⟨d1, d2⟩ := walk_ok hm hN f s1 y h1 b1
            obtain ⟨e1, e2, e3⟩ := ih _ d1 (by omega) (fun z hz => h3 z (List.mem_cons_of_mem _ hz)) c3
            refine ⟨c1.trans e1, fun z hz ht => ?_, e3⟩
            rcases List.mem_cons.1 hz with rfl | hz
            · exact e1.sub _ (c2 ht)
            · exact e2 z hz ht
        obtain ⟨g1, g2, g3⟩ := F (leadW k l) (pushP s x k l) hpo (by show 2 * wordsN m + 1 ≤ f + (s.at_ ++ [x]).length; simp; omega) (fun y hy => ⟨hbl y hy, hl y hy⟩) (ha.push ho')
        have hxin : x ∈ ((leadW k l).foldl (walkP m f) (pushP s x k l)).at_ := g1.sub x (by show x ∈ s.at_ ++ [x]; simp)
        refine ⟨⟨fun y hy => g1.sub y (by show y ∈ s.at_ ++ [x]; exact List.mem_append.2 (.inl hy)), fun y hy => ?_⟩, fun _ => hxin, g3⟩
        rcases g1.new y hy with q | q
        · rcases List.mem_append.1 (show y ∈ s.at_ ++ [x] from q) with q | q
          · exact .inl q
          · simp at q
            subst q
            refine .inr ⟨ht, hR, fun k' l' ho2 z hz htz => ?_⟩
            rw [ho] at ho2
            cases ho2
            exact g2 z hz htz
        · exact .inr q
    · rw [walk_not (by unfold Ptr at ht; omega)]
      exact ⟨Met'.refl _ _ _, (fun h => absurd h ht), ha⟩

theorem acc_nil (m : List Frg) : Acc m ⟨[], 0, []⟩ := ⟨rfl, List.Perm.nil, List.Pairwise.nil⟩

/-- Of right roots just what is reached has been met. -/
theorem met_all {m : List Frg} {roots : List Nat} {l : List Spt} (hm : MemB m) (hN : wordsN m ≤ 5000) (hb : ∀ x ∈ roots, x < 18446744073709551616) (hrd : ∀ x ∈ roots, Rd m x) (hl : ReachL m roots l) (hpl : ∀ x ∈ roots, plainP x = true) :
    MtOk m (metP m roots) ∧ Acc m (metP m roots) ∧ ((metP m roots).at_.map spotOf).Nodup ∧ ∀ s, s ∈ (metP m roots).at_.map spotOf ↔ Reach m roots s := by
  obtain ⟨hC, hg⟩ := closed_of hrd hl
  have hCG := clG_of hC
  have hgd : ∀ x ∈ roots, Gd l x := fun x hx ht => by
    have := toP_plain (hpl x hx) ht
    exact ⟨this, hg x hx _ this⟩
  have F : ∀ (L : List Nat) (s1 : Mt), MtOk m s1 → (∀ y ∈ L, y < 18446744073709551616 ∧ Gd l y) → Acc m s1 →
      MtOk m (L.foldl (walkP m (2 * wordsN m + 1)) s1) ∧ Met' m l s1 (L.foldl (walkP m (2 * wordsN m + 1)) s1) ∧ (∀ y ∈ L, Ptr y → y ∈ (L.foldl (walkP m (2 * wordsN m + 1)) s1).at_) ∧ Acc m (L.foldl (walkP m (2 * wordsN m + 1)) s1) := by
    intro L
    induction L with
    | nil => intro s1 h1 _ h; exact ⟨h1, Met'.refl _ _ _, (fun y hy => by cases hy), h⟩
    | cons y r ih =>
      intro s1 h1 h3 h4
      obtain ⟨b1, b2⟩ := h3 y List.mem_cons_self
      obtain ⟨c1, c2, c3⟩ := walk_met hCG hm hN (2 * wordsN m + 1) s1 y h1 (by omega) b1 b2 h4
      obtain ⟨d1, d2⟩ := walk_ok hm hN (2 * wordsN m + 1) s1 y h1 b1
      obtain ⟨e0, e1, e2, e3⟩ := ih _ d1 (fun z hz => h3 z (List.mem_cons_of_mem _ hz)) c3
      refine ⟨e0, c1.trans e1, fun z hz ht => ?_, e3⟩
      rcases List.mem_cons.1 hz with rfl | hz
      · exact e1.sub _ (c2 ht)
      · exact e2 z hz ht
  obtain ⟨f1, f2, f3, f4⟩ := F roots ⟨[], 0, []⟩ (mtOk_nil m) (fun y hy => ⟨hb y hy, hgd y hy⟩) (acc_nil m)
  have f1 : MtOk m (metP m roots) := f1
  have f2 : Met' m l ⟨[], 0, []⟩ (metP m roots) := f2
  have f3 : ∀ y ∈ roots, Ptr y → y ∈ (metP m roots).at_ := f3
  refine ⟨f1, f4, nodup_map f1.nod fun x hx y hy e => spot_inj (f1.ptr x hx).2.1 (f1.ptr y hy).2.1 e, fun s => ⟨fun h => ?_, fun h => ?_⟩⟩
  · obtain ⟨y, hy, rfl⟩ := List.mem_map.1 h
    rcases f2.new y hy with q | ⟨-, q, -⟩
    · cases q
    · exact (hl.2 _).1 q
  · have key : ∃ y ∈ (metP m roots).at_, toP y = some s := by
      induction h with
      | root hx ht _ =>
        obtain ⟨hp, htg, e⟩ := toP_eq ht
        exact ⟨_, f3 _ hx htg, ht⟩
      | step h0 ho hx ht _ ih =>
        obtain ⟨y, hy, hty⟩ := ih
        rcases f2.new y hy with q | ⟨-, -, q⟩
        · cases q
        · have es : spotOf y = _ := (toP_eq hty).2.2.symm
          obtain ⟨hp, htg, e⟩ := toP_eq ht
          rw [es] at q
          exact ⟨_, q _ _ ho _ hx htg, ht⟩
    obtain ⟨y, hy, hty⟩ := key
    exact List.mem_map.2 ⟨y, hy, (toP_eq hty).2.2.symm⟩

end Go.Proofs.YtlmpmjhanpkcnaaGreat

namespace Go.Proofs.YtlmpmjhanpkcnaaGreat
open Go.RowKit

def SomeEnd (w w' : World) (e : Ending) : Prop := (∃ b, e = .returned (.bool b)) ∧ Below w.heap.size w w'

set_option maxHeartbeats 4000000 in
set_option maxRecDepth 100000 in
theorem inOld_any (d : Dmp) (x : Nat) (v : Value) (w : World) (hd : DmAt w v d) (hx : x < 18446744073709551616) : Calls Tryz.prog 52 #[v, .int .u64 x] w fun e w' => SomeEnd w w' e := by
  obtain ⟨wa1, wc1, wa2, wc2, fa, fc, ra, rc, ha, hc, rfl⟩ := hd.shape
  clear hd
  have T := one_at w (.cells #[.int .i64 d.young.1, .slice wa1 d.young.2.length wc1, .int .i64 d.old.1, .slice wa2 d.old.2.length wc2, .int .i64 d.size, .int .i64 d.mark, .slice fa d.frags.length fc, .slice ra d.roots.length rc, .slice ha d.handles.length hc] 28)
  obtain ⟨l, hl⟩ : ∃ l : Int, loadW x = l := ⟨_, rfl⟩
  obtain ⟨t, ht⟩ : ∃ t, tagW x = t := ⟨_, rfl⟩
  have HT := Lib.hid (show ∀ W, Calls Tryz.prog 40 #[.int .u64 x] W fun e W' => e = .returned (.int .i64 (t : Nat)) ∧ W = W' from fun W => (tag8_any x hx W).mono fun e w' q => ⟨by rw [q.1, ht], q.2⟩)
  have HL := Lib.hid (show ∀ W, Calls Tryz.prog 39 #[.int .u64 x] W fun e W' => e = .returned (.int .i64 l) ∧ W = W' from fun W => (load8_any x hx W).mono fun e w' q => ⟨by rw [q.1, hl], q.2⟩)
  obtain ⟨n, hn⟩ : ∃ n, d.old.2.length = n := ⟨_, rfl⟩
  obtain ⟨a, ha0⟩ : ∃ a, d.old.1 = a := ⟨_, rfl⟩
  obtain ⟨wv, hwv⟩ : ∃ wv, IntKind.i64.wrap (l - a) = wv := ⟨_, rfl⟩
  obtain ⟨b4, hb4⟩ : ∃ b, ((t : Int) != 4) = b := ⟨_, rfl⟩
  obtain ⟨b5, hb5⟩ : ∃ b, ((t : Int) != 5) = b := ⟨_, rfl⟩
  rw [hn, ha0] at T ⊢
  clear hl ht hn ha0
  go_enter Tryz.func52, Tryz.ntmps52
  go_upto_region 1 with fail
  generalize w.alloc (.cells #[.int .i64 d.young.1, .slice wa1 d.young.2.length wc1, .int .i64 a, .slice wa2 n wc2, .int .i64 d.size, .int .i64 d.mark, .slice fa d.frags.length fc, .slice ra d.roots.length rc, .slice ha d.handles.length hc] 28) = W at *
  obtain ⟨t1, -, t3⟩ := T
  have x2 := cell_of t1 2
  have x3 := cell_of t1 3
  simp at x2 x3
  have HB := Lib.hid t3
  clear t1 t3
  go_wp2_with fail
  refine (HT.out _).mono ?_
  rintro _ _ ⟨rfl, rfl⟩
  cases b4
  · go_upto_region 4 with fail
    go_wp2_with fail
    refine (HL.out _).mono ?_
    rintro _ _ ⟨rfl, rfl⟩
    dsimp only
    by_cases hge : a ≤ l
    · by_cases hlt : wv < (n : Int)
      · go_upto_region 5 with fail
        go_wp2_with fail
        go_ret
        exact ⟨⟨_, rfl⟩, HB.out⟩
      · go_upto_region 5 with fail
        go_wp2_with fail
        go_ret
        exact ⟨⟨_, rfl⟩, HB.out⟩
    · go_upto_region 5 with fail
      go_wp2_with fail
      go_ret
      exact ⟨⟨_, rfl⟩, HB.out⟩
  · cases b5
    · go_upto_region 4 with fail
      go_wp2_with fail
      refine (HL.out _).mono ?_
      rintro _ _ ⟨rfl, rfl⟩
      dsimp only
      by_cases hge : a ≤ l
      · by_cases hlt : wv < (n : Int)
        · go_upto_region 5 with fail
          go_wp2_with fail
          go_ret
          exact ⟨⟨_, rfl⟩, HB.out⟩
        · go_upto_region 5 with fail
          go_wp2_with fail
          go_ret
          exact ⟨⟨_, rfl⟩, HB.out⟩
      · go_upto_region 5 with fail
        go_wp2_with fail
        go_ret
        exact ⟨⟨_, rfl⟩, HB.out⟩
    · go_wp2_with fail
      go_ret
      exact ⟨⟨_, rfl⟩, HB.out⟩

end Go.Proofs.YtlmpmjhanpkcnaaGreat
