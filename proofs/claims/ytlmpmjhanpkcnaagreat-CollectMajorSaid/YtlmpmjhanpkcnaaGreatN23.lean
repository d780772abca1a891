/-
  Chapter 12's own look: regions.
-/
import Derived.Test.YtlmpmjhanpkcnaaGreatN22
set_option linter.unusedVariables false
set_option linter.unusedSimpArgs false
namespace Go.Proofs.YtlmpmjhanpkcnaaGreat
open Go.RowKit

theorem ap_false {a b : Int} {l1 l2 : Nat} (h1 : (0 : Int) < l1) (h2 : (0 : Int) < l2) (o1 : a < b + l2) (o2 : b < a + l1) : apartP a l1 b l2 = false := by
  unfold apartP; simp only [Bool.or_eq_false_iff, decide_eq_false_iff_not]; omega

theorem ap_true {a b : Int} {l1 l2 : Nat} (h : ¬ (0 : Int) < l1 ∨ ¬ (0 : Int) < l2 ∨ ¬ a < b + l2 ∨ ¬ b < a + l1) : apartP a l1 b l2 = true := by
  unfold apartP; simp only [Bool.or_eq_true, decide_eq_true_eq]; omega

/-- Two variables with a region each. -/
def TwoFr (V wx : World) (a b : Int) (p q : Value) (va vb : Value) : Prop := ∃ b6 b7, p = .pointer (some ⟨b6, 0, none⟩) ∧ q = .pointer (some ⟨b7, 0, none⟩) ∧ wx.heap[b6]? = some (.cells #[.int .i64 a, va] 24 (0, 0)) ∧ wx.heap[b7]? = some (.cells #[.int .i64 b, vb] 24 (0, 0)) ∧ Below V.heap.size V wx

set_option maxHeartbeats 8000000 in
set_option maxRecDepth 100000 in
theorem regions12_any (d : Dmp) (v : Value) (w : World) (hd : DmAt w v d) (hf : d.frags.length ≤ 100000) (hN : wordsN d.mem ≤ 5000) :
    Calls Tryz.prog 21 #[v] w fun e w' => e = .returned (.bool (regionsP d)) ∧ Below w.heap.size w w' := by
  have HD := Lib.hid hd
  obtain ⟨a, b, a', b', f, r, h, rfl, ⟨-, rfl, wa1, wc1, rfl, -⟩, ⟨-, rfl, wa2, wc2, rfl, -⟩, -, -, ⟨-, fa, fc, rfl, -⟩, ⟨-, -, ra, rc, rfl, -⟩, ⟨-, -, ha, hc, rfl, -⟩⟩ := hd
  have T := one_at w (.cells #[.int .i64 d.young.1, .slice wa1 d.young.2.length wc1, .int .i64 d.old.1, .slice wa2 d.old.2.length wc2, .int .i64 d.size, .int .i64 d.mark, .slice fa d.frags.length fc, .slice ra d.roots.length rc, .slice ha d.handles.length hc] 28)
  go_enter Tryz.func21, Tryz.ntmps21
  go_wp2_with fail
  generalize w.alloc (.cells #[.int .i64 d.young.1, .slice wa1 d.young.2.length wc1, .int .i64 d.old.1, .slice wa2 d.old.2.length wc2, .int .i64 d.size, .int .i64 d.mark, .slice fa d.frags.length fc, .slice ra d.roots.length rc, .slice ha d.handles.length hc] 28) = W at *
  have X0 := Lib.hid T.1
  have XS := Lib.hid T.2.1
  have XB := Lib.hid T.2.2
  clear T
  have HML := Lib.hid (show d.mem.length ≤ 100002 by simp [Dmp.mem]; omega)
  refine (regs_any d _ W (HD.out.below XB.out) hf).mono ?_
  rintro e w2 ⟨mv, rfl, hm, hb2⟩
  have Y0 := Lib.hid ((hb2.block w.heap.size (by have := XS.out; omega)).trans X0.out)
  have YB := Lib.hid (XB.out.trans (hb2.mono XB.out.size))
  have YW := Lib.hid (show w.heap.size < w2.heap.size by have := XS.out; have := hb2.size; omega)
  have HNN := Lib.hid hN
  obtain ⟨-, ma, mc, rfl, hmc⟩ := hm
  have HMC := Lib.hid hmc
  obtain ⟨m, hmm⟩ : ∃ m, m = d.mem := ⟨_, rfl⟩
  have HMM := Lib.hid hmm
  rw [← hmm] at HMC HML HNN ⊢
  clear hb2 hmc hmm hN
  go_wp2_with fail
  go_loopw [4] (fun i wr => ∃ (k : Nat), k ≤ m.length ∧ i = .int .i64 k ∧ Hid (regL [] m = regL (m.take k) (m.drop k)) ∧ Hid (∀ g ∈ m.take k, okA g = true) ∧ Hid (Below w2.heap.size w2 wr)) (fun i _ => m.length - (intOf i).toNat)
  case atStart => exact ⟨0, by omega, rfl, Lib.hid (by simp), Lib.hid (fun g hg => by simp at hg), Lib.hid (Below.refl _ _)⟩
  case round =>
    obtain ⟨k, hk, rfl, HR, HA, HB⟩ := hrel
    by_cases hlt : k < m.length
    · have p1 : (k : Int) < (m.length : Int) := by omega
      have p2 : (0 : Int) ≤ (k : Int) := by omega
      have Q5 := Lib.hid (show -9223372036854775808 ≤ (k : Int) + 1 ∧ (k : Int) + 1 ≤ 9223372036854775807 by have := HML.out; omega)
      have QK := Lib.hid (show k + 1 ≤ m.length by omega)
      have QM := Lib.hid (show m.length - (k + 1) < m.length - k by omega)
      obtain ⟨gr, og, wa, wc, rfl, hi, k0, k1, -⟩ := HMC.out k hlt
      have K0 := Lib.hid k0
      have K1 := Lib.hid k1
      have k0 := (HB.out.cell (World.block_lt_of_cell? w2 _ k0)).trans k0
      have k1 := (HB.out.cell (World.block_lt_of_cell? w2 _ k1)).trans k1
      have HSTEP := Lib.hid (regL_step hlt)
      have HLN := Lib.hid (wordsN_mem (List.getElem_mem hlt))
      have HTK := Lib.hid (List.take_succ_eq_append_getElem hlt)
      obtain ⟨⟨a, fw⟩, hat⟩ : ∃ s : Frg, m[k]'hlt = s := ⟨_, rfl⟩
      rw [hat] at k0 k1 HSTEP HLN HTK hi K0 K1
      simp only at k0 k1 hi
      clear hat
      cases hok : okA (a, fw) with
      | false =>
        have HOF := Lib.hid hok
        have q1 : (0 : Int) < (fw.length : Int) := by have := okA_false hok; omega
        have HFIN := Lib.hid (show regionsP d = false by unfold regionsP; rw [← HMM.out, HR.out, HSTEP.out, HOF.out]; simp)
        by_cases hneg : a < 0
        · clear hok
          go_wp2_with fail
          go_ret
          exact ⟨by rw [HFIN.out]; rfl, YB.out.trans (HB.out.mono YB.out.size)⟩
        · have q3 : 1125899906842624 < a := by have := okA_false hok; omega
          clear hok
          go_wp2_with fail
          go_ret
          exact ⟨by rw [HFIN.out]; rfl, YB.out.trans (HB.out.mono YB.out.size)⟩
      | true =>
        have HOK := Lib.hid hok
        have HBD := Lib.hid (show fw.length = 0 ∨ 0 ≤ a ∧ a ≤ 1125899906842624 from okA_true hok)
        clear hok
        go_upto_region 5 with fail
        go_cut [38] from 16 to 38 (fun u wx => u = .bool false ∧ wr = wx)
        case first =>
          by_cases q1 : (0 : Int) < (fw.length : Int)
          · have q2 : ¬ a < 0 := by have := HBD.out; omega
            have q3 : ¬ 1125899906842624 < a := by have := HBD.out; omega
            go_wp2_with fail
            go_meet
            exact ⟨rfl, rfl⟩
          · go_wp2_with fail
            go_meet
            exact ⟨rfl, rfl⟩
        case rest =>
          obtain ⟨rfl, rfl⟩ := hcut
          clear k0 k1
          generalize wr = V at *
          go_wp2_with fail
          go_loopw [5] (fun q wr3 => ∃ (j : Nat), j ≤ k ∧ q = .int .i64 j ∧ Hid ((m.take j).all (apF (a, fw)) = true) ∧ Hid (Below V.heap.size V wr3)) (fun q _ => k - (intOf q).toNat)
          case atStart => exact ⟨0, by omega, rfl, Lib.hid (by simp), Lib.hid (Below.refl _ _)⟩
          case round =>
            obtain ⟨j, hj, rfl, HAL, HB3⟩ := hrel
            by_cases hlj : j < k
            · have q1 : (j : Int) < (k : Int) := by omega
              have q2 : (0 : Int) ≤ (j : Int) := by omega
              have q2b : (j : Int) < (m.length : Int) := by omega
              have hjm : j < m.length := by omega
              obtain ⟨g2, o2, wa3, wc3, he2, hi2, j0, j1, -⟩ := HMC.out j hjm
              simp only [Option.some.injEq, Addr.mk.injEq, and_true] at he2
              obtain ⟨rfl, rfl⟩ := he2
              have HBX := Lib.hid (HB.out.trans (HB3.out.mono HB.out.size))
              have j0 := (HBX.out.cell (World.block_lt_of_cell? w2 _ j0)).trans j0
              have j1 := (HBX.out.cell (World.block_lt_of_cell? w2 _ j1)).trans j1
              have k0 := (HBX.out.cell (World.block_lt_of_cell? w2 _ K0.out)).trans K0.out
              have k1 := (HBX.out.cell (World.block_lt_of_cell? w2 _ K1.out)).trans K1.out
              have HJN := Lib.hid (wordsN_mem (List.getElem_mem hjm))
              have HJA := Lib.hid (HA.out m[j] (List.mem_take_iff_getElem.2 ⟨j, by omega, rfl⟩))
              have HJM := Lib.hid (show m[j] ∈ m.take k from List.mem_take_iff_getElem.2 ⟨j, by omega, rfl⟩)
              have HJT := Lib.hid (fun hp : apF (a, fw) m[j] = true => all_take hjm HAL.out hp)
              obtain ⟨⟨b, gw⟩, hbt⟩ : ∃ s : Frg, m[j]'hjm = s := ⟨_, rfl⟩
              rw [hbt] at j0 j1 HJN HJA HJM HJT hi2
              simp only at j0 j1 hi2 k0 k1
              clear hbt
              have Q6 := Lib.hid (show -9223372036854775808 ≤ (j : Int) + 1 ∧ (j : Int) + 1 ≤ 9223372036854775807 by have := HML.out; omega)
              have QJ := Lib.hid (show j + 1 ≤ k by omega)
              have QN := Lib.hid (show k - (j + 1) < k - j by omega)
              have HBD2 := Lib.hid (show fw.length = 0 ∨ gw.length = 0 ∨ ((0 ≤ a ∧ a ≤ 1125899906842624 ∧ fw.length ≤ 1000000) ∧ (0 ≤ b ∧ b ≤ 1125899906842624 ∧ gw.length ≤ 1000000)) by
                have h1 := HBD.out
                have h2 := okA_true HJA.out
                have h3 := HJN.out
                have h4 := HLN.out
                have h5 := HNN.out
                simp only at h3 h4
                omega)
              have n1 := World.new_ne _ _ k0
              have n2 := World.new_ne _ _ k1
              have n3 := World.new_ne _ _ j0
              have n4 := World.new_ne _ _ j1
              go_upto_region 10 with fail
              go_cut [6, 7] from 44 to 51 (fun p q wx => TwoFr wr wx a b p q (.slice wa fw.length wc) (.slice wa3 gw.length wc3))
              case first =>
                go_region_held3 (fun w' => w'.cell? ⟨gr, og + k * 2, none⟩ = some (.int .i64 a) ∧ w'.cell? ⟨gr, og + k * 2 + 1, none⟩ = some (.slice wa fw.length wc) ∧ w'.cell? ⟨gr, og + j * 2, none⟩ = some (.int .i64 b) ∧ w'.cell? ⟨gr, og + j * 2 + 1, none⟩ = some (.slice wa3 gw.length wc3)) (first | exact ⟨k0, k1, j0, j1⟩ | go_keep) (fail)
                all_goals go_wp2_with fail
                all_goals go_meet
                · exact ⟨_, _, rfl, rfl, (two_at wr _ _).1, (two_at wr _ _).2.1, (two_at wr _ _).2.2.2.drew⟩
                · exact ⟨_, _, rfl, rfl, (two_at wr _ _).2.1, (two_at wr _ _).1, (two_at wr _ _).2.2.2.drew⟩
              case rest =>
                obtain ⟨b6, b7, rfl, rfl, h6, h7, hb5⟩ := hcut
                have HBE := Lib.hid (HB3.out.trans (hb5.mono HB3.out.size))
                have e0 := cell_of h6 0
                have e1 := cell_of h6 1
                have f0 := cell_of h7 0
                have f1 := cell_of h7 1
                simp at e0 e1 f0 f1
                clear k0 k1 j0 j1 n1 n2 n3 n4 h6 h7 hb5
                by_cases l1 : (0 : Int) < (fw.length : Int)
                · by_cases l2 : (0 : Int) < (gw.length : Int)
                  · have hbd := HBD2.out
                    have w1 : IntKind.i64.wrap (b + (gw.length : Int)) = b + (gw.length : Int) := IntWalk.i64_in _ (by omega)
                    have w2' : IntKind.i64.wrap (a + (fw.length : Int)) = a + (fw.length : Int) := IntWalk.i64_in _ (by omega)
                    clear hbd
                    by_cases o1 : a < b + (gw.length : Int)
                    · by_cases o2 : b < a + (fw.length : Int)
                      · have HFIN := Lib.hid (show regionsP d = false by
                          unfold regionsP
                          rw [← HMM.out, HR.out, HSTEP.out, all_false HJM.out (show apF (a, fw) (b, gw) = false from ap_false l1 l2 o1 o2)]
                          simp)
                        go_wp2_with fail
                        go_ret
                        exact ⟨by rw [HFIN.out]; rfl, YB.out.trans ((HB.out.trans (HBE.out.mono HB.out.size)).mono YB.out.size)⟩
                      · have HNX := Lib.hid (HJT.out (ap_true (.inr (.inr (.inr o2)))))
                        have p5 : IntKind.i64.wrap ((j : Int) + 1) = (j : Int) + 1 := IntWalk.i64_in _ Q6.out
                        go_wp2_with fail
                        go_roundw
                        case rel => exact ⟨j + 1, QJ.out, by go_num, HNX, HBE⟩
                        case measure => clear p5; simp [intOf]; omega
                    · have HNX := Lib.hid (HJT.out (ap_true (.inr (.inr (.inl o1)))))
                      have p5 : IntKind.i64.wrap ((j : Int) + 1) = (j : Int) + 1 := IntWalk.i64_in _ Q6.out
                      go_wp2_with fail
                      go_roundw
                      case rel => exact ⟨j + 1, QJ.out, by go_num, HNX, HBE⟩
                      case measure => clear p5; simp [intOf]; omega
                  · have HNX := Lib.hid (HJT.out (ap_true (.inr (.inl l2))))
                    have p5 : IntKind.i64.wrap ((j : Int) + 1) = (j : Int) + 1 := IntWalk.i64_in _ Q6.out
                    go_wp2_with fail
                    go_roundw
                    case rel => exact ⟨j + 1, QJ.out, by go_num, HNX, HBE⟩
                    case measure => clear p5; simp [intOf]; omega
                · have HNX := Lib.hid (HJT.out (ap_true (.inl l1)))
                  have p5 : IntKind.i64.wrap ((j : Int) + 1) = (j : Int) + 1 := IntWalk.i64_in _ Q6.out
                  go_wp2_with fail
                  go_roundw
                  case rel => exact ⟨j + 1, QJ.out, by go_num, HNX, HBE⟩
                  case measure => clear p5; simp [intOf]; omega
            · obtain rfl : j = k := by omega
              have q1 : ¬ (j : Int) < (j : Int) := by omega
              have p5 : IntKind.i64.wrap ((j : Int) + 1) = (j : Int) + 1 := IntWalk.i64_in _ Q5.out
              have HR2 := Lib.hid (show regL [] m = regL (m.take (j + 1)) (m.drop (j + 1)) by rw [HR.out, HSTEP.out, HOK.out, HAL.out]; simp)
              have HA2 := Lib.hid (show ∀ g ∈ m.take (j + 1), okA g = true by
                intro g hg
                rw [HTK.out] at hg
                rcases List.mem_append.1 hg with h | h
                · exact HA.out g h
                · simp at h; subst h; exact HOK.out)
              go_wp2_with fail
              go_roundw
              case rel => exact ⟨j + 1, QK.out, by go_num, HR2, HA2, Lib.hid (HB.out.trans (HB3.out.mono HB.out.size))⟩
              case measure => clear p5; simp [intOf]; omega
    · obtain rfl : k = m.length := by omega
      have p1 : ¬ (m.length : Int) < (m.length : Int) := by omega
      have HRG := Lib.hid (show regionsP d = marksP d by unfold regionsP; rw [← HMM.out, HR.out]; simp [regL])
      have HMK := Lib.hid (show marksP d = (decide ((d.young.2.length : Int) ≤ d.size) && decide (0 ≤ d.mark) && decide (d.mark ≤ (d.young.2.length : Int))) from rfl)
      have Y1 := Lib.hid ((HB.out.block w.heap.size YW.out).trans Y0.out)
      have y1 := cell_of Y1.out 1
      have y4 := cell_of Y1.out 4
      have y5 := cell_of Y1.out 5
      simp at y1 y4 y5
      have E := Lib.hid (YB.out.trans (HB.out.mono YB.out.size))
      by_cases m1 : (d.young.2.length : Int) ≤ d.size
      · by_cases m2 : 0 ≤ d.mark
        · by_cases m3 : d.mark ≤ (d.young.2.length : Int)
          · have HF := Lib.hid (show regionsP d = true by rw [HRG.out, HMK.out]; simp [m1, m2, m3])
            go_wp2_with fail
            go_ret
            exact ⟨by rw [HF.out]; rfl, E.out⟩
          · have HF := Lib.hid (show regionsP d = false by rw [HRG.out, HMK.out]; simp [m1, m2, m3])
            go_wp2_with fail
            go_ret
            exact ⟨by rw [HF.out]; rfl, E.out⟩
        · have HF := Lib.hid (show regionsP d = false by rw [HRG.out, HMK.out]; simp [m1, m2])
          go_wp2_with fail
          go_ret
          exact ⟨by rw [HF.out]; rfl, E.out⟩
      · have HF := Lib.hid (show regionsP d = false by rw [HRG.out, HMK.out]; simp [m1])
        go_wp2_with fail
        go_ret
        exact ⟨by rw [HF.out]; rfl, E.out⟩

end Go.Proofs.YtlmpmjhanpkcnaaGreat
