/-
  Are a dump's regions right: mem.Regions.
-/
import Derived.Test.YtohgkfnbjfhniaaXr
namespace Go.Proofs.Ytohgkfnbjfhniaa
open Go.RowKit Go.Maps

def CapOk (v : Value) (n : Nat) : Prop := ∃ a c, v = .slice a n c ∧ n ≤ c ∧ c ≤ maxLen

set_option maxHeartbeats 4000000 in
set_option maxRecDepth 100000 in
theorem of_cap (d : Dmp) (v : Value) (w : World) (hd : DmAt w v d) (hf : d.frags.length ≤ 100000) : Calls Try.prog 24 #[v] w fun e w' => ∃ r, e = .returned r ∧ RsAt w' r d.mem ∧ CapOk r d.mem.length ∧ Below w.heap.size w w' := by
  obtain ⟨a, b, a', b', f, r, h, rfl, ⟨hi1, rfl, wa1, wc1, rfl, hw1⟩, ⟨hi2, rfl, wa2, wc2, rfl, hw2⟩, h3, h4, h5, h6, h7⟩ := hd
  have H1 := Lib.hid hw1
  have H2 := Lib.hid hw2
  have H5 := Lib.hid h5
  clear hw1 hw2 h5 h6 h7
  obtain ⟨dy, dol, sz, mk, fr, ro, ha⟩ := d
  simp only at *
  go_enter Try.func24, Try.ntmps24
  have HBa := Lib.hid (((Below.refl w.heap.size w).alloc (Nat.le_refl _) (.cells #[.int .i64 dy.1, .slice wa1 dy.2.length wc1, .int .i64 dol.1, .slice wa2 dol.2.length wc2, .int .i64 sz, .int .i64 mk, f, r, h] 28)).alloc (by simp) (.cells #[.int .i64 dy.1, .slice wa1 dy.2.length wc1, .int .i64 dol.1, .slice wa2 dol.2.length wc2] 24))
  go_wp2_with (at_builtin; (refine wpList_append_rs rfl (.tmp 7) (.tmp 9) rfl w.heap.size _ 2 [.int .i64 dy.1, .slice wa1 dy.2.length wc1, .int .i64 dol.1, .slice wa2 dol.2.length wc2] rfl (own_two _ _ _ _ _ _) _ rfl fr w H5.out HBa.out (by omega) HBa.out.size ?_; intro v1 w1 ys hh hown hgr; have HB1 := Lib.hid (HBa.out.grown hgr HBa.out.size (fun k hk => by cases hk; exact Nat.le_succ _)); have HO := Lib.hid hown; have HH := Lib.hid hh; clear hh hown hgr))
  go_ret
  have HF : Held w1 ([.int .i64 dy.1, .slice wa1 dy.2.length wc1, .int .i64 dol.1, .slice wa2 dol.2.length wc2] ++ ys) ([dy, dol] ++ fr) := by
    refine held_append ⟨⟨hi1, rfl, wa1, wc1, rfl, H1.out.below HB1.out⟩, ⟨hi2, rfl, wa2, wc2, rfl, H2.out.below HB1.out⟩, trivial⟩ (HH.out.below HB1.out)
  refine ⟨_, rfl, rs_of_own HO.out (by simp [Dmp.mem]; omega) HF (by omega), ?_, HB1.out⟩
  rcases HO.out.2 with ⟨_, h0⟩ | ⟨g, c, cur, hv, hbg, hg, hnc, hcm, hcs, htake⟩
  · omega
  · have e : (Dmp.mem ⟨dy, dol, sz, mk, fr, ro, ha⟩).length = 2 + fr.length := by simp [Dmp.mem]; omega
    rw [e]
    exact ⟨_, c, hv, hnc, hcm⟩

/-- May a region begin where it does? -/
def okA (f : Frg) : Bool := decide (f.2.length = 0) || (decide (0 ≤ f.1) && decide (f.1 ≤ 1125899906842624))

theorem okA_false {a : Int} {l : List Nat} (h : okA (a, l) = false) : 0 < l.length ∧ (a < 0 ∨ 1125899906842624 < a) := by
  unfold okA at h
  simp only [Bool.or_eq_false_iff, Bool.and_eq_false_iff, decide_eq_false_iff_not] at h
  omega

theorem okA_true {a : Int} {l : List Nat} (h : okA (a, l) = true) : l.length = 0 ∨ 0 ≤ a ∧ a ≤ 1125899906842624 := by
  unfold okA at h
  simp only [Bool.or_eq_true, Bool.and_eq_true, decide_eq_true_eq] at h
  omega

def apF (f g : Frg) : Bool := apartP f.1 f.2.length g.1 g.2.length

def regL (dn : List Frg) : List Frg → Bool
  | [] => true
  | f :: r => okA f && dn.all (apF f) && regL (dn ++ [f]) r

def marksP (d : Dmp) : Bool := decide ((d.young.2.length : Int) ≤ d.size) && decide (0 ≤ d.mark) && decide (d.mark ≤ (d.young.2.length : Int))

def regionsP (d : Dmp) : Bool := regL [] d.mem && marksP d

theorem regL_step {m : List Frg} {j : Nat} (h : j < m.length) : regL (m.take j) (m.drop j) = (okA m[j] && (m.take j).all (apF m[j]) && regL (m.take (j + 1)) (m.drop (j + 1))) := by
  rw [List.drop_eq_getElem_cons h, regL, List.take_succ_eq_append_getElem h]

theorem wordsN_mem {m : List Frg} {f : Frg} (h : f ∈ m) : f.2.length ≤ wordsN m := by
  induction m with
  | nil => cases h
  | cons g r ih =>
    simp only [wordsN, List.map_cons, List.sum_cons]
    rcases List.mem_cons.1 h with rfl | h
    · omega
    · have := ih h; simp only [wordsN] at this; omega

theorem all_false {α : Type} {l : List α} {p : α → Bool} {x : α} (h : x ∈ l) (hp : p x = false) : l.all p = false := by
  rw [List.all_eq_false]; exact ⟨x, h, by simp [hp]⟩

theorem all_take {α : Type} {l : List α} {p : α → Bool} {k : Nat} (h : k < l.length) (ha : (l.take k).all p = true) (hp : p l[k] = true) : (l.take (k + 1)).all p = true := by
  rw [List.take_succ_eq_append_getElem h, List.all_append, ha]; simp [hp]

set_option maxHeartbeats 8000000 in
set_option maxRecDepth 100000 in
theorem regions_any (d : Dmp) (v : Value) (w : World) (hd : DmAt w v d) (hf : d.frags.length ≤ 100000) (hN : wordsN d.mem ≤ 5000) :
    Calls Try.prog 19 #[v] w fun e w' => e = .returned (.bool (regionsP d)) ∧ Below w.heap.size w w' := by
  have HD := Lib.hid hd
  obtain ⟨a, b, a', b', f, r, h, rfl, ⟨-, rfl, wa1, wc1, rfl, -⟩, ⟨-, rfl, wa2, wc2, rfl, -⟩, -, -, ⟨-, fa, fc, rfl, -⟩, ⟨-, -, ra, rc, rfl, -⟩, ⟨-, -, ha, hc, rfl, -⟩⟩ := hd
  have T := one_at w (.cells #[.int .i64 d.young.1, .slice wa1 d.young.2.length wc1, .int .i64 d.old.1, .slice wa2 d.old.2.length wc2, .int .i64 d.size, .int .i64 d.mark, .slice fa d.frags.length fc, .slice ra d.roots.length rc, .slice ha d.handles.length hc] 28)
  go_enter Try.func19, Try.ntmps19
  go_wp2_with fail
  generalize w.alloc (.cells #[.int .i64 d.young.1, .slice wa1 d.young.2.length wc1, .int .i64 d.old.1, .slice wa2 d.old.2.length wc2, .int .i64 d.size, .int .i64 d.mark, .slice fa d.frags.length fc, .slice ra d.roots.length rc, .slice ha d.handles.length hc] 28) = W at *
  have X0 := Lib.hid T.1
  have XS := Lib.hid T.2.1
  have XB := Lib.hid T.2.2
  clear T
  have HML := Lib.hid (show d.mem.length ≤ 100002 by simp [Dmp.mem]; omega)
  refine (of_cap d _ W (HD.out.below XB.out) hf).mono ?_
  rintro e w2 ⟨mv, rfl, hm, ⟨ma, mc, rfl, hcc, hcm⟩, hb2⟩
  have Y0 := Lib.hid ((hb2.block w.heap.size (by have := XS.out; omega)).trans X0.out)
  have YB := Lib.hid (XB.out.trans (hb2.mono XB.out.size))
  have YW := Lib.hid (show w.heap.size < w2.heap.size by have := XS.out; have := hb2.size; omega)
  have HCC := Lib.hid hcc
  have HCM := Lib.hid hcm
  have HNN := Lib.hid hN
  obtain ⟨-, ma', mc', he, hmc⟩ := hm
  simp only [Value.slice.injEq, true_and] at he
  obtain ⟨rfl, rfl⟩ := he
  have HMC := Lib.hid hmc
  obtain ⟨m, hmm⟩ : ∃ m, m = d.mem := ⟨_, rfl⟩
  have HMM := Lib.hid hmm
  rw [← hmm] at HMC HCC HML HNN ⊢
  clear hb2 hmc hmm hN hcc hcm
  go_wp2_with fail
  go_loopw [12] (fun i wr => ∃ (k : Nat), k ≤ m.length ∧ i = .int .i64 k ∧ Hid (regL [] m = regL (m.take k) (m.drop k)) ∧ Hid (∀ g ∈ m.take k, okA g = true) ∧ Hid (Below w2.heap.size w2 wr)) (fun i _ => m.length - (intOf i).toNat)
  case atStart => exact ⟨0, by omega, rfl, Lib.hid (by simp), Lib.hid (fun g hg => by simp at hg), Lib.hid (Below.refl _ _)⟩
  case round =>
    obtain ⟨k, hk, rfl, HR, HA, HB⟩ := hrel
    by_cases hlt : k < m.length
    · have p1 : (k : Int) < (m.length : Int) := by omega
      have p2 : (0 : Int) ≤ (k : Int) := by omega
      have Q5 := Lib.hid (show -9223372036854775808 ≤ (k : Int) + 1 ∧ (k : Int) + 1 ≤ 9223372036854775807 by have := HML.out; omega)
      have QK := Lib.hid (show k + 1 ≤ m.length by omega)
      have QM := Lib.hid (show m.length - (k + 1) < m.length - k by omega)
      obtain ⟨gr, og, wa, wc, rfl, hi, k0, k1, -⟩ := HMC.out k hlt
      have k0 := (HB.out.cell (World.block_lt_of_cell? w2 _ k0)).trans k0
      have k1 := (HB.out.cell (World.block_lt_of_cell? w2 _ k1)).trans k1
      have HSTEP := Lib.hid (regL_step hlt)
      have HLN := Lib.hid (wordsN_mem (List.getElem_mem hlt))
      have HTK := Lib.hid (List.take_succ_eq_append_getElem hlt)
      obtain ⟨⟨a, fw⟩, hat⟩ : ∃ s : Frg, m[k]'hlt = s := ⟨_, rfl⟩
      rw [hat] at k0 k1 HSTEP HLN HTK hi
      simp only at k0 k1 hi
      clear hat
      go_upto_region 5 with fail
      have T := one_at wr (.cells #[.int .i64 a, .slice wa fw.length wc] 24)
      generalize wr.alloc (.cells #[.int .i64 a, .slice wa fw.length wc] 24) = V at *
      have V0 := Lib.hid T.1
      have VS := Lib.hid T.2.1
      have VB := Lib.hid (HB.out.trans (T.2.2.mono HB.out.size))
      clear T
      have c0 := cell_of V0.out 0
      have c1 := cell_of V0.out 1
      simp at c0 c1
      clear k0 k1
      cases hok : okA (a, fw) with
      | false =>
        have HOF := Lib.hid hok
        have q1 : (0 : Int) < (fw.length : Int) := by have := okA_false hok; omega
        have HFIN := Lib.hid (show regionsP d = false by unfold regionsP; rw [← HMM.out, HR.out, HSTEP.out, HOF.out]; simp)
        by_cases hneg : a < 0
        · clear hok
          go_wp2_with fail
          go_ret
          exact ⟨by rw [HFIN.out]; rfl, YB.out.trans (VB.out.mono YB.out.size)⟩
        · have q3 : 1125899906842624 < a := by have := okA_false hok; omega
          clear hok
          go_wp2_with fail
          go_ret
          exact ⟨by rw [HFIN.out]; rfl, YB.out.trans (VB.out.mono YB.out.size)⟩
      | true =>
        have HOK := Lib.hid hok
        have HBD := Lib.hid (show fw.length = 0 ∨ 0 ≤ a ∧ a ≤ 1125899906842624 from okA_true hok)
        clear hok
        go_cut [30] from 17 to 30 (fun u wx => u = .bool false ∧ V = wx)
        case first =>
          by_cases q1 : (0 : Int) < (fw.length : Int)
          · have q2 : ¬ a < 0 := by have := HBD.out; omega
            have q3 : ¬ 1125899906842624 < a := by have := HBD.out; omega
            go_wp2_with fail
            go_meet
            exact ⟨rfl, rfl⟩
          · go_wp2_with fail
            go_meet
            exact ⟨rfl, rfl⟩
        case rest =>
          obtain ⟨rfl, rfl⟩ := hcut
          have s1 : (k : Int) ≤ (mc : Int) := by have := HCC.out; omega
          have s2 : k ≤ mc := by omega
          go_wp2_with fail
          go_loopw [35] (fun q wr3 => ∃ (j : Nat), j ≤ k ∧ q = .int .i64 j ∧ Hid ((m.take j).all (apF (a, fw)) = true) ∧ Hid (Below V.heap.size V wr3)) (fun q _ => k - (intOf q).toNat)
          case atStart => exact ⟨0, by omega, rfl, Lib.hid (by simp), Lib.hid (Below.refl _ _)⟩
          case round =>
            obtain ⟨j, hj, rfl, HAL, HB3⟩ := hrel
            by_cases hlj : j < k
            · have q1 : (j : Int) < (k : Int) := by omega
              have q2 : (0 : Int) ≤ (j : Int) := by omega
              have hjm : j < m.length := by omega
              obtain ⟨g2, o2, wa3, wc3, he2, hi2, j0, j1, -⟩ := HMC.out j hjm
              simp only [Option.some.injEq, Addr.mk.injEq, and_true] at he2
              obtain ⟨rfl, rfl⟩ := he2
              have HBX := Lib.hid (VB.out.trans (HB3.out.mono VB.out.size))
              have j0 := (HBX.out.cell (World.block_lt_of_cell? w2 _ j0)).trans j0
              have j1 := (HBX.out.cell (World.block_lt_of_cell? w2 _ j1)).trans j1
              have HJN := Lib.hid (wordsN_mem (List.getElem_mem hjm))
              have HJA := Lib.hid (HA.out m[j] (List.mem_take_iff_getElem.2 ⟨j, by omega, rfl⟩))
              have HJM := Lib.hid (show m[j] ∈ m.take k from List.mem_take_iff_getElem.2 ⟨j, by omega, rfl⟩)
              have HJT := Lib.hid (fun hp : apF (a, fw) m[j] = true => all_take hjm HAL.out hp)
              obtain ⟨⟨b, gw⟩, hbt⟩ : ∃ s : Frg, m[j]'hjm = s := ⟨_, rfl⟩
              rw [hbt] at j0 j1 HJN HJA HJM HJT hi2
              simp only at j0 j1 hi2
              clear hbt
              have Q6 := Lib.hid (show -9223372036854775808 ≤ (j : Int) + 1 ∧ (j : Int) + 1 ≤ 9223372036854775807 by have := HML.out; omega)
              have QJ := Lib.hid (show j + 1 ≤ k by omega)
              have QN := Lib.hid (show k - (j + 1) < k - j by omega)
              have HBD2 := Lib.hid (show fw.length = 0 ∨ gw.length = 0 ∨ ((0 ≤ a ∧ a ≤ 1125899906842624 ∧ fw.length ≤ 1000000) ∧ (0 ≤ b ∧ b ≤ 1125899906842624 ∧ gw.length ≤ 1000000)) by
                have h1 := HBD.out
                have h2 := okA_true HJA.out
                have h3 := HJN.out
                have h4 := HLN.out
                have h5 := HNN.out
                simp only at h3 h4
                omega)
              have d0 := (HB3.out.cell (World.block_lt_of_cell? V _ c0)).trans c0
              have d1 := (HB3.out.cell (World.block_lt_of_cell? V _ c1)).trans c1
              go_upto_region 10 with fail
              have T := one_at wr (.cells #[.int .i64 b, .slice wa3 gw.length wc3] 24)
              generalize wr.alloc (.cells #[.int .i64 b, .slice wa3 gw.length wc3] 24) = V3 at *
              have Z0 := Lib.hid T.1
              have ZB := Lib.hid T.2.2
              clear T
              have d0 := (ZB.out.cell (World.block_lt_of_cell? wr _ d0)).trans d0
              have d1 := (ZB.out.cell (World.block_lt_of_cell? wr _ d1)).trans d1
              have f0 := cell_of Z0.out 0
              have f1 := cell_of Z0.out 1
              simp at f0 f1
              clear j0 j1
              go_wp2_with fail
              refine (apart_any a b wa wa3 fw.length gw.length wc wc3 V3 HBD2.out).mono ?_
              rintro e w5 ⟨rfl, hb5⟩
              have HB5 := Lib.hid (HB3.out.trans ((ZB.out.trans (hb5.mono ZB.out.size)).mono HB3.out.size))
              clear hb5
              cases hap : apartP a fw.length b gw.length with
              | false =>
                have HFIN := Lib.hid (show regionsP d = false by
                  unfold regionsP
                  rw [← HMM.out, HR.out, HSTEP.out, all_false HJM.out (show apF (a, fw) (b, gw) = false from hap)]
                  simp)
                clear hap
                go_wp2_with fail
                go_ret
                exact ⟨by rw [HFIN.out]; rfl, YB.out.trans ((VB.out.trans (HB5.out.mono VB.out.size)).mono YB.out.size)⟩
              | true =>
                have HNX := Lib.hid (HJT.out hap)
                clear hap
                have p5 : IntKind.i64.wrap ((j : Int) + 1) = (j : Int) + 1 := IntWalk.i64_in _ Q6.out
                go_wp2_with fail
                go_roundw
                case rel => exact ⟨j + 1, QJ.out, by go_num, HNX, HB5⟩
                case measure => clear p5; simp [intOf]; omega
            · obtain rfl : j = k := by omega
              have q1 : ¬ (j : Int) < (j : Int) := by omega
              have p5 : IntKind.i64.wrap ((j : Int) + 1) = (j : Int) + 1 := IntWalk.i64_in _ Q5.out
              have HR2 := Lib.hid (show regL [] m = regL (m.take (j + 1)) (m.drop (j + 1)) by rw [HR.out, HSTEP.out, HOK.out, HAL.out]; simp)
              have HA2 := Lib.hid (show ∀ g ∈ m.take (j + 1), okA g = true by
                intro g hg
                rw [HTK.out] at hg
                rcases List.mem_append.1 hg with h | h
                · exact HA.out g h
                · simp at h; subst h; exact HOK.out)
              go_wp2_with fail
              go_roundw
              case rel => exact ⟨j + 1, QK.out, by go_num, HR2, HA2, Lib.hid (VB.out.trans (HB3.out.mono VB.out.size))⟩
              case measure => clear p5; simp [intOf]; omega
    · obtain rfl : k = m.length := by omega
      have p1 : ¬ (m.length : Int) < (m.length : Int) := by omega
      have HRG := Lib.hid (show regionsP d = marksP d by unfold regionsP; rw [← HMM.out, HR.out]; simp [regL])
      have HMK := Lib.hid (show marksP d = (decide ((d.young.2.length : Int) ≤ d.size) && decide (0 ≤ d.mark) && decide (d.mark ≤ (d.young.2.length : Int))) from rfl)
      have Y1 := Lib.hid ((HB.out.block w.heap.size YW.out).trans Y0.out)
      have y1 := cell_of Y1.out 1
      have y4 := cell_of Y1.out 4
      have y5 := cell_of Y1.out 5
      simp at y1 y4 y5
      have E := Lib.hid (YB.out.trans (HB.out.mono YB.out.size))
      by_cases m1 : (d.young.2.length : Int) ≤ d.size
      · by_cases m2 : 0 ≤ d.mark
        · by_cases m3 : d.mark ≤ (d.young.2.length : Int)
          · have HF := Lib.hid (show regionsP d = true by rw [HRG.out, HMK.out]; simp [m1, m2, m3])
            go_wp2_with fail
            go_ret
            exact ⟨by rw [HF.out]; rfl, E.out⟩
          · have HF := Lib.hid (show regionsP d = false by rw [HRG.out, HMK.out]; simp [m1, m2, m3])
            go_wp2_with fail
            go_ret
            exact ⟨by rw [HF.out]; rfl, E.out⟩
        · have HF := Lib.hid (show regionsP d = false by rw [HRG.out, HMK.out]; simp [m1, m2])
          go_wp2_with fail
          go_ret
          exact ⟨by rw [HF.out]; rfl, E.out⟩
      · have HF := Lib.hid (show regionsP d = false by rw [HRG.out, HMK.out]; simp [m1])
        go_wp2_with fail
        go_ret
        exact ⟨by rw [HF.out]; rfl, E.out⟩

end Go.Proofs.Ytohgkfnbjfhniaa
