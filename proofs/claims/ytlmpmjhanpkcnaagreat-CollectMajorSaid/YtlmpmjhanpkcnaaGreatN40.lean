/-
  Collect: the law's own apart, walked.
-/
import Derived.Test.YtlmpmjhanpkcnaaGreatN39
set_option linter.unusedVariables false
set_option linter.unusedSimpArgs false
namespace Go.Proofs.YtlmpmjhanpkcnaaGreat
open Go.RowKit

def ApR4 (w3 : World) (Ti : List Int) (lx : Int) (nx : Nat) (tv kv : Value) (wr : World) : Prop := ∃ (k : Nat), k ≤ nx ∧ kv = .int .i64 k ∧ Hid (wr.ownsRow w3.heap.size 3 1 tv (Ti ++ (List.range k).map (fun (q : Nat) => lx + (q : Int))).length (csI (Ti ++ (List.range k).map (fun (q : Nat) => lx + (q : Int))))) ∧ Hid (Below w3.heap.size w3 wr)
def ApR2 (w3 : World) (at_ : List Nat) (mn : Nat → Nat) (tv iv : Value) (wr : World) : Prop := ∃ (i : Nat), i ≤ at_.length ∧ iv = .int .i64 i ∧ Hid (wr.ownsRow w3.heap.size 3 1 tv ((at_.take i).flatMap (objA mn)).length (csI ((at_.take i).flatMap (objA mn)))) ∧ Hid (Below w3.heap.size w3 wr)

theorem tb_in {M : Mt} {mn : Nat → Nat} (h : ∀ x ∈ M.at_, mn x ≤ 1000) {i : Nat} (hb : ∀ x ∈ M.at_, x < 18446744073709551616) : ∀ y ∈ (M.at_.take i).flatMap (objA mn), -1152921504606846976 ≤ y ∧ y ≤ 2305843009213694951 := by
  intro y hy
  obtain ⟨x, hx, hy⟩ := List.mem_flatMap.1 hy
  have hx := List.mem_of_mem_take hx
  obtain ⟨k, hk, rfl⟩ := List.mem_map.1 hy
  have := List.mem_range.1 hk
  have := h x hx
  have h1 := loadW_in' (x := x)
  have := h1.2 (hb x hx)
  omega

set_option maxHeartbeats 16000000 in
set_option maxRecDepth 100000 in
theorem apart13_any (e : Dmp) (v : Value) (w : World) (hd : DmAt w v e) (hf0 : e.frags = []) (ho0 : e.old = (0, [])) (hN : wordsN e.mem ≤ 5000) (hm : MemB e.mem) (hrl : e.roots.length ≤ 100000) (hy0 : 0 ≤ e.young.1 ∧ e.young.1 ≤ 1125899906842624) (mn : Nat → Nat)
    (hmn : ∀ x ∈ (metP e.mem e.roots).at_, ManyOk e x (mn x)) (hT : ((metP e.mem e.roots).at_.flatMap (objA mn)).Nodup) (hTl : ((metP e.mem e.roots).at_.flatMap (objA mn)).length = (metP e.mem e.roots).words) (hwl : (metP e.mem e.roots).words ≤ e.young.2.length) :
    Calls Tryz.prog 17 #[v] w fun e w' => TrueEnd w w' e := by
  obtain ⟨wa1, wc1, wa2, wc2, fa, fc, ra, rc, ha, hc, rfl⟩ := hd.shape
  have HD := Lib.hid hd
  have HMO := Lib.hid (mtAll_ok hm hN hd.ws.2.1).1
  obtain ⟨i0, hi, hz0, hz1, hz2⟩ := info_parts info3
  have HRE := Lib.hid (fun V (hb : Below w.heap.size w V) => reached12_any e _ V (hd.below hb) (by rw [hf0]; simp) hN hm hrl)
  obtain ⟨M, hM⟩ : ∃ M, metP e.mem e.roots = M := ⟨_, rfl⟩
  rw [hM] at HRE hmn hT hTl hwl HMO
  have HMN := Lib.hid hmn
  have HT := Lib.hid hT
  have HTL := Lib.hid hTl
  have HWL := Lib.hid hwl
  have HMY := Lib.hid (hm e.young (by simp [Dmp.mem]))
  have HTB := Lib.hid (fun i => tb_in (M := M) (mn := mn) (i := i) (fun x hx => (hmn x hx).2.1) (fun x hx => (hmn x hx).1))
  have HYL := Lib.hid (show e.young.2.length ≤ 5000 by have := len_le_wordsN (m := e.mem) (f := e.young) (by simp [Dmp.mem]); omega)
  have HRG := Lib.hid (fun V (hb : Below w.heap.size w V) => regs2_any e _ w V hd hb (by rw [hf0]; simp))
  have HMEM := Lib.hid (show e.mem = [e.young, (0, [])] by unfold Dmp.mem; rw [hf0, ho0])
  rw [HMEM.out] at HRG
  have HNW := Lib.hid hN
  clear hd hmn hT hTl hwl hM hm hf0 ho0 hN
  have T := one_at w (.cells #[.int .i64 e.young.1, .slice wa1 e.young.2.length wc1, .int .i64 e.old.1, .slice wa2 e.old.2.length wc2, .int .i64 e.size, .int .i64 e.mark, .slice fa e.frags.length fc, .slice ra e.roots.length rc, .slice ha e.handles.length hc] 28)
  go_enter Tryz.func17, Tryz.ntmps17
  go_upto_region 1 with fail
  generalize w.alloc (.cells #[.int .i64 e.young.1, .slice wa1 e.young.2.length wc1, .int .i64 e.old.1, .slice wa2 e.old.2.length wc2, .int .i64 e.size, .int .i64 e.mark, .slice fa e.frags.length fc, .slice ra e.roots.length rc, .slice ha e.handles.length hc] 28) = W at *
  have X0 := Lib.hid T.1
  have XS := Lib.hid T.2.1
  have XB := Lib.hid T.2.2
  clear T
  have x0 := cell_of X0.out 0
  have x1 := cell_of X0.out 1
  have x2 := cell_of X0.out 2
  have x3 := cell_of X0.out 3
  have x4 := cell_of X0.out 4
  have x5 := cell_of X0.out 5
  have x6 := cell_of X0.out 6
  have x7 := cell_of X0.out 7
  have x8 := cell_of X0.out 8
  simp at x0 x1 x2 x3 x4 x5 x6 x7 x8

  go_wp2_with fail
  refine (HRE.out W XB.out).mono ?_
  clear HRE
  rintro _ w1 ⟨av, hv, rfl, hoa, hoh, hb1⟩
  obtain ⟨aa, ac, rfl⟩ := own_slice hoa
  obtain ⟨ha2, hc2, rfl⟩ := own_slice hoh
  clear hoh
  have HAW := Lib.hid (Ws.of_own hoa (by have := HMO.out.count; have := HNW.out; omega) (fun x hx => (HMN.out x hx).1))
  have Y0 := Lib.hid ((hb1.block _ (lt_of_block X0.out)).trans X0.out)
  have YB := Lib.hid (XB.out.trans (hb1.mono XB.out.size))
  clear hoa hb1 x0 x1 x2 x3 x4 x5 x6 x7 x8 X0 XB
  dsimp only
  go_upto_region 3 with fail
  have T := one_at w1 (.cells #[.slice aa M.at_.length ac, .int .i64 M.words, .slice ha2 M.hs.length hc2] 39)
  generalize w1.alloc (.cells #[.slice aa M.at_.length ac, .int .i64 M.words, .slice ha2 M.hs.length hc2] 39) = w2 at *
  have XM := Lib.hid T.1
  have X2 := Lib.hid ((T.2.2.block _ (lt_of_block Y0.out)).trans Y0.out)
  have HB2 := Lib.hid (YB.out.trans (T.2.2.mono YB.out.size))
  have HAW2 := Lib.hid (HAW.out.below T.2.2)
  obtain ⟨R, hR⟩ : ∃ R, w1.heap.size = R := ⟨_, rfl⟩
  rw [hR] at XM ⊢
  clear T Y0 YB hR HAW
  have x0 := cell_of X2.out 0
  have x1 := cell_of X2.out 1
  have x2 := cell_of X2.out 2
  have x3 := cell_of X2.out 3
  have x4 := cell_of X2.out 4
  have x5 := cell_of X2.out 5
  have x6 := cell_of X2.out 6
  have x7 := cell_of X2.out 7
  have x8 := cell_of X2.out 8
  simp at x0 x1 x2 x3 x4 x5 x6 x7 x8

  go_wp2_with fail
  refine (HRG.out w2 HB2.out).mono ?_
  clear HRG
  rintro _ w3 ⟨r, rfl, ⟨-, ra3, rc3, rfl, hrs⟩, hb3⟩
  have XM3 := Lib.hid ((hb3.block _ (lt_of_block XM.out)).trans XM.out)
  have HB3 := Lib.hid (HB2.out.trans (hb3.mono HB2.out.size))
  have HAW3 := Lib.hid (HAW2.out.below hb3)
  have HR0 := Lib.hid (hrs 0 (by simp))
  have HR1 := Lib.hid (hrs 1 (by simp))
  obtain ⟨NL, hNL⟩ : ∃ NL, e.young.2.length = NL := ⟨_, rfl⟩
  have HNL := Lib.hid hNL
  have HNB := Lib.hid (show NL ≤ 5000 ∧ M.words ≤ NL by rw [← hNL]; exact ⟨HYL.out, HWL.out⟩)
  have HCC := Lib.hid (show ∀ j, j < 2 → ∃ g o wa wc fa fl, ra3 = some ⟨g, o, none⟩ ∧ w3.cell? ⟨g, o + j * 2, none⟩ = some (.int .i64 fa) ∧ w3.cell? ⟨g, o + j * 2 + 1, none⟩ = some (.slice wa fl wc) ∧ (j = 0 → fa = e.young.1 ∧ fl = NL ∧ Ws w (.slice wa fl wc) e.young.2) ∧ (j = 1 → fa = 0 ∧ fl = 0) by
    intro j hj
    obtain ⟨g, o, wa, wc, e1, -, k0, k1, hws⟩ := hrs j (by simpa using hj)
    have : j = 0 ∨ j = 1 := by omega
    rcases this with rfl | rfl
    · exact ⟨g, o, wa, wc, e.young.1, e.young.2.length, e1, k0, k1, (fun _ => ⟨rfl, hNL, hws⟩), fun h => by omega⟩
    · exact ⟨g, o, wa, wc, 0, 0, e1, k0, k1, (fun h => by omega), fun _ => ⟨rfl, rfl⟩⟩)
  clear hrs hb3 x0 x1 x2 x3 x4 x5 x6 x7 x8 X2 XM HB2 HAW2 HR0 HR1 hNL
  rw [show ([e.young, (0, [])] : List Frg).length = 2 from rfl]
  go_wp2_with fail
  go_loopw [4, 6] (fun nv iv wr => ∃ (j : Nat), j ≤ 2 ∧ iv = .int .i64 j ∧ nv = .int .i64 ((if j = 0 then 0 else NL : Nat) : Int) ∧ w3 = wr) (fun _ iv _ => 2 - (intOf iv).toNat)
  case atStart => exact ⟨0, by omega, rfl, rfl, rfl⟩
  case round =>
    obtain ⟨j, hj, rfl, rfl, rfl⟩ := hrel
    by_cases hlt : j < 2
    · obtain ⟨g, o, wa, wc, fa, fl, rfl, k0, k1, hj0, hj1⟩ := HCC.out j hlt
      have p1 : (j : Int) < 2 := by omega
      have p2 : (0 : Int) ≤ (j : Int) := by omega
      have p5 : IntKind.i64.wrap ((j : Int) + 1) = (j : Int) + 1 := IntWalk.i64_in _ (by omega)
      have HJ0 := Lib.hid hj0
      have HJ1 := Lib.hid hj1
      obtain ⟨nn, hnn⟩ : ∃ nn : Nat, (if j = 0 then 0 else NL) = nn := ⟨_, rfl⟩
      have HNN := Lib.hid hnn
      rw [hnn]
      have HSUM := Lib.hid (show nn + fl = NL by
        have : j = 0 ∨ j = 1 := by omega
        rcases this with rfl | rfl
        · rw [← HNN.out, (HJ0.out rfl).2.1]; simp
        · rw [← HNN.out, (HJ1.out rfl).2]; simp)
      have p6 : IntKind.i64.wrap ((nn : Int) + (fl : Int)) = (nn : Int) + (fl : Int) := by have := HSUM.out; have := HNB.out; exact IntWalk.i64_in _ (by omega)
      clear hj0 hj1 hnn
      go_wp2_with fail
      go_roundw
      case rel => exact ⟨j + 1, by omega, by go_num, by rw [if_neg (by omega), ← HSUM.out]; simp⟩
      case measure => clear p5 p6; simp [intOf]; omega
    · obtain rfl : j = 2 := by omega
      rw [if_neg (by omega)]
      simp only [show ((2 : Nat) : Int) = 2 from rfl]
      go_wp2_with fail
      go_loopw [7, 8] (fun tv iv wr => ApR2 w3 M.at_ mn tv iv wr) (fun _ iv _ => M.at_.length - (intOf iv).toNat)
      case atStart => exact ⟨0, by omega, rfl, Lib.hid (by simpa [csI] using World.ownsRow_nil _ _ _ _), Lib.hid (Below.refl _ _)⟩
      case round =>
        obtain ⟨i, hi1, rfl, HOW, HBW⟩ := hrel
        have MM := Lib.hid ((HBW.out.block _ (lt_of_block XM3.out)).trans XM3.out)
        have m0 := cell_of MM.out 0
        have m1 := cell_of MM.out 1
        simp at m0 m1
        by_cases hlt : i < M.at_.length
        · have HX := Lib.hid (HMN.out _ (List.getElem_mem hlt))
          have HSN := Lib.hid (objA_snoc (mn := mn) hlt)
          have HPL := Lib.hid (fun k (hk : k ≤ mn M.at_[i]) => part_len (mn := mn) (k := k) hlt hk)
          have HPR := Lib.hid (fun k (hk : k < mn M.at_[i]) => apart_pre (k := k) hlt hk HT.out)
          obtain ⟨-, -, aa', ac', he, -, -, hax⟩ := HAW3.out.below HBW.out
          simp only [Value.slice.injEq, true_and] at he
          obtain ⟨rfl, rfl⟩ := he
          obtain ⟨ga, oa, rfl, kx⟩ := hax i hlt
          obtain ⟨x, hxx⟩ : ∃ x, M.at_[i]'hlt = x := ⟨_, rfl⟩
          rw [hxx] at kx HX HSN HPL HPR
          clear hax hxx
          obtain ⟨Ti, hTi⟩ : ∃ Ti, (M.at_.take i).flatMap (objA mn) = Ti := ⟨_, rfl⟩
          have HTI := Lib.hid hTi
          rw [hTi] at HOW HSN HPL HPR
          clear hTi
          obtain ⟨nx, hnx⟩ : ∃ nx, mn x = nx := ⟨_, rfl⟩
          rw [hnx] at HX HSN HPL HPR
          clear hnx
          obtain ⟨hxb, hn1000, hcase⟩ := HX.out
          have HLX := Lib.hid (loadW_in' (x := x))
          have HCASE := Lib.hid hcase
          have HLD := Lib.hid (load8_any x hxb)
          have HTG := Lib.hid (tag8_any x hxb)
          obtain ⟨lx, hlx⟩ : ∃ lx, loadW x = lx := ⟨_, rfl⟩
          obtain ⟨tx, htx⟩ : ∃ tx, tagW x = tx := ⟨_, rfl⟩
          rw [hlx] at HCASE HLD HSN HPL HPR HLX
          rw [htx] at HCASE HTG
          clear hlx htx hcase HX
          have HL1 := HLX.out
          have HLB := Lib.hid (show -1152921504606846976 ≤ lx ∧ lx ≤ 2305843009213693951 from ⟨HL1.1, HL1.2 hxb⟩)
          clear HL1
          have p1 : (i : Int) < (M.at_.length : Int) := by omega
          have p2 : (0 : Int) ≤ (i : Int) := by omega
          have QK := Lib.hid (show i + 1 ≤ M.at_.length ∧ M.at_.length - (i + 1) < M.at_.length - i by omega)
          have q9 := Lib.hid (show IntKind.i64.wrap ((i : Int) + 1) = (i : Int) + 1 from IntWalk.i64_in _ (by have := HMO.out.count; have := HNW.out; omega))
          obtain ⟨wo, rfl⟩ : ∃ wo : World, wo = wr := ⟨_, rfl⟩
          go_wp2_with fail
          refine (HLD.out wo).mono ?_
          rintro _ wo' ⟨rfl, rfl⟩
          go_wp2_with fail
          refine (HTG.out wo).mono ?_
          rintro _ wo' ⟨rfl, rfl⟩
          have HBO := Lib.hid (Below.refl wo.heap.size wo)
          dsimp only
          rcases HCASE.out with ⟨ht5, hn2, -, -⟩ | ⟨ht4, jx, hjx, kd, sz, hlj, hhp, hsz⟩
          · obtain rfl := ht5
            obtain rfl := hn2
            rw [show ((5 : Nat) : Int) = 5 from rfl]
            clear HCASE m0 m1 kx p1
            go_wp2_with fail
            have HOWL := Lib.hid (own_lift HOW.out HBO.out)
            have HBWL := Lib.hid (HBW.out.trans (HBO.out.mono HBW.out.size))
            go_loopw [7, 15] (fun tv kv wr => ApR4 w3 Ti lx 2 tv kv wr) (fun _ kv _ => 2 - (intOf kv).toNat)
            case atStart => exact ⟨0, by omega, rfl, Lib.hid (by simpa using HOWL.out), HBWL⟩
            case round =>
              obtain ⟨k, hk, rfl, HOK, HBK⟩ := hrel
              obtain ⟨wk, rfl⟩ : ∃ wk : World, wk = wr := ⟨_, rfl⟩
              have HLL := Lib.hid (HPL.out k hk)
              by_cases hlt4 : k < 2
              · have HNE := Lib.hid (HPR.out k hlt4)
                have HLS := Lib.hid (show Ti ++ (List.range (k + 1)).map (fun (q : Nat) => lx + (q : Int)) = (Ti ++ (List.range k).map (fun (q : Nat) => lx + (q : Int))) ++ [lx + (k : Int)] by rw [List.range_succ, List.map_append, List.append_assoc]; rfl)
                have HBN := Lib.hid (show ∀ y ∈ Ti ++ (List.range k).map (fun (q : Nat) => lx + (q : Int)), -9223372036854775808 ≤ y ∧ y ≤ 9223372036854775807 from fun y hy => by
                  rcases List.mem_append.1 hy with q | q
                  · have := HTB.out i y (HTI.out ▸ q)
                    omega
                  · obtain ⟨z, hz, rfl⟩ := List.mem_map.1 q
                    have := List.mem_range.1 hz
                    have := HLB.out
                    omega)
                obtain ⟨L, hL⟩ : ∃ L, Ti ++ (List.range k).map (fun (q : Nat) => lx + (q : Int)) = L := ⟨_, rfl⟩
                rw [hL] at HOK HLL HNE HLS HBN
                clear hL
                obtain ⟨lb, lc, rfl⟩ := own_slice HOK.out
                have HLN := Lib.hid (show L.length ≤ 5000 by have := HLL.out; have := HTL.out; have := HNB.out; omega)
                have HIL := Lib.hid (is_of_own HOK.out (by have := HLN.out; omega) HBN.out).at_
                have p1 : (k : Int) < (2 : Int) := by omega
                have p5 := Lib.hid (show IntKind.i64.wrap ((k : Int) + 1) = (k : Int) + 1 from IntWalk.i64_in _ (by omega))
                have p6 := Lib.hid (show IntKind.i64.wrap (lx + (k : Int)) = lx + (k : Int) from IntWalk.i64_in _ (by have := HLB.out; omega))
                go_wp2_with fail
                go_loopw [16] (fun jv wr => ∃ (j : Nat), j ≤ L.length ∧ jv = .int .i64 j ∧ wk = wr) (fun jv _ => L.length - (intOf jv).toNat)
                case atStart => exact ⟨0, by omega, rfl, rfl⟩
                case round =>
                  obtain ⟨j, hj, rfl, rfl⟩ := hrel
                  by_cases hlt5 : j < L.length
                  · obtain ⟨gj, oj, rfl, kj, -, -⟩ := HIL.out j hlt5
                    have HNJ := Lib.hid (HNE.out _ (List.getElem_mem hlt5))
                    obtain ⟨y, hyy⟩ : ∃ y, L[j]'hlt5 = y := ⟨_, rfl⟩
                    rw [hyy] at kj HNJ
                    clear hyy
                    have r1 : (j : Int) < (L.length : Int) := by omega
                    have r2 : (0 : Int) ≤ (j : Int) := by omega
                    have r5 : IntKind.i64.wrap ((j : Int) + 1) = (j : Int) + 1 := IntWalk.i64_in _ (by have := HLN.out; omega)
                    have r6 : (y == lx + (k : Int)) = false := by simpa using HNJ.out
                    have p6 := p6.out
                    go_wp2_with fail
                    go_roundw
                    case rel => exact ⟨j + 1, by omega, by simp, trivial⟩
                    case measure => clear r5 p6; simp [intOf]; omega
                  · obtain rfl : j = L.length := by omega
                    have r1 : ¬ (L.length : Int) < (L.length : Int) := by omega
                    have p6 := p6.out
                    have p5 := p5.out
                    go_wp2_with (at_builtin; refine wpList_append_own_at _ rfl (.tmp 124) (.tmp 128) 26 rfl w3.heap.size 3 i0 _ 1 8 Tryz.underlying26 hi hz0 hz1 hz2 rfl (by decide) _ L.length (csI L) rfl (World.ownsRow.alloc HOK.out _) _ 1 1 [.int .i64 (lx + (k : Int))] rfl rfl (fun i u hi => by
                        match i with
                        | 0 => simp at hi; subst hi; simp [Addr.add_lit]
                        | i + 1 => simp at hi) (fun u hu => by simp at hu; subst hu; rfl) (by have := HLN.out; unfold maxLen; omega) (by have := HLN.out; omega) (by have := HBK.out.size; simp; omega) ?_; intro v9 w9 hown9 hgrow9 _ _
                                 have O9 := Lib.hid (show w9.ownsRow w3.heap.size 3 1 v9 (L ++ [lx + (k : Int)]).length (csI (L ++ [lx + (k : Int)])) by rw [csI_snoc, List.length_append]; exact hown9)
                                 have HB9 := Lib.hid (HBK.out.trans (push_below HOK.out HBK.out.size hgrow9))
                                 clear hown9 hgrow9)
                    go_roundw
                    case rel => exact ⟨k + 1, by omega, by go_num, Lib.hid (by rw [HLS.out]; exact O9.out), HB9⟩
                    case measure => clear p5 p6; simp [intOf]; omega
              · obtain rfl : 2 = k := by omega
                have p1 : ¬ (2 : Int) < (2 : Int) := by omega
                have q9 := q9.out
                go_wp2_with fail
                go_roundw
                case rel => exact ⟨i + 1, QK.out.1, by go_num, Lib.hid (by rw [HSN.out]; exact HOK.out), HBK⟩
                case measure => clear q9; have := QK.out.2; simp [intOf]; omega
          · obtain rfl := ht4
            rw [show ((4 : Nat) : Int) = 4 from rfl]
            have HP := Lib.hid (fun V => (parts8_any _ (HMY.out _ (List.getElem_mem hjx)) V).mono (R' := fun e w' => e = .returned (.tuple #[.int .i64 kd, .int .i64 sz, .bool true]) ∧ w' = V) fun e w' q => by
              obtain ⟨q1, q2⟩ := q
              unfold HeadEnd at q1
              rw [hhp] at q1
              exact ⟨q1, q2.symm⟩)
            have HLJ := Lib.hid (show lx = e.young.1 + (jx : Int) ∧ jx < NL ∧ 0 ≤ lx by have := HNL.out; have := hy0.1; omega)
            have HSZ := Lib.hid hsz
            have HJX := Lib.hid hjx
            obtain ⟨wd, hwd⟩ : ∃ wd, e.young.2[jx]'hjx = wd := ⟨_, rfl⟩
            have HWD := Lib.hid hwd
            rw [hwd] at HP
            clear HCASE m0 m1 kx p1 hwd hhp hsz hlj
            go_wp2_with fail
            go_loopw [10, 11] (fun mv kv wq => ∃ (j : Nat), j ≤ 2 ∧ kv = .int .i64 j ∧ mv = .int .i64 ((if j = 0 then 2 else nx : Nat) : Int) ∧ Hid (Below wo.heap.size wo wq)) (fun _ kv _ => 2 - (intOf kv).toNat)
            case atStart => exact ⟨0, by omega, rfl, rfl, Lib.hid (Below.refl _ _)⟩
            case round =>
              obtain ⟨j, hj, rfl, rfl, HBJ⟩ := hrel
              by_cases hlt3 : j < 2
              · obtain ⟨g3, o3, wa3, wc3, fa3, fl3, e3, k0, k1, hj0, hj1⟩ := HCC.out j hlt3
                obtain rfl := e3
                have HB3J := Lib.hid (HBW.out.trans (HBJ.out.mono HBW.out.size))
                have l0 := (HB3J.out.cell (World.block_lt_of_cell? _ _ k0)).trans k0
                have l1 := (HB3J.out.cell (World.block_lt_of_cell? _ _ k1)).trans k1
                have p1 : (j : Int) < 2 := by omega
                have p2 : (0 : Int) ≤ (j : Int) := by omega
                have p5 : IntKind.i64.wrap ((j : Int) + 1) = (j : Int) + 1 := IntWalk.i64_in _ (by omega)
                have HJ0 := Lib.hid hj0
                have HJ1 := Lib.hid hj1
                clear hj0 hj1 k0 k1
                by_cases h0 : j = 0
                · obtain ⟨efa, efl, hws⟩ := HJ0.out h0
                  have HEF := Lib.hid (show lx - fa3 = (jx : Int) by rw [efa]; have := HLJ.out.1; omega)
                  have p3 : decide (fa3 ≤ lx) = true := by have := HEF.out; simp; omega
                  have p4 : IntKind.i64.wrap (lx - fa3) = (jx : Int) := by rw [HEF.out]; exact IntWalk.i64_in _ (by have := HLJ.out.2.1; have := HNB.out; omega)
                  have p6 : decide (jx < fl3) = true := by rw [efl]; exact decide_eq_true HLJ.out.2.1
                  have p7 : (jx : Int) < (fl3 : Int) := by rw [efl]; have := HLJ.out.2.1; omega
                  have p8 : (0 : Int) ≤ (jx : Int) := by omega
                  obtain ⟨-, -, a9, c9, e9, -, -, hx9⟩ := hws
                  simp only [Value.slice.injEq] at e9
                  obtain ⟨rfl, -, rfl⟩ := e9
                  obtain ⟨g9, o9, rfl, k9⟩ := hx9 jx HJX.out
                  rw [HWD.out] at k9
                  have l2 := ((HB3.out.trans (HB3J.out.mono HB3.out.size)).cell (World.block_lt_of_cell? _ _ k9)).trans k9
                  have p9 : IntKind.i64.wrap (sz + 1) = (nx : Int) := by rw [HSZ.out]; exact IntWalk.i64_in _ (by omega)
                  rw [if_pos h0]
                  simp only [show ((2 : Nat) : Int) = 2 from rfl]
                  clear efa efl hx9 k9 h0
                  go_upto_region 18 with fail
                  go_quiet (fail)
                  have HBJ2 := Lib.hid (HBJ.out.trans ((drewN_below nq).mono HBJ.out.size))
                  have l0 : (wr.drewN nq).cell? _ = _ := l0
                  have l1 : (wr.drewN nq).cell? _ = _ := l1
                  have l2 : (wr.drewN nq).cell? _ = _ := l2
                  go_upto_region 19 with fail
                  generalize wr.drewN nq = w18 at *
                  go_quiet ((go_at_call 41; with_reducible exact Calls.quiet_of_same (HP.out _)))
                  go_wp2_with fail
                  go_roundw
                  case rel => exact ⟨j + 1, by omega, by go_num, by rw [if_neg (by omega)], Lib.hid (HBJ2.out.trans ((drewN_below _).mono HBJ2.out.size))⟩
                  case measure => clear p5; simp [intOf]; omega
                · have h1 : j = 1 := by omega
                  obtain ⟨efa, efl⟩ := HJ1.out h1
                  have p3 : decide (fa3 ≤ lx) = true := by have := HLJ.out; simp; omega
                  have p4 : IntKind.i64.wrap (lx - fa3) = lx - fa3 := IntWalk.i64_in _ (by have := HLJ.out; have := HLB.out; omega)
                  have p6 : decide (lx - fa3 < (fl3 : Int)) = false := by have := HLJ.out; simp; omega
                  rw [if_neg h0]
                  clear efa efl h0 h1
                  go_upto_region 18 with fail
                  go_quiet (fail)
                  go_wp2_with fail
                  go_roundw
                  case rel => exact ⟨j + 1, by omega, by go_num, by rw [if_neg (by omega)], Lib.hid (HBJ.out.trans ((drewN_below _).mono HBJ.out.size))⟩
                  case measure => clear p5; simp [intOf]; omega
              · obtain rfl : j = 2 := by omega
                rw [if_neg (by omega)]
                simp only [show ((2 : Nat) : Int) = 2 from rfl]
                clear HBO
                obtain ⟨wl, rfl⟩ : ∃ wl : World, wl = wr := ⟨_, rfl⟩
                have HBO := HBJ
                go_wp2_with fail
                have HOWL := Lib.hid (own_lift HOW.out HBO.out)
                have HBWL := Lib.hid (HBW.out.trans (HBO.out.mono HBW.out.size))
                go_loopw [7, 15] (fun tv kv wr => ApR4 w3 Ti lx nx tv kv wr) (fun _ kv _ => nx - (intOf kv).toNat)
                case atStart => exact ⟨0, by omega, rfl, Lib.hid (by simpa using HOWL.out), HBWL⟩
                case round =>
                  obtain ⟨k, hk, rfl, HOK, HBK⟩ := hrel
                  obtain ⟨wk, rfl⟩ : ∃ wk : World, wk = wr := ⟨_, rfl⟩
                  have HLL := Lib.hid (HPL.out k hk)
                  by_cases hlt4 : k < nx
                  · have HNE := Lib.hid (HPR.out k hlt4)
                    have HLS := Lib.hid (show Ti ++ (List.range (k + 1)).map (fun (q : Nat) => lx + (q : Int)) = (Ti ++ (List.range k).map (fun (q : Nat) => lx + (q : Int))) ++ [lx + (k : Int)] by rw [List.range_succ, List.map_append, List.append_assoc]; rfl)
                    have HBN := Lib.hid (show ∀ y ∈ Ti ++ (List.range k).map (fun (q : Nat) => lx + (q : Int)), -9223372036854775808 ≤ y ∧ y ≤ 9223372036854775807 from fun y hy => by
                      rcases List.mem_append.1 hy with q | q
                      · have := HTB.out i y (HTI.out ▸ q)
                        omega
                      · obtain ⟨z, hz, rfl⟩ := List.mem_map.1 q
                        have := List.mem_range.1 hz
                        have := HLB.out
                        omega)
                    obtain ⟨L, hL⟩ : ∃ L, Ti ++ (List.range k).map (fun (q : Nat) => lx + (q : Int)) = L := ⟨_, rfl⟩
                    rw [hL] at HOK HLL HNE HLS HBN
                    clear hL
                    obtain ⟨lb, lc, rfl⟩ := own_slice HOK.out
                    have HLN := Lib.hid (show L.length ≤ 5000 by have := HLL.out; have := HTL.out; have := HNB.out; omega)
                    have HIL := Lib.hid (is_of_own HOK.out (by have := HLN.out; omega) HBN.out).at_
                    have p1 : (k : Int) < (nx : Int) := by omega
                    have p5 := Lib.hid (show IntKind.i64.wrap ((k : Int) + 1) = (k : Int) + 1 from IntWalk.i64_in _ (by omega))
                    have p6 := Lib.hid (show IntKind.i64.wrap (lx + (k : Int)) = lx + (k : Int) from IntWalk.i64_in _ (by have := HLB.out; omega))
                    go_wp2_with fail
                    go_loopw [16] (fun jv wr => ∃ (j : Nat), j ≤ L.length ∧ jv = .int .i64 j ∧ wk = wr) (fun jv _ => L.length - (intOf jv).toNat)
                    case atStart => exact ⟨0, by omega, rfl, rfl⟩
                    case round =>
                      obtain ⟨j, hj, rfl, rfl⟩ := hrel
                      by_cases hlt5 : j < L.length
                      · obtain ⟨gj, oj, rfl, kj, -, -⟩ := HIL.out j hlt5
                        have HNJ := Lib.hid (HNE.out _ (List.getElem_mem hlt5))
                        obtain ⟨y, hyy⟩ : ∃ y, L[j]'hlt5 = y := ⟨_, rfl⟩
                        rw [hyy] at kj HNJ
                        clear hyy
                        have r1 : (j : Int) < (L.length : Int) := by omega
                        have r2 : (0 : Int) ≤ (j : Int) := by omega
                        have r5 : IntKind.i64.wrap ((j : Int) + 1) = (j : Int) + 1 := IntWalk.i64_in _ (by have := HLN.out; omega)
                        have r6 : (y == lx + (k : Int)) = false := by simpa using HNJ.out
                        have p6 := p6.out
                        go_wp2_with fail
                        go_roundw
                        case rel => exact ⟨j + 1, by omega, by simp, trivial⟩
                        case measure => clear r5 p6; simp [intOf]; omega
                      · obtain rfl : j = L.length := by omega
                        have r1 : ¬ (L.length : Int) < (L.length : Int) := by omega
                        have p6 := p6.out
                        have p5 := p5.out
                        go_wp2_with (at_builtin; refine wpList_append_own_at _ rfl (.tmp 124) (.tmp 128) 26 rfl w3.heap.size 3 i0 _ 1 8 Tryz.underlying26 hi hz0 hz1 hz2 rfl (by decide) _ L.length (csI L) rfl (World.ownsRow.alloc HOK.out _) _ 1 1 [.int .i64 (lx + (k : Int))] rfl rfl (fun i u hi => by
                            match i with
                            | 0 => simp at hi; subst hi; simp [Addr.add_lit]
                            | i + 1 => simp at hi) (fun u hu => by simp at hu; subst hu; rfl) (by have := HLN.out; unfold maxLen; omega) (by have := HLN.out; omega) (by have := HBK.out.size; simp; omega) ?_; intro v9 w9 hown9 hgrow9 _ _
                                     have O9 := Lib.hid (show w9.ownsRow w3.heap.size 3 1 v9 (L ++ [lx + (k : Int)]).length (csI (L ++ [lx + (k : Int)])) by rw [csI_snoc, List.length_append]; exact hown9)
                                     have HB9 := Lib.hid (HBK.out.trans (push_below HOK.out HBK.out.size hgrow9))
                                     clear hown9 hgrow9)
                        go_roundw
                        case rel => exact ⟨k + 1, by omega, by go_num, Lib.hid (by rw [HLS.out]; exact O9.out), HB9⟩
                        case measure => clear p5 p6; simp [intOf]; omega
                  · obtain rfl : nx = k := by omega
                    have p1 : ¬ (nx : Int) < (nx : Int) := by omega
                    have q9 := q9.out
                    go_wp2_with fail
                    go_roundw
                    case rel => exact ⟨i + 1, QK.out.1, by go_num, Lib.hid (by rw [HSN.out]; exact HOK.out), HBK⟩
                    case measure => clear q9; have := QK.out.2; simp [intOf]; omega
        · obtain rfl : i = M.at_.length := by omega
          have q1 : ¬ (M.at_.length : Int) < (M.at_.length : Int) := by omega
          rw [List.take_length] at HOW
          have HOT := HOW
          obtain ⟨T, hTT⟩ : ∃ T, M.at_.flatMap (objA mn) = T := ⟨_, rfl⟩
          rw [hTT] at HOW HTL
          obtain ⟨tb, tc, rfl⟩ := own_slice HOW.out
          obtain ⟨TW, hTW⟩ : ∃ TW, M.words = TW := ⟨_, rfl⟩
          have HTW := HTL.out
          rw [hTW] at HTW HNB m1
          rw [HTW]
          have q2 : (TW : Int) ≤ (NL : Int) := by have := HNB.out; omega
          go_wp2_with fail
          go_ret
          exact ⟨rfl, HB3.out.trans (HBW.out.mono HB3.out.size)⟩

end Go.Proofs.YtlmpmjhanpkcnaaGreat
