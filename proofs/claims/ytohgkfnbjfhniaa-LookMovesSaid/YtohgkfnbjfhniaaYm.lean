/-
  A dump whose regions stand elsewhere stands for the same terms: LookMoves.
-/
import Derived.Test.YtohgkfnbjfhniaaYl
import Derived.Deep.RegionHeld3
import Derived.Deep.RegionLaw
namespace Go.Proofs.Ytohgkfnbjfhniaa
open Go.RowKit

set_option maxHeartbeats 8000000 in
set_option maxRecDepth 100000 in
theorem lookMoves_any (d : Dmp) (v : Value) (by_ : Int) (w : World) (hd : DmAt w v d) (hk : In64 by_) :
    Calls Try.prog 4 #[v, .int .i64 by_] w fun e w' => e = .returned (.bool true) ∧ Below w.heap.size w w' := by
  obtain ⟨i0, hi, hz0, hz1, hz2⟩ := info_parts info37
  have HD := Lib.hid hd
  have HBY := Lib.hid hk
  have HDB := Lib.hid hd.bounds
  obtain ⟨wa1, wc1, wa2, wc2, fa, fc, ra, rc, ha, hc, rfl⟩ := hd.shape
  clear hd hk
  have T := one_at w (.cells #[.int .i64 d.young.1, .slice wa1 d.young.2.length wc1, .int .i64 d.old.1, .slice wa2 d.old.2.length wc2, .int .i64 d.size, .int .i64 d.mark, .slice fa d.frags.length fc, .slice ra d.roots.length rc, .slice ha d.handles.length hc] 28)
  go_enter Try.func4, Try.ntmps4
  go_wp2_with fail
  generalize w.alloc (.cells #[.int .i64 d.young.1, .slice wa1 d.young.2.length wc1, .int .i64 d.old.1, .slice wa2 d.old.2.length wc2, .int .i64 d.size, .int .i64 d.mark, .slice fa d.frags.length fc, .slice ra d.roots.length rc, .slice ha d.handles.length hc] 28) = W at *
  have X0 := Lib.hid T.1
  have XB := Lib.hid T.2.2
  clear T
  refine (greatDump_any d _ W (HD.out.below XB.out)).mono ?_
  rintro e w2 ⟨⟨b, rfl, hb⟩, hb2⟩
  have HSM := Lib.hid hb
  have Y0 := Lib.hid ((hb2.block w.heap.size (lt_of_block X0.out)).trans X0.out)
  have YB := Lib.hid (XB.out.trans (hb2.mono XB.out.size))
  clear hb hb2
  have c := fun i => cell_of Y0.out i
  cases b with
  | true =>
    clear c
    go_wp2_with fail
    refine (awake_any w2).mono ?_
    rintro e wz ⟨rfl, hb⟩
    have EBZ := Lib.hid (YB.out.trans (hb.mono YB.out.size))
    clear hb
    go_wp2_with fail
    go_ret
    exact ⟨rfl, EBZ.out⟩
  | false =>
    have HS0 := Lib.hid (HSM.out rfl)
    by_cases ho : d.old.2 = []
    case neg =>
      have q : (0 : Int) < ((d.old.2).length : Int) := by have := List.length_pos_iff.2 ho; omega
      have q' : 0 < (d.old.2).length := List.length_pos_iff.2 ho
      go_wp2_with fail
      refine (awake_any w2).mono ?_
      rintro e wz ⟨rfl, hb⟩
      have EBZ := Lib.hid (YB.out.trans (hb.mono YB.out.size))
      clear hb
      go_wp2_with fail
      go_ret
      exact ⟨rfl, EBZ.out⟩
    have qho : ¬ (0 : Int) < ((d.old.2).length : Int) := by rw [ho]; decide
    have rho : ¬ 0 < (d.old.2).length := by rw [ho]; decide
    have HEho := Lib.hid ho
    clear ho
    by_cases hf : d.frags = []
    case neg =>
      have q : (0 : Int) < ((d.frags).length : Int) := by have := List.length_pos_iff.2 hf; omega
      have q' : 0 < (d.frags).length := List.length_pos_iff.2 hf
      go_wp2_with fail
      refine (awake_any w2).mono ?_
      rintro e wz ⟨rfl, hb⟩
      have EBZ := Lib.hid (YB.out.trans (hb.mono YB.out.size))
      clear hb
      go_wp2_with fail
      go_ret
      exact ⟨rfl, EBZ.out⟩
    have qhf : ¬ (0 : Int) < ((d.frags).length : Int) := by rw [hf]; decide
    have rhf : ¬ 0 < (d.frags).length := by rw [hf]; decide
    have HEhf := Lib.hid hf
    clear hf
    by_cases hh : d.handles = []
    case neg =>
      have q : (0 : Int) < ((d.handles).length : Int) := by have := List.length_pos_iff.2 hh; omega
      have q' : 0 < (d.handles).length := List.length_pos_iff.2 hh
      go_wp2_with fail
      refine (awake_any w2).mono ?_
      rintro e wz ⟨rfl, hb⟩
      have EBZ := Lib.hid (YB.out.trans (hb.mono YB.out.size))
      clear hb
      go_wp2_with fail
      go_ret
      exact ⟨rfl, EBZ.out⟩
    have qhh : ¬ (0 : Int) < ((d.handles).length : Int) := by rw [hh]; decide
    have rhh : ¬ 0 < (d.handles).length := by rw [hh]; decide
    have HEhh := Lib.hid hh
    clear hh
    go_wp2_with fail
    clear c
    refine (why_any d [] _ _ w2 (HD.out.below YB.out) (SlAt.nil _) HS0.out.ok).mono ?_
    rintro e w3 ⟨rfl, hb⟩
    have Z0 := Lib.hid ((hb.block w.heap.size (lt_of_block Y0.out)).trans Y0.out)
    have ZB := Lib.hid (YB.out.trans (hb.mono YB.out.size))
    clear hb
    obtain ⟨t, ht⟩ : ∃ t, whyT d [] = t := ⟨_, rfl⟩
    have HT := Lib.hid ht
    rw [ht]
    clear ht
    have c := fun i => cell_of Z0.out i
    by_cases hw : t = ⟨#[]⟩
    case neg =>
      have hs := str_ne hw
      go_wp2_with fail
      refine (awake_any w3).mono ?_
      rintro e wz ⟨rfl, hb⟩
      have EBZ := Lib.hid (ZB.out.trans (hb.mono ZB.out.size))
      clear hb
      go_wp2_with fail
      go_ret
      exact ⟨rfl, EBZ.out⟩
    have HW := Lib.hid (show WhyP d [] by rw [← whyT_empty, HT.out, hw])
    subst hw
    by_cases hlo : 0 ≤ d.young.1
    case neg =>
      have q : d.young.1 < 0 := by omega
      go_wp2_with fail
      refine (awake_any w3).mono ?_
      rintro e wz ⟨rfl, hb⟩
      have EBZ := Lib.hid (ZB.out.trans (hb.mono ZB.out.size))
      clear hb
      go_wp2_with fail
      go_ret
      exact ⟨rfl, EBZ.out⟩
    have q1 : ¬ d.young.1 < 0 := by omega
    by_cases hhi : d.young.1 ≤ 1099511627776
    case neg =>
      have q : 1099511627776 < d.young.1 := by omega
      go_wp2_with fail
      refine (awake_any w3).mono ?_
      rintro e wz ⟨rfl, hb⟩
      have EBZ := Lib.hid (ZB.out.trans (hb.mono ZB.out.size))
      clear hb
      go_wp2_with fail
      go_ret
      exact ⟨rfl, EBZ.out⟩
    have q2 : ¬ 1099511627776 < d.young.1 := by omega
    have HLO := Lib.hid hlo
    have HHI := Lib.hid hhi
    go_upto_region 3 with fail
    clear c q1 q2 hlo hhi qho qhf qhh rho rhf rhh
    obtain ⟨bn, hbn⟩ : ∃ m : Nat, lowP by_ 1000 = (m : Int) := ⟨(lowP by_ 1000).toNat, by have := lowP_le by_ (n := 1000) (by omega); omega⟩
    have HBN := Lib.hid (show bn ≤ 1000 by have := lowP_le by_ (n := 1000) (by omega); omega)
    have HLOW := Lib.hid (fun (V : World) => low_any by_ 1000 HBY.out (by omega) V)
    rw [hbn] at HLOW
    clear hbn
    go_wp2_with fail
    refine (HLOW.out w3).mono ?_
    rintro e w3' ⟨rfl, hww⟩
    obtain rfl : w3 = w3' := hww.symm
    have c := fun i => cell_of Z0.out i
    go_wp2_with fail
    clear c
    refine (copy_one d _ w3 (HD.out.below ZB.out) HEho.out HEhf.out HEhh.out (by have := HS0.out.young; omega) (by have := HS0.out.roots; omega)).mono ?_
    rintro e w4 ⟨ya, yc, oa, oc, rr, rrc, ea, ec, rfl, hoc, hec, hb⟩
    have HOC := Lib.hid hoc
    have HEC := Lib.hid hec
    have U0 := Lib.hid ((hb.block w.heap.size (lt_of_block Z0.out)).trans Z0.out)
    have UB := Lib.hid (ZB.out.trans (hb.mono ZB.out.size))
    clear hb hoc hec
    go_upto_region 5 with fail
    have T := one_at w4 (.cells #[.int .i64 d.young.1, .slice ya d.young.2.length yc, .int .i64 d.old.1, .slice oa 0 oc, .int .i64 d.size, .int .i64 d.mark, .slice none 0 0, .slice rr d.roots.length rrc, .slice ea 0 ec] 28)
    generalize w4.alloc (.cells #[.int .i64 d.young.1, .slice ya d.young.2.length yc, .int .i64 d.old.1, .slice oa 0 oc, .int .i64 d.size, .int .i64 d.mark, .slice none 0 0, .slice rr d.roots.length rrc, .slice ea 0 ec] 28) = V at *
    have E0 := Lib.hid T.1
    have VX := Lib.hid ((T.2.2.block _ (lt_of_block U0.out)).trans U0.out)
    have VB := Lib.hid (UB.out.trans (T.2.2.mono UB.out.size))
    clear T
    have x0 := cell_of VX.out 0
    have e0 := cell_of E0.out 0
    have e1 := cell_of E0.out 1
    have e7 := cell_of E0.out 7
    have f0 := free_of E0.out 0
    have f1 := free_of E0.out 1
    have f7 := free_of E0.out 7
    simp at x0 e0 e1 e7 f0 f1 f7
    have p5 : IntKind.i64.wrap (d.young.1 + (bn : Int)) = d.young.1 + (bn : Int) := IntWalk.i64_in _ (by have := HLO.out; have := HHI.out; have := HBN.out; omega)
    go_upto_region 7 with fail
    have NE := Lib.hid (show w.heap.size ≠ w4.heap.size from Nat.ne_of_lt (lt_of_block U0.out))
    have E1 := Lib.hid (show (((V.setCell ⟨w4.heap.size, 0, none⟩ (.int .i64 (d.young.1 + (bn : Int)))).setCell ⟨w4.heap.size, 1, none⟩ (.slice none 0 0)).setCell ⟨w4.heap.size, 7, none⟩ (.slice none 0 0)).heap[w4.heap.size]? = some (.cells #[.int .i64 (d.young.1 + (bn : Int)), .slice none 0 0, .int .i64 d.old.1, .slice oa 0 oc, .int .i64 d.size, .int .i64 d.mark, .slice none 0 0, .slice none 0 0, .slice ea 0 ec] 28 (0, 0)) from set_of (set_of (set_of E0.out 0 _) 1 _) 7 _)
    have EX := Lib.hid (show (((V.setCell ⟨w4.heap.size, 0, none⟩ (.int .i64 (d.young.1 + (bn : Int)))).setCell ⟨w4.heap.size, 1, none⟩ (.slice none 0 0)).setCell ⟨w4.heap.size, 7, none⟩ (.slice none 0 0)).heap[w.heap.size]? = some (.cells #[.int .i64 d.young.1, .slice wa1 d.young.2.length wc1, .int .i64 d.old.1, .slice wa2 d.old.2.length wc2, .int .i64 d.size, .int .i64 d.mark, .slice fa d.frags.length fc, .slice ra d.roots.length rc, .slice ha d.handles.length hc] 28 (0, 0)) by rw [Below.heap_setCell _ _ _ _ NE.out, Below.heap_setCell _ _ _ _ NE.out, Below.heap_setCell _ _ _ _ NE.out]; exact VX.out)
    have EBB := Lib.hid (((VB.out.setCell (p := ⟨w4.heap.size, 0, none⟩) UB.out.size (.int .i64 (d.young.1 + (bn : Int)))).setCell (p := ⟨w4.heap.size, 1, none⟩) UB.out.size (.slice none 0 0)).setCell (p := ⟨w4.heap.size, 7, none⟩) UB.out.size (.slice none 0 0))
    have ELT := Lib.hid (lt_of_block E1.out)
    clear x0 e0 e1 e7 f0 f1 f7 p5 E0 VX VB
    generalize ((V.setCell ⟨w4.heap.size, 0, none⟩ (.int .i64 (d.young.1 + (bn : Int)))).setCell ⟨w4.heap.size, 1, none⟩ (.slice none 0 0)).setCell ⟨w4.heap.size, 7, none⟩ (.slice none 0 0) = V1 at *
    go_upto_region 8 with fail
    go_loopw [6] (fun i wr => ∃ (j : Nat), j ≤ d.young.2.length ∧ i = .int .i64 j ∧ Hid (wr.heap[w.heap.size]? = some (.cells #[.int .i64 d.young.1, .slice wa1 d.young.2.length wc1, .int .i64 d.old.1, .slice wa2 d.old.2.length wc2, .int .i64 d.size, .int .i64 d.mark, .slice fa d.frags.length fc, .slice ra d.roots.length rc, .slice ha d.handles.length hc] 28 (0, 0))) ∧ Hid (∃ ua uc, wr.heap[w4.heap.size]? = some (.cells #[.int .i64 (d.young.1 + (bn : Int)), .slice ua j uc, .int .i64 d.old.1, .slice oa 0 oc, .int .i64 d.size, .int .i64 d.mark, .slice none 0 0, .slice none 0 0, .slice ea 0 ec] 28 (0, 0)) ∧ wr.ownsRow V1.heap.size 37 1 (.slice ua j uc) j (csW ((d.young.2.take j).map (mvW bn)))) ∧ Hid (tupH (d.young.2.take j)) ∧ Hid (Below w.heap.size w wr) ∧ Hid (V1.heap.size ≤ wr.heap.size)) (fun i _ => d.young.2.length - (intOf i).toNat)
    case atStart => exact ⟨0, by omega, rfl, EX, Lib.hid ⟨none, 0, E1.out, World.ownsRow_nil _ _ _ _⟩, Lib.hid (fun x hx => by simp at hx), EBB, Lib.hid (Nat.le_refl _)⟩
    case round =>
      obtain ⟨j, hj, rfl, HX, HEB, HTU, HB, HSZ⟩ := hrel
      obtain ⟨ua, uc, hE, hown⟩ := HEB.out
      have HE := Lib.hid hE
      have HOW := Lib.hid hown
      clear HEB hE hown
      have x1 := cell_of HX.out 1
      simp at x1
      by_cases hlt : j < d.young.2.length
      · have q1 : (j : Int) < (d.young.2.length : Int) := by omega
        have q0 : (0 : Int) ≤ (j : Int) := by omega
        have HJ := Lib.hid (show j < 60 by have := HS0.out.young; omega)
        obtain ⟨-, hu, a', c', he, -, -, hx⟩ := (HD.out.below HB.out).wy
        simp only [Value.slice.injEq, true_and] at he
        obtain ⟨rfl, rfl⟩ := he
        obtain ⟨g, o, rfl, k0⟩ := hx j hlt
        have HXB := Lib.hid (hu _ (List.getElem_mem hlt))
        have HTS := Lib.hid (fun h => tupH_snoc hlt HTU.out h)
        have HTM := Lib.hid (take_mv (b := bn) hlt)
        have QK := Lib.hid (show j + 1 ≤ d.young.2.length ∧ d.young.2.length - (j + 1) < d.young.2.length - j by omega)
        obtain ⟨x, hxx⟩ : ∃ x, d.young.2[j]'hlt = x := ⟨_, rfl⟩
        rw [hxx] at k0 HXB HTS HTM
        clear hx hu hxx
        go_wp2_with fail
        refine (parts8_any x HXB.out wr).mono ?_
        rintro e wy ⟨he, hww⟩
        obtain rfl : wr = wy := hww
        unfold HeadEnd at he
        cases hhp : headP x with
        | none =>
          rw [hhp] at he
          subst he
          have HT1 := Lib.hid (HTS.out (fun k hk => by rw [hhp] at hk; cases hk))
          clear hhp
          go_upto_region 13 with fail
          have y1 := cell_of HE.out 1
          simp at y1
          have HMV := Lib.hid (fun (V : World) => (moved_any x bn HXB.out HBN.out V).mono (R' := fun e w' => e = .returned (.int .u64 ((mvW bn x : Nat) : Int)) ∧ w' = V) fun e w' h => ⟨h.1, h.2.symm⟩)
          obtain ⟨mx, hmx⟩ : ∃ m, mvW bn x = m := ⟨_, rfl⟩
          have HMX := Lib.hid hmx
          rw [hmx] at HMV
          clear hmx
          have hds := HSZ.out
          have hj6 := HJ.out
          have ye := y1
          have xe := x1
          have ke := k0
          have A := fun o => (Below.refl wr.heap.size wr).alloc (Nat.le_refl _) o
          have xa := fun o => ((A o).cell (World.block_lt_of_cell? wr _ x1)).trans x1
          have ya := fun o => ((A o).cell (World.block_lt_of_cell? wr _ y1)).trans y1
          clear A ye xe ke
          go_region_law (first
            | (go_simp
               go_at_call 16
               refine (HMV.out _).mono ?_
               rintro e wv ⟨rfl, rfl⟩
               dsimp only)
            | (refine step_append_any _ (by rfl) (.tmp 96) (.tmp 105) 22 (by rfl) V1.heap.size 37 i0 _ 1 8 Try.underlying22 hi hz0 hz1 hz2 rfl (by omega) _ j (csW ((d.young.2.take j).map (mvW bn))) (by rfl) ((World.ownsRow.alloc HOW.out _).drew) (wr.heap.size + 1) (some ⟨wr.heap.size, 0, none⟩) 1 1 [.int .u64 (mx : Int)] (by rfl) (reads_one wr _ _) (one_u64 _) (by unfold maxLen; omega) (by omega) (size_push HSZ.out _) ?_
               intro v9 w9 hown9 hgrow9 _
               have PB := Lib.hid (push_drew HOW.out HSZ.out hgrow9)
               have O9 := Lib.hid hown9
               have E9 := Lib.hid ((PB.out.block w4.heap.size ELT.out).trans HE.out)
               obtain ⟨b9, c9, rfl⟩ := own_slice hown9
               have y := cell_of E9.out 1
               have yf := free_of E9.out 1
               simp at y yf
               clear hown9 hgrow9))
          all_goals
            have N0 := Lib.hid (show (w9.setCell ⟨w4.heap.size, 1, none⟩ (.slice b9 (j + 1) c9)).heap[w4.heap.size]? = some (.cells #[.int .i64 (d.young.1 + (bn : Int)), .slice b9 (j + 1) c9, .int .i64 d.old.1, .slice oa 0 oc, .int .i64 d.size, .int .i64 d.mark, .slice none 0 0, .slice none 0 0, .slice ea 0 ec] 28 (0, 0)) from set_of E9.out 1 _)
            have NX := Lib.hid ((Below.heap_setCell w9 ⟨w4.heap.size, 1, none⟩ (.slice b9 (j + 1) c9) w.heap.size NE.out).trans ((PB.out.block w.heap.size (Nat.lt_trans (lt_of_block U0.out) ELT.out)).trans HX.out))
            have NO := Lib.hid (show (w9.setCell ⟨w4.heap.size, 1, none⟩ (.slice b9 (j + 1) c9)).ownsRow V1.heap.size 37 1 (.slice b9 (j + 1) c9) (j + 1) (csW ((d.young.2.take (j + 1)).map (mvW bn))) by rw [HTM.out, HMX.out, csW_snoc]; exact own_set O9.out ELT.out _)
            have NB := Lib.hid ((HB.out.trans (PB.out.mono (Nat.le_trans UB.out.size (Nat.le_of_lt ELT.out)))).setCell (p := ⟨w4.heap.size, 1, none⟩) UB.out.size (.slice b9 (j + 1) c9))
            have NS := Lib.hid (show V1.heap.size ≤ (w9.setCell ⟨w4.heap.size, 1, none⟩ (.slice b9 (j + 1) c9)).heap.size by have := PB.out.size; have := HSZ.out; simp [World.setCell]; omega)
            clear y yf x1 y1 k0 xa ya
            generalize w9.setCell ⟨w4.heap.size, 1, none⟩ (.slice b9 (j + 1) c9) = wq at *
            have p5 : IntKind.i64.wrap ((j : Int) + 1) = (j : Int) + 1 := IntWalk.i64_in _ (by omega)
            go_wp2_with fail
            go_roundw
            case rel => exact ⟨j + 1, QK.out.1, by go_num, NX, Lib.hid ⟨_, _, N0.out, NO.out⟩, HT1, NB, NS⟩
            case measure => clear p5; have := QK.out.2; simp [intOf]; omega
        | some k =>
          rw [hhp] at he
          subst he
          obtain ⟨kk, ks⟩ := k
          by_cases hk0 : kk = 0
          · have HT1 := Lib.hid (HTS.out (fun k hk => by rw [hhp] at hk; cases hk; exact hk0))
            have q7 : (kk != 0) = false := by simp [hk0]
            clear hhp hk0
            simp only [Option.getD_some, Option.isSome_some]
            go_upto_region 13 with fail
            clear q7
            have y1 := cell_of HE.out 1
            simp at y1
            have HMV := Lib.hid (fun (V : World) => (moved_any x bn HXB.out HBN.out V).mono (R' := fun e w' => e = .returned (.int .u64 ((mvW bn x : Nat) : Int)) ∧ w' = V) fun e w' h => ⟨h.1, h.2.symm⟩)
            obtain ⟨mx, hmx⟩ : ∃ m, mvW bn x = m := ⟨_, rfl⟩
            have HMX := Lib.hid hmx
            rw [hmx] at HMV
            clear hmx
            have hds := HSZ.out
            have hj6 := HJ.out
            have ye := y1
            have xe := x1
            have ke := k0
            have A := fun o => (Below.refl wr.heap.size wr).alloc (Nat.le_refl _) o
            have xa := fun o => ((A o).cell (World.block_lt_of_cell? wr _ x1)).trans x1
            have ya := fun o => ((A o).cell (World.block_lt_of_cell? wr _ y1)).trans y1
            clear A ye xe ke
            go_region_law (first
              | (go_simp
                 go_at_call 16
                 refine (HMV.out _).mono ?_
                 rintro e wv ⟨rfl, rfl⟩
                 dsimp only)
              | (refine step_append_any _ (by rfl) (.tmp 96) (.tmp 105) 22 (by rfl) V1.heap.size 37 i0 _ 1 8 Try.underlying22 hi hz0 hz1 hz2 rfl (by omega) _ j (csW ((d.young.2.take j).map (mvW bn))) (by rfl) ((World.ownsRow.alloc HOW.out _).drew) (wr.heap.size + 1) (some ⟨wr.heap.size, 0, none⟩) 1 1 [.int .u64 (mx : Int)] (by rfl) (reads_one wr _ _) (one_u64 _) (by unfold maxLen; omega) (by omega) (size_push HSZ.out _) ?_
                 intro v9 w9 hown9 hgrow9 _
                 have PB := Lib.hid (push_drew HOW.out HSZ.out hgrow9)
                 have O9 := Lib.hid hown9
                 have E9 := Lib.hid ((PB.out.block w4.heap.size ELT.out).trans HE.out)
                 obtain ⟨b9, c9, rfl⟩ := own_slice hown9
                 have y := cell_of E9.out 1
                 have yf := free_of E9.out 1
                 simp at y yf
                 clear hown9 hgrow9))
            all_goals
              have N0 := Lib.hid (show (w9.setCell ⟨w4.heap.size, 1, none⟩ (.slice b9 (j + 1) c9)).heap[w4.heap.size]? = some (.cells #[.int .i64 (d.young.1 + (bn : Int)), .slice b9 (j + 1) c9, .int .i64 d.old.1, .slice oa 0 oc, .int .i64 d.size, .int .i64 d.mark, .slice none 0 0, .slice none 0 0, .slice ea 0 ec] 28 (0, 0)) from set_of E9.out 1 _)
              have NX := Lib.hid ((Below.heap_setCell w9 ⟨w4.heap.size, 1, none⟩ (.slice b9 (j + 1) c9) w.heap.size NE.out).trans ((PB.out.block w.heap.size (Nat.lt_trans (lt_of_block U0.out) ELT.out)).trans HX.out))
              have NO := Lib.hid (show (w9.setCell ⟨w4.heap.size, 1, none⟩ (.slice b9 (j + 1) c9)).ownsRow V1.heap.size 37 1 (.slice b9 (j + 1) c9) (j + 1) (csW ((d.young.2.take (j + 1)).map (mvW bn))) by rw [HTM.out, HMX.out, csW_snoc]; exact own_set O9.out ELT.out _)
              have NB := Lib.hid ((HB.out.trans (PB.out.mono (Nat.le_trans UB.out.size (Nat.le_of_lt ELT.out)))).setCell (p := ⟨w4.heap.size, 1, none⟩) UB.out.size (.slice b9 (j + 1) c9))
              have NS := Lib.hid (show V1.heap.size ≤ (w9.setCell ⟨w4.heap.size, 1, none⟩ (.slice b9 (j + 1) c9)).heap.size by have := PB.out.size; have := HSZ.out; simp [World.setCell]; omega)
              clear y yf x1 y1 k0 xa ya
              generalize w9.setCell ⟨w4.heap.size, 1, none⟩ (.slice b9 (j + 1) c9) = wq at *
              have p5 : IntKind.i64.wrap ((j : Int) + 1) = (j : Int) + 1 := IntWalk.i64_in _ (by omega)
              go_wp2_with fail
              go_roundw
              case rel => exact ⟨j + 1, QK.out.1, by go_num, NX, Lib.hid ⟨_, _, N0.out, NO.out⟩, HT1, NB, NS⟩
              case measure => clear p5; have := QK.out.2; simp [intOf]; omega
          · have q7 : (kk != 0) = true := by simp [hk0]
            clear hhp hk0
            simp only [Option.getD_some, Option.isSome_some]
            go_wp2_with fail
            refine (awake_any wr).mono ?_
            rintro e wz ⟨rfl, hb⟩
            have EBZ := Lib.hid (HB.out.trans (hb.mono HB.out.size))
            clear hb
            go_wp2_with fail
            go_ret
            exact ⟨rfl, EBZ.out⟩
      · obtain rfl : j = d.young.2.length := by omega
        have q1 : ¬ (d.young.2.length : Int) < (d.young.2.length : Int) := by omega
        rw [List.take_length] at HTU HOW
        go_upto_region 15 with fail
        obtain ⟨Wa, hWa⟩ : ∃ V, V = wr := ⟨wr, rfl⟩
        subst hWa
        clear x1 q1 hj
        have HYLT := Lib.hid (fun k hk => (HOW.out.lt k hk).2)
        have ELTA := Lib.hid (Nat.lt_of_lt_of_le ELT.out HSZ.out)
        go_loopw [10] (fun i wr => ∃ (j : Nat), j ≤ d.roots.length ∧ i = .int .i64 j ∧ Hid (wr.heap[w.heap.size]? = some (.cells #[.int .i64 d.young.1, .slice wa1 d.young.2.length wc1, .int .i64 d.old.1, .slice wa2 d.old.2.length wc2, .int .i64 d.size, .int .i64 d.mark, .slice fa d.frags.length fc, .slice ra d.roots.length rc, .slice ha d.handles.length hc] 28 (0, 0))) ∧ Hid (∃ va vc, wr.heap[w4.heap.size]? = some (.cells #[.int .i64 (d.young.1 + (bn : Int)), .slice ua d.young.2.length uc, .int .i64 d.old.1, .slice oa 0 oc, .int .i64 d.size, .int .i64 d.mark, .slice none 0 0, .slice va j vc, .slice ea 0 ec] 28 (0, 0)) ∧ wr.ownsRow Wa.heap.size 37 1 (.slice va j vc) j (csW ((d.roots.take j).map (mvW bn)))) ∧ Hid (wr.ownsRow V1.heap.size 37 1 (.slice ua d.young.2.length uc) d.young.2.length (csW (d.young.2.map (mvW bn)))) ∧ Hid (Below w.heap.size w wr) ∧ Hid (Wa.heap.size ≤ wr.heap.size)) (fun i _ => d.roots.length - (intOf i).toNat)
        case atStart => exact ⟨0, by omega, rfl, HX, Lib.hid ⟨none, 0, HE.out, World.ownsRow_nil _ _ _ _⟩, HOW, HB, Lib.hid (Nat.le_refl _)⟩
        case round =>
          clear HX HE HOW HB HSZ
          obtain ⟨j, hj, rfl, HX, HEB, HYO, HB, HSZ⟩ := hrel
          obtain ⟨va, vc, hE, hown⟩ := HEB.out
          have HE := Lib.hid hE
          have HOW := Lib.hid hown
          clear HEB hE hown
          have x1 := cell_of HX.out 7
          simp at x1
          by_cases hlt : j < d.roots.length
          · have q1 : (j : Int) < (d.roots.length : Int) := by omega
            have q0 : (0 : Int) ≤ (j : Int) := by omega
            have HJ := Lib.hid (show j < 100 by have := HS0.out.roots; omega)
            obtain ⟨-, hu, a', c', he, -, -, hx⟩ := (HD.out.below HB.out).ws
            simp only [Value.slice.injEq, true_and] at he
            obtain ⟨rfl, rfl⟩ := he
            obtain ⟨g, o, rfl, k0⟩ := hx j hlt
            have HXB := Lib.hid (hu _ (List.getElem_mem hlt))
            have HTM := Lib.hid (take_mv (b := bn) hlt)
            have QK := Lib.hid (show j + 1 ≤ d.roots.length ∧ d.roots.length - (j + 1) < d.roots.length - j by omega)
            obtain ⟨x, hxx⟩ : ∃ x, d.roots[j]'hlt = x := ⟨_, rfl⟩
            rw [hxx] at k0 HXB HTM
            clear hx hu hxx
            go_upto_region 17 with fail
            have y1 := cell_of HE.out 7
            simp at y1
            have HMV := Lib.hid (fun (V : World) => (moved_any x bn HXB.out HBN.out V).mono (R' := fun e w' => e = .returned (.int .u64 ((mvW bn x : Nat) : Int)) ∧ w' = V) fun e w' h => ⟨h.1, h.2.symm⟩)
            obtain ⟨mx, hmx⟩ : ∃ m, mvW bn x = m := ⟨_, rfl⟩
            have HMX := Lib.hid hmx
            rw [hmx] at HMV
            clear hmx
            have hds := HSZ.out
            have hj6 := HJ.out
            have ye := y1
            have xe := x1
            have ke := k0
            have A := fun o => (Below.refl wr.heap.size wr).alloc (Nat.le_refl _) o
            have xa := fun o => ((A o).cell (World.block_lt_of_cell? wr _ x1)).trans x1
            have ya := fun o => ((A o).cell (World.block_lt_of_cell? wr _ y1)).trans y1
            clear A ye xe ke
            go_region_law (first
              | (go_simp
                 go_at_call 16
                 refine (HMV.out _).mono ?_
                 rintro e wv ⟨rfl, rfl⟩
                 dsimp only)
              | (refine step_append_any _ (by rfl) (.tmp 117) (.tmp 125) 22 (by rfl) Wa.heap.size 37 i0 _ 1 8 Try.underlying22 hi hz0 hz1 hz2 rfl (by omega) _ j (csW ((d.roots.take j).map (mvW bn))) (by rfl) ((World.ownsRow.alloc HOW.out _).drew) (wr.heap.size + 1) (some ⟨wr.heap.size, 0, none⟩) 1 1 [.int .u64 (mx : Int)] (by rfl) (reads_one wr _ _) (one_u64 _) (by unfold maxLen; omega) (by omega) (size_push HSZ.out _) ?_
                 intro v9 w9 hown9 hgrow9 _
                 have PB := Lib.hid (push_drew HOW.out HSZ.out hgrow9)
                 have O9 := Lib.hid hown9
                 have E9 := Lib.hid ((PB.out.block w4.heap.size ELTA.out).trans HE.out)
                 obtain ⟨b9, c9, rfl⟩ := own_slice hown9
                 have y := cell_of E9.out 7
                 have yf := free_of E9.out 7
                 simp at y yf
                 clear hown9 hgrow9))
            all_goals
              have N0 := Lib.hid (show (w9.setCell ⟨w4.heap.size, 7, none⟩ (.slice b9 (j + 1) c9)).heap[w4.heap.size]? = some (.cells #[.int .i64 (d.young.1 + (bn : Int)), .slice ua d.young.2.length uc, .int .i64 d.old.1, .slice oa 0 oc, .int .i64 d.size, .int .i64 d.mark, .slice none 0 0, .slice b9 (j + 1) c9, .slice ea 0 ec] 28 (0, 0)) from set_of E9.out 7 _)
              have NX := Lib.hid ((Below.heap_setCell w9 ⟨w4.heap.size, 7, none⟩ (.slice b9 (j + 1) c9) w.heap.size NE.out).trans ((PB.out.block w.heap.size (Nat.lt_trans (lt_of_block U0.out) ELTA.out)).trans HX.out))
              have NO := Lib.hid (show (w9.setCell ⟨w4.heap.size, 7, none⟩ (.slice b9 (j + 1) c9)).ownsRow Wa.heap.size 37 1 (.slice b9 (j + 1) c9) (j + 1) (csW ((d.roots.take (j + 1)).map (mvW bn))) by rw [HTM.out, HMX.out, csW_snoc]; exact own_set O9.out ELTA.out _)
              have NY := Lib.hid (own_set (i := 7) (own_keep HYO.out HYLT.out PB.out) ELT.out (.slice b9 (j + 1) c9))
              have NB := Lib.hid ((HB.out.trans (PB.out.mono (Nat.le_trans UB.out.size (Nat.le_of_lt ELTA.out)))).setCell (p := ⟨w4.heap.size, 7, none⟩) UB.out.size (.slice b9 (j + 1) c9))
              have NS := Lib.hid (show Wa.heap.size ≤ (w9.setCell ⟨w4.heap.size, 7, none⟩ (.slice b9 (j + 1) c9)).heap.size by have := PB.out.size; have := HSZ.out; simp [World.setCell]; omega)
              clear y yf x1 y1 k0 xa ya
              generalize w9.setCell ⟨w4.heap.size, 7, none⟩ (.slice b9 (j + 1) c9) = wq at *
              have p5 : IntKind.i64.wrap ((j : Int) + 1) = (j : Int) + 1 := IntWalk.i64_in _ (by omega)
              go_wp2_with fail
              go_roundw
              case rel => exact ⟨j + 1, QK.out.1, by go_num, NX, Lib.hid ⟨_, _, N0.out, NO.out⟩, NY, NB, NS⟩
              case measure => clear p5; have := QK.out.2; simp [intOf]; omega
          · obtain rfl : j = d.roots.length := by omega
            have q1 : ¬ (d.roots.length : Int) < (d.roots.length : Int) := by omega
            rw [List.take_length] at HOW
            go_upto_region 18 with fail
            obtain ⟨Wb, hWb⟩ : ∃ V, V = wr := ⟨wr, rfl⟩
            subst hWb
            clear x1 q1 hj
            have HYW := Lib.hid (show Ws Wb (.slice ua d.young.2.length uc) (d.young.2.map (mvW bn)) from Ws.of_own (base := V1.heap.size) (by rw [List.length_map]; exact HYO.out) (by rw [List.length_map]; have := HS0.out.young; omega) (fun x hx => by obtain ⟨y, hy, rfl⟩ := List.mem_map.1 hx; exact mv_lt HBN.out (HD.out.wy.2.1 y hy)))
            have HRW := Lib.hid (show Ws Wb (.slice va d.roots.length vc) (d.roots.map (mvW bn)) from Ws.of_own (base := Wa.heap.size) (by rw [List.length_map]; exact HOW.out) (by rw [List.length_map]; have := HS0.out.roots; omega) (fun x hx => by obtain ⟨y, hy, rfl⟩ := List.mem_map.1 hx; exact mv_lt HBN.out (HD.out.ws.2.1 y hy)))
            have ONE := Lib.hid (show OneD d from ⟨HEho.out, HEhf.out, HEhh.out, HLO.out, HHI.out, HS0.out.young, HTU.out⟩)
            have HDE := Lib.hid (movD_at (oa := oa) (ha := ea) HEho.out HEhf.out HEhh.out HLO.out HHI.out HBN.out HDB.out.1 HDB.out.2.1 HDB.out.2.2 HOC.out HEC.out HYW.out HRW.out)
            have HDB2 := Lib.hid (HD.out.below HB.out)
            have HWE := Lib.hid (why_mv ONE.out HBN.out HW.out)
            have HSE := Lib.hid (movD_small (b := bn) HS0.out)
            have C3 := Lib.hid (fun (V : World) (hb : Below Wb.heap.size Wb V) => (why_any (movD bn d) [] _ _ V (HDE.out.below hb) (SlAt.nil V) HSE.out.ok).mono (R' := fun e w' => e = .returned (.string ⟨#[]⟩) ∧ Below Wb.heap.size Wb w') fun e w' h => ⟨by rw [h.1, (whyT_empty _ _).2 HWE.out], hb.trans (h.2.mono hb.size)⟩)
            have C1 := Lib.hid (fun (V : World) (hb : Below Wb.heap.size Wb V) => (live_fn (movD bn d) _ V (HDE.out.below hb) HSE.out.ok).mono (R' := fun e w' => e = .returned (.int .i64 ((liveP d.mem d.roots : Nat) : Int)) ∧ Below Wb.heap.size Wb w') fun e w' h => ⟨by rw [h.1, live_mv ONE.out HBN.out], hb.trans (h.2.mono hb.size)⟩)
            have C0 := Lib.hid (fun (V : World) (hb : Below Wb.heap.size Wb V) => (live_fn d _ V (HDB2.out.below hb) HS0.out.ok).mono (R' := fun e w' => e = .returned (.int .i64 ((liveP d.mem d.roots : Nat) : Int)) ∧ Below Wb.heap.size Wb w') fun e w' h => ⟨h.1, hb.trans (h.2.mono hb.size)⟩)
            obtain ⟨n1, hn1⟩ : ∃ n, liveP d.mem d.roots = n := ⟨_, rfl⟩
            rw [hn1] at C0 C1
            clear hn1
            have q1 : ((n1 : Int) != (n1 : Int)) = false := by simp
            have K := Lib.hid (fun (V : World) (hb : Below Wb.heap.size Wb V) => keep18 HX.out HE.out hb)
            obtain ⟨g0, g1, g2, g3, g4, g5, g6, g7, g8, g9, g10, g11, g12, g13, g14, g15, g16, g17, -⟩ := K.out Wb (Below.refl _ _)
            go_region_held3 (fun w' => w'.cell? ⟨w.heap.size, 0, none⟩ = some (.int .i64 d.young.1) ∧ w'.cell? ⟨w.heap.size, 1, none⟩ = some (.slice wa1 d.young.2.length wc1) ∧ w'.cell? ⟨w.heap.size, 2, none⟩ = some (.int .i64 d.old.1) ∧ w'.cell? ⟨w.heap.size, 3, none⟩ = some (.slice wa2 d.old.2.length wc2) ∧ w'.cell? ⟨w.heap.size, 4, none⟩ = some (.int .i64 d.size) ∧ w'.cell? ⟨w.heap.size, 5, none⟩ = some (.int .i64 d.mark) ∧ w'.cell? ⟨w.heap.size, 6, none⟩ = some (.slice fa d.frags.length fc) ∧ w'.cell? ⟨w.heap.size, 7, none⟩ = some (.slice ra d.roots.length rc) ∧ w'.cell? ⟨w.heap.size, 8, none⟩ = some (.slice ha d.handles.length hc) ∧ w'.cell? ⟨w4.heap.size, 0, none⟩ = some (.int .i64 (d.young.1 + (bn : Int))) ∧ w'.cell? ⟨w4.heap.size, 1, none⟩ = some (.slice ua d.young.2.length uc) ∧ w'.cell? ⟨w4.heap.size, 2, none⟩ = some (.int .i64 d.old.1) ∧ w'.cell? ⟨w4.heap.size, 3, none⟩ = some (.slice oa 0 oc) ∧ w'.cell? ⟨w4.heap.size, 4, none⟩ = some (.int .i64 d.size) ∧ w'.cell? ⟨w4.heap.size, 5, none⟩ = some (.int .i64 d.mark) ∧ w'.cell? ⟨w4.heap.size, 6, none⟩ = some (.slice none 0 0) ∧ w'.cell? ⟨w4.heap.size, 7, none⟩ = some (.slice va d.roots.length vc) ∧ w'.cell? ⟨w4.heap.size, 8, none⟩ = some (.slice ea 0 ec) ∧ Below Wb.heap.size Wb w')
              (first | with_reducible exact K.out _ (Below.refl _ _).drew | with_reducible exact K.out _ (by assumption) | go_keep)
              (first
                | (go_at_call 12
                   go_split_ands
                   (first
                    | with_reducible refine (C1.out _ (by assumption)).mono ?_
                    | with_reducible refine (C0.out _ (by assumption)).mono ?_)
                   rintro e w7 ⟨rfl, hb7⟩)
                | (go_at_call 8
                   go_split_ands
                   with_reducible refine (C3.out _ (by assumption)).mono ?_
                   rintro e w7 ⟨rfl, hb7⟩))
            go_split_ands
            have HBL := Lib.hid ‹Below Wb.heap.size Wb _›
            clear g0 g1 g2 g3 g4 g5 g6 g7 g8 g9 g10 g11 g12 g13 g14 g15 g16 g17 q1
            go_upto_region 21 with fail
            go_loopw [11] (fun i wr => ∃ (j : Nat), j ≤ d.roots.length ∧ i = .int .i64 j ∧ Hid (Below Wb.heap.size Wb wr)) (fun i _ => d.roots.length - (intOf i).toNat)
            case atStart => exact ⟨0, by omega, rfl, HBL⟩
            case round =>
              clear HBL
              obtain ⟨j, hj, rfl, HBW⟩ := hrel
              have PX := Lib.hid ((HBW.out.block _ (lt_of_block HX.out)).trans HX.out)
              have PE := Lib.hid ((HBW.out.block _ (lt_of_block HE.out)).trans HE.out)
              have x7 := cell_of PX.out 7
              simp at x7
              by_cases hlt : j < d.roots.length
              · have q1 : (j : Int) < (d.roots.length : Int) := by omega
                have q0 : (0 : Int) ≤ (j : Int) := by omega
                go_upto_region 23 with fail
                clear x7
                obtain ⟨-, hu, a', c', he, -, -, hx⟩ := (HDB2.out.below HBW.out).ws
                simp only [Value.slice.injEq, true_and] at he
                obtain ⟨rfl, rfl⟩ := he
                obtain ⟨g, o, rfl, k0⟩ := hx j hlt
                obtain ⟨-, -, a', c', he, -, -, hx'⟩ := HRW.out.below HBW.out
                simp only [Value.slice.injEq, List.length_map, true_and] at he
                obtain ⟨rfl, rfl⟩ := he
                obtain ⟨g', o', rfl, k1⟩ := hx' j (by rw [List.length_map]; exact hlt)
                rw [List.getElem_map] at k1
                obtain ⟨t, htt, -⟩ := read_right HW.out (List.getElem_mem hlt)
                have HXB := Lib.hid (hu _ (List.getElem_mem hlt))
                obtain ⟨x, hxx⟩ : ∃ x, d.roots[j]'hlt = x := ⟨_, rfl⟩
                rw [hxx] at k0 k1 HXB htt
                have HTE := Lib.hid (show readP true [] (movD bn d).mem (mvW bn x) = some t by rw [read_mv ONE.out HBN.out]; exact htt)
                have HYB := Lib.hid (mv_lt HBN.out HXB.out)
                have HTT := Lib.hid htt
                obtain ⟨y, hy⟩ : ∃ y, mvW bn x = y := ⟨_, rfl⟩
                rw [hy] at k1 HTE HYB
                have HK0 := Lib.hid k0
                have HK1 := Lib.hid k1
                have QK := Lib.hid (show j + 1 ≤ d.roots.length ∧ d.roots.length - (j + 1) < d.roots.length - j by omega)
                clear hx hu hxx hx' htt hy k1
                have HCD := Lib.hid (fun (V : World) (hb : Below wr.heap.size wr V) => (read_any d _ _ [] x V (HDB2.out.below (HBW.out.trans (hb.mono HBW.out.size))) (SlAt.nil V) HS0.out.ok.frags HXB.out).mono fun e w' h => full_readEnd h HTT.out)
                have K3 := Lib.hid (fun (V : World) (hb : Below wr.heap.size wr V) => keep6 PX.out k0 hb)
                clear k0
                go_cut [12, 13] from 145 to 154 (fun p u wx => Hid (RdCut wr wx t p) ∧ u = .bool true)
                case first =>
                  obtain ⟨g0, g1, g2, g3, g4, g5, g6, g7, g8, g9, -⟩ := K3.out wr (Below.refl _ _)
                  go_region_held3 (fun w' => w'.cell? ⟨w.heap.size, 0, none⟩ = some (.int .i64 d.young.1) ∧ w'.cell? ⟨w.heap.size, 1, none⟩ = some (.slice wa1 d.young.2.length wc1) ∧ w'.cell? ⟨w.heap.size, 2, none⟩ = some (.int .i64 d.old.1) ∧ w'.cell? ⟨w.heap.size, 3, none⟩ = some (.slice wa2 d.old.2.length wc2) ∧ w'.cell? ⟨w.heap.size, 4, none⟩ = some (.int .i64 d.size) ∧ w'.cell? ⟨w.heap.size, 5, none⟩ = some (.int .i64 d.mark) ∧ w'.cell? ⟨w.heap.size, 6, none⟩ = some (.slice fa d.frags.length fc) ∧ w'.cell? ⟨w.heap.size, 7, none⟩ = some (.slice (some ⟨g, o, none⟩) d.roots.length rc) ∧ w'.cell? ⟨w.heap.size, 8, none⟩ = some (.slice ha d.handles.length hc) ∧ w'.cell? ⟨g, o + j, none⟩ = some (.int .u64 x) ∧ Below wr.heap.size wr w')
                    (first | with_reducible exact K3.out _ (set7_below HB7.out (Nat.le_refl _) _ _ _ _ _ _ _) | with_reducible exact K3.out _ (Below.refl _ _).drew | with_reducible exact K3.out _ (by assumption) | with_reducible exact K3.out _ ((Below.refl wr.heap.size wr).alloc (Nat.le_refl _) _).drew | with_reducible exact K3.out _ (HB6.out.alloc HB6.out.size _) | go_keep)
                    (first
                      | (go_at_call 10
                         first
                           | ((with_reducible refine (HCD.out _ (Below.refl _ _).drew).mono ?_)
                              rintro e w6 ⟨kk, kn, kneg, kma, kml, kmc, kbits, kbytes, ka, klen, kcap, rfl, htm, hb6⟩
                              have HT6 := Lib.hid htm
                              have HR6 := Lib.hid hb6
                              have HB6 := Lib.hid (show Below wr.heap.size wr w6 from (Below.refl wr.heap.size wr).drew.trans hb6)
                              have hb7 := HB6.out
                              clear htm hb6)
                           | ((with_reducible refine (HCD.out _ ((Below.refl wr.heap.size wr).alloc (Nat.le_refl _) _).drew).mono ?_)
                              rintro e w6 ⟨kk, kn, kneg, kma, kml, kmc, kbits, kbytes, ka, klen, kcap, rfl, htm, hb6⟩
                              have HT6 := Lib.hid htm
                              have HO6 := Lib.hid hb6
                              have HB7 := Lib.hid (show Below wr.heap.size wr w6 from ((Below.refl wr.heap.size wr).alloc (Nat.le_refl _) _).drew.trans (hb6.mono (by simp)))
                              have hb7 := HB7.out
                              have f := held_new hb6
                              have f0 := free_of f 0
                              have f1 := free_of f 1
                              have f2 := free_of f 2
                              have f3 := free_of f 3
                              have f4 := free_of f 4
                              have f5 := free_of f 5
                              have f6 := free_of f 6
                              have y0 := cell_of f 0
                              have y1 := cell_of f 1
                              have y2 := cell_of f 2
                              have y3 := cell_of f 3
                              have y4 := cell_of f 4
                              have y5 := cell_of f 5
                              have y6 := cell_of f 6
                              simp at y0 y1 y2 y3 y4 y5 y6
                              clear htm hb6 f)))
                  all_goals go_wp2_with fail
                  all_goals go_meet
                  all_goals
                    first
                      | (have hz := rd_behind HT6.out HR6.out
                         exact ⟨Lib.hid hz, rfl⟩)
                      | (have hz := rd_ahead rfl HT6.out HO6.out
                         exact ⟨Lib.hid hz, rfl⟩)
                case rest =>
                  obtain ⟨HP, rfl⟩ := hcut
                  obtain ⟨nb, k1, n1', neg1, ma1, ml1, mc1, bi1, by1, aa1, le1, ca1, rfl, h1, ht1, hg1, hb1⟩ := HP.out
                  have R0 := Lib.hid h1
                  have R1 := Lib.hid ht1
                  have R2 := Lib.hid hb1
                  clear HP h1 ht1 hg1 hb1
                  obtain ⟨Wc, hWc⟩ : ∃ V, V = wc := ⟨wc, rfl⟩
                  subst hWc
                  have PEc := Lib.hid ((R2.out.block _ (lt_of_block PE.out)).trans PE.out)
                  have k1c := (R2.out.cell (World.block_lt_of_cell? wr _ HK1.out)).trans HK1.out
                  have HCE := Lib.hid (fun (V : World) (hb : Below Wc.heap.size Wc V) => (read_any (movD bn d) _ _ [] y V (HDE.out.below (HBW.out.trans ((R2.out.trans (hb.mono R2.out.size)).mono HBW.out.size))) (SlAt.nil V) HSE.out.ok.frags HYB.out).mono fun e w' h => full_readEnd h HTE.out)
                  have K4 := Lib.hid (fun (V : World) (hb : Below Wc.heap.size Wc V) => keep6 PEc.out k1c hb)
                  clear k1c
                  go_upto_region 24 with fail
                  go_cut [14, 15] from 155 to 164 (fun p u wx => Hid (RdCut Wc wx t p) ∧ u = .bool true)
                  case first =>
                    obtain ⟨g0, g1, g2, g3, g4, g5, g6, g7, g8, g9, -⟩ := K4.out Wc (Below.refl _ _)
                    go_region_held3 (fun w' => w'.cell? ⟨w4.heap.size, 0, none⟩ = some (.int .i64 (d.young.1 + (bn : Int))) ∧ w'.cell? ⟨w4.heap.size, 1, none⟩ = some (.slice ua d.young.2.length uc) ∧ w'.cell? ⟨w4.heap.size, 2, none⟩ = some (.int .i64 d.old.1) ∧ w'.cell? ⟨w4.heap.size, 3, none⟩ = some (.slice oa 0 oc) ∧ w'.cell? ⟨w4.heap.size, 4, none⟩ = some (.int .i64 d.size) ∧ w'.cell? ⟨w4.heap.size, 5, none⟩ = some (.int .i64 d.mark) ∧ w'.cell? ⟨w4.heap.size, 6, none⟩ = some (.slice none 0 0) ∧ w'.cell? ⟨w4.heap.size, 7, none⟩ = some (.slice (some ⟨g', o', none⟩) d.roots.length vc) ∧ w'.cell? ⟨w4.heap.size, 8, none⟩ = some (.slice ea 0 ec) ∧ w'.cell? ⟨g', o' + j, none⟩ = some (.int .u64 y) ∧ Below Wc.heap.size Wc w')
                      (first | with_reducible exact K4.out _ (set7_below HB7.out (Nat.le_refl _) _ _ _ _ _ _ _) | with_reducible exact K4.out _ (Below.refl _ _).drew | with_reducible exact K4.out _ (by assumption) | with_reducible exact K4.out _ ((Below.refl Wc.heap.size Wc).alloc (Nat.le_refl _) _).drew | with_reducible exact K4.out _ (HB6.out.alloc HB6.out.size _) | go_keep)
                      (first
                        | (go_at_call 10
                           first
                             | ((with_reducible refine (HCE.out _ (Below.refl _ _).drew).mono ?_)
                                rintro e w6 ⟨kk, kn, kneg, kma, kml, kmc, kbits, kbytes, ka, klen, kcap, rfl, htm, hb6⟩
                                have HT6 := Lib.hid htm
                                have HR6 := Lib.hid hb6
                                have HB6 := Lib.hid (show Below Wc.heap.size Wc w6 from (Below.refl Wc.heap.size Wc).drew.trans hb6)
                                have hb7 := HB6.out
                                clear htm hb6)
                             | ((with_reducible refine (HCE.out _ ((Below.refl Wc.heap.size Wc).alloc (Nat.le_refl _) _).drew).mono ?_)
                                rintro e w6 ⟨kk, kn, kneg, kma, kml, kmc, kbits, kbytes, ka, klen, kcap, rfl, htm, hb6⟩
                                have HT6 := Lib.hid htm
                                have HO6 := Lib.hid hb6
                                have HB7 := Lib.hid (show Below Wc.heap.size Wc w6 from ((Below.refl Wc.heap.size Wc).alloc (Nat.le_refl _) _).drew.trans (hb6.mono (by simp)))
                                have hb7 := HB7.out
                                have f := held_new hb6
                                have f0 := free_of f 0
                                have f1 := free_of f 1
                                have f2 := free_of f 2
                                have f3 := free_of f 3
                                have f4 := free_of f 4
                                have f5 := free_of f 5
                                have f6 := free_of f 6
                                have y0 := cell_of f 0
                                have y1 := cell_of f 1
                                have y2 := cell_of f 2
                                have y3 := cell_of f 3
                                have y4 := cell_of f 4
                                have y5 := cell_of f 5
                                have y6 := cell_of f 6
                                simp at y0 y1 y2 y3 y4 y5 y6
                                clear htm hb6 f)))
                    all_goals go_wp2_with fail
                    all_goals go_meet
                    all_goals
                      first
                        | (have hz := rd_behind HT6.out HR6.out
                           exact ⟨Lib.hid hz, rfl⟩)
                        | (have hz := rd_ahead rfl HT6.out HO6.out
                           exact ⟨Lib.hid hz, rfl⟩)
                  case rest =>
                    obtain ⟨HP, rfl⟩ := hcut
                    obtain ⟨nb2, k2, n2', neg2, ma2, ml2, mc2, bi2, by2, aa2, le2, ca2, rfl, h2, ht2, hg2, hb2⟩ := HP.out
                    have T0 := Lib.hid ((hb2.block _ (lt_of_block R0.out)).trans R0.out)
                    have T1 := Lib.hid (R1.out.lower hb2)
                    have S0 := Lib.hid h2
                    have S1 := Lib.hid ht2
                    have S2 := Lib.hid (R2.out.trans (hb2.mono R2.out.size))
                    clear HP h2 ht2 hg2 hb2
                    have c := fun i => cell_of T0.out i
                    have d' := fun i => cell_of S0.out i
                    go_wp2_with fail
                    clear c d'
                    have HX5 := same_any t _ _ _ _ wc T1.out S1.out
                    with_reducible refine HX5.mono ?_
                    clear HX5
                    rintro e wz ⟨rfl, hb⟩
                    have HBZ := Lib.hid (HBW.out.trans ((S2.out.trans (hb.mono S2.out.size)).mono HBW.out.size))
                    clear hb
                    have p5 : IntKind.i64.wrap ((j : Int) + 1) = (j : Int) + 1 := IntWalk.i64_in _ (by have := HS0.out.roots; have := QK.out.1; omega)
                    go_wp2_with fail
                    go_roundw
                    case rel => exact ⟨j + 1, QK.out.1, by go_num, HBZ⟩
                    case measure => clear p5; have := QK.out.2; simp [intOf]; omega
              · obtain rfl : j = d.roots.length := by omega
                have q1 : ¬ (d.roots.length : Int) < (d.roots.length : Int) := by omega
                go_wp2_with fail
                refine (awake_any wr).mono ?_
                rintro e wz ⟨rfl, hb⟩
                have EBZ := Lib.hid ((HB.out.trans (HBW.out.mono HB.out.size)).trans (hb.mono (Nat.le_trans HB.out.size HBW.out.size)))
                clear hb
                go_wp2_with fail
                go_ret
                exact ⟨rfl, EBZ.out⟩
end Go.Proofs.Ytohgkfnbjfhniaa
