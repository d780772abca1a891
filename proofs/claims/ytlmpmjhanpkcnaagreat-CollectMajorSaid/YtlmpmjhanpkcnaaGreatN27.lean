/-
  Collect: what is reached, as a row of the call's own.
-/
import Derived.Test.YtlmpmjhanpkcnaaGreatN26
set_option linter.unusedVariables false
set_option linter.unusedSimpArgs false
namespace Go.Proofs.YtlmpmjhanpkcnaaGreat
open Go.RowKit Go.Maps

def ReachedOwn (w w' : World) (m : List Frg) (roots : List Nat) (e : Ending) : Prop := ∃ v l, e = .returned v ∧ w'.ownsRow (w.heap.size + 4) 63 2 v l.length (csS l) ∧ ReachL m roots l ∧ (∀ s ∈ l, (s.2 = 4 ∨ s.2 = 5) ∧ In64 s.1) ∧ l.length ≤ 2 * wordsN m ∧ Below w.heap.size w w'

set_option maxHeartbeats 8000000 in
set_option maxRecDepth 100000 in
theorem reached_own (m : List Frg) (roots : List Nat) (mv rv : Value) (w : World) (hm : RsAt w mv m) (hr : Ws w rv roots) (hN : wordsN m ≤ 5000) (hrl : roots.length ≤ 1000) :
    Calls Tryz.prog 29 #[mv, rv] w fun e w' => ReachedOwn w w' m roots e := by
  have hmm := @run_makeMap Tryz.prog
  have HM := Lib.hid hm
  have HR := Lib.hid hr
  obtain ⟨-, ma, mc, rfl, -⟩ := hm
  obtain ⟨hrl2, hru, ra, rc, rfl, hrc, hrm, hrx⟩ := hr
  have HRU := Lib.hid hru
  have HRX := Lib.hid hrx
  clear hru hrx
  go_enter Tryz.func29, Tryz.ntmps29
  go_upto_region 4 with fail
  have T := reach_start w mc ma m HM.out
  generalize (((w.alloc (Obj.cells #[Value.slice ma m.length mc] 55)).alloc (Obj.cells #[Value.slice none 0 0] 65)).alloc (Obj.map #[] 0)).alloc (Obj.cells #[Value.map (some (w.heap.size + 1 + 1))] 90) = W at *
  have HT := Lib.hid T
  clear T
  go_wp2_with fail
  go_loopw [9, 21] (fun u i wr => ∃ (k : Nat) (c : List Spt × List Spt), k ≤ roots.length ∧ i = .int .i64 k ∧ Hid (RSt w m (.slice ma m.length mc) wr c) ∧ Hid (RInv m roots c) ∧ Hid (∀ x ∈ roots.take k, Met c x) ∧ Hid (c.2.length ≤ k)) (fun _ i _ => roots.length - (intOf i).toNat)
  case atStart => exact ⟨0, ([], []), by omega, rfl, HT, Lib.hid (RInv.start m roots), Lib.hid (fun x hx => by simp at hx), Lib.hid (Nat.le_refl _)⟩
  case round =>
    obtain ⟨k, c, hk, rfl, HST, HIV, HME, HLE⟩ := hrel
    by_cases hlt : k < roots.length
    · obtain ⟨g, o, rfl, kw⟩ := HRX.out k hlt
      have kw1 := (HST.out.below.cell (World.block_lt_of_cell? w _ kw)).trans kw
      have hx := HRU.out _ (List.getElem_mem hlt)
      have HTK := Lib.hid (List.take_succ_eq_append_getElem hlt)
      have HGD := Lib.hid (show Good m roots roots[k] from fun s ht ho => .root (List.getElem_mem hlt) ht ho)
      obtain ⟨x, hxx⟩ : ∃ x, roots[k] = x := ⟨_, rfl⟩
      rw [hxx] at kw1 hx HTK HGD
      have p1 : (k : Int) < (roots.length : Int) := by omega
      have p2 : (0 : Int) ≤ (k : Int) := by omega
      have p5 : IntKind.i64.wrap ((k : Int) + 1) = (k : Int) + 1 := IntWalk.i64_in _ (by omega)
      clear kw hxx
      go_wp2_with fail
      refine (meet_any w m _ c x _ HST.out hx (by have := HIV.out.le; omega) (by have := HLE.out; omega)).mono ?_
      rintro e w2 ⟨rfl, hst⟩
      obtain ⟨i1, i2, i3, i4, -⟩ := HIV.out.meet hx HGD.out
      have J0 := Lib.hid hst
      have J1 := Lib.hid i1
      have J2 := Lib.hid (show ∀ y ∈ roots.take (k + 1), Met (meetP m c x) y by
        intro y hy
        rw [HTK.out] at hy
        rcases List.mem_append.1 hy with q | q
        · exact fun s hs => i3 s (HME.out y q s hs)
        · simp at q; subst q; exact i2)
      have J4 := Lib.hid (show (meetP m c x).2.length ≤ k + 1 by have := HLE.out; omega)
      clear hst i1 i2 i3 i4 kw1
      go_wp2_with fail
      go_roundw
      case rel => exact ⟨k + 1, _, by omega, by go_num, J0, J1, J2, J4⟩
      case measure => simp [intOf]; omega
    · obtain rfl : k = roots.length := by omega
      have p1 : ¬ (roots.length : Int) < (roots.length : Int) := by omega
      have HME := Lib.hid (show ∀ x ∈ roots, Met c x by have h := HME.out; rwa [List.take_length] at h)
      clear HRX HRU hmm
      go_wp2_with fail
      go_loopw [10] (fun u wr => ∃ (i : Nat) (l S : List Spt), i ≤ l.length ∧ u = .int .i64 i ∧ Hid (RSt w m (.slice ma m.length mc) wr (l, S)) ∧ Hid (RInv m roots (l, S)) ∧ Hid (∀ x ∈ roots, Met (l, S) x) ∧ Hid (∀ s ∈ l.take i, ∀ o, objP m s.1 s.2 = some o → ∀ x ∈ leadW o.1 o.2, Met (l, S) x) ∧ Hid (S.length ≤ roots.length + 9 * i)) (fun u _ => 2 * wordsN m + 1 - (intOf u).toNat)
      case atStart => exact ⟨0, c.1, c.2, by omega, rfl, HST, HIV, HME, Lib.hid (fun s hs => by simp at hs), Lib.hid (by have := HLE.out; omega)⟩
      case round =>
        obtain ⟨i, l, S, hi, rfl, HST2, HIV2, HME2, HPR2, HLE2⟩ := hrel
        have HLN := Lib.hid (show l.length ≤ 2 * wordsN m from HIV2.out.le)
        obtain ⟨v, hv1, hv2⟩ := HST2.out.hl
        obtain ⟨vb, vc, rfl⟩ := own_slice hv2
        have hv2 : wr.ownsRow (w.heap.size + 4) 63 2 (.slice vb l.length vc) l.length (csS l) := hv2
        have HV1 := Lib.hid hv1
        have HV2 := Lib.hid hv2
        have c5 := cell_of hv1 0
        simp at c5
        clear hv1 hv2
        by_cases hlt : i < l.length
        · have p1 : (i : Int) < (l.length : Int) := by omega
          have p2 : (0 : Int) ≤ (i : Int) := by omega
          have p5 : IntKind.i64.wrap ((i : Int) + 1) = (i : Int) + 1 := IntWalk.i64_in _ (by have := HLN.out; omega)
          have hsp := SpAt.of_own HV2.out (by have := HLN.out; omega)
          obtain ⟨-, a', cap', he', hsc⟩ := hsp
          simp only [Value.slice.injEq, true_and] at he'
          obtain ⟨rfl, rfl⟩ := he'
          obtain ⟨gr, og, rfl, k0, k1⟩ := hsc i hlt
          have HSL := Lib.hid (show l[i] ∈ l from List.getElem_mem hlt)
          have HTK := Lib.hid (List.take_succ_eq_append_getElem hlt)
          obtain ⟨⟨a, t⟩, hat⟩ : ∃ s : Spt, l[i] = s := ⟨_, rfl⟩
          rw [hat] at k0 k1 HSL HTK
          simp only at k0 k1
          have HRE := Lib.hid (HIV2.out.snd _ HSL.out)
          obtain ⟨ok', hok'⟩ := Option.isSome_iff_exists.1 HRE.out.ok
          obtain ⟨kd, ws⟩ := ok'
          simp only at hok'
          have HOB := Lib.hid hok'
          have hta := HIV2.out.tag _ HSL.out
          have hain := objP_in HRE.out.ok hta
          have ha : -9223372036854775808 ≤ a ∧ a ≤ 9223372036854775807 := HIV2.out.bnd _ HSL.out
          have HOK := Lib.hid (objP_ok hok')
          have HB0 := Lib.hid HST2.out.below
          have HC := Lib.hid (fun (V : World) (hb : Below wr.heap.size wr V) => object_at m _ a t w V HST2.out.rs (HB0.out.trans (hb.mono HB0.out.size)) ha)
          have cM := cell_of HST2.out.hM 0
          simp at cM
          clear hta hain hok' hat hsc
          have upa := fun {p : Addr} {v : Value} (q : wr.cell? p = some v) (o : Obj) => (((Below.refl _ wr).alloc (Nat.le_refl _) o).cell (World.block_lt_of_cell? wr _ q)).trans q
          have cMa := upa cM
          have c5a := upa c5
          have k0a := upa k0
          have k1a := upa k1
          clear upa
          go_upto_region 12 with fail
          go_cut [11, 12] from 35 to 43 (fun p u wx => ∃ nb v, p = .pointer (some ⟨nb, 0, none⟩) ∧ u = .bool true ∧ Hid (wx.heap[nb]? = some (.cells #[.int .i64 kd, v] 107 (0, 0))) ∧ Hid (Ws w v ws) ∧ Hid (wr.heap.size ≤ nb) ∧ Hid (Below wr.heap.size wr wx))
          case first =>
            first
              | (go_region_with ((go_at_call 60
                                  first
                                  | ((with_reducible refine (HC.out _ ((Below.refl _ wr).alloc (Nat.le_refl _) _).drew).mono ?_)
                                     rintro e w6 ⟨⟨k', v', l', ok, rfl, hws, hok, hs⟩, hb6⟩
                                     rw [HOB.out] at hok
                                     subst hok
                                     obtain ⟨hk1, hk2⟩ := Prod.mk.inj (hs _ HOB.out)
                                     have HK1 := Lib.hid hk1
                                     have HK2 := Lib.hid hk2
                                     obtain ⟨-, -, va, vcc, rfl, -⟩ := id hws
                                     have HB6 := Lib.hid hb6
                                     have HWS := Lib.hid hws
                                     have f0 := cell_of (held_new hb6) 0
                                     have f1 := cell_of (held_new hb6) 1
                                     have f2 := free_of (held_new hb6) 0
                                     have f3 := free_of (held_new hb6) 1
                                     simp at f0 f1
                                     clear hb6 hws hs hk1 hk2)
                                  | ((with_reducible refine (HC.out _ (Below.refl _ _).drew).mono ?_)
                                     rintro e w6 ⟨⟨k', v', l', ok, rfl, hws, hok, hs⟩, hb6⟩
                                     rw [HOB.out] at hok
                                     subst hok
                                     obtain ⟨hk1, hk2⟩ := Prod.mk.inj (hs _ HOB.out)
                                     have HK1 := Lib.hid hk1
                                     have HK2 := Lib.hid hk2
                                     obtain ⟨-, -, va, vcc, rfl, -⟩ := id hws
                                     have HB6 := Lib.hid hb6
                                     have HWS := Lib.hid hws
                                     clear hb6 hws hs hk1 hk2))))
              | fail
            all_goals go_wp2_with fail
            all_goals go_meet
            all_goals
              rw [HK1.out, HK2.out]
              first
                | exact ⟨_, _, rfl, rfl, Lib.hid (behind0 HB6.out).1, HWS, Lib.hid HB6.out.size, Lib.hid (behind0 HB6.out).2⟩
                | exact ⟨_, _, rfl, rfl, Lib.hid (ahead0 HB6.out).1, HWS, Lib.hid (Nat.le_refl _), Lib.hid (ahead0 HB6.out).2⟩
          case rest =>
            obtain ⟨nb, v, rfl, rfl, Z0, ZW, ZN, ZB⟩ := hcut
            have HST3 := Lib.hid (HST2.out.lift ZB.out)
            obtain ⟨fr, tt, hlp, hft, htl, hlw, h8, hw1⟩ := lead_nat HOK.out
            obtain ⟨gw, ow, cw, rfl, hwc, hwm, hwl⟩ := ZW.out.open hw1
            have HLP := Lib.hid hlp
            have HLW := Lib.hid hlw
            have HLWL := Lib.hid (show (leadW kd ws).length = tt - fr by rw [hlw, List.length_take, List.length_drop]; omega)
            have y0 := cell_of Z0.out 0
            have y1 := cell_of Z0.out 1
            simp at y0 y1
            clear hlp hlw c5 c5a cM cMa k0 k0a k1 k1a
            go_wp2_with fail
            refine (leads_any kd _ ws.length cw _).mono ?_
            rintro e w5 ⟨rfl, hb5⟩
            rw [HLP.out]
            have HST4 := Lib.hid (HST3.out.lift hb5)
            have Y0 := Lib.hid ((hb5.block nb (World.block_lt_of_cell? wc ⟨nb, 0, none⟩ y0)).trans Z0.out)
            clear hb5 y0 y1
            have y1 := cell_of Y0.out 1
            simp at y1
            go_upto_region 14 with fail
            go_cut [53, 54, 55] from 49 to 55 (fun v n q wx => Hid (Ws w v (leadW kd ws)) ∧ n = .int .i64 ((tt - fr : Nat) : Int) ∧ q = .int .i64 0 ∧ w5 = wx)
            case first =>
              have q1 : (fr : Int) ≤ (tt : Int) := by omega
              have q2 : (tt : Int) ≤ (cw : Int) := by omega
              have q3 : fr ≤ cw := by omega
              have HCUT := Lib.hid (show Ws w (.slice (some ⟨gw, ow + fr, none⟩) (tt - fr) (cw - fr)) (leadW kd ws) by rw [HLW.out]; exact Ws.cut ZW.out (k := fr) (n := tt - fr) (by omega))
              by_cases hcf : cw = fr
              · have HZ := Lib.hid (show tt - fr = 0 by omega)
                have HNil := Lib.hid (show leadW kd ws = [] from List.eq_nil_of_length_eq_zero (by rw [HLWL.out]; omega))
                subst hcf
                go_wp2_with fail
                go_meet
                exact ⟨Lib.hid (by rw [HNil.out, HZ.out]; exact Ws.empty _ _ (by unfold maxLen; omega)), rfl, rfl, rfl⟩
              · have r1 : ¬ cw - fr = 0 := by omega
                have r2 : ¬ cw = fr := hcf
                have r3 : fr < cw := by omega
                go_wp2_with fail
                go_meet
                exact ⟨HCUT, rfl, rfl, rfl⟩
            case rest =>
              obtain ⟨HWW, rfl, rfl, rfl⟩ := hcut
              obtain ⟨n, hn⟩ : ∃ n, tt - fr = n := ⟨_, rfl⟩
              have HNN := Lib.hid (show (leadW kd ws).length = n by rw [HLWL.out, hn])
              rw [hn] at h8 ⊢
              clear hn hft htl y1
              go_wp2_with fail
              obtain ⟨wo, hwo⟩ : ∃ wo : World, wo = wr := ⟨_, rfl⟩
              go_loopw [16, 55] (fun u q wr3 => ∃ (j : Nat) (l2 S2 : List Spt), j ≤ n ∧ q = .int .i64 j ∧ Hid (RSt w m (.slice ma m.length mc) wr3 (l2, S2)) ∧ Hid (RInv m roots (l2, S2)) ∧ Hid (∃ t, l2 = l ++ t) ∧ Hid (∀ s ∈ S, s ∈ S2) ∧ Hid (∀ x ∈ (leadW kd ws).take j, Met (l2, S2) x) ∧ Hid (S2.length ≤ S.length + j)) (fun _ q _ => n - (intOf q).toNat)
              case atStart => exact ⟨0, l, S, by omega, rfl, HST4, HIV2, Lib.hid ⟨[], by simp⟩, Lib.hid (fun s hs => hs), Lib.hid (fun x hx => by simp at hx), Lib.hid (Nat.le_refl _)⟩
              case round =>
                obtain ⟨j, l2, S2, hj, rfl, L1, L2, L3, L4, L5, L6⟩ := hrel
                obtain ⟨_, hxu, xa, xc, rfl, hxc, hxm, hxx⟩ := HWW.out
                have HXU := Lib.hid hxu
                have HXX := Lib.hid hxx
                rw [HNN.out]
                clear hxu hxx
                by_cases hlj : j < n
                · obtain ⟨g2, o2, rfl, kw⟩ := HXX.out j (by rw [HNN.out]; exact hlj)
                  have kw1 := (L1.out.below.cell (World.block_lt_of_cell? w _ kw)).trans kw
                  have hmem := List.getElem_mem (show j < (leadW kd ws).length by rw [HNN.out]; exact hlj)
                  have hx := HXU.out _ hmem
                  have HTK3 := Lib.hid (List.take_succ_eq_append_getElem (show j < (leadW kd ws).length by rw [HNN.out]; exact hlj))
                  have HGD := Lib.hid (show Good m roots _ from fun s ht ho => .step HRE.out HOB.out hmem ht ho)
                  obtain ⟨x, hxe⟩ : ∃ x, (leadW kd ws)[j]'(by rw [HNN.out]; exact hlj) = x := ⟨_, rfl⟩
                  rw [hxe] at kw kw1 hx HTK3 HGD
                  have r1 : (j : Int) < (n : Int) := by omega
                  have r2 : (0 : Int) ≤ (j : Int) := by omega
                  have r5 : IntKind.i64.wrap ((j : Int) + 1) = (j : Int) + 1 := IntWalk.i64_in _ (by omega)
                  clear kw hmem hxe
                  go_wp2_with fail
                  refine (meet_any w m _ (l2, S2) x _ L1.out hx (by have := L2.out.le; simp only at this ⊢; omega) (by have := L6.out; have := HLE2.out; have := HLN.out; simp only; omega)).mono ?_
                  rintro e w7 ⟨rfl, hst⟩
                  obtain ⟨i1, i2, i3, i4, ⟨t5, i5⟩⟩ := L2.out.meet hx HGD.out
                  obtain ⟨c7, hc7⟩ : ∃ c7, meetP m (l2, S2) x = c7 := ⟨_, rfl⟩
                  rw [hc7] at hst i1 i2 i3 i4 i5
                  obtain ⟨l7, S7⟩ := c7
                  simp only at i4 i5
                  have M1 := Lib.hid hst
                  have M2 := Lib.hid i1
                  have M3 := Lib.hid (show ∃ t, l7 = l ++ t by obtain ⟨t, ht⟩ := L3.out; exact ⟨t ++ t5, by rw [i5, ht, List.append_assoc]⟩)
                  have M4 := Lib.hid (show ∀ s ∈ S, s ∈ S7 from fun s hs => i3 s (L4.out s hs))
                  have M5 := Lib.hid (show ∀ y ∈ (leadW kd ws).take (j + 1), Met (l7, S7) y by
                    intro y hy
                    rw [HTK3.out] at hy
                    rcases List.mem_append.1 hy with q | q
                    · exact fun s hs => i3 s (L5.out y q s hs)
                    · simp at q; subst q; exact i2)
                  have M6 := Lib.hid (show S7.length ≤ S.length + (j + 1) by have := L6.out; omega)
                  clear hst i1 i2 i3 i4 i5 kw1 hc7
                  go_wp2_with fail
                  go_roundw
                  case rel => exact ⟨j + 1, l7, S7, by omega, by go_num, M1, M2, M3, M4, M5, M6⟩
                  case measure => simp [intOf]; omega
                · obtain rfl : j = n := by omega
                  have r1 : ¬ (j : Int) < (j : Int) := by omega
                  have HLL := Lib.hid (show i + 1 ≤ l2.length by obtain ⟨t, ht⟩ := L3.out; rw [ht, List.length_append]; omega)
                  have HTK5 := Lib.hid (show l2.take (i + 1) = l.take (i + 1) by obtain ⟨t, ht⟩ := L3.out; rw [ht, List.take_append_of_le_length (by omega)])
                  have N1 := Lib.hid (show ∀ x ∈ roots, Met (l2, S2) x from fun x hx s hs => L4.out s (HME2.out x hx s hs))
                  have N2 := Lib.hid (show ∀ s ∈ l2.take (i + 1), ∀ o, objP m s.1 s.2 = some o → ∀ x ∈ leadW o.1 o.2, Met (l2, S2) x by
                    intro s hs o ho x hx
                    rw [HTK5.out, HTK.out] at hs
                    rcases List.mem_append.1 hs with q | q
                    · exact fun s' hs' => L4.out s' (HPR2.out s q o ho x hx s' hs')
                    · simp at q
                      subst q
                      have h := HOB.out
                      rw [h] at ho
                      cases ho
                      exact L5.out x (by rw [List.take_of_length_le (by rw [HNN.out]; omega)]; exact hx))
                  have N3 := Lib.hid (show S2.length ≤ roots.length + 9 * (i + 1) by have := L6.out; have := HLE2.out; omega)
                  have N4 := Lib.hid (show i + 1 ≤ 2 * wordsN m by have := HLN.out; omega)
                  go_wp2_with fail
                  go_roundw
                  case rel => exact ⟨i + 1, l2, S2, HLL.out, by go_num, L1, L2, N1, N2, N3⟩
                  case measure => simp [intOf]; have := N4.out; omega
        · obtain rfl : i = l.length := by omega
          have p1 : ¬ (l.length : Int) < (l.length : Int) := by omega
          have HFIN := Lib.hid (show ReachL m roots l from RInv.done (c := (l, S)) HIV2.out HME2.out (fun s hs o ho x hx => HPR2.out s (by rw [List.take_length]; exact hs) o ho x hx))
          go_wp2_with fail
          go_ret
          exact ⟨_, l, rfl, HV2.out, HFIN.out, (fun s hs => ⟨HIV2.out.tag s hs, HIV2.out.bnd s hs⟩), HLN.out, HST2.out.below⟩

end Go.Proofs.YtlmpmjhanpkcnaaGreat
