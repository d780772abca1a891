/-
  What stands at a spot, its words where the dump's own lie.
-/
import Derived.Test.YtohgkfnbjfhniaaXm
namespace Go.Proofs.Ytohgkfnbjfhniaa
open Go.RowKit

set_option maxHeartbeats 4000000 in
set_option maxRecDepth 100000 in
theorem words_at (m : List Frg) (mv : Value) (a n : Int) (wz w : World) (hm : RsAt wz mv m) (hbz : Below wz.heap.size wz w) (ha : -9223372036854775808 ≤ a ∧ a ≤ 9223372036854775807) (hn : 0 ≤ n ∧ n ≤ 2000000) :
    Calls Try.prog 44 #[mv, .int .i64 a, .int .i64 n] w fun e w' => WordsEnd wz (wordsP m a n) e ∧ Below w.heap.size w w' := by
  have HM := Lib.hid hm
  have HBZ := Lib.hid hbz
  clear hbz
  obtain ⟨hl, ma, mcap, rfl, hc⟩ := hm
  have HC := Lib.hid hc
  unfold maxLen at hl
  clear hc
  go_enter Try.func44, Try.ntmps44
  go_wp2_with fail
  go_loopw [13] (fun i wr => ∃ (j : Nat), j ≤ m.length ∧ i = .int .i64 j ∧ Hid (wordsP m a n = wordsP (m.drop j) a n) ∧ Hid (Below w.heap.size w wr)) (fun i _ => m.length - (intOf i).toNat)
  case atStart => exact ⟨0, by omega, rfl, Lib.hid (by simp), Lib.hid (Below.refl _ _)⟩
  case round =>
    obtain ⟨j, hj, rfl, HW, HB⟩ := hrel
    by_cases hlt : j < m.length
    · obtain ⟨g, o, wa, wc, rfl, hi, k0, k1, hw⟩ := HC.out j hlt
      have l0 := ((HBZ.out.trans (HB.out.mono HBZ.out.size)).cell (World.block_lt_of_cell? wz _ k0)).trans k0
      have l1 := ((HBZ.out.trans (HB.out.mono HBZ.out.size)).cell (World.block_lt_of_cell? wz _ k1)).trans k1
      have HD := Lib.hid (wordsP_drop hlt a n)
      obtain ⟨⟨fa, fw⟩, hf⟩ : ∃ f, m[j] = f := ⟨_, rfl⟩
      rw [hf] at l0 l1 HD hi hw
      have HWS := Lib.hid hw
      have q4 : (j : Int) < (m.length : Int) := by omega
      have q5 : (0 : Int) ≤ (j : Int) := by omega
      have q6 : IntKind.i64.wrap ((j : Int) + 1) = (j : Int) + 1 := IntWalk.i64_in _ (by omega)
      clear k0 k1 hf hw
      go_wp2_with fail
      refine (in_any fa a wa fw.length wc _ ha).mono ?_
      rintro e w2 ⟨rfl, hb2⟩
      have e0 := hb2.cell (p := ⟨wr.heap.size, 0, none⟩) (by simp)
      have e1 := hb2.cell (p := ⟨wr.heap.size, 1, none⟩) (by simp)
      simp [go_sem] at e0 e1
      have HB2 := Lib.hid (HB.out.trans (((Below.refl wr.heap.size wr).alloc (Nat.le_refl _) (.cells #[.int .i64 fa, .slice wa fw.length wc] 24)).trans (hb2.mono (by simp)) |>.mono HB.out.size))
      clear hb2
      cases hin : inP fa fw.length a
      · have HN := Lib.hid (show wordsP m a n = wordsP (m.drop (j + 1)) a n by rw [HW.out, HD.out]; simp [hin])
        clear hin
        go_wp2_with fail
        go_roundw
        case rel => exact ⟨j + 1, by omega, by go_num, HN, HB2⟩
        case measure => simp [intOf]; omega
      · have HN := Lib.hid (show wordsP m a n = cutP (fa, fw) a n by rw [HW.out, HD.out]; simp [hin])
        obtain ⟨x1, x2, x3⟩ : 0 ≤ fa ∧ fa ≤ a ∧ a - fa < fw.length := by
          simp [inP] at hin
          omega
        obtain ⟨kk, hkk⟩ : ∃ kk : Nat, a - fa = (kk : Int) := ⟨(a - fa).toNat, by omega⟩
        have hfl := HWS.out.1
        unfold maxLen at hfl
        have q7 : IntKind.i64.wrap (a - fa) = (kk : Int) := by rw [hkk]; exact IntWalk.i64_in _ (by omega)
        have q8 : IntKind.i64.wrap ((fw.length : Int) - (kk : Int)) = (fw.length : Int) - (kk : Int) := IntWalk.i64_in _ (by omega)
        clear hin
        by_cases hbig : (fw.length : Int) - (kk : Int) < n
        · have HR := Lib.hid (show wordsP m a n = none by rw [HN.out]; unfold cutP; rw [hkk, if_neg (by simp only; omega)])
          go_wp2_with fail
          go_ret2
          exact ⟨⟨.slice none 0 0, by rw [HR.out]; rfl, by rw [HR.out]; exact Ws.nil _⟩, HB2.out⟩
        · obtain ⟨nn, rfl⟩ : ∃ nn : Nat, n = (nn : Int) := ⟨n.toNat, by omega⟩
          have q9 : IntKind.i64.wrap ((kk : Int) + (nn : Int)) = (kk : Int) + (nn : Int) := IntWalk.i64_in _ (by omega)
          have HWS2 := HWS.out
          obtain ⟨_, hu, wa', wc', hv, hcc, hcm, hcl⟩ := HWS2
          simp only [Value.slice.injEq, true_and] at hv
          obtain ⟨rfl, rfl⟩ := hv
          obtain ⟨gw, ow, rfl, _⟩ := hcl kk (by omega)
          have r1 : (kk : Int) + (nn : Int) ≤ (wc : Int) := by omega
          have r2 : kk < wc := by omega
          have r3 : ¬ wc = kk := by omega
          have r4 : ¬ wc - kk = 0 := by omega
          have r5 : ((kk : Int) + (nn : Int)).toNat - kk = nn := by omega
          have HCL := Lib.hid hcl
          have HU2 := Lib.hid hu
          have HR := Lib.hid (show wordsP m a nn = some ((fw.drop kk).take nn) by
            rw [HN.out]; unfold cutP; rw [hkk, if_pos (by simp only; omega)]; simp)
          clear hcl hu
          have HCUT := Lib.hid (Ws.cut HWS.out (k := kk) (n := nn) (by omega))
          go_wp2_with fail
          go_ret2
          exact ⟨⟨_, by rw [HR.out]; rfl, by rw [HR.out]; exact HCUT.out⟩, HB2.out⟩
    · obtain rfl : j = m.length := by omega
      have q4 : ¬ ((m.length : Nat) : Int) < (m.length : Int) := by omega
      have HR := Lib.hid (show wordsP m a n = none by rw [HW.out]; simp [wordsP])
      go_wp2_with fail
      go_ret2
      exact ⟨⟨.slice none 0 0, by rw [HR.out]; rfl, by rw [HR.out]; exact Ws.nil _⟩, HB.out⟩

set_option maxHeartbeats 8000000 in
set_option maxRecDepth 100000 in
theorem object_from (m : List Frg) (mv : Value) (R : Int → List Nat → Bool) (a t : Int) (wz w : World) (hmz : RsAt wz mv m) (hbz : Below wz.heap.size wz w) (ha : -9223372036854775808 ≤ a ∧ a ≤ 9223372036854775807)
    (hR : t ≠ 5 → ∀ k l lv w', headAt m a = some (k, l) → Below w.heap.size w w' → RsAt w' mv m → Ws w' lv l → 1 ≤ l.length → Calls Try.prog 46 #[mv, .int .i64 k, lv] w' fun e w'' => e = .returned (.bool (R k l)) ∧ Below w'.heap.size w' w'') :
    Calls Try.prog 27 #[mv, .agg #[.int .i64 a, .int .i64 t]] w fun e w' => ObjEnd wz (objR m R a t) e ∧ Below w.heap.size w w' := by
  have hm := hmz.below hbz
  have HM := Lib.hid hm
  have HMZ := Lib.hid hmz
  have HBZ := Lib.hid hbz
  clear hmz hbz
  have HR := Lib.hid hR
  obtain ⟨-, ma, mc, rfl, -⟩ := hm
  clear hR
  obtain ⟨w0, hw0⟩ : ∃ w0, (w.alloc (.cells #[.int .i64 a, .int .i64 t] 68)).alloc (.cells #[.int .i64 0, .slice none 0 0] 70) = w0 := ⟨_, rfl⟩
  have T := two_at w (.cells #[.int .i64 a, .int .i64 t] 68) (.cells #[.int .i64 0, .slice none 0 0] 70)
  rw [hw0] at T
  have HBX := Lib.hid T.1
  have HOB := Lib.hid T.2.1
  have HSZ := Lib.hid T.2.2.1
  have HBL := Lib.hid T.2.2.2
  have HW0 := Lib.hid hw0
  clear T hw0
  by_cases h5 : t = 5
  · subst h5
    have HO := Lib.hid (show objR m R a 5 = (wordsP m a 2).bind fun l => if allP l = true then some (-1, l) else none by unfold objR; rw [if_pos rfl])
    go_enter Try.func27, Try.ntmps27
    go_wp2_with fail
    rw [HW0.out]
    refine (words_at m _ a 2 wz w0 HMZ.out (HBZ.out.trans (HBL.out.mono HBZ.out.size)) ha (by omega)).mono ?_
    rintro e w1 ⟨⟨v1, rfl, hv1⟩, hb1⟩
    have HB1 := Lib.hid (HBL.out.trans (hb1.mono HBL.out.size))
    have HOB1 := Lib.hid ((hb1.block (w.heap.size + 1) (by have := HSZ.out; omega)).trans HOB.out)
    have c0 := cell_of HOB1.out 0
    have c1 := cell_of HOB1.out 1
    have z0 := free_of HOB1.out 0
    have z1 := free_of HOB1.out 1
    simp at c0 c1
    have HZ1 := Lib.hid hv1
    have HV1 := Lib.hid (hv1.below (HBZ.out.trans (HB1.out.mono HBZ.out.size)))
    clear hb1 hv1
    cases hwp : wordsP m a 2 with
    | none =>
      rw [hwp] at HV1 HZ1
      obtain ⟨_, _, va, vc, rfl, _⟩ := HV1.out
      have HE := Lib.hid (show objR m R a 5 = none by rw [HO.out, hwp]; rfl)
      clear hwp
      go_wp2_with fail
      have S := obj_store (k := -1) HOB1.out HV1.out (Nat.le_succ w.heap.size)
      refine bodyPost_ret (v := .tuple #[.agg #[.int .i64 (-1), .slice va 0 vc], .bool false]) (by simp [results, Try.results27, go_sem, c0, c1]) rfl ⟨⟨_, _, _, _, rfl, HZ1.out, by rw [HE.out]; rfl, fun o ho => by rw [HE.out] at ho; cases ho⟩, HB1.out.trans S.2⟩
    | some l =>
      rw [hwp] at HV1 HZ1
      obtain ⟨_, _, va, vc, rfl, _⟩ := HV1.out
      have HE := Lib.hid (show objR m R a 5 = if allP l = true then some (-1, l) else none by rw [HO.out, hwp]; rfl)
      clear hwp
      go_wp2_with fail
      refine (allplain_any l _ _ HV1.out).mono ?_
      rintro e w2 ⟨rfl, rfl⟩
      go_wp2_with fail
      have S := obj_store (k := -1) HOB1.out HV1.out (Nat.le_succ w.heap.size)
      refine bodyPost_ret (v := .tuple #[.agg #[.int .i64 (-1), .slice va l.length vc], .bool (allP l)]) (by simp [results, Try.results27, go_sem, c0, c1]) rfl ⟨⟨_, _, _, _, rfl, HZ1.out, ?_, fun o ho => ?_⟩, HB1.out.trans S.2⟩
      · rw [HE.out]; cases allP l <;> rfl
      · rw [HE.out] at ho
        split at ho
        · cases ho; rfl
        · cases ho
  · have q5 : (t == 5) = false := by simpa using h5
    have HO := Lib.hid (show objR m R a t = (headAt m a).bind fun o => if R o.1 o.2 = true then some o else none by unfold objR; rw [if_neg h5])
    have H5 := Lib.hid h5
    clear h5
    go_enter Try.func27, Try.ntmps27
    go_wp2_with fail
    rw [HW0.out]
    refine (words_at m _ a 1 wz w0 HMZ.out (HBZ.out.trans (HBL.out.mono HBZ.out.size)) ha (by omega)).mono ?_
    rintro e w1 ⟨⟨v1, rfl, hv1⟩, hb1⟩
    have HB1 := Lib.hid (HBL.out.trans (hb1.mono HBL.out.size))
    have HS1 := Lib.hid (Nat.le_trans (Nat.le_of_eq HSZ.out) hb1.size)
    have HOB1 := Lib.hid ((hb1.block (w.heap.size + 1) (by have := HSZ.out; omega)).trans HOB.out)
    have HBX1 := Lib.hid ((hb1.block w.heap.size (by have := HSZ.out; omega)).trans HBX.out)
    have HZ1 := Lib.hid hv1
    have HV1 := Lib.hid (hv1.below (HBZ.out.trans (HB1.out.mono HBZ.out.size)))
    clear hb1 hv1
    cases hwp : wordsP m a 1 with
    | none =>
      rw [hwp] at HV1 HZ1
      obtain ⟨_, _, va, vc, rfl, _⟩ := HV1.out
      have HE := Lib.hid (show objR m R a t = none by rw [HO.out, words_none hwp]; rfl)
      have c0 := cell_of HOB1.out 0
      have c1 := cell_of HOB1.out 1
      have z0 := free_of HOB1.out 0
      have z1 := free_of HOB1.out 1
      simp at c0 c1
      clear hwp
      go_wp2_with fail
      have S := obj_store (k := 0) HOB1.out (Ws.nil _) (Nat.le_succ w.heap.size)
      refine bodyPost_ret (v := .tuple #[.agg #[.int .i64 0, .slice none 0 0], .bool false]) (by simp [results, Try.results27, go_sem, c0, c1]) rfl ⟨⟨_, _, _, _, rfl, Ws.nil _, by rw [HE.out]; rfl, fun o ho => by rw [HE.out] at ho; cases ho⟩, HB1.out.trans S.2⟩
    | some h =>
      rw [hwp] at HV1 HZ1
      have HV1 := Lib.hid (show Ws w1 v1 h from HV1.out)
      have hlen := wordsP_len hwp (by omega)
      obtain ⟨g1, o1, vc, hv, hvc, hvm, _⟩ := HV1.out.open (show 0 < h.length by omega)
      subst hv
      have k0 := HV1.out.at (j := 0) (show 0 < h.length by omega)
      rw [Nat.add_zero] at k0
      have hx := HV1.out.2.1 (h.getD 0 0) (by
        have : h.getD 0 0 = h[0]'(by omega) := by simp [List.getD, List.getElem?_eq_getElem (show 0 < h.length by omega)]
        rw [this]; exact List.getElem_mem _)
      obtain ⟨x, hxx⟩ : ∃ x, h.getD 0 0 = x := ⟨_, rfl⟩
      rw [hxx] at k0 hx
      have HH := Lib.hid (show headAt m a = (headP x).bind fun k => (wordsP m a (k.2 + 1)).map fun l => (k.1, l) by unfold headAt; rw [hwp]; simp only [Option.bind_some]; rw [hxx])
      have HLEN := Lib.hid hlen
      have q1 : (0 : Int) < (h.length : Int) := by omega
      clear hxx hlen hwp
      go_wp2_with fail
      refine (parts_any x hx _).mono ?_
      rintro e w2 ⟨he, rfl⟩
      unfold HeadEnd at he
      subst he
      cases hhp : headP x with
      | none =>
        have HE := Lib.hid (show objR m R a t = none by rw [HO.out, HH.out, hhp]; rfl)
        have c0 := cell_of HOB1.out 0
        have c1 := cell_of HOB1.out 1
        have z0 := free_of HOB1.out 0
        have z1 := free_of HOB1.out 1
        simp at c0 c1
        clear hhp
        go_wp2_with fail
        have S := obj_store (k := 0) HOB1.out (Ws.nil _) (Nat.le_succ w.heap.size)
        refine bodyPost_ret (v := .tuple #[.agg #[.int .i64 0, .slice none 0 0], .bool false]) (by simp [results, Try.results27, go_sem, c0, c1]) rfl ⟨⟨_, _, _, _, rfl, Ws.nil _, by rw [HE.out]; rfl, fun o ho => by rw [HE.out] at ho; cases ho⟩, HB1.out.trans S.2⟩
      | some ks =>
        obtain ⟨kd, sz⟩ := ks
        have hkb := headP_le hhp
        simp only at hkb
        have HH2 := Lib.hid (show headAt m a = (wordsP m a (sz + 1)).map fun l => (kd, l) by rw [HH.out, hhp]; rfl)
        have q2 : IntKind.i64.wrap (sz + 1) = sz + 1 := IntWalk.i64_in _ (by omega)
        have b0 := cell_of HBX1.out 0
        simp at b0
        clear hhp
        go_wp2_with fail
        refine (words_at m _ a (sz + 1) wz _ HMZ.out (HBZ.out.trans (HB1.out.mono HBZ.out.size)) ha (by omega)).mono ?_
        rintro e w3 ⟨⟨v3, rfl, hv3⟩, hb3⟩
        have HB3 := Lib.hid (HB1.out.trans (hb3.mono HB1.out.size))
        have HS3 := Lib.hid (Nat.le_trans HS1.out hb3.size)
        have HOB3 := Lib.hid ((hb3.block (w.heap.size + 1) (by have := HS1.out; omega)).trans HOB1.out)
        have HZ3 := Lib.hid hv3
        have HV3 := Lib.hid (hv3.below (HBZ.out.trans (HB3.out.mono HBZ.out.size)))
        clear hb3 hv3 b0
        cases hwp : wordsP m a (sz + 1) with
        | none =>
          rw [hwp] at HV3 HZ3
          obtain ⟨_, _, va3, vc3, rfl, _⟩ := HV3.out
          have HE := Lib.hid (show objR m R a t = none by rw [HO.out, HH2.out, hwp]; rfl)
          have c0 := cell_of HOB3.out 0
          have c1 := cell_of HOB3.out 1
          have z0 := free_of HOB3.out 0
          have z1 := free_of HOB3.out 1
          simp at c0 c1
          clear hwp
          go_wp2_with fail
          have S := obj_store (k := 0) HOB3.out (Ws.nil _) (Nat.le_succ w.heap.size)
          refine bodyPost_ret (v := .tuple #[.agg #[.int .i64 0, .slice none 0 0], .bool false]) (by simp [results, Try.results27, go_sem, c0, c1]) rfl ⟨⟨_, _, _, _, rfl, Ws.nil _, by rw [HE.out]; rfl, fun o ho => by rw [HE.out] at ho; cases ho⟩, HB3.out.trans S.2⟩
        | some l =>
          rw [hwp] at HV3 HZ3
          have HV3 := Lib.hid (show Ws w3 v3 l from HV3.out)
          have hlen3 := wordsP_len hwp (by omega)
          have hl1 : 1 ≤ l.length := by omega
          obtain ⟨_, _, va3, vc3, hv3, _⟩ := HV3.out
          have hv3 : v3 = .slice va3 l.length vc3 := hv3
          subst hv3
          have HHA := Lib.hid (show headAt m a = some (kd, l) by rw [HH2.out, hwp]; rfl)
          have HE := Lib.hid (show objR m R a t = if R kd l = true then some (kd, l) else none by rw [HO.out, HHA.out]; rfl)
          clear hwp hlen3
          go_wp2_with fail
          refine (HR.out H5.out kd l _ _ HHA.out HB3.out (HM.out.below HB3.out) HV3.out hl1).mono ?_
          rintro e w4 ⟨rfl, hb4⟩
          have HB4 := Lib.hid (HB3.out.trans (hb4.mono HB3.out.size))
          have HOB4 := Lib.hid ((hb4.block (w.heap.size + 1) (by have := HS3.out; omega)).trans HOB3.out)
          have HV4 := Lib.hid (HV3.out.below hb4)
          have c0 := cell_of HOB4.out 0
          have c1 := cell_of HOB4.out 1
          have z0 := free_of HOB4.out 0
          have z1 := free_of HOB4.out 1
          simp at c0 c1
          clear hb4
          cases hr : R kd l
          · have HE2 := Lib.hid (show objR m R a t = none by rw [HE.out, hr]; rfl)
            go_wp2_with fail
            have S := obj_store (k := 0) HOB4.out (Ws.nil _) (Nat.le_succ w.heap.size)
            refine bodyPost_ret (v := .tuple #[.agg #[.int .i64 0, .slice none 0 0], .bool false]) (by simp [results, Try.results27, go_sem, c0, c1]) rfl ⟨⟨_, _, _, _, rfl, Ws.nil _, by rw [HE2.out]; rfl, fun o ho => by rw [HE2.out] at ho; cases ho⟩, HB4.out.trans S.2⟩
          · have HE2 := Lib.hid (show objR m R a t = some (kd, l) by rw [HE.out, hr]; rfl)
            go_wp2_with fail
            have S := obj_store (k := kd) HOB4.out HV4.out (Nat.le_succ w.heap.size)
            refine bodyPost_ret (v := .tuple #[.agg #[.int .i64 kd, .slice va3 l.length vc3], .bool true]) (by simp [results, Try.results27, go_sem, c0, c1]) rfl ⟨⟨_, _, _, _, rfl, HZ3.out, by rw [HE2.out]; rfl, fun o ho => by rw [HE2.out] at ho; cases ho; rfl⟩, HB4.out.trans S.2⟩


theorem object_at (m : List Frg) (mv : Value) (a t : Int) (wz w : World) (hm : RsAt wz mv m) (hb : Below wz.heap.size wz w) (ha : -9223372036854775808 ≤ a ∧ a ≤ 9223372036854775807) :
    Calls Try.prog 27 #[mv, .agg #[.int .i64 a, .int .i64 t]] w fun e w' => ObjEnd wz (objP m a t) e ∧ Below w.heap.size w w' := by
  have e : objP m a t = objR m (rightP m) a t := rfl
  rw [e]
  refine object_from m mv (rightP m) a t wz w hm hb ha fun _ k l lv w' hh _ hm' hl h1 => ?_
  have := headAt_le hh
  exact right_any m k l mv lv w' (by omega) hm' hl h1

end Go.Proofs.Ytohgkfnbjfhniaa
