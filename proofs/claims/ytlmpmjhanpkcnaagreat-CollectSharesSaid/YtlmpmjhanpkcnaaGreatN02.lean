/-
  Collect: chapter 12's own regions, at and box, with words where the dump's own lie.
-/
import Derived.Test.YtlmpmjhanpkcnaaGreatN00
set_option linter.unusedVariables false
set_option linter.unusedSimpArgs false
namespace Go.Proofs.YtlmpmjhanpkcnaaGreat
open Go.RowKit

/-- Regions' heads in one world, their words in an elder one. -/
def RsIn (wz w : World) (v : Value) (m : List Frg) : Prop :=
  m.length ≤ maxLen ∧ ∃ a cap, v = .slice a m.length cap ∧ ∀ j, (hj : j < m.length) → ∃ g o wa wc, a = some ⟨g, o, none⟩ ∧ (-9223372036854775808 ≤ m[j].1 ∧ m[j].1 ≤ 9223372036854775807) ∧ w.cell? ⟨g, o + j * 2, none⟩ = some (.int .i64 m[j].1) ∧
    w.cell? ⟨g, o + j * 2 + 1, none⟩ = some (.slice wa m[j].2.length wc) ∧ Ws wz (.slice wa m[j].2.length wc) m[j].2

theorem rs2_of_own {wz w : World} {base n : Nat} {v : Value} {xs : List Value} {m : List Frg} (hown : w.ownsRow base 24 2 v n xs) (hn : n = m.length) (hh : Held wz xs m) (hpos : 0 < n) : RsIn wz w v m := by
  subst hn
  rcases hown.2 with ⟨_, h0⟩ | ⟨g, c, cur, rfl, hbg, hg, hnc, hcm, hcs, htake⟩
  · omega
  · refine ⟨by omega, some ⟨g, 0, none⟩, c, rfl, fun j hj => ?_⟩
    obtain ⟨a, b, k1, k2, hi, rfl, wa, wc, rfl, hw⟩ := hh.at j hj
    have hcell : ∀ k u, xs[k]? = some u → w.cell? ⟨g, 0 + k, none⟩ = some u := fun k u hk => by
      rw [← htake] at hk
      have hk' : cur[k]? = some u := by
        rw [List.getElem?_take] at hk
        split at hk
        · simpa using hk
        · cases hk
      simp [World.cell?, hg, hk']
    exact ⟨g, 0, wa, wc, rfl, hi, hcell _ _ k1, by rw [Nat.add_assoc]; exact hcell _ _ k2, hw⟩

set_option maxHeartbeats 4000000 in
set_option maxRecDepth 100000 in
/-- Regions, whose words lie where the dump's own lie. -/
theorem regs2_any (d : Dmp) (v : Value) (wz w : World) (hd : DmAt wz v d) (hbz : Below wz.heap.size wz w) (hf : d.frags.length ≤ 100000) : Calls Tryz.prog 38 #[v] w fun e w' => ∃ r, e = .returned r ∧ RsIn wz w' r d.mem ∧ Below w.heap.size w w' := by
  obtain ⟨a, b, a', b', f, r, h, rfl, ⟨hi1, rfl, wa1, wc1, rfl, hw1⟩, ⟨hi2, rfl, wa2, wc2, rfl, hw2⟩, h3, h4, h5, h6, h7⟩ := hd
  have H1 := Lib.hid hw1
  have H2 := Lib.hid hw2
  have H5 := Lib.hid h5
  clear hw1 hw2 h5 h6 h7
  obtain ⟨dy, dol, sz, mk, fr, ro, ha⟩ := d
  simp only at *
  go_enter Tryz.func38, Tryz.ntmps38
  have HBa := Lib.hid (((Below.refl w.heap.size w).alloc (Nat.le_refl _) (.cells #[.int .i64 dy.1, .slice wa1 dy.2.length wc1, .int .i64 dol.1, .slice wa2 dol.2.length wc2, .int .i64 sz, .int .i64 mk, f, r, h] 28)).alloc (by simp) (.cells #[.int .i64 dy.1, .slice wa1 dy.2.length wc1, .int .i64 dol.1, .slice wa2 dol.2.length wc2] 24))
  go_wp2_with (at_builtin; (refine wpList_append_rs25 rfl (.tmp 7) (.tmp 9) rfl w.heap.size _ 2 [.int .i64 dy.1, .slice wa1 dy.2.length wc1, .int .i64 dol.1, .slice wa2 dol.2.length wc2] rfl (own_two _ _ _ _ _ _) _ rfl fr wz H5.out (hbz.trans (HBa.out.mono hbz.size)) (by omega) HBa.out.size ?_; intro v1 w1 ys hh hown hgr; have HB1 := Lib.hid (HBa.out.grown hgr HBa.out.size (fun k hk => by cases hk; exact Nat.le_succ _)); have HO := Lib.hid hown; have HH := Lib.hid hh; clear hh hown hgr))
  go_ret
  refine ⟨_, rfl, ?_, HB1.out⟩
  have HF : Held wz ([.int .i64 dy.1, .slice wa1 dy.2.length wc1, .int .i64 dol.1, .slice wa2 dol.2.length wc2] ++ ys) ([dy, dol] ++ fr) := by
    refine held_append ⟨⟨hi1, rfl, wa1, wc1, rfl, H1.out⟩, ⟨hi2, rfl, wa2, wc2, rfl, H2.out⟩, trivial⟩ HH.out
  exact rs2_of_own HO.out (by simp [Dmp.mem]; omega) HF (by omega)

set_option maxHeartbeats 4000000 in
set_option maxRecDepth 100000 in
theorem at2_any (d : Dmp) (S : List Slt) (deep : Bool) (v : Value) (a : Int) (wz w : World) (h : LkAt wz v d S deep) (hbz : Below wz.heap.size wz w) (hf : d.frags.length ≤ 100000) (ha : -9223372036854775808 ≤ a ∧ a ≤ 9223372036854775807) :
    Calls Tryz.prog 66 #[v, .int .i64 a] w fun e w' => SlEnd wz (restP d.mem a) e ∧ Below w.heap.size w w' := by
  obtain ⟨c1, c2, c3, c4, c5, c6, c7, s, rfl, hd, hs⟩ := h
  have HDM := Lib.hid hd
  clear hs hd
  obtain ⟨m, hm0⟩ : ∃ m, d.mem = m := ⟨_, rfl⟩
  have HM0 := Lib.hid hm0
  rw [hm0]
  clear hm0
  go_enter Tryz.func66, Tryz.ntmps66
  go_wp2_with fail
  have HB0 := Lib.hid ((Below.refl w.heap.size w).alloc (Nat.le_refl _) (.cells #[c1, c2, c3, c4, .int .i64 d.size, .int .i64 d.mark, c5, c6, c7, s, .bool deep] 53))
  refine (regs2_any d _ wz _ HDM.out (hbz.trans (HB0.out.mono hbz.size)) hf).mono ?_
  rintro e w1 ⟨r, rfl, hm, hb1⟩
  have HB1 := Lib.hid (HB0.out.trans (hb1.mono (by simp)))
  rw [HM0.out] at hm
  obtain ⟨hl, ma, mcap, rfl, hc⟩ := hm
  have HC := Lib.hid hc
  unfold maxLen at hl
  clear hc hb1 HDM HB0
  go_wp2_with fail
  go_loopw [6] (fun i wr => ∃ (j : Nat), j ≤ m.length ∧ i = .int .i64 j ∧ Hid (restP m a = restP (m.drop j) a) ∧ Hid (Below w1.heap.size w1 wr)) (fun i _ => m.length - (intOf i).toNat)
  case atStart => exact ⟨0, by omega, rfl, Lib.hid (by simp), Lib.hid (Below.refl _ _)⟩
  case round =>
    obtain ⟨j, hj, rfl, HW, HB⟩ := hrel
    by_cases hlt : j < m.length
    · obtain ⟨g, o, wa, wc, rfl, hi, k0, k1, hw⟩ := HC.out j hlt
      have l0 := (HB.out.cell (World.block_lt_of_cell? w1 _ k0)).trans k0
      have l1 := (HB.out.cell (World.block_lt_of_cell? w1 _ k1)).trans k1
      have HD := Lib.hid (restP_drop hlt a)
      obtain ⟨⟨fa, fw⟩, hfm⟩ : ∃ f, m[j] = f := ⟨_, rfl⟩
      rw [hfm] at l0 l1 HD hi hw
      have HWS := Lib.hid hw
      have q4 : (j : Int) < (m.length : Int) := by omega
      have q5 : (0 : Int) ≤ (j : Int) := by omega
      have q6 : IntKind.i64.wrap ((j : Int) + 1) = (j : Int) + 1 := IntWalk.i64_in _ (by omega)
      clear k0 k1 hfm hw
      cases hin : inP fa fw.length a
      · have HN := Lib.hid (show restP m a = restP (m.drop (j + 1)) a by rw [HW.out, HD.out]; simp [hin])
        rcases not_inP hin with x | x | ⟨x1, x2, x3⟩
        · have p1 : ¬ 0 ≤ fa := by omega
          have p2 : decide (0 ≤ fa) = false := by simpa using x
          clear hin
          go_wp2_with fail
          go_quiet (fail)
          go_wp2_with fail
          go_roundw
          case rel => exact ⟨j + 1, by omega, by go_num, HN, Lib.hid (HB.out.trans ((drewN_below _).mono HB.out.size))⟩
          case measure => simp [intOf]; omega
        · by_cases x0 : 0 ≤ fa
          · have p1 : decide (0 ≤ fa) = true := by simpa using x0
            have p2 : decide (fa ≤ a) = false := by simpa using x
            clear hin
            go_wp2_with fail
            go_quiet (fail)
            go_wp2_with fail
            go_roundw
            case rel => exact ⟨j + 1, by omega, by go_num, HN, Lib.hid (HB.out.trans ((drewN_below _).mono HB.out.size))⟩
            case measure => simp [intOf]; omega
          · have p2 : decide (0 ≤ fa) = false := by simpa using x0
            clear hin
            go_wp2_with fail
            go_quiet (fail)
            go_wp2_with fail
            go_roundw
            case rel => exact ⟨j + 1, by omega, by go_num, HN, Lib.hid (HB.out.trans ((drewN_below _).mono HB.out.size))⟩
            case measure => simp [intOf]; omega
        · have p1 : decide (0 ≤ fa) = true := by simpa using x1
          have p2 : decide (fa ≤ a) = true := by simpa using x2
          have p4 : IntKind.i64.wrap (a - fa) = a - fa := IntWalk.i64_in _ (by omega)
          have p3 : decide (a - fa < (fw.length : Int)) = false := by simpa using x3
          clear hin
          go_wp2_with fail
          go_quiet (fail)
          go_wp2_with fail
          go_roundw
          case rel => exact ⟨j + 1, by omega, by go_num, HN, Lib.hid (HB.out.trans ((drewN_below _).mono HB.out.size))⟩
          case measure => simp [intOf]; omega
      · have HN := Lib.hid (show restP m a = fw.drop (a - fa).toNat by rw [HW.out, HD.out]; simp [hin])
        obtain ⟨x1, x2, x3⟩ := inP_parts hin
        obtain ⟨kk, hkk⟩ : ∃ kk : Nat, a - fa = (kk : Int) := ⟨(a - fa).toNat, by omega⟩
        have hfl := HWS.out.1
        unfold maxLen at hfl
        have p1 : decide (0 ≤ fa) = true := by simpa using x1
        have p2 : decide (fa ≤ a) = true := by simpa using x2
        have p4 : IntKind.i64.wrap (a - fa) = (kk : Int) := by rw [hkk]; exact IntWalk.i64_in _ (by omega)
        have hkl : kk < fw.length := by omega
        have p3 : decide (kk < fw.length) = true := by simpa using hkl
        have HWS2 := HWS.out
        obtain ⟨_, hu, wa', wc', hv, hcc, hcm, hcl⟩ := HWS2
        simp only [Value.slice.injEq, true_and] at hv
        dsimp only at hcc hcm
        obtain ⟨rfl, rfl⟩ := hv
        obtain ⟨gw, ow, rfl, _⟩ := hcl kk hkl
        have r2 : kk < wc := by omega
        have r3 : ¬ wc = kk := by omega
        have r4 : ¬ wc - kk = 0 := by omega
        have r5 : kk ≤ fw.length := by omega
        have HR := Lib.hid (show restP m a = fw.drop kk by rw [HN.out, hkk]; rfl)
        have HCUT := Lib.hid (HWS.out.from_ hkl)
        clear hcl hu hin hkk
        go_wp2_with fail
        go_quiet (fail)
        go_wp2_with fail
        go_quiet (fail)
        go_wp2_with fail
        go_ret
        exact ⟨⟨_, rfl, by rw [HR.out]; exact HCUT.out⟩, HB1.out.trans ((HB.out.trans ((drewN_below _).mono HB.out.size)).trans ((drewN_below _).mono (by have := HB.out.size; simpa using this)) |>.mono HB1.out.size)⟩
    · obtain rfl : j = m.length := by omega
      have q4 : ¬ ((m.length : Nat) : Int) < (m.length : Int) := by omega
      have HR := Lib.hid (show restP m a = [] by rw [HW.out]; simp [restP])
      go_wp2_with fail
      go_ret
      exact ⟨⟨_, rfl, by rw [HR.out]; exact Ws.nil _⟩, HB1.out.trans (HB.out.mono HB1.out.size)⟩

set_option maxHeartbeats 4000000 in
set_option maxRecDepth 100000 in
theorem box2_any (d : Dmp) (S : List Slt) (deep : Bool) (v : Value) (x : Nat) (wz w : World) (h : LkAt wz v d S deep) (hbz : Below wz.heap.size wz w) (hf : d.frags.length ≤ 100000) (hx : x < 18446744073709551616) :
    Calls Tryz.prog 54 #[v, .int .u64 x] w fun e w' => BoxEnd wz (boxP d.mem x) e ∧ Below w.heap.size w w' := by
  have HLK := Lib.hid h
  obtain ⟨c1, c2, c3, c4, c5, c6, c7, s, rfl, hd, hs⟩ := h
  clear hs hd
  obtain ⟨r, hr⟩ : ∃ r, boxP d.mem x = r := ⟨_, rfl⟩
  have HR := Lib.hid hr
  rw [hr]
  clear hr
  obtain ⟨l, hl⟩ : ∃ l, loadW x = l := ⟨_, rfl⟩
  have HL := Lib.hid (show -9223372036854775808 ≤ l ∧ l ≤ 9223372036854775807 by rw [← hl]; exact loadW_in x hx)
  have HLD := Lib.hid (show ∀ W, Calls Tryz.prog 39 #[.int .u64 x] W fun e W' => e = .returned (.int .i64 l) ∧ W' = W from fun W => (load8_any x hx W).mono fun e w' q => ⟨by rw [q.1, hl], q.2.symm⟩)
  have HLE := Lib.hid hl
  clear hl
  go_enter Tryz.func54, Tryz.ntmps54
  go_wp2_with fail
  have HB0 := Lib.hid ((Below.refl w.heap.size w).alloc (Nat.le_refl _) (.cells #[c1, c2, c3, c4, .int .i64 d.size, .int .i64 d.mark, c5, c6, c7, s, .bool deep] 53))
  have hbd : Below w.heap.size w (w.alloc (.cells #[c1, c2, c3, c4, .int .i64 d.size, .int .i64 d.mark, c5, c6, c7, s, .bool deep] 53)).drew := HB0.out.drew
  have X := Lib.hid (show (w.alloc (.cells #[c1, c2, c3, c4, .int .i64 d.size, .int .i64 d.mark, c5, c6, c7, s, .bool deep] 53)).drew.heap[w.heap.size]? = some (.cells #[c1, c2, c3, c4, .int .i64 d.size, .int .i64 d.mark, c5, c6, c7, s, .bool deep] 53 (0, 0)) from World.alloc_heap_new w _)
  refine wp_region_still_tail 3 (by kernel_rfl) (by kernel_rfl) ?_
  simp only [List.take_succ_cons, List.take_zero, List.drop_succ_cons, List.drop_zero]
  change wpStill _ _ (w.alloc (.cells #[c1, c2, c3, c4, .int .i64 d.size, .int .i64 d.mark, c5, c6, c7, s, .bool deep] 53)).drew (fun a' => wpList _ _ _ _ a' (w.alloc (.cells #[c1, c2, c3, c4, .int .i64 d.size, .int .i64 d.mark, c5, c6, c7, s, .bool deep] 53)).drew) _ _
  generalize (w.alloc (.cells #[c1, c2, c3, c4, .int .i64 d.size, .int .i64 d.mark, c5, c6, c7, s, .bool deep] 53)).drew = wd at *
  have e := fun i => cell_of X.out i
  repeat still_step
  still_call (HLD.out _)
  refine wpStill_nil ?_
  go_wp2_with fail
  refine (at2_any d S deep _ l wz _ HLK.out (hbz.trans (hbd.mono hbz.size)) hf HL.out).mono ?_
  rintro e1 w3 ⟨⟨rv, rfl, hws⟩, hb3⟩
  have HB3 := Lib.hid (hbd.trans (hb3.mono hbd.size))
  clear hb3 e
  obtain ⟨tg, htg⟩ : ∃ tg, tagW x = tg := ⟨_, rfl⟩
  have HTG := Lib.hid (show ∀ W, Calls Tryz.prog 40 #[.int .u64 x] W fun e W' => e = .returned (.int .i64 (tg : Nat)) ∧ W' = W from fun W => (tag8_any x hx W).mono fun e w' q => ⟨by rw [q.1, htg], q.2.symm⟩)
  by_cases h4 : tg = 4
  · subst h4
    obtain ⟨rl, hrl⟩ : ∃ rl, restP d.mem l = rl := ⟨_, rfl⟩
    rw [hrl] at hws
    cases rl with
    | nil =>
      have HN := Lib.hid (show r = none by rw [← HR.out]; unfold boxP; rw [HLE.out, hrl]; simp)
      obtain ⟨_, _, ra, rc, rfl, _⟩ := hws
      clear hrl htg
      go_wp2_with (go_at_call 40; refine (HTG.out _).mono ?_; rintro e w4 ⟨rfl, rfl⟩)
      refine bodyPost_ret (v := .tuple #[.int .i64 0, .slice none 0 0, .bool false]) (by simp [results, Tryz.results54, go_sem]) rfl ⟨boxEnd_none _ HN.out, HB3.out⟩
    | cons h t =>
      have HRR := Lib.hid (show r = (headP h).bind fun k => if k.2.toNat ≤ t.length then some (k.1, t.take k.2.toNat) else none by rw [← HR.out]; unfold boxP; rw [if_pos htg, HLE.out, hrl])
      obtain ⟨_, _, ra, rc, rfl, _⟩ := id hws
      obtain ⟨g, o, rfl, -, hc1, hc2, k0, hh, hws2⟩ := hws.here
      have k0 := ((hbz.trans (HB3.out.mono hbz.size)).cell (World.block_lt_of_cell? wz _ k0)).trans k0
      have HWS := Lib.hid hws2
      clear hrl htg hws hws2
      have q1 : (((t.length + 1 : Nat) : Int) == 0) = false := by simp; omega
      have hl9 := HWS.out.1
      unfold maxLen at hl9
      simp only [List.length_cons] at hl9
      have q2 : IntKind.i64.wrap (((t.length + 1 : Nat) : Int) - 1) = (t.length : Int) := by rw [IntWalk.i64_in _ (by omega)]; omega
      obtain ⟨hd8, hhd⟩ : ∃ q, headP h = q := ⟨_, rfl⟩
      have HPA := Lib.hid (show ∀ W, Calls Tryz.prog 41 #[.int .u64 h] W fun e W' => e = .returned (.tuple #[.int .i64 (hd8.getD (0, 0)).1, .int .i64 (hd8.getD (0, 0)).2, .bool hd8.isSome]) ∧ W' = W from fun W => (parts8_any h hh W).mono fun e w' q => ⟨by have := q.1; unfold HeadEnd at this; rw [this, hhd], q.2.symm⟩)
      have HHD := Lib.hid hhd
      rw [hhd] at HRR
      clear hhd
      cases hd8 with
      | none =>
        have HN := Lib.hid (show r = none from HRR.out)
        go_wp2_with (first | (go_at_call 40; refine (HTG.out _).mono ?_; rintro e w4 ⟨rfl, rfl⟩) | (go_at_call 41; refine (HPA.out _).mono ?_; rintro e w4 ⟨rfl, rfl⟩))
        refine bodyPost_ret (v := .tuple #[.int .i64 0, .slice none 0 0, .bool false]) (by simp [results, Tryz.results54, go_sem]) rfl ⟨boxEnd_none _ HN.out, HB3.out⟩
      | some k =>
        obtain ⟨b1, b2, b3, b4⟩ := headP_le HHD.out
        obtain ⟨kk, kn⟩ := k
        simp only at b1 b2 b3 b4
        obtain ⟨n, rfl⟩ : ∃ n : Nat, kn = (n : Int) := ⟨kn.toNat, by omega⟩
        simp only [Option.getD_some, Option.isSome_some] at HPA
        by_cases hn : n ≤ t.length
        · have HN := Lib.hid (show r = some (kk, t.take n) by rw [HRR.out]; simp [hn])
          have q3 : ¬ (t.length : Int) < (n : Int) := by omega
          have q4 : IntKind.i64.wrap (1 + (n : Int)) = 1 + (n : Int) := IntWalk.i64_in _ (by omega)
          have r1 : (1 : Int) + (n : Int) ≤ (rc : Int) := by omega
          have r0 : 1 ≤ rc := by omega
          have r6 : (1 + (n : Int)).toNat - 1 = n := by omega
          by_cases hrc : rc = 1
          · obtain rfl : n = 0 := by omega
            subst hrc
            go_wp2_with (first | (go_at_call 40; refine (HTG.out _).mono ?_; rintro e w4 ⟨rfl, rfl⟩) | (go_at_call 41; refine (HPA.out _).mono ?_; rintro e w4 ⟨rfl, rfl⟩))
            go_quiet (fail)
            go_wp2_with fail
            refine bodyPost_ret (v := .tuple #[.int .i64 kk, .slice (some ⟨g, o, none⟩) 0 0, .bool true]) (by simp [results, Tryz.results54, go_sem]) rfl ⟨?_, HB3.out.trans ((drewN_below _).mono HB3.out.size)⟩
            exact ⟨_, by rw [HN.out]; rfl, by rw [HN.out]; exact Ws.empty _ _ (by unfold maxLen; omega)⟩
          · have r2 : 1 < rc := by omega
            have r3 : ¬ rc = 1 := by omega
            have r4 : ¬ rc - 1 = 0 := by omega
            have HCUT := Lib.hid (HWS.out.cut (k := 1) (n := n) (by simp; omega))
            go_wp2_with (first | (go_at_call 40; refine (HTG.out _).mono ?_; rintro e w4 ⟨rfl, rfl⟩) | (go_at_call 41; refine (HPA.out _).mono ?_; rintro e w4 ⟨rfl, rfl⟩))
            go_quiet (fail)
            go_wp2_with fail
            refine bodyPost_ret (v := .tuple #[.int .i64 kk, .slice (some ⟨g, o + 1, none⟩) n (rc - 1), .bool true]) (by simp [results, Tryz.results54, go_sem]) rfl ⟨?_, HB3.out.trans ((drewN_below _).mono HB3.out.size)⟩
            exact ⟨_, by rw [HN.out]; rfl, by rw [HN.out]; exact HCUT.out⟩
        · have HN := Lib.hid (show r = none by rw [HRR.out]; simp [hn])
          have q3 : (t.length : Int) < (n : Int) := by omega
          go_wp2_with (first | (go_at_call 40; refine (HTG.out _).mono ?_; rintro e w4 ⟨rfl, rfl⟩) | (go_at_call 41; refine (HPA.out _).mono ?_; rintro e w4 ⟨rfl, rfl⟩))
          refine bodyPost_ret (v := .tuple #[.int .i64 0, .slice none 0 0, .bool false]) (by simp [results, Tryz.results54, go_sem]) rfl ⟨boxEnd_none _ HN.out, HB3.out⟩
  · have HN := Lib.hid (show r = none by rw [← HR.out]; unfold boxP; rw [if_neg (by rw [htg]; exact h4)])
    have q1 : (((tg : Nat) : Int) != 4) = true := by simp; omega
    obtain ⟨_, _, ra, rc, rfl, _⟩ := hws
    clear htg h4
    go_wp2_with (go_at_call 40; refine (HTG.out _).mono ?_; rintro e w4 ⟨rfl, rfl⟩)
    refine bodyPost_ret (v := .tuple #[.int .i64 0, .slice none 0 0, .bool false]) (by simp [results, Tryz.results54, go_sem]) rfl ⟨boxEnd_none _ HN.out, HB3.out⟩

end Go.Proofs.YtlmpmjhanpkcnaaGreat
