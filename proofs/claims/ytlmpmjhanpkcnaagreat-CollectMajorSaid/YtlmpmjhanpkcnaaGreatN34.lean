/-
  Collect: chapter 12's own regions, at and box, with words where the dump's own lie.
  Collect: chapter 12's own walk, in plain words and in memory.
-/
import Derived.Test.YtlmpmjhanpkcnaaGreatN29
import Derived.Test.YtlmpmjhanpkcnaaGreatN33
set_option linter.unusedVariables false
set_option linter.unusedSimpArgs false
namespace Go.Proofs.YtlmpmjhanpkcnaaGreat
open Go.RowKit

/-- Regions' heads in one world, their words in an elder one. -/
def RsIn (wz w : World) (v : Value) (m : List Frg) : Prop :=
  m.length ≤ maxLen ∧ ∃ a cap, v = .slice a m.length cap ∧ ∀ j, (hj : j < m.length) → ∃ g o wa wc, a = some ⟨g, o, none⟩ ∧ (-9223372036854775808 ≤ m[j].1 ∧ m[j].1 ≤ 9223372036854775807) ∧ w.cell? ⟨g, o + j * 2, none⟩ = some (.int .i64 m[j].1) ∧
    w.cell? ⟨g, o + j * 2 + 1, none⟩ = some (.slice wa m[j].2.length wc) ∧ Ws wz (.slice wa m[j].2.length wc) m[j].2

theorem rs2_of_own {wz w : World} {base n : Nat} {v : Value} {xs : List Value} {m : List Frg} (hown : w.ownsRow base 24 2 v n xs) (hn : n = m.length) (hh : Held wz xs m) (hpos : 0 < n) : RsIn wz w v m := by
  subst hn
  rcases hown.2 with ⟨_, h0⟩ | ⟨g, c, cur, rfl, hbg, hg, hnc, hcm, hcs, htake⟩
  · omega
  · refine ⟨by omega, some ⟨g, 0, none⟩, c, rfl, fun j hj => ?_⟩
    obtain ⟨a, b, k1, k2, hi, rfl, wa, wc, rfl, hw⟩ := hh.at j hj
    have hcell : ∀ k u, xs[k]? = some u → w.cell? ⟨g, 0 + k, none⟩ = some u := fun k u hk => by
      rw [← htake] at hk
      have hk' : cur[k]? = some u := by
        rw [List.getElem?_take] at hk
        split at hk
        · simpa using hk
        · cases hk
      simp [World.cell?, hg, hk']
    exact ⟨g, 0, wa, wc, rfl, hi, hcell _ _ k1, by rw [Nat.add_assoc]; exact hcell _ _ k2, hw⟩

set_option maxHeartbeats 4000000 in
set_option maxRecDepth 100000 in
/-- Regions, whose words lie where the dump's own lie. -/
theorem regs2_any (d : Dmp) (v : Value) (wz w : World) (hd : DmAt wz v d) (hbz : Below wz.heap.size wz w) (hf : d.frags.length ≤ 100000) : Calls Tryz.prog 38 #[v] w fun e w' => ∃ r, e = .returned r ∧ RsIn wz w' r d.mem ∧ Below w.heap.size w w' := by
  obtain ⟨a, b, a', b', f, r, h, rfl, ⟨hi1, rfl, wa1, wc1, rfl, hw1⟩, ⟨hi2, rfl, wa2, wc2, rfl, hw2⟩, h3, h4, h5, h6, h7⟩ := hd
  have H1 := Lib.hid hw1
  have H2 := Lib.hid hw2
  have H5 := Lib.hid h5
  clear hw1 hw2 h5 h6 h7
  obtain ⟨dy, dol, sz, mk, fr, ro, ha⟩ := d
  simp only at *
  go_enter Tryz.func38, Tryz.ntmps38
  have HBa := Lib.hid (((Below.refl w.heap.size w).alloc (Nat.le_refl _) (.cells #[.int .i64 dy.1, .slice wa1 dy.2.length wc1, .int .i64 dol.1, .slice wa2 dol.2.length wc2, .int .i64 sz, .int .i64 mk, f, r, h] 28)).alloc (by simp) (.cells #[.int .i64 dy.1, .slice wa1 dy.2.length wc1, .int .i64 dol.1, .slice wa2 dol.2.length wc2] 24))
  go_wp2_with (at_builtin; (refine wpList_append_rs25 rfl (.tmp 7) (.tmp 9) rfl w.heap.size _ 2 [.int .i64 dy.1, .slice wa1 dy.2.length wc1, .int .i64 dol.1, .slice wa2 dol.2.length wc2] rfl (own_two _ _ _ _ _ _) _ rfl fr wz H5.out (hbz.trans (HBa.out.mono hbz.size)) (by omega) HBa.out.size ?_; intro v1 w1 ys hh hown hgr; have HB1 := Lib.hid (HBa.out.grown hgr HBa.out.size (fun k hk => by cases hk; exact Nat.le_succ _)); have HO := Lib.hid hown; have HH := Lib.hid hh; clear hh hown hgr))
  go_ret
  refine ⟨_, rfl, ?_, HB1.out⟩
  have HF : Held wz ([.int .i64 dy.1, .slice wa1 dy.2.length wc1, .int .i64 dol.1, .slice wa2 dol.2.length wc2] ++ ys) ([dy, dol] ++ fr) := by
    refine held_append ⟨⟨hi1, rfl, wa1, wc1, rfl, H1.out⟩, ⟨hi2, rfl, wa2, wc2, rfl, H2.out⟩, trivial⟩ HH.out
  exact rs2_of_own HO.out (by simp [Dmp.mem]; omega) HF (by omega)

set_option maxHeartbeats 4000000 in
set_option maxRecDepth 100000 in
theorem at2_any (d : Dmp) (S : List Slt) (deep : Bool) (v : Value) (a : Int) (wz w : World) (h : LkAt wz v d S deep) (hbz : Below wz.heap.size wz w) (hf : d.frags.length ≤ 100000) (ha : -9223372036854775808 ≤ a ∧ a ≤ 9223372036854775807) :
    Calls Tryz.prog 66 #[v, .int .i64 a] w fun e w' => SlEnd wz (restP d.mem a) e ∧ Below w.heap.size w w' := by
  obtain ⟨c1, c2, c3, c4, c5, c6, c7, s, rfl, hd, hs⟩ := h
  have HDM := Lib.hid hd
  clear hs hd
  obtain ⟨m, hm0⟩ : ∃ m, d.mem = m := ⟨_, rfl⟩
  have HM0 := Lib.hid hm0
  rw [hm0]
  clear hm0
  go_enter Tryz.func66, Tryz.ntmps66
  go_wp2_with fail
  have HB0 := Lib.hid ((Below.refl w.heap.size w).alloc (Nat.le_refl _) (.cells #[c1, c2, c3, c4, .int .i64 d.size, .int .i64 d.mark, c5, c6, c7, s, .bool deep] 53))
  refine (regs2_any d _ wz _ HDM.out (hbz.trans (HB0.out.mono hbz.size)) hf).mono ?_
  rintro e w1 ⟨r, rfl, hm, hb1⟩
  have HB1 := Lib.hid (HB0.out.trans (hb1.mono (by simp)))
  rw [HM0.out] at hm
  obtain ⟨hl, ma, mcap, rfl, hc⟩ := hm
  have HC := Lib.hid hc
  unfold maxLen at hl
  clear hc hb1 HDM HB0
  go_wp2_with fail
  go_loopw [6] (fun i wr => ∃ (j : Nat), j ≤ m.length ∧ i = .int .i64 j ∧ Hid (restP m a = restP (m.drop j) a) ∧ Hid (Below w1.heap.size w1 wr)) (fun i _ => m.length - (intOf i).toNat)
  case atStart => exact ⟨0, by omega, rfl, Lib.hid (by simp), Lib.hid (Below.refl _ _)⟩
  case round =>
    obtain ⟨j, hj, rfl, HW, HB⟩ := hrel
    by_cases hlt : j < m.length
    · obtain ⟨g, o, wa, wc, rfl, hi, k0, k1, hw⟩ := HC.out j hlt
      have l0 := (HB.out.cell (World.block_lt_of_cell? w1 _ k0)).trans k0
      have l1 := (HB.out.cell (World.block_lt_of_cell? w1 _ k1)).trans k1
      have HD := Lib.hid (restP_drop hlt a)
      obtain ⟨⟨fa, fw⟩, hfm⟩ : ∃ f, m[j] = f := ⟨_, rfl⟩
      rw [hfm] at l0 l1 HD hi hw
      have HWS := Lib.hid hw
      have q4 : (j : Int) < (m.length : Int) := by omega
      have q5 : (0 : Int) ≤ (j : Int) := by omega
      have q6 : IntKind.i64.wrap ((j : Int) + 1) = (j : Int) + 1 := IntWalk.i64_in _ (by omega)
      clear k0 k1 hfm hw
      cases hin : inP fa fw.length a
      · have HN := Lib.hid (show restP m a = restP (m.drop (j + 1)) a by rw [HW.out, HD.out]; simp [hin])
        rcases not_inP hin with x | x | ⟨x1, x2, x3⟩
        · have p1 : ¬ 0 ≤ fa := by omega
          have p2 : decide (0 ≤ fa) = false := by simpa using x
          clear hin
          go_wp2_with fail
          go_quiet (fail)
          go_wp2_with fail
          go_roundw
          case rel => exact ⟨j + 1, by omega, by go_num, HN, Lib.hid (HB.out.trans ((drewN_below _).mono HB.out.size))⟩
          case measure => simp [intOf]; omega
        · by_cases x0 : 0 ≤ fa
          · have p1 : decide (0 ≤ fa) = true := by simpa using x0
            have p2 : decide (fa ≤ a) = false := by simpa using x
            clear hin
            go_wp2_with fail
            go_quiet (fail)
            go_wp2_with fail
            go_roundw
            case rel => exact ⟨j + 1, by omega, by go_num, HN, Lib.hid (HB.out.trans ((drewN_below _).mono HB.out.size))⟩
            case measure => simp [intOf]; omega
          · have p2 : decide (0 ≤ fa) = false := by simpa using x0
            clear hin
            go_wp2_with fail
            go_quiet (fail)
            go_wp2_with fail
            go_roundw
            case rel => exact ⟨j + 1, by omega, by go_num, HN, Lib.hid (HB.out.trans ((drewN_below _).mono HB.out.size))⟩
            case measure => simp [intOf]; omega
        · have p1 : decide (0 ≤ fa) = true := by simpa using x1
          have p2 : decide (fa ≤ a) = true := by simpa using x2
          have p4 : IntKind.i64.wrap (a - fa) = a - fa := IntWalk.i64_in _ (by omega)
          have p3 : decide (a - fa < (fw.length : Int)) = false := by simpa using x3
          clear hin
          go_wp2_with fail
          go_quiet (fail)
          go_wp2_with fail
          go_roundw
          case rel => exact ⟨j + 1, by omega, by go_num, HN, Lib.hid (HB.out.trans ((drewN_below _).mono HB.out.size))⟩
          case measure => simp [intOf]; omega
      · have HN := Lib.hid (show restP m a = fw.drop (a - fa).toNat by rw [HW.out, HD.out]; simp [hin])
        obtain ⟨x1, x2, x3⟩ := inP_parts hin
        obtain ⟨kk, hkk⟩ : ∃ kk : Nat, a - fa = (kk : Int) := ⟨(a - fa).toNat, by omega⟩
        have hfl := HWS.out.1
        unfold maxLen at hfl
        have p1 : decide (0 ≤ fa) = true := by simpa using x1
        have p2 : decide (fa ≤ a) = true := by simpa using x2
        have p4 : IntKind.i64.wrap (a - fa) = (kk : Int) := by rw [hkk]; exact IntWalk.i64_in _ (by omega)
        have hkl : kk < fw.length := by omega
        have p3 : decide (kk < fw.length) = true := by simpa using hkl
        have HWS2 := HWS.out
        obtain ⟨_, hu, wa', wc', hv, hcc, hcm, hcl⟩ := HWS2
        simp only [Value.slice.injEq, true_and] at hv
        dsimp only at hcc hcm
        obtain ⟨rfl, rfl⟩ := hv
        obtain ⟨gw, ow, rfl, _⟩ := hcl kk hkl
        have r2 : kk < wc := by omega
        have r3 : ¬ wc = kk := by omega
        have r4 : ¬ wc - kk = 0 := by omega
        have r5 : kk ≤ fw.length := by omega
        have HR := Lib.hid (show restP m a = fw.drop kk by rw [HN.out, hkk]; rfl)
        have HCUT := Lib.hid (HWS.out.from_ hkl)
        clear hcl hu hin hkk
        go_wp2_with fail
        go_quiet (fail)
        go_wp2_with fail
        go_quiet (fail)
        go_wp2_with fail
        go_ret
        exact ⟨⟨_, rfl, by rw [HR.out]; exact HCUT.out⟩, HB1.out.trans ((HB.out.trans ((drewN_below _).mono HB.out.size)).trans ((drewN_below _).mono (by have := HB.out.size; simpa using this)) |>.mono HB1.out.size)⟩
    · obtain rfl : j = m.length := by omega
      have q4 : ¬ ((m.length : Nat) : Int) < (m.length : Int) := by omega
      have HR := Lib.hid (show restP m a = [] by rw [HW.out]; simp [restP])
      go_wp2_with fail
      go_ret
      exact ⟨⟨_, rfl, by rw [HR.out]; exact Ws.nil _⟩, HB1.out.trans (HB.out.mono HB1.out.size)⟩

set_option maxHeartbeats 4000000 in
set_option maxRecDepth 100000 in
theorem box2_any (d : Dmp) (S : List Slt) (deep : Bool) (v : Value) (x : Nat) (wz w : World) (h : LkAt wz v d S deep) (hbz : Below wz.heap.size wz w) (hf : d.frags.length ≤ 100000) (hx : x < 18446744073709551616) :
    Calls Tryz.prog 54 #[v, .int .u64 x] w fun e w' => BoxEnd wz (boxP d.mem x) e ∧ Below w.heap.size w w' := by
  have HLK := Lib.hid h
  obtain ⟨c1, c2, c3, c4, c5, c6, c7, s, rfl, hd, hs⟩ := h
  clear hs hd
  obtain ⟨r, hr⟩ : ∃ r, boxP d.mem x = r := ⟨_, rfl⟩
  have HR := Lib.hid hr
  rw [hr]
  clear hr
  obtain ⟨l, hl⟩ : ∃ l, loadW x = l := ⟨_, rfl⟩
  have HL := Lib.hid (show -9223372036854775808 ≤ l ∧ l ≤ 9223372036854775807 by rw [← hl]; exact loadW_in x hx)
  have HLD := Lib.hid (show ∀ W, Calls Tryz.prog 39 #[.int .u64 x] W fun e W' => e = .returned (.int .i64 l) ∧ W' = W from fun W => (load8_any x hx W).mono fun e w' q => ⟨by rw [q.1, hl], q.2.symm⟩)
  have HLE := Lib.hid hl
  clear hl
  go_enter Tryz.func54, Tryz.ntmps54
  go_wp2_with fail
  have HB0 := Lib.hid ((Below.refl w.heap.size w).alloc (Nat.le_refl _) (.cells #[c1, c2, c3, c4, .int .i64 d.size, .int .i64 d.mark, c5, c6, c7, s, .bool deep] 53))
  have hbd : Below w.heap.size w (w.alloc (.cells #[c1, c2, c3, c4, .int .i64 d.size, .int .i64 d.mark, c5, c6, c7, s, .bool deep] 53)).drew := HB0.out.drew
  have X := Lib.hid (show (w.alloc (.cells #[c1, c2, c3, c4, .int .i64 d.size, .int .i64 d.mark, c5, c6, c7, s, .bool deep] 53)).drew.heap[w.heap.size]? = some (.cells #[c1, c2, c3, c4, .int .i64 d.size, .int .i64 d.mark, c5, c6, c7, s, .bool deep] 53 (0, 0)) from World.alloc_heap_new w _)
  refine wp_region_still_tail 3 (by kernel_rfl) (by kernel_rfl) ?_
  simp only [List.take_succ_cons, List.take_zero, List.drop_succ_cons, List.drop_zero]
  change wpStill _ _ (w.alloc (.cells #[c1, c2, c3, c4, .int .i64 d.size, .int .i64 d.mark, c5, c6, c7, s, .bool deep] 53)).drew (fun a' => wpList _ _ _ _ a' (w.alloc (.cells #[c1, c2, c3, c4, .int .i64 d.size, .int .i64 d.mark, c5, c6, c7, s, .bool deep] 53)).drew) _ _
  generalize (w.alloc (.cells #[c1, c2, c3, c4, .int .i64 d.size, .int .i64 d.mark, c5, c6, c7, s, .bool deep] 53)).drew = wd at *
  have e := fun i => cell_of X.out i
  repeat still_step
  still_call (HLD.out _)
  refine wpStill_nil ?_
  go_wp2_with fail
  refine (at2_any d S deep _ l wz _ HLK.out (hbz.trans (hbd.mono hbz.size)) hf HL.out).mono ?_
  rintro e1 w3 ⟨⟨rv, rfl, hws⟩, hb3⟩
  have HB3 := Lib.hid (hbd.trans (hb3.mono hbd.size))
  clear hb3 e
  obtain ⟨tg, htg⟩ : ∃ tg, tagW x = tg := ⟨_, rfl⟩
  have HTG := Lib.hid (show ∀ W, Calls Tryz.prog 40 #[.int .u64 x] W fun e W' => e = .returned (.int .i64 (tg : Nat)) ∧ W' = W from fun W => (tag8_any x hx W).mono fun e w' q => ⟨by rw [q.1, htg], q.2.symm⟩)
  by_cases h4 : tg = 4
  · subst h4
    obtain ⟨rl, hrl⟩ : ∃ rl, restP d.mem l = rl := ⟨_, rfl⟩
    rw [hrl] at hws
    cases rl with
    | nil =>
      have HN := Lib.hid (show r = none by rw [← HR.out]; unfold boxP; rw [HLE.out, hrl]; simp)
      obtain ⟨_, _, ra, rc, rfl, _⟩ := hws
      clear hrl htg
      go_wp2_with (go_at_call 40; refine (HTG.out _).mono ?_; rintro e w4 ⟨rfl, rfl⟩)
      refine bodyPost_ret (v := .tuple #[.int .i64 0, .slice none 0 0, .bool false]) (by simp [results, Tryz.results54, go_sem]) rfl ⟨boxEnd_none _ HN.out, HB3.out⟩
    | cons h t =>
      have HRR := Lib.hid (show r = (headP h).bind fun k => if k.2.toNat ≤ t.length then some (k.1, t.take k.2.toNat) else none by rw [← HR.out]; unfold boxP; rw [if_pos htg, HLE.out, hrl])
      obtain ⟨_, _, ra, rc, rfl, _⟩ := id hws
      obtain ⟨g, o, rfl, -, hc1, hc2, k0, hh, hws2⟩ := hws.here
      have k0 := ((hbz.trans (HB3.out.mono hbz.size)).cell (World.block_lt_of_cell? wz _ k0)).trans k0
      have HWS := Lib.hid hws2
      clear hrl htg hws hws2
      have q1 : (((t.length + 1 : Nat) : Int) == 0) = false := by simp; omega
      have hl9 := HWS.out.1
      unfold maxLen at hl9
      simp only [List.length_cons] at hl9
      have q2 : IntKind.i64.wrap (((t.length + 1 : Nat) : Int) - 1) = (t.length : Int) := by rw [IntWalk.i64_in _ (by omega)]; omega
      obtain ⟨hd8, hhd⟩ : ∃ q, headP h = q := ⟨_, rfl⟩
      have HPA := Lib.hid (show ∀ W, Calls Tryz.prog 41 #[.int .u64 h] W fun e W' => e = .returned (.tuple #[.int .i64 (hd8.getD (0, 0)).1, .int .i64 (hd8.getD (0, 0)).2, .bool hd8.isSome]) ∧ W' = W from fun W => (parts8_any h hh W).mono fun e w' q => ⟨by have := q.1; unfold HeadEnd at this; rw [this, hhd], q.2.symm⟩)
      have HHD := Lib.hid hhd
      rw [hhd] at HRR
      clear hhd
      cases hd8 with
      | none =>
        have HN := Lib.hid (show r = none from HRR.out)
        go_wp2_with (first | (go_at_call 40; refine (HTG.out _).mono ?_; rintro e w4 ⟨rfl, rfl⟩) | (go_at_call 41; refine (HPA.out _).mono ?_; rintro e w4 ⟨rfl, rfl⟩))
        refine bodyPost_ret (v := .tuple #[.int .i64 0, .slice none 0 0, .bool false]) (by simp [results, Tryz.results54, go_sem]) rfl ⟨boxEnd_none _ HN.out, HB3.out⟩
      | some k =>
        obtain ⟨b1, b2, b3, b4⟩ := headP_le HHD.out
        obtain ⟨kk, kn⟩ := k
        simp only at b1 b2 b3 b4
        obtain ⟨n, rfl⟩ : ∃ n : Nat, kn = (n : Int) := ⟨kn.toNat, by omega⟩
        simp only [Option.getD_some, Option.isSome_some] at HPA
        by_cases hn : n ≤ t.length
        · have HN := Lib.hid (show r = some (kk, t.take n) by rw [HRR.out]; simp [hn])
          have q3 : ¬ (t.length : Int) < (n : Int) := by omega
          have q4 : IntKind.i64.wrap (1 + (n : Int)) = 1 + (n : Int) := IntWalk.i64_in _ (by omega)
          have r1 : (1 : Int) + (n : Int) ≤ (rc : Int) := by omega
          have r0 : 1 ≤ rc := by omega
          have r6 : (1 + (n : Int)).toNat - 1 = n := by omega
          by_cases hrc : rc = 1
          · obtain rfl : n = 0 := by omega
            subst hrc
            go_wp2_with (first | (go_at_call 40; refine (HTG.out _).mono ?_; rintro e w4 ⟨rfl, rfl⟩) | (go_at_call 41; refine (HPA.out _).mono ?_; rintro e w4 ⟨rfl, rfl⟩))
            go_quiet (fail)
            go_wp2_with fail
            refine bodyPost_ret (v := .tuple #[.int .i64 kk, .slice (some ⟨g, o, none⟩) 0 0, .bool true]) (by simp [results, Tryz.results54, go_sem]) rfl ⟨?_, HB3.out.trans ((drewN_below _).mono HB3.out.size)⟩
            exact ⟨_, by rw [HN.out]; rfl, by rw [HN.out]; exact Ws.empty _ _ (by unfold maxLen; omega)⟩
          · have r2 : 1 < rc := by omega
            have r3 : ¬ rc = 1 := by omega
            have r4 : ¬ rc - 1 = 0 := by omega
            have HCUT := Lib.hid (HWS.out.cut (k := 1) (n := n) (by simp; omega))
            go_wp2_with (first | (go_at_call 40; refine (HTG.out _).mono ?_; rintro e w4 ⟨rfl, rfl⟩) | (go_at_call 41; refine (HPA.out _).mono ?_; rintro e w4 ⟨rfl, rfl⟩))
            go_quiet (fail)
            go_wp2_with fail
            refine bodyPost_ret (v := .tuple #[.int .i64 kk, .slice (some ⟨g, o + 1, none⟩) n (rc - 1), .bool true]) (by simp [results, Tryz.results54, go_sem]) rfl ⟨?_, HB3.out.trans ((drewN_below _).mono HB3.out.size)⟩
            exact ⟨_, by rw [HN.out]; rfl, by rw [HN.out]; exact HCUT.out⟩
        · have HN := Lib.hid (show r = none by rw [HRR.out]; simp [hn])
          have q3 : (t.length : Int) < (n : Int) := by omega
          go_wp2_with (first | (go_at_call 40; refine (HTG.out _).mono ?_; rintro e w4 ⟨rfl, rfl⟩) | (go_at_call 41; refine (HPA.out _).mono ?_; rintro e w4 ⟨rfl, rfl⟩))
          refine bodyPost_ret (v := .tuple #[.int .i64 0, .slice none 0 0, .bool false]) (by simp [results, Tryz.results54, go_sem]) rfl ⟨boxEnd_none _ HN.out, HB3.out⟩
  · have HN := Lib.hid (show r = none by rw [← HR.out]; unfold boxP; rw [if_neg (by rw [htg]; exact h4)])
    have q1 : (((tg : Nat) : Int) != 4) = true := by simp; omega
    obtain ⟨_, _, ra, rc, rfl, _⟩ := hws
    clear htg h4
    go_wp2_with (go_at_call 40; refine (HTG.out _).mono ?_; rintro e w4 ⟨rfl, rfl⟩)
    refine bodyPost_ret (v := .tuple #[.int .i64 0, .slice none 0 0, .bool false]) (by simp [results, Tryz.results54, go_sem]) rfl ⟨boxEnd_none _ HN.out, HB3.out⟩

end Go.Proofs.YtlmpmjhanpkcnaaGreat

namespace Go.Proofs.YtlmpmjhanpkcnaaGreat
open Go.RowKit

structure Mt where
  at_ : List Nat
  words : Nat
  hs : List Int

def walkP (m : List Frg) : Nat → Mt → Nat → Mt
  | 0, s, _ => s
  | f + 1, s, x =>
    if tagW x ≠ 4 ∧ tagW x ≠ 5 then s
    else if x ∈ s.at_ then s
    else if tagW x = 5 then
      (if (restP m (loadW x)).length < 2 then s
       else walkP m f (walkP m f ⟨s.at_ ++ [x], s.words + 2, s.hs⟩ ((restP m (loadW x)).getD 0 0)) ((restP m (loadW x)).getD 1 0))
    else match boxP m x with
      | none => s
      | some o =>
        if o.1 = 0 then o.2.foldl (walkP m f) ⟨s.at_ ++ [x], s.words + 1 + o.2.length, s.hs⟩
        else if o.1 = 5 ∧ 0 < o.2.length then walkP m f ⟨s.at_ ++ [x], s.words + 1 + o.2.length, s.hs⟩ (o.2.getD 0 0)
        else if o.1 = 4 then ⟨s.at_ ++ [x], s.words + 1 + o.2.length, insP s.hs (loadW x)⟩
        else ⟨s.at_ ++ [x], s.words + 1 + o.2.length, s.hs⟩

/-- What has been met: pointers to where there are words. -/
structure MtOk (m : List Frg) (s : Mt) : Prop where
  nod : s.at_.Nodup
  ptr : ∀ x ∈ s.at_, x < 18446744073709551616 ∧ (tagW x = 4 ∨ tagW x = 5) ∧ restP m (loadW x) ≠ []
  wle : s.words ≤ s.at_.length * 6000
  hle : s.hs.length ≤ s.at_.length

theorem rest_in : ∀ {m : List Frg} {a : Int}, restP m a ≠ [] → ∃ f ∈ m, ∃ j : Nat, j < f.2.length ∧ a = f.1 + j
  | [], _, h => by simp [restP] at h
  | f :: r, a, h => by
    simp only [restP] at h
    by_cases hi : inP f.1 f.2.length a = true
    · have := inP_parts hi
      exact ⟨f, List.mem_cons_self, (a - f.1).toNat, by omega, by omega⟩
    · rw [if_neg hi] at h
      obtain ⟨g, hg, q⟩ := rest_in h
      exact ⟨g, List.mem_cons_of_mem _ hg, q⟩

theorem rest_spot {m : List Frg} {x : Nat} (ht : tagW x = 4 ∨ tagW x = 5) (h : restP m (loadW x) ≠ []) : (loadW x, ((tagW x : Nat) : Int)) ∈ allS m := by
  obtain ⟨f, hf, j, hj, e⟩ := rest_in h
  unfold allS
  refine List.mem_flatMap.2 ⟨f, hf, List.mem_flatMap.2 ⟨j, by simpa using hj, ?_⟩⟩
  rw [e]
  rcases ht with q | q <;> rw [q] <;> simp

theorem spot_inj {x y : Nat} (hx : tagW x = 4 ∨ tagW x = 5) (hy : tagW y = 4 ∨ tagW y = 5) (h : (loadW x, ((tagW x : Nat) : Int)) = (loadW y, ((tagW y : Nat) : Int))) : x = y := by
  simp only [Prod.mk.injEq] at h
  obtain ⟨h1, h2⟩ := h
  unfold loadW tagW at *
  rw [if_neg (by omega), if_neg (by omega)] at h1
  omega

theorem nodup_map {α β : Type} {f : α → β} : ∀ {L : List α}, L.Nodup → (∀ x ∈ L, ∀ y ∈ L, f x = f y → x = y) → (L.map f).Nodup
  | [], _, _ => List.nodup_nil
  | a :: r, h, hi => by
    obtain ⟨h1, h2⟩ := List.nodup_cons.1 h
    rw [List.map_cons, List.nodup_cons]
    refine ⟨fun q => ?_, nodup_map h2 fun x hx y hy => hi x (List.mem_cons_of_mem _ hx) y (List.mem_cons_of_mem _ hy)⟩
    obtain ⟨b, hb, e⟩ := List.mem_map.1 q
    exact h1 (hi b (List.mem_cons_of_mem _ hb) a List.mem_cons_self e ▸ hb)

theorem MtOk.count {m : List Frg} {s : Mt} (h : MtOk m s) : s.at_.length ≤ 2 * wordsN m := by
  have h1 : (s.at_.map fun x => (loadW x, ((tagW x : Nat) : Int))).Nodup := nodup_map h.nod fun x hx y hy e => spot_inj (h.ptr x hx).2.1 (h.ptr y hy).2.1 e
  have h2 := nodup_sub h1 (L := allS m) fun p hp => by
    obtain ⟨x, hx, rfl⟩ := List.mem_map.1 hp
    exact rest_spot (h.ptr x hx).2.1 (h.ptr x hx).2.2
  rw [List.length_map, allS_length] at h2
  exact h2

theorem rest_len : ∀ (m : List Frg) (a : Int), (restP m a).length ≤ wordsN m
  | [], _ => by simp [restP]
  | f :: r, a => by
    simp only [restP]
    have := rest_len r a
    have e : wordsN (f :: r) = f.2.length + wordsN r := by simp [wordsN]
    rw [e]
    split
    · rw [List.length_drop]; omega
    · omega

theorem box_len {m : List Frg} {x : Nat} {o : Int × List Nat} (h : boxP m x = some o) : restP m (loadW x) ≠ [] ∧ o.2.length ≤ wordsN m ∧ ∀ y ∈ o.2, y ∈ restP m (loadW x) := by
  unfold boxP at h
  split at h
  · have hl := rest_len m (loadW x)
    cases hr : restP m (loadW x) with
    | nil => rw [hr] at h; cases h
    | cons a t =>
      rw [hr] at h hl
      simp only at h
      obtain ⟨q, hq, h⟩ := Option.bind_eq_some_iff.1 h
      split at h
      · cases h
        simp only [List.length_cons] at hl
        refine ⟨by simp, by simp only [List.length_take]; omega, fun y hy => List.mem_cons_of_mem _ (List.mem_of_mem_take hy)⟩
      · cases h
  · cases h

theorem rest_bnd : ∀ {m : List Frg} {a : Int}, MemB m → ∀ x ∈ restP m a, x < 18446744073709551616
  | [], _, _, x, hx => by simp [restP] at hx
  | f :: r, a, hm, x, hx => by
    simp only [restP] at hx
    split at hx
    · exact hm f List.mem_cons_self x (List.mem_of_mem_drop hx)
    · exact rest_bnd (fun g hg => hm g (List.mem_cons_of_mem _ hg)) x hx

theorem MtOk.push {m : List Frg} (hN : wordsN m ≤ 5000) {s : Mt} (h : MtOk m s) {x : Nat} (hx : x < 18446744073709551616) (ht : tagW x = 4 ∨ tagW x = 5) (hr : restP m (loadW x) ≠ []) (hn : x ∉ s.at_) {n : Nat} (hnl : n ≤ 5001) {hs : List Int} (hh : hs.length ≤ s.hs.length + 1) : MtOk m ⟨s.at_ ++ [x], s.words + n, hs⟩ := by
  refine ⟨?_, fun y hy => ?_, ?_, ?_⟩
  · show (s.at_ ++ [x]).Nodup
    rw [List.nodup_append]
    exact ⟨h.nod, by simp, fun p hp q hq => by simp at hq; subst hq; intro e; subst e; exact hn hp⟩
  · rcases List.mem_append.1 hy with q | q
    · exact h.ptr y q
    · simp at q; subst q; exact ⟨hx, ht, hr⟩
  · have := h.wle
    show s.words + n ≤ (s.at_ ++ [x]).length * 6000
    simp; omega
  · have := h.hle
    show hs.length ≤ (s.at_ ++ [x]).length
    simp; omega

theorem insP_len (L : List Int) (n : Int) : (insP L n).length = L.length + 1 := by
  unfold insP
  have := congrArg List.length (List.takeWhile_append_dropWhile (p := fun x => decide (x < n)) (l := L))
  simp only [List.length_append, List.length_cons] at this ⊢
  omega

theorem fold_ok {m : List Frg} {f : Nat} (ih : ∀ s x, MtOk m s → x < 18446744073709551616 → MtOk m (walkP m f s x) ∧ s.at_.length ≤ (walkP m f s x).at_.length) : ∀ (L : List Nat) (s : Mt), MtOk m s → (∀ x ∈ L, x < 18446744073709551616) → MtOk m (L.foldl (walkP m f) s) ∧ s.at_.length ≤ (L.foldl (walkP m f) s).at_.length
  | [], s, h, _ => ⟨h, Nat.le_refl _⟩
  | x :: r, s, h, hb => by
    obtain ⟨a, b⟩ := ih s x h (hb x List.mem_cons_self)
    obtain ⟨c, d⟩ := fold_ok ih r _ a fun y hy => hb y (List.mem_cons_of_mem _ hy)
    exact ⟨c, Nat.le_trans b d⟩

theorem getD_mem {l : List Nat} {i : Nat} (h : i < l.length) : l.getD i 0 ∈ l := by
  rw [List.getD_eq_getElem?_getD, List.getElem?_eq_getElem h]
  exact List.getElem_mem h

theorem walk_ok {m : List Frg} (hm : MemB m) (hN : wordsN m ≤ 5000) : ∀ (f : Nat) (s : Mt) (x : Nat), MtOk m s → x < 18446744073709551616 → MtOk m (walkP m f s x) ∧ s.at_.length ≤ (walkP m f s x).at_.length
  | 0, s, x, h, _ => ⟨h, Nat.le_refl _⟩
  | f + 1, s, x, h, hx => by
    rw [walkP]
    split
    · exact ⟨h, Nat.le_refl _⟩
    · rename_i ht
      split
      · exact ⟨h, Nat.le_refl _⟩
      · rename_i hn
        split
        · split
          · exact ⟨h, Nat.le_refl _⟩
          · rename_i h5 h2
            have hb := rest_bnd (a := loadW x) hm
            have hp := h.push hN hx (.inr h5) (by intro e; rw [e] at h2; simp at h2) hn (n := 2) (by omega) (hs := s.hs) (by omega)
            obtain ⟨a, b⟩ := walk_ok hm hN f _ _ hp (hb _ (getD_mem (i := 0) (by omega)))
            obtain ⟨c, d⟩ := walk_ok hm hN f _ _ a (hb _ (getD_mem (i := 1) (by omega)))
            refine ⟨c, ?_⟩
            simp only [List.length_append, List.length_cons, List.length_nil] at b
            omega
        · rename_i h5
          split
          · exact ⟨h, Nat.le_refl _⟩
          · rename_i o ho
            obtain ⟨hr, hl, hmem⟩ := box_len ho
            have hb := rest_bnd (a := loadW x) hm
            have hp := fun (hs : List Int) (hh : hs.length ≤ s.hs.length + 1) => h.push hN hx (by omega) hr hn (n := 1 + o.2.length) (by omega) hh
            have ew : s.words + (1 + o.2.length) = s.words + 1 + o.2.length := by omega
            rw [ew] at hp
            have hll : s.at_.length ≤ (s.at_ ++ [x]).length := by simp
            split
            · obtain ⟨c, d⟩ := fold_ok (walk_ok hm hN f) o.2 _ (hp s.hs (by omega)) fun y hy => hb y (hmem y hy)
              exact ⟨c, Nat.le_trans hll d⟩
            · split
              · rename_i q
                obtain ⟨c, d⟩ := walk_ok hm hN f _ _ (hp s.hs (by omega)) (hb _ (hmem _ (getD_mem q.2)))
                exact ⟨c, Nat.le_trans hll d⟩
              · split
                · exact ⟨hp _ (by rw [insP_len]; omega), hll⟩
                · exact ⟨hp _ (by omega), hll⟩

/-! ### In memory -/

structure MtAt (R : Nat) (K : List (Nat × Obj)) (s : Mt) (w : World) (av hv : Value) : Prop where
  blk : w.heap[R]? = some (.cells #[av, .int .i64 s.words, hv] 39 (0, 0))
  oa : w.ownsRow (R + 1) 47 1 av s.at_.length (csW s.at_)
  oh : w.ownsRow (R + 1) 3 1 hv s.hs.length (csI s.hs)
  ne : ∀ b, av.ownBlock = some b → hv.ownBlock ≠ some b
  kp : ∀ p ∈ K, w.heap[p.1]? = some p.2 ∧ R < p.1 ∧ av.ownBlock ≠ some p.1 ∧ hv.ownBlock ≠ some p.1

theorem MtAt.lift {R : Nat} {K : List (Nat × Obj)} {s : Mt} {w w' : World} {av hv : Value} (h : MtAt R K s w av hv) (hb : Below w.heap.size w w') : MtAt R K s w' av hv :=
  ⟨(hb.block _ (lt_of_block h.blk)).trans h.blk, own_lift h.oa hb, own_lift h.oh hb, h.ne, fun p hp => ⟨(hb.block _ (lt_of_block (h.kp p hp).1)).trans (h.kp p hp).1, (h.kp p hp).2⟩⟩

theorem MtAt.keep {R : Nat} {K : List (Nat × Obj)} {s : Mt} {w w' : World} {av hv : Value} (h : MtAt R K s w av hv) (hb : Below w.heap.size w w') {b : Nat} {o : Obj} (hk : w'.heap[b]? = some o) (hn : w.heap.size ≤ b) : MtAt R ((b, o) :: K) s w' av hv := by
  have h' := h.lift hb
  refine ⟨h'.blk, h'.oa, h'.oh, h'.ne, fun p hp => ?_⟩
  rcases List.mem_cons.1 hp with rfl | hp
  · have := lt_of_block h.blk
    exact ⟨hk, by simp only; omega, fun e => by have := (h.oa.lt _ e).2; simp only at this; omega, fun e => by have := (h.oh.lt _ e).2; simp only at this; omega⟩
  · exact h'.kp p hp

theorem MtAt.less {R : Nat} {K K' : List (Nat × Obj)} {s : Mt} {w : World} {av hv : Value} (h : MtAt R K s w av hv) (hk : ∀ p ∈ K', p ∈ K) : MtAt R K' s w av hv := ⟨h.blk, h.oa, h.oh, h.ne, fun p hp => h.kp p (hk p hp)⟩

/-- A store into the block itself. -/
theorem MtAt.store {R : Nat} {K : List (Nat × Obj)} {s s' : Mt} {w : World} {av hv av' hv' : Value} {i : Nat} {u : Value} (h : MtAt R K s w av hv) (he : (#[av, .int .i64 s.words, hv] : Array Value).setIfInBounds i u = #[av', .int .i64 s'.words, hv'])
    (oa : w.ownsRow (R + 1) 47 1 av' s'.at_.length (csW s'.at_)) (oh : w.ownsRow (R + 1) 3 1 hv' s'.hs.length (csI s'.hs)) (ne : ∀ b, av'.ownBlock = some b → hv'.ownBlock ≠ some b) (hk : ∀ p ∈ K, av'.ownBlock ≠ some p.1 ∧ hv'.ownBlock ≠ some p.1) : MtAt R K s' (w.setCell ⟨R, i, none⟩ u) av' hv' := by
  refine ⟨by rw [← he]; exact set_of h.blk i u, own_set oa (by omega) u, own_set oh (by omega) u, ne, fun p hp => ⟨(Below.heap_setCell w ⟨R, i, none⟩ u p.1 (by have := (h.kp p hp).2.1; simp; omega)).trans (h.kp p hp).1, (h.kp p hp).2.1, hk p hp⟩⟩

/-- Behind an append to the pointers. -/
theorem MtAt.pushed {R : Nat} {K : List (Nat × Obj)} {s : Mt} {w w9 : World} {av hv v' : Value} {x : Nat} {o : Obj} (h : MtAt R K s w av hv) (hg : (w.alloc o).grownBy w9 av.ownBlock) (hown : w9.ownsRow (R + 1) 47 1 v' (s.at_.length + 1) (csW s.at_ ++ [.int .u64 x])) (hv' : v'.ownBlock = av.ownBlock ∨ v'.ownBlock = some (w.alloc o).heap.size) :
    w9.heap[R]? = some (.cells #[av, .int .i64 s.words, hv] 39 (0, 0)) ∧ MtAt R K ⟨s.at_ ++ [x], s.words, s.hs⟩ (w9.setCell ⟨R, 0, none⟩ v') v' hv ∧ Below R w (w9.setCell ⟨R, 0, none⟩ v') := by
  have hR := lt_of_block h.blk
  have ha : ∀ b, av.ownBlock = some b → R + 1 ≤ b ∧ b < w.heap.size := fun b e => h.oa.lt b e
  have hh : ∀ b, hv.ownBlock = some b → R + 1 ≤ b ∧ b < w.heap.size := fun b e => h.oh.lt b e
  have hsz : (w.alloc o).heap.size = w.heap.size + 1 := by simp
  have hal : Below w.heap.size w (w.alloc o) := (Below.refl _ _).alloc (Nat.le_refl _) _
  have keepB : ∀ b, b < w.heap.size → av.ownBlock ≠ some b → w9.heap[b]? = w.heap[b]? := fun b hb hne => (hg.block b (by omega) (fun e => hne e.symm)).trans (hal.block b hb)
  have e1 : w9.heap[R]? = some (.cells #[av, .int .i64 s.words, hv] 39 (0, 0)) := (keepB R hR (fun e => by have := (ha R e).1; omega)).trans h.blk
  have oh9 : w9.ownsRow (R + 1) 3 1 hv s.hs.length (csI s.hs) := by
    refine (World.ownsRow.alloc h.oh o).kept hg ?_
    by_cases e : hv.ownBlock = none
    · exact .inl e
    · obtain ⟨b, hb⟩ := Option.ne_none_iff_exists'.1 e
      exact .inr (by rw [hb]; exact fun e => h.ne b e.symm hb)
  have hne' : ∀ b, b < w.heap.size → av.ownBlock ≠ some b → v'.ownBlock ≠ some b := fun b hb hne e => by
    rcases hv' with q | q
    · exact hne (q ▸ e)
    · rw [q] at e; cases e; omega
  have hb9 : Below R w w9 := by
    have : Below R w (w.alloc o) := hal.mono (by omega)
    exact this.grown hg (by omega) (fun k hk => by have := (ha k hk).1; omega)
  refine ⟨e1, ?_, hb9.setCell (p := ⟨R, 0, none⟩) (Nat.le_refl _) v'⟩
  -- the row itself has been taken over: only the block, the other row and what is kept matter
  refine ⟨set_of e1 0 v', ?_, own_set oh9 (by omega) v', fun b hb e => hne' b (hh b e).2 (fun q => h.ne b q e) hb, fun p hp => ⟨(Below.heap_setCell w9 ⟨R, 0, none⟩ v' p.1 (by have := (h.kp p hp).2.1; simp; omega)).trans ((keepB _ (lt_of_block (h.kp p hp).1) (h.kp p hp).2.2.1).trans (h.kp p hp).1), (h.kp p hp).2.1, hne' _ (lt_of_block (h.kp p hp).1) (h.kp p hp).2.2.1, (h.kp p hp).2.2.2⟩⟩
  have e2 : csW (s.at_ ++ [x]) = csW s.at_ ++ [.int .u64 x] := by rw [csW_append]; rfl
  show (w9.setCell ⟨R, 0, none⟩ v').ownsRow (R + 1) 47 1 v' (s.at_ ++ [x]).length (csW (s.at_ ++ [x]))
  rw [e2, List.length_append]
  exact own_set hown (by omega) v'

/-- The words counted. -/
theorem MtAt.counted {R : Nat} {K : List (Nat × Obj)} {s : Mt} {w : World} {av hv : Value} (h : MtAt R K s w av hv) (n : Nat) : MtAt R K ⟨s.at_, n, s.hs⟩ (w.setCell ⟨R, 1, none⟩ (.int .i64 n)) av hv :=
  h.store (s' := ⟨s.at_, n, s.hs⟩) (i := 1) rfl h.oa h.oh h.ne fun p hp => (h.kp p hp).2.2

/-- A handle inserted: a row that was made since. -/
theorem MtAt.handled {R : Nat} {K : List (Nat × Obj)} {s : Mt} {w w' : World} {av hv v' : Value} {hs : List Int} (h : MtAt R K s w av hv) (hb : Below w.heap.size w w') (hown : w'.ownsRow w.heap.size 3 1 v' hs.length (csI hs)) :
    w'.heap[R]? = some (.cells #[av, .int .i64 s.words, hv] 39 (0, 0)) ∧ MtAt R K ⟨s.at_, s.words, hs⟩ (w'.setCell ⟨R, 2, none⟩ v') av v' ∧ Below R w (w'.setCell ⟨R, 2, none⟩ v') := by
  have h' := h.lift hb
  have hR := lt_of_block h.blk
  refine ⟨h'.blk, h'.store (s' := ⟨s.at_, s.words, hs⟩) (i := 2) rfl h'.oa (own_low hown (show R + 1 ≤ w.heap.size from hR)) (fun b e e2 => ?_) (fun p hp => ⟨(h.kp p hp).2.2.1, fun e => ?_⟩), (hb.mono (show R ≤ w.heap.size from Nat.le_of_lt hR)).setCell (p := ⟨R, 2, none⟩) (Nat.le_refl _) v'⟩
  · have h1 := (h.oa.lt b e).2
    have h2 := (hown.lt b e2).1
    omega
  · have h1 := lt_of_block (h.kp p hp).1
    have h2 := (hown.lt _ e).1
    omega

end Go.Proofs.YtlmpmjhanpkcnaaGreat
