/-
  Does the old region lead nowhere else: mem.Old.
-/
import Derived.Test.YtohgkfnbjfhniaaXs
namespace Go.Proofs.Ytohgkfnbjfhniaa
open Go.RowKit Go.Maps

/-- Is a word a head of no tuple? -/
def headB (x : Nat) : Bool := (headP x).isSome && decide (((headP x).getD (0, 0)).1 ≠ 0)

def subB (f : Frg) (i : Nat) (x : Nat) : Bool :=
  (decide (((headP x).getD (0, 0)).1 = 5) && decide (0 < ((headP x).getD (0, 0)).2) && decide (i + 1 < f.2.length)) && leavesP f (f.2.getD (i + 1) 0)

def oldGo (f : Frg) : Nat → Nat → Bool
  | 0, _ => true
  | n + 1, i => if i < f.2.length then
      (if headB (f.2.getD i 0) = true then (if subB f i (f.2.getD i 0) = true then false else oldGo f n (i + ((headP (f.2.getD i 0)).getD (0, 0)).2.toNat + 1))
      else if leavesP f (f.2.getD i 0) = true then false else oldGo f n (i + 1))
    else true

def oldP (f : Frg) : Bool := oldGo f f.2.length 0

theorem oldGo_end (f : Frg) (n i : Nat) (h : ¬ i < f.2.length) : oldGo f n i = true := by
  cases n with
  | zero => rfl
  | succ n => rw [oldGo, if_neg h]

theorem headP_bounds (x : Nat) : 0 ≤ ((headP x).getD (0, 0)).1 ∧ ((headP x).getD (0, 0)).1 ≤ 5 ∧ 0 ≤ ((headP x).getD (0, 0)).2 ∧ ((headP x).getD (0, 0)).2 ≤ 1048576 := by
  cases h : headP x with
  | none => simp
  | some k => exact headP_le h

set_option maxHeartbeats 8000000 in
set_option maxRecDepth 100000 in
theorem old_any (d : Dmp) (v : Value) (w : World) (hd : DmAt w v d) (ho : d.old.2.length ≤ 1000000) :
    Calls Try.prog 21 #[v] w fun e w' => e = .returned (.bool (oldP d.old)) ∧ Below w.heap.size w w' := by
  obtain ⟨a, b, a', b', f, r, h, rfl, ⟨-, rfl, wa1, wc1, rfl, -⟩, ⟨-, rfl, wa2, wc2, rfl, hwo⟩, -, -, ⟨-, fa, fc, rfl, -⟩, ⟨-, -, ra, rc, rfl, -⟩, ⟨-, -, ha, hc, rfl, -⟩⟩ := hd
  have T := one_at w (.cells #[.int .i64 d.young.1, .slice wa1 d.young.2.length wc1, .int .i64 d.old.1, .slice wa2 d.old.2.length wc2, .int .i64 d.size, .int .i64 d.mark, .slice fa d.frags.length fc, .slice ra d.roots.length rc, .slice ha d.handles.length hc] 28)
  obtain ⟨hol, hou, oa, oc, he, -, -, hox⟩ := hwo
  simp only [Value.slice.injEq, true_and] at he
  obtain ⟨rfl, rfl⟩ := he
  have HOL := Lib.hid hol
  have HOU := Lib.hid hou
  have HOX := Lib.hid hox
  clear hol hou hox
  go_enter Try.func21, Try.ntmps21
  go_upto_region 3 with fail
  generalize w.alloc (.cells #[.int .i64 d.young.1, .slice wa1 d.young.2.length wc1, .int .i64 d.old.1, .slice wa2 d.old.2.length wc2, .int .i64 d.size, .int .i64 d.mark, .slice fa d.frags.length fc, .slice ra d.roots.length rc, .slice ha d.handles.length hc] 28) = W at *
  have X0 := Lib.hid T.1
  have XS := Lib.hid T.2.1
  have XB := Lib.hid T.2.2
  clear T
  obtain ⟨f, hf⟩ : ∃ f, f = d.old := ⟨_, rfl⟩
  rw [← hf] at HOL HOU HOX X0 ho ⊢
  have HFE := Lib.hid hf
  clear hf
  go_loopw [4] (fun i wr => ∃ (k n : Nat), i = .int .i64 k ∧ k ≤ f.2.length + 1048577 ∧ Hid (f.2.length ≤ k + n) ∧ Hid (oldP f = oldGo f n k) ∧ Hid (Below W.heap.size W wr)) (fun i _ => f.2.length + 1048577 - (intOf i).toNat)
  case atStart => exact ⟨0, f.2.length, rfl, by omega, Lib.hid (by omega), Lib.hid rfl, Lib.hid (Below.refl _ _)⟩
  case round =>
    obtain ⟨k, n, rfl, hk, HN, HR, HB⟩ := hrel
    by_cases hlt : k < f.2.length
    · obtain ⟨g, o, rfl, kw⟩ := HOX.out k hlt
      have kw1 := (HB.out.cell (World.block_lt_of_cell? W _ ((XB.out.cell (World.block_lt_of_cell? w _ kw)).trans kw))).trans ((XB.out.cell (World.block_lt_of_cell? w _ kw)).trans kw)
      have hx := HOU.out _ (List.getElem_mem hlt)
      have HX := Lib.hid (show f.2.getD k 0 = f.2[k] by rw [List.getD_eq_getElem?_getD, List.getElem?_eq_getElem hlt]; rfl)
      obtain ⟨x, hxx⟩ : ∃ x, f.2[k]'hlt = x := ⟨_, rfl⟩
      rw [hxx] at kw1 hx HX
      obtain ⟨n, rfl⟩ : ∃ n', n = n' + 1 := ⟨n - 1, by have := HN.out; omega⟩
      have HST := Lib.hid (show oldP f = (if headB x = true then (if subB f k x = true then false else oldGo f n (k + ((headP x).getD (0, 0)).2.toNat + 1)) else if leavesP f x = true then false else oldGo f n (k + 1)) by
        rw [HR.out, oldGo, if_pos hlt, HX.out])
      have HBD := Lib.hid (headP_bounds x)
      have p1 : (k : Int) < (f.2.length : Int) := by omega
      have p2 : (0 : Int) ≤ (k : Int) := by omega
      have Y0 := Lib.hid ((HB.out.block w.heap.size (by have := XS.out; omega)).trans X0.out)
      have y2 := cell_of Y0.out 2
      have y3 := cell_of Y0.out 3
      simp at y2 y3
      have HC := Lib.hid (fun (V : World) => leaves_any f (some ⟨g, o, none⟩) wc2 x hx V)
      clear kw hxx
      go_wp2_with fail
      refine (parts_any x hx _).mono ?_
      rintro e wr ⟨he, rfl⟩
      unfold HeadEnd at he
      subst he
      obtain ⟨kd, hkd⟩ : ∃ kd, ((headP x).getD (0, 0)).1 = kd := ⟨_, rfl⟩
      obtain ⟨sz, hsz⟩ : ∃ sz, ((headP x).getD (0, 0)).2 = sz := ⟨_, rfl⟩
      obtain ⟨hs, hhs⟩ : ∃ hs, (headP x).isSome = hs := ⟨_, rfl⟩
      have HKD := Lib.hid hkd
      have HSZ := Lib.hid hsz
      have HHS := Lib.hid hhs
      rw [hkd, hsz, hhs]
      rw [hkd, hsz] at HBD
      rw [hsz] at HST
      clear hkd hsz hhs
      go_upto_region 6 with fail
      go_cut [26] from 27 to 31 (fun u wx => u = .bool (headB x) ∧ wr = wx)
      case first =>
        cases hs with
        | false =>
          have HH := Lib.hid (show headB x = false by unfold headB; rw [HHS.out]; rfl)
          go_wp2_with fail
          go_meet
          exact ⟨by rw [HH.out], rfl⟩
        | true =>
          by_cases h0 : kd = 0
          · have HH := Lib.hid (show headB x = false by unfold headB; rw [HKD.out]; simp [h0])
            subst h0
            go_wp2_with fail
            go_meet
            exact ⟨by rw [HH.out], rfl⟩
          · have HH := Lib.hid (show headB x = true by unfold headB; rw [HKD.out, HHS.out]; simp [h0])
            go_wp2_with fail
            go_meet
            exact ⟨by rw [HH.out]; simp [h0], rfl⟩
      case rest =>
        obtain ⟨rfl, rfl⟩ := hcut
        cases hh : headB x with
        | false =>
          have HH := Lib.hid hh
          clear hh
          go_upto_region 10 with fail
          go_cut [58] from 59 to 65 (fun u wx => u = .bool (leavesP f x) ∧ Hid (Below wr.heap.size wr wx))
          case first =>
            first
              | (go_region_with ((go_at_call 37
                                  (with_reducible refine (HC.out _).mono ?_)
                                  rintro e w6 ⟨rfl, hb6⟩
                                  have HB6 := Lib.hid hb6
                                  clear hb6)))
              | fail
            all_goals go_wp2_with fail
            all_goals go_meet
            all_goals exact ⟨rfl, Lib.hid (Below.trans (Below.drew (Below.refl _ wr)) HB6.out)⟩
          case rest =>
            obtain ⟨rfl, HBX⟩ := hcut
            cases hlv : leavesP f x with
            | true =>
              have HFIN := Lib.hid (show oldP f = false by rw [HST.out, HH.out, hlv]; rfl)
              clear hlv
              go_wp2_with fail
              go_ret
              exact ⟨by rw [← HFE.out, HFIN.out]; rfl, XB.out.trans ((HB.out.trans (HBX.out.mono HB.out.size)).mono XB.out.size)⟩
            | false =>
              have HNX := Lib.hid (show oldP f = oldGo f n (k + 1) by rw [HST.out, HH.out, hlv]; rfl)
              clear hlv
              have Q := Lib.hid (show k + 1 ≤ f.2.length + 1048577 ∧ f.2.length ≤ (k + 1) + n ∧ f.2.length + 1048577 - (k + 1) < f.2.length + 1048577 - k by have := HN.out; omega)
              have p5 : IntKind.i64.wrap ((k : Int) + 1) = (k : Int) + 1 := IntWalk.i64_in _ (by omega)
              go_wp2_with fail
              go_roundw
              case rel => exact ⟨k + 1, n, by go_num, Q.out.1, Lib.hid Q.out.2.1, HNX, Lib.hid (HB.out.trans (HBX.out.mono HB.out.size))⟩
              case measure => clear p5; have := Q.out; simp [intOf]; omega
        | true =>
          have HH := Lib.hid hh
          clear hh
          go_upto_region 7 with fail
          go_cut [54] from 32 to 54 (fun u wx => u = .bool (subB f k x) ∧ Hid (Below wr.heap.size wr wx))
          case first =>
            have Q1 := Lib.hid (show -9223372036854775808 ≤ (k : Int) + 1 ∧ (k : Int) + 1 ≤ 9223372036854775807 by omega)
            by_cases g5 : kd = 5
            · subst g5
              by_cases g1 : 0 < sz
              · by_cases g2 : k + 1 < f.2.length
                · have HSB := Lib.hid (show subB f k x = leavesP f (f.2.getD (k + 1) 0) by unfold subB; rw [HKD.out, HSZ.out]; simp [g1, g2])
                  obtain ⟨g', o', he, kw⟩ := HOX.out (k + 1) g2
                  simp only [Option.some.injEq, Addr.mk.injEq, and_true] at he
                  obtain ⟨rfl, rfl⟩ := he
                  have kw2 := (HB.out.cell (World.block_lt_of_cell? W _ ((XB.out.cell (World.block_lt_of_cell? w _ kw)).trans kw))).trans ((XB.out.cell (World.block_lt_of_cell? w _ kw)).trans kw)
                  have hz := HOU.out _ (List.getElem_mem g2)
                  have HZ := Lib.hid (show f.2.getD (k + 1) 0 = f.2[k + 1] by rw [List.getD_eq_getElem?_getD, List.getElem?_eq_getElem g2]; rfl)
                  obtain ⟨z, hzz⟩ : ∃ z, f.2[k + 1]'g2 = z := ⟨_, rfl⟩
                  rw [hzz] at kw2 hz HZ
                  have HC := Lib.hid (fun (V : World) => leaves_any f (some ⟨g, o, none⟩) wc2 z hz V)
                  have r1 : decide ((0 : Int) < sz) = true := by simp [g1]
                  have r2 : decide ((k : Int) + 1 < (f.2.length : Int)) = true := by simp; omega
                  have r3 : (k : Int) + 1 < (f.2.length : Int) := by omega
                  have r4 : (0 : Int) ≤ (k : Int) + 1 := by omega
                  have r5 : ((k : Int) + 1).toNat = k + 1 := by omega
                  clear kw hzz
                  have p5 : IntKind.i64.wrap ((k : Int) + 1) = (k : Int) + 1 := IntWalk.i64_in _ Q1.out
                  have kw3 : wr.drew.cell? _ = _ := kw2
                  have y2d : wr.drew.cell? _ = _ := y2
                  have y3d : wr.drew.cell? _ = _ := y3
                  have HDR := Lib.hid (show Below wr.heap.size wr wr.drew from Below.drew (Below.refl _ wr))
                  refine wp_region_still_tail 21 (by kernel_rfl) (by kernel_rfl) ?_
                  simp only [List.take_succ_cons, List.take_zero, List.drop_succ_cons, List.drop_zero]
                  change wpStill _ _ wr.drew (fun a' => wpList _ _ _ _ a' wr.drew) _ _
                  generalize wr.drew = wd at *
                  repeat still_step
                  refine wpStill_nil ?_
                  go_wp2_with fail
                  refine (HC.out _).mono ?_
                  rintro e w6 ⟨rfl, hb6⟩
                  have HB6 := Lib.hid (HDR.out.trans (hb6.mono HDR.out.size))
                  clear hb6
                  go_wp2_with fail
                  go_meet
                  exact ⟨by rw [HSB.out, HZ.out], HB6⟩
                · have HSB := Lib.hid (show subB f k x = false by unfold subB; simp [g2])
                  have r1 : decide ((0 : Int) < sz) = true := by simp [g1]
                  have r2 : decide ((k : Int) + 1 < (f.2.length : Int)) = false := by simp; omega
                  have p5 : IntKind.i64.wrap ((k : Int) + 1) = (k : Int) + 1 := IntWalk.i64_in _ Q1.out
                  go_quiet (fail)
                  go_wp2_with fail
                  go_meet
                  exact ⟨by rw [HSB.out], Lib.hid ⟨rfl, rfl, rfl, Nat.le_refl _, fun _ _ => rfl⟩⟩
              · have HSB := Lib.hid (show subB f k x = false by unfold subB; rw [HSZ.out]; simp [g1])
                have r1 : decide ((0 : Int) < sz) = false := by simp; omega
                go_quiet (fail)
                go_wp2_with fail
                go_meet
                exact ⟨by rw [HSB.out], Lib.hid ⟨rfl, rfl, rfl, Nat.le_refl _, fun _ _ => rfl⟩⟩
            · have HSB := Lib.hid (show subB f k x = false by unfold subB; rw [HKD.out]; simp [g5])
              have r1 : (kd == 5) = false := by simp [g5]
              go_quiet (fail)
              go_wp2_with fail
              go_meet
              exact ⟨by rw [HSB.out], Lib.hid ⟨rfl, rfl, rfl, Nat.le_refl _, fun _ _ => rfl⟩⟩
          case rest =>
            obtain ⟨rfl, HBX⟩ := hcut
            cases hlv : subB f k x with
            | true =>
              have HFIN := Lib.hid (show oldP f = false by rw [HST.out, HH.out, hlv]; rfl)
              clear hlv
              go_wp2_with fail
              go_ret
              exact ⟨by rw [← HFE.out, HFIN.out]; rfl, XB.out.trans ((HB.out.trans (HBX.out.mono HB.out.size)).mono XB.out.size)⟩
            | false =>
              obtain ⟨s, rfl⟩ : ∃ s : Nat, sz = (s : Int) := ⟨sz.toNat, by have := HBD.out; omega⟩
              have HNX := Lib.hid (show oldP f = oldGo f n (k + s + 1) by rw [HST.out, HH.out, hlv]; rfl)
              clear hlv
              have Q := Lib.hid (show k + s + 1 ≤ f.2.length + 1048577 ∧ f.2.length ≤ (k + s + 1) + n ∧ f.2.length + 1048577 - (k + s + 1) < f.2.length + 1048577 - k by have := HN.out; have := HBD.out; omega)
              have Q5 := Lib.hid (show -9223372036854775808 ≤ (k : Int) + (s : Int) ∧ (k : Int) + (s : Int) ≤ 9223372036854775807 by have := Q.out; omega)
              have Q6 := Lib.hid (show -9223372036854775808 ≤ (k : Int) + (s : Int) + 1 ∧ (k : Int) + (s : Int) + 1 ≤ 9223372036854775807 by have := Q.out; omega)
              have p5 : IntKind.i64.wrap ((k : Int) + (s : Int)) = (k : Int) + (s : Int) := IntWalk.i64_in _ Q5.out
              have p6 : IntKind.i64.wrap ((k : Int) + (s : Int) + 1) = (k : Int) + (s : Int) + 1 := IntWalk.i64_in _ Q6.out
              go_wp2_with fail
              go_roundw
              case rel => exact ⟨k + s + 1, n, by go_num, Q.out.1, Lib.hid Q.out.2.1, HNX, Lib.hid (HB.out.trans (HBX.out.mono HB.out.size))⟩
              case measure => clear p5 p6; have := Q.out; simp [intOf]; omega
    · have p1 : ¬ (k : Int) < (f.2.length : Int) := by omega
      have HFIN := Lib.hid (show oldP f = true by rw [HR.out, oldGo_end _ _ _ hlt])
      go_wp2_with fail
      go_ret
      exact ⟨by rw [← HFE.out, HFIN.out]; rfl, XB.out.trans (HB.out.mono XB.out.size)⟩

end Go.Proofs.Ytohgkfnbjfhniaa
