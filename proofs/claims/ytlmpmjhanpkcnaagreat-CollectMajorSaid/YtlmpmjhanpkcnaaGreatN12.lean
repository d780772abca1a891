/-
  Does the old region lead nowhere else: mem.Old.
  Can all roots be read: mem.Roots.
  Are a dump's handles right: look.handles.
  The first word whose sentence is not so: look.Why.
  Plain facts of LookRoots: what is read is of a kind; other roots.
  A number as far as it may go: Low.
-/
import Derived.Test.YtlmpmjhanpkcnaaGreatN11
set_option linter.unusedVariables false
set_option linter.unusedSimpArgs false
namespace Go.Proofs.YtlmpmjhanpkcnaaGreat
open Go.RowKit Go.Maps

/-- Is a word a head of no tuple? -/
def headB (x : Nat) : Bool := (headP x).isSome && decide (((headP x).getD (0, 0)).1 ≠ 0)

def subB (f : Frg) (i : Nat) (x : Nat) : Bool :=
  (decide (((headP x).getD (0, 0)).1 = 5) && decide (0 < ((headP x).getD (0, 0)).2) && decide (i + 1 < f.2.length)) && leavesP f (f.2.getD (i + 1) 0)

def oldGo (f : Frg) : Nat → Nat → Bool
  | 0, _ => true
  | n + 1, i => if i < f.2.length then
      (if headB (f.2.getD i 0) = true then (if subB f i (f.2.getD i 0) = true then false else oldGo f n (i + ((headP (f.2.getD i 0)).getD (0, 0)).2.toNat + 1))
      else if leavesP f (f.2.getD i 0) = true then false else oldGo f n (i + 1))
    else true

def oldP (f : Frg) : Bool := oldGo f f.2.length 0

theorem oldGo_end (f : Frg) (n i : Nat) (h : ¬ i < f.2.length) : oldGo f n i = true := by
  cases n with
  | zero => rfl
  | succ n => rw [oldGo, if_neg h]

theorem headP_bounds (x : Nat) : 0 ≤ ((headP x).getD (0, 0)).1 ∧ ((headP x).getD (0, 0)).1 ≤ 5 ∧ 0 ≤ ((headP x).getD (0, 0)).2 ∧ ((headP x).getD (0, 0)).2 ≤ 1048576 := by
  cases h : headP x with
  | none => simp
  | some k => exact headP_le h

set_option maxHeartbeats 8000000 in
set_option maxRecDepth 100000 in
theorem old_any (d : Dmp) (v : Value) (w : World) (hd : DmAt w v d) (ho : d.old.2.length ≤ 1000000) :
    Calls Tryz.prog 44 #[v] w fun e w' => e = .returned (.bool (oldP d.old)) ∧ Below w.heap.size w w' := by
  obtain ⟨a, b, a', b', f, r, h, rfl, ⟨-, rfl, wa1, wc1, rfl, -⟩, ⟨-, rfl, wa2, wc2, rfl, hwo⟩, -, -, ⟨-, fa, fc, rfl, -⟩, ⟨-, -, ra, rc, rfl, -⟩, ⟨-, -, ha, hc, rfl, -⟩⟩ := hd
  have T := one_at w (.cells #[.int .i64 d.young.1, .slice wa1 d.young.2.length wc1, .int .i64 d.old.1, .slice wa2 d.old.2.length wc2, .int .i64 d.size, .int .i64 d.mark, .slice fa d.frags.length fc, .slice ra d.roots.length rc, .slice ha d.handles.length hc] 28)
  obtain ⟨hol, hou, oa, oc, he, -, -, hox⟩ := hwo
  simp only [Value.slice.injEq, true_and] at he
  obtain ⟨rfl, rfl⟩ := he
  have HOL := Lib.hid hol
  have HOU := Lib.hid hou
  have HOX := Lib.hid hox
  clear hol hou hox
  go_enter Tryz.func44, Tryz.ntmps44
  go_upto_region 3 with fail
  generalize w.alloc (.cells #[.int .i64 d.young.1, .slice wa1 d.young.2.length wc1, .int .i64 d.old.1, .slice wa2 d.old.2.length wc2, .int .i64 d.size, .int .i64 d.mark, .slice fa d.frags.length fc, .slice ra d.roots.length rc, .slice ha d.handles.length hc] 28) = W at *
  have X0 := Lib.hid T.1
  have XS := Lib.hid T.2.1
  have XB := Lib.hid T.2.2
  clear T
  obtain ⟨f, hf⟩ : ∃ f, f = d.old := ⟨_, rfl⟩
  rw [← hf] at HOL HOU HOX X0 ho ⊢
  have HFE := Lib.hid hf
  clear hf
  go_loopw [4] (fun i wr => ∃ (k n : Nat), i = .int .i64 k ∧ k ≤ f.2.length + 1048577 ∧ Hid (f.2.length ≤ k + n) ∧ Hid (oldP f = oldGo f n k) ∧ Hid (Below W.heap.size W wr)) (fun i _ => f.2.length + 1048577 - (intOf i).toNat)
  case atStart => exact ⟨0, f.2.length, rfl, by omega, Lib.hid (by omega), Lib.hid rfl, Lib.hid (Below.refl _ _)⟩
  case round =>
    obtain ⟨k, n, rfl, hk, HN, HR, HB⟩ := hrel
    by_cases hlt : k < f.2.length
    · obtain ⟨g, o, rfl, kw⟩ := HOX.out k hlt
      have kw1 := (HB.out.cell (World.block_lt_of_cell? W _ ((XB.out.cell (World.block_lt_of_cell? w _ kw)).trans kw))).trans ((XB.out.cell (World.block_lt_of_cell? w _ kw)).trans kw)
      have hx := HOU.out _ (List.getElem_mem hlt)
      have HX := Lib.hid (show f.2.getD k 0 = f.2[k] by rw [List.getD_eq_getElem?_getD, List.getElem?_eq_getElem hlt]; rfl)
      obtain ⟨x, hxx⟩ : ∃ x, f.2[k]'hlt = x := ⟨_, rfl⟩
      rw [hxx] at kw1 hx HX
      obtain ⟨n, rfl⟩ : ∃ n', n = n' + 1 := ⟨n - 1, by have := HN.out; omega⟩
      have HST := Lib.hid (show oldP f = (if headB x = true then (if subB f k x = true then false else oldGo f n (k + ((headP x).getD (0, 0)).2.toNat + 1)) else if leavesP f x = true then false else oldGo f n (k + 1)) by
        rw [HR.out, oldGo, if_pos hlt, HX.out])
      have HBD := Lib.hid (headP_bounds x)
      have p1 : (k : Int) < (f.2.length : Int) := by omega
      have p2 : (0 : Int) ≤ (k : Int) := by omega
      have Y0 := Lib.hid ((HB.out.block w.heap.size (by have := XS.out; omega)).trans X0.out)
      have y2 := cell_of Y0.out 2
      have y3 := cell_of Y0.out 3
      simp at y2 y3
      have HC := Lib.hid (fun (V : World) => leaves_any f (some ⟨g, o, none⟩) wc2 x hx V)
      clear kw hxx
      go_wp2_with fail
      refine (parts_any x hx _).mono ?_
      rintro e wr ⟨he, rfl⟩
      unfold HeadEnd at he
      subst he
      obtain ⟨kd, hkd⟩ : ∃ kd, ((headP x).getD (0, 0)).1 = kd := ⟨_, rfl⟩
      obtain ⟨sz, hsz⟩ : ∃ sz, ((headP x).getD (0, 0)).2 = sz := ⟨_, rfl⟩
      obtain ⟨hs, hhs⟩ : ∃ hs, (headP x).isSome = hs := ⟨_, rfl⟩
      have HKD := Lib.hid hkd
      have HSZ := Lib.hid hsz
      have HHS := Lib.hid hhs
      rw [hkd, hsz, hhs]
      rw [hkd, hsz] at HBD
      rw [hsz] at HST
      clear hkd hsz hhs
      go_upto_region 6 with fail
      go_cut [26] from 27 to 31 (fun u wx => u = .bool (headB x) ∧ wr = wx)
      case first =>
        cases hs with
        | false =>
          have HH := Lib.hid (show headB x = false by unfold headB; rw [HHS.out]; rfl)
          go_wp2_with fail
          go_meet
          exact ⟨by rw [HH.out], rfl⟩
        | true =>
          by_cases h0 : kd = 0
          · have HH := Lib.hid (show headB x = false by unfold headB; rw [HKD.out]; simp [h0])
            subst h0
            go_wp2_with fail
            go_meet
            exact ⟨by rw [HH.out], rfl⟩
          · have HH := Lib.hid (show headB x = true by unfold headB; rw [HKD.out, HHS.out]; simp [h0])
            go_wp2_with fail
            go_meet
            exact ⟨by rw [HH.out]; simp [h0], rfl⟩
      case rest =>
        obtain ⟨rfl, rfl⟩ := hcut
        cases hh : headB x with
        | false =>
          have HH := Lib.hid hh
          clear hh
          go_upto_region 10 with fail
          go_cut [58] from 59 to 65 (fun u wx => u = .bool (leavesP f x) ∧ Hid (Below wr.heap.size wr wx))
          case first =>
            first
              | (go_region_with ((go_at_call 72
                                  (with_reducible refine (HC.out _).mono ?_)
                                  rintro e w6 ⟨rfl, hb6⟩
                                  have HB6 := Lib.hid hb6
                                  clear hb6)))
              | fail
            all_goals go_wp2_with fail
            all_goals go_meet
            all_goals exact ⟨rfl, Lib.hid (Below.trans (Below.drew (Below.refl _ wr)) HB6.out)⟩
          case rest =>
            obtain ⟨rfl, HBX⟩ := hcut
            cases hlv : leavesP f x with
            | true =>
              have HFIN := Lib.hid (show oldP f = false by rw [HST.out, HH.out, hlv]; rfl)
              clear hlv
              go_wp2_with fail
              go_ret
              exact ⟨by rw [← HFE.out, HFIN.out]; rfl, XB.out.trans ((HB.out.trans (HBX.out.mono HB.out.size)).mono XB.out.size)⟩
            | false =>
              have HNX := Lib.hid (show oldP f = oldGo f n (k + 1) by rw [HST.out, HH.out, hlv]; rfl)
              clear hlv
              have Q := Lib.hid (show k + 1 ≤ f.2.length + 1048577 ∧ f.2.length ≤ (k + 1) + n ∧ f.2.length + 1048577 - (k + 1) < f.2.length + 1048577 - k by have := HN.out; omega)
              have p5 : IntKind.i64.wrap ((k : Int) + 1) = (k : Int) + 1 := IntWalk.i64_in _ (by omega)
              go_wp2_with fail
              go_roundw
              case rel => exact ⟨k + 1, n, by go_num, Q.out.1, Lib.hid Q.out.2.1, HNX, Lib.hid (HB.out.trans (HBX.out.mono HB.out.size))⟩
              case measure => clear p5; have := Q.out; simp [intOf]; omega
        | true =>
          have HH := Lib.hid hh
          clear hh
          go_upto_region 7 with fail
          go_cut [54] from 32 to 54 (fun u wx => u = .bool (subB f k x) ∧ Hid (Below wr.heap.size wr wx))
          case first =>
            have Q1 := Lib.hid (show -9223372036854775808 ≤ (k : Int) + 1 ∧ (k : Int) + 1 ≤ 9223372036854775807 by omega)
            by_cases g5 : kd = 5
            · subst g5
              by_cases g1 : 0 < sz
              · by_cases g2 : k + 1 < f.2.length
                · have HSB := Lib.hid (show subB f k x = leavesP f (f.2.getD (k + 1) 0) by unfold subB; rw [HKD.out, HSZ.out]; simp [g1, g2])
                  obtain ⟨g', o', he, kw⟩ := HOX.out (k + 1) g2
                  simp only [Option.some.injEq, Addr.mk.injEq, and_true] at he
                  obtain ⟨rfl, rfl⟩ := he
                  have kw2 := (HB.out.cell (World.block_lt_of_cell? W _ ((XB.out.cell (World.block_lt_of_cell? w _ kw)).trans kw))).trans ((XB.out.cell (World.block_lt_of_cell? w _ kw)).trans kw)
                  have hz := HOU.out _ (List.getElem_mem g2)
                  have HZ := Lib.hid (show f.2.getD (k + 1) 0 = f.2[k + 1] by rw [List.getD_eq_getElem?_getD, List.getElem?_eq_getElem g2]; rfl)
                  obtain ⟨z, hzz⟩ : ∃ z, f.2[k + 1]'g2 = z := ⟨_, rfl⟩
                  rw [hzz] at kw2 hz HZ
                  have HC := Lib.hid (fun (V : World) => leaves_any f (some ⟨g, o, none⟩) wc2 z hz V)
                  have r1 : decide ((0 : Int) < sz) = true := by simp [g1]
                  have r2 : decide ((k : Int) + 1 < (f.2.length : Int)) = true := by simp; omega
                  have r3 : (k : Int) + 1 < (f.2.length : Int) := by omega
                  have r4 : (0 : Int) ≤ (k : Int) + 1 := by omega
                  have r5 : ((k : Int) + 1).toNat = k + 1 := by omega
                  clear kw hzz
                  have p5 : IntKind.i64.wrap ((k : Int) + 1) = (k : Int) + 1 := IntWalk.i64_in _ Q1.out
                  have kw3 : wr.drew.cell? _ = _ := kw2
                  have y2d : wr.drew.cell? _ = _ := y2
                  have y3d : wr.drew.cell? _ = _ := y3
                  have HDR := Lib.hid (show Below wr.heap.size wr wr.drew from Below.drew (Below.refl _ wr))
                  refine wp_region_still_tail 21 (by kernel_rfl) (by kernel_rfl) ?_
                  simp only [List.take_succ_cons, List.take_zero, List.drop_succ_cons, List.drop_zero]
                  change wpStill _ _ wr.drew (fun a' => wpList _ _ _ _ a' wr.drew) _ _
                  generalize wr.drew = wd at *
                  repeat still_step
                  refine wpStill_nil ?_
                  go_wp2_with fail
                  refine (HC.out _).mono ?_
                  rintro e w6 ⟨rfl, hb6⟩
                  have HB6 := Lib.hid (HDR.out.trans (hb6.mono HDR.out.size))
                  clear hb6
                  go_wp2_with fail
                  go_meet
                  exact ⟨by rw [HSB.out, HZ.out], HB6⟩
                · have HSB := Lib.hid (show subB f k x = false by unfold subB; simp [g2])
                  have r1 : decide ((0 : Int) < sz) = true := by simp [g1]
                  have r2 : decide ((k : Int) + 1 < (f.2.length : Int)) = false := by simp; omega
                  have p5 : IntKind.i64.wrap ((k : Int) + 1) = (k : Int) + 1 := IntWalk.i64_in _ Q1.out
                  go_quiet (fail)
                  go_wp2_with fail
                  go_meet
                  exact ⟨by rw [HSB.out], Lib.hid ⟨rfl, rfl, rfl, Nat.le_refl _, fun _ _ => rfl⟩⟩
              · have HSB := Lib.hid (show subB f k x = false by unfold subB; rw [HSZ.out]; simp [g1])
                have r1 : decide ((0 : Int) < sz) = false := by simp; omega
                go_quiet (fail)
                go_wp2_with fail
                go_meet
                exact ⟨by rw [HSB.out], Lib.hid ⟨rfl, rfl, rfl, Nat.le_refl _, fun _ _ => rfl⟩⟩
            · have HSB := Lib.hid (show subB f k x = false by unfold subB; rw [HKD.out]; simp [g5])
              have r1 : (kd == 5) = false := by simp [g5]
              go_quiet (fail)
              go_wp2_with fail
              go_meet
              exact ⟨by rw [HSB.out], Lib.hid ⟨rfl, rfl, rfl, Nat.le_refl _, fun _ _ => rfl⟩⟩
          case rest =>
            obtain ⟨rfl, HBX⟩ := hcut
            cases hlv : subB f k x with
            | true =>
              have HFIN := Lib.hid (show oldP f = false by rw [HST.out, HH.out, hlv]; rfl)
              clear hlv
              go_wp2_with fail
              go_ret
              exact ⟨by rw [← HFE.out, HFIN.out]; rfl, XB.out.trans ((HB.out.trans (HBX.out.mono HB.out.size)).mono XB.out.size)⟩
            | false =>
              obtain ⟨s, rfl⟩ : ∃ s : Nat, sz = (s : Int) := ⟨sz.toNat, by have := HBD.out; omega⟩
              have HNX := Lib.hid (show oldP f = oldGo f n (k + s + 1) by rw [HST.out, HH.out, hlv]; rfl)
              clear hlv
              have Q := Lib.hid (show k + s + 1 ≤ f.2.length + 1048577 ∧ f.2.length ≤ (k + s + 1) + n ∧ f.2.length + 1048577 - (k + s + 1) < f.2.length + 1048577 - k by have := HN.out; have := HBD.out; omega)
              have Q5 := Lib.hid (show -9223372036854775808 ≤ (k : Int) + (s : Int) ∧ (k : Int) + (s : Int) ≤ 9223372036854775807 by have := Q.out; omega)
              have Q6 := Lib.hid (show -9223372036854775808 ≤ (k : Int) + (s : Int) + 1 ∧ (k : Int) + (s : Int) + 1 ≤ 9223372036854775807 by have := Q.out; omega)
              have p5 : IntKind.i64.wrap ((k : Int) + (s : Int)) = (k : Int) + (s : Int) := IntWalk.i64_in _ Q5.out
              have p6 : IntKind.i64.wrap ((k : Int) + (s : Int) + 1) = (k : Int) + (s : Int) + 1 := IntWalk.i64_in _ Q6.out
              go_wp2_with fail
              go_roundw
              case rel => exact ⟨k + s + 1, n, by go_num, Q.out.1, Lib.hid Q.out.2.1, HNX, Lib.hid (HB.out.trans (HBX.out.mono HB.out.size))⟩
              case measure => clear p5 p6; have := Q.out; simp [intOf]; omega
    · have p1 : ¬ (k : Int) < (f.2.length : Int) := by omega
      have HFIN := Lib.hid (show oldP f = true by rw [HR.out, oldGo_end _ _ _ hlt])
      go_wp2_with fail
      go_ret
      exact ⟨by rw [← HFE.out, HFIN.out]; rfl, XB.out.trans (HB.out.mono XB.out.size)⟩

end Go.Proofs.YtlmpmjhanpkcnaaGreat

namespace Go.Proofs.YtlmpmjhanpkcnaaGreat
open Go.RowKit Go.Maps

/-- What the closure has caught. -/
structure Caught (w : World) (p q r : Nat) (mv sv : Value) (asks : Bool) (S : List Slt) (m : List Frg) : Prop where
  hm : RsAt w mv m
  hS : SlAt w sv S
  b0 : w.heap[p]? = some (.cells #[mv] 55 (0, 0))
  b1 : w.heap[q]? = some (.cells #[sv] 29 (0, 0))
  b2 : w.heap[r]? = some (.cells #[.bool asks] 4 (0, 0))

theorem lt_of_block {w : World} {p : Nat} {o : Obj} (h : w.heap[p]? = some o) : p < w.heap.size := (Array.getElem?_eq_some_iff.1 h).1

theorem Caught.below {w w' : World} {p q r : Nat} {mv sv : Value} {asks : Bool} {S : List Slt} {m : List Frg} (h : Caught w p q r mv sv asks S m) (hb : Below w.heap.size w w') : Caught w' p q r mv sv asks S m :=
  ⟨h.hm.below hb, h.hS.below hb, (hb.block _ (lt_of_block h.b0)).trans h.b0, (hb.block _ (lt_of_block h.b1)).trans h.b1, (hb.block _ (lt_of_block h.b2)).trans h.b2⟩

set_option maxHeartbeats 4000000 in
set_option maxRecDepth 100000 in
theorem unread_any (p q r : Nat) (mv sv : Value) (asks : Bool) (S : List Slt) (m : List Frg) (x : Nat) (w : World) (h : Caught w p q r mv sv asks S m) (hx : x < 18446744073709551616) :
    Calls Tryz.prog 80 #[.int .u64 x, .pointer (some ⟨p, 0, none⟩), .pointer (some ⟨q, 0, none⟩), .pointer (some ⟨r, 0, none⟩)] w fun e w' => e = .returned (.bool (!(readP asks S m x).isSome)) ∧ Below w.heap.size w w' := by
  obtain ⟨b, hb⟩ : ∃ b, (readP asks S m x).isSome = b := ⟨_, rfl⟩
  have HB := Lib.hid hb
  rw [hb]
  have H := Lib.hid h
  have c0 := cell_of h.b0 0
  have c1 := cell_of h.b1 0
  have c2 := cell_of h.b2 0
  simp at c0 c1 c2
  clear h hb
  go_enter Tryz.func80, Tryz.ntmps80
  go_wp2_with fail
  have HC := memRead_any mv sv asks S m x w H.out.hm H.out.hS hx
  with_reducible refine HC.mono ?_
  clear HC
  rintro e w3 ⟨tv, t, rfl, ht, -, hb3⟩
  obtain ⟨tk, tn, tneg, tma, tml, tmc, tbits, tbytes, ta, tlen, tcap, rfl⟩ := ht.shape
  have H3 := Lib.hid hb3
  clear ht hb3
  rw [HB.out]
  go_wp2_with fail
  go_ret
  exact ⟨rfl, H3.out.alloc H3.out.size _⟩

def readsP (asks : Bool) (S : List Slt) (m : List Frg) (l : List Nat) : Bool := l.all fun x => (readP asks S m x).isSome

set_option maxHeartbeats 4000000 in
set_option maxRecDepth 100000 in
theorem index_roots (p q r : Nat) (mv sv : Value) (asks : Bool) (S : List Slt) (m : List Frg) (l : List Nat) (lv : Value) (w : World) (h : Ws w lv l) (hc : Caught w p q r mv sv asks S m) :
    Calls Tryz.prog 106 #[lv, .func (.func 80) #[] #[.pointer (some ⟨p, 0, none⟩), .pointer (some ⟨q, 0, none⟩), .pointer (some ⟨r, 0, none⟩)]] w fun e w' => IdxEnd (readsP asks S m l) e ∧ Below w.heap.size w w' := by
  obtain ⟨hl, hu, a, cap, rfl, _, _, hx⟩ := h
  have HX := Lib.hid hx
  have HU := Lib.hid hu
  have HCA := Lib.hid hc
  have HLL := Lib.hid hl
  clear hx hu hc hl
  go_enter Tryz.func106, Tryz.ntmps106
  go_wp2_with fail
  go_loopw [8] (fun i wr => ∃ (k : Nat), k ≤ l.length ∧ i = .int .i64 k ∧ Hid ((l.take k).all (fun x => (readP asks S m x).isSome) = true) ∧ Hid (Below w.heap.size w wr)) (fun i _ => l.length - (intOf i).toNat)
  case atStart => exact ⟨0, by omega, rfl, Lib.hid (by simp), Lib.hid (Below.refl _ _)⟩
  case round =>
    obtain ⟨j, hj, rfl, HR, HB⟩ := hrel
    by_cases hlt' : j < l.length
    · have q4 : (j : Int) < (l.length : Int) := by omega
      have q5 : (0 : Int) ≤ (j : Int) := by omega
      obtain ⟨g, o, rfl, k0⟩ := HX.out j hlt'
      have k0 := (HB.out.cell (World.block_lt_of_cell? w _ k0)).trans k0
      have hx := HU.out _ (List.getElem_mem hlt')
      have HRT := Lib.hid (fun hp : (readP asks S m l[j]).isSome = true => all_take (p := fun x => (readP asks S m x).isSome) hlt' HR.out hp)
      have HRN := Lib.hid (fun hf : (readP asks S m l[j]).isSome = false => all_false (p := fun x => (readP asks S m x).isSome) (List.getElem_mem hlt') hf)
      have Q5 := Lib.hid (show -9223372036854775808 ≤ (j : Int) + 1 ∧ (j : Int) + 1 ≤ 9223372036854775807 by have := HLL.out; unfold maxLen at this; omega)
      have QJ := Lib.hid (show j + 1 ≤ l.length ∧ l.length - (j + 1) < l.length - j by omega)
      obtain ⟨x, hxx⟩ : ∃ x, l[j]'hlt' = x := ⟨_, rfl⟩
      rw [hxx] at k0 hx HRT HRN
      clear hxx
      go_wp2_with fail
      have HC := unread_any p q r mv sv asks S m x wr (HCA.out.below HB.out) hx
      with_reducible refine HC.mono ?_
      clear HC
      rintro e w5 ⟨rfl, hb5⟩
      have HB5 := Lib.hid (HB.out.trans (hb5.mono HB.out.size))
      clear hb5
      cases hr : (readP asks S m x).isSome with
      | true =>
        have HRT := Lib.hid (HRT.out hr)
        clear HRN hr
        have p5 : IntKind.i64.wrap ((j : Int) + 1) = (j : Int) + 1 := IntWalk.i64_in _ Q5.out
        go_wp2_with fail
        go_roundw
        case rel => exact ⟨j + 1, QJ.out.1, by go_num, HRT, HB5⟩
        case measure => clear p5; have := QJ.out; simp [intOf]; omega
      | false =>
        have HRF := Lib.hid (HRN.out hr)
        clear HRN hr HRT
        go_wp2_with fail
        go_ret
        exact ⟨⟨j, rfl, .inr ⟨q5, HRF.out⟩⟩, HB5.out⟩
    · obtain rfl : j = l.length := by omega
      have q4 : ¬ ((l.length : Nat) : Int) < (l.length : Int) := by omega
      have HRE := Lib.hid (show readsP asks S m l = true by have h := HR.out; rwa [List.take_length] at h)
      go_wp2_with fail
      go_ret
      exact ⟨⟨-1, rfl, .inl ⟨rfl, HRE.out⟩⟩, HB.out⟩

set_option maxHeartbeats 4000000 in
set_option maxRecDepth 100000 in
theorem contains_roots (p q r : Nat) (mv sv : Value) (asks : Bool) (S : List Slt) (m : List Frg) (l : List Nat) (lv : Value) (w : World) (h : Ws w lv l) (hc : Caught w p q r mv sv asks S m) :
    Calls Tryz.prog 79 #[lv, .func (.func 80) #[] #[.pointer (some ⟨p, 0, none⟩), .pointer (some ⟨q, 0, none⟩), .pointer (some ⟨r, 0, none⟩)]] w fun e w' => e = .returned (.bool (!readsP asks S m l)) ∧ Below w.heap.size w w' := by
  go_enter Tryz.func79, Tryz.ntmps79
  go_wp2_with fail
  refine (index_roots p q r mv sv asks S m l lv w h hc).mono ?_
  rintro e w1 ⟨⟨i, rfl, hi⟩, hb⟩
  have HB := Lib.hid hb
  clear hb
  rcases hi with ⟨rfl, hr⟩ | ⟨hi, hr⟩
  · have HR := Lib.hid hr
    clear hr
    go_wp2_with fail
    go_ret
    exact ⟨by rw [HR.out]; rfl, HB.out⟩
  · have HR := Lib.hid hr
    clear hr
    go_wp2_with fail
    go_ret
    exact ⟨by rw [HR.out]; simp [hi], HB.out⟩

def rootsP (asks : Bool) (S : List Slt) (d : Dmp) : Bool := readsP asks S d.mem d.roots

set_option maxHeartbeats 4000000 in
set_option maxRecDepth 100000 in
theorem roots_any (asks : Bool) (S : List Slt) (d : Dmp) (v sv : Value) (w : World) (hd : DmAt w v d) (hS : SlAt w sv S) (hf : d.frags.length ≤ 100000) :
    Calls Tryz.prog 57 #[v, sv, .bool asks] w fun e w' => e = .returned (.bool (rootsP asks S d)) ∧ Below w.heap.size w w' := by
  have HD := Lib.hid hd
  have HSL := Lib.hid hS
  obtain ⟨a, b, a', b', f, r, h, rfl, ⟨-, rfl, wa1, wc1, rfl, -⟩, ⟨-, rfl, wa2, wc2, rfl, -⟩, -, -, ⟨-, fa, fc, rfl, -⟩, hro, ⟨-, -, ha, hc, rfl, -⟩⟩ := hd
  have HRO := Lib.hid hro
  obtain ⟨-, -, ra, rc, rfl, -⟩ := hro
  obtain ⟨-, sa, sc, rfl, -⟩ := hS
  go_enter Tryz.func57, Tryz.ntmps57
  go_upto_region 1 with fail
  have T := two_at w (.cells #[.int .i64 d.young.1, .slice wa1 d.young.2.length wc1, .int .i64 d.old.1, .slice wa2 d.old.2.length wc2, .int .i64 d.size, .int .i64 d.mark, .slice fa d.frags.length fc, .slice ra d.roots.length rc, .slice ha d.handles.length hc] 28) (.cells #[.slice sa S.length sc] 29)
  generalize (w.alloc (.cells #[.int .i64 d.young.1, .slice wa1 d.young.2.length wc1, .int .i64 d.old.1, .slice wa2 d.old.2.length wc2, .int .i64 d.size, .int .i64 d.mark, .slice fa d.frags.length fc, .slice ra d.roots.length rc, .slice ha d.handles.length hc] 28)).alloc (.cells #[.slice sa S.length sc] 29) = U at *
  have T2 := one_at U (.cells #[.bool asks] 4)
  generalize U.alloc (.cells #[.bool asks] 4) = W at *
  have E2 := T.2.2.1
  have X0 := Lib.hid ((T2.2.2.block w.heap.size (by omega)).trans T.1)
  have X1 := Lib.hid ((T2.2.2.block (w.heap.size + 1) (by omega)).trans T.2.1)
  have X2 := Lib.hid (show W.heap[w.heap.size + 1 + 1]? = some (.cells #[.bool asks] 4 (0, 0)) by rw [show w.heap.size + 1 + 1 = U.heap.size by omega]; exact T2.1)
  have XB := Lib.hid (T.2.2.2.trans (T2.2.2.mono T.2.2.2.size))
  clear T T2 E2
  have x0 := cell_of X0.out 0
  have x1 := cell_of X0.out 1
  have x2 := cell_of X0.out 2
  have x3 := cell_of X0.out 3
  have x4 := cell_of X0.out 4
  have x5 := cell_of X0.out 5
  have x6 := cell_of X0.out 6
  have x7 := cell_of X0.out 7
  have x8 := cell_of X0.out 8
  simp at x0 x1 x2 x3 x4 x5 x6 x7 x8
  go_wp2_with fail
  refine (of_any d _ W (HD.out.below XB.out) hf).mono ?_
  rintro e w2 ⟨mv, rfl, hm, hb2⟩
  have HM := Lib.hid hm
  obtain ⟨-, ma, mc, rfl, -⟩ := hm
  have HB2 := Lib.hid hb2
  clear hb2
  go_upto_region 2 with fail
  have T := one_at w2 (.cells #[.slice ma d.mem.length mc] 55)
  generalize hgV : w2.alloc (.cells #[.slice ma d.mem.length mc] 55) = V at *
  have V0 := Lib.hid T.1
  have VB := Lib.hid (HB2.out.trans (T.2.2.mono HB2.out.size))
  have VR := Lib.hid T.2.2
  clear T hgV
  have Z0 := Lib.hid ((VB.out.block _ (lt_of_block X0.out)).trans X0.out)
  have Z1 := Lib.hid ((VB.out.block _ (lt_of_block X1.out)).trans X1.out)
  have Z2 := Lib.hid ((VB.out.block _ (lt_of_block X2.out)).trans X2.out)
  have HWV := Lib.hid (XB.out.trans (VB.out.mono XB.out.size))
  have z7 := cell_of Z0.out 7
  simp at z7
  clear x0 x1 x2 x3 x4 x5 x6 x7 x8
  go_wp2_with fail
  have HC := contains_roots w2.heap.size (w.heap.size + 1) (w.heap.size + 1 + 1) _ _ asks S d.mem d.roots _ V (HRO.out.below HWV.out) ⟨HM.out.below VR.out, HSL.out.below HWV.out, V0.out, Z1.out, Z2.out⟩
  with_reducible refine HC.mono ?_
  clear HC
  rintro e w5 ⟨rfl, hb5⟩
  have HB5 := Lib.hid (HWV.out.trans (hb5.mono HWV.out.size))
  clear hb5
  go_wp2_with fail
  go_ret
  exact ⟨by simp [rootsP], HB5.out⟩

end Go.Proofs.YtlmpmjhanpkcnaaGreat

namespace Go.Proofs.YtlmpmjhanpkcnaaGreat
open Go.RowKit Go.Maps

end Go.Proofs.YtlmpmjhanpkcnaaGreat

namespace Go.Proofs.YtlmpmjhanpkcnaaGreat
open Go.RowKit Go.Maps

/-- How great a dump may be here. -/
structure DmOk (d : Dmp) : Prop where
  frags : d.frags.length ≤ 100000
  words : wordsN d.mem ≤ 5000
  roots : d.roots.length ≤ 1000
  handles : d.handles.length ≤ 1000

end Go.Proofs.YtlmpmjhanpkcnaaGreat

namespace Go.Proofs.YtlmpmjhanpkcnaaGreat
open Go.RowKit

def Tm.k : Tm → Int | .mk k _ _ _ _ _ _ => k

/-- A dump with other roots. -/
def Dmp.roots' (d : Dmp) (r : List Nat) : Dmp := { d with roots := r }

theorem reach_nil {m : List Frg} {s : Spt} (h : Reach m [] s) : False := by
  induction h with
  | root hx _ _ => cases hx
  | step _ _ _ _ _ ih => exact ih

theorem reachL_nil {m : List Frg} {l : List Spt} (h : ReachL m [] l) : l = [] := by
  cases l with
  | nil => rfl
  | cons s r => exact (reach_nil ((h.2 s).1 (by simp))).elim

theorem Reach.tag {m : List Frg} {r : List Nat} {s : Spt} (h : Reach m r s) : s.2 = 4 ∨ s.2 = 5 := by
  cases h with
  | root _ ht _ => exact toP_tag ht
  | step _ _ _ ht _ => exact toP_tag ht

/-- How small a dump is that is no great one. -/
structure DmSmall (d : Dmp) : Prop where
  frags : d.frags.length ≤ 6
  words : ∀ f ∈ d.frags, f.2.length ≤ 60
  young : d.young.2.length ≤ 60
  old : d.old.2.length ≤ 60
  roots : d.roots.length ≤ 100
  handles : d.handles.length ≤ 60

theorem wordsN_le {k : Nat} : ∀ {m : List Frg}, (∀ f ∈ m, f.2.length ≤ k) → wordsN m ≤ k * m.length
  | [], _ => by simp [wordsN]
  | f :: r, h => by
    have ih := wordsN_le (m := r) (fun g hg => h g (by simp [hg]))
    have h1 := h f (by simp)
    simp only [wordsN, List.map_cons, List.sum_cons, List.length_cons] at ih ⊢
    rw [Nat.mul_add]; omega

theorem DmSmall.words' {d : Dmp} (h : DmSmall d) : wordsN d.mem ≤ 480 := by
  have h1 := wordsN_le h.words
  have h2 := h.frags
  have h3 := h.young
  have h4 := h.old
  have : wordsN d.mem = d.young.2.length + (d.old.2.length + wordsN d.frags) := by simp [Dmp.mem, wordsN]
  rw [this]
  have : 60 * d.frags.length ≤ 360 := by omega
  omega

theorem DmSmall.ok {d : Dmp} (h : DmSmall d) : DmOk d := ⟨by have := h.frags; omega, by have := h.words'; omega, by have := h.roots; omega, by have := h.handles; omega⟩

theorem DmSmall.ok' {d : Dmp} (h : DmSmall d) {r : List Nat} (hr : r.length ≤ 1000) : DmOk (d.roots' r) := ⟨h.ok.frags, h.ok.words, hr, h.ok.handles⟩

end Go.Proofs.YtlmpmjhanpkcnaaGreat

namespace Go.Proofs.YtlmpmjhanpkcnaaGreat
open Go.RowKit

def lowP (x n : Int) : Int := x % 18446744073709551616 % n

theorem lowP_le (x : Int) {n : Int} (hn : 1 ≤ n) : 0 ≤ lowP x n ∧ lowP x n < n := ⟨Int.emod_nonneg _ (by omega), Int.emod_lt_of_pos _ (by omega)⟩

set_option maxHeartbeats 4000000 in
theorem low_any (x n : Int) (hx : In64 x) (hn : 1 ≤ n ∧ n ≤ 1000000000) (w : World) : Calls Tryz.prog 10 #[.int .i64 x, .int .i64 n] w fun e w' => e = .returned (.int .i64 (lowP x n)) ∧ w' = w := by
  unfold In64 at hx
  have h1 : IntKind.u64.wrap x = x % 18446744073709551616 := IntKind.wrap_u64 x
  have h2 : IntKind.u64.wrap n = n := by rw [IntKind.wrap_u64]; omega
  have h3 : 0 ≤ lowP x n ∧ lowP x n < n := lowP_le x hn.1
  have h4 : IntKind.i64.wrap (lowP x n) = lowP x n := IntWalk.i64_in _ (by omega)
  have h5 : IntKind.u64.wrap (lowP x n) = lowP x n := by rw [IntKind.wrap_u64]; omega
  have h6 : (x % 18446744073709551616).tmod n = lowP x n := by
    unfold lowP; rw [Int.tmod_eq_emod_of_nonneg (by omega)]
  have h7 : ¬ n = 0 := by omega
  go_enter Tryz.func10, Tryz.ntmps10
  go_wp2_with fail
  go_ret
  exact ⟨rfl, rfl⟩

end Go.Proofs.YtlmpmjhanpkcnaaGreat
