/-
  Are a dump's handles right: look.handles.
-/
import Derived.Test.YtohgkfnbjfhniaaXv
namespace Go.Proofs.Ytohgkfnbjfhniaa
open Go.RowKit Go.Maps

/-- Is there a handle at an address, of a slot that is right? -/
def okHnd (m : List Frg) (S : List Slt) (a : Int) : Bool := match objP m a 4 with
  | some o => decide (o.1 = 4) && (sharedP true S o.2).isSome
  | none => false

def hndGo (m : List Frg) (S : List Slt) (met : List Int) : List Int → Bool
  | [] => true
  | a :: r => okHnd m S a && !decide (a ∈ met) && hndGo m S (met ++ [a]) r

theorem hndGo_step {m : List Frg} {S : List Slt} {l : List Int} {j : Nat} (h : j < l.length) : hndGo m S (l.take j) (l.drop j) = (okHnd m S l[j] && !decide (l[j] ∈ l.take j) && hndGo m S (l.take (j + 1)) (l.drop (j + 1))) := by
  rw [List.drop_eq_getElem_cons h, hndGo, List.take_succ_eq_append_getElem h]

def HandlesRight (d : Dmp) (S : List Slt) : Prop := hndGo d.mem S [] d.handles = true ∧ ∀ s, Reach d.mem d.roots s → isH d.mem s = true → s.1 ∈ d.handles

def HndEnd (w w' : World) (d : Dmp) (S : List Slt) (e : Ending) : Prop := ∃ b : Bool, e = .returned (.bool b) ∧ (b = true ↔ HandlesRight d S) ∧ Below w.heap.size w w'

theorem not_right {d : Dmp} {S : List Slt} (h : hndGo d.mem S [] d.handles = false) : (false = true ↔ HandlesRight d S) := ⟨(fun q => by cases q), (fun q => by rw [q.1] at h; cases h)⟩

set_option maxHeartbeats 8000000 in
set_option maxRecDepth 100000 in
theorem lookHandles_any (d : Dmp) (S : List Slt) (v sv : Value) (w : World) (hd : DmAt w v d) (hS : SlAt w sv S) (hf : d.frags.length ≤ 100000) (hN : wordsN d.mem ≤ 5000) (hrl : d.roots.length ≤ 1000) (hhl : d.handles.length ≤ 1000) :
    Calls Try.prog 22 #[v, sv] w fun e w' => HndEnd w w' d S e := by
  have hmm := @run_makeMap Try.prog
  have HD := Lib.hid hd
  have HSL := Lib.hid hS
  obtain ⟨a, b, a', b', f, r, h, rfl, ⟨-, rfl, wa1, wc1, rfl, -⟩, ⟨-, rfl, wa2, wc2, rfl, -⟩, -, -, ⟨-, fa, fc, rfl, -⟩, ⟨-, -, ra, rc, rfl, -⟩, hha⟩ := hd
  obtain ⟨-, hhu, ha, hc, rfl, -, -, hhx⟩ := hha
  obtain ⟨-, sa, sc, rfl, -⟩ := hS
  have HHU := Lib.hid hhu
  have HHX := Lib.hid hhx
  clear hhu hhx
  have T := one_at w (.cells #[.int .i64 d.young.1, .slice wa1 d.young.2.length wc1, .int .i64 d.old.1, .slice wa2 d.old.2.length wc2, .int .i64 d.size, .int .i64 d.mark, .slice fa d.frags.length fc, .slice ra d.roots.length rc, .slice ha d.handles.length hc] 28)
  go_enter Try.func22, Try.ntmps22
  go_wp2_with fail
  generalize w.alloc (.cells #[.int .i64 d.young.1, .slice wa1 d.young.2.length wc1, .int .i64 d.old.1, .slice wa2 d.old.2.length wc2, .int .i64 d.size, .int .i64 d.mark, .slice fa d.frags.length fc, .slice ra d.roots.length rc, .slice ha d.handles.length hc] 28) = W at *
  have X0 := Lib.hid T.1
  have XS := Lib.hid T.2.1
  have XB := Lib.hid T.2.2
  clear T
  refine (of_any d _ W (HD.out.below XB.out) hf).mono ?_
  rintro e w2 ⟨mv, rfl, hm, hb2⟩
  have Y0 := Lib.hid ((hb2.block w.heap.size (by have := XS.out; omega)).trans X0.out)
  have YB := Lib.hid (XB.out.trans (hb2.mono XB.out.size))
  have HM := Lib.hid hm
  obtain ⟨-, ma, mc, rfl, -⟩ := hm
  clear hb2
  go_upto_region 3 with fail
  have T := two_at w2 (.map #[] 0) (.cells #[.map (some w2.heap.size)] 81)
  have HS0 : SetAt intFam ((w2.alloc (.map #[] 0)).alloc (.cells #[.map (some w2.heap.size)] 81)) w2.heap.size [] := (SetAt.made intFam w2).block (Below.heap_alloc _ _ _ (by simp))
  generalize (w2.alloc (.map #[] 0)).alloc (.cells #[.map (some w2.heap.size)] 81) = U at *
  have U1 := Lib.hid T.2.1
  have US := Lib.hid T.2.2.1
  have UB := Lib.hid T.2.2.2
  have HSU := Lib.hid HS0
  clear T HS0
  have Y1 := Lib.hid ((UB.out.block w.heap.size (lt_of_block Y0.out)).trans Y0.out)
  have y8 := cell_of Y1.out 8
  simp at y8
  go_wp2_with fail
  clear y8
  go_loopw [18] (fun i wr => ∃ (k : Nat), k ≤ d.handles.length ∧ i = .int .i64 k ∧ Hid (SetAt intFam wr w2.heap.size (d.handles.take k)) ∧ Hid (wr.heap[w2.heap.size + 1]? = some (.cells #[.map (some w2.heap.size)] 81 (0, 0))) ∧ Hid (hndGo d.mem S [] d.handles = hndGo d.mem S (d.handles.take k) (d.handles.drop k)) ∧ Hid (Below w2.heap.size w2 wr)) (fun i _ => d.handles.length - (intOf i).toNat)
  case atStart => exact ⟨0, by omega, rfl, HSU, U1, Lib.hid (by simp), UB⟩
  case round =>
    obtain ⟨k, hk, rfl, HST, HP, HG, HB⟩ := hrel
    by_cases hlt : k < d.handles.length
    · have p1 : (k : Int) < (d.handles.length : Int) := by omega
      have p2 : (0 : Int) ≤ (k : Int) := by omega
      obtain ⟨gr, og, rfl, k0⟩ := HHX.out k hlt
      have hww := HB.out.cell (World.block_lt_of_cell? w2 _ ((YB.out.cell (World.block_lt_of_cell? w _ k0)).trans k0))
      have k0 := hww.trans ((YB.out.cell (World.block_lt_of_cell? w _ k0)).trans k0)
      have HSTEP := Lib.hid (hndGo_step (m := d.mem) (S := S) hlt)
      have HAI := Lib.hid (HHU.out _ (List.getElem_mem hlt))
      have HTK := Lib.hid (List.take_succ_eq_append_getElem hlt)
      obtain ⟨a, hat⟩ : ∃ s : Int, d.handles[k]'hlt = s := ⟨_, rfl⟩
      rw [hat] at k0 HSTEP HAI HTK
      clear hat hww
      have Q5 := Lib.hid (show -9223372036854775808 ≤ (k : Int) + 1 ∧ (k : Int) + 1 ≤ 9223372036854775807 by omega)
      have QK := Lib.hid (show k + 1 ≤ d.handles.length ∧ d.handles.length - (k + 1) < d.handles.length - k by omega)
      have HTL := Lib.hid (show (d.handles.take k).length ≤ 1000000 by rw [List.length_take]; omega)
      go_wp2_with fail
      have HC := object_at d.mem _ a 4 w2 wr HM.out HB.out HAI.out
      with_reducible refine HC.mono ?_
      clear HC
      rintro e w6 ⟨⟨k', v', l', ok, rfl, hws, hok, hs'⟩, hb6⟩
      have HOK := Lib.hid hok
      have HSS := Lib.hid hs'
      have HWS := Lib.hid hws
      have HB6 := Lib.hid hb6
      obtain ⟨-, -, va, vcc, rfl, -⟩ := id hws
      clear hok hs' hws hb6 k0
      go_upto_region 7 with fail
      have T := one_at w6 (.cells #[.int .i64 k', .slice va l'.length vcc] 70)
      generalize w6.alloc (.cells #[.int .i64 k', .slice va l'.length vcc] 70) = V at *
      have V0 := Lib.hid T.1
      have VB := Lib.hid (HB6.out.trans (T.2.2.mono HB6.out.size))
      clear T
      have HBV := Lib.hid (HB.out.trans (VB.out.mono HB.out.size))
      have HSTV := Lib.hid (HST.out.block (VB.out.block _ HST.out.lt))
      have HPV := Lib.hid ((VB.out.block _ (lt_of_block HP.out)).trans HP.out)
      have c0 := cell_of V0.out 0
      have c1 := cell_of V0.out 1
      have m0 := cell_of HPV.out 0
      simp at c0 c1 m0
      cases ok with
      | false =>
        have HF := Lib.hid (show hndGo d.mem S [] d.handles = false by
          rw [HG.out, HSTEP.out]
          have e0 : objP d.mem a 4 = none := by
            cases hq : objP d.mem a 4 with
            | none => rfl
            | some o => have h := HOK.out; rw [hq] at h; cases h
          have e : okHnd d.mem S a = false := by unfold okHnd; rw [e0]
          rw [e]; rfl)
        go_wp2_with fail
        go_ret
        exact ⟨false, rfl, not_right HF.out, YB.out.trans (HBV.out.mono YB.out.size)⟩
      | true =>
        obtain ⟨ob, hob⟩ := Option.isSome_iff_exists.1 HOK.out.symm
        have hob2 := HSS.out _ hob
        subst hob2
        have HOB := Lib.hid hob
        have HOKE := Lib.hid (show okHnd d.mem S a = (decide (k' = 4) && (sharedP true S l').isSome) by unfold okHnd; rw [HOB.out])
        clear hob
        by_cases h4 : k' = 4
        · have HFL := Lib.hid (show rightFlat 4 l' = true by
            have h := objP_ok HOB.out
            rw [h4] at h
            rcases h with (⟨q, _⟩ | ⟨q, _⟩) | ⟨q, _⟩ | ⟨q, _⟩ | ⟨q, _⟩ | ⟨_, q⟩ | ⟨q, _⟩
            all_goals first | exact q | (exact absurd q (by decide)))
          have HOKE := Lib.hid (show okHnd d.mem S a = (sharedP true S l').isSome by rw [HOKE.out]; simp [h4])
          subst h4
          by_cases hin : a ∈ d.handles.take k
          · have HF := Lib.hid (show hndGo d.mem S [] d.handles = false by rw [HG.out, HSTEP.out]; simp [hin])
            have HIN := Lib.hid (show a ∈ d.handles.take k ↔ true = true from ⟨fun _ => rfl, fun _ => hin⟩)
            clear hin
            go_wp2_with (at_lookup; refine wpList_look_set rfl (.tmp 37) (.tmp 38) 81 rfl K3 Try.underlying81 rfl HSTV.out a HAI.out rfl true HIN.out ?_)
            go_ret
            exact ⟨false, rfl, not_right HF.out, YB.out.trans (HBV.out.mono YB.out.size)⟩
          · have HIN := Lib.hid (show a ∈ d.handles.take k ↔ false = true from ⟨fun q => absurd q hin, fun q => by cases q⟩)
            have HNI := Lib.hid hin
            have HGE := Lib.hid (show hndGo d.mem S [] d.handles = ((sharedP true S l').isSome && hndGo d.mem S (d.handles.take (k + 1)) (d.handles.drop (k + 1))) by rw [HG.out, HSTEP.out, HOKE.out]; simp [hin])
            clear hin
            have HLK := Lib.hid (flat4_parts HFL.out)
            obtain ⟨g, o, c, he, -, -, -⟩ := HWS.out.open (by have := HLK.out; omega)
            simp only [Value.slice.injEq, true_and] at he
            obtain ⟨rfl, rfl⟩ := he
            have up := fun {p : Addr} {v : Value} (q : w2.cell? p = some v) => (HBV.out.cell (World.block_lt_of_cell? w2 _ q)).trans q
            have k1 := up (HWS.out.at (j := 1) (by have := HLK.out; omega))
            have k2 := up (HWS.out.at (j := 2) (by have := HLK.out; omega))
            have k3 := up (HWS.out.at (j := 3) (by have := HLK.out; omega))
            clear up
            obtain ⟨x, hx⟩ : ∃ x, l'.getD 1 0 = x := ⟨_, rfl⟩
            obtain ⟨y, hy⟩ : ∃ y, l'.getD 2 0 = y := ⟨_, rfl⟩
            obtain ⟨z, hz⟩ : ∃ z, l'.getD 3 0 = z := ⟨_, rfl⟩
            have HPP := Lib.hid (show sharedP true S l' = match S[x]? with | none => none | some s => if s.count ≠ 0 ∧ s.stamp = (y : Nat) ∧ s.bytes.size = z then some s.bytes else none by unfold sharedP; rw [if_neg (by decide), hx, hy, hz]; rfl)
            rw [hx] at k1 HLK
            rw [hy] at k2 HLK
            rw [hz] at k3 HLK
            have q0 : (1 : Int) < (l'.length : Int) := by have := HLK.out; omega
            have q1 : (2 : Int) < (l'.length : Int) := by have := HLK.out; omega
            have q2 : (3 : Int) < (l'.length : Int) := by have := HLK.out; omega
            clear hx hy hz
            obtain ⟨hSl, sa', sc', he, hsc⟩ := HSL.out
            simp only [Value.slice.injEq, true_and] at he
            obtain ⟨rfl, rfl⟩ := he
            have HSC := Lib.hid hsc
            have HWV := Lib.hid (YB.out.trans (HBV.out.mono YB.out.size))
            have Q3 := Lib.hid (show IntKind.u64.wrap (S.length : Int) = (S.length : Int) by rw [IntKind.wrap_u64]; omega)
            have Q7 := Lib.hid (show -9223372036854775808 ≤ (y : Int) ∧ (y : Int) ≤ 9223372036854775807 by have := HLK.out; omega)
            have Q8 := Lib.hid (show -9223372036854775808 ≤ (z : Int) ∧ (z : Int) ≤ 9223372036854775807 by have := HLK.out; omega)
            clear hsc
            by_cases hlx : x < S.length
            · have q4 : ¬ S.length ≤ x := by omega
              have q5 : decide (S.length ≤ x) = false := decide_eq_false q4
              have q6 : (x : Int) < (S.length : Int) := by omega
              have q6n : (0 : Int) ≤ (x : Int) := by omega
              obtain ⟨gs, os, rfl, hst, hbs, s0, s1, s2⟩ := HSC.out x hlx
              have HG2 := Lib.hid (show S[x]? = some S[x] from List.getElem?_eq_getElem hlx)
              obtain ⟨⟨st, ct, by_⟩, hse⟩ : ∃ s, S[x]'hlx = s := ⟨_, rfl⟩
              rw [hse] at hst hbs s0 s1 s2 HG2
              simp only at hst hbs s0 s1 s2
              have HP2 := Lib.hid (show sharedP true S l' = if ct ≠ 0 ∧ st = (y : Int) ∧ by_.size = z then some by_ else none by rw [HPP.out, HG2.out])
              have up := fun {p : Addr} {v : Value} (q : w.cell? p = some v) => (HWV.out.cell (World.block_lt_of_cell? w _ q)).trans q
              have s0 := up s0
              have s1 := up s1
              have s2 := up s2
              clear hse up
              have q3 := Q3.out
              go_upto_region 10 with (at_lookup; refine wpList_look_set rfl (.tmp 37) (.tmp 38) 81 rfl K3 Try.underlying81 rfl HSTV.out a HAI.out rfl false HIN.out ?_)
              have T := one_at V (.cells #[.int .i64 st, .int .i64 ct, .string by_] 57)
              generalize V.alloc (.cells #[.int .i64 st, .int .i64 ct, .string by_] 57) = Z at *
              have Z0 := Lib.hid T.1
              have ZR := Lib.hid T.2.2
              have ZB := Lib.hid (HBV.out.trans (T.2.2.mono HBV.out.size))
              clear T
              have HSTZ := Lib.hid (HSTV.out.block (ZR.out.block _ HSTV.out.lt))
              have HPZ := Lib.hid ((ZR.out.block _ (lt_of_block HPV.out)).trans HPV.out)
              have up := fun {p : Addr} {v : Value} (q : V.cell? p = some v) => (ZR.out.cell (World.block_lt_of_cell? V _ q)).trans q
              have c0 := up c0
              have c1 := up c1
              have k2 := up k2
              have k3 := up k3
              have b0 := cell_of Z0.out 0
              have b1 := cell_of Z0.out 1
              have b2 := cell_of Z0.out 2
              simp at b0 b1 b2
              clear up s0 s1 s2 k1 m0
              by_cases hc0 : ct = 0
              · have q9 : (ct == 0) = true := by simp [hc0]
                have HF := Lib.hid (show hndGo d.mem S [] d.handles = false by rw [HGE.out, HP2.out, if_neg (fun q => q.1 hc0)]; rfl)
                clear hc0
                go_quiet (fail)
                go_wp2_with fail
                go_ret
                exact ⟨false, rfl, not_right HF.out, YB.out.trans ((ZB.out.trans ((drewN_below _).mono ZB.out.size)).mono YB.out.size)⟩
              · have q9 : (ct == 0) = false := by simp [hc0]
                have q7 := IntWalk.i64_in _ Q7.out
                have q8 := IntWalk.i64_in _ Q8.out
                by_cases hs0 : st = (y : Int)
                · have q10 : (st != (y : Int)) = false := by simp [hs0]
                  by_cases hz0 : by_.size = z
                  · have q11 : ((by_.size : Int) != (z : Int)) = false := by simp [hz0]
                    have HGN := Lib.hid (show hndGo d.mem S [] d.handles = hndGo d.mem S (d.handles.take (k + 1)) (d.handles.drop (k + 1)) by rw [HGE.out, HP2.out, if_pos ⟨hc0, hs0, hz0⟩]; rfl)
                    clear hs0 hc0 hz0
                    go_quiet (fail)
                    have m1 := cell_of HPZ.out 0
                    simp at m1
                    go_wp2_with (at_mapUpdate; refine wpList_put_set rfl (.tmp 82) (.tmp 83) (.const (.bool true)) 81 rfl K3 Try.underlying81 rfl (HSTZ.out.block rfl) HTL.out a HAI.out rfl rfl ?_; intro w9 hset hgr
                                 have HS9 := Lib.hid (show SetAt intFam w9 w2.heap.size (d.handles.take (k + 1)) by rw [HTK.out]; exact hset)
                                 have HP9 := Lib.hid ((hgr.block (w2.heap.size + 1) (lt_of_block HPZ.out) (by simp)).trans HPZ.out)
                                 have HB9 := Lib.hid ((ZB.out.trans ((drewN_below _).mono ZB.out.size)).grown hgr ZB.out.size (fun k e => by cases e; exact Nat.le_refl _))
                                 clear hset hgr)
                    have p5 : IntKind.i64.wrap ((k : Int) + 1) = (k : Int) + 1 := IntWalk.i64_in _ Q5.out
                    go_wp2_with fail
                    go_roundw
                    case rel => exact ⟨k + 1, QK.out.1, by go_num, HS9, HP9, HGN, HB9⟩
                    case measure => clear p5; have := QK.out.2; simp [intOf]; omega
                  · have q11 : ((by_.size : Int) != (z : Int)) = true := by simp; omega
                    have HF := Lib.hid (show hndGo d.mem S [] d.handles = false by rw [HGE.out, HP2.out, if_neg (fun q => hz0 q.2.2)]; rfl)
                    clear hs0 hc0 hz0
                    go_quiet (fail)
                    go_wp2_with fail
                    go_ret
                    exact ⟨false, rfl, not_right HF.out, YB.out.trans ((ZB.out.trans ((drewN_below _).mono ZB.out.size)).mono YB.out.size)⟩
                · have q10 : (st != (y : Int)) = true := by simpa using hs0
                  have HF := Lib.hid (show hndGo d.mem S [] d.handles = false by rw [HGE.out, HP2.out, if_neg (fun q => hs0 q.2.1)]; rfl)
                  clear hs0 hc0
                  go_quiet (fail)
                  go_wp2_with fail
                  go_ret
                  exact ⟨false, rfl, not_right HF.out, YB.out.trans ((ZB.out.trans ((drewN_below _).mono ZB.out.size)).mono YB.out.size)⟩
            · have q4 : S.length ≤ x := by omega
              have q5 : decide (S.length ≤ x) = true := decide_eq_true q4
              have HF := Lib.hid (show hndGo d.mem S [] d.handles = false by rw [HGE.out, HPP.out, List.getElem?_eq_none q4]; rfl)
              have q3 := Q3.out
              go_wp2_with (at_lookup; refine wpList_look_set rfl (.tmp 37) (.tmp 38) 81 rfl K3 Try.underlying81 rfl HSTV.out a HAI.out rfl false HIN.out ?_)
              go_ret
              exact ⟨false, by first | rfl | simp [q4], not_right HF.out, YB.out.trans (HBV.out.mono YB.out.size)⟩
        · have HF := Lib.hid (show hndGo d.mem S [] d.handles = false by rw [HG.out, HSTEP.out, HOKE.out]; simp [h4])
          go_wp2_with fail
          go_ret
          exact ⟨false, rfl, not_right HF.out, YB.out.trans (HBV.out.mono YB.out.size)⟩
    · obtain rfl : k = d.handles.length := by omega
      have p1 : ¬ (d.handles.length : Int) < (d.handles.length : Int) := by omega
      rw [List.take_length] at HST HG
      have HGT := Lib.hid (show hndGo d.mem S [] d.handles = true by rw [HG.out]; simp [hndGo])
      have WB := Lib.hid (YB.out.trans (HB.out.mono YB.out.size))
      have Y2 := Lib.hid ((HB.out.block w.heap.size (lt_of_block Y0.out)).trans Y0.out)
      have x0 := cell_of Y2.out 0
      have x1 := cell_of Y2.out 1
      have x2 := cell_of Y2.out 2
      have x3 := cell_of Y2.out 3
      have x4 := cell_of Y2.out 4
      have x5 := cell_of Y2.out 5
      have x6 := cell_of Y2.out 6
      have x7 := cell_of Y2.out 7
      have x8 := cell_of Y2.out 8
      simp at x0 x1 x2 x3 x4 x5 x6 x7 x8
      go_wp2_with fail
      have HC := handles_any d _ wr (HD.out.below WB.out) hf hN hrl
      with_reducible refine HC.mono ?_
      clear HC
      rintro e w8 ⟨v, l, rfl, hre, his, hil, hb8⟩
      have HRE := Lib.hid hre
      have HIS := Lib.hid his
      have HB8 := Lib.hid hb8
      have HP8 := Lib.hid ((hb8.block _ (lt_of_block HP.out)).trans HP.out)
      have HS8 := Lib.hid (HST.out.block (hb8.block _ HST.out.lt))
      obtain ⟨-, -, ia, ic, rfl, -⟩ := his
      clear hre hil hb8 x0 x1 x2 x3 x4 x5 x6 x7 x8
      go_wp2_with fail
      have HC := contains_met (w2.heap.size + 1) w2.heap.size d.handles _ _ w8 HIS.out HP8.out HS8.out
      with_reducible refine HC.mono ?_
      clear HC
      rintro e w9 ⟨rfl, rfl⟩
      obtain ⟨q, hq⟩ : ∃ q, ((sortI (hsP d.mem l)).all fun x => decide (x ∈ d.handles)) = q := ⟨_, rfl⟩
      have HQ := Lib.hid hq
      rw [hq]
      clear hq
      go_wp2_with fail
      go_ret
      refine ⟨q, by simp, ?_, WB.out.trans (HB8.out.mono WB.out.size)⟩
      rw [← HQ.out, List.all_eq_true]
      constructor
      · intro hall
        refine ⟨HGT.out, fun s hs hh => ?_⟩
        have hm : s.1 ∈ sortI (hsP d.mem l) := (List.mergeSort_perm _ _).mem_iff.2 (List.mem_map.2 ⟨s, List.mem_filter.2 ⟨(HRE.out.2 s).2 hs, hh⟩, rfl⟩)
        simpa using hall _ hm
      · intro hr x hx
        obtain ⟨s, hs, hh, rfl⟩ := hsP_mem ((List.mergeSort_perm _ _).mem_iff.1 hx)
        simpa using hr.2 s ((HRE.out.2 s).1 hs) hh

end Go.Proofs.Ytohgkfnbjfhniaa
