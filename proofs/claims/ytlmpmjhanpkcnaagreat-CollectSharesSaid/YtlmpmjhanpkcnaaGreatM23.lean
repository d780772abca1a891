/-
  Chapter 12's own look: what a head says, the walk.
  Chapter 12's own look: a word's term (read).
-/
import Derived.Test.YtlmpmjhanpkcnaaGreatM22
set_option linter.unusedVariables false
set_option linter.unusedSimpArgs false
namespace Go.Proofs.YtlmpmjhanpkcnaaGreat
open Go.RowKit

set_option maxHeartbeats 1500000 in
set_option maxRecDepth 100000 in
theorem boxed12_any (g : Nat → Nat → Option (Tm × Nat)) (L R : Nat) (d : Dmp) (S : List Slt) (c0 c1 c2 c3 c4 c5 c6 c7 c8 c9 : Value) (deep : Bool) (left x : Nat) (w0 w : World)
    (hg : ∀ (left x : Nat) (w : World), left ≤ L → x < 18446744073709551616 → LfAt w R left → Below w0.heap.size w0 w → Calls Tryz.prog 74 #[.agg (lkV c0 c1 c2 c3 c4 c5 c6 c7 c8 c9 deep), .int .u64 x, .pointer (some ⟨R, 0, none⟩)] w fun e w' => RefEnd w w' R (g left x) e)
    (hgl : ∀ left x p, g left x = some p → p.2 ≤ left) (hR : w0.heap.size ≤ R) (hlk : LkAt w0 (.agg (lkV c0 c1 c2 c3 c4 c5 c6 c7 c8 c9 deep)) d S deep) (hf : d.frags.length ≤ 100000) (hb : Below w0.heap.size w0 w) (h : LfAt w R left) (hx : x < 18446744073709551616) (hL : left ≤ L) :
    Calls Tryz.prog 103 #[.agg (lkV c0 c1 c2 c3 c4 c5 c6 c7 c8 c9 deep), .int .u64 x, .pointer (some ⟨R, 0, none⟩)] w fun e w' => RefEnd w w' R (boxT g deep S d.mem left x) e := by
  have hRlt : R < w.heap.size := lt_of_block h
  have HG := Lib.hid hg
  have HGL := Lib.hid hgl
  have HB := Lib.hid hb
  have HRD := Lib.hid h
  have HLK := Lib.hid hlk
  clear hg hgl hb h hlk
  obtain ⟨r, hr⟩ : ∃ r, boxT g deep S d.mem left x = r := ⟨_, rfl⟩
  have HR := Lib.hid hr
  rw [hr]
  clear hr
  go_enter Tryz.func103, Tryz.ntmps103
  go_wp2_with fail
  have T := two_at w (.cells (lkV c0 c1 c2 c3 c4 c5 c6 c7 c8 c9 deep) 53) (.cells #[.int .i64 0, .int .i64 0, .bool false, .slice none 0 0, .int .u64 0, .string ⟨#[]⟩, .slice none 0 0] 81)
  generalize (w.alloc (.cells (lkV c0 c1 c2 c3 c4 c5 c6 c7 c8 c9 deep) 53)).alloc (.cells #[.int .i64 0, .int .i64 0, .bool false, .slice none 0 0, .int .u64 0, .string ⟨#[]⟩, .slice none 0 0] 81) = wa at *
  have X0 := Lib.hid T.1
  have X1 := Lib.hid T.2.1
  have XS := Lib.hid T.2.2.1
  have XB := Lib.hid T.2.2.2
  clear T
  have HB1 := Lib.hid (HB.out.trans (XB.out.mono HB.out.size))
  refine (box_any d S deep _ x _ (HLK.out.below HB1.out) hf hx).mono ?_
  rintro e w3 ⟨⟨bv, rfl, hws⟩, hb3⟩
  have Y0 := Lib.hid ((hb3.block _ (by have := XS.out; omega)).trans X0.out)
  have Y1 := Lib.hid ((hb3.block _ (by have := XS.out; omega)).trans X1.out)
  have YS := Lib.hid (show w.heap.size + 2 ≤ w3.heap.size by have := hb3.size; have := XS.out; omega)
  have YB := Lib.hid (XB.out.trans (hb3.mono XB.out.size))
  have YR := Lib.hid (HRD.out.below YB.out)
  have HWS := Lib.hid hws
  have HB3 := Lib.hid (HB.out.trans (YB.out.mono HB.out.size))
  clear hb3 X0 X1 XS XB HB1 hws
  obtain ⟨bx, hbx⟩ : ∃ bx, boxP d.mem x = bx := ⟨_, rfl⟩
  have HBX := Lib.hid hbx
  rw [hbx] at HWS
  rw [hbx]
  have y0 := cell_of Y1.out 0
  have y1 := cell_of Y1.out 1
  have y2 := cell_of Y1.out 2
  have y3 := cell_of Y1.out 3
  have y4 := cell_of Y1.out 4
  have y5 := cell_of Y1.out 5
  have y6 := cell_of Y1.out 6
  have z0 := free_of Y1.out 0
  have z1 := free_of Y1.out 1
  have z2 := free_of Y1.out 2
  have z3 := free_of Y1.out 3
  have z4 := free_of Y1.out 4
  have z5 := free_of Y1.out 5
  have z6 := free_of Y1.out 6
  simp at y0 y1 y2 y3 y4 y5 y6
  cases bx with
  | none =>
    have HN := Lib.hid (show r = none by rw [← HR.out]; unfold boxT; rw [hbx]; rfl)
    simp only [Option.getD_none, Option.isSome_none]
    obtain ⟨_, _, ra, rc, rfl, _⟩ := HWS.out
    clear hbx
    go_wp2_with fail
    exact bodyPost_ret (v := .tuple #[.agg #[.int .i64 0, .int .i64 0, .bool false, .slice none 0 0, .int .u64 0, .string ⟨#[]⟩, .slice none 0 0], .bool false]) (by simp [results, Tryz.results103, go_sem, y0, y1, y2, y3, y4, y5, y6]) rfl (ref_none HN.out (by omega) (by omega) YR.out (grown_below YB.out))
  | some o =>
    obtain ⟨k, ws⟩ := o
    have HR2 := Lib.hid (show r = if k = 0 then (if 8 < ws.length then none else (seqP g left ws).map fun r => (.mk 6 0 false [] 0 ⟨#[]⟩ r.1, r.2))
      else if k = 1 then (big12 ws).map fun t => (t, left)
      else if k = 2 then (if ws.length ≠ 1 then none else if (fltTm (ws.getD 0 0)).may = true then some (fltTm (ws.getD 0 0), left) else none)
      else if k = 5 then (sub12 deep S d.mem ws).map fun s => (.mk 9 0 false [] 0 s [], left)
      else (bytes12 deep S k ws).map fun p => (.mk 9 0 false [] 0 p.1 [], left) by rw [← HR.out]; unfold boxT; rw [hbx]; rfl)
    simp only [Option.getD_some, Option.isSome_some] at HWS ⊢
    obtain ⟨_, _, ra, rc, rfl, _⟩ := id HWS.out
    clear hbx
    by_cases hk0 : k = 0
    · subst hk0
      by_cases h8 : 8 < ws.length
      · have HN := Lib.hid (show r = none by rw [HR2.out, if_pos rfl, if_pos h8])
        have q1 : (8 : Int) < (ws.length : Int) := by omega
        go_wp2_with fail
        exact bodyPost_ret (v := .tuple #[.agg #[.int .i64 0, .int .i64 0, .bool false, .slice none 0 0, .int .u64 0, .string ⟨#[]⟩, .slice none 0 0], .bool false]) (by simp [results, Tryz.results103, go_sem, y0, y1, y2, y3, y4, y5, y6]) rfl (ref_none HN.out (by omega) (by omega) YR.out (grown_below YB.out))
      · have HN := Lib.hid (show r = (seqP g left ws).map fun r => (.mk 6 0 false [] 0 ⟨#[]⟩ r.1, r.2) by rw [HR2.out, if_pos rfl, if_neg h8])
        have q1 : ¬ (8 : Int) < (ws.length : Int) := by omega
        have x0 := cell_of Y0.out 0
        have x1 := cell_of Y0.out 1
        have x2 := cell_of Y0.out 2
        have x3 := cell_of Y0.out 3
        have x4 := cell_of Y0.out 4
        have x5 := cell_of Y0.out 5
        have x6 := cell_of Y0.out 6
        have x7 := cell_of Y0.out 7
        have x8 := cell_of Y0.out 8
        have x9 := cell_of Y0.out 9
        have x10 := cell_of Y0.out 10
        simp at x0 x1 x2 x3 x4 x5 x6 x7 x8 x9 x10
        go_wp2_with fail
        refine (all12_any g L R c0 c1 c2 c3 c4 c5 c6 c7 c8 c9 deep _ left ws w0 _ HG.out HGL.out hR HB3.out YR.out HWS.out (by omega) hL).mono ?_
        rintro e w5 ⟨av, ts, lf, rfl, ⟨aa, an, ac, rfl⟩, ht, hlf, hgr, hp⟩
        have G1 := Lib.hid ((hgr.block (w.heap.size + 1) (by have := YS.out; omega) (by simp; omega)).trans Y1.out)
        have GG := Lib.hid (grown_trans (grown_below YB.out) hgr)
        have GT := Lib.hid (ht 6 ⟨by decide, by decide⟩)
        have GR := Lib.hid hlf
        have HP := Lib.hid hp
        have YS5 := Lib.hid (Nat.le_trans YS.out hgr.size)
        have z0 := free_of G1.out 0
        have z1 := free_of G1.out 1
        have z2 := free_of G1.out 2
        have z3 := free_of G1.out 3
        have z4 := free_of G1.out 4
        have z5 := free_of G1.out 5
        have z6 := free_of G1.out 6
        have y0 := cell_of G1.out 0
        have y1 := cell_of G1.out 1
        have y2 := cell_of G1.out 2
        have y3 := cell_of G1.out 3
        have y4 := cell_of G1.out 4
        have y5 := cell_of G1.out 5
        have y6 := cell_of G1.out 6
        simp at y0 y1 y2 y3 y4 y5 y6
        clear ht hlf hgr hp x0 x1 x2 x3 x4 x5 x6 x7 x8 x9 x10
        obtain ⟨ok, hok⟩ : ∃ ok, (seqP g left ws).isSome = ok := ⟨_, rfl⟩
        have HOK := Lib.hid (show ok = r.isSome by rw [HN.out, ← hok]; simp)
        rw [hok]
        clear hok
        go_wp2_with fail
        refine bodyPost_ret (v := .tuple #[.agg #[.int .i64 6, .int .i64 0, .bool false, .slice none 0 0, .int .u64 0, .string ⟨#[]⟩, .slice aa an ac], .bool ok]) (by simp [results, Tryz.results103, go_sem, y0, y1, y2, y3, y4, y5, y6]) rfl ?_
        rw [HOK.out]
        refine ref_at (by omega) (by omega) (GT.out.mono (fun b hb _ => by have := YS.out; omega)) GR.out GG.out (fun p hp => ?_)
        rw [HN.out] at hp
        cases hq : seqP g left ws with
        | none => rw [hq] at hp; cases hp
        | some q =>
          rw [hq] at hp
          cases hp
          have := HP.out q hq
          exact ⟨by dsimp only; rw [this.1], this.2⟩
    · have q0 : (k == 0) = false := by simpa using hk0
      by_cases hk1 : k = 1
      · subst hk1
        have HN := Lib.hid (show r = (big12 ws).map fun t => (t, left) by rw [HR2.out, if_neg (by decide), if_pos rfl])
        clear hk0
        go_wp2_with fail
        refine (big12_any ws _ _ HWS.out).mono ?_
        rintro e w5 ⟨tv, t, rfl, ht, hp, hb5⟩
        obtain ⟨tk, tn, tneg, tma, tml, tmc, tbits, tbytes, ta, tlen, tcap, rfl⟩ := ht.shape
        have G1 := Lib.hid ((hb5.block (w.heap.size + 1) (by have := YS.out; omega)).trans Y1.out)
        have GG := Lib.hid (grown_then (grown_below (R := R) YB.out) (hb5.mono YB.out.size))
        have GT := Lib.hid ht
        have GR := Lib.hid (YR.out.below hb5)
        have HP := Lib.hid hp
        have z0 := free_of G1.out 0
        have z1 := free_of G1.out 1
        have z2 := free_of G1.out 2
        have z3 := free_of G1.out 3
        have z4 := free_of G1.out 4
        have z5 := free_of G1.out 5
        have z6 := free_of G1.out 6
        have y0 := cell_of G1.out 0
        have y1 := cell_of G1.out 1
        have y2 := cell_of G1.out 2
        have y3 := cell_of G1.out 3
        have y4 := cell_of G1.out 4
        have y5 := cell_of G1.out 5
        have y6 := cell_of G1.out 6
        simp at y0 y1 y2 y3 y4 y5 y6
        clear ht hp hb5
        obtain ⟨ok, hok⟩ : ∃ ok, (big12 ws).isSome = ok := ⟨_, rfl⟩
        have HOK := Lib.hid (show ok = r.isSome by rw [HN.out, ← hok]; simp)
        rw [hok]
        clear hok
        go_wp2_with fail
        refine bodyPost_ret (v := .tuple #[.agg #[.int .i64 tk, .int .i64 tn, .bool tneg, .slice tma tml tmc, .int .u64 tbits, .string tbytes, .slice ta tlen tcap], .bool ok]) (by simp [results, Tryz.results103, go_sem, y0, y1, y2, y3, y4, y5, y6]) rfl ?_
        rw [HOK.out]
        refine ref_at (by omega) (by omega) (GT.out.mono (fun b hb _ => by have := YS.out; omega)) GR.out GG.out (fun p hp => ?_)
        rw [HN.out] at hp
        cases hq : big12 ws with
        | none => rw [hq] at hp; cases hp
        | some q =>
          rw [hq] at hp
          cases hp
          have := HP.out q hq
          exact ⟨this, rfl⟩
      · have q1 : (k == 1) = false := by simpa using hk1
        by_cases hk2 : k = 2
        · subst hk2
          have HN := Lib.hid (show r = if ws.length ≠ 1 then none else if (fltTm (ws.getD 0 0)).may = true then some (fltTm (ws.getD 0 0), left) else none by rw [HR2.out, if_neg (by decide), if_neg (by decide), if_pos rfl])
          clear hk0 hk1
          by_cases hl1 : ws.length = 1
          · obtain ⟨b, rfl⟩ : ∃ b, ws = [b] := by
              match ws, hl1 with
              | [b], _ => exact ⟨b, rfl⟩
            obtain ⟨gw, ow, rfl, -, hc1, hc2, kw, hbb, hws2⟩ := HWS.out.here
            have HN := Lib.hid (show r = if (fltTm b).may = true then some (fltTm b, left) else none by rw [HN.out, if_neg (by simp)]; rfl)
            obtain ⟨mb, hmb⟩ : ∃ mb, (fltTm b).may = mb := ⟨_, rfl⟩
            rw [hmb] at HN
            have HMY := Lib.hid (fun W => show Calls Tryz.prog 75 #[.agg (fltV b)] W fun e w' => e = .returned (.bool mb) ∧ Below W.heap.size W w' by rw [← hmb]; exact fltMay hbb W)
            have kw2 := (((Below.refl w3.heap.size w3).alloc (Nat.le_refl _) (.cells (fltV b) 81)).cell (World.block_lt_of_cell? w3 _ kw)).trans kw
            have F0 := Lib.hid (show FgAt w (w3.alloc (.cells (fltV b) 81)) (w.heap.size + 1) w3.heap.size R left b #[.int .i64 0, .int .i64 0, .bool false, .slice none 0 0, .int .u64 0, .string ⟨#[]⟩, .slice none 0 0] from
              ⟨(Below.heap_alloc _ _ _ (by have := YS.out; omega)).trans Y1.out, World.alloc_heap_new w3 _, by unfold LfAt; rw [Below.heap_alloc _ _ _ (lt_of_block YR.out)]; exact YR.out, grown_then (grown_below YB.out) ((Below.refl _ _).alloc YB.out.size _)⟩)
            have hl1' : ([b] : List Nat).length = 1 := rfl
            clear hmb hl1 hws2
            simp only [List.length_cons, List.length_nil]
            go_upto_region 16 with fail
            clear kw2 y0 y1 y2 y3 y4 y5 y6 z0 z1 z2 z3 z4 z5 z6
            generalize w3.alloc (.cells (fltV b) 81) = wf at *
            have hys := YS.out
            have FD := Lib.hid (show FgAt w wf.drew (w.heap.size + 1) w3.heap.size R left b #[.int .i64 0, .int .i64 0, .bool false, .slice none 0 0, .int .u64 0, .string ⟨#[]⟩, .slice none 0 0] from F0.out.below (Below.refl _ _).drew)
            have FS := Lib.hid (FD.out.set (by omega) (by omega) (by omega))
            have HMC := Lib.hid (fun (V : World) (c0 : Array Value) (hV : FgAt w V (w.heap.size + 1) w3.heap.size R left b c0) => (show Calls Tryz.prog 75 #[.agg (fltV b)] V fun e w' => e = .returned (.bool mb) ∧ FgAt w w' (w.heap.size + 1) w3.heap.size R left b c0 from (HMY.out V).mono fun e w' q => ⟨q.1, hV.below q.2⟩))
            have HM1 := Lib.hid (HMC.out _ _ FD.out)
            have HM7 := Lib.hid (HMC.out _ _ FS.out)
            have KD := Lib.hid (sevF_of FD.out.2.1)
            have KS := Lib.hid (sevF_of FS.out.2.1)
            have e0 := cell_of F0.out.2.1 0
            have e1 := cell_of F0.out.2.1 1
            have e2 := cell_of F0.out.2.1 2
            have e3 := cell_of F0.out.2.1 3
            have e4 := cell_of F0.out.2.1 4
            have e5 := cell_of F0.out.2.1 5
            have e6 := cell_of F0.out.2.1 6
            have f0 := free_of F0.out.1 0
            have f1 := free_of F0.out.1 1
            have f2 := free_of F0.out.1 2
            have f3 := free_of F0.out.1 3
            have f4 := free_of F0.out.1 4
            have f5 := free_of F0.out.1 5
            have f6 := free_of F0.out.1 6
            have a0 := cell_of F0.out.1 0
            have a1 := cell_of F0.out.1 1
            have a2 := cell_of F0.out.1 2
            have a3 := cell_of F0.out.1 3
            have a4 := cell_of F0.out.1 4
            have a5 := cell_of F0.out.1 5
            have a6 := cell_of F0.out.1 6
            simp at e0 e1 e2 e3 e4 e5 e6 a0 a1 a2 a3 a4 a5 a6
            go_region_held3 (fun w' => w'.cell? ⟨w3.heap.size, 0, none⟩ = some (.int .i64 3) ∧ w'.cell? ⟨w3.heap.size, 1, none⟩ = some (.int .i64 0) ∧ w'.cell? ⟨w3.heap.size, 2, none⟩ = some (.bool false) ∧ w'.cell? ⟨w3.heap.size, 3, none⟩ = some (.slice none 0 0) ∧ w'.cell? ⟨w3.heap.size, 4, none⟩ = some (.int .u64 b) ∧ w'.cell? ⟨w3.heap.size, 5, none⟩ = some (.string ⟨#[]⟩) ∧ w'.cell? ⟨w3.heap.size, 6, none⟩ = some (.slice none 0 0)) (first | with_reducible exact KS.out | with_reducible exact KS9.out | with_reducible exact K9.out | with_reducible exact KD.out | with_reducible exact ⟨e0, e1, e2, e3, e4, e5, e6⟩ | go_keep) (first
              | (go_at_call 75; with_reducible refine HM7.out.mono ?_; rintro e w9 ⟨rfl, hb9⟩
                 have X9 := Lib.hid hb9
                 have K9 := Lib.hid (sevF_of hb9.2.1)
                 have g0 := cell_of hb9.1 0
                 have g1 := cell_of hb9.1 1
                 have g2 := cell_of hb9.1 2
                 have g3 := cell_of hb9.1 3
                 have g4 := cell_of hb9.1 4
                 have g5' := cell_of hb9.1 5
                 have g6 := cell_of hb9.1 6
                 simp at g0 g1 g2 g3 g4 g5' g6
                 clear hb9)
              | (go_at_call 75; with_reducible refine HM1.out.mono ?_; rintro e w9 ⟨rfl, hb9⟩
                 have X9 := Lib.hid (hb9.set (by omega) (by omega) (by omega))
                 have K9 := Lib.hid (sevF_of hb9.2.1)
                 have KS9 := Lib.hid (sevF_of (hb9.set (by omega) (by omega) (by omega)).2.1)
                 have g0 := cell_of hb9.1 0
                 have g1 := cell_of hb9.1 1
                 have g2 := cell_of hb9.1 2
                 have g3 := cell_of hb9.1 3
                 have g4 := cell_of hb9.1 4
                 have g5' := cell_of hb9.1 5
                 have g6 := cell_of hb9.1 6
                 have y0 := free_of hb9.1 0
                 have y1 := free_of hb9.1 1
                 have y2 := free_of hb9.1 2
                 have y3 := free_of hb9.1 3
                 have y4 := free_of hb9.1 4
                 have y5 := free_of hb9.1 5
                 have y6 := free_of hb9.1 6
                 simp at g0 g1 g2 g3 g4 g5' g6
                 clear hb9))
            all_goals go_wp2_with fail
            all_goals refine bodyPost_ret (v := .tuple #[.agg (fltV b), .bool mb]) (by simp [results, Tryz.results103, go_sem, g0, g1, g2, g3, g4, g5', g6]) rfl ?_
            all_goals exact flt_end X9.out hbb HN.out
          · have q2 : ((ws.length : Int) != 1) = true := by simp; omega
            have HN := Lib.hid (show r = none by rw [HN.out, if_pos hl1])
            clear hl1
            go_wp2_with fail
            exact bodyPost_ret (v := .tuple #[.agg #[.int .i64 0, .int .i64 0, .bool false, .slice none 0 0, .int .u64 0, .string ⟨#[]⟩, .slice none 0 0], .bool false]) (by simp [results, Tryz.results103, go_sem, y0, y1, y2, y3, y4, y5, y6]) rfl (ref_none HN.out (by omega) (by omega) YR.out (grown_below YB.out))
        · have q2 : (k == 2) = false := by simpa using hk2
          by_cases hk5 : k = 5
          · subst hk5
            have HN := Lib.hid (show r = (sub12 deep S d.mem ws).map fun s => (.mk 9 0 false [] 0 s [], left) by rw [HR2.out, if_neg (by decide), if_neg (by decide), if_neg (by decide), if_pos rfl])
            clear hk0 hk1 hk2
            have x0 := cell_of Y0.out 0
            have x1 := cell_of Y0.out 1
            have x2 := cell_of Y0.out 2
            have x3 := cell_of Y0.out 3
            have x4 := cell_of Y0.out 4
            have x5 := cell_of Y0.out 5
            have x6 := cell_of Y0.out 6
            have x7 := cell_of Y0.out 7
            have x8 := cell_of Y0.out 8
            have x9 := cell_of Y0.out 9
            have x10 := cell_of Y0.out 10
            simp at x0 x1 x2 x3 x4 x5 x6 x7 x8 x9 x10
            go_wp2_with fail
            refine (sub12_any d S deep _ _ ws _ (HLK.out.below HB3.out) HWS.out hf).mono ?_
            rintro e w5 ⟨⟨b, ok, rfl, hok, hbs, hp⟩, hb5⟩
            have G1 := Lib.hid ((hb5.block (w.heap.size + 1) (by have := YS.out; omega)).trans Y1.out)
            have GG := Lib.hid (grown_then (grown_below (R := R) YB.out) (hb5.mono YB.out.size))
            have GR := Lib.hid (YR.out.below hb5)
            have HP := Lib.hid hp
            have HOK := Lib.hid (show ok = r.isSome by rw [HN.out, hok]; simp)
            have z0 := free_of G1.out 0
            have z1 := free_of G1.out 1
            have z2 := free_of G1.out 2
            have z3 := free_of G1.out 3
            have z4 := free_of G1.out 4
            have z5 := free_of G1.out 5
            have z6 := free_of G1.out 6
            have y0 := cell_of G1.out 0
            have y1 := cell_of G1.out 1
            have y2 := cell_of G1.out 2
            have y3 := cell_of G1.out 3
            have y4 := cell_of G1.out 4
            have y5 := cell_of G1.out 5
            have y6 := cell_of G1.out 6
            simp at y0 y1 y2 y3 y4 y5 y6
            clear hp hb5 hok x0 x1 x2 x3 x4 x5 x6 x7 x8 x9 x10
            go_wp2_with fail
            refine bodyPost_ret (v := .tuple #[.agg #[.int .i64 9, .int .i64 0, .bool false, .slice none 0 0, .int .u64 0, .string b, .slice none 0 0], .bool ok]) (by simp [results, Tryz.results103, go_sem, y0, y1, y2, y3, y4, y5, y6]) rfl ?_
            rw [HOK.out]
            refine ref_at (by omega) (by omega) (TmAt.leaf ⟨by decide, by decide⟩ ⟨by decide, by decide⟩ (MsP.nil _) (by unfold maxLen; simp) (by simp) (by decide) (by unfold maxLen; omega)) GR.out GG.out (fun p hp => ?_)
            rw [HN.out] at hp
            cases hq : sub12 deep S d.mem ws with
            | none => rw [hq] at hp; cases hp
            | some q =>
              rw [hq] at hp
              cases hp
              have := HP.out q hq
              exact ⟨by dsimp only; rw [this], rfl⟩
          · have q5 : (k == 5) = false := by simpa using hk5
            have HN := Lib.hid (show r = (bytes12 deep S k ws).map fun p => (.mk 9 0 false [] 0 p.1 [], left) by rw [HR2.out, if_neg hk0, if_neg hk1, if_neg hk2, if_neg hk5])
            clear hk0 hk1 hk2 hk5
            have x0 := cell_of Y0.out 0
            have x1 := cell_of Y0.out 1
            have x2 := cell_of Y0.out 2
            have x3 := cell_of Y0.out 3
            have x4 := cell_of Y0.out 4
            have x5 := cell_of Y0.out 5
            have x6 := cell_of Y0.out 6
            have x7 := cell_of Y0.out 7
            have x8 := cell_of Y0.out 8
            have x9 := cell_of Y0.out 9
            have x10 := cell_of Y0.out 10
            simp at x0 x1 x2 x3 x4 x5 x6 x7 x8 x9 x10
            go_wp2_with fail
            refine (bytes12_any d S deep _ _ k ws _ (HLK.out.below HB3.out) HWS.out).mono ?_
            rintro e w5 ⟨⟨b, n, ok, rfl, hok, hn4, hbs, hp⟩, hb5⟩
            have G1 := Lib.hid ((hb5.block (w.heap.size + 1) (by have := YS.out; omega)).trans Y1.out)
            have GG := Lib.hid (grown_then (grown_below (R := R) YB.out) (hb5.mono YB.out.size))
            have GR := Lib.hid (YR.out.below hb5)
            have HP := Lib.hid hp
            have HOK := Lib.hid (show ok = r.isSome by rw [HN.out, hok]; simp)
            have n4 : (n : Int) ≤ 400 := by omega
            have z0 := free_of G1.out 0
            have z1 := free_of G1.out 1
            have z2 := free_of G1.out 2
            have z3 := free_of G1.out 3
            have z4 := free_of G1.out 4
            have z5 := free_of G1.out 5
            have z6 := free_of G1.out 6
            have y0 := cell_of G1.out 0
            have y1 := cell_of G1.out 1
            have y2 := cell_of G1.out 2
            have y3 := cell_of G1.out 3
            have y4 := cell_of G1.out 4
            have y5 := cell_of G1.out 5
            have y6 := cell_of G1.out 6
            simp at y0 y1 y2 y3 y4 y5 y6
            clear hp hb5 hok x0 x1 x2 x3 x4 x5 x6 x7 x8 x9 x10
            cases ok
            · go_wp2_with fail
              refine bodyPost_ret (v := .tuple #[.agg #[.int .i64 9, .int .i64 0, .bool false, .slice none 0 0, .int .u64 0, .string b, .slice none 0 0], .bool false]) (by simp [results, Tryz.results103, go_sem, y0, y1, y2, y3, y4, y5, y6]) rfl ?_
              refine ref_at' HOK.out (by omega) (by omega) (TmAt.leaf ⟨by decide, by decide⟩ ⟨by decide, by decide⟩ (MsP.nil _) (by unfold maxLen; simp) (by simp) (by decide) (by unfold maxLen; omega)) GR.out GG.out (fun p hp => ?_)
              rw [HN.out] at hp
              cases hq : bytes12 deep S k ws with
              | none => rw [hq] at hp; cases hp
              | some q =>
                rw [hq] at hp
                cases hp
                have := HP.out q hq
                exact ⟨by dsimp only; rw [this], rfl⟩
            · go_wp2_with fail
              refine bodyPost_ret (v := .tuple #[.agg #[.int .i64 9, .int .i64 0, .bool false, .slice none 0 0, .int .u64 0, .string b, .slice none 0 0], .bool true]) (by simp [results, Tryz.results103, go_sem, y0, y1, y2, y3, y4, y5, y6]) rfl ?_
              refine ref_at' HOK.out (by omega) (by omega) (TmAt.leaf ⟨by decide, by decide⟩ ⟨by decide, by decide⟩ (MsP.nil _) (by unfold maxLen; simp) (by simp) (by decide) (by unfold maxLen; omega)) GR.out GG.out (fun p hp => ?_)
              rw [HN.out] at hp
              cases hq : bytes12 deep S k ws with
              | none => rw [hq] at hp; cases hp
              | some q =>
                rw [hq] at hp
                cases hp
                have := HP.out q hq
                exact ⟨by dsimp only; rw [this], rfl⟩

end Go.Proofs.YtlmpmjhanpkcnaaGreat

namespace Go.Proofs.YtlmpmjhanpkcnaaGreat
open Go.RowKit

/-- A word's term, where the parts' terms are known. -/
def readT (g : Nat → Nat → Option (Tm × Nat)) (deep : Bool) (S : List Slt) (m : List Frg) (left w : Nat) : Option (Tm × Nat) :=
  if left = 0 ∨ plainP w = false then none
  else if tagW w = 0 then some (.mk 1 (loadW w) false [] 0 ⟨#[]⟩ [], left - 1)
  else if tagW w = 1 then some (.mk 4 (loadW w) false [] 0 ⟨#[]⟩ [], left - 1)
  else if tagW w = 2 then some (.mk 5 (loadW w) false [] 0 ⟨#[]⟩ [], left - 1)
  else if tagW w = 3 then some (.mk 7 0 false [] 0 ⟨#[]⟩ [], left - 1)
  else if tagW w = 5 then (if (restP m (loadW w)).length < 2 then none else (seqP g (left - 1) ((restP m (loadW w)).take 2)).map fun r => (.mk 8 0 false [] 0 ⟨#[]⟩ r.1, r.2))
  else boxT g deep S m (left - 1) w

def refT (deep : Bool) (S : List Slt) (m : List Frg) : Nat → Nat → Nat → Option (Tm × Nat)
  | 0, _, _ => none
  | f + 1, left, w => readT (refT deep S m f) deep S m left w

theorem refT_step (deep : Bool) (S : List Slt) (m : List Frg) (f left w : Nat) : refT deep S m (f + 1) left w = readT (refT deep S m f) deep S m left w := rfl

theorem boxT_le {g : Nat → Nat → Option (Tm × Nat)} (hg : ∀ left x p, g left x = some p → p.2 ≤ left) {deep : Bool} {S : List Slt} {m : List Frg} {left w : Nat} {p : Tm × Nat} (h : boxT g deep S m left w = some p) : p.2 ≤ left := by
  unfold boxT at h
  cases hb : boxP m w with
  | none => rw [hb] at h; cases h
  | some o =>
    rw [hb] at h
    simp only [Option.bind_some] at h
    split at h
    · split at h
      · cases h
      · cases hs : seqP g left o.2 with
        | none => rw [hs] at h; cases h
        | some q => rw [hs] at h; cases h; exact (seqP_le hg _ _ _ hs).1
    · split at h
      · cases hs : big12 o.2 with
        | none => rw [hs] at h; cases h
        | some q => rw [hs] at h; cases h; exact Nat.le_refl _
      · split at h
        · split at h
          · cases h
          · split at h
            · cases h; exact Nat.le_refl _
            · cases h
        · split at h
          · cases hs : sub12 deep S m o.2 with
            | none => rw [hs] at h; cases h
            | some q => rw [hs] at h; cases h; exact Nat.le_refl _
          · cases hs : bytes12 deep S o.1 o.2 with
            | none => rw [hs] at h; cases h
            | some q => rw [hs] at h; cases h; exact Nat.le_refl _

theorem readT_le {g : Nat → Nat → Option (Tm × Nat)} (hg : ∀ left x p, g left x = some p → p.2 ≤ left) {deep : Bool} {S : List Slt} {m : List Frg} (left w : Nat) (p : Tm × Nat) (h : readT g deep S m left w = some p) : p.2 ≤ left := by
  unfold readT at h
  split at h
  · cases h
  · repeat' split at h
    all_goals first
      | (cases h; exact Nat.sub_le _ _)
      | skip
    · cases h
    · cases hs : seqP g (left - 1) ((restP m (loadW w)).take 2) with
      | none => rw [hs] at h; cases h
      | some q => rw [hs] at h; cases h; exact Nat.le_trans (seqP_le hg _ _ _ hs).1 (Nat.sub_le _ _)
    · exact Nat.le_trans (boxT_le hg h) (Nat.sub_le _ _)

theorem refT_le (deep : Bool) (S : List Slt) (m : List Frg) : ∀ (f left w : Nat) (p : Tm × Nat), refT deep S m f left w = some p → p.2 ≤ left
  | 0, _, _, _, h => by cases h
  | f + 1, left, w, p, h => readT_le (refT_le deep S m f) left w p h

def AllCut (wr wx : World) (R : Nat) (r : Option (List Tm × Nat)) (av ok : Value) : Prop :=
  ∃ (ts : List Tm) (left' : Int), ok = .bool r.isSome ∧ (∃ a n c, av = .slice a n c) ∧ (∀ k, In64 k → TmAt (fun b => wr.heap.size ≤ b) wx (.agg #[.int .i64 k, .int .i64 0, .bool false, .slice none 0 0, .int .u64 0, .string ⟨#[]⟩, av]) (.mk k 0 false [] 0 ⟨#[]⟩ ts)) ∧
    LfAt wx R left' ∧ wr.grownBy wx (some R) ∧ (∀ p, r = some p → p.1 = ts ∧ left' = (p.2 : Nat))

/-- How many parts may come yet, one less. -/
theorem left_set {w wa : World} {R : Nat} {left : Int} (h : LfAt wa R left) (hg : w.grownBy wa (some R)) (l' : Int) :
    LfAt (wa.setCell ⟨R, 0, none⟩ (.int .i64 l')) R l' ∧ w.grownBy (wa.setCell ⟨R, 0, none⟩ (.int .i64 l')) (some R) ∧ (∀ b, b ≠ R → (wa.setCell ⟨R, 0, none⟩ (.int .i64 l')).heap[b]? = wa.heap[b]?) := by
  have hoff : ∀ b, b ≠ R → (wa.setCell ⟨R, 0, none⟩ (.int .i64 l')).heap[b]? = wa.heap[b]? := fun b hb => Below.heap_setCell _ _ _ _ hb
  refine ⟨?_, ?_, hoff⟩
  · unfold LfAt at *
    rw [set_of h]; rfl
  · refine grown_trans hg ⟨rfl, rfl, rfl, by simp [World.setCell], fun b _ hne => hoff b (fun q => hne (by rw [q]))⟩

end Go.Proofs.YtlmpmjhanpkcnaaGreat
