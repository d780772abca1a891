/-
  A pair's, or a tuple's, term: the reader's args.
-/
import Derived.Test.YtohgkfnbjfhniaaXd
namespace Go.Proofs.Ytohgkfnbjfhniaa
open Go.RowKit

/-- What the reader answers. -/
def TermEnd (w w' : World) (R : Nat) (mv sv : Value) (asks : Bool) (r : Option (Tm × Nat)) (e : Ending) : Prop :=
  ∃ (tv : Value) (t : Tm) (left' : Int), e = .returned (.tuple #[tv, .bool r.isSome]) ∧ TmAt (fun k => w.heap.size ≤ k) w' tv t ∧ RdAt w' R mv sv asks left' ∧ w.grownBy w' (some R) ∧ (∀ p, r = some p → p.1 = t ∧ left' = (p.2 : Nat))

theorem seqP_le {g : Nat → Nat → Option (Tm × Nat)} (hg : ∀ left x p, g left x = some p → p.2 ≤ left) : ∀ (xs : List Nat) (left : Nat) (p : List Tm × Nat), seqP g left xs = some p → p.2 ≤ left ∧ p.1.length = xs.length
  | [], left, p, h => by cases h; exact ⟨Nat.le_refl _, rfl⟩
  | x :: r, left, p, h => by
    simp only [seqP] at h
    cases h1 : g left x with
    | none => rw [h1] at h; cases h
    | some a =>
      rw [h1] at h
      simp only [Option.bind_some] at h
      cases h2 : seqP g a.2 r with
      | none => rw [h2] at h; cases h
      | some b =>
        rw [h2] at h
        simp only [Option.map_some, Option.some.injEq] at h
        have e1 := hg _ _ _ h1
        have e2 := seqP_le hg r _ _ h2
        subst h
        simp only [List.length_cons]
        omega

theorem grown_refl (w : World) (R : Nat) : w.grownBy w (some R) := ⟨rfl, rfl, rfl, Nat.le_refl _, fun _ _ _ => rfl⟩

theorem RdAt.grownOff {w w' : World} {R : Nat} {m s : Value} {asks : Bool} {left : Int} {row : Option Nat} (h : RdAt w R m s asks left) (hg : w.grownBy w' row) (hr : row ≠ some R) : RdAt w' R m s asks left := by
  unfold RdAt at *
  have hlt : R < w.heap.size := (Array.getElem?_eq_some_iff.1 h).1
  rw [hg.block R hlt (fun e => hr e.symm)]; exact h

theorem RdAt.ne {w : World} {R g o : Nat} {m s : Value} {asks : Bool} {left : Int} {x : Int} (h : RdAt w R m s asks left) (hms : (∃ a n c, m = .slice a n c) ∧ ∃ a n c, s = .slice a n c) (hc : w.cell? ⟨g, o, none⟩ = some (.int .u64 x)) : g ≠ R := by
  rintro rfl
  obtain ⟨⟨_, _, _, rfl⟩, _, _, _, rfl⟩ := hms
  unfold RdAt at h
  rw [cell_of h] at hc
  match o, hc with
  | 0, hc => simp at hc
  | 1, hc => simp at hc
  | 2, hc => simp at hc
  | 3, hc => simp at hc
  | n + 4, hc => simp at hc

theorem grown_low {w w' : World} {R B : Nat} (hg : w.grownBy w' (some R)) (hR : B ≤ R) (hB : B ≤ w.heap.size) : Below B w w' :=
  ⟨hg.os, hg.tape, hg.output, hg.size, fun k hk => hg.block k (by omega) (by simp; omega)⟩

set_option maxHeartbeats 16000000 in
set_option maxRecDepth 100000 in
theorem args_any (g : Nat → Nat → Option (Tm × Nat)) (L R : Nat) (mv sv lv : Value) (asks : Bool) (left : Nat) (k : Int) (l : List Nat) (w0 w : World)
    (hg : ∀ (left x : Nat) (w : World), left ≤ L → x < 18446744073709551616 → RdAt w R mv sv asks left → Below w0.heap.size w0 w → Calls Try.prog 40 #[.pointer (some ⟨R, 0, none⟩), .int .u64 x] w fun e w' => TermEnd w w' R mv sv asks (g left x) e)
    (hgl : ∀ left x p, g left x = some p → p.2 ≤ left) (hR : w0.heap.size ≤ R) (hb : Below w0.heap.size w0 w) (h : RdAt w R mv sv asks left) (hl : Ws w lv l) (hk : (k = -1 ∧ l.length = 2) ∨ (k = 0 ∧ 1 ≤ l.length ∧ l.length ≤ 9)) (hL : left ≤ L) (hms : (∃ a n c, mv = .slice a n c) ∧ ∃ a n c, sv = .slice a n c) :
    Calls Try.prog 77 #[.pointer (some ⟨R, 0, none⟩), .agg #[.int .i64 k, lv]] w fun e w' => TermEnd w w' R mv sv asks ((seqP g left (leadW k l)).map fun r => (Tm.mk (if k = -1 then 8 else 6) 0 false [] 0 ⟨#[]⟩ r.1, r.2)) e := by
  obtain ⟨i0, hi, hz0, hz1, hz2⟩ := info_parts info40
  have hRlt : R < w.heap.size := (Array.getElem?_eq_some_iff.1 h).1
  obtain ⟨gl, ol, c, rfl, hlc, hcm, hml⟩ := hl.open (by omega)
  have HG := Lib.hid hg
  have HGL := Lib.hid hgl
  have HB := Lib.hid hb
  have HRD := Lib.hid h
  have HL := Lib.hid hl
  have HK := Lib.hid hk
  have HMS := Lib.hid hms
  obtain ⟨kk, hkk⟩ : ∃ kk : Int, (if k = -1 then (8 : Int) else 6) = kk := ⟨_, rfl⟩
  rw [hkk]
  have HKK := Lib.hid hkk
  clear hg hgl hb h hl hkk hk hms
  -- the three blocks
  obtain ⟨W3, hW3⟩ : ∃ W3, ((w.alloc (.cells #[.int .i64 k, .slice (some ⟨gl, ol, none⟩) l.length c] 70)).alloc (.cells #[.int .i64 0, .int .i64 0, .bool false, .slice none 0 0, .int .u64 0, .string ⟨#[]⟩, .slice none 0 0] 40)).alloc (.cells #[.int .i64 6, .int .i64 0, .bool false, .slice none 0 0, .int .u64 0, .string ⟨#[]⟩, .slice none 0 0] 40) = W3 := ⟨_, rfl⟩
  have T := two_at w (.cells #[.int .i64 k, .slice (some ⟨gl, ol, none⟩) l.length c] 70) (.cells #[.int .i64 0, .int .i64 0, .bool false, .slice none 0 0, .int .u64 0, .string ⟨#[]⟩, .slice none 0 0] 40)
  have HW3 := Lib.hid hW3
  have X0 := Lib.hid (show W3.heap[w.heap.size]? = some (.cells #[.int .i64 k, .slice (some ⟨gl, ol, none⟩) l.length c] 70 (0, 0)) by rw [← hW3, Below.heap_alloc _ _ _ (by simp; omega)]; exact T.1)
  have X1 := Lib.hid (show W3.heap[w.heap.size + 1]? = some (.cells #[.int .i64 0, .int .i64 0, .bool false, .slice none 0 0, .int .u64 0, .string ⟨#[]⟩, .slice none 0 0] 40 (0, 0)) by rw [← hW3, Below.heap_alloc _ _ _ (by simp)]; exact T.2.1)
  have X2 := Lib.hid (show W3.heap[w.heap.size + 2]? = some (.cells #[.int .i64 6, .int .i64 0, .bool false, .slice none 0 0, .int .u64 0, .string ⟨#[]⟩, .slice none 0 0] 40 (0, 0)) by rw [← hW3, T.2.2.1]; exact World.alloc_heap_new _ _)
  have XS := Lib.hid (show w.heap.size + 3 ≤ W3.heap.size by rw [← hW3]; simp)
  have XB := Lib.hid (show Below w.heap.size w W3 by rw [← hW3]; exact T.2.2.2.alloc (by simp; omega) _)
  clear hW3 T
  go_enter Try.func77, Try.ntmps77
  go_upto_if 16 with fail
  rw [HW3.out]
  go_cut [] from 17 to 17 (fun wx => Hid (wx.heap[w.heap.size]? = some (.cells #[.int .i64 k, .slice (some ⟨gl, ol, none⟩) l.length c] 70 (0, 0))) ∧ Hid (wx.heap[w.heap.size + 1]? = some (.cells #[.int .i64 0, .int .i64 0, .bool false, .slice none 0 0, .int .u64 0, .string ⟨#[]⟩, .slice none 0 0] 40 (0, 0))) ∧
    Hid (wx.heap[w.heap.size + 2]? = some (.cells #[.int .i64 kk, .int .i64 0, .bool false, .slice none 0 0, .int .u64 0, .string ⟨#[]⟩, .slice none 0 0] 40 (0, 0))) ∧ Hid (w.heap.size + 3 ≤ wx.heap.size) ∧ Hid (Below w.heap.size w wx))
  case first =>
    have z0 := free_of X2.out 0
    have y0 := cell_of X2.out 0
    simp at y0
    rcases HK.out with ⟨rfl, hl2⟩ | ⟨rfl, hl2, hl3⟩
    · have HKL := Lib.hid hl2
      have HKE := Lib.hid (show kk = 8 by rw [← HKK.out, if_pos rfl])
      clear hl2
      go_wp2_with fail
      go_meet
      rw [HKE.out]
      exact ⟨Lib.hid (by rw [Below.heap_setCell _ _ _ _ (by simp; omega)]; exact X0.out), Lib.hid (by rw [Below.heap_setCell _ _ _ _ (by simp)]; exact X1.out), Lib.hid (by rw [set_of X2.out]; rfl), Lib.hid (by simpa [World.setCell] using XS.out), Lib.hid (XB.out.setCell (by simp; omega) _)⟩
    · have HKE := Lib.hid (show kk = 6 by rw [← HKK.out, if_neg (by decide)])
      go_wp2_with fail
      go_meet
      rw [HKE.out]
      exact ⟨X0, X1, X2, XS, XB⟩
  case rest =>
    obtain ⟨Y0, Y1, Y2, YS, YB⟩ := hcut
    clear X0 X1 X2 XS XB
    obtain ⟨fr, tt, hlp, hft, htl, hlw⟩ : ∃ fr tt : Nat, leadsP k l.length = ((fr : Int), (tt : Int)) ∧ fr ≤ tt ∧ tt ≤ l.length ∧ leadW k l = (l.drop fr).take (tt - fr) := by
      rcases HK.out with ⟨rfl, hl2⟩ | ⟨rfl, hl2, hl3⟩
      · exact ⟨0, 2, rfl, by omega, by omega, rfl⟩
      · refine ⟨1, l.length, rfl, by omega, by omega, ?_⟩
        unfold leadW
        have e : leadsP 0 l.length = (1, (l.length : Int)) := rfl
        rw [e]
        congr 1
        simp only
        omega
    have hlen9 : l.length ≤ 9 := by rcases HK.out with ⟨rfl, hl2⟩ | ⟨rfl, hl2, hl3⟩ <;> omega
    have HLP := Lib.hid hlp
    have HLW := Lib.hid hlw
    have HLWL := Lib.hid (show (leadW k l).length = tt - fr by rw [hlw, List.length_take, List.length_drop]; omega)
    have y0 := cell_of Y0.out 0
    have y1 := cell_of Y0.out 1
    simp at y0 y1
    have HL1 := Lib.hid (HL.out.below YB.out)
    clear hlp hlw
    go_wp2_with fail
    refine (leads_any k _ l.length c _).mono ?_
    rintro e w5 ⟨rfl, hb5⟩
    rw [HLP.out]
    have Y05 := Lib.hid ((hb5.block _ (by have := YS.out; omega)).trans Y0.out)
    have Y15 := Lib.hid ((hb5.block _ (by have := YS.out; omega)).trans Y1.out)
    have Y25 := Lib.hid ((hb5.block _ (by have := YS.out; omega)).trans Y2.out)
    have YS5 := Lib.hid (Nat.le_trans YS.out hb5.size)
    have YB5 := Lib.hid (YB.out.trans (hb5.mono YB.out.size))
    clear hb5 y0 y1 Y0 Y1 Y2 YS
    have y0 := cell_of Y05.out 0
    have y1 := cell_of Y05.out 1
    simp at y0 y1
    have HL5 := Lib.hid (HL.out.below YB5.out)
    go_upto_region 5 with fail
    go_cut [27, 28, 29] from 23 to 29 (fun v n i wx => Hid (Ws w v (leadW k l)) ∧ n = .int .i64 ((tt - fr : Nat) : Int) ∧ i = .int .i64 0 ∧ w5 = wx)
    case first =>
      have q1 : (fr : Int) ≤ (tt : Int) := by omega
      have q2 : (tt : Int) ≤ (c : Int) := by omega
      have q3 : fr ≤ c := by omega
      have HCUT := Lib.hid (show Ws w (.slice (some ⟨gl, ol + fr, none⟩) (tt - fr) (c - fr)) (leadW k l) by rw [HLW.out]; exact Ws.cut HL.out (k := fr) (n := tt - fr) (by omega))
      by_cases hcf : c = fr
      · have HZ := Lib.hid (show tt - fr = 0 by omega)
        have HNil := Lib.hid (show leadW k l = [] from List.eq_nil_of_length_eq_zero (by rw [HLWL.out]; omega))
        subst hcf
        go_wp2_with fail
        go_meet
        exact ⟨Lib.hid (by rw [HNil.out, HZ.out]; exact Ws.empty _ _ (by unfold maxLen; omega)), rfl, rfl, rfl⟩
      · have r1 : ¬ c - fr = 0 := by omega
        have r2 : ¬ c = fr := hcf
        have r3 : fr < c := by omega
        go_wp2_with fail
        go_meet
        exact ⟨HCUT, rfl, rfl, rfl⟩
    case rest =>
      obtain ⟨HWS, rfl, rfl, rfl⟩ := hcut
      obtain ⟨n, hn⟩ : ∃ n, tt - fr = n := ⟨_, rfl⟩
      have HN := Lib.hid (show (leadW k l).length = n by rw [HLWL.out, hn])
      have hn9 : n ≤ 9 := by omega
      rw [hn]
      have HRD5 := Lib.hid (HRD.out.below YB5.out)
      clear hn hft htl
      go_wp2_with fail
      go_loopw [10, 29] (fun u i wr => ∃ (j : Nat) (ts : List Tm) (lf : Nat) (v : Value) (xs : List Value), j ≤ n ∧ i = .int .i64 j ∧ Hid (seqP g left ((leadW k l).take j) = some (ts, lf)) ∧
        Hid (wr.heap[w.heap.size + 1]? = some (.cells #[.int .i64 0, .int .i64 0, .bool false, .slice none 0 0, .int .u64 0, .string ⟨#[]⟩, .slice none 0 0] 40 (0, 0))) ∧ Hid (wr.heap[w.heap.size + 2]? = some (.cells #[.int .i64 kk, .int .i64 0, .bool false, .slice none 0 0, .int .u64 0, .string ⟨#[]⟩, v] 40 (0, 0))) ∧
        Hid (w.heap.size + 3 ≤ wr.heap.size) ∧ Hid (wr.ownsRow (w.heap.size + 3) 40 7 v j xs) ∧ Hid (HeldT (fun b => w.heap.size + 3 ≤ b ∧ v.ownBlock ≠ some b) wr xs ts) ∧ Hid (RdAt wr R mv sv asks lf) ∧ Hid (w.grownBy wr (some R))) (fun _ i _ => n - (intOf i).toNat)
      case atStart => exact ⟨0, [], left, _, [], by omega, rfl, Lib.hid (by simp [seqP]), Y15, Y25, YS5, Lib.hid (World.ownsRow_nil _ _ _ _), Lib.hid trivial, HRD5, Lib.hid (grown_below YB5.out)⟩
      case round =>
        obtain ⟨j, ts, lf, v, xs, hj, rfl, HSQ, Z1, Z2, ZS, ZO, ZH, ZR, ZG⟩ := hrel
        obtain ⟨_, hxu, xa, xc, rfl, hxc, hxm, hxx⟩ := HWS.out
        have HXU := Lib.hid hxu
        have HXX := Lib.hid hxx
        rw [HN.out]
        clear hxu hxx
        by_cases hlt : j < n
        · obtain ⟨g2, o2, rfl, kw⟩ := HXX.out j (by rw [HN.out]; exact hlt)
          have hx1 := HXU.out _ (List.getElem_mem (show j < (leadW k l).length by rw [HN.out]; exact hlt))
          have HTK := Lib.hid (List.take_succ_eq_append_getElem (show j < (leadW k l).length by rw [HN.out]; exact hlt))
          obtain ⟨x, hx⟩ : ∃ x, (leadW k l)[j]'(by rw [HN.out]; exact hlt) = x := ⟨_, rfl⟩
          rw [hx] at kw hx1 HTK
          have kw1 := ZG.out.cell kw (by have := HRD.out.ne HMS.out kw; simpa using this)
          have HLF := Lib.hid (show lf ≤ L by have := (seqP_le HGL.out _ _ _ HSQ.out).1; simp only at this; omega)
          have p1 : (j : Int) < (n : Int) := by omega
          have p2 : (0 : Int) ≤ (j : Int) := by omega
          have p5 : IntKind.i64.wrap ((j : Int) + 1) = (j : Int) + 1 := IntWalk.i64_in _ (by omega)
          have HBW := Lib.hid (HB.out.trans (grown_low ZG.out hR HB.out.size))
          clear kw hx
          go_wp2_with fail
          refine (HG.out lf x _ HLF.out hx1 ZR.out HBW.out).mono ?_
          rintro e w6 ⟨tv, t, lf', rfl, ht, hrd, hgr, hp⟩
          obtain ⟨tk, tn, tneg, tma, tml, tmc, tbits, tbytes, ta, tlen, tcap, rfl⟩ := ht.shape
          have U1 := Lib.hid ((hgr.block (w.heap.size + 1) (by have := ZS.out; omega) (by simp; omega)).trans Z1.out)
          have U2 := Lib.hid ((hgr.block (w.heap.size + 2) (by have := ZS.out; omega) (by simp; omega)).trans Z2.out)
          have US := Lib.hid (Nat.le_trans ZS.out hgr.size)
          have UG := Lib.hid (grown_trans ZG.out hgr)
          have UR := Lib.hid hrd
          have UT := Lib.hid ht
          have UO := Lib.hid (show w6.ownsRow (w.heap.size + 3) 40 7 v j xs from ZO.out.kept hgr (by by_cases hv : v.ownBlock = none; exact .inl hv; exact .inr (fun e => by have := (ZO.out.lt R e).1; omega)))
          have UH := Lib.hid (show HeldT (fun b => w.heap.size + 3 ≤ b ∧ v.ownBlock ≠ some b) w6 xs ts from ZH.out.imp (fun h => h.lift (fun k hk hlt => hgr.block k hlt (by simp; omega))))
          have HP := Lib.hid hp
          have HGR := Lib.hid hgr
          have zs := hgr.size
          clear ht hrd hgr hp Z1 Z2 kw1
          have A1 := fun o => (Below.heap_alloc w6 o (w.heap.size + 1) (by have := US.out; omega)).trans U1.out
          have A2 := fun o => (Below.heap_alloc w6 o (w.heap.size + 1 + 1) (by have := US.out; omega)).trans U2.out
          have a1 := fun o i => cell_of (A1 o) i
          have f1 := fun o i => free_of (A1 o) i
          have HA1 := Lib.hid A1
          have HA2 := Lib.hid A2
          clear A1 A2
          cases hgx : g lf x with
          | none =>
            have HE := Lib.hid (show seqP g left (leadW k l) = none by
              have h1 : seqP g left ((leadW k l).take (j + 1)) = none := by
                rw [HTK.out, seqP_snoc, HSQ.out]
                simp only [Option.bind_some]
                rw [hgx]; rfl
              have h2 := seqP_none g _ ((leadW k l).drop (j + 1)) _ h1
              rwa [List.take_append_drop] at h2)
            clear hgx
            go_wp2_with fail
            have BB := Below.alloc (B := w.heap.size) (Below.refl w.heap.size w6) (by have := US.out; omega) (.cells #[.int .i64 tk, .int .i64 tn, .bool tneg, .slice tma tml tmc, .int .u64 tbits, .string tbytes, .slice ta tlen tcap] 40)
            have BS := set7_below BB (Nat.le_succ w.heap.size) (.int .i64 0) (.int .i64 0) (.bool false) (.slice none 0 0) (.int .u64 0) (.string ⟨#[]⟩) (.slice none 0 0)
            refine bodyPost_ret (v := .tuple #[.agg #[.int .i64 0, .int .i64 0, .bool false, .slice none 0 0, .int .u64 0, .string ⟨#[]⟩, .slice none 0 0], .bool false]) (by simp [results, Try.results77, go_sem, a1, f1]) rfl ?_
            rw [HE.out]
            exact ⟨_, _, lf', rfl, TmAt.zero _, UR.out.at BS hRlt, grown_then UG.out BS, fun p hp => by cases hp⟩
          | some p =>
            obtain ⟨t', lf2⟩ := p
            obtain ⟨hp1, hp2⟩ := HP.out _ hgx
            simp only at hp1 hp2
            have HSQ2 := Lib.hid (show seqP g left ((leadW k l).take (j + 1)) = some (ts ++ [t], lf2) by
              rw [HTK.out, seqP_snoc, HSQ.out]
              simp only [Option.bind_some]
              rw [hgx, ← hp1]; rfl)
            have HP2 := Lib.hid hp2
            clear hgx hp1 hp2
            have a2 := fun o i => cell_of (HA2.out o) i
            clear f1 a1
            obtain ⟨o7, ho7⟩ : ∃ o7 : Obj, Obj.cells #[.int .i64 tk, .int .i64 tn, .bool tneg, .slice tma tml tmc, .int .u64 tbits, .string tbytes, .slice ta tlen tcap] 40 = o7 := ⟨_, rfl⟩
            have HO7 := Lib.hid ho7
            have hw8 : ((w6.alloc o7).alloc o7).heap.size = w6.heap.size + 2 := by simp
            have HW8 := Lib.hid hw8
            have hj9 : j + 1 ≤ 100 := by omega
            clear ho7 hw8
            go_wp2_with (at_builtin; refine wpList_append_own_at _ rfl (.tmp 43) (.tmp 45) 38 rfl (w.heap.size + 3) 40 i0 _ 7 96 Try.underlying38 hi hz0 hz1 hz2 rfl (by decide) v j xs rfl (World.ownsRow.alloc (World.ownsRow.alloc UO.out _) _) ⟨w6.heap.size + 1, 0, none⟩ 1 1 [.int .i64 tk, .int .i64 tn, .bool tneg, .slice tma tml tmc, .int .u64 tbits, .string tbytes, .slice ta tlen tcap] rfl rfl (fun i u hi => by
              match i with
              | 0 => simp at hi; subst hi; simp [Addr.add_lit]
              | 1 => simp at hi; subst hi; simp [Addr.add_lit]
              | 2 => simp at hi; subst hi; simp [Addr.add_lit]
              | 3 => simp at hi; subst hi; simp [Addr.add_lit]
              | 4 => simp at hi; subst hi; simp [Addr.add_lit]
              | 5 => simp at hi; subst hi; simp [Addr.add_lit]
              | 6 => simp at hi; subst hi; simp [Addr.add_lit]
              | i + 7 => simp at hi) (fun u hu => by simp at hu; rcases hu with rfl | rfl | rfl | rfl | rfl | rfl | rfl <;> rfl) (by unfold maxLen; omega) (by omega) (by have := US.out; simp; omega) ?_; intro v9 w9 hown9 hgrow9 _ hloc9
                         obtain ⟨vb, vc, rfl⟩ := own_slice hown9
                         have OFF := Lib.hid (fun b (hb : b < w6.heap.size) (hne : v.ownBlock ≠ some b) => (hgrow9.block b (by simp; omega) (fun e => hne e.symm)).trans ((Below.heap_alloc _ _ b (by simp; omega)).trans (Below.heap_alloc w6 _ b hb)))
                         have O9 := Lib.hid hown9
                         have S9 := Lib.hid (show w6.heap.size + 2 ≤ w9.heap.size by have := hgrow9.size; simp at this; omega)
                         have L9 := Lib.hid (show ∀ b, b < w6.heap.size → v.ownBlock ≠ some b → (Value.slice vb (j + 1) vc).ownBlock ≠ some b from fun b hb hne e => by
                           rcases hloc9 with q | q
                           · rw [q] at e; exact hne e
                           · rw [q] at e; simp at e; omega)
                         have E9 := Lib.hid (show Below w.heap.size w6 w9 from ((Below.alloc (Below.alloc (Below.refl w.heap.size w6) (by have := US.out; omega) _) (by have := US.out; simp; omega) _).grown hgrow9 (by have := US.out; simp; omega) (fun k e => by have := (UO.out.lt k e).1; omega)))
                         have V1 := Lib.hid ((OFF.out (w.heap.size + 1) (by have := US.out; omega) (fun e => by have := (UO.out.lt _ e).1; omega)).trans U1.out)
                         have V2 := Lib.hid ((OFF.out (w.heap.size + 1 + 1) (by have := US.out; omega) (fun e => by have := (UO.out.lt _ e).1; omega)).trans U2.out)
                         have c6 := cell_of V2.out 6
                         have z6 := free_of V2.out 6
                         simp at c6
                         clear hown9 hgrow9 hloc9 a2)
            go_roundw
            case rel =>
              have hset : ∀ k, k ≠ w.heap.size + 1 + 1 → (w9.setCell ⟨w.heap.size + 1 + 1, 6, none⟩ (.slice vb (j + 1) vc)).heap[k]? = w9.heap[k]? := fun k hk => Below.heap_setCell _ _ _ _ hk
              have hus := US.out
              have hlift : ∀ k, w.heap.size + 3 ≤ k → v.ownBlock ≠ some k → k < w6.heap.size → (w9.setCell ⟨w.heap.size + 1 + 1, 6, none⟩ (.slice vb (j + 1) vc)).heap[k]? = w6.heap[k]? := fun k h1 h2 h3 => (hset k (by omega)).trans (OFF.out k h3 h2)
              have hTn : TmAt (fun b => w.heap.size + 3 ≤ b ∧ v.ownBlock ≠ some b) w6 (.agg #[.int .i64 tk, .int .i64 tn, .bool tneg, .slice tma tml tmc, .int .u64 tbits, .string tbytes, .slice ta tlen tcap]) t := UT.out.mono (fun b hb _ => ⟨by have := ZS.out; omega, fun e => by have := (ZO.out.lt b e).2; omega⟩)
              have hup : ∀ {vv tt}, TmAt (fun b => w.heap.size + 3 ≤ b ∧ v.ownBlock ≠ some b) w6 vv tt → TmAt (fun b => w.heap.size + 3 ≤ b ∧ (Value.slice vb (j + 1) vc).ownBlock ≠ some b) (w9.setCell ⟨w.heap.size + 1 + 1, 6, none⟩ (.slice vb (j + 1) vc)) vv tt := fun h =>
                (h.mono (Q := fun b => w.heap.size + 3 ≤ b ∧ (v.ownBlock ≠ some b ∧ (Value.slice vb (j + 1) vc).ownBlock ≠ some b) ∧ b < w6.heap.size) (fun b hb hlt => ⟨hb.1, ⟨hb.2, L9.out b hlt hb.2⟩, hlt⟩)).lift (fun b hb hlt => hlift b hb.1 hb.2.1.1 hlt) |>.mono (fun b hb _ => ⟨hb.1, hb.2.1.2⟩)
              refine ⟨j + 1, ts ++ [t], lf2, .slice vb (j + 1) vc, _, by omega, by go_num, HSQ2, Lib.hid ?_, Lib.hid ?_, Lib.hid ?_, Lib.hid (ownsRow_setCell_below O9.out (by simp) _), Lib.hid (HeldT.snoc (hup hTn) (UH.out.imp hup)), Lib.hid ?_, Lib.hid ?_⟩
              · rw [hset _ (by omega)]; exact V1.out
              · rw [set_of V2.out]; rfl
              · have := S9.out; simp [World.setCell]; omega
              · have h1 := UR.out
                rw [HP2.out] at h1
                exact h1.at (E9.out.setCell (by simp; omega) _) hRlt
              · exact grown_then UG.out (E9.out.setCell (by simp; omega) _)
            case measure => simp [intOf]; omega
        · obtain rfl : j = n := by omega
          have p1 : ¬ (j : Int) < (j : Int) := by omega
          have HFIN := Lib.hid (show seqP g left (leadW k l) = some (ts, lf) by have h := HSQ.out; rwa [List.take_of_length_le (by rw [HN.out]; omega)] at h)
          have HTL := Lib.hid (show ts.length = j by have := (seqP_le HGL.out _ _ _ HFIN.out).2; simp only at this; rw [this, HN.out])
          obtain ⟨vb, vc, rfl⟩ := own_slice ZO.out
          have a1 := fun i => cell_of Z1.out i
          have f1 := fun i => free_of Z1.out i
          have a2 := fun i => cell_of (show wr.heap[w.heap.size + 1 + 1]? = _ from Z2.out) i
          have hk8 : In64 kk := by rw [← HKK.out]; split <;> constructor <;> decide
          have TR := TmAt.row (P := fun b => w.heap.size + 3 ≤ b) (k := kk) ZO.out HTL.out.symm ZH.out hk8 (by unfold maxLen; omega) (fun b hb _ => hb.1) (fun b e => (ZO.out.lt b e).1)
          have HTR := Lib.hid TR
          clear TR hk8
          go_wp2_with fail
          have BS := set7_below (Below.refl w.heap.size wr) (Nat.le_succ w.heap.size) (.int .i64 kk) (.int .i64 0) (.bool false) (.slice none 0 0) (.int .u64 0) (.string ⟨#[]⟩) (.slice vb j vc)
          refine bodyPost_ret (v := .tuple #[.agg #[.int .i64 kk, .int .i64 0, .bool false, .slice none 0 0, .int .u64 0, .string ⟨#[]⟩, .slice vb j vc], .bool true]) (by simp [results, Try.results77, go_sem, a1, f1]) rfl ?_
          rw [HFIN.out]
          exact ⟨_, _, _, rfl, (HTR.out.lift (fun b hb _ => set7_off _ _ _ _ _ _ _ _ _ (by omega))).mono (fun b hb _ => by omega), ZR.out.at BS hRlt, grown_then ZG.out BS, fun p hp => by cases hp; exact ⟨rfl, rfl⟩⟩

end Go.Proofs.Ytohgkfnbjfhniaa
