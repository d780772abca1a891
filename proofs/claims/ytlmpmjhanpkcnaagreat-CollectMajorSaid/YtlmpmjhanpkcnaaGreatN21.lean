/-
  Chapter 12's own look: terms of several words (all).
  Chapter 12's own look: terms of several words, the walk.
  Chapter 12's own look: what a head says (boxed).
  Chapter 12's own look: what a head says, the walk.
-/
import Derived.Test.YtlmpmjhanpkcnaaGreatN20
set_option linter.unusedVariables false
set_option linter.unusedSimpArgs false
namespace Go.Proofs.YtlmpmjhanpkcnaaGreat
open Go.RowKit

/-- How many parts may come yet, in a block of its own. -/
def LfAt (w : World) (R : Nat) (left : Int) : Prop := w.heap[R]? = some (.cells #[.int .i64 left] 3 (0, 0))

theorem LfAt.ne {w : World} {R g o : Nat} {left x : Int} (h : LfAt w R left) (hc : w.cell? ⟨g, o, none⟩ = some (.int .u64 x)) : g ≠ R := by
  rintro rfl
  unfold LfAt at h
  rw [cell_of h] at hc
  match o, hc with
  | 0, hc => simp at hc
  | n + 1, hc => simp at hc

theorem LfAt.lt {w : World} {R : Nat} {left : Int} (h : LfAt w R left) : R < w.heap.size := lt_of_block h

theorem LfAt.grownOff {w w' : World} {R : Nat} {left : Int} {row : Option Nat} (h : LfAt w R left) (hg : w.grownBy w' row) (hr : row ≠ some R) : LfAt w' R left := by
  unfold LfAt at *
  rw [hg.block R (lt_of_block h) (fun e => hr e.symm)]; exact h

theorem LfAt.below {w w' : World} {R : Nat} {left : Int} (h : LfAt w R left) (hb : Below w.heap.size w w') : LfAt w' R left := by
  unfold LfAt at *
  rw [hb.block R (lt_of_block h)]; exact h

def RefEnd (w w' : World) (R : Nat) (r : Option (Tm × Nat)) (e : Ending) : Prop :=
  ∃ (tv : Value) (t : Tm) (left' : Int), e = .returned (.tuple #[tv, .bool r.isSome]) ∧ TmAt (fun k => w.heap.size ≤ k) w' tv t ∧ LfAt w' R left' ∧ w.grownBy w' (some R) ∧ (∀ p, r = some p → p.1 = t ∧ left' = (p.2 : Nat))

/-- A term that was read into a variable. -/
def RfCut (wr wx : World) (R : Nat) (r : Option (Tm × Nat)) (p ok : Value) : Prop :=
  ∃ nb k n neg ma ml mc bits bytes a len cap t left', p = .pointer (some ⟨nb, 0, none⟩) ∧ ok = .bool r.isSome ∧ wx.heap[nb]? = some (.cells #[.int .i64 k, .int .i64 n, .bool neg, .slice ma ml mc, .int .u64 bits, .string bytes, .slice a len cap] 81 (0, 0)) ∧
    TmAt (fun k => wr.heap.size ≤ k) wx (.agg #[.int .i64 k, .int .i64 n, .bool neg, .slice ma ml mc, .int .u64 bits, .string bytes, .slice a len cap]) t ∧ wr.heap.size ≤ nb ∧ LfAt wx R left' ∧ wr.grownBy wx (some R) ∧ (∀ p, r = some p → p.1 = t ∧ left' = (p.2 : Nat))

theorem grown_drew {w : World} {R : Nat} : w.grownBy w.drew (some R) := ⟨rfl, rfl, rfl, Nat.le_refl _, fun _ _ _ => rfl⟩

theorem rf_behind {wr w6 : World} {R : Nat} {r : Option (Tm × Nat)} {k n : Int} {neg : Bool} {ma : Option Addr} {ml mc : Nat} {bits : Int} {bytes : ByteArray} {a : Option Addr} {len cap : Nat} {t : Tm} {left' : Int}
    (ht : TmAt (fun k => wr.drew.heap.size ≤ k) w6 (.agg #[.int .i64 k, .int .i64 n, .bool neg, .slice ma ml mc, .int .u64 bits, .string bytes, .slice a len cap]) t) (hl : LfAt w6 R left') (hg : wr.drew.grownBy w6 (some R)) (hp : ∀ p, r = some p → p.1 = t ∧ left' = (p.2 : Nat)) :
    RfCut wr (w6.alloc (.cells #[.int .i64 k, .int .i64 n, .bool neg, .slice ma ml mc, .int .u64 bits, .string bytes, .slice a len cap] 81)) R r (.pointer (some ⟨w6.heap.size, 0, none⟩)) (.bool r.isSome) := by
  have hg' : wr.grownBy w6 (some R) := grown_trans grown_drew hg
  refine ⟨_, _, _, _, _, _, _, _, _, _, _, _, t, left', rfl, rfl, World.alloc_heap_new w6 _, ht.lift (fun k _ hk => Below.heap_alloc _ _ _ hk), hg'.size, ?_, ?_, hp⟩
  · unfold LfAt; rw [Below.heap_alloc _ _ _ (lt_of_block hl)]; exact hl
  · exact grown_then hg' ((Below.refl _ _).alloc hg'.size _)

theorem rf_ahead {wr w6 : World} {R : Nat} {r : Option (Tm × Nat)} {k n : Int} {neg : Bool} {ma : Option Addr} {ml mc : Nat} {bits : Int} {bytes : ByteArray} {a : Option Addr} {len cap : Nat} {t : Tm} {left' : Int} {z0 z1 z2 z3 z4 z5 z6 : Value} (hR : R < wr.heap.size)
    (ht : TmAt (fun k => (wr.alloc (.cells #[z0, z1, z2, z3, z4, z5, z6] 81)).drew.heap.size ≤ k) w6 (.agg #[.int .i64 k, .int .i64 n, .bool neg, .slice ma ml mc, .int .u64 bits, .string bytes, .slice a len cap]) t) (hl : LfAt w6 R left') (hg : (wr.alloc (.cells #[z0, z1, z2, z3, z4, z5, z6] 81)).drew.grownBy w6 (some R)) (hp : ∀ p, r = some p → p.1 = t ∧ left' = (p.2 : Nat)) :
    RfCut wr (set7 w6 wr.heap.size (.int .i64 k) (.int .i64 n) (.bool neg) (.slice ma ml mc) (.int .u64 bits) (.string bytes) (.slice a len cap)) R r (.pointer (some ⟨wr.heap.size, 0, none⟩)) (.bool r.isSome) := by
  have hs : (wr.alloc (.cells #[z0, z1, z2, z3, z4, z5, z6] 81)).drew.heap.size = wr.heap.size + 1 := by simp
  have h0 : wr.grownBy (wr.alloc (.cells #[z0, z1, z2, z3, z4, z5, z6] 81)).drew (some R) := grown_below (((Below.refl wr.heap.size wr).alloc (Nat.le_refl _) _).drew)
  have hg' : wr.grownBy w6 (some R) := grown_trans h0 hg
  have hh : w6.heap[wr.heap.size]? = some (.cells #[z0, z1, z2, z3, z4, z5, z6] 81 (0, 0)) := (hg.block wr.heap.size (by rw [hs]; omega) (by simp; omega)).trans (World.alloc_heap_new wr _)
  refine ⟨_, _, _, _, _, _, _, _, _, _, _, _, t, left', rfl, rfl, set7_heap hh _ _ _ _ _ _ _, ?_, Nat.le_refl _, ?_, ?_, hp⟩
  · refine (ht.lift (fun k hk _ => set7_off _ _ _ _ _ _ _ _ _ (by rw [hs] at hk; omega))).mono (fun k hk _ => ?_)
    rw [hs] at hk
    omega
  · unfold LfAt; rw [set7_off _ _ _ _ _ _ _ _ _ (by omega)]; exact hl
  · exact grown_then hg' (set7_below (Below.refl _ _) (Nat.le_refl _) _ _ _ _ _ _ _)

def AllEnd (w w' : World) (R : Nat) (r : Option (List Tm × Nat)) (e : Ending) : Prop :=
  ∃ (av : Value) (ts : List Tm) (left' : Int), e = .returned (.tuple #[av, .bool r.isSome]) ∧ (∃ a n c, av = .slice a n c) ∧ (∀ k, In64 k → TmAt (fun b => w.heap.size ≤ b) w' (.agg #[.int .i64 k, .int .i64 0, .bool false, .slice none 0 0, .int .u64 0, .string ⟨#[]⟩, av]) (.mk k 0 false [] 0 ⟨#[]⟩ ts)) ∧
    LfAt w' R left' ∧ w.grownBy w' (some R) ∧ (∀ p, r = some p → p.1 = ts ∧ left' = (p.2 : Nat))

abbrev lkV (c0 c1 c2 c3 c4 c5 c6 c7 c8 c9 : Value) (deep : Bool) : Array Value := #[c0, c1, c2, c3, c4, c5, c6, c7, c8, c9, .bool deep]

/-- A look's eleven cells, and one word. -/
abbrev Elev (W : World) (b : Nat) (c0 c1 c2 c3 c4 c5 c6 c7 c8 c9 : Value) (deep : Bool) (g o : Nat) (x : Int) : Prop :=
  W.cell? ⟨b, 0, none⟩ = some c0 ∧ W.cell? ⟨b, 1, none⟩ = some c1 ∧ W.cell? ⟨b, 2, none⟩ = some c2 ∧ W.cell? ⟨b, 3, none⟩ = some c3 ∧ W.cell? ⟨b, 4, none⟩ = some c4 ∧ W.cell? ⟨b, 5, none⟩ = some c5 ∧ W.cell? ⟨b, 6, none⟩ = some c6 ∧ W.cell? ⟨b, 7, none⟩ = some c7 ∧ W.cell? ⟨b, 8, none⟩ = some c8 ∧ W.cell? ⟨b, 9, none⟩ = some c9 ∧ W.cell? ⟨b, 10, none⟩ = some (.bool deep) ∧ W.cell? ⟨g, o, none⟩ = some (.int .u64 x)

theorem elev_of {W V : World} {b R : Nat} {c0 c1 c2 c3 c4 c5 c6 c7 c8 c9 : Value} {deep : Bool} {g o : Nat} {x : Int} (h : W.heap[b]? = some (.cells (lkV c0 c1 c2 c3 c4 c5 c6 c7 c8 c9 deep) 53 (0, 0))) (hbR : b ≠ R) (k : W.cell? ⟨g, o, none⟩ = some (.int .u64 x)) (hgR : g ≠ R) (hg : W.grownBy V (some R)) :
    Elev V b c0 c1 c2 c3 c4 c5 c6 c7 c8 c9 deep g o x := by
  have h2 := (hg.block b (lt_of_block h) (by simp; exact fun q => hbR q)).trans h
  exact ⟨cell_of h2 0, cell_of h2 1, cell_of h2 2, cell_of h2 3, cell_of h2 4, cell_of h2 5, cell_of h2 6, cell_of h2 7, cell_of h2 8, cell_of h2 9, cell_of h2 10, hg.cell k (by simpa using hgR)⟩

end Go.Proofs.YtlmpmjhanpkcnaaGreat

namespace Go.Proofs.YtlmpmjhanpkcnaaGreat
open Go.RowKit

set_option maxHeartbeats 16000000 in
set_option maxRecDepth 100000 in
theorem all12_any (g : Nat → Nat → Option (Tm × Nat)) (L R : Nat) (c0 c1 c2 c3 c4 c5 c6 c7 c8 c9 : Value) (deep : Bool) (lv : Value) (left : Nat) (l : List Nat) (w0 w : World)
    (hg : ∀ (left x : Nat) (w : World), left ≤ L → x < 18446744073709551616 → LfAt w R left → Below w0.heap.size w0 w → Calls Tryz.prog 74 #[.agg (lkV c0 c1 c2 c3 c4 c5 c6 c7 c8 c9 deep), .int .u64 x, .pointer (some ⟨R, 0, none⟩)] w fun e w' => RefEnd w w' R (g left x) e)
    (hgl : ∀ left x p, g left x = some p → p.2 ≤ left) (hR : w0.heap.size ≤ R) (hb : Below w0.heap.size w0 w) (h : LfAt w R left) (hl : Ws w lv l) (hlen : l.length ≤ 100) (hL : left ≤ L) :
    Calls Tryz.prog 102 #[.agg (lkV c0 c1 c2 c3 c4 c5 c6 c7 c8 c9 deep), lv, .pointer (some ⟨R, 0, none⟩)] w fun e w' => AllEnd w w' R (seqP g left l) e := by
  obtain ⟨i0, hi, hz0, hz1, hz2⟩ := info_parts info40
  have hRlt : R < w.heap.size := lt_of_block h
  have HG := Lib.hid hg
  have HGL := Lib.hid hgl
  have HB := Lib.hid hb
  have HRD := Lib.hid h
  have HL := Lib.hid hl
  obtain ⟨_, hu, la, lc, rfl, hlc, hlm, hml⟩ := hl
  have HU := Lib.hid hu
  have HML := Lib.hid hml
  clear hg hgl hb h hu hml
  go_enter Tryz.func102, Tryz.ntmps102
  go_wp2_with fail
  have X0 := Lib.hid (show (w.alloc (.cells (lkV c0 c1 c2 c3 c4 c5 c6 c7 c8 c9 deep) 53)).heap[w.heap.size]? = some (.cells (lkV c0 c1 c2 c3 c4 c5 c6 c7 c8 c9 deep) 53 (0, 0)) from World.alloc_heap_new w _)
  have XB := Lib.hid ((Below.refl w.heap.size w).alloc (Nat.le_refl _) (.cells (lkV c0 c1 c2 c3 c4 c5 c6 c7 c8 c9 deep) 53))
  have XS := Lib.hid (show w.heap.size + 1 ≤ (w.alloc (.cells (lkV c0 c1 c2 c3 c4 c5 c6 c7 c8 c9 deep) 53)).heap.size by simp)
  generalize w.alloc (.cells (lkV c0 c1 c2 c3 c4 c5 c6 c7 c8 c9 deep) 53) = wa at *
  go_loopw [8, 9] (fun u i wr => ∃ (j : Nat) (ts : List Tm) (lf : Nat) (v : Value) (xs : List Value), j ≤ l.length ∧ i = .int .i64 j ∧ u = v ∧ Hid (seqP g left (l.take j) = some (ts, lf)) ∧
    Hid (wr.heap[w.heap.size]? = some (.cells (lkV c0 c1 c2 c3 c4 c5 c6 c7 c8 c9 deep) 53 (0, 0))) ∧ Hid (w.heap.size + 1 ≤ wr.heap.size) ∧ Hid (wr.ownsRow (w.heap.size + 1) 81 7 v j xs) ∧ Hid (HeldT (fun b => w.heap.size + 1 ≤ b ∧ v.ownBlock ≠ some b) wr xs ts) ∧ Hid (LfAt wr R lf) ∧ Hid (w.grownBy wr (some R))) (fun _ i _ => l.length - (intOf i).toNat)
  case atStart => exact ⟨0, [], left, _, [], by omega, rfl, rfl, Lib.hid (by simp [seqP]), X0, XS, Lib.hid (World.ownsRow_nil _ _ _ _), Lib.hid trivial, Lib.hid (HRD.out.below XB.out), Lib.hid (grown_below XB.out)⟩
  case round =>
    obtain ⟨j, ts, lf, v, xs, hj, rfl, rfl, HSQ, Z0, ZS, ZO, ZH, ZR, ZG⟩ := hrel
    by_cases hlt : j < l.length
    · obtain ⟨g2, o2, rfl, kw⟩ := HML.out j hlt
      have hx1 := HU.out _ (List.getElem_mem hlt)
      have HTK := Lib.hid (List.take_succ_eq_append_getElem hlt)
      obtain ⟨x, hx⟩ : ∃ x, l[j]'hlt = x := ⟨_, rfl⟩
      rw [hx] at kw hx1 HTK
      have hgR := HRD.out.ne kw
      have kw1 := ZG.out.cell kw (by simpa using hgR)
      have HLF := Lib.hid (show lf ≤ L by have := (seqP_le HGL.out _ _ _ HSQ.out).1; simp only at this; omega)
      have p1 : (j : Int) < (l.length : Int) := by omega
      have p2 : (0 : Int) ≤ (j : Int) := by omega
      have p5 : IntKind.i64.wrap ((j : Int) + 1) = (j : Int) + 1 := IntWalk.i64_in _ (by omega)
      have HBW := Lib.hid (HB.out.trans (grown_low ZG.out hR HB.out.size))
      have hRr := ZR.out.lt
      have hwr := ZS.out
      obtain ⟨r, hr⟩ : ∃ r, g lf x = r := ⟨_, rfl⟩
      have HGR := Lib.hid hr
      have H1 := Lib.hid (show Calls Tryz.prog 74 #[.agg (lkV c0 c1 c2 c3 c4 c5 c6 c7 c8 c9 deep), .int .u64 x, .pointer (some ⟨R, 0, none⟩)] wr.drew fun e w' => RefEnd wr.drew w' R r e by
        have := HG.out lf x wr.drew HLF.out hx1 ZR.out HBW.out.drew
        rwa [hr] at this)
      have H2 := Lib.hid (show Calls Tryz.prog 74 #[.agg (lkV c0 c1 c2 c3 c4 c5 c6 c7 c8 c9 deep), .int .u64 x, .pointer (some ⟨R, 0, none⟩)] (wr.alloc (.cells #[.int .i64 0, .int .i64 0, .bool false, .slice none 0 0, .int .u64 0, .string ⟨#[]⟩, .slice none 0 0] 81)).drew fun e w' => RefEnd (wr.alloc (.cells #[.int .i64 0, .int .i64 0, .bool false, .slice none 0 0, .int .u64 0, .string ⟨#[]⟩, .slice none 0 0] 81)).drew w' R r e by
        have := HG.out lf x (wr.alloc (.cells #[.int .i64 0, .int .i64 0, .bool false, .slice none 0 0, .int .u64 0, .string ⟨#[]⟩, .slice none 0 0] 81)).drew HLF.out hx1 (by unfold LfAt; show (wr.alloc _).heap[R]? = _; rw [Below.heap_alloc _ _ _ hRr]; exact ZR.out) (HBW.out.alloc HBW.out.size _).drew
        rwa [hr] at this)
      have KB := Lib.hid (fun (V : World) (hV : wr.grownBy V (some R)) => elev_of Z0.out (by omega) kw1 hgR hV)
      have E0 := KB.out _ (grown_refl wr R)
      have KA0 := Lib.hid (fun o => KB.out (wr.alloc o).drew (grown_below (((Below.refl wr.heap.size wr).alloc (Nat.le_refl _) o).drew)))
      clear kw hx hr
      go_wp2_with fail
      go_cut [10, 11] from 18 to 27 (fun p ok wx => RfCut wr wx R r p ok)
      case first =>
        go_region_held3 (fun w' => Elev w' w.heap.size c0 c1 c2 c3 c4 c5 c6 c7 c8 c9 deep g2 (o2 + j) x) (first | with_reducible exact KS.out _ _ _ _ _ _ _ | with_reducible exact KA.out _ | with_reducible exact K9.out | with_reducible exact E0 | with_reducible exact KA0.out _ | with_reducible exact KB.out _ grown_drew | go_keep) (first
          | (go_at_call 74; (with_reducible refine H2.out.mono ?_); rintro e w6 ⟨tv, t, lf', rfl, ht, hrd, hgr, hp⟩
             obtain ⟨tk, tn, tneg, tma, tml, tmc, tbits, tbytes, ta, tlen, tcap, rfl⟩ := ht.shape
             have K9 := Lib.hid (KB.out w6 (grown_trans (grown_below (((Below.refl wr.heap.size wr).alloc (Nat.le_refl _) _).drew)) hgr))
             have F9 := Lib.hid (rf_ahead hRr ht hrd hgr hp)
             have HH := Lib.hid (show w6.heap[wr.heap.size]? = some (.cells #[.int .i64 0, .int .i64 0, .bool false, .slice none 0 0, .int .u64 0, .string ⟨#[]⟩, .slice none 0 0] 81 (0, 0)) from (hgr.block wr.heap.size (by simp) (by simp; omega)).trans (World.alloc_heap_new wr _))
             have y0 := cell_of HH.out 0
             have y1 := cell_of HH.out 1
             have y2 := cell_of HH.out 2
             have y3 := cell_of HH.out 3
             have y4 := cell_of HH.out 4
             have y5 := cell_of HH.out 5
             have y6 := cell_of HH.out 6
             have z0 := free_of HH.out 0
             have z1 := free_of HH.out 1
             have z2 := free_of HH.out 2
             have z3 := free_of HH.out 3
             have z4 := free_of HH.out 4
             have z5 := free_of HH.out 5
             have z6 := free_of HH.out 6
             simp at y0 y1 y2 y3 y4 y5 y6
             have KS := Lib.hid (fun d0 d1 d2 d3 d4 d5 d6 => KB.out (set7 w6 wr.heap.size d0 d1 d2 d3 d4 d5 d6) (grown_then (grown_trans (grown_below (((Below.refl wr.heap.size wr).alloc (Nat.le_refl _) _).drew)) hgr) (set7_below (Below.refl _ _) (Nat.le_refl _) d0 d1 d2 d3 d4 d5 d6)))
             clear ht hrd hgr hp)
          | (go_at_call 74; (with_reducible refine H1.out.mono ?_); rintro e w6 ⟨tv, t, lf', rfl, ht, hrd, hgr, hp⟩
             obtain ⟨tk, tn, tneg, tma, tml, tmc, tbits, tbytes, ta, tlen, tcap, rfl⟩ := ht.shape
             have K9 := Lib.hid (KB.out w6 (grown_trans grown_drew hgr))
             have F9 := Lib.hid (rf_behind ht hrd hgr hp)
             have KA := Lib.hid (fun o => KB.out (w6.alloc o) (grown_then (grown_trans grown_drew hgr) ((Below.refl _ _).alloc (grown_trans grown_drew hgr).size o)))
             clear ht hrd hgr hp))
        all_goals go_wp2_with fail
        all_goals go_meet
        all_goals exact F9.out
      case rest =>
        obtain ⟨nb, tk, tn, tneg, tma, tml, tmc, tbits, tbytes, ta, tlen, tcap, t, lf', rfl, rfl, hnb, ht, hnw, hlf, hgr, hp⟩ := hcut
        have U0 := Lib.hid ((hgr.block w.heap.size (by omega) (by simp; omega)).trans Z0.out)
        have US := Lib.hid (Nat.le_trans ZS.out hgr.size)
        have UG := Lib.hid (grown_trans ZG.out hgr)
        have UR := Lib.hid hlf
        have UT := Lib.hid ht
        have UO := Lib.hid (show wc.ownsRow (w.heap.size + 1) 81 7 u8 j xs from ZO.out.kept hgr (by by_cases hv : u8.ownBlock = none; exact .inl hv; exact .inr (fun e => by have := (ZO.out.lt R e).1; omega)))
        have UH := Lib.hid (show HeldT (fun b => w.heap.size + 1 ≤ b ∧ u8.ownBlock ≠ some b) wc xs ts from ZH.out.imp (fun h => h.lift (fun k hk hlt => hgr.block k hlt (by simp; omega))))
        have HP := Lib.hid hp
        have NB := Lib.hid hnb
        have NW := Lib.hid hnw
        have NL := Lib.hid (lt_of_block hnb)
        clear E0 KA0 KB H1 H2 kw1
        cases r with
        | none =>
          have HE := Lib.hid (show seqP g left l = none by
            have h1 : seqP g left (l.take (j + 1)) = none := by
              rw [HTK.out, seqP_snoc, HSQ.out]
              simp only [Option.bind_some]
              rw [HGR.out]; rfl
            have h2 := seqP_none g _ (l.drop (j + 1)) _ h1
            rwa [List.take_append_drop] at h2)
          clear ht hlf hgr hp hnb
          simp only [Option.isSome_none]
          go_wp2_with fail
          refine bodyPost_ret (v := .tuple #[.slice none 0 0, .bool false]) (by simp [results, Tryz.results102, go_sem]) rfl ?_
          rw [HE.out]
          exact ⟨_, [], lf', rfl, ⟨_, _, _, rfl⟩, fun k hk => TmAt.leaf hk ⟨by decide, by decide⟩ (MsP.nil _) (by unfold maxLen; simp) (by simp) (by decide) (by unfold maxLen; decide), UR.out, UG.out, fun p hp => by cases hp⟩
        | some p =>
          obtain ⟨t', lf2⟩ := p
          obtain ⟨hp1, hp2⟩ := HP.out _ rfl
          simp only at hp1 hp2
          have HSQ2 := Lib.hid (show seqP g left (l.take (j + 1)) = some (ts ++ [t], lf2) by
            rw [HTK.out, seqP_snoc, HSQ.out]
            simp only [Option.bind_some]
            rw [HGR.out, ← hp1]; rfl)
          have HP2 := Lib.hid hp2
          have e0 := cell_of NB.out 0
          have e1 := cell_of NB.out 1
          have e2 := cell_of NB.out 2
          have e3 := cell_of NB.out 3
          have e4 := cell_of NB.out 4
          have e5 := cell_of NB.out 5
          have e6 := cell_of NB.out 6
          simp at e0 e1 e2 e3 e4 e5 e6
          have hj9 : j + 1 ≤ 101 := by omega
          clear ht hlf hgr hp hnb hp1 hp2
          simp only [Option.isSome_some]
          go_wp2_with (at_builtin; refine wpList_append_own_at _ rfl (.tmp 30) (.tmp 32) 79 rfl (w.heap.size + 1) 81 i0 _ 7 96 Tryz.underlying79 hi hz0 hz1 hz2 rfl (by decide) u8 j xs rfl (World.ownsRow.alloc UO.out _) ⟨wc.heap.size, 0, none⟩ 1 1 [.int .i64 tk, .int .i64 tn, .bool tneg, .slice tma tml tmc, .int .u64 tbits, .string tbytes, .slice ta tlen tcap] rfl rfl (fun i u hi => by
            match i with
            | 0 => simp at hi; subst hi; simp [Addr.add_lit]
            | 1 => simp at hi; subst hi; simp [Addr.add_lit]
            | 2 => simp at hi; subst hi; simp [Addr.add_lit]
            | 3 => simp at hi; subst hi; simp [Addr.add_lit]
            | 4 => simp at hi; subst hi; simp [Addr.add_lit]
            | 5 => simp at hi; subst hi; simp [Addr.add_lit]
            | 6 => simp at hi; subst hi; simp [Addr.add_lit]
            | i + 7 => simp at hi) (fun u hu => by simp at hu; rcases hu with rfl | rfl | rfl | rfl | rfl | rfl | rfl <;> rfl) (by unfold maxLen; omega) (by omega) (by have := US.out; simp; omega) ?_; intro v9 w9 hown9 hgrow9 _ hloc9
                       obtain ⟨vb, vc, rfl⟩ := own_slice hown9
                       have OFF := Lib.hid (fun b (hb : b < wc.heap.size) (hne : u8.ownBlock ≠ some b) => (hgrow9.block b (by simp; omega) (fun e => hne e.symm)).trans (Below.heap_alloc wc _ b hb))
                       have O9 := Lib.hid hown9
                       have S9 := Lib.hid (show wc.heap.size + 1 ≤ w9.heap.size by have := hgrow9.size; simp at this; omega)
                       have L9 := Lib.hid (show ∀ b, b < wc.heap.size → u8.ownBlock ≠ some b → (Value.slice vb (j + 1) vc).ownBlock ≠ some b from fun b hb hne e => by
                         rcases hloc9 with q | q
                         · rw [q] at e; exact hne e
                         · rw [q] at e; simp at e; omega)
                       have E9 := Lib.hid (show Below w.heap.size wc w9 from ((Below.alloc (Below.refl w.heap.size wc) (by have := US.out; omega) _).grown hgrow9 (by have := US.out; simp; omega) (fun k e => by have := (UO.out.lt k e).1; omega)))
                       have V0 := Lib.hid ((OFF.out w.heap.size (by have := US.out; omega) (fun e => by have := (UO.out.lt _ e).1; omega)).trans U0.out)
                       clear hown9 hgrow9 hloc9)
          go_roundw
          case rel =>
            have hus := US.out
            have hlift : ∀ k, w.heap.size + 1 ≤ k → u8.ownBlock ≠ some k → k < wc.heap.size → w9.heap[k]? = wc.heap[k]? := fun k h1 h2 h3 => OFF.out k h3 h2
            have hTn : TmAt (fun b => w.heap.size + 1 ≤ b ∧ u8.ownBlock ≠ some b) wc (.agg #[.int .i64 tk, .int .i64 tn, .bool tneg, .slice tma tml tmc, .int .u64 tbits, .string tbytes, .slice ta tlen tcap]) t := UT.out.mono (fun b hb _ => ⟨by have := ZS.out; omega, fun e => by have := (ZO.out.lt b e).2; omega⟩)
            have hup : ∀ {vv tt}, TmAt (fun b => w.heap.size + 1 ≤ b ∧ u8.ownBlock ≠ some b) wc vv tt → TmAt (fun b => w.heap.size + 1 ≤ b ∧ (Value.slice vb (j + 1) vc).ownBlock ≠ some b) w9 vv tt := fun h =>
              (h.mono (Q := fun b => w.heap.size + 1 ≤ b ∧ (u8.ownBlock ≠ some b ∧ (Value.slice vb (j + 1) vc).ownBlock ≠ some b) ∧ b < wc.heap.size) (fun b hb hlt => ⟨hb.1, ⟨hb.2, L9.out b hlt hb.2⟩, hlt⟩)).lift (fun b hb hlt => hlift b hb.1 hb.2.1.1 hlt) |>.mono (fun b hb _ => ⟨hb.1, hb.2.1.2⟩)
            refine ⟨j + 1, ts ++ [t], lf2, .slice vb (j + 1) vc, _, by omega, by go_num, rfl, HSQ2, V0, Lib.hid ?_, O9, Lib.hid (HeldT.snoc (hup hTn) (UH.out.imp hup)), Lib.hid ?_, Lib.hid ?_⟩
            · have := S9.out; omega
            · have h1 := UR.out
              rw [HP2.out] at h1
              unfold LfAt at h1 ⊢
              rw [E9.out.block R hRlt]; exact h1
            · exact grown_then UG.out E9.out
          case measure => simp [intOf]; omega
    · obtain rfl : j = l.length := by omega
      have p1 : ¬ ((l.length : Nat) : Int) < (l.length : Int) := by omega
      have HFIN := Lib.hid (show seqP g left l = some (ts, lf) by have h := HSQ.out; rwa [List.take_length] at h)
      have HTL := Lib.hid (show ts.length = l.length by have := (seqP_le HGL.out _ _ _ HFIN.out).2; simp only at this; exact this)
      obtain ⟨vb, vc, rfl⟩ := own_slice ZO.out
      have TR := fun k (hk : In64 k) => TmAt.row (P := fun b => w.heap.size ≤ b) (k := k) ZO.out HTL.out.symm ZH.out hk (by unfold maxLen; omega) (fun b hb _ => by omega) (fun b e => by have := (ZO.out.lt b e).1; omega)
      have HTR := Lib.hid TR
      clear TR
      go_wp2_with fail
      refine bodyPost_ret (v := .tuple #[.slice vb l.length vc, .bool true]) (by simp [results, Tryz.results102, go_sem]) rfl ?_
      rw [HFIN.out]
      exact ⟨_, ts, lf, rfl, ⟨_, _, _, rfl⟩, HTR.out, ZR.out, ZG.out, fun p hp => by cases hp; exact ⟨rfl, rfl⟩⟩

end Go.Proofs.YtlmpmjhanpkcnaaGreat

namespace Go.Proofs.YtlmpmjhanpkcnaaGreat
open Go.RowKit

def fltTm (b : Nat) : Tm := .mk 3 0 false [] b ⟨#[]⟩ []

/-- What a head stands for. -/
def boxT (g : Nat → Nat → Option (Tm × Nat)) (deep : Bool) (S : List Slt) (m : List Frg) (left : Nat) (w : Nat) : Option (Tm × Nat) :=
  (boxP m w).bind fun o =>
    if o.1 = 0 then (if 8 < o.2.length then none else (seqP g left o.2).map fun r => (.mk 6 0 false [] 0 ⟨#[]⟩ r.1, r.2))
    else if o.1 = 1 then (big12 o.2).map fun t => (t, left)
    else if o.1 = 2 then (if o.2.length ≠ 1 then none else if (fltTm (o.2.getD 0 0)).may = true then some (fltTm (o.2.getD 0 0), left) else none)
    else if o.1 = 5 then (sub12 deep S m o.2).map fun s => (.mk 9 0 false [] 0 s [], left)
    else (bytes12 deep S o.1 o.2).map fun p => (.mk 9 0 false [] 0 p.1 [], left)

theorem ref_at {w W : World} {b R : Nat} {tk tn : Int} {tneg : Bool} {tm : Value} {tbits : Int} {tbytes : ByteArray} {ta : Value} {t : Tm} {r : Option (Tm × Nat)} {left' : Int} (hb : w.heap.size ≤ b) (hbR : b ≠ R)
    (ht : TmAt (fun k => b < k) W (.agg #[.int .i64 tk, .int .i64 tn, .bool tneg, tm, .int .u64 tbits, .string tbytes, ta]) t) (hl : LfAt W R left') (hg : w.grownBy W (some R)) (hp : ∀ p, r = some p → p.1 = t ∧ left' = (p.2 : Nat)) :
    RefEnd w (set7 W b (.int .i64 tk) (.int .i64 tn) (.bool tneg) tm (.int .u64 tbits) (.string tbytes) ta) R r (.returned (.tuple #[.agg #[.int .i64 tk, .int .i64 tn, .bool tneg, tm, .int .u64 tbits, .string tbytes, ta], .bool r.isSome])) := by
  refine ⟨_, t, left', rfl, ?_, ?_, ?_, hp⟩
  · exact (ht.lift (fun k hk _ => set7_off _ _ _ _ _ _ _ _ _ (by omega))).mono (fun k hk _ => by omega)
  · unfold LfAt; rw [set7_off _ _ _ _ _ _ _ _ _ (fun q => hbR q.symm)]; exact hl
  · exact grown_then hg (set7_below (Below.refl _ _) hb _ _ _ _ _ _ _)

theorem ref_at' {w W : World} {b R : Nat} {tk tn : Int} {tneg : Bool} {tm : Value} {tbits : Int} {tbytes : ByteArray} {ta : Value} {t : Tm} {r : Option (Tm × Nat)} {left' : Int} {ok : Bool} (hok : ok = r.isSome) (hb : w.heap.size ≤ b) (hbR : b ≠ R)
    (ht : TmAt (fun k => b < k) W (.agg #[.int .i64 tk, .int .i64 tn, .bool tneg, tm, .int .u64 tbits, .string tbytes, ta]) t) (hl : LfAt W R left') (hg : w.grownBy W (some R)) (hp : ∀ p, r = some p → p.1 = t ∧ left' = (p.2 : Nat)) :
    RefEnd w (set7 W b (.int .i64 tk) (.int .i64 tn) (.bool tneg) tm (.int .u64 tbits) (.string tbytes) ta) R r (.returned (.tuple #[.agg #[.int .i64 tk, .int .i64 tn, .bool tneg, tm, .int .u64 tbits, .string tbytes, ta], .bool ok])) := by
  subst hok; exact ref_at hb hbR ht hl hg hp

theorem ref_none {w W : World} {b R : Nat} {r : Option (Tm × Nat)} {left' : Int} (hr : r = none) (hb : w.heap.size ≤ b) (hbR : b ≠ R) (hl : LfAt W R left') (hg : w.grownBy W (some R)) :
    RefEnd w (set7 W b (.int .i64 0) (.int .i64 0) (.bool false) (.slice none 0 0) (.int .u64 0) (.string ⟨#[]⟩) (.slice none 0 0)) R r (.returned (.tuple #[.agg #[.int .i64 0, .int .i64 0, .bool false, .slice none 0 0, .int .u64 0, .string ⟨#[]⟩, .slice none 0 0], .bool false])) := by
  have := ref_at (r := r) (left' := left') hb hbR (TmAt.zero (P := fun k => b < k) W) hl hg (fun p hp => by rw [hr] at hp; cases hp)
  rw [hr] at this ⊢
  exact this

abbrev fltV (b : Nat) : Array Value := #[.int .i64 3, .int .i64 0, .bool false, .slice none 0 0, .int .u64 b, .string ⟨#[]⟩, .slice none 0 0]

/-- A number with a point, in a variable; the result's own block. -/
def FgAt (w w9 : World) (b0 b1 R : Nat) (left : Int) (b : Nat) (c0 : Array Value) : Prop :=
  w9.heap[b0]? = some (.cells c0 81 (0, 0)) ∧ w9.heap[b1]? = some (.cells (fltV b) 81 (0, 0)) ∧ LfAt w9 R left ∧ w.grownBy w9 (some R)

theorem FgAt.below {w w9 V : World} {b0 b1 R : Nat} {left : Int} {b : Nat} {c0 : Array Value} (h : FgAt w w9 b0 b1 R left b c0) (hb : Below w9.heap.size w9 V) : FgAt w V b0 b1 R left b c0 :=
  ⟨(hb.block _ (lt_of_block h.1)).trans h.1, (hb.block _ (lt_of_block h.2.1)).trans h.2.1, h.2.2.1.below hb, grown_then h.2.2.2 (hb.mono h.2.2.2.size)⟩

theorem FgAt.set {w w9 : World} {b0 b1 R : Nat} {left : Int} {b : Nat} (hne : b1 ≠ b0) (hR : b0 ≠ R) (hw : w.heap.size ≤ b0) (h : FgAt w w9 b0 b1 R left b #[.int .i64 0, .int .i64 0, .bool false, .slice none 0 0, .int .u64 0, .string ⟨#[]⟩, .slice none 0 0]) :
    FgAt w (set7 w9 b0 (.int .i64 3) (.int .i64 0) (.bool false) (.slice none 0 0) (.int .u64 b) (.string ⟨#[]⟩) (.slice none 0 0)) b0 b1 R left b (fltV b) := by
  refine ⟨set7_heap h.1 _ _ _ _ _ _ _, (set7_off _ _ _ _ _ _ _ _ _ hne).trans h.2.1, ?_, grown_then h.2.2.2 (set7_below (Below.refl _ _) hw _ _ _ _ _ _ _)⟩
  unfold LfAt
  rw [set7_off _ _ _ _ _ _ _ _ _ (fun q => hR q.symm)]; exact h.2.2.1

abbrev SevF (W : World) (b : Nat) (x : Nat) : Prop :=
  W.cell? ⟨b, 0, none⟩ = some (.int .i64 3) ∧ W.cell? ⟨b, 1, none⟩ = some (.int .i64 0) ∧ W.cell? ⟨b, 2, none⟩ = some (.bool false) ∧ W.cell? ⟨b, 3, none⟩ = some (.slice none 0 0) ∧ W.cell? ⟨b, 4, none⟩ = some (.int .u64 x) ∧ W.cell? ⟨b, 5, none⟩ = some (.string ⟨#[]⟩) ∧ W.cell? ⟨b, 6, none⟩ = some (.slice none 0 0)

theorem sevF_of {W : World} {b x : Nat} (h : W.heap[b]? = some (.cells (fltV x) 81 (0, 0))) : SevF W b x :=
  ⟨cell_of h 0, cell_of h 1, cell_of h 2, cell_of h 3, cell_of h 4, cell_of h 5, cell_of h 6⟩

theorem fltAt (P : Nat → Prop) (W : World) {b : Nat} (hb : b < 18446744073709551616) : TmAt P W (.agg (fltV b)) (fltTm b) :=
  TmAt.leaf ⟨by decide, by decide⟩ ⟨by decide, by decide⟩ (MsP.nil W) (by unfold maxLen; simp) (by simp) hb (by unfold maxLen; decide)

theorem fltMay {b : Nat} (hb : b < 18446744073709551616) (W : World) : Calls Tryz.prog 75 #[.agg (fltV b)] W fun e w' => e = .returned (.bool (fltTm b).may) ∧ Below W.heap.size W w' :=
  refMay_any _ _ W (fltAt (fun _ => True) W hb).sc (by
    have h2 : (⟨#[]⟩ : ByteArray).size ≤ 1000 := by decide
    unfold fltTm Tm.small smalls
    simp [h2])

theorem flt_end {w w9 : World} {b0 b1 R left b : Nat} {c0 : Array Value} {r : Option (Tm × Nat)} {mb : Bool} (h : FgAt w w9 b0 b1 R left b c0) (hb : b < 18446744073709551616) (hr : r = if mb = true then some (fltTm b, left) else none) :
    RefEnd w w9 R r (.returned (.tuple #[.agg (fltV b), .bool mb])) := by
  refine ⟨_, fltTm b, left, ?_, fltAt _ _ hb, h.2.2.1, h.2.2.2, ?_⟩
  · rw [hr]; cases mb <;> rfl
  · intro p hp; rw [hr] at hp; cases mb
    · cases hp
    · cases hp; exact ⟨rfl, rfl⟩

end Go.Proofs.YtlmpmjhanpkcnaaGreat

namespace Go.Proofs.YtlmpmjhanpkcnaaGreat
open Go.RowKit

set_option maxHeartbeats 1500000 in
set_option maxRecDepth 100000 in
theorem boxed12_any (g : Nat → Nat → Option (Tm × Nat)) (L R : Nat) (d : Dmp) (S : List Slt) (c0 c1 c2 c3 c4 c5 c6 c7 c8 c9 : Value) (deep : Bool) (left x : Nat) (w0 w : World)
    (hg : ∀ (left x : Nat) (w : World), left ≤ L → x < 18446744073709551616 → LfAt w R left → Below w0.heap.size w0 w → Calls Tryz.prog 74 #[.agg (lkV c0 c1 c2 c3 c4 c5 c6 c7 c8 c9 deep), .int .u64 x, .pointer (some ⟨R, 0, none⟩)] w fun e w' => RefEnd w w' R (g left x) e)
    (hgl : ∀ left x p, g left x = some p → p.2 ≤ left) (hR : w0.heap.size ≤ R) (hlk : LkAt w0 (.agg (lkV c0 c1 c2 c3 c4 c5 c6 c7 c8 c9 deep)) d S deep) (hf : d.frags.length ≤ 100000) (hb : Below w0.heap.size w0 w) (h : LfAt w R left) (hx : x < 18446744073709551616) (hL : left ≤ L) :
    Calls Tryz.prog 103 #[.agg (lkV c0 c1 c2 c3 c4 c5 c6 c7 c8 c9 deep), .int .u64 x, .pointer (some ⟨R, 0, none⟩)] w fun e w' => RefEnd w w' R (boxT g deep S d.mem left x) e := by
  have hRlt : R < w.heap.size := lt_of_block h
  have HG := Lib.hid hg
  have HGL := Lib.hid hgl
  have HB := Lib.hid hb
  have HRD := Lib.hid h
  have HLK := Lib.hid hlk
  clear hg hgl hb h hlk
  obtain ⟨r, hr⟩ : ∃ r, boxT g deep S d.mem left x = r := ⟨_, rfl⟩
  have HR := Lib.hid hr
  rw [hr]
  clear hr
  go_enter Tryz.func103, Tryz.ntmps103
  go_wp2_with fail
  have T := two_at w (.cells (lkV c0 c1 c2 c3 c4 c5 c6 c7 c8 c9 deep) 53) (.cells #[.int .i64 0, .int .i64 0, .bool false, .slice none 0 0, .int .u64 0, .string ⟨#[]⟩, .slice none 0 0] 81)
  generalize (w.alloc (.cells (lkV c0 c1 c2 c3 c4 c5 c6 c7 c8 c9 deep) 53)).alloc (.cells #[.int .i64 0, .int .i64 0, .bool false, .slice none 0 0, .int .u64 0, .string ⟨#[]⟩, .slice none 0 0] 81) = wa at *
  have X0 := Lib.hid T.1
  have X1 := Lib.hid T.2.1
  have XS := Lib.hid T.2.2.1
  have XB := Lib.hid T.2.2.2
  clear T
  have HB1 := Lib.hid (HB.out.trans (XB.out.mono HB.out.size))
  refine (box_any d S deep _ x _ (HLK.out.below HB1.out) hf hx).mono ?_
  rintro e w3 ⟨⟨bv, rfl, hws⟩, hb3⟩
  have Y0 := Lib.hid ((hb3.block _ (by have := XS.out; omega)).trans X0.out)
  have Y1 := Lib.hid ((hb3.block _ (by have := XS.out; omega)).trans X1.out)
  have YS := Lib.hid (show w.heap.size + 2 ≤ w3.heap.size by have := hb3.size; have := XS.out; omega)
  have YB := Lib.hid (XB.out.trans (hb3.mono XB.out.size))
  have YR := Lib.hid (HRD.out.below YB.out)
  have HWS := Lib.hid hws
  have HB3 := Lib.hid (HB.out.trans (YB.out.mono HB.out.size))
  clear hb3 X0 X1 XS XB HB1 hws
  obtain ⟨bx, hbx⟩ : ∃ bx, boxP d.mem x = bx := ⟨_, rfl⟩
  have HBX := Lib.hid hbx
  rw [hbx] at HWS
  rw [hbx]
  have y0 := cell_of Y1.out 0
  have y1 := cell_of Y1.out 1
  have y2 := cell_of Y1.out 2
  have y3 := cell_of Y1.out 3
  have y4 := cell_of Y1.out 4
  have y5 := cell_of Y1.out 5
  have y6 := cell_of Y1.out 6
  have z0 := free_of Y1.out 0
  have z1 := free_of Y1.out 1
  have z2 := free_of Y1.out 2
  have z3 := free_of Y1.out 3
  have z4 := free_of Y1.out 4
  have z5 := free_of Y1.out 5
  have z6 := free_of Y1.out 6
  simp at y0 y1 y2 y3 y4 y5 y6
  cases bx with
  | none =>
    have HN := Lib.hid (show r = none by rw [← HR.out]; unfold boxT; rw [hbx]; rfl)
    simp only [Option.getD_none, Option.isSome_none]
    obtain ⟨_, _, ra, rc, rfl, _⟩ := HWS.out
    clear hbx
    go_wp2_with fail
    exact bodyPost_ret (v := .tuple #[.agg #[.int .i64 0, .int .i64 0, .bool false, .slice none 0 0, .int .u64 0, .string ⟨#[]⟩, .slice none 0 0], .bool false]) (by simp [results, Tryz.results103, go_sem, y0, y1, y2, y3, y4, y5, y6]) rfl (ref_none HN.out (by omega) (by omega) YR.out (grown_below YB.out))
  | some o =>
    obtain ⟨k, ws⟩ := o
    have HR2 := Lib.hid (show r = if k = 0 then (if 8 < ws.length then none else (seqP g left ws).map fun r => (.mk 6 0 false [] 0 ⟨#[]⟩ r.1, r.2))
      else if k = 1 then (big12 ws).map fun t => (t, left)
      else if k = 2 then (if ws.length ≠ 1 then none else if (fltTm (ws.getD 0 0)).may = true then some (fltTm (ws.getD 0 0), left) else none)
      else if k = 5 then (sub12 deep S d.mem ws).map fun s => (.mk 9 0 false [] 0 s [], left)
      else (bytes12 deep S k ws).map fun p => (.mk 9 0 false [] 0 p.1 [], left) by rw [← HR.out]; unfold boxT; rw [hbx]; rfl)
    simp only [Option.getD_some, Option.isSome_some] at HWS ⊢
    obtain ⟨_, _, ra, rc, rfl, _⟩ := id HWS.out
    clear hbx
    by_cases hk0 : k = 0
    · subst hk0
      by_cases h8 : 8 < ws.length
      · have HN := Lib.hid (show r = none by rw [HR2.out, if_pos rfl, if_pos h8])
        have q1 : (8 : Int) < (ws.length : Int) := by omega
        go_wp2_with fail
        exact bodyPost_ret (v := .tuple #[.agg #[.int .i64 0, .int .i64 0, .bool false, .slice none 0 0, .int .u64 0, .string ⟨#[]⟩, .slice none 0 0], .bool false]) (by simp [results, Tryz.results103, go_sem, y0, y1, y2, y3, y4, y5, y6]) rfl (ref_none HN.out (by omega) (by omega) YR.out (grown_below YB.out))
      · have HN := Lib.hid (show r = (seqP g left ws).map fun r => (.mk 6 0 false [] 0 ⟨#[]⟩ r.1, r.2) by rw [HR2.out, if_pos rfl, if_neg h8])
        have q1 : ¬ (8 : Int) < (ws.length : Int) := by omega
        have x0 := cell_of Y0.out 0
        have x1 := cell_of Y0.out 1
        have x2 := cell_of Y0.out 2
        have x3 := cell_of Y0.out 3
        have x4 := cell_of Y0.out 4
        have x5 := cell_of Y0.out 5
        have x6 := cell_of Y0.out 6
        have x7 := cell_of Y0.out 7
        have x8 := cell_of Y0.out 8
        have x9 := cell_of Y0.out 9
        have x10 := cell_of Y0.out 10
        simp at x0 x1 x2 x3 x4 x5 x6 x7 x8 x9 x10
        go_wp2_with fail
        refine (all12_any g L R c0 c1 c2 c3 c4 c5 c6 c7 c8 c9 deep _ left ws w0 _ HG.out HGL.out hR HB3.out YR.out HWS.out (by omega) hL).mono ?_
        rintro e w5 ⟨av, ts, lf, rfl, ⟨aa, an, ac, rfl⟩, ht, hlf, hgr, hp⟩
        have G1 := Lib.hid ((hgr.block (w.heap.size + 1) (by have := YS.out; omega) (by simp; omega)).trans Y1.out)
        have GG := Lib.hid (grown_trans (grown_below YB.out) hgr)
        have GT := Lib.hid (ht 6 ⟨by decide, by decide⟩)
        have GR := Lib.hid hlf
        have HP := Lib.hid hp
        have YS5 := Lib.hid (Nat.le_trans YS.out hgr.size)
        have z0 := free_of G1.out 0
        have z1 := free_of G1.out 1
        have z2 := free_of G1.out 2
        have z3 := free_of G1.out 3
        have z4 := free_of G1.out 4
        have z5 := free_of G1.out 5
        have z6 := free_of G1.out 6
        have y0 := cell_of G1.out 0
        have y1 := cell_of G1.out 1
        have y2 := cell_of G1.out 2
        have y3 := cell_of G1.out 3
        have y4 := cell_of G1.out 4
        have y5 := cell_of G1.out 5
        have y6 := cell_of G1.out 6
        simp at y0 y1 y2 y3 y4 y5 y6
        clear ht hlf hgr hp x0 x1 x2 x3 x4 x5 x6 x7 x8 x9 x10
        obtain ⟨ok, hok⟩ : ∃ ok, (seqP g left ws).isSome = ok := ⟨_, rfl⟩
        have HOK := Lib.hid (show ok = r.isSome by rw [HN.out, ← hok]; simp)
        rw [hok]
        clear hok
        go_wp2_with fail
        refine bodyPost_ret (v := .tuple #[.agg #[.int .i64 6, .int .i64 0, .bool false, .slice none 0 0, .int .u64 0, .string ⟨#[]⟩, .slice aa an ac], .bool ok]) (by simp [results, Tryz.results103, go_sem, y0, y1, y2, y3, y4, y5, y6]) rfl ?_
        rw [HOK.out]
        refine ref_at (by omega) (by omega) (GT.out.mono (fun b hb _ => by have := YS.out; omega)) GR.out GG.out (fun p hp => ?_)
        rw [HN.out] at hp
        cases hq : seqP g left ws with
        | none => rw [hq] at hp; cases hp
        | some q =>
          rw [hq] at hp
          cases hp
          have := HP.out q hq
          exact ⟨by dsimp only; rw [this.1], this.2⟩
    · have q0 : (k == 0) = false := by simpa using hk0
      by_cases hk1 : k = 1
      · subst hk1
        have HN := Lib.hid (show r = (big12 ws).map fun t => (t, left) by rw [HR2.out, if_neg (by decide), if_pos rfl])
        clear hk0
        go_wp2_with fail
        refine (big12_any ws _ _ HWS.out).mono ?_
        rintro e w5 ⟨tv, t, rfl, ht, hp, hb5⟩
        obtain ⟨tk, tn, tneg, tma, tml, tmc, tbits, tbytes, ta, tlen, tcap, rfl⟩ := ht.shape
        have G1 := Lib.hid ((hb5.block (w.heap.size + 1) (by have := YS.out; omega)).trans Y1.out)
        have GG := Lib.hid (grown_then (grown_below (R := R) YB.out) (hb5.mono YB.out.size))
        have GT := Lib.hid ht
        have GR := Lib.hid (YR.out.below hb5)
        have HP := Lib.hid hp
        have z0 := free_of G1.out 0
        have z1 := free_of G1.out 1
        have z2 := free_of G1.out 2
        have z3 := free_of G1.out 3
        have z4 := free_of G1.out 4
        have z5 := free_of G1.out 5
        have z6 := free_of G1.out 6
        have y0 := cell_of G1.out 0
        have y1 := cell_of G1.out 1
        have y2 := cell_of G1.out 2
        have y3 := cell_of G1.out 3
        have y4 := cell_of G1.out 4
        have y5 := cell_of G1.out 5
        have y6 := cell_of G1.out 6
        simp at y0 y1 y2 y3 y4 y5 y6
        clear ht hp hb5
        obtain ⟨ok, hok⟩ : ∃ ok, (big12 ws).isSome = ok := ⟨_, rfl⟩
        have HOK := Lib.hid (show ok = r.isSome by rw [HN.out, ← hok]; simp)
        rw [hok]
        clear hok
        go_wp2_with fail
        refine bodyPost_ret (v := .tuple #[.agg #[.int .i64 tk, .int .i64 tn, .bool tneg, .slice tma tml tmc, .int .u64 tbits, .string tbytes, .slice ta tlen tcap], .bool ok]) (by simp [results, Tryz.results103, go_sem, y0, y1, y2, y3, y4, y5, y6]) rfl ?_
        rw [HOK.out]
        refine ref_at (by omega) (by omega) (GT.out.mono (fun b hb _ => by have := YS.out; omega)) GR.out GG.out (fun p hp => ?_)
        rw [HN.out] at hp
        cases hq : big12 ws with
        | none => rw [hq] at hp; cases hp
        | some q =>
          rw [hq] at hp
          cases hp
          have := HP.out q hq
          exact ⟨this, rfl⟩
      · have q1 : (k == 1) = false := by simpa using hk1
        by_cases hk2 : k = 2
        · subst hk2
          have HN := Lib.hid (show r = if ws.length ≠ 1 then none else if (fltTm (ws.getD 0 0)).may = true then some (fltTm (ws.getD 0 0), left) else none by rw [HR2.out, if_neg (by decide), if_neg (by decide), if_pos rfl])
          clear hk0 hk1
          by_cases hl1 : ws.length = 1
          · obtain ⟨b, rfl⟩ : ∃ b, ws = [b] := by
              match ws, hl1 with
              | [b], _ => exact ⟨b, rfl⟩
            obtain ⟨gw, ow, rfl, -, hc1, hc2, kw, hbb, hws2⟩ := HWS.out.here
            have HN := Lib.hid (show r = if (fltTm b).may = true then some (fltTm b, left) else none by rw [HN.out, if_neg (by simp)]; rfl)
            obtain ⟨mb, hmb⟩ : ∃ mb, (fltTm b).may = mb := ⟨_, rfl⟩
            rw [hmb] at HN
            have HMY := Lib.hid (fun W => show Calls Tryz.prog 75 #[.agg (fltV b)] W fun e w' => e = .returned (.bool mb) ∧ Below W.heap.size W w' by rw [← hmb]; exact fltMay hbb W)
            have kw2 := (((Below.refl w3.heap.size w3).alloc (Nat.le_refl _) (.cells (fltV b) 81)).cell (World.block_lt_of_cell? w3 _ kw)).trans kw
            have F0 := Lib.hid (show FgAt w (w3.alloc (.cells (fltV b) 81)) (w.heap.size + 1) w3.heap.size R left b #[.int .i64 0, .int .i64 0, .bool false, .slice none 0 0, .int .u64 0, .string ⟨#[]⟩, .slice none 0 0] from
              ⟨(Below.heap_alloc _ _ _ (by have := YS.out; omega)).trans Y1.out, World.alloc_heap_new w3 _, by unfold LfAt; rw [Below.heap_alloc _ _ _ (lt_of_block YR.out)]; exact YR.out, grown_then (grown_below YB.out) ((Below.refl _ _).alloc YB.out.size _)⟩)
            have hl1' : ([b] : List Nat).length = 1 := rfl
            clear hmb hl1 hws2
            simp only [List.length_cons, List.length_nil]
            go_upto_region 16 with fail
            clear kw2 y0 y1 y2 y3 y4 y5 y6 z0 z1 z2 z3 z4 z5 z6
            generalize w3.alloc (.cells (fltV b) 81) = wf at *
            have hys := YS.out
            have FD := Lib.hid (show FgAt w wf.drew (w.heap.size + 1) w3.heap.size R left b #[.int .i64 0, .int .i64 0, .bool false, .slice none 0 0, .int .u64 0, .string ⟨#[]⟩, .slice none 0 0] from F0.out.below (Below.refl _ _).drew)
            have FS := Lib.hid (FD.out.set (by omega) (by omega) (by omega))
            have HMC := Lib.hid (fun (V : World) (c0 : Array Value) (hV : FgAt w V (w.heap.size + 1) w3.heap.size R left b c0) => (show Calls Tryz.prog 75 #[.agg (fltV b)] V fun e w' => e = .returned (.bool mb) ∧ FgAt w w' (w.heap.size + 1) w3.heap.size R left b c0 from (HMY.out V).mono fun e w' q => ⟨q.1, hV.below q.2⟩))
            have HM1 := Lib.hid (HMC.out _ _ FD.out)
            have HM7 := Lib.hid (HMC.out _ _ FS.out)
            have KD := Lib.hid (sevF_of FD.out.2.1)
            have KS := Lib.hid (sevF_of FS.out.2.1)
            have e0 := cell_of F0.out.2.1 0
            have e1 := cell_of F0.out.2.1 1
            have e2 := cell_of F0.out.2.1 2
            have e3 := cell_of F0.out.2.1 3
            have e4 := cell_of F0.out.2.1 4
            have e5 := cell_of F0.out.2.1 5
            have e6 := cell_of F0.out.2.1 6
            have f0 := free_of F0.out.1 0
            have f1 := free_of F0.out.1 1
            have f2 := free_of F0.out.1 2
            have f3 := free_of F0.out.1 3
            have f4 := free_of F0.out.1 4
            have f5 := free_of F0.out.1 5
            have f6 := free_of F0.out.1 6
            have a0 := cell_of F0.out.1 0
            have a1 := cell_of F0.out.1 1
            have a2 := cell_of F0.out.1 2
            have a3 := cell_of F0.out.1 3
            have a4 := cell_of F0.out.1 4
            have a5 := cell_of F0.out.1 5
            have a6 := cell_of F0.out.1 6
            simp at e0 e1 e2 e3 e4 e5 e6 a0 a1 a2 a3 a4 a5 a6
            go_region_held3 (fun w' => w'.cell? ⟨w3.heap.size, 0, none⟩ = some (.int .i64 3) ∧ w'.cell? ⟨w3.heap.size, 1, none⟩ = some (.int .i64 0) ∧ w'.cell? ⟨w3.heap.size, 2, none⟩ = some (.bool false) ∧ w'.cell? ⟨w3.heap.size, 3, none⟩ = some (.slice none 0 0) ∧ w'.cell? ⟨w3.heap.size, 4, none⟩ = some (.int .u64 b) ∧ w'.cell? ⟨w3.heap.size, 5, none⟩ = some (.string ⟨#[]⟩) ∧ w'.cell? ⟨w3.heap.size, 6, none⟩ = some (.slice none 0 0)) (first | with_reducible exact KS.out | with_reducible exact KS9.out | with_reducible exact K9.out | with_reducible exact KD.out | with_reducible exact ⟨e0, e1, e2, e3, e4, e5, e6⟩ | go_keep) (first
              | (go_at_call 75; with_reducible refine HM7.out.mono ?_; rintro e w9 ⟨rfl, hb9⟩
                 have X9 := Lib.hid hb9
                 have K9 := Lib.hid (sevF_of hb9.2.1)
                 have g0 := cell_of hb9.1 0
                 have g1 := cell_of hb9.1 1
                 have g2 := cell_of hb9.1 2
                 have g3 := cell_of hb9.1 3
                 have g4 := cell_of hb9.1 4
                 have g5' := cell_of hb9.1 5
                 have g6 := cell_of hb9.1 6
                 simp at g0 g1 g2 g3 g4 g5' g6
                 clear hb9)
              | (go_at_call 75; with_reducible refine HM1.out.mono ?_; rintro e w9 ⟨rfl, hb9⟩
                 have X9 := Lib.hid (hb9.set (by omega) (by omega) (by omega))
                 have K9 := Lib.hid (sevF_of hb9.2.1)
                 have KS9 := Lib.hid (sevF_of (hb9.set (by omega) (by omega) (by omega)).2.1)
                 have g0 := cell_of hb9.1 0
                 have g1 := cell_of hb9.1 1
                 have g2 := cell_of hb9.1 2
                 have g3 := cell_of hb9.1 3
                 have g4 := cell_of hb9.1 4
                 have g5' := cell_of hb9.1 5
                 have g6 := cell_of hb9.1 6
                 have y0 := free_of hb9.1 0
                 have y1 := free_of hb9.1 1
                 have y2 := free_of hb9.1 2
                 have y3 := free_of hb9.1 3
                 have y4 := free_of hb9.1 4
                 have y5 := free_of hb9.1 5
                 have y6 := free_of hb9.1 6
                 simp at g0 g1 g2 g3 g4 g5' g6
                 clear hb9))
            all_goals go_wp2_with fail
            all_goals refine bodyPost_ret (v := .tuple #[.agg (fltV b), .bool mb]) (by simp [results, Tryz.results103, go_sem, g0, g1, g2, g3, g4, g5', g6]) rfl ?_
            all_goals exact flt_end X9.out hbb HN.out
          · have q2 : ((ws.length : Int) != 1) = true := by simp; omega
            have HN := Lib.hid (show r = none by rw [HN.out, if_pos hl1])
            clear hl1
            go_wp2_with fail
            exact bodyPost_ret (v := .tuple #[.agg #[.int .i64 0, .int .i64 0, .bool false, .slice none 0 0, .int .u64 0, .string ⟨#[]⟩, .slice none 0 0], .bool false]) (by simp [results, Tryz.results103, go_sem, y0, y1, y2, y3, y4, y5, y6]) rfl (ref_none HN.out (by omega) (by omega) YR.out (grown_below YB.out))
        · have q2 : (k == 2) = false := by simpa using hk2
          by_cases hk5 : k = 5
          · subst hk5
            have HN := Lib.hid (show r = (sub12 deep S d.mem ws).map fun s => (.mk 9 0 false [] 0 s [], left) by rw [HR2.out, if_neg (by decide), if_neg (by decide), if_neg (by decide), if_pos rfl])
            clear hk0 hk1 hk2
            have x0 := cell_of Y0.out 0
            have x1 := cell_of Y0.out 1
            have x2 := cell_of Y0.out 2
            have x3 := cell_of Y0.out 3
            have x4 := cell_of Y0.out 4
            have x5 := cell_of Y0.out 5
            have x6 := cell_of Y0.out 6
            have x7 := cell_of Y0.out 7
            have x8 := cell_of Y0.out 8
            have x9 := cell_of Y0.out 9
            have x10 := cell_of Y0.out 10
            simp at x0 x1 x2 x3 x4 x5 x6 x7 x8 x9 x10
            go_wp2_with fail
            refine (sub12_any d S deep _ _ ws _ (HLK.out.below HB3.out) HWS.out hf).mono ?_
            rintro e w5 ⟨⟨b, ok, rfl, hok, hbs, hp⟩, hb5⟩
            have G1 := Lib.hid ((hb5.block (w.heap.size + 1) (by have := YS.out; omega)).trans Y1.out)
            have GG := Lib.hid (grown_then (grown_below (R := R) YB.out) (hb5.mono YB.out.size))
            have GR := Lib.hid (YR.out.below hb5)
            have HP := Lib.hid hp
            have HOK := Lib.hid (show ok = r.isSome by rw [HN.out, hok]; simp)
            have z0 := free_of G1.out 0
            have z1 := free_of G1.out 1
            have z2 := free_of G1.out 2
            have z3 := free_of G1.out 3
            have z4 := free_of G1.out 4
            have z5 := free_of G1.out 5
            have z6 := free_of G1.out 6
            have y0 := cell_of G1.out 0
            have y1 := cell_of G1.out 1
            have y2 := cell_of G1.out 2
            have y3 := cell_of G1.out 3
            have y4 := cell_of G1.out 4
            have y5 := cell_of G1.out 5
            have y6 := cell_of G1.out 6
            simp at y0 y1 y2 y3 y4 y5 y6
            clear hp hb5 hok x0 x1 x2 x3 x4 x5 x6 x7 x8 x9 x10
            go_wp2_with fail
            refine bodyPost_ret (v := .tuple #[.agg #[.int .i64 9, .int .i64 0, .bool false, .slice none 0 0, .int .u64 0, .string b, .slice none 0 0], .bool ok]) (by simp [results, Tryz.results103, go_sem, y0, y1, y2, y3, y4, y5, y6]) rfl ?_
            rw [HOK.out]
            refine ref_at (by omega) (by omega) (TmAt.leaf ⟨by decide, by decide⟩ ⟨by decide, by decide⟩ (MsP.nil _) (by unfold maxLen; simp) (by simp) (by decide) (by unfold maxLen; omega)) GR.out GG.out (fun p hp => ?_)
            rw [HN.out] at hp
            cases hq : sub12 deep S d.mem ws with
            | none => rw [hq] at hp; cases hp
            | some q =>
              rw [hq] at hp
              cases hp
              have := HP.out q hq
              exact ⟨by dsimp only; rw [this], rfl⟩
          · have q5 : (k == 5) = false := by simpa using hk5
            have HN := Lib.hid (show r = (bytes12 deep S k ws).map fun p => (.mk 9 0 false [] 0 p.1 [], left) by rw [HR2.out, if_neg hk0, if_neg hk1, if_neg hk2, if_neg hk5])
            clear hk0 hk1 hk2 hk5
            have x0 := cell_of Y0.out 0
            have x1 := cell_of Y0.out 1
            have x2 := cell_of Y0.out 2
            have x3 := cell_of Y0.out 3
            have x4 := cell_of Y0.out 4
            have x5 := cell_of Y0.out 5
            have x6 := cell_of Y0.out 6
            have x7 := cell_of Y0.out 7
            have x8 := cell_of Y0.out 8
            have x9 := cell_of Y0.out 9
            have x10 := cell_of Y0.out 10
            simp at x0 x1 x2 x3 x4 x5 x6 x7 x8 x9 x10
            go_wp2_with fail
            refine (bytes12_any d S deep _ _ k ws _ (HLK.out.below HB3.out) HWS.out).mono ?_
            rintro e w5 ⟨⟨b, n, ok, rfl, hok, hn4, hbs, hp⟩, hb5⟩
            have G1 := Lib.hid ((hb5.block (w.heap.size + 1) (by have := YS.out; omega)).trans Y1.out)
            have GG := Lib.hid (grown_then (grown_below (R := R) YB.out) (hb5.mono YB.out.size))
            have GR := Lib.hid (YR.out.below hb5)
            have HP := Lib.hid hp
            have HOK := Lib.hid (show ok = r.isSome by rw [HN.out, hok]; simp)
            have n4 : (n : Int) ≤ 400 := by omega
            have z0 := free_of G1.out 0
            have z1 := free_of G1.out 1
            have z2 := free_of G1.out 2
            have z3 := free_of G1.out 3
            have z4 := free_of G1.out 4
            have z5 := free_of G1.out 5
            have z6 := free_of G1.out 6
            have y0 := cell_of G1.out 0
            have y1 := cell_of G1.out 1
            have y2 := cell_of G1.out 2
            have y3 := cell_of G1.out 3
            have y4 := cell_of G1.out 4
            have y5 := cell_of G1.out 5
            have y6 := cell_of G1.out 6
            simp at y0 y1 y2 y3 y4 y5 y6
            clear hp hb5 hok x0 x1 x2 x3 x4 x5 x6 x7 x8 x9 x10
            cases ok
            · go_wp2_with fail
              refine bodyPost_ret (v := .tuple #[.agg #[.int .i64 9, .int .i64 0, .bool false, .slice none 0 0, .int .u64 0, .string b, .slice none 0 0], .bool false]) (by simp [results, Tryz.results103, go_sem, y0, y1, y2, y3, y4, y5, y6]) rfl ?_
              refine ref_at' HOK.out (by omega) (by omega) (TmAt.leaf ⟨by decide, by decide⟩ ⟨by decide, by decide⟩ (MsP.nil _) (by unfold maxLen; simp) (by simp) (by decide) (by unfold maxLen; omega)) GR.out GG.out (fun p hp => ?_)
              rw [HN.out] at hp
              cases hq : bytes12 deep S k ws with
              | none => rw [hq] at hp; cases hp
              | some q =>
                rw [hq] at hp
                cases hp
                have := HP.out q hq
                exact ⟨by dsimp only; rw [this], rfl⟩
            · go_wp2_with fail
              refine bodyPost_ret (v := .tuple #[.agg #[.int .i64 9, .int .i64 0, .bool false, .slice none 0 0, .int .u64 0, .string b, .slice none 0 0], .bool true]) (by simp [results, Tryz.results103, go_sem, y0, y1, y2, y3, y4, y5, y6]) rfl ?_
              refine ref_at' HOK.out (by omega) (by omega) (TmAt.leaf ⟨by decide, by decide⟩ ⟨by decide, by decide⟩ (MsP.nil _) (by unfold maxLen; simp) (by simp) (by decide) (by unfold maxLen; omega)) GR.out GG.out (fun p hp => ?_)
              rw [HN.out] at hp
              cases hq : bytes12 deep S k ws with
              | none => rw [hq] at hp; cases hp
              | some q =>
                rw [hq] at hp
                cases hp
                have := HP.out q hq
                exact ⟨by dsimp only; rw [this], rfl⟩

end Go.Proofs.YtlmpmjhanpkcnaaGreat
