/-
  Collect: chapter 12's own Reached.
  Collect: chapter 12's own old, handles and Why where nothing is old and there are no handles.
-/
import Derived.Test.YtlmpmjhanpkcnaaGreatN35
import Derived.Test.YtlmpmjhanpkcnaaGreatN13
set_option linter.unusedVariables false
set_option linter.unusedSimpArgs false
namespace Go.Proofs.YtlmpmjhanpkcnaaGreat
open Go.RowKit

theorem walk_any (d : Dmp) (S : List Slt) (c0 c1 c2 c3 c4 c5 c6 c7 c8 c9 : Value) (deep : Bool) (wz : World) (R : Nat) (hlk : LkAt wz (.agg #[c0, c1, c2, c3, c4, c5, c6, c7, c8, c9, .bool deep]) d S deep) (hf : d.frags.length ≤ 100000) (hN : wordsN d.mem ≤ 5000) (hm : MemB d.mem) (hR : wz.heap.size ≤ R) :
    ∀ (f : Nat) (s : Mt) (x : Nat) (K : List (Nat × Obj)) (w : World) (av hv : Value), MtOk d.mem s → 2 * wordsN d.mem + 1 ≤ f + s.at_.length → x < 18446744073709551616 → Below wz.heap.size wz w → MtAt R K s w av hv →
      Calls Tryz.prog 33 #[.agg #[c0, c1, c2, c3, c4, c5, c6, c7, c8, c9, .bool deep], .pointer (some ⟨R, 0, none⟩), .int .u64 x] w fun e w' => WalkEnd R K (walkP d.mem f s x) w w' e := by
  intro f
  induction f with
  | zero => intro s x K w av hv hs hfu; have := hs.count; omega
  | succ f ih => exact walk_step d S c0 c1 c2 c3 c4 c5 c6 c7 c8 c9 deep wz R hlk hf hN hm hR f ih

/-- All that has been met from some roots on. -/
def metP (m : List Frg) (roots : List Nat) : Mt := roots.foldl (walkP m (2 * wordsN m + 1)) ⟨[], 0, []⟩

theorem mtOk_nil (m : List Frg) : MtOk m ⟨[], 0, []⟩ := ⟨List.nodup_nil, (fun x hx => by cases hx), by simp, by simp⟩

def MetEnd (w w' : World) (s : Mt) (e : Ending) : Prop := ∃ av hv, e = .returned (.agg #[av, .int .i64 s.words, hv]) ∧ w'.ownsRow w.heap.size 47 1 av s.at_.length (csW s.at_) ∧ w'.ownsRow w.heap.size 3 1 hv s.hs.length (csI s.hs) ∧ Below w.heap.size w w'

set_option maxHeartbeats 8000000 in
set_option maxRecDepth 100000 in
theorem reached12_any (d : Dmp) (v : Value) (w : World) (hd : DmAt w v d) (hf : d.frags.length ≤ 100000) (hN : wordsN d.mem ≤ 5000) (hm : MemB d.mem) (hrl : d.roots.length ≤ 100000) :
    Calls Tryz.prog 13 #[v] w fun e w' => MetEnd w w' (metP d.mem d.roots) e := by
  obtain ⟨wa1, wc1, wa2, wc2, fa, fc, ra, rc, ha, hc, rfl⟩ := hd.shape
  have HR := Lib.hid hd.ws
  have HLK := Lib.hid (show LkAt w (.agg #[.int .i64 d.young.1, .slice wa1 d.young.2.length wc1, .int .i64 d.old.1, .slice wa2 d.old.2.length wc2, .int .i64 d.size, .int .i64 d.mark, .slice fa d.frags.length fc, .slice ra d.roots.length rc, .slice ha d.handles.length hc, .slice none 0 0, .bool false]) d [] false from ⟨_, _, _, _, _, _, _, _, rfl, hd, slAt_nil _⟩)
  have HF := Lib.hid hf
  have HN := Lib.hid hN
  have HM := Lib.hid hm
  have HRL := Lib.hid hrl
  clear hd hf hN hm hrl
  have T4 := four_at w (.cells #[.int .i64 d.young.1, .slice wa1 d.young.2.length wc1, .int .i64 d.old.1, .slice wa2 d.old.2.length wc2, .int .i64 d.size, .int .i64 d.mark, .slice fa d.frags.length fc, .slice ra d.roots.length rc, .slice ha d.handles.length hc] 28) (.cells #[.slice none 0 0, .int .i64 0, .slice none 0 0] 39) (.cells #[.int .i64 d.young.1, .slice wa1 d.young.2.length wc1, .int .i64 d.old.1, .slice wa2 d.old.2.length wc2, .int .i64 d.size, .int .i64 d.mark, .slice fa d.frags.length fc, .slice ra d.roots.length rc, .slice ha d.handles.length hc, .slice none 0 0, .bool false] 53) (.cells #[.slice none 0 0, .int .i64 0, .slice none 0 0] 39)
  simp only [get_drew] at T4
  have TS : w.heap.size + 4 = ((((w.alloc (.cells #[.int .i64 d.young.1, .slice wa1 d.young.2.length wc1, .int .i64 d.old.1, .slice wa2 d.old.2.length wc2, .int .i64 d.size, .int .i64 d.mark, .slice fa d.frags.length fc, .slice ra d.roots.length rc, .slice ha d.handles.length hc] 28)).alloc (.cells #[.slice none 0 0, .int .i64 0, .slice none 0 0] 39)).alloc (.cells #[.int .i64 d.young.1, .slice wa1 d.young.2.length wc1, .int .i64 d.old.1, .slice wa2 d.old.2.length wc2, .int .i64 d.size, .int .i64 d.mark, .slice fa d.frags.length fc, .slice ra d.roots.length rc, .slice ha d.handles.length hc, .slice none 0 0, .bool false] 53)).alloc (.cells #[.slice none 0 0, .int .i64 0, .slice none 0 0] 39)).heap.size := by simp
  obtain ⟨Z, hZ⟩ : ∃ Z, metP d.mem d.roots = Z := ⟨_, rfl⟩
  have HZ := Lib.hid hZ
  rw [hZ]
  clear hZ
  go_enter Tryz.func13, Tryz.ntmps13
  go_upto_region 3 with fail
  obtain ⟨t1, t2, t3, t4, t5⟩ := T4
  have t5 := undrew t5
  generalize (((w.alloc (.cells #[.int .i64 d.young.1, .slice wa1 d.young.2.length wc1, .int .i64 d.old.1, .slice wa2 d.old.2.length wc2, .int .i64 d.size, .int .i64 d.mark, .slice fa d.frags.length fc, .slice ra d.roots.length rc, .slice ha d.handles.length hc] 28)).alloc (.cells #[.slice none 0 0, .int .i64 0, .slice none 0 0] 39)).alloc (.cells #[.int .i64 d.young.1, .slice wa1 d.young.2.length wc1, .int .i64 d.old.1, .slice wa2 d.old.2.length wc2, .int .i64 d.size, .int .i64 d.mark, .slice fa d.frags.length fc, .slice ra d.roots.length rc, .slice ha d.handles.length hc, .slice none 0 0, .bool false] 53)).alloc (.cells #[.slice none 0 0, .int .i64 0, .slice none 0 0] 39) = W at *
  have X1 := Lib.hid t1
  have X2 := Lib.hid t2
  have X3 := Lib.hid (show W.heap[w.heap.size + 1 + 1]? = _ from t3)
  have B0 := Lib.hid t5
  have M0 := Lib.hid (show MtAt (w.heap.size + 1 + 1 + 1) [] ⟨[], 0, []⟩ W (.slice none 0 0) (.slice none 0 0) from ⟨t4, ⟨by simp [csW], .inl ⟨rfl, rfl⟩⟩, ⟨by simp [csI], .inl ⟨rfl, rfl⟩⟩, (fun b e => by cases e), fun p hp => by cases hp⟩)
  clear t1 t2 t3 t4 t5 TS
  go_wp2_with fail
  go_loopw [5] (fun i wr => ∃ (j : Nat) (s : Mt) (av hv : Value), j ≤ d.roots.length ∧ i = .int .i64 j ∧ Hid (s = (d.roots.take j).foldl (walkP d.mem (2 * wordsN d.mem + 1)) ⟨[], 0, []⟩) ∧ Hid (MtAt (w.heap.size + 1 + 1 + 1) [] s wr av hv) ∧ Hid (Below (w.heap.size + 1 + 1 + 1) W wr) ∧ Hid (MtOk d.mem s)) (fun i _ => d.roots.length - (intOf i).toNat)
  case atStart => exact ⟨0, _, _, _, by omega, rfl, Lib.hid rfl, M0, Lib.hid (Below.refl _ _), Lib.hid (mtOk_nil d.mem)⟩
  case round =>
    obtain ⟨j, s, av, hv, hj, rfl, HSE, HMr, HBr, HOr⟩ := hrel
    have Y1 := Lib.hid ((HBr.out.block _ (by omega)).trans X1.out)
    have y7 := cell_of Y1.out 7
    simp at y7
    by_cases hlt : j < d.roots.length
    · have q1 : (j : Int) < (d.roots.length : Int) := by omega
      have q0 : (0 : Int) ≤ (j : Int) := by omega
      obtain ⟨g, o, hva⟩ : ∃ g o, ra = some ⟨g, o, none⟩ := by
        obtain ⟨_, _, a', c', e, _, _, hc⟩ := HR.out
        simp only [Value.slice.injEq, true_and] at e
        obtain ⟨rfl, rfl⟩ := e
        obtain ⟨g, o, e, _⟩ := hc j hlt
        exact ⟨g, o, e⟩
      subst hva
      have hu0 := HR.out.at (j := j) hlt
      obtain ⟨u0, hu0e⟩ : ∃ u0, d.roots.getD j 0 = u0 := ⟨_, rfl⟩
      have HU0 := Lib.hid (show u0 < 18446744073709551616 by rw [← hu0e]; exact HR.out.2.1 _ (getD_mem hlt))
      rw [hu0e] at hu0
      have HUE := Lib.hid (show d.roots[j] = u0 by rw [← hu0e, List.getD_eq_getElem?_getD, List.getElem?_eq_getElem hlt]; rfl)
      have HBW := Lib.hid (B0.out.trans (HBr.out.mono (by omega)))
      have y0 := (HBW.out.cell (World.block_lt_of_cell? w _ hu0)).trans hu0
      have HLT := Lib.hid hlt
      have QK := Lib.hid (show j + 1 ≤ d.roots.length ∧ d.roots.length - (j + 1) < d.roots.length - j by omega)
      have Y3 := Lib.hid ((HBr.out.block _ (by omega)).trans X3.out)
      have x0 := cell_of Y3.out 0
      have x1 := cell_of Y3.out 1
      have x2 := cell_of Y3.out 2
      have x3 := cell_of Y3.out 3
      have x4 := cell_of Y3.out 4
      have x5 := cell_of Y3.out 5
      have x6 := cell_of Y3.out 6
      have x7 := cell_of Y3.out 7
      have x8 := cell_of Y3.out 8
      have x9 := cell_of Y3.out 9
      have x10 := cell_of Y3.out 10
      simp at x0 x1 x2 x3 x4 x5 x6 x7 x8 x9 x10
      clear hu0 hu0e
      go_upto_region 6 with fail
      refine wp_region_still_tail 6 (by kernel_rfl) (by kernel_rfl) ?_
      simp only [List.take_succ_cons, List.take_zero, List.drop_succ_cons, List.drop_zero]
      change wpStill _ _ wr.drew (fun a' => wpList _ _ _ _ a' wr.drew) _ _
      have x0 : wr.drew.cell? _ = _ := x0
      have x1 : wr.drew.cell? _ = _ := x1
      have x2 : wr.drew.cell? _ = _ := x2
      have x3 : wr.drew.cell? _ = _ := x3
      have x4 : wr.drew.cell? _ = _ := x4
      have x5 : wr.drew.cell? _ = _ := x5
      have x6 : wr.drew.cell? _ = _ := x6
      have x7 : wr.drew.cell? _ = _ := x7
      have x8 : wr.drew.cell? _ = _ := x8
      have x9 : wr.drew.cell? _ = _ := x9
      have x10 : wr.drew.cell? _ = _ := x10
      have y7 : wr.drew.cell? _ = _ := y7
      have y0 : wr.drew.cell? _ = _ := y0
      have DB := Lib.hid (show Below wr.heap.size wr wr.drew from (Below.refl _ _).drew)
      have HMrd := Lib.hid (HMr.out.lift DB.out)
      have HBrd := Lib.hid (HBr.out.drew)
      generalize wr.drew = wd at *
      try simp at x0 x1 x2 x3 x4 x5 x6 x7 x8 x9 x10 y7 y0
      repeat still_step
      refine wpStill_nil ?_
      go_wp2_with fail
      have HBWd := Lib.hid (HBW.out.trans (DB.out.mono HBW.out.size))
      have HWA := walk_any d [] _ _ _ _ _ _ _ _ _ _ false w (w.heap.size + 1 + 1 + 1) HLK.out HF.out HN.out HM.out (by omega) (2 * wordsN d.mem + 1) s u0 [] wd _ _ HOr.out (by omega) HU0.out HBWd.out HMrd.out
      refine HWA.mono ?_
      clear HWA
      rintro e w5 ⟨rfl, ⟨av5, hv5, hM5⟩, hb5⟩
      have HM5 := Lib.hid hM5
      have HB5 := Lib.hid (HBrd.out.trans hb5)
      have HK1 := Lib.hid (walk_ok HM.out HN.out (2 * wordsN d.mem + 1) s u0 HOr.out HU0.out)
      clear hM5 hb5 x0 x1 x2 x3 x4 x5 x6 x7 x8 x9 x10 y7 y0
      have q5 : IntKind.i64.wrap ((j : Int) + 1) = (j : Int) + 1 := IntWalk.i64_in _ (by have := HRL.out; have := QK.out.1; omega)
      go_wp2_with fail
      go_roundw
      case rel => exact ⟨j + 1, _, _, _, QK.out.1, by go_num, Lib.hid (by rw [List.take_succ_eq_append_getElem HLT.out, List.foldl_append, ← HSE.out, HUE.out]; rfl), HM5, HB5, Lib.hid HK1.out.1⟩
      case measure => clear q5; have := QK.out.2; simp [intOf]; omega
    · obtain rfl : j = d.roots.length := by omega
      have q1 : ¬ (d.roots.length : Int) < (d.roots.length : Int) := by omega
      have HSF := Lib.hid (show s = Z by rw [← HZ.out, HSE.out, List.take_length]; rfl)
      obtain ⟨aa, ac, rfl⟩ := own_slice HMr.out.oa
      obtain ⟨hha, hhc, rfl⟩ := own_slice HMr.out.oh
      have z0 := cell_of HMr.out.blk 0
      have z1 := cell_of HMr.out.blk 1
      have z2 := cell_of HMr.out.blk 2
      have Y2 := Lib.hid ((HBr.out.block _ (by omega)).trans X2.out)
      have v0 := cell_of Y2.out 0
      have v1 := cell_of Y2.out 1
      have v2 := cell_of Y2.out 2
      have w0 := free_of Y2.out 0
      have w1 := free_of Y2.out 1
      have w2 := free_of Y2.out 2
      simp at z0 z1 z2 v0 v1 v2
      go_wp2_with fail
      have HH := Lib.hid (set_of (set_of (set_of Y2.out 0 (.slice aa s.at_.length ac)) 1 (.int .i64 s.words)) 2 (.slice hha s.hs.length hhc))
      have OA := Lib.hid (own_set (own_set (own_set HMr.out.oa (g := w.heap.size + 1) (i := 0) (by omega) (.slice aa s.at_.length ac)) (g := w.heap.size + 1) (i := 1) (by omega) (.int .i64 s.words)) (g := w.heap.size + 1) (i := 2) (by omega) (.slice hha s.hs.length hhc))
      have OH := Lib.hid (own_set (own_set (own_set HMr.out.oh (g := w.heap.size + 1) (i := 0) (by omega) (.slice aa s.at_.length ac)) (g := w.heap.size + 1) (i := 1) (by omega) (.int .i64 s.words)) (g := w.heap.size + 1) (i := 2) (by omega) (.slice hha s.hs.length hhc))
      have HBF := Lib.hid ((((B0.out.trans (HBr.out.mono (by omega))).setCell (p := ⟨w.heap.size + 1, 0, none⟩) (Nat.le_succ _) (.slice aa s.at_.length ac)).setCell (p := ⟨w.heap.size + 1, 1, none⟩) (Nat.le_succ _) (.int .i64 s.words)).setCell (p := ⟨w.heap.size + 1, 2, none⟩) (Nat.le_succ _) (.slice hha s.hs.length hhc))
      clear z0 z1 z2 v0 v1 v2 w0 w1 w2
      generalize ((wr.setCell ⟨w.heap.size + 1, 0, none⟩ (.slice aa s.at_.length ac)).setCell ⟨w.heap.size + 1, 1, none⟩ (.int .i64 s.words)).setCell ⟨w.heap.size + 1, 2, none⟩ (.slice hha s.hs.length hhc) = V at *
      have v0 := cell_of HH.out 0
      have v1 := cell_of HH.out 1
      have v2 := cell_of HH.out 2
      simp at v0 v1 v2
      have HSX := HSF.out
      exact bodyPost_ret (v := .agg #[.slice aa s.at_.length ac, .int .i64 s.words, .slice hha s.hs.length hhc]) (by simp [results, Tryz.results13, go_sem, v0, v1, v2]) rfl (by rw [← HSX]; exact ⟨_, _, rfl, own_low OA.out (by omega), own_low OH.out (by omega), HBF.out⟩)

end Go.Proofs.YtlmpmjhanpkcnaaGreat

namespace Go.Proofs.YtlmpmjhanpkcnaaGreat
open Go.RowKit

set_option maxHeartbeats 4000000 in
theorem old0_any (d : Dmp) (v : Value) (w : World) (hd : DmAt w v d) (h0 : d.old.2 = []) : Calls Tryz.prog 23 #[v] w fun e w' => TrueEnd w w' e := by
  obtain ⟨wa1, wc1, wa2, wc2, fa, fc, ra, rc, ha, hc, rfl⟩ := hd.shape
  have e0 : d.old.2.length = 0 := by rw [h0]; rfl
  rw [e0]
  clear hd h0 e0
  have T := one_at w (.cells #[.int .i64 d.young.1, .slice wa1 d.young.2.length wc1, .int .i64 d.old.1, .slice wa2 0 wc2, .int .i64 d.size, .int .i64 d.mark, .slice fa d.frags.length fc, .slice ra d.roots.length rc, .slice ha d.handles.length hc] 28)
  go_enter Tryz.func23, Tryz.ntmps23
  go_upto_region 1 with fail
  generalize w.alloc (.cells #[.int .i64 d.young.1, .slice wa1 d.young.2.length wc1, .int .i64 d.old.1, .slice wa2 0 wc2, .int .i64 d.size, .int .i64 d.mark, .slice fa d.frags.length fc, .slice ra d.roots.length rc, .slice ha d.handles.length hc] 28) = W at *
  obtain ⟨t1, -, t3⟩ := T
  have y3 := cell_of t1 3
  simp at y3
  go_wp2_with fail
  go_loopw [4] (fun i wr => i = .int .i64 0 ∧ W = wr) (fun _ _ => 0)
  case atStart => exact ⟨rfl, rfl⟩
  case round =>
    obtain ⟨rfl, rfl⟩ := hrel
    go_wp2_with fail
    go_ret
    exact ⟨rfl, t3⟩

end Go.Proofs.YtlmpmjhanpkcnaaGreat
