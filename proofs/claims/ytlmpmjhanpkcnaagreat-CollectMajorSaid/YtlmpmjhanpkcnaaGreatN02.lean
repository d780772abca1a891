/-
  The integer of a head's words: mem.Big.
-/
import Derived.Test.YtlmpmjhanpkcnaaGreatN01
import Derived.Deep.RegionHeld3
import Derived.Deep.RegionWith
import Derived.StillTailTactics
set_option linter.unusedVariables false
set_option linter.unusedSimpArgs false
namespace Go.Proofs.YtlmpmjhanpkcnaaGreat
open Go.RowKit

theorem info120 : (Tryz.prog.info? 144).map (fun i => (i.zero, i.size, i.bytes)) = some (some (.int .u32 0), 1, 4) := by kernel_rfl

/-- Limbs as cells. -/
def cs32 (l : List Nat) : List Value := l.map fun b => Value.int .u32 (b : Nat)

theorem limbsP_snoc (l : List Nat) {k : Nat} (h : k < l.length) : limbsP (l.take (k + 1)) = limbsP (l.take k) ++ [l[k] % 4294967296, l[k] / 4294967296] := by
  unfold limbsP
  rw [List.take_succ_eq_append_getElem h, List.flatMap_append]
  simp only [List.flatMap_cons, List.flatMap_nil, List.append_nil]

theorem limbsP_lt {l : List Nat} (h : ∀ x ∈ l, x < 18446744073709551616) : ∀ x ∈ limbsP l, x < 4294967296 := by
  intro x hx
  unfold limbsP at hx
  rw [List.mem_flatMap] at hx
  obtain ⟨a, ha, hx⟩ := hx
  have := h a ha
  simp only [List.mem_cons, List.not_mem_nil, or_false] at hx
  rcases hx with rfl | rfl <;> omega

theorem own_cell32 {w : World} {base g n cap : Nat} {l : List Nat} (h : w.ownsRow base 144 1 (.slice (some ⟨g, 0, none⟩) n cap) n (cs32 l)) {j : Nat} (hj : j < l.length) : w.cell? ⟨g, j, none⟩ = some (.int .u32 l[j]) := by
  have hc := h.cells rfl j (.int .u32 l[j]) (by simp [cs32, hj])
  have e : (⟨g, 0, none⟩ : Addr).add j = ⟨g, j, none⟩ := by unfold Addr.add; split <;> simp_all
  rw [← e]; exact hc

theorem Ms.first {w : World} {base n k : Nat} {v : Value} {l : List Nat} (h : w.ownsRow base 144 1 v n (cs32 l)) (hl : l.length = n) (hk : k ≤ n) : ∃ a cap, v = .slice a n cap ∧ k ≤ cap ∧ Ms w (.slice a k cap) (l.take k) := by
  have hlt : (l.take k).length = k := by rw [List.length_take]; omega
  rcases h.2 with ⟨rfl, h0⟩ | ⟨g, cap, cur, rfl, _, _, hnc, _, _, _⟩
  · subst h0
    obtain rfl : k = 0 := by omega
    exact ⟨none, 0, rfl, by omega, none, 0, by simp, fun j hj => by simp at hj⟩
  · refine ⟨some ⟨g, 0, none⟩, cap, rfl, by omega, some ⟨g, 0, none⟩, cap, by rw [hlt], fun j hj => ⟨g, 0, rfl, ?_⟩⟩
    rw [hlt] at hj
    rw [Nat.zero_add, own_cell32 h (by omega)]
    simp

theorem two_at (w : World) (o1 o2 : Obj) : ((w.alloc o1).alloc o2).heap[w.heap.size]? = some o1 ∧ ((w.alloc o1).alloc o2).heap[w.heap.size + 1]? = some o2 ∧ w.heap.size + 2 = ((w.alloc o1).alloc o2).heap.size ∧ Below w.heap.size w ((w.alloc o1).alloc o2) := by
  refine ⟨?_, ?_, by simp, ((Below.refl _ _).alloc (Nat.le_refl _) _).alloc (by simp) _⟩
  · rw [Below.heap_alloc _ _ _ (by simp)]; exact World.alloc_heap_new w _
  · have h : (w.alloc o1).heap.size = w.heap.size + 1 := by simp
    rw [← h]; exact World.alloc_heap_new _ _

theorem Ms.set {w : World} {v : Value} {l : List Nat} {b i : Nat} (h : Ms w v l) (hk : ∀ k, v.ownBlock = some k → b < k) (u : Value) : Ms (w.setCell ⟨b, i, none⟩ u) v l := by
  obtain ⟨a, cap, rfl, hc⟩ := h
  refine ⟨a, cap, rfl, fun j hj => ?_⟩
  obtain ⟨g, o, rfl, k⟩ := hc j hj
  have := hk g rfl
  exact ⟨g, o, rfl, by rw [World.cell?_of_block (w := w) (Below.heap_setCell _ _ _ _ (by simp; omega))]; exact k⟩

theorem cell_of {w : World} {b : Nat} {c : Array Value} {t : TypeId} (h : w.heap[b]? = some (.cells c t (0, 0))) (i : Nat) : w.cell? ⟨b, i, none⟩ = c[i]? := by simp [World.cell?, h]
theorem free_of {w : World} {b : Nat} {c : Array Value} {t : TypeId} (h : w.heap[b]? = some (.cells c t (0, 0))) (i : Nat) : w.frozen? ⟨b, i, none⟩ = false := by simp [World.frozen?, h]
theorem set_of {w : World} {b : Nat} {c : Array Value} {t : TypeId} (h : w.heap[b]? = some (.cells c t (0, 0))) (i : Nat) (u : Value) : (w.setCell ⟨b, i, none⟩ u).heap[b]? = some (.cells (c.setIfInBounds i u) t (0, 0)) := by
  simp [World.setCell, h, Array.getElem?_modify]

def BigEnd (B : Nat) (w' : World) (l : List Nat) (e : Ending) : Prop := ∃ mv, e = .returned (.tuple #[.agg #[.bool (bigNeg l), mv], .bool (bigP l)]) ∧ Ms w' mv (bigMag l) ∧ ∀ k, mv.ownBlock = some k → B < k

set_option maxHeartbeats 8000000 in
set_option maxRecDepth 100000 in
theorem big_any (l : List Nat) (lv : Value) (w : World) (h : Ws w lv l) (h2 : 2 ≤ l.length) (h3 : l.length ≤ 100000) :
    Calls Tryz.prog 109 #[lv] w fun e w' => BigEnd w.heap.size w' l e ∧ Below w.heap.size w w' := by
  obtain ⟨i0, hi, hz0, hz1, hz2⟩ := info_parts info120
  have HW := Lib.hid h
  obtain ⟨hml, hu, a, cap, rfl, hlc, hcm, hc⟩ := h
  obtain ⟨g, o, rfl, _⟩ := hc 0 (by omega)
  obtain ⟨g', o', q, k1⟩ := hc 1 (by omega)
  cases q
  have hn := hu l[1] (List.getElem_mem _)
  have hgd : l.getD 1 0 = l[1] := by simp [List.getD, List.getElem?_eq_getElem (show 1 < l.length by omega)]
  obtain ⟨n, hnn⟩ : ∃ n, l[1] = n := ⟨_, rfl⟩
  rw [hnn] at k1 hn hgd
  have hkg := World.block_lt_of_cell? w _ k1
  simp only at hkg
  have HC := Lib.hid hc
  have HU := Lib.hid hu
  have HGD := Lib.hid hgd
  unfold maxLen at hml
  clear hc hu hgd hnn
  have q0 : (1 : Int) < (l.length : Int) := by omega
  obtain ⟨neg, hneg⟩ : ∃ neg, ((n : Int) == 1) = neg := ⟨_, rfl⟩
  have HNEG := Lib.hid (show bigNeg l = neg by unfold bigNeg; rw [HGD.out, ← hneg]; by_cases e : n = 1 <;> simp [e]; omega)
  have q4 : IntKind.i64.wrap ((l.length : Int) - 2) = (l.length : Int) - 2 := IntWalk.i64_in _ (by omega)
  go_enter Tryz.func109, Tryz.ntmps109
  go_upto_region 2 with fail
  go_cut [16, 17, 18] from 15 to 18 (fun v c i wx => Hid (Ws w v (l.drop 2)) ∧ c = .int .i64 ((l.length - 2 : Nat) : Int) ∧ i = .int .i64 0 ∧ Hid (wx.heap[w.heap.size]? = some (.cells #[.bool false, .slice none 0 0] 78 (0, 0))) ∧ Hid (wx.heap[w.heap.size + 1]? = some (.cells #[.bool neg, .slice none 0 0] 78 (0, 0))) ∧ Hid (w.heap.size + 2 = wx.heap.size) ∧ Hid (Below w.heap.size w wx))
  case first =>
    have HCUT := Lib.hid (Ws.cut HW.out (k := 2) (n := l.length - 2) (by omega))
    have HT := Lib.hid (show (l.drop 2).take (l.length - 2) = l.drop 2 from List.take_of_length_le (by rw [List.length_drop]; omega))
    by_cases hc2 : cap = 2
    · have r0 : l.length - 2 = 0 := by omega
      have HNil := Lib.hid (show l.drop 2 = [] from List.eq_nil_of_length_eq_zero (by rw [List.length_drop]; omega))
      subst hc2
      go_wp2_with fail
      go_meet
      exact ⟨Lib.hid (by rw [HNil.out]; exact ⟨by simp, (fun x hx => by cases hx), _, 0, rfl, by simp, by unfold maxLen; omega, fun j hj => by simp at hj⟩), by rw [r0]; rfl, rfl, Lib.hid (two_at _ _ _).1, Lib.hid (two_at _ _ _).2.1, Lib.hid (two_at _ _ _).2.2.1, Lib.hid (two_at _ _ _).2.2.2⟩
    · have r1 : ¬ cap - 2 = 0 := by omega
      have r2 : ¬ cap = 2 := hc2
      have r3 : 2 < cap := by omega
      go_wp2_with fail
      go_meet
      exact ⟨Lib.hid (by rw [← HT.out]; exact HCUT.out), rfl, rfl, Lib.hid (two_at _ _ _).1, Lib.hid (two_at _ _ _).2.1, Lib.hid (two_at _ _ _).2.2.1, Lib.hid (two_at _ _ _).2.2.2⟩
  case rest =>
    obtain ⟨HWS, rfl, rfl, HA, HB, HSZ, HBEL⟩ := hcut
    obtain ⟨m, hm⟩ : ∃ m, l.length - 2 = m := ⟨_, rfl⟩
    have HLN := Lib.hid (show (l.drop 2).length = m by rw [List.length_drop]; exact hm)
    have hmb : m ≤ 100000 := by omega
    rw [hm]
    clear hm
    go_wp2_with fail
    go_loopw [6, 18] (fun u i wr => ∃ (k : Nat) (v : Value), k ≤ m ∧ i = .int .i64 k ∧ Hid (wr.heap[w.heap.size]? = some (.cells #[.bool false, .slice none 0 0] 78 (0, 0))) ∧ Hid (wr.heap[w.heap.size + 1]? = some (.cells #[.bool neg, v] 78 (0, 0))) ∧ Hid (w.heap.size + 2 ≤ wr.heap.size) ∧ Hid (wr.ownsRow (w.heap.size + 2) 144 1 v (2 * k) (cs32 (limbsP ((l.drop 2).take k)))) ∧ Hid (Below w.heap.size w wr)) (fun _ i _ => m - (intOf i).toNat)
    case atStart => exact ⟨0, _, by omega, rfl, HA, HB, Lib.hid (Nat.le_of_eq HSZ.out), Lib.hid (World.ownsRow_nil _ _ _ _), HBEL⟩
    case round =>
      obtain ⟨k, v, hk, rfl, HA1, HB1, HS1, HO1, HBL1⟩ := hrel
      obtain ⟨_, hxu, xa, xc, rfl, hxc, hxm, hxx⟩ := HWS.out
      have HXU := Lib.hid hxu
      have HXX := Lib.hid hxx
      rw [HLN.out]
      clear hxu hxx
      by_cases hlt : k < m
      · obtain ⟨g2, o2, rfl, kw⟩ := HXX.out k (by rw [HLN.out]; exact hlt)
        have kw1 := (HBL1.out.cell (World.block_lt_of_cell? _ _ kw)).trans kw
        have hx1 := HXU.out _ (List.getElem_mem (show k < (l.drop 2).length by rw [HLN.out]; exact hlt))
        have HSN := Lib.hid (limbsP_snoc (l.drop 2) (show k < (l.drop 2).length by rw [HLN.out]; exact hlt))
        obtain ⟨x, hx⟩ : ∃ x, (l.drop 2)[k]'(by rw [HLN.out]; exact hlt) = x := ⟨_, rfl⟩
        rw [hx] at kw kw1 hx1 HSN
        have p1 : (k : Int) < (m : Int) := by omega
        have p2 : (0 : Int) ≤ (k : Int) := by omega
        have p5 : IntKind.i64.wrap ((k : Int) + 1) = (k : Int) + 1 := IntWalk.i64_in _ (by omega)
        have c0 : wr.cell? ⟨w.heap.size + 1, 0, none⟩ = some (.bool neg) := cell_of HB1.out 0
        have c1 : wr.cell? ⟨w.heap.size + 1, 1, none⟩ = some v := cell_of HB1.out 1
        have z1 : wr.frozen? ⟨w.heap.size + 1, 1, none⟩ = false := free_of HB1.out 1
        clear kw hx
        have hsz := HS1.out
        have hlen : 2 * k + 2 ≤ 1000000 := by omega
        go_wp2_with (at_builtin; refine wpList_append_own_at _ rfl (.tmp 23) (.tmp 29) 76 rfl (w.heap.size + 2) 144 i0 (.int .u32 0) 1 4 Tryz.underlying76 hi hz0 hz1 hz2 rfl (by decide) _ _ _ rfl (World.ownsRow.alloc HO1.out _) _ 2 2 [.int .u32 ((x : Int) % 4294967296), .int .u32 ((x : Int) / 4294967296)] rfl rfl (fun j u hj => by
          match j with
          | 0 => simp at hj; subst hj; simp [Addr.add_lit]
          | 1 => simp at hj; subst hj; simp [Addr.add_lit]
          | j + 2 => simp at hj) (fun u hu => by simp at hu; rcases hu with rfl | rfl <;> rfl) (by unfold maxLen; omega) (by omega) (by simp; omega) ?_; intro v1 w1 hown1 hgrow1 _ hloc1
                     obtain ⟨vb, vc, rfl⟩ := own_slice hown1
                     have HO2 := Lib.hid hown1
                     have HG2 := Lib.hid hgrow1
                     have hbk := fun b (hb : b < w.heap.size + 2) => (hgrow1.block b (by simp; omega) (fun e => by have := (HO1.out.lt b e.symm).1; omega)).trans (Below.heap_alloc wr _ b (by omega))
                     have HA2 := Lib.hid ((hbk w.heap.size (by omega)).trans HA1.out)
                     have HB2 := Lib.hid ((hbk (w.heap.size + 1) (by omega)).trans HB1.out)
                     have HS2 := Lib.hid (show w.heap.size + 2 ≤ w1.heap.size by have := hgrow1.size; simp at this; omega)
                     have HBL2 := Lib.hid (((HBL1.out.alloc HBL1.out.size _).grown hgrow1 (by simp; have := HBL1.out.size; omega) (fun k e => by have := (HO1.out.lt k e).1; omega)) : Below w.heap.size w w1)
                     have z2 : w1.frozen? ⟨w.heap.size + 1, 1, none⟩ = false := free_of HB2.out 1
                     have c2 : w1.cell? ⟨w.heap.size + 1, 1, none⟩ = some v := cell_of HB2.out 1
                     clear hown1 hgrow1 hloc1 hbk c0 c1 z1)
        go_roundw
        case rel =>
          refine ⟨k + 1, .slice vb (2 * k + 2) vc, by omega, by go_num, Lib.hid ?_, Lib.hid ?_, Lib.hid ?_, Lib.hid ?_, Lib.hid ?_⟩
          · rw [Below.heap_setCell _ _ _ _ (by simp)]; exact HA2.out
          · rw [set_of HB2.out]; rfl
          · simpa [World.setCell] using HS2.out
          · rw [HSN.out]
            have := HO2.out
            have e : cs32 (limbsP (List.take k (List.drop 2 l)) ++ [x % 4294967296, x / 4294967296]) = cs32 (limbsP (List.take k (List.drop 2 l))) ++ [.int .u32 ((x : Int) % 4294967296), .int .u32 ((x : Int) / 4294967296)] := by simp [cs32]
            rw [e]
            exact ownsRow_setCell_below this (by simp) _
          · exact HBL2.out.setCell (by simp) _
        case measure => simp [intOf]; omega
      · obtain rfl : k = m := by omega
        have p1 : ¬ (k : Int) < (k : Int) := by omega
        have HF := Lib.hid (show (l.drop 2).take k = l.drop 2 from List.take_of_length_le (by rw [HLN.out]; omega))
        obtain ⟨L, hL⟩ : ∃ L, limbsP (l.drop 2) = L := ⟨_, rfl⟩
        have HLL := Lib.hid (show L.length = 2 * k by rw [← hL, limbsP_length, HLN.out])
        have HLT := Lib.hid (show ∀ x ∈ L, x < 4294967296 by rw [← hL]; exact limbsP_lt HXU.out)
        have HO2 := Lib.hid (show wr.ownsRow (w.heap.size + 2) 144 1 v (2 * k) (cs32 L) by have := HO1.out; rw [HF.out, hL] at this; exact this)
        have HMG := Lib.hid (show bigMag l = trimP L by unfold bigMag; rw [hL])
        have HS1 := Lib.hid HS1.out
        clear hL
        obtain ⟨va, vc, rfl⟩ := own_slice HO2.out
        obtain ⟨tr, htr⟩ : ∃ tr : Bool, decide (0 < L.length ∧ L.getD (L.length - 1) 0 = 0) = tr := ⟨_, rfl⟩
        have HTR := Lib.hid htr
        clear htr
        have c0 : wr.cell? ⟨w.heap.size + 1, 0, none⟩ = some (.bool neg) := cell_of HB1.out 0
        have c1 : wr.cell? ⟨w.heap.size + 1, 1, none⟩ = some (.slice va (2 * k) vc) := cell_of HB1.out 1
        have z1 : wr.frozen? ⟨w.heap.size + 1, 1, none⟩ = false := free_of HB1.out 1
        go_upto_region 8 with fail
        go_cut [46] from 36 to 46 (fun u wx => u = .bool tr ∧ wr = wx)
        case first =>
          by_cases h0 : k = 0
          · have HT0 := Lib.hid (show tr = false by rw [← HTR.out, HLL.out, h0]; simp)
            have q1 : ¬ (0 : Int) < 2 * (k : Int) := by omega
            clear h0
            go_wp2_with fail
            go_meet
            exact ⟨by rw [HT0.out], rfl⟩
          · rcases HO2.out.2 with ⟨_, e0⟩ | ⟨g5, vc', _, hve, _, _, hnc, _, _, _⟩
            · omega
            simp only [Value.slice.injEq, true_and] at hve
            obtain ⟨rfl, rfl⟩ := hve
            have hll := HLL.out
            have hlt2 : 2 * k - 1 < L.length := by omega
            have kc := own_cell32 HO2.out hlt2
            obtain ⟨y, hy⟩ : ∃ y, L[2 * k - 1] = y := ⟨_, rfl⟩
            rw [hy] at kc
            have HT1 := Lib.hid (show tr = decide (y = 0) by
              rw [← HTR.out]
              have e : L.getD (L.length - 1) 0 = y := by rw [← hy]; simp [List.getD, hll, List.getElem?_eq_getElem hlt2]
              rw [e]
              have : 0 < L.length := by omega
              simp [this])
            have q1 : (0 : Int) < 2 * (k : Int) := by omega
            have q2 : IntKind.i64.wrap (2 * (k : Int) - 1) = 2 * (k : Int) - 1 := IntWalk.i64_in _ (by omega)
            have q3 : (1 : Int) ≤ 2 * (k : Int) := by omega
            have q4 : (0 : Int) ≤ 2 * (k : Int) - 1 := by omega
            have q5 : 2 * (k : Int) - 1 < 2 * (k : Int) := by omega
            have q6 : (2 * (k : Int) - 1).toNat = 2 * k - 1 := by omega
            clear hll hlt2 hy h0
            by_cases hy0 : y = 0
            · subst hy0
              go_wp2_with fail
              go_meet
              exact ⟨by rw [HT1.out]; rfl, rfl⟩
            · have q7 : ((y : Int) == 0) = false := by simp; omega
              have HT2 := Lib.hid (show tr = false by rw [HT1.out]; simp [hy0])
              clear hy0
              go_wp2_with fail
              go_meet
              exact ⟨by rw [HT2.out], rfl⟩
        case rest =>
          obtain ⟨rfl, rfl⟩ := hcut
          go_upto_if 46 with fail
          go_cut [] from 47 to 52 (fun wx => ∃ mv, Hid (wx.heap[w.heap.size]? = some (.cells #[.bool false, .slice none 0 0] 78 (0, 0))) ∧ Hid (wx.heap[w.heap.size + 1]? = some (.cells #[.bool neg, mv] 78 (0, 0))) ∧ Hid (w.heap.size + 2 ≤ wx.heap.size) ∧ Hid (Ms wx mv (bigMag l)) ∧ Hid (∀ k, mv.ownBlock = some k → w.heap.size < k) ∧ Hid (Below w.heap.size w wx))
          case first =>
            cases tr
            · have HE := Lib.hid (show bigMag l = L by
                rw [HMG.out]; unfold trimP; rw [if_neg]; intro e; have := HTR.out; rw [decide_eq_false_iff_not] at this; exact this e)
              obtain ⟨a', cap', e', hk1, hms⟩ := Ms.first HO2.out HLL.out (show 2 * k ≤ 2 * k by omega)
              simp only [Value.slice.injEq, true_and] at e'
              obtain ⟨rfl, rfl⟩ := e'
              rw [List.take_of_length_le (by rw [HLL.out]; omega)] at hms
              have HMS := Lib.hid hms
              clear hms
              go_wp2_with fail
              go_meet
              exact ⟨_, HA1, HB1, HS1, Lib.hid (by rw [HE.out]; exact HMS.out), Lib.hid (fun k e => by have := (HO2.out.lt k e).1; omega), HBL1⟩
            · have HE := Lib.hid (show 0 < 2 * k ∧ bigMag l = L.take (2 * k - 1) by
                have e := HTR.out
                rw [decide_eq_true_eq] at e
                rw [HMG.out]; unfold trimP; rw [if_pos e, HLL.out]
                exact ⟨by rw [← HLL.out]; exact e.1, rfl⟩)
              obtain ⟨a', cap', e', hk1, hms⟩ := Ms.first HO2.out HLL.out (show 2 * k - 1 ≤ 2 * k by omega)
              simp only [Value.slice.injEq, true_and] at e'
              obtain ⟨rfl, rfl⟩ := e'
              have HMS := Lib.hid hms
              have hkk := HE.out.1
              have q2 : IntKind.i64.wrap (2 * (k : Int) - 1) = 2 * (k : Int) - 1 := IntWalk.i64_in _ (by omega)
              have q3 : (1 : Int) ≤ 2 * (k : Int) := by omega
              have q4 : (0 : Int) ≤ 2 * (k : Int) - 1 := by omega
              have q5 : 2 * (k : Int) - 1 ≤ (vc : Int) := by omega
              have q6 : (2 * (k : Int) - 1).toNat = 2 * k - 1 := by omega
              clear hms hkk
              go_wp2_with fail
              go_meet
              refine ⟨.slice va (2 * k - 1) vc, Lib.hid ?_, Lib.hid ?_, Lib.hid ?_, Lib.hid ?_, Lib.hid (fun k e => by have := (HO2.out.lt k (by cases va <;> simp_all [Value.ownBlock])).1; omega), Lib.hid ?_⟩
              · rw [Below.heap_setCell _ _ _ _ (by simp)]; exact HA1.out
              · rw [set_of HB1.out]; rfl
              · simpa [World.setCell] using HS1.out
              · rw [HE.out.2]
                obtain ⟨a, c, e, hc⟩ := HMS.out
                refine ⟨a, c, e, fun j hj => ?_⟩
                obtain ⟨g, o, rfl, h⟩ := hc j hj
                refine ⟨g, o, rfl, ?_⟩
                have hgb : w.heap.size + 2 ≤ g := by
                  rcases HO2.out.2 with ⟨q, _⟩ | ⟨g5, vc', _, hve, hb5, _, hnc, _, _, _⟩
                  · have := HE.out.1; simp at q; omega
                  · simp only [Value.slice.injEq, true_and] at hve e
                    rw [e.1] at hve
                    simp at hve; omega
                rw [World.cell?_of_block (w := wr) (Below.heap_setCell _ _ _ _ (by simp; omega))]; exact h
              · exact HBL1.out.setCell (by simp) _
          case rest =>
            obtain ⟨mv, HA2, HB2, HS2, HM2, HOB, HBL2⟩ := hcut
            obtain ⟨M, hM⟩ : ∃ M, bigMag l = M := ⟨_, rfl⟩
            have HML := Lib.hid (show M.length ≤ maxLen by
              rw [← hM, HMG.out]
              have := trimP_length L
              have := HLL.out
              unfold maxLen; omega)
            have HMT := Lib.hid (show ∀ x ∈ M, x < 4294967296 by
              rw [← hM, HMG.out]
              intro x hx
              unfold trimP at hx
              split at hx
              · exact HLT.out x (List.mem_of_mem_take hx)
              · exact HLT.out x hx)
            rw [hM] at HM2
            have HMM := Lib.hid hM
            clear hM
            obtain ⟨ma, mc, rfl, hmc⟩ := HM2.out
            clear hmc
            have d0 := cell_of HB2.out 0
            have d1 := cell_of HB2.out 1
            simp at d0 d1
            go_wp2_with fail
            refine (small_any neg M _ _ HM2.out HML.out HMT.out).mono ?_
            rintro e w3 ⟨⟨rs, rfl⟩, hb3⟩
            obtain ⟨sm, hsm⟩ : ∃ sm, smallP neg M = sm := ⟨_, rfl⟩
            have HSM := Lib.hid hsm
            rw [hsm]
            clear hsm
            have HB3 := Lib.hid ((hb3.block _ (by have := HS2.out; omega)).trans HB2.out)
            have HA3 := Lib.hid ((hb3.block _ (by have := HS2.out; omega)).trans HA2.out)
            have HM3 := Lib.hid (HM2.out.below hb3)
            have HBL3 := Lib.hid (HBL2.out.trans (hb3.mono HBL2.out.size))
            have HS3 := Lib.hid (Nat.le_trans HS2.out hb3.size)
            clear hb3 d0 d1
            have d0 := cell_of HB3.out 0
            have d1 := cell_of HB3.out 1
            have d2 := cell_of HA3.out 0
            have d3 := cell_of HA3.out 1
            have z2 := free_of HA3.out 0
            have z3 := free_of HA3.out 1
            have k2 := (HBL3.out.cell (p := ⟨g, o + 1, none⟩) hkg).trans k1
            simp at d0 d1 d2 d3
            by_cases hn1 : n ≤ 1
            · obtain ⟨mb, hmb⟩ : ∃ mb, numMayP neg M = mb := ⟨_, rfl⟩
              have HMB := Lib.hid hmb
              have HP := Lib.hid (show bigP l = (mb && !sm) by unfold bigP; rw [HGD.out, decide_eq_true hn1, HNEG.out, HMM.out, hmb, HSM.out]; rfl)
              have HMC := Lib.hid (fun (W : World) (hb : Below w3.heap.size w3 W) => by
                have := numMay_any neg M _ _ (HM3.out.below hb) HML.out
                rwa [hmb] at this)
              clear hmb
              have q1 : (n : Int) ≤ 1 := by omega
              have q1b : decide ((n : Int) ≤ 1) = true := decide_eq_true q1
              cases mb
              all_goals
                go_wp2_with fail
                first
                  | (go_region_with ((go_at_call 128; refine (HMC.out _ ?_).mono ?_; exact (Below.refl _ _).drew; rintro e w4 ⟨rfl, hb4⟩
                                      have e0 := (hb4.cell (p := ⟨w.heap.size + 1, 0, none⟩) (by have := HS3.out; simp; omega)).trans d0
                                      have e1 := (hb4.cell (p := ⟨w.heap.size + 1, 1, none⟩) (by have := HS3.out; simp; omega)).trans d1
                                      have e2 := (hb4.cell (p := ⟨w.heap.size, 0, none⟩) (by have := HS3.out; simp; omega)).trans d2
                                      have e3 := (hb4.cell (p := ⟨w.heap.size, 1, none⟩) (by have := HS3.out; simp; omega)).trans d3
                                      have HM4 := Lib.hid (Ms.below (w := w3.drew) HM3.out hb4)
                                      have HBL4 := Lib.hid (HBL3.out.drew.trans (hb4.mono HBL3.out.size))
                                      have y2 := (hb4.frozen (p := ⟨w.heap.size, 0, none⟩) (by have := HS3.out; simp; omega)).trans z2
                                      have y3 := (hb4.frozen (p := ⟨w.heap.size, 1, none⟩) (by have := HS3.out; simp; omega)).trans z3
                                      clear hb4)))
                  | fail
                all_goals go_wp2_with fail
                all_goals first
                  | exact bodyPost_ret (v := .tuple #[.agg #[.bool neg, .slice ma M.length mc], .bool (!sm)]) (by simp [results, Tryz.results109, go_sem, e2, e3]) rfl ⟨⟨_, by rw [HNEG.out, HP.out]; rfl, by rw [HMM.out]; exact (HM4.out.set HOB.out _).set HOB.out _, HOB.out⟩, (HBL4.out.setCell (Nat.le_refl _) _).setCell (Nat.le_refl _) _⟩
                  | exact bodyPost_ret (v := .tuple #[.agg #[.bool neg, .slice ma M.length mc], .bool false]) (by simp [results, Tryz.results109, go_sem, e2, e3]) rfl ⟨⟨_, by rw [HNEG.out, HP.out]; rfl, by rw [HMM.out]; exact (HM4.out.set HOB.out _).set HOB.out _, HOB.out⟩, (HBL4.out.setCell (Nat.le_refl _) _).setCell (Nat.le_refl _) _⟩
            · have q1 : ¬ (n : Int) ≤ 1 := by omega
              have HP := Lib.hid (show bigP l = false by unfold bigP; rw [HGD.out, decide_eq_false hn1]; rfl)
              go_wp2_with fail
              have q1b : decide ((n : Int) ≤ 1) = false := decide_eq_false (by omega)
              go_region
              all_goals go_wp2_with fail
              all_goals refine bodyPost_ret (v := .tuple #[.agg #[.bool neg, .slice ma M.length mc], .bool false]) (by simp [results, Tryz.results109, go_sem, d2, d3]) rfl ⟨⟨_, by rw [HNEG.out, HP.out], by rw [HMM.out]; exact (HM3.out.set HOB.out _).set HOB.out _, HOB.out⟩, (HBL3.out.setCell (Nat.le_refl _) _).setCell (Nat.le_refl _) _ |>.drew⟩

end Go.Proofs.YtlmpmjhanpkcnaaGreat
