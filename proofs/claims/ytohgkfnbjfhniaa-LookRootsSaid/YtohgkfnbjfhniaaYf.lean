/-
  Each root of a right dump is read; words that are no roots change nothing: LookRoots.
-/
import Derived.Test.YtohgkfnbjfhniaaYe
import Derived.Deep.RegionHeld3
namespace Go.Proofs.Ytohgkfnbjfhniaa
open Go.RowKit

/-- Texts are the same. -/
theorem str_ne {s : ByteArray} (h : s ≠ ⟨#[]⟩) : (!s.toList.isEmpty) = true := by
  have h2 : s.data.toList ≠ [] := fun q => h (by
    obtain ⟨⟨l⟩⟩ := s
    simp at q
    subst q; rfl)
  rw [Lib.toList_data]
  cases hs : s.data.toList with
  | nil => exact absurd hs h2
  | cons a r => rfl

theorem read_right {d : Dmp} {S : List Slt} (h : WhyP d S) {x : Nat} (hx : x ∈ d.roots) : ∃ t, readP true S d.mem x = some t ∧ t.k ≠ 0 := by
  have h2 := h.2.1
  unfold rootsP readsP at h2
  rw [List.all_eq_true] at h2
  obtain ⟨t, ht⟩ := Option.isSome_iff_exists.1 (h2 x hx)
  exact ⟨t, ht, readP_kind ht⟩

theorem right_readEnd {w w' : World} {r : Option Tm} {e : Ending} (h : ReadEnd w w' r e) {t : Tm} (hr : r = some t) (hk : t.k ≠ 0) :
    ∃ k n neg ma ml mc bits bytes a len cap, e = .returned (.tuple #[.agg #[.int .i64 k, .int .i64 n, .bool neg, .slice ma ml mc, .int .u64 bits, .string bytes, .slice a len cap], .bool true]) ∧ k ≠ 0 ∧ Below w.heap.size w w' := by
  obtain ⟨tv, t', rfl, ht, hp, hb⟩ := h
  have e := hp _ hr
  subst e
  cases ht with
  | mk cells hk1 hn hm hml hu hbt hs hal hc ht =>
    obtain ⟨ma, mc, rfl, -⟩ := hm
    exact ⟨_, _, _, _, _, _, _, _, _, _, _, by rw [hr]; rfl, hk, hb⟩

theorem keep6 {W V : World} {b g o : Nat} {a0 a1 a2 a3 a4 a5 a6 a7 a8 a9 : Value} {t : TypeId} (h : W.heap[b]? = some (.cells #[a0, a1, a2, a3, a4, a5, a6, a7, a8] t (0, 0))) (k : W.cell? ⟨g, o, none⟩ = some a9) (hb : Below W.heap.size W V) :
    V.cell? ⟨b, 0, none⟩ = some a0 ∧ V.cell? ⟨b, 1, none⟩ = some a1 ∧ V.cell? ⟨b, 2, none⟩ = some a2 ∧ V.cell? ⟨b, 3, none⟩ = some a3 ∧ V.cell? ⟨b, 4, none⟩ = some a4 ∧ V.cell? ⟨b, 5, none⟩ = some a5 ∧ V.cell? ⟨b, 6, none⟩ = some a6 ∧ V.cell? ⟨b, 7, none⟩ = some a7 ∧ V.cell? ⟨b, 8, none⟩ = some a8 ∧
      V.cell? ⟨g, o, none⟩ = some a9 ∧ Below W.heap.size W V := by
  have h2 := (hb.block b (lt_of_block h)).trans h
  exact ⟨cell_of h2 0, cell_of h2 1, cell_of h2 2, cell_of h2 3, cell_of h2 4, cell_of h2 5, cell_of h2 6, cell_of h2 7, cell_of h2 8, (hb.cell (World.block_lt_of_cell? W _ k)).trans k, hb⟩

theorem keep12 {W V : World} {b : Nat} {a0 a1 a2 a3 a4 a5 a6 a7 a8 : Value} {t : TypeId} (h : W.heap[b]? = some (.cells #[a0, a1, a2, a3, a4, a5, a6, a7, a8] t (0, 0))) (hb : Below W.heap.size W V) :
    V.cell? ⟨b, 7, none⟩ = some a7 ∧ Below W.heap.size W V :=
  ⟨cell_of ((hb.block b (lt_of_block h)).trans h) 7, hb⟩

theorem twice_ws {w : World} {base g : Nat} {v : Value} {l : List Nat} (h : w.ownsRow base 37 1 v (0 + l.length + l.length) ([] ++ csW l ++ csW l)) (hu : ∀ x ∈ l, x < 18446744073709551616) (hl : l.length ≤ 100) (hg : g < base) (u : Value) :
    Ws (w.setCell ⟨g, 7, none⟩ u) v (l ++ l) := by
  have hk : (w.setCell ⟨g, 7, none⟩ u).ownsRow base 37 1 v (0 + l.length + l.length) ([] ++ csW l ++ csW l) := by
    refine h.kept (row := some g) ⟨rfl, rfl, rfl, by simp [World.setCell], fun k hk hne => Below.heap_setCell w _ u k (fun q => hne (by rw [q]))⟩ ?_
    cases hv : v.ownBlock with
    | none => exact .inl rfl
    | some k => exact .inr (fun q => by cases q; have := (h.lt _ hv).1; omega)
  refine Ws.of_own (base := base) ?_ (by simp; omega) (fun x hx => by rcases List.mem_append.1 hx with q | q <;> exact hu x q)
  have e : [] ++ csW l ++ csW l = csW (l ++ l) := by simp [csW]
  rw [e] at hk
  rw [List.length_append]
  rwa [Nat.zero_add] at hk

theorem keep36 {W V : World} {ba bb bc be : Nat} {a0 a1 a2 a3 a4 a5 a6 a7 a8 b0 b1 b2 b3 b4 b5 b6 b7 b8 c0 c1 c2 c3 c4 c5 c6 c7 c8 e0 e1 e2 e3 e4 e5 e6 e7 e8 : Value} {t : TypeId} (ha : W.heap[ba]? = some (.cells #[a0, a1, a2, a3, a4, a5, a6, a7, a8] t (0, 0))) (hb : W.heap[bb]? = some (.cells #[b0, b1, b2, b3, b4, b5, b6, b7, b8] t (0, 0))) (hc : W.heap[bc]? = some (.cells #[c0, c1, c2, c3, c4, c5, c6, c7, c8] t (0, 0))) (he : W.heap[be]? = some (.cells #[e0, e1, e2, e3, e4, e5, e6, e7, e8] t (0, 0))) (hz : Below W.heap.size W V) :
    V.cell? ⟨ba, 0, none⟩ = some a0 ∧ V.cell? ⟨ba, 1, none⟩ = some a1 ∧ V.cell? ⟨ba, 2, none⟩ = some a2 ∧ V.cell? ⟨ba, 3, none⟩ = some a3 ∧ V.cell? ⟨ba, 4, none⟩ = some a4 ∧ V.cell? ⟨ba, 5, none⟩ = some a5 ∧ V.cell? ⟨ba, 6, none⟩ = some a6 ∧ V.cell? ⟨ba, 7, none⟩ = some a7 ∧ V.cell? ⟨ba, 8, none⟩ = some a8 ∧ V.cell? ⟨bb, 0, none⟩ = some b0 ∧ V.cell? ⟨bb, 1, none⟩ = some b1 ∧ V.cell? ⟨bb, 2, none⟩ = some b2 ∧ V.cell? ⟨bb, 3, none⟩ = some b3 ∧ V.cell? ⟨bb, 4, none⟩ = some b4 ∧ V.cell? ⟨bb, 5, none⟩ = some b5 ∧ V.cell? ⟨bb, 6, none⟩ = some b6 ∧ V.cell? ⟨bb, 7, none⟩ = some b7 ∧ V.cell? ⟨bb, 8, none⟩ = some b8 ∧ V.cell? ⟨bc, 0, none⟩ = some c0 ∧ V.cell? ⟨bc, 1, none⟩ = some c1 ∧ V.cell? ⟨bc, 2, none⟩ = some c2 ∧ V.cell? ⟨bc, 3, none⟩ = some c3 ∧ V.cell? ⟨bc, 4, none⟩ = some c4 ∧ V.cell? ⟨bc, 5, none⟩ = some c5 ∧ V.cell? ⟨bc, 6, none⟩ = some c6 ∧ V.cell? ⟨bc, 7, none⟩ = some c7 ∧ V.cell? ⟨bc, 8, none⟩ = some c8 ∧ V.cell? ⟨be, 0, none⟩ = some e0 ∧ V.cell? ⟨be, 1, none⟩ = some e1 ∧ V.cell? ⟨be, 2, none⟩ = some e2 ∧ V.cell? ⟨be, 3, none⟩ = some e3 ∧ V.cell? ⟨be, 4, none⟩ = some e4 ∧ V.cell? ⟨be, 5, none⟩ = some e5 ∧ V.cell? ⟨be, 6, none⟩ = some e6 ∧ V.cell? ⟨be, 7, none⟩ = some e7 ∧ V.cell? ⟨be, 8, none⟩ = some e8 ∧ Below W.heap.size W V := by
  have qa := (hz.block ba (lt_of_block ha)).trans ha
  have qb := (hz.block bb (lt_of_block hb)).trans hb
  have qc := (hz.block bc (lt_of_block hc)).trans hc
  have qe := (hz.block be (lt_of_block he)).trans he
  exact ⟨cell_of qa 0, cell_of qa 1, cell_of qa 2, cell_of qa 3, cell_of qa 4, cell_of qa 5, cell_of qa 6, cell_of qa 7, cell_of qa 8, cell_of qb 0, cell_of qb 1, cell_of qb 2, cell_of qb 3, cell_of qb 4, cell_of qb 5, cell_of qb 6, cell_of qb 7, cell_of qb 8, cell_of qc 0, cell_of qc 1, cell_of qc 2, cell_of qc 3, cell_of qc 4, cell_of qc 5, cell_of qc 6, cell_of qc 7, cell_of qc 8, cell_of qe 0, cell_of qe 1, cell_of qe 2, cell_of qe 3, cell_of qe 4, cell_of qe 5, cell_of qe 6, cell_of qe 7, cell_of qe 8, hz⟩

theorem Ws.take {w : World} {a : Option Addr} {n c m : Nat} {l : List Nat} (h : Ws w (.slice a n c) l) (hm : m ≤ l.length) : Ws w (.slice a m c) (l.take m) := by
  obtain ⟨h1, h2, a', c', he, h3, h4, hx⟩ := h
  simp only [Value.slice.injEq] at he
  obtain ⟨rfl, -, rfl⟩ := he
  have hl : (l.take m).length = m := by rw [List.length_take]; omega
  refine ⟨by omega, fun x hx => h2 x (List.mem_of_mem_take hx), _, _, by rw [hl], by omega, h4, fun j hj => ?_⟩
  obtain ⟨g, o, e, k⟩ := hx j (by omega)
  exact ⟨g, o, e, by rw [k]; simp⟩

theorem none_handles {Wf V w' : World} {d : Dmp} {e : Ending} (hb : Below Wf.heap.size Wf V) (h : HandlesEnd V w' (d.roots' []).mem (d.roots' []).roots e) : (∃ a c, e = .returned (.slice a 0 c)) ∧ Below Wf.heap.size Wf w' := by
  obtain ⟨v, l, rfl, hl, his, -, hb2⟩ := h
  refine ⟨?_, hb.trans (hb2.mono hb.size)⟩
  have e : l = [] := reachL_nil hl
  subst e
  obtain ⟨-, -, a, c, rfl, -⟩ := his
  exact ⟨a, c, by simp [hsP, sortI]⟩

theorem end_behind (w : World) (c0 c1 c2 c3 c4 c5 c6 : Value) : (w.alloc (.cells #[c0, c1, c2, c3, c4, c5, c6] 40)).cell? ⟨w.heap.size, 0, none⟩ = some c0 := cell_of (World.alloc_heap_new w _) 0

theorem end_ahead {w : World} {b : Nat} {a0 a1 a2 a3 a4 a5 a6 : Value} {t : TypeId} (h : w.heap[b]? = some (.cells #[a0, a1, a2, a3, a4, a5, a6] t (0, 0))) (c0 c1 c2 c3 c4 c5 c6 : Value) : (set7 w b c0 c1 c2 c3 c4 c5 c6).cell? ⟨b, 0, none⟩ = some c0 :=
  cell_of (set7_heap h _ _ _ _ _ _ _) 0

set_option maxHeartbeats 8000000 in
set_option maxRecDepth 100000 in
theorem lookRoots_any (d : Dmp) (S : List Slt) (v sv : Value) (k : Int) (w : World) (hd : DmAt w v d) (hS : SlRaw w sv S) (hk : In64 k) :
    Calls Try.prog 3 #[v, sv, .int .i64 k] w fun e w' => e = .returned (.bool true) ∧ Below w.heap.size w w' := by
  have HD := Lib.hid hd
  have HSR := Lib.hid hS
  have HK := Lib.hid hk
  obtain ⟨wa1, wc1, wa2, wc2, fa, fc, ra, rc, ha, hc, rfl⟩ := hd.shape
  obtain ⟨-, sa, sc, rfl, -⟩ := hS
  clear hd hk
  have T := one_at w (.cells #[.int .i64 d.young.1, .slice wa1 d.young.2.length wc1, .int .i64 d.old.1, .slice wa2 d.old.2.length wc2, .int .i64 d.size, .int .i64 d.mark, .slice fa d.frags.length fc, .slice ra d.roots.length rc, .slice ha d.handles.length hc] 28)
  obtain ⟨i0, hi, hz0, hz1, hz2⟩ := info_parts info37
  go_enter Try.func3, Try.ntmps3
  go_wp2_with fail
  generalize w.alloc (.cells #[.int .i64 d.young.1, .slice wa1 d.young.2.length wc1, .int .i64 d.old.1, .slice wa2 d.old.2.length wc2, .int .i64 d.size, .int .i64 d.mark, .slice fa d.frags.length fc, .slice ra d.roots.length rc, .slice ha d.handles.length hc] 28) = W at *
  have X0 := Lib.hid T.1
  have XB := Lib.hid T.2.2
  clear T
  refine (greatDump_any d _ W (HD.out.below XB.out)).mono ?_
  rintro e w2 ⟨⟨b, rfl, hb⟩, hb2⟩
  have HSM := Lib.hid hb
  have Y0 := Lib.hid ((hb2.block w.heap.size (lt_of_block X0.out)).trans X0.out)
  have YB := Lib.hid (XB.out.trans (hb2.mono XB.out.size))
  clear hb hb2
  cases b with
  | true =>
    go_wp2_with fail
    refine (awake_any w2).mono ?_
    rintro e w3 ⟨rfl, hb⟩
    have ZB := Lib.hid (YB.out.trans (hb.mono YB.out.size))
    clear hb
    go_wp2_with fail
    go_ret
    exact ⟨rfl, ZB.out⟩
  | false =>
    have HS0 := Lib.hid (HSM.out rfl)
    go_wp2_with fail
    refine (greatSlots_any S _ w2 (HSR.out.below YB.out)).mono ?_
    rintro e w2' ⟨⟨b, rfl, hb⟩, hww⟩
    obtain rfl : w2 = w2' := hww.symm
    have HSS := Lib.hid hb
    clear hb
    cases b with
    | true =>
      go_wp2_with fail
      refine (awake_any w2).mono ?_
      rintro e w3 ⟨rfl, hb⟩
      have ZB := Lib.hid (YB.out.trans (hb.mono YB.out.size))
      clear hb
      go_wp2_with fail
      go_ret
      exact ⟨rfl, ZB.out⟩
    | false =>
      have HSA := Lib.hid (HSR.out.at (HSS.out rfl))
      have c := fun i => cell_of Y0.out i
      go_wp2_with fail
      clear c
      refine (why_any d S _ _ w2 (HD.out.below YB.out) (HSA.out.below YB.out) HS0.out.ok).mono ?_
      rintro e w3 ⟨rfl, hb⟩
      have Z0 := Lib.hid ((hb.block w.heap.size (lt_of_block Y0.out)).trans Y0.out)
      have ZB := Lib.hid (YB.out.trans (hb.mono YB.out.size))
      clear hb
      obtain ⟨t, ht⟩ : ∃ t, whyT d S = t := ⟨_, rfl⟩
      have HT := Lib.hid ht
      rw [ht]
      clear ht
      by_cases hw : t = ⟨#[]⟩
      · have HW := Lib.hid (show WhyP d S by rw [← whyT_empty, HT.out, hw])
        subst hw
        go_upto_region 4 with fail
        go_loopw [7] (fun i wr => ∃ (j : Nat), j ≤ d.roots.length ∧ i = .int .i64 j ∧ Hid (wr.heap[w.heap.size]? = some (.cells #[.int .i64 d.young.1, .slice wa1 d.young.2.length wc1, .int .i64 d.old.1, .slice wa2 d.old.2.length wc2, .int .i64 d.size, .int .i64 d.mark, .slice fa d.frags.length fc, .slice ra d.roots.length rc, .slice ha d.handles.length hc] 28 (0, 0))) ∧ Hid (Below w.heap.size w wr)) (fun i _ => d.roots.length - (intOf i).toNat)
        case atStart => exact ⟨0, by omega, rfl, Z0, ZB⟩
        case round =>
          obtain ⟨j, hj, rfl, HX, HB⟩ := hrel
          have c7 := cell_of HX.out 7
          simp at c7
          by_cases hlt : j < d.roots.length
          · have q1 : (j : Int) < (d.roots.length : Int) := by omega
            have q2 : (0 : Int) ≤ (j : Int) := by omega
            obtain ⟨-, hu, a', c', he, -, -, hx⟩ := (HD.out.below HB.out).ws
            simp only [Value.slice.injEq, true_and] at he
            obtain ⟨rfl, rfl⟩ := he
            obtain ⟨g, o, rfl, k0⟩ := hx j hlt
            have HXR := Lib.hid (read_right HW.out (List.getElem_mem hlt))
            have HXB := Lib.hid (hu _ (List.getElem_mem hlt))
            obtain ⟨x, hxx⟩ : ∃ x, d.roots[j]'hlt = x := ⟨_, rfl⟩
            rw [hxx] at k0 HXR HXB
            clear hx hu hxx
            obtain ⟨tt, htt, hkt⟩ := HXR.out
            have HC := Lib.hid (fun (V : World) (hb : Below wr.heap.size wr V) => (read_any d _ _ S x V (HD.out.below (HB.out.trans (hb.mono HB.out.size))) (HSA.out.below (HB.out.trans (hb.mono HB.out.size))) HS0.out.ok.frags HXB.out).mono fun e w' h => right_readEnd h htt hkt)
            clear htt hkt
            have K := Lib.hid (fun (V : World) (hb : Below wr.heap.size wr V) => keep6 HX.out k0 hb)
            have c := K.out wr (Below.refl _ _)
            obtain ⟨c0, c1, c2, c3, c4, c5, c6, c7, c8, c9, -⟩ := c
            go_upto_region 6 with fail
            go_cut [8, 9] from 34 to 43 (fun p u wx => ∃ nb kd, p = .pointer (some ⟨nb, 0, none⟩) ∧ u = .bool true ∧ Hid (wx.cell? ⟨nb, 0, none⟩ = some (.int .i64 kd)) ∧ Hid (kd ≠ 0) ∧ Hid (Below wr.heap.size wr wx))
            case first =>
              go_region_held3 (fun w' => w'.cell? ⟨w.heap.size, 0, none⟩ = some (.int .i64 d.young.1) ∧ w'.cell? ⟨w.heap.size, 1, none⟩ = some (.slice wa1 d.young.2.length wc1) ∧ w'.cell? ⟨w.heap.size, 2, none⟩ = some (.int .i64 d.old.1) ∧ w'.cell? ⟨w.heap.size, 3, none⟩ = some (.slice wa2 d.old.2.length wc2) ∧ w'.cell? ⟨w.heap.size, 4, none⟩ = some (.int .i64 d.size) ∧ w'.cell? ⟨w.heap.size, 5, none⟩ = some (.int .i64 d.mark) ∧ w'.cell? ⟨w.heap.size, 6, none⟩ = some (.slice fa d.frags.length fc) ∧ w'.cell? ⟨w.heap.size, 7, none⟩ = some (.slice (some ⟨g, o, none⟩) d.roots.length rc) ∧ w'.cell? ⟨w.heap.size, 8, none⟩ = some (.slice ha d.handles.length hc) ∧ w'.cell? ⟨g, o + j, none⟩ = some (.int .u64 x) ∧ Below wr.heap.size wr w')
                (first | with_reducible exact K.out _ (set7_below HB7.out (Nat.le_refl _) _ _ _ _ _ _ _) | with_reducible exact K.out _ (Below.refl _ _).drew | with_reducible exact K.out _ (by assumption) | with_reducible exact K.out _ ((Below.refl wr.heap.size wr).alloc (Nat.le_refl _) _).drew | with_reducible exact K.out _ (HB6.out.alloc HB6.out.size _) | with_reducible exact K.out _ (set7_below HB7.out (Nat.le_refl _) _ _ _ _ _ _ _))
                (first
                  | (go_at_call 10
                     first
                       | ((with_reducible refine (HC.out _ (Below.refl _ _).drew).mono ?_)
                          rintro e w6 ⟨kk, kn, kneg, kma, kml, kmc, kbits, kbytes, ka, klen, kcap, rfl, hk0, hb6⟩
                          have HK6 := Lib.hid hk0
                          have HB6 := Lib.hid (show Below wr.heap.size wr w6 from (Below.refl wr.heap.size wr).drew.trans hb6)
                          have hb7 := HB6.out
                          clear hk0 hb6)
                       | ((with_reducible refine (HC.out _ ((Below.refl wr.heap.size wr).alloc (Nat.le_refl _) _).drew).mono ?_)
                          rintro e w6 ⟨kk, kn, kneg, kma, kml, kmc, kbits, kbytes, ka, klen, kcap, rfl, hk0, hb6⟩
                          have HK6 := Lib.hid hk0
                          have HO6 := Lib.hid hb6
                          have HB7 := Lib.hid (show Below wr.heap.size wr w6 from ((Below.refl wr.heap.size wr).alloc (Nat.le_refl _) _).drew.trans (hb6.mono (by simp)))
                          have hb7 := HB7.out
                          have f := held_new hb6
                          have f0 := free_of f 0
                          have f1 := free_of f 1
                          have f2 := free_of f 2
                          have f3 := free_of f 3
                          have f4 := free_of f 4
                          have f5 := free_of f 5
                          have f6 := free_of f 6
                          have y0 := cell_of f 0
                          have y1 := cell_of f 1
                          have y2 := cell_of f 2
                          have y3 := cell_of f 3
                          have y4 := cell_of f 4
                          have y5 := cell_of f 5
                          have y6 := cell_of f 6
                          simp at y0 y1 y2 y3 y4 y5 y6
                          clear hk0 hb6 f)))
              all_goals go_wp2_with fail
              all_goals go_meet
              all_goals
                first
                  | (have hz0 := Lib.hid (end_behind w6 (.int .i64 kk) (.int .i64 kn) (.bool kneg) (.slice kma kml kmc) (.int .u64 kbits) (.string kbytes) (.slice ka klen kcap))
                     have hz1 := Lib.hid (HB6.out.alloc HB6.out.size (.cells #[.int .i64 kk, .int .i64 kn, .bool kneg, .slice kma kml kmc, .int .u64 kbits, .string kbytes, .slice ka klen kcap] 40))
                     exact ⟨w6.heap.size, kk, rfl, rfl, hz0, HK6, hz1⟩)
                  | (have hz0 := Lib.hid (end_ahead (held_new HO6.out) (.int .i64 kk) (.int .i64 kn) (.bool kneg) (.slice kma kml kmc) (.int .u64 kbits) (.string kbytes) (.slice ka klen kcap))
                     have hz1 := Lib.hid (set7_below HB7.out (Nat.le_refl _) (.int .i64 kk) (.int .i64 kn) (.bool kneg) (.slice kma kml kmc) (.int .u64 kbits) (.string kbytes) (.slice ka klen kcap))
                     exact ⟨wr.heap.size, kk, rfl, rfl, hz0, HK6, hz1⟩)
            case rest =>
              obtain ⟨nb, kd, rfl, rfl, HN, HK0, HB0⟩ := hcut
              have m0 := HN.out
              have m1 : (kd == 0) = false := by simpa using HK0.out
              have p5 : IntKind.i64.wrap ((j : Int) + 1) = (j : Int) + 1 := IntWalk.i64_in _ (by have := HS0.out.roots; omega)
              clear c0 c1 c2 c3 c4 c5 c6 c7 c8 c9 k0
              have QJ := Lib.hid (show j + 1 ≤ d.roots.length ∧ d.roots.length - (j + 1) < d.roots.length - j by omega)
              go_wp2_with fail
              go_roundw
              case rel => exact ⟨j + 1, QJ.out.1, by go_num, Lib.hid ((HB0.out.block _ (lt_of_block HX.out)).trans HX.out), Lib.hid (HB.out.trans (HB0.out.mono HB.out.size))⟩
              case measure => clear p5; have := QJ.out.2; simp [intOf]; omega
          · obtain rfl : j = d.roots.length := by omega
            have q1 : ¬ (d.roots.length : Int) < (d.roots.length : Int) := by omega
            go_upto_region 9 with fail
            clear c7
            have c := fun i => cell_of HX.out i
            go_upto_region 10 with fail
            clear c
            have T := one_at wr (.cells #[.int .i64 d.young.1, .slice wa1 d.young.2.length wc1, .int .i64 d.old.1, .slice wa2 d.old.2.length wc2, .int .i64 d.size, .int .i64 d.mark, .slice fa d.frags.length fc, .slice ra d.roots.length rc, .slice ha d.handles.length hc] 28)
            generalize wr.alloc (.cells #[.int .i64 d.young.1, .slice wa1 d.young.2.length wc1, .int .i64 d.old.1, .slice wa2 d.old.2.length wc2, .int .i64 d.size, .int .i64 d.mark, .slice fa d.frags.length fc, .slice ra d.roots.length rc, .slice ha d.handles.length hc] 28) = W1 at *
            have A0 := Lib.hid T.1
            have AX := Lib.hid ((T.2.2.block _ (lt_of_block HX.out)).trans HX.out)
            have AB := Lib.hid (HB.out.trans (T.2.2.mono HB.out.size))
            clear T
            have a7 := cell_of A0.out 7
            have f7 := free_of A0.out 7
            simp at a7 f7
            go_upto_region 11 with fail
            have N0 := Lib.hid (show (W1.setCell ⟨wr.heap.size, 7, none⟩ (.slice none 0 0)).heap[wr.heap.size]? = some (.cells #[.int .i64 d.young.1, .slice wa1 d.young.2.length wc1, .int .i64 d.old.1, .slice wa2 d.old.2.length wc2, .int .i64 d.size, .int .i64 d.mark, .slice fa d.frags.length fc, .slice none 0 0, .slice ha d.handles.length hc] 28 (0, 0)) from set_of A0.out 7 _)
            have NE := Lib.hid (show w.heap.size ≠ wr.heap.size from Nat.ne_of_lt (lt_of_block HX.out))
            have NX := Lib.hid ((Below.heap_setCell W1 ⟨wr.heap.size, 7, none⟩ (.slice none 0 0) w.heap.size NE.out).trans AX.out)
            have NB := Lib.hid (AB.out.setCell (p := ⟨wr.heap.size, 7, none⟩) HB.out.size (.slice none 0 0))
            clear a7 f7 A0 AX AB
            generalize W1.setCell ⟨wr.heap.size, 7, none⟩ (.slice none 0 0) = W2 at *
            have c := fun i => cell_of NX.out i
            go_upto_region 12 with fail
            clear c
            have T := one_at W2 (.cells #[.int .i64 d.young.1, .slice wa1 d.young.2.length wc1, .int .i64 d.old.1, .slice wa2 d.old.2.length wc2, .int .i64 d.size, .int .i64 d.mark, .slice fa d.frags.length fc, .slice ra d.roots.length rc, .slice ha d.handles.length hc] 28)
            generalize W2.alloc (.cells #[.int .i64 d.young.1, .slice wa1 d.young.2.length wc1, .int .i64 d.old.1, .slice wa2 d.old.2.length wc2, .int .i64 d.size, .int .i64 d.mark, .slice fa d.frags.length fc, .slice ra d.roots.length rc, .slice ha d.handles.length hc] 28) = W3 at *
            have T11 := Lib.hid T.1
            have T10 := Lib.hid ((T.2.2.block _ (lt_of_block N0.out)).trans N0.out)
            have TX := Lib.hid ((T.2.2.block _ (lt_of_block NX.out)).trans NX.out)
            have TB := Lib.hid (NB.out.trans (T.2.2.mono NB.out.size))
            have T2 := Lib.hid T.2.2
            clear T
            have HRD := Lib.hid ((HD.out.below TB.out).ws.reads)
            have HRL := Lib.hid HS0.out.roots
            have K := Lib.hid (fun (V : World) (hb : Below W2.heap.size W2 V) => keep12 NX.out hb)
            have K3 := Lib.hid (fun (V : World) (hb : Below W3.heap.size W3 V) => T2.out.trans (hb.mono T2.out.size))
            have c7 := (K.out W3 T2.out).1
            go_region_held3 (fun w' => w'.cell? ⟨w.heap.size, 7, none⟩ = some (.slice ra d.roots.length rc) ∧ Below W2.heap.size W2 w')
              (first | with_reducible exact K.out _ T2.out.drew | with_reducible exact K.out _ (K3.out _ HB1.out) | with_reducible exact K.out _ (K3.out _ HB2.out) | exact K.out _ ((K3.out _ HB2.out).setCell (p := ⟨W2.heap.size, 7, none⟩) (Nat.le_refl _) _) | go_keep)
              (first
                | (refine step_append_any _ (by rfl) (.const (.slice none 0 0)) (.tmp 55) 22 (by rfl) W3.heap.size 37 i0 _ 1 8 Try.underlying22 hi hz0 hz1 hz2 rfl (by omega) (.slice none 0 0) 0 [] (by rfl) ⟨by simp, .inl ⟨rfl, rfl⟩⟩ W3.heap.size ra d.roots.length rc (csW d.roots) (by rfl) HRD.out.drew (csW_one _) (by unfold maxLen; have := HRL.out; omega) (by have := HRL.out; omega) (Nat.le_refl _) ?_
                   intro v1 w1 hown1 hg1 _
                   have HO1 := Lib.hid hown1
                   have HB1 := Lib.hid ((Below.refl W3.heap.size W3).drew.grown hg1 (Nat.le_refl _) (by simp [Value.ownBlock]))
                   obtain ⟨b1, c1, rfl⟩ := own_slice hown1
                   clear hown1 hg1)
                | (refine step_append_any _ (by rfl) (.tmp 56) (.tmp 58) 22 (by rfl) W3.heap.size 37 i0 _ 1 8 Try.underlying22 hi hz0 hz1 hz2 rfl (by omega) _ (0 + d.roots.length) ([] ++ csW d.roots) (by rfl) HO1.out W3.heap.size ra d.roots.length rc (csW d.roots) (by rfl) (HRD.out.below HB1.out) (csW_one _) (by unfold maxLen; have := HRL.out; omega) (by have := HRL.out; omega) HB1.out.size ?_
                   intro v2 w2 hown2 hg2 _
                   have HO2 := Lib.hid hown2
                   have HB2 := Lib.hid (HB1.out.grown hg2 HB1.out.size (fun k hk => (HO1.out.lt k hk).1))
                   obtain ⟨b2, c2, rfl⟩ := own_slice hown2
                   have e7 := cell_of ((HB2.out.block _ (lt_of_block T11.out)).trans T11.out) 7
                   have f7 := free_of ((HB2.out.block _ (lt_of_block T11.out)).trans T11.out) 7
                   simp at e7 f7
                   clear hown2 hg2))
            have V11 := Lib.hid (show (w2.setCell ⟨W2.heap.size, 7, none⟩ (.slice b2 (d.roots.length + d.roots.length) c2)).heap[W2.heap.size]? = some (.cells #[.int .i64 d.young.1, .slice wa1 d.young.2.length wc1, .int .i64 d.old.1, .slice wa2 d.old.2.length wc2, .int .i64 d.size, .int .i64 d.mark, .slice fa d.frags.length fc, .slice b2 (d.roots.length + d.roots.length) c2, .slice ha d.handles.length hc] 28 (0, 0)) from set_of ((HB2.out.block _ (lt_of_block T11.out)).trans T11.out) 7 _)
            have VB2 := Lib.hid ((K3.out _ HB2.out).setCell (p := ⟨W2.heap.size, 7, none⟩) (Nat.le_refl _) (.slice b2 (d.roots.length + d.roots.length) c2))
            have VW := Lib.hid (twice_ws HO2.out (fun x hx => (HD.out.ws.2.1 x hx)) HRL.out (lt_of_block T11.out) (.slice b2 (d.roots.length + d.roots.length) c2))
            generalize w2.setCell ⟨W2.heap.size, 7, none⟩ (.slice b2 (d.roots.length + d.roots.length) c2) = U at *
            have V10 := Lib.hid ((VB2.out.block _ (lt_of_block N0.out)).trans N0.out)
            have VX := Lib.hid ((VB2.out.block _ (lt_of_block NX.out)).trans NX.out)
            have VB := Lib.hid (NB.out.trans (VB2.out.mono NB.out.size))
            clear K K3 HB1 HB2 HO1 HO2 T11 T10 TX TB T2 HRD N0 NX NB VB2 e7 f7 c7
            have c := fun i => cell_of VX.out i
            go_wp2_with fail
            clear c
            have T := one_at U (.cells #[.int .i64 d.young.1, .slice wa1 d.young.2.length wc1, .int .i64 d.old.1, .slice wa2 d.old.2.length wc2, .int .i64 d.size, .int .i64 d.mark, .slice fa d.frags.length fc, .slice ra d.roots.length rc, .slice ha d.handles.length hc] 28)
            generalize U.alloc (.cells #[.int .i64 d.young.1, .slice wa1 d.young.2.length wc1, .int .i64 d.old.1, .slice wa2 d.old.2.length wc2, .int .i64 d.size, .int .i64 d.mark, .slice fa d.frags.length fc, .slice ra d.roots.length rc, .slice ha d.handles.length hc] 28) = U2 at *
            have T12 := Lib.hid T.1
            have TB := Lib.hid T.2.2
            clear T
            have hws := (HD.out.below VB.out).ws
            obtain ⟨m, hm⟩ : ∃ m : Nat, lowP k ((d.roots.length : Int) + 1) = (m : Int) := ⟨(lowP k ((d.roots.length : Int) + 1)).toNat, by have := lowP_le k (n := (d.roots.length : Int) + 1) (by omega); omega⟩
            have HM := Lib.hid (show m ≤ d.roots.length by have := lowP_le k (n := (d.roots.length : Int) + 1) (by omega); omega)
            have HLOW := Lib.hid (fun (V : World) => low_any k ((d.roots.length : Int) + 1) HK.out (by have := HRL.out; omega) V)
            rw [hm] at HLOW
            have HRC := Lib.hid (show d.roots.length ≤ rc by obtain ⟨-, -, a', c', he, hle, -⟩ := hws; simp only [Value.slice.injEq, true_and] at he; omega)
            have p5 : IntKind.i64.wrap ((d.roots.length : Int) + 1) = (d.roots.length : Int) + 1 := IntWalk.i64_in _ (by have := HRL.out; omega)
            have q1 : (0 : Int) ≤ (m : Int) := by omega
            have q2 : (m : Int) ≤ (rc : Int) := by have := HM.out; have := HRC.out; omega
            have q3 : m ≤ rc := by omega
            have c7 := cell_of ((TB.out.block _ (lt_of_block VX.out)).trans VX.out) 7
            have e7 := cell_of T12.out 7
            have f7 := free_of T12.out 7
            simp at c7 e7 f7
            clear hm hws
            have c7d : U2.drew.cell? _ = _ := c7
            have e7d : U2.drew.cell? _ = _ := e7
            have f7d : U2.drew.frozen? _ = _ := f7
            have D12 := Lib.hid (show U2.drew.heap[U.heap.size]? = _ from T12.out)
            have DB := Lib.hid (show Below U.heap.size U U2.drew from TB.out.drew)
            clear c7 e7 f7
            refine wp_region_still_tail 9 (by kernel_rfl) (by kernel_rfl) ?_
            simp only [List.take_succ_cons, List.take_zero, List.drop_succ_cons, List.drop_zero]
            change wpStill _ _ U2.drew (fun a' => wpList _ _ _ _ a' U2.drew) _ _
            generalize U2.drew = wd at *
            repeat still_step
            still_call (HLOW.out _)
            repeat still_step
            refine wpStill_nil ?_
            go_wp2_with fail
            have G12 := Lib.hid (show (wd.setCell ⟨U.heap.size, 7, none⟩ (.slice ra m rc)).heap[U.heap.size]? = some (.cells #[.int .i64 d.young.1, .slice wa1 d.young.2.length wc1, .int .i64 d.old.1, .slice wa2 d.old.2.length wc2, .int .i64 d.size, .int .i64 d.mark, .slice fa d.frags.length fc, .slice ra m rc, .slice ha d.handles.length hc] 28 (0, 0)) from set_of D12.out 7 _)
            have GU := Lib.hid (DB.out.setCell (p := ⟨U.heap.size, 7, none⟩) (Nat.le_refl _) (.slice ra m rc))
            clear c7d e7d f7d D12 DB TB T12
            generalize wd.setCell ⟨U.heap.size, 7, none⟩ (.slice ra m rc) = Wf at *
            have G11 := Lib.hid ((GU.out.block _ (lt_of_block V11.out)).trans V11.out)
            have G10 := Lib.hid ((GU.out.block _ (lt_of_block V10.out)).trans V10.out)
            have GX := Lib.hid ((GU.out.block _ (lt_of_block VX.out)).trans VX.out)
            have GB := Lib.hid (VB.out.trans (GU.out.mono VB.out.size))
            have GW := Lib.hid (show Ws Wf (.slice b2 (d.roots.length + d.roots.length) c2) (d.roots ++ d.roots) by have h := VW.out.below GU.out; rwa [Nat.zero_add] at h)
            clear V11 V10 VX VB VW GU
            have HDf := Lib.hid (HD.out.below GB.out)
            have HSf := Lib.hid (HSA.out.below GB.out)
            have HW1 := Lib.hid (whyP_roots (r := []) HW.out (fun x hx => by cases hx))
            have HW2 := Lib.hid (whyP_roots (r := d.roots ++ d.roots) HW.out (fun x hx => by rcases List.mem_append.1 hx with q | q <;> exact q))
            have C0 := Lib.hid (fun (V : World) (hb : Below Wf.heap.size Wf V) => (live_fn d _ V (HDf.out.below hb) HS0.out.ok).mono (R' := fun e w' => e = .returned (.int .i64 ((liveP d.mem d.roots : Nat) : Int)) ∧ Below Wf.heap.size Wf w') fun e w' h => ⟨h.1, hb.trans (h.2.mono hb.size)⟩)
            have C1 := Lib.hid (fun (V : World) (hb : Below Wf.heap.size Wf V) => (live_fn (d.roots' []) _ V ((HDf.out.below hb).roots' (Ws.nil V)) (HS0.out.ok' (by simp))).mono (R' := fun e w' => e = .returned (.int .i64 0) ∧ Below Wf.heap.size Wf w') fun e w' h => ⟨by rw [h.1]; rw [show liveP (d.roots' []).mem (d.roots' []).roots = 0 from live_none _]; rfl, hb.trans (h.2.mono hb.size)⟩)
            have C2 := Lib.hid (fun (V : World) (hb : Below Wf.heap.size Wf V) => (handles_any (d.roots' []) _ V ((HDf.out.below hb).roots' (Ws.nil V)) HS0.out.ok.frags HS0.out.ok.words (by simp [Dmp.roots'])).mono (R' := fun e w' => (∃ a c, e = .returned (.slice a 0 c)) ∧ Below Wf.heap.size Wf w') fun e w' h => none_handles hb h)
            have C3 := Lib.hid (fun (V : World) (hb : Below Wf.heap.size Wf V) => (why_any (d.roots' []) S _ _ V ((HDf.out.below hb).roots' (Ws.nil V)) (HSf.out.below hb) (HS0.out.ok' (by simp))).mono (R' := fun e w' => e = .returned (.string ⟨#[]⟩) ∧ Below Wf.heap.size Wf w') fun e w' h => ⟨by rw [h.1, (whyT_empty _ _).2 HW1.out], hb.trans (h.2.mono hb.size)⟩)
            have C4 := Lib.hid (fun (V : World) (hb : Below Wf.heap.size Wf V) => (live_fn (d.roots' (d.roots ++ d.roots)) _ V ((HDf.out.below hb).roots' (GW.out.below hb)) (HS0.out.ok' (by have := HRL.out; simp; omega))).mono (R' := fun e w' => e = .returned (.int .i64 ((liveP d.mem d.roots : Nat) : Int)) ∧ Below Wf.heap.size Wf w') fun e w' h => ⟨by rw [h.1]; exact congrArg (fun n : Nat => Ending.returned (.int .i64 (n : Int))) (live_twice d.mem d.roots), hb.trans (h.2.mono hb.size)⟩)
            have C5 := Lib.hid (fun (V : World) (hb : Below Wf.heap.size Wf V) => (live_fn (d.roots' (d.roots.take m)) _ V ((HDf.out.below hb).roots' ((HDf.out.below hb).ws.take HM.out)) (HS0.out.ok' (by have := HRL.out; simp; omega))).mono (R' := fun e w' => e = .returned (.int .i64 ((liveP d.mem (d.roots.take m) : Nat) : Int)) ∧ Below Wf.heap.size Wf w') fun e w' h => ⟨h.1, hb.trans (h.2.mono hb.size)⟩)
            have C6 := Lib.hid (fun (V : World) (hb : Below Wf.heap.size Wf V) => (why_any (d.roots' (d.roots ++ d.roots)) S _ _ V ((HDf.out.below hb).roots' (GW.out.below hb)) (HSf.out.below hb) (HS0.out.ok' (by have := HRL.out; simp; omega))).mono (R' := fun e w' => e = .returned (.string ⟨#[]⟩) ∧ Below Wf.heap.size Wf w') fun e w' h => ⟨by rw [h.1, (whyT_empty _ _).2 HW2.out], hb.trans (h.2.mono hb.size)⟩)
            have C7 := Lib.hid (fun (V : World) (hb : Below Wf.heap.size Wf V) => (awake_any V).mono (R' := fun e w' => e = .returned (.bool true) ∧ Below Wf.heap.size Wf w') fun e w' h => ⟨h.1, hb.trans (h.2.mono hb.size)⟩)
            have HLE := Lib.hid (live_some (m := d.mem) (r := d.roots) (r' := d.roots.take m) (fun x hx => List.mem_of_mem_take hx))
            obtain ⟨n1, hn1⟩ : ∃ n, liveP d.mem d.roots = n := ⟨_, rfl⟩
            obtain ⟨n2, hn2⟩ : ∃ n, liveP d.mem (d.roots.take m) = n := ⟨_, rfl⟩
            rw [hn1] at C0 C4 HLE
            rw [hn2] at C5 HLE
            clear hn1 hn2 q1 q2 q3 p5
            have q1 : (n2 : Int) ≤ (n1 : Int) := by have := HLE.out; omega
            have q2 : n2 ≤ n1 := HLE.out
            have K := Lib.hid (fun (V : World) (hb : Below Wf.heap.size Wf V) => keep36 GX.out G10.out G11.out G12.out hb)
            obtain ⟨g0, g1, g2, g3, g4, g5, g6, g7, g8, g9, g10, g11, g12, g13, g14, g15, g16, g17, g18, g19, g20, g21, g22, g23, g24, g25, g26, g27, g28, g29, g30, g31, g32, g33, g34, g35, -⟩ := K.out Wf (Below.refl _ _)
            go_region_held3 (fun w' => w'.cell? ⟨w.heap.size, 0, none⟩ = some (.int .i64 d.young.1) ∧ w'.cell? ⟨w.heap.size, 1, none⟩ = some (.slice wa1 d.young.2.length wc1) ∧ w'.cell? ⟨w.heap.size, 2, none⟩ = some (.int .i64 d.old.1) ∧ w'.cell? ⟨w.heap.size, 3, none⟩ = some (.slice wa2 d.old.2.length wc2) ∧ w'.cell? ⟨w.heap.size, 4, none⟩ = some (.int .i64 d.size) ∧ w'.cell? ⟨w.heap.size, 5, none⟩ = some (.int .i64 d.mark) ∧ w'.cell? ⟨w.heap.size, 6, none⟩ = some (.slice fa d.frags.length fc) ∧ w'.cell? ⟨w.heap.size, 7, none⟩ = some (.slice ra d.roots.length rc) ∧ w'.cell? ⟨w.heap.size, 8, none⟩ = some (.slice ha d.handles.length hc) ∧ w'.cell? ⟨wr.heap.size, 0, none⟩ = some (.int .i64 d.young.1) ∧ w'.cell? ⟨wr.heap.size, 1, none⟩ = some (.slice wa1 d.young.2.length wc1) ∧ w'.cell? ⟨wr.heap.size, 2, none⟩ = some (.int .i64 d.old.1) ∧ w'.cell? ⟨wr.heap.size, 3, none⟩ = some (.slice wa2 d.old.2.length wc2) ∧ w'.cell? ⟨wr.heap.size, 4, none⟩ = some (.int .i64 d.size) ∧ w'.cell? ⟨wr.heap.size, 5, none⟩ = some (.int .i64 d.mark) ∧ w'.cell? ⟨wr.heap.size, 6, none⟩ = some (.slice fa d.frags.length fc) ∧ w'.cell? ⟨wr.heap.size, 7, none⟩ = some (.slice none 0 0) ∧ w'.cell? ⟨wr.heap.size, 8, none⟩ = some (.slice ha d.handles.length hc) ∧ w'.cell? ⟨W2.heap.size, 0, none⟩ = some (.int .i64 d.young.1) ∧ w'.cell? ⟨W2.heap.size, 1, none⟩ = some (.slice wa1 d.young.2.length wc1) ∧ w'.cell? ⟨W2.heap.size, 2, none⟩ = some (.int .i64 d.old.1) ∧ w'.cell? ⟨W2.heap.size, 3, none⟩ = some (.slice wa2 d.old.2.length wc2) ∧ w'.cell? ⟨W2.heap.size, 4, none⟩ = some (.int .i64 d.size) ∧ w'.cell? ⟨W2.heap.size, 5, none⟩ = some (.int .i64 d.mark) ∧ w'.cell? ⟨W2.heap.size, 6, none⟩ = some (.slice fa d.frags.length fc) ∧ w'.cell? ⟨W2.heap.size, 7, none⟩ = some (.slice b2 (d.roots.length + d.roots.length) c2) ∧ w'.cell? ⟨W2.heap.size, 8, none⟩ = some (.slice ha d.handles.length hc) ∧ w'.cell? ⟨U.heap.size, 0, none⟩ = some (.int .i64 d.young.1) ∧ w'.cell? ⟨U.heap.size, 1, none⟩ = some (.slice wa1 d.young.2.length wc1) ∧ w'.cell? ⟨U.heap.size, 2, none⟩ = some (.int .i64 d.old.1) ∧ w'.cell? ⟨U.heap.size, 3, none⟩ = some (.slice wa2 d.old.2.length wc2) ∧ w'.cell? ⟨U.heap.size, 4, none⟩ = some (.int .i64 d.size) ∧ w'.cell? ⟨U.heap.size, 5, none⟩ = some (.int .i64 d.mark) ∧ w'.cell? ⟨U.heap.size, 6, none⟩ = some (.slice fa d.frags.length fc) ∧ w'.cell? ⟨U.heap.size, 7, none⟩ = some (.slice ra m rc) ∧ w'.cell? ⟨U.heap.size, 8, none⟩ = some (.slice ha d.handles.length hc) ∧ Below Wf.heap.size Wf w')
              (first | with_reducible exact K.out _ (Below.refl _ _).drew | with_reducible exact K.out _ (by assumption) | go_keep)
              (first
                | (go_at_call 12
                   go_split_ands
                   (first
                    | with_reducible refine (C1.out _ (by assumption)).mono ?_
                    | with_reducible refine (C4.out _ (by assumption)).mono ?_
                    | with_reducible refine (C0.out _ (by assumption)).mono ?_
                    | with_reducible refine (C5.out _ (by assumption)).mono ?_)
                   rintro e w7 ⟨rfl, hb7⟩)
                | (go_at_call 8
                   go_split_ands
                   (first
                    | with_reducible refine (C3.out _ (by assumption)).mono ?_
                    | with_reducible refine (C6.out _ (by assumption)).mono ?_)
                   rintro e w7 ⟨rfl, hb7⟩)
                | (go_at_call 13
                   go_split_ands
                   with_reducible refine (C2.out _ (by assumption)).mono ?_
                   rintro e w7 ⟨⟨ga, gc, rfl⟩, hb7⟩)
                | (go_at_call 9
                   go_split_ands
                   with_reducible refine (C7.out _ (by assumption)).mono ?_
                   rintro e w7 ⟨rfl, hb7⟩))
            go_split_ands
            have HBL := Lib.hid ‹Below Wf.heap.size Wf _›
            clear g0 g1 g2 g3 g4 g5 g6 g7 g8 g9 g10 g11 g12 g13 g14 g15 g16 g17 g18 g19 g20 g21 g22 g23 g24 g25 g26 g27 g28 g29 g30 g31 g32 g33 g34 g35
            go_wp2_with fail
            go_ret
            exact ⟨rfl, GB.out.trans (HBL.out.mono GB.out.size)⟩
      · have hs := str_ne hw
        go_wp2_with fail
        refine (awake_any w3).mono ?_
        rintro e w4 ⟨rfl, hb⟩
        have VB := Lib.hid (ZB.out.trans (hb.mono ZB.out.size))
        clear hb
        go_wp2_with fail
        go_ret
        exact ⟨rfl, VB.out⟩

end Go.Proofs.Ytohgkfnbjfhniaa
