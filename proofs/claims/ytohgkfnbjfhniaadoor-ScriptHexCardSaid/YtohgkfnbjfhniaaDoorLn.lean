/-
  A line of a text: what it says.
-/
import Derived.Test.YtohgkfnbjfhniaaDoorSl
import Derived.Deep.CutRange
namespace Go.Proofs.YtohgkfnbjfhniaaDoor
open Go.RowKit Sp

theorem split_at (s : ByteArray) (hs : s.size < 4294967281) (w : World) (g : GW w) :
    Calls Tryd.prog 47 #[.string s, .string ⟨#[32]⟩] w fun e w' => ∃ (ws : List ByteArray) (N : Nat), ws.length = N ∧ 1 ≤ N ∧ Hid (ws.map (·.toList) = splitC 32 s.toList) ∧ Hid (∀ p ∈ ws, p.size ≤ s.size) ∧ N ≤ 140737488355000 ∧
      e = .returned (.slice (some ⟨w.heap.size, 0, none⟩) N N) ∧ Below w.heap.size w w' ∧ w.heap.size < w'.heap.size ∧ Hid (∀ W, Below w'.heap.size w' W → ∀ j, (hj : j < ws.length) → W.cell? ⟨w.heap.size, j, none⟩ = some (.string ws[j])) := by
  refine (split_any s hs w g).mono ?_
  rintro e w' ⟨ws, h1, h2, h3, rfl, rfl⟩
  refine ⟨ws, _, rfl, h1, h2, h3, ?_, rfl, (Below.refl _ _).alloc (Nat.le_refl _) _, by simp, Lib.hid ?_⟩
  · have : ∀ t : List UInt8, (splitC 32 t).length ≤ t.length + 1 := by
      intro t
      induction t with
      | nil => simp [splitC]
      | cons b r ih =>
        unfold splitC; split
        · simp; omega
        · split
          · simp
          · rename_i e; rw [e] at ih; simp at ih ⊢; omega
    have h5 := this s.toList
    rw [← h2.out, List.length_map, Lib.toList_data, ← Lib.size_eq] at h5
    omega
  · intro W hW j hj
    rw [hW.cell (p := ⟨w.heap.size, j, none⟩) (by simp)]
    exact words_cell w ws hj

theorem lineP_code {st : St} {l a b : List UInt8} (h : splitC 32 l = [a, b]) (ha : a = [99, 111, 100, 101]) : lineP st l = (bytesP b).map fun x => { st with b := st.b ++ x } := by
  unfold lineP; rw [h]; simp [ha]

theorem lineP_rest {st : St} {l a : List UInt8} {r : List (List UInt8)} (h : splitC 32 l = a :: r) (ha : ¬ (a = [99, 111, 100, 101] ∧ r.length = 1)) : lineP st l = match numbersP r with
      | none => none
      | some n => if a = [115, 101, 116] then some { st with c := n } else if a = [101, 118] then some { st with es := st.es ++ [n] } else none := by
  unfold lineP; rw [h]; simp only; rw [if_neg ha]; cases numbersP r <;> rfl

theorem numbersP_not {r : List (List UInt8)} (h : r.length ≠ 3) : numbersP r = none := by
  unfold numbersP
  split
  · simp at h
  · rfl

theorem Fr.drew {S : Nat → Prop} {a b : World} (h : Fr S a b) : Fr S a b.drew := h.drewN 1

set_option maxRecDepth 100000 in
set_option maxHeartbeats 4000000 in
theorem line_any (s : ByteArray) (hs : s.size < 4294967281) (w : World) {base tb : Nat} {st : St} {vb ve : Value} (hT : TxAt w base tb st vb ve) (g : GW w) (h20 : 9 ≤ w.heap.size) (hbase : base ≤ w.heap.size)
    (hb : st.b.length ≤ 4294967281) (he : st.es.length ≤ 4294967281) :
    Calls Tryd.prog 33 #[.pointer (some ⟨tb, 0, none⟩), .string s] w fun e w' => LineEnd base tb w (lineP st s.toList) e w' := by
  have HT := Lib.hid hT
  have HG := Lib.hid g
  clear hT g
  go_enter Tryd.func33, Tryd.ntmps33
  go_wp2_with fail
  refine (split_at s hs w HG.out).mono ?_
  rintro e w1 ⟨ws, N, hN, hN1, HM, HZ, hN2, rfl, hb1, hlt1, HC⟩
  have HT1 := Lib.hid (HT.out.below hb1)
  have HG1 := Lib.hid (HG.out.below hb1 h20)
  have HB1 := Lib.hid hb1
  have HL := Lib.hid hN
  clear hb1
  have c0 := HC.out w1 (Below.refl _ _) 0 (by omega)
  obtain ⟨p0, hp0⟩ : ∃ p, ws[0]'(by omega) = p := ⟨_, rfl⟩
  rw [hp0] at c0
  have HP0 := Lib.hid hp0
  clear hp0
  by_cases hcode : p0.toList = [99, 111, 100, 101] ∧ N = 2
  · obtain ⟨hc, rfl⟩ := hcode
    have qA : (p0.toList == [99, 111, 100, 101]) = true := by simpa using hc
    have c1 := HC.out w1 (Below.refl _ _) 1 (by omega)
    obtain ⟨p1, hp1⟩ : ∃ p, ws[1]'(by omega) = p := ⟨_, rfl⟩
    rw [hp1] at c1
    have hpz := HZ.out p1 (hp1 ▸ List.getElem_mem _)
    have HLP := Lib.hid (show lineP st s.toList = (bytesP p1.toList).map fun x => { st with b := st.b ++ x } by
      refine lineP_code (a := p0.toList) ?_ hc
      rw [← HM.out]
      have h0 := HP0.out
      have hl := HL.out
      match ws, hl with
      | [a, b], _ => simp only [List.getElem_cons_zero, List.getElem_cons_succ] at h0 hp1; subst h0 hp1; rfl)
    clear hc hp1
    go_wp2_with fail
    refine (bytes_any p1 w1 (by omega)).mono ?_
    rintro e w2 ⟨r, rfl, hr, hb2⟩
    have hrl : r.size ≤ 4294967281 := by
      rw [Lib.size_eq, ← Lib.toList_data, hr]
      cases q : bytesP p1.toList with
      | none => simp
      | some x =>
        have : x.length ≤ p1.toList.length := by
          unfold bytesP at q
          split at q
          · cases q; simp
          · split at q
            · cases q
            · exact pairsP_length q
        rw [Lib.toList_data, ← Lib.size_eq] at this
        simp only [Option.getD_some]; omega
    have HT2 := Lib.hid (HT1.out.below hb2)
    have HB2 := Lib.hid ((HB1.out.mono hbase).trans (hb2.mono (by have := HB1.out.size; omega)))
    have t0 := HT2.out.c0
    have f0 := HT2.out.f0
    have hsz2 := hb2.size
    have HR := Lib.hid hr
    clear hb2 hr
    go_wp2_with (at_builtin; refine wpList_append_str rfl (.tmp 32) (.tmp 33) rfl base vb st.b.length _ rfl HT2.out.ob r rfl (by omega) (by omega) ?_; intro A c w3 hown3 hgrow3 hat3
                 have T3 := Lib.hid (HT2.out.setB (x := r.toList) hown3 (by rw [Lib.size_eq, Lib.toList_data]; simp) (by rw [cs8_append]) hgrow3 hat3)
                 have F3 : Fr (fun k => vb.ownBlock = some k) w2 w3 := (Fr.refl _ w2).grown hgrow3 (fun k e _ => e)
                 have B3 := Lib.hid (Fr.below HB2.out F3 (fun i q => (HT2.out.ob.lt i q).1) (by omega))
                 have u0 := F3.cell t0 HT2.out.n1
                 have g0 := (F3.frozen HT2.out.lt HT2.out.n1).trans f0
                 clear hown3 hgrow3 hat3 F3)
    go_ret
    refine ⟨?_, B3.out.setCell HT.out.nb _⟩
    rw [HLP.out]
    have h3 := T3.out
    have hr := HR.out
    cases q : bytesP p1.toList with
    | none => rfl
    | some x =>
      rw [q] at hr
      simp only [Option.getD_some] at hr
      rw [hr] at h3
      exact ⟨rfl, _, _, h3⟩
  · have hq : ((p0.toList == [99, 111, 100, 101]) = false) ∨ ((p0.toList == [99, 111, 100, 101]) = true ∧ ((N : Int) == 2) = false) := by
      by_cases hc : p0.toList = [99, 111, 100, 101]
      · exact .inr ⟨by simpa using hc, by have : N ≠ 2 := fun h => hcode ⟨hc, h⟩; simp; omega⟩
      · exact .inl (by simpa using hc)
    have HLP := Lib.hid (show lineP st s.toList = match numbersP ((ws.drop 1).map (·.toList)) with
      | none => none
      | some n => if p0.toList = [115, 101, 116] then some { st with c := n } else if p0.toList = [101, 118] then some { st with es := st.es ++ [n] } else none by
      refine lineP_rest ?_ ?_
      · rw [← HM.out]
        have h0 := HP0.out
        have hl := HL.out
        match ws, hl with
        | a :: r, _ => simp only [List.getElem_cons_zero] at h0; subst h0; rfl
      · rw [List.length_map, List.length_drop, HL.out]; intro h; exact hcode ⟨h.1, by have := h.2; omega⟩)
    clear hcode
    by_cases h4 : N = 4
    · subst h4
      go_upto_region 2 with fail
      go_cut [20] from 12 to 20 (fun s20 wx => s20 = .bool false ∧ w1 = wx)
      case first =>
        rcases hq with qA | ⟨qA, qN⟩
        all_goals
          go_wp2_with fail
          go_meet
          exact ⟨rfl, rfl⟩
      case rest =>
        obtain ⟨rfl, rfl⟩ := hcut
        clear hq
        go_wp2_with fail
        refine (numbers_three _ _ (ws.drop 1) (by rw [List.length_drop, HL.out]) w1 HG1.out (by omega) (fun j hj => ⟨⟨w.heap.size, 1, none⟩, rfl, fun W hW => ?_⟩) (fun p hp => by have := HZ.out p (List.mem_of_mem_drop hp); omega)).mono ?_
        · rw [Addr.add_lit, HC.out W hW (1 + j) (by simp at hj ⊢; omega)]; simp [Nat.add_comm]
        rintro e w2 ⟨x, y, z, ok, rfl, hnum, hb2⟩
        have HT2 := Lib.hid (HT1.out.below hb2)
        have HB2 := Lib.hid ((HB1.out.mono hbase).trans (hb2.mono (by have := HB1.out.size; omega)))
        have c0' := HC.out w2 hb2 0 (by have := HL.out; omega)
        rw [HP0.out] at c0'
        have hsz2 := hb2.size
        have hlt2 : w.heap.size < w2.heap.size := by omega
        have HN := Lib.hid hnum
        clear hb2 hnum
        cases ok
        · go_wp2_with fail
          go_ret
          rw [HLP.out, HN.out]
          exact ⟨rfl, HB2.out.alloc (by omega) _⟩
        · by_cases hset : p0.toList = [115, 101, 116]
          · have qS : (p0.toList == [115, 101, 116]) = true := by simpa using hset
            have HLQ := Lib.hid (show lineP st s.toList = some { st with c := (x, y, z) } by rw [HLP.out, HN.out]; simp [hset])
            clear hset
            have t1 := HT2.out.c1
            have t2 := HT2.out.c2
            have t3 := HT2.out.c3
            have g1 := HT2.out.f1
            have g2 := HT2.out.f2
            have g3 := HT2.out.f3
            have htb := HT2.out.lt
            go_wp2_with fail
            go_ret
            rw [HLQ.out]
            exact ⟨⟨rfl, vb, ve, (HT2.out.setC x y z).below ((Below.refl _ _).alloc (Nat.le_refl _) _)⟩, (((HB2.out.setCell (p := ⟨tb, 1, none⟩) HT.out.nb _).setCell (p := ⟨tb, 2, none⟩) HT.out.nb _).setCell (p := ⟨tb, 3, none⟩) HT.out.nb _).alloc (by simp [World.setCell]; omega) _⟩
          · have qS : (p0.toList == [115, 101, 116]) = false := by simpa using hset
            by_cases hev : p0.toList = [101, 118]
            · have qE : (p0.toList == [101, 118]) = true := by simpa using hev
              have HLQ := Lib.hid (show lineP st s.toList = some { st with es := st.es ++ [(x, y, z)] } by rw [HLP.out, HN.out]; simp [hev])
              clear hset hev
              obtain ⟨i0, hi, hz0, hz1, hz2⟩ := info_parts info61
              have t4 := HT2.out.c4
              have g4 := HT2.out.f4
              have htb := HT2.out.lt
              have T3 := Lib.hid (HT2.out.below ((Below.refl _ w2).alloc (Nat.le_refl _) (.cells #[.int .i64 x, .int .i64 y, .int .i64 z] 96)))
              go_wp2_with fail
              have HNB := Lib.hid (show ((w2.alloc (.cells #[.int .i64 x, .int .i64 y, .int .i64 z] 96)).alloc (.cells #[.int .i64 x, .int .i64 y, .int .i64 z] 61)).heap[w2.heap.size + 1]? = some (.cells #[.int .i64 x, .int .i64 y, .int .i64 z] 61) by
                have h := heap_alloc_new (w2.alloc (.cells #[.int .i64 x, .int .i64 y, .int .i64 z] 96)) (.cells #[.int .i64 x, .int .i64 y, .int .i64 z] 61)
                rw [show (w2.alloc (.cells #[.int .i64 x, .int .i64 y, .int .i64 z] 96)).heap.size = w2.heap.size + 1 by simp] at h; exact h)
              have hveo : some w2.heap.size ≠ ve.ownBlock := fun e => by have := (HT2.out.oe.lt _ e.symm).2; omega
              go_region_law (first
                  | (refine step_append_lies _ rfl (.tmp 71) (.tmp 79) 39 rfl base 61 i0 (.agg #[.int .i64 0, .int .i64 0, .int .i64 0]) 3 24 Tryd.underlying39 hi hz0 hz1 hz2 rfl (by omega) ve _ _ (by rfl) ((T3.out.oe.alloc _).drew) ⟨w2.heap.size + 1, 0, none⟩ 1 1 [.int .i64 x, .int .i64 y, .int .i64 z] (by rfl) (by rfl) (World.news_of_block (cs := #[.int .i64 x, .int .i64 y, .int .i64 z]) (t := 61) (fr := (0, 0)) HNB.out) (by simp [Value.oneCell']) (by omega) (by unfold maxLen; omega) (by omega) (by simp; omega) (w2.heap.size + 2) (by simp) ?_; intro gg cap w4 hown4 hgrow4 hat4 hlt4
                     have T4 := Lib.hid (TxAt.setE (x := [(x, y, z)]) (HT2.out.fr (Fr.drew (((Fr.refl (fun _ => False) w2).alloc (.cells #[.int .i64 x, .int .i64 y, .int .i64 z] 96)).alloc (.cells #[.int .i64 x, .int .i64 y, .int .i64 z] 61))) (fun q => q) (fun _ _ q => q) (fun _ _ q => q)) hown4 (by simp) (by rw [flat3_append]; rfl) hgrow4 (hat4.elim (fun e => .inl e.symm) (fun e => .inr (fun k q => by simp [Value.ownBlock] at q; subst q e; simp))))
                     have F4 : Fr (fun k => ve.ownBlock = some k) w2 w4 := (Fr.drew (((Fr.refl _ w2).alloc (.cells #[.int .i64 x, .int .i64 y, .int .i64 z] 96)).alloc (.cells #[.int .i64 x, .int .i64 y, .int .i64 z] 61))).grown hgrow4 (fun k e _ => e)
                     have B4 := Lib.hid (Fr.below HB2.out F4 (fun i q => (HT2.out.oe.lt i q).1) (by omega))
                     have u4 := F4.cell t4 HT2.out.n2
                     have v4 := (F4.frozen htb HT2.out.n2).trans g4
                     clear F4 hown4 hat4))
              all_goals
                go_wp2
                go_ret
                rw [HLQ.out]
                exact ⟨⟨rfl, vb, _, T4.out⟩, B4.out.setCell HT.out.nb _⟩
            · have qE : (p0.toList == [101, 118]) = false := by simpa using hev
              have HLQ := Lib.hid (show lineP st s.toList = none by rw [HLP.out, HN.out]; simp [hset, hev])
              clear hset hev
              go_wp2_with fail
              go_ret
              rw [HLQ.out]
              exact ⟨rfl, HB2.out.alloc (by omega) _⟩
    · have HLN := Lib.hid (show lineP st s.toList = none by rw [HLP.out, numbersP_not (by rw [List.length_map, List.length_drop, HL.out]; omega)])
      rcases hq with qA | ⟨qA, qN⟩
      all_goals go_wp2_with fail
      all_goals
        refine (numbers_no _ _ _ _ (by omega) (by omega)).mono ?_
        rintro e w2 ⟨x, y, z, rfl, hb2⟩
        go_wp2_with fail
        go_ret
        rw [HLN.out]
        exact ⟨rfl, ((HB1.out.mono hbase).trans (hb2.mono (by have := HB1.out.size; omega))).alloc (by have := hb2.size; have := HB1.out.size; omega) _⟩

end Go.Proofs.YtohgkfnbjfhniaaDoor
