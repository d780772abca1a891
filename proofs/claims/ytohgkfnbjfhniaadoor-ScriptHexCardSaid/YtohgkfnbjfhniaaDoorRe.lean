/-
  Chapter 25's own answer, walked: Read.
-/
import Derived.Test.YtohgkfnbjfhniaaDoorRd
namespace Go.Proofs.YtohgkfnbjfhniaaDoor
open Go.RowKit Sp

theorem lineP_len {st : St} {l a : List UInt8} {r : List (List UInt8)} (h : splitC 32 l = a :: r) (ha : a = [99, 111, 100, 101]) (hr : r.length ≠ 1) : lineP st l = none := by
  rw [lineP_rest h (fun q => hr q.2), ha]
  cases numbersP r with
  | none => rfl
  | some n => rfl

theorem own_three {w : World} {base : Nat} {v : Value} {x y z : Int} (h : w.ownsRow base 3 1 v 3 (ints [x, y, z])) : ∃ g cap, v = .slice (some ⟨g, 0, none⟩) 3 cap ∧ base ≤ g ∧ g < w.heap.size ∧ w.cell? ⟨g, 0, none⟩ = some (.int .i64 x) ∧ w.cell? ⟨g, 1, none⟩ = some (.int .i64 y) ∧ w.cell? ⟨g, 2, none⟩ = some (.int .i64 z) := by
  obtain ⟨a, cap, rfl⟩ := own_form h
  rcases h.2 with ⟨q, q2⟩ | ⟨g, cap', cur, q, hb, hg, _⟩
  · omega
  · cases q
    refine ⟨g, cap, rfl, hb, (h.lt g rfl).2, ?_, ?_, ?_⟩
    · rw [← add_zero_at']; exact h.cells rfl 0 _ rfl
    · rw [← add_zero_at']; exact h.cells rfl 1 _ rfl
    · rw [← add_zero_at']; exact h.cells rfl 2 _ rfl

set_option maxRecDepth 100000 in
set_option maxHeartbeats 8000000 in
theorem read_any (a : Option Addr) (cap : Nat) (ws : List ByteArray) (N : Nat) (hN : ws.length = N) (hN2 : N ≤ 200000) (w : World) (hs : Strs w a ws) (hsz : ∀ s ∈ ws, s.size ≤ 1000000) :
    Calls Tryd.prog 34 #[.slice a N cap] w (ReadEnd w (runP 1 St.zero (ws.map (·.toList)))) := by
  have HS := Lib.hid hs
  have HZ := Lib.hid hsz
  have HW := Lib.hid hN
  clear hs hsz hN
  go_enter Tryd.func34, Tryd.ntmps34
  go_wp2_with fail
  go_loopw [6, 8, 9] (fun vb ve i wr => ∃ (k : Nat) (st : St), k ≤ N ∧ i = .int .i64 k ∧ Hid (RR w ws k st vb ve wr)) (fun _ _ i _ => N - (intOf i).toNat)
  case atStart => exact ⟨0, St.zero, by omega, rfl, Lib.hid ⟨RM.start w, rfl, by simp [St.zero], by simp [St.zero]⟩⟩
  case round =>
    obtain ⟨k, st, hk, rfl, HR⟩ := hrel
    by_cases hlt : k < N
    · have hkw : k < ws.length := by rw [HW.out]; exact hlt
      obtain ⟨ad, rfl, hcell⟩ := HS.out k hkw
      have hc := hcell _ HR.out.m.bel
      have hsk := HZ.out _ (List.getElem_mem hkw)
      clear hcell
      obtain ⟨s, hs⟩ : ∃ s, ws[k] = s := ⟨_, rfl⟩
      rw [hs] at hc hsk
      have HSK := Lib.hid hs
      clear hs
      have q1 : (k : Int) < (N : Int) := by omega
      have q2 : (0 : Int) ≤ (k : Int) := by omega
      have q3 : IntKind.i64.wrap ((k : Int) + 1) = (k : Int) + 1 := IntWalk.i64_in _ (by omega)
      go_wp2_with fail
      refine (pieces_any s hsk 32 _ (by rfl) _).mono ?_
      rintro e w1 ⟨v, ps, rfl, HO, HM, HPZ, hpl, hb1⟩
      obtain ⟨pa, pcap, rfl, hpa, hstr⟩ := own_strs HO.out
      have HR1 := Lib.hid (HR.out.m.below hb1)
      have hsz1 := hb1.size
      have hwr := HR.out.m.sz
      have HSTR := Lib.hid hstr
      clear hb1 hstr hc
      obtain ⟨M, hM⟩ : ∃ M, ps.length = M := ⟨_, rfl⟩
      have hM1 : 1 ≤ M := by
        rcases Nat.lt_or_ge 0 M with h | h
        · exact h
        · have h1 := splitC_ne 32 s.toList
          rw [← HM.out] at h1
          exact absurd (by rw [List.eq_nil_of_length_eq_zero (by omega : ps.length = 0)]; rfl) h1
      have hMle : M ≤ 1000001 := by omega
      obtain ⟨g, rfl⟩ := hpa (fun e => by rw [e] at hM; simp at hM; omega)
      clear hpa
      obtain ⟨p0, r, hps⟩ : ∃ p0 r, ps = p0 :: r := by
        cases ps with
        | nil => simp at hM; omega
        | cons x y => exact ⟨x, y, rfl⟩
      have hc0 : w1.cell? ⟨g, 0, none⟩ = some (.string p0) := by
        obtain ⟨ad2, e2, k2⟩ := HSTR.out ps.length 0 (by rw [List.take_length]; omega)
        cases e2
        have := k2 w1 (Below.refl _ _)
        rw [add_zero_at', List.getElem_take] at this
        rw [this]; subst hps; rfl
      have HSPL := Lib.hid (show splitC 32 s.toList = p0.toList :: r.map (·.toList) by rw [← HM.out, hps]; rfl)
      have hrl : r.length + 1 = M := by rw [← hM, hps]; rfl
      rw [hM]
      have HPS := Lib.hid hps
      have HML := Lib.hid hM
      clear hps hM
      by_cases hcode : p0.toList = [99, 111, 100, 101]
      · have qA : (p0.toList == [99, 111, 100, 101]) = true := by simpa using hcode
        by_cases h2 : M = 2
        · subst h2
          obtain ⟨p1, hr⟩ : ∃ p1, r = [p1] := by
            cases r with
            | nil => simp at hrl
            | cons x y => cases y with
              | nil => exact ⟨x, rfl⟩
              | cons _ _ => simp at hrl
          have hc1 : w1.cell? ⟨g, 1, none⟩ = some (.string p1) := by
            obtain ⟨ad2, e2, k2⟩ := HSTR.out ps.length 1 (by rw [List.take_length, HML.out]; omega)
            cases e2
            have := k2 w1 (Below.refl _ _)
            rw [add_zero_at', List.getElem_take] at this
            rw [this]; congr 2; simp [HPS.out, hr]
          have hp1 := HPZ.out p1 (by rw [HPS.out, hr]; simp)
          have HLP := Lib.hid (show lineP st s.toList = (bytesP p1.toList).map fun x => { st with b := st.b ++ x } from lineP_code (by rw [HSPL.out, hr]; rfl) hcode)
          clear hcode hr hrl
          go_wp2_with fail
          refine (refBytes_any p1 w1 (by omega)).mono ?_
          rintro e w2 ⟨x, rfl, hx, hb2⟩
          have hxl : x.size ≤ 1000000 := by
            rw [Lib.size_eq, ← Lib.toList_data, hx]
            cases q : bytesP p1.toList with
            | none => simp
            | some y =>
              have := bytesP_length q
              rw [size_toList] at this
              simp only [Option.getD_some]; omega
          have HR2 := Lib.hid (HR1.out.below hb2)
          have hsz2 := hb2.size
          have hbl : st.b.length ≤ 200000000000 := by have := HR.out.hb; omega
          have HX := Lib.hid hx
          clear hb2 hx
          cases hq : bytesP p1.toList with
          | none =>
            have hq' : (bytesP p1.toList).isSome = false := by rw [hq]; rfl
            have HLY := Lib.hid (show lineP st s.toList = none by rw [HLP.out, hq]; rfl)
            clear hq
            go_wp2_with (at_builtin; refine wpList_append_str rfl (.tmp 44) (.tmp 45) rfl (w.heap.size + 2) u6 st.b.length _ rfl HR2.out.ob x rfl (by omega) (by omega) ?_; intro A c w3 hown3 hgrow3 hat3
                         have R3 := Lib.hid (HR2.out.setB (x := x.toList) hown3 (by rw [List.length_append, size_toList]) (by rw [cs8_append]) hgrow3 hat3)
                         have r0 := R3.out.r0
                         have r1 := R3.out.r1
                         have r2 := R3.out.r2
                         have s0 := R3.out.s0
                         have s1 := R3.out.s1
                         have s2 := R3.out.s2
                         clear hown3 hgrow3 hat3)
            have HEND := Lib.hid (HR.out.refused hkw (by rw [HSK.out]; exact HLY.out))
            refine bodyPost_ret (v := .tuple #[.slice none 0 0, .agg #[.int .i64 0, .int .i64 0, .int .i64 0], .slice none 0 0, .int .i64 (k + 1)]) (by simp [results, Tryd.results34, go_sem, r0, r1, r2]) rfl ?_
            rw [HEND.out]
            exact ⟨by rfl, ((R3.out.bel.setCell (Nat.le_refl _) _).setCell (Nat.le_refl _) _).setCell (Nat.le_refl _) _⟩
          | some y =>
            have hq' : (bytesP p1.toList).isSome = true := by rw [hq]; rfl
            have HLY := Lib.hid (show lineP st s.toList = some { st with b := st.b ++ x.toList } by
              rw [HLP.out, hq]; have := HX.out; rw [hq] at this; simp only [Option.getD_some] at this; rw [this]; rfl)
            clear hq
            go_wp2_with (at_builtin; refine wpList_append_str rfl (.tmp 44) (.tmp 45) rfl (w.heap.size + 2) u6 st.b.length _ rfl HR2.out.ob x rfl (by omega) (by omega) ?_; intro A c w3 hown3 hgrow3 hat3
                         have R3 := Lib.hid (HR2.out.setB (x := x.toList) hown3 (by rw [List.length_append, size_toList]) (by rw [cs8_append]) hgrow3 hat3)
                         have r0 := R3.out.r0
                         have r1 := R3.out.r1
                         have r2 := R3.out.r2
                         have s0 := R3.out.s0
                         have s1 := R3.out.s1
                         have s2 := R3.out.s2
                         clear hown3 hgrow3 hat3)
            have HST := Lib.hid (HR.out.step hkw (by rw [HSK.out]; exact hsk) (by rw [HSK.out]; exact HLY.out) R3.out)
            go_roundw
            case rel => exact ⟨k + 1, _, by omega, by go_num, HST⟩
            case measure => simp [intOf]; omega
        · have q5 : ((M : Int) == 2) = false := by simp; omega
          have HEND := Lib.hid (HR.out.refused hkw (by rw [HSK.out]; exact lineP_len HSPL.out hcode (by rw [List.length_map]; omega)))
          have r0 := HR1.out.r0
          have r1 := HR1.out.r1
          have r2 := HR1.out.r2
          have s0 := HR1.out.s0
          have s1 := HR1.out.s1
          have s2 := HR1.out.s2
          clear hcode
          go_wp2_with fail
          refine bodyPost_ret (v := .tuple #[.slice none 0 0, .agg #[.int .i64 0, .int .i64 0, .int .i64 0], .slice none 0 0, .int .i64 (k + 1)]) (by simp [results, Tryd.results34, go_sem, r0, r1, r2]) rfl ?_
          rw [HEND.out]
          exact ⟨by rfl, ((HR1.out.bel.setCell (Nat.le_refl _) _).setCell (Nat.le_refl _) _).setCell (Nat.le_refl _) _⟩
      · have qA : (p0.toList == [99, 111, 100, 101]) = false := by simpa using hcode
        by_cases hset : p0.toList = [115, 101, 116]
        · have qS : (p0.toList == [115, 101, 116]) = true := by simpa using hset
          have HLP := Lib.hid (show lineP st s.toList = match numbersP (r.map (·.toList)) with
              | none => none
              | some n => some { st with c := n } by
            rw [lineP_rest HSPL.out (fun q => hcode q.1)]
            cases numbersP (r.map (·.toList)) <;> simp [hset])
          have q8 : (M : Int) ≤ (pcap : Int) := by have h := own_cap HO.out; rw [HML.out] at h; omega
          have q9 : (1 : Int) ≤ (M : Int) := by omega
          clear hcode
          go_wp2_with fail
          all_goals
            refine (refNumbers_any _ _ r (M - 1) (by omega) (by omega) w1 (fun j hj => ?_) (fun q hq => ?_)).mono ?_
            · first | omega | (refine ⟨_, rfl, fun W hW => ?_⟩
                               obtain ⟨ad2, e2, k2⟩ := HSTR.out ps.length (1 + j) (by rw [List.take_length, HML.out]; omega)
                               cases e2
                               have := k2 W hW
                               rw [add_zero_at', List.getElem_take] at this
                               rw [Addr.add_lit, this]; congr 2; simp [HPS.out, Nat.add_comm])
            · have := HPZ.out q (by rw [HPS.out]; exact List.mem_cons_of_mem _ hq); omega
            rintro e w2 ⟨⟨nv, ns, ok, rfl, hcond⟩, hb2⟩
            have HR2 := Lib.hid (HR1.out.below hb2)
            have hsz2 := hb2.size
            cases ok
            · have hbad : ∃ q ∈ r, numP q.toList = none := hcond
              clear hcond hb2
              have HEND := Lib.hid (HR.out.refused hkw (by rw [HSK.out]; exact by rw [HLP.out, NumsOut.bad hbad]))
              have r0 := HR2.out.r0
              have r1 := HR2.out.r1
              have r2 := HR2.out.r2
              have s0 := HR2.out.s0
              have s1 := HR2.out.s1
              have s2 := HR2.out.s2
              go_wp2_with fail
              refine bodyPost_ret (v := .tuple #[.slice none 0 0, .agg #[.int .i64 0, .int .i64 0, .int .i64 0], .slice none 0 0, .int .i64 (k + 1)]) (by simp [results, Tryd.results34, go_sem, r0, r1, r2]) rfl ?_
              rw [HEND.out]
              exact ⟨by rfl, ((HR2.out.bel.setCell (Nat.le_refl _) _).setCell (Nat.le_refl _) _).setCell (Nat.le_refl _) _⟩
            · obtain ⟨hmap, hown⟩ : (r.map fun s => numP s.toList) = ns.map some ∧ w2.ownsRow w1.heap.size 3 1 nv ns.length (ints ns) := hcond
              clear hb2
              by_cases h3 : ns.length = 3
              · obtain ⟨x, y, z, rfl⟩ : ∃ x y z, ns = [x, y, z] := by
                  match ns, h3 with
                  | [x, y, z], _ => exact ⟨x, y, z, rfl⟩
                clear h3
                obtain ⟨g3, cap3, rfl, hg3, hg3', k0, k1, k2⟩ := own_three hown
                have c0 := HR2.out.c0
                have c1 := HR2.out.c1
                have c2 := HR2.out.c2
                have f0 := HR2.out.g0
                have f1 := HR2.out.g1
                have f2 := HR2.out.g2
                have hne : ¬ w.heap.size + 1 = g3 := by omega
                have hne' : ¬ g3 = w.heap.size + 1 := by omega
                have HLY := Lib.hid (show lineP st s.toList = some { st with c := (x, y, z) } by rw [HLP.out, NumsOut.three (w0 := w1) (w' := w2) hmap rfl]; rfl)
                clear hown hmap
                go_wp2_with fail
                go_region_held3 (fun w' => w'.cell? ⟨g3, 0, none⟩ = some (.int .i64 x) ∧ w'.cell? ⟨g3, 1, none⟩ = some (.int .i64 y) ∧ w'.cell? ⟨g3, 2, none⟩ = some (.int .i64 z)) (go_keep) (fail)
                have HST := Lib.hid (HR.out.step hkw (by rw [HSK.out]; exact hsk) (by rw [HSK.out]; exact HLY.out) ((HR2.out.setC x y z).fr (Fr.drew (Fr.refl (fun _ => False) _)) (fun _ q => q.elim) (fun _ _ q => q) (fun _ _ q => q)))
                go_wp2_with fail
                go_roundw
                case rel => exact ⟨k + 1, _, by omega, by go_num, HST⟩
                case measure => simp [intOf]; omega
              · have q10 : ((ns.length : Int) == 3) = false := by simp; omega
                obtain ⟨na, ncap, rfl⟩ := own_form hown
                have hoth := NumsOut.other hmap h3
                clear hmap hown h3
                have HEND := Lib.hid (HR.out.refused hkw (by rw [HSK.out]; exact by rw [HLP.out, hoth]))
                have r0 := HR2.out.r0
                have r1 := HR2.out.r1
                have r2 := HR2.out.r2
                have s0 := HR2.out.s0
                have s1 := HR2.out.s1
                have s2 := HR2.out.s2
                go_wp2_with fail
                refine bodyPost_ret (v := .tuple #[.slice none 0 0, .agg #[.int .i64 0, .int .i64 0, .int .i64 0], .slice none 0 0, .int .i64 (k + 1)]) (by simp [results, Tryd.results34, go_sem, r0, r1, r2]) rfl ?_
                rw [HEND.out]
                exact ⟨by rfl, ((HR2.out.bel.setCell (Nat.le_refl _) _).setCell (Nat.le_refl _) _).setCell (Nat.le_refl _) _⟩
        · have qS : (p0.toList == [115, 101, 116]) = false := by simpa using hset
          by_cases hev : p0.toList = [101, 118]
          · have qE : (p0.toList == [101, 118]) = true := by simpa using hev
            have HLP := Lib.hid (show lineP st s.toList = match numbersP (r.map (·.toList)) with
                | none => none
                | some n => some { st with es := st.es ++ [n] } by
              rw [lineP_rest HSPL.out (fun q => hcode q.1)]
              cases numbersP (r.map (·.toList)) <;> simp [hset, hev])
            have q8 : (M : Int) ≤ (pcap : Int) := by have h := own_cap HO.out; rw [HML.out] at h; omega
            have q9 : (1 : Int) ≤ (M : Int) := by omega
            clear hcode hset
            go_wp2_with fail
            all_goals
              refine (refNumbers_any _ _ r (M - 1) (by omega) (by omega) w1 (fun j hj => ?_) (fun q hq => ?_)).mono ?_
              · first | omega | (refine ⟨_, rfl, fun W hW => ?_⟩
                                 obtain ⟨ad2, e2, k2⟩ := HSTR.out ps.length (1 + j) (by rw [List.take_length, HML.out]; omega)
                                 cases e2
                                 have := k2 W hW
                                 rw [add_zero_at', List.getElem_take] at this
                                 rw [Addr.add_lit, this]; congr 2; simp [HPS.out, Nat.add_comm])
              · have := HPZ.out q (by rw [HPS.out]; exact List.mem_cons_of_mem _ hq); omega
              rintro e w2 ⟨⟨nv, ns, ok, rfl, hcond⟩, hb2⟩
              have HR2 := Lib.hid (HR1.out.below hb2)
              have hsz2 := hb2.size
              cases ok
              · have hbad : ∃ q ∈ r, numP q.toList = none := hcond
                clear hcond hb2
                have HEND := Lib.hid (HR.out.refused hkw (by rw [HSK.out]; exact by rw [HLP.out, NumsOut.bad hbad]))
                have r0 := HR2.out.r0
                have r1 := HR2.out.r1
                have r2 := HR2.out.r2
                have s0 := HR2.out.s0
                have s1 := HR2.out.s1
                have s2 := HR2.out.s2
                go_wp2_with fail
                refine bodyPost_ret (v := .tuple #[.slice none 0 0, .agg #[.int .i64 0, .int .i64 0, .int .i64 0], .slice none 0 0, .int .i64 (k + 1)]) (by simp [results, Tryd.results34, go_sem, r0, r1, r2]) rfl ?_
                rw [HEND.out]
                exact ⟨by rfl, ((HR2.out.bel.setCell (Nat.le_refl _) _).setCell (Nat.le_refl _) _).setCell (Nat.le_refl _) _⟩
              · obtain ⟨hmap, hown⟩ : (r.map fun s => numP s.toList) = ns.map some ∧ w2.ownsRow w1.heap.size 3 1 nv ns.length (ints ns) := hcond
                clear hb2
                by_cases h3 : ns.length = 3
                · obtain ⟨x, y, z, rfl⟩ : ∃ x y z, ns = [x, y, z] := by
                    match ns, h3 with
                    | [x, y, z], _ => exact ⟨x, y, z, rfl⟩
                  clear h3
                  obtain ⟨g3, cap3, rfl, hg3, hg3', k0, k1, k2⟩ := own_three hown
                  obtain ⟨i0, hi, hz0, hz1, hz2⟩ := info_parts info61
                  have HLY := Lib.hid (show lineP st s.toList = some { st with es := st.es ++ [(x, y, z)] } by rw [HLP.out, NumsOut.three (w0 := w1) (w' := w2) hmap rfl]; rfl)
                  have hel : st.es.length ≤ 200000000000 := by have := HR.out.he; omega
                  have hbase2 := HR2.out.sz
                  have hveo : some g3 ≠ u8.ownBlock := fun e => by have := (HR1.out.oe.lt _ e.symm).2; omega
                  clear hown hmap
                  go_wp2_with fail
                  go_region_held3 (fun w' => w'.cell? ⟨g3, 0, none⟩ = some (.int .i64 x) ∧ w'.cell? ⟨g3, 1, none⟩ = some (.int .i64 y) ∧ w'.cell? ⟨g3, 2, none⟩ = some (.int .i64 z))
                    (first | go_keep | exact ⟨n0, n1, n2⟩)
                    (first
                      | (refine step_append_lies _ rfl (.tmp 86) (.tmp 97) 39 rfl (w.heap.size + 2) 61 i0 (.agg #[.int .i64 0, .int .i64 0, .int .i64 0]) 3 24 Tryd.underlying39 hi hz0 hz1 hz2 rfl (by omega) u8 _ _ (by rfl) ((HR2.out.oe.alloc _).drew) ⟨w2.heap.size, 0, none⟩ 1 1 [.int .i64 x, .int .i64 y, .int .i64 z] (by rfl) (by rfl) (World.news_of_block (cs := #[.int .i64 x, .int .i64 y, .int .i64 z]) (t := 61) (fr := (0, 0)) (heap_alloc_new w2 _)) (by simp [Value.oneCell']) (by omega) (by unfold maxLen; omega) (by omega) (by simp; omega) (w2.heap.size + 1) (by simp) ?_; intro gg cap4 w4 hown4 hgrow4 hat4 hlt4
                         have R4 := Lib.hid (RM.setE (x := [(x, y, z)]) (HR2.out.fr (Fr.drew ((Fr.refl (fun _ => False) w2).alloc (.cells #[.int .i64 x, .int .i64 y, .int .i64 z] 61))) (fun _ q => q.elim) (fun _ _ q => q) (fun _ _ q => q)) hown4 (by simp) (by rw [flat3_append]; rfl) hgrow4 (hat4.elim (fun e => .inl e.symm) (fun e => .inr (fun k q => by simp [Value.ownBlock] at q; subst q e; simp))))
                         have n0 : w4.cell? ⟨g3, 0, none⟩ = some (.int .i64 x) := by rw [hgrow4.cell_far _ (by simp; omega) hveo]; simp [go_sem, k0, hg3']
                         have n1 : w4.cell? ⟨g3, 1, none⟩ = some (.int .i64 y) := by rw [hgrow4.cell_far _ (by simp; omega) hveo]; simp [go_sem, k1, hg3']
                         have n2 : w4.cell? ⟨g3, 2, none⟩ = some (.int .i64 z) := by rw [hgrow4.cell_far _ (by simp; omega) hveo]; simp [go_sem, k2, hg3']
                         clear hown4 hat4))
                  have HST := Lib.hid (HR.out.step hkw (by rw [HSK.out]; exact hsk) (by rw [HSK.out]; exact HLY.out) R4.out)
                  go_wp2_with fail
                  go_roundw
                  case rel => exact ⟨k + 1, _, by omega, by go_num, HST⟩
                  case measure => simp [intOf]; omega
                · have q10 : ((ns.length : Int) == 3) = false := by simp; omega
                  obtain ⟨na, ncap, rfl⟩ := own_form hown
                  have hoth := NumsOut.other hmap h3
                  clear hmap hown h3
                  have HEND := Lib.hid (HR.out.refused hkw (by rw [HSK.out]; exact by rw [HLP.out, hoth]))
                  have r0 := HR2.out.r0
                  have r1 := HR2.out.r1
                  have r2 := HR2.out.r2
                  have s0 := HR2.out.s0
                  have s1 := HR2.out.s1
                  have s2 := HR2.out.s2
                  go_wp2_with fail
                  refine bodyPost_ret (v := .tuple #[.slice none 0 0, .agg #[.int .i64 0, .int .i64 0, .int .i64 0], .slice none 0 0, .int .i64 (k + 1)]) (by simp [results, Tryd.results34, go_sem, r0, r1, r2]) rfl ?_
                  rw [HEND.out]
                  exact ⟨by rfl, ((HR2.out.bel.setCell (Nat.le_refl _) _).setCell (Nat.le_refl _) _).setCell (Nat.le_refl _) _⟩
          · have qE : (p0.toList == [101, 118]) = false := by simpa using hev
            have HEND := Lib.hid (HR.out.refused hkw (by rw [HSK.out]; exact by rw [lineP_rest HSPL.out (fun q => hcode q.1)]; cases numbersP (r.map (·.toList)) <;> simp [hset, hev]))
            have r0 := HR1.out.r0
            have r1 := HR1.out.r1
            have r2 := HR1.out.r2
            have s0 := HR1.out.s0
            have s1 := HR1.out.s1
            have s2 := HR1.out.s2
            go_wp2_with fail
            refine bodyPost_ret (v := .tuple #[.slice none 0 0, .agg #[.int .i64 0, .int .i64 0, .int .i64 0], .slice none 0 0, .int .i64 (k + 1)]) (by simp [results, Tryd.results34, go_sem, r0, r1, r2]) rfl ?_
            rw [HEND.out]
            exact ⟨by rfl, ((HR1.out.bel.setCell (Nat.le_refl _) _).setCell (Nat.le_refl _) _).setCell (Nat.le_refl _) _⟩
    · obtain rfl : k = N := by omega
      have HEND := Lib.hid (HR.out.done (by rw [HW.out]; exact Nat.le_refl _))
      have c0 := HR.out.m.c0
      have c1 := HR.out.m.c1
      have c2 := HR.out.m.c2
      have r0 := HR.out.m.r0
      have r1 := HR.out.m.r1
      have r2 := HR.out.m.r2
      have s0 := HR.out.m.s0
      have s1 := HR.out.m.s1
      have s2 := HR.out.m.s2
      go_wp2_with fail
      go_region_held3 (fun w' => w'.cell? ⟨w.heap.size + 1, 0, none⟩ = some (.int .i64 st.c.1) ∧ w'.cell? ⟨w.heap.size + 1, 1, none⟩ = some (.int .i64 st.c.2.1) ∧ w'.cell? ⟨w.heap.size + 1, 2, none⟩ = some (.int .i64 st.c.2.2))
        (go_keep) (fail)
      go_wp2
      have f : Fr (fun k => k = w.heap.size) wr (((wr.setCell ⟨w.heap.size, 0, none⟩ (.int .i64 st.c.1)).setCell ⟨w.heap.size, 1, none⟩ (.int .i64 st.c.2.1)).setCell ⟨w.heap.size, 2, none⟩ (.int .i64 st.c.2.2)).drew :=
        Fr.drew (Fr.setCell (Fr.setCell (Fr.setCell (Fr.refl (fun k => k = w.heap.size) wr) (p := ⟨w.heap.size, 0, none⟩) rfl _) (p := ⟨w.heap.size, 1, none⟩) rfl _) (p := ⟨w.heap.size, 2, none⟩) rfl _)
      refine bodyPost_ret (v := .tuple #[u6, .agg #[.int .i64 st.c.1, .int .i64 st.c.2.1, .int .i64 st.c.2.2], u8, .int .i64 0]) (by simp [results, Tryd.results34, go_sem, r0, r1, r2]) rfl ?_
      rw [HEND.out]
      exact ⟨⟨u6, u8, rfl, own_less (Fr.own HR.out.m.ob f (fun k e q => by have := (HR.out.m.ob.lt k e).1; omega)) (by omega), own_less (Fr.own HR.out.m.oe f (fun k e q => by have := (HR.out.m.oe.lt k e).1; omega)) (by omega), HR.out.m.dd⟩, Fr.below HR.out.m.bel f (fun i q => by omega) HR.out.m.bel.size⟩

end Go.Proofs.YtohgkfnbjfhniaaDoor
