/-
  Chapter 12's own look: Roots, Sound, Read.
  Chapter 12's own look: Sound and Read.
  Collect, plain: chapter 12's own reader and the program's read the same, where the regions are right: objects.
  Collect, plain: chapter 12's own reader and the program's read the same terms.
  Collect, plain: what the program reads of a word, chapter 12's own reader reads, and the other way round.
  Collect: the same words, numbers, regions; dumps that are the same.
  Collect: where objects went, as a map to words; the mover in memory.
  Collect: the mover, in plain words and in memory.
-/
import Derived.Test.YtlmpmjhanpkcnaaGreatM25
import Derived.Test.YtlmpmjhanpkcnaaGreatM14
import Derived.Test.YtlmpmjhanpkcnaaGreatM18
set_option linter.unusedVariables false
set_option linter.unusedSimpArgs false
namespace Go.Proofs.YtlmpmjhanpkcnaaGreat
open Go.RowKit

/-- Are all roots read, by chapter 12's own look? -/
def refReads (deep : Bool) (S : List Slt) (m : List Frg) (l : List Nat) : Bool := l.all fun x => (refRead deep S m x).isSome

def refRoots (deep : Bool) (S : List Slt) (d : Dmp) : Bool := refReads deep S d.mem d.roots

theorem elevB_of {W V : World} {b : Nat} {c0 c1 c2 c3 c4 c5 c6 c7 c8 c9 : Value} {deep : Bool} {g o : Nat} {x : Int} (h : W.heap[b]? = some (.cells (lkV c0 c1 c2 c3 c4 c5 c6 c7 c8 c9 deep) 53 (0, 0))) (k : W.cell? ⟨g, o, none⟩ = some (.int .u64 x)) (hg : Below W.heap.size W V) :
    Elev V b c0 c1 c2 c3 c4 c5 c6 c7 c8 c9 deep g o x := by
  have h2 := (hg.block b (lt_of_block h)).trans h
  exact ⟨cell_of h2 0, cell_of h2 1, cell_of h2 2, cell_of h2 3, cell_of h2 4, cell_of h2 5, cell_of h2 6, cell_of h2 7, cell_of h2 8, cell_of h2 9, cell_of h2 10, (hg.cell (World.block_lt_of_cell? _ _ k)).trans k⟩

abbrev zer7 : Array Value := #[.int .i64 0, .int .i64 0, .bool false, .slice none 0 0, .int .u64 0, .string ⟨#[]⟩, .slice none 0 0]

set_option maxHeartbeats 16000000 in
set_option maxRecDepth 100000 in
theorem roots12_any (d : Dmp) (S : List Slt) (deep : Bool) (v : Value) (w : World) (h : LkAt w v d S deep) (hf : d.frags.length ≤ 100000) :
    Calls Tryz.prog 22 #[v] w fun e w' => e = .returned (.bool (refRoots deep S d)) ∧ Below w.heap.size w w' := by
  have HLK := Lib.hid h
  obtain ⟨c0, c1, c2, c3, c6, c7, c8, c9, rfl, hd, hs⟩ := h
  obtain ⟨q0, q1, q2, q3, q6, q7, q8, hq, -, -, -, -, -, hro, -⟩ := hd
  simp only [Value.agg.injEq, Array.mk.injEq, List.cons.injEq, and_true] at hq
  obtain ⟨-, -, -, -, -, -, -, rfl, -⟩ := hq
  have HRO := Lib.hid hro
  obtain ⟨hrl, hru, ra, rc, rfl, -, -, hrc⟩ := hro
  have HRC := Lib.hid hrc
  have HRU := Lib.hid hru
  clear hrc hru hs
  obtain ⟨l, hl⟩ : ∃ l, d.roots = l := ⟨_, rfl⟩
  have HL := Lib.hid (show refRoots deep S d = refReads deep S d.mem l by unfold refRoots; rw [hl])
  rw [hl] at HRC HRU hrl HLK
  rw [HL.out, hl]
  clear hl HL
  unfold maxLen at hrl
  obtain ⟨m, hm⟩ : ∃ m, d.mem = m := ⟨_, rfl⟩
  have HM := Lib.hid hm
  rw [hm]
  clear hm
  go_enter Tryz.func22, Tryz.ntmps22
  go_upto_region 1 with fail
  have T := one_at w (.cells (lkV c0 c1 c2 c3 (.int .i64 d.size) (.int .i64 d.mark) c6 (.slice ra l.length rc) c8 c9 deep) 53)
  generalize w.alloc (.cells (lkV c0 c1 c2 c3 (.int .i64 d.size) (.int .i64 d.mark) c6 (.slice ra l.length rc) c8 c9 deep) 53) = W at *
  have X0 := Lib.hid T.1
  have XS := Lib.hid T.2.1
  have XB := Lib.hid T.2.2
  clear T
  go_wp2_with fail
  go_loopw [3] (fun i wr => ∃ (j : Nat), j ≤ l.length ∧ i = .int .i64 j ∧ Hid (refReads deep S m (l.take j) = true) ∧ Hid (Below W.heap.size W wr)) (fun i _ => l.length - (intOf i).toNat)
  case atStart => exact ⟨0, by omega, rfl, Lib.hid (by simp [refReads]), Lib.hid (Below.refl _ _)⟩
  case round =>
    obtain ⟨j, hj, rfl, HA, HB⟩ := hrel
    have Y0 := Lib.hid ((HB.out.block _ (lt_of_block X0.out)).trans X0.out)
    have YB := Lib.hid (XB.out.trans (HB.out.mono XB.out.size))
    have y7 := cell_of Y0.out 7
    simp at y7
    by_cases hlt : j < l.length
    · obtain ⟨g, o, rfl, kw⟩ := HRC.out j hlt
      have hx := HRU.out _ (List.getElem_mem hlt)
      have HTK := Lib.hid (List.take_succ_eq_append_getElem hlt)
      have HMEM := Lib.hid (List.getElem_mem hlt)
      obtain ⟨x, hxx⟩ : ∃ x, l[j]'hlt = x := ⟨_, rfl⟩
      rw [hxx] at kw hx HTK HMEM
      have kw1 := (YB.out.cell (World.block_lt_of_cell? _ _ kw)).trans kw
      have p1 : (j : Int) < (l.length : Int) := by omega
      have p2 : (0 : Int) ≤ (j : Int) := by omega
      have p5 : IntKind.i64.wrap ((j : Int) + 1) = (j : Int) + 1 := IntWalk.i64_in _ (by omega)
      obtain ⟨r, hr⟩ : ∃ r, refRead deep S m x = r := ⟨_, rfl⟩
      have HR := Lib.hid hr
      have HC := Lib.hid (show ∀ V, Below w.heap.size w V → Calls Tryz.prog 51 #[.agg (lkV c0 c1 c2 c3 (.int .i64 d.size) (.int .i64 d.mark) c6 (.slice (some ⟨g, o, none⟩) l.length rc) c8 c9 deep), .int .u64 x] V fun e w' => ReadEnd V w' r e from
        fun V hV => by have := lookRead12_any d S deep _ x V (HLK.out.below hV) hf hx; rwa [HM.out, hr] at this)
      have H1 := Lib.hid (HC.out wr.drew YB.out.drew)
      have H2 := Lib.hid (HC.out (wr.alloc (.cells zer7 81)).drew (YB.out.alloc YB.out.size _).drew)
      have KB := Lib.hid (fun (V : World) (hV : Below wr.heap.size wr V) => elevB_of Y0.out kw1 hV)
      have E0 := KB.out _ (Below.refl _ _)
      have KA0 := Lib.hid (fun o => KB.out (wr.alloc o).drew (((Below.refl wr.heap.size wr).alloc (Nat.le_refl _) o).drew))
      have hwr := lt_of_block Y0.out
      clear kw hxx hr y7
      go_wp2_with fail
      go_cut [5] from 4 to 24 (fun ok wx => ok = .bool r.isSome ∧ Hid (Below wr.heap.size wr wx))
      case first =>
        go_region_held3 (fun w' => Elev w' w.heap.size c0 c1 c2 c3 (.int .i64 d.size) (.int .i64 d.mark) c6 (.slice (some ⟨g, o, none⟩) l.length rc) c8 c9 deep g (o + j) x) (first | with_reducible exact KS.out _ _ _ _ _ _ _ | with_reducible exact KA.out _ | with_reducible exact K9.out | with_reducible exact E0 | with_reducible exact KA0.out _ | with_reducible exact KB.out _ ((Below.refl wr.heap.size wr).drew) | go_keep) (first
          | (go_at_call 51; (with_reducible refine H2.out.mono ?_); rintro e w6 ⟨tv, t, rfl, ht, hp, hb6⟩
             obtain ⟨tk, tn, tneg, tma, tml, tmc, tbits, tbytes, ta, tlen, tcap, rfl⟩ := ht.shape
             have hb7 : Below wr.heap.size wr w6 := ((Below.refl wr.heap.size wr).alloc (Nat.le_refl _) _).drew.trans (hb6.mono (by simp))
             have K9 := Lib.hid (KB.out w6 hb7)
             have F9 := Lib.hid hb7
             have KS := Lib.hid (fun d0 d1 d2 d3 d4 d5 d6 => KB.out (set7 w6 wr.heap.size d0 d1 d2 d3 d4 d5 d6) (set7_below hb7 (Nat.le_refl _) d0 d1 d2 d3 d4 d5 d6))
             have FS := Lib.hid (fun d0 d1 d2 d3 d4 d5 d6 => set7_below hb7 (Nat.le_refl wr.heap.size) d0 d1 d2 d3 d4 d5 d6)
             have HH := Lib.hid (show w6.heap[wr.heap.size]? = some (.cells zer7 81 (0, 0)) from (hb6.block wr.heap.size (by simp)).trans (World.alloc_heap_new wr _))
             have y0 := cell_of HH.out 0
             have y1 := cell_of HH.out 1
             have y2 := cell_of HH.out 2
             have y3 := cell_of HH.out 3
             have y4 := cell_of HH.out 4
             have y5 := cell_of HH.out 5
             have y6 := cell_of HH.out 6
             have z0 := free_of HH.out 0
             have z1 := free_of HH.out 1
             have z2 := free_of HH.out 2
             have z3 := free_of HH.out 3
             have z4 := free_of HH.out 4
             have z5 := free_of HH.out 5
             have z6 := free_of HH.out 6
             simp at y0 y1 y2 y3 y4 y5 y6
             clear ht hb6 hp hb7)
          | (go_at_call 51; (with_reducible refine H1.out.mono ?_); rintro e w6 ⟨tv, t, rfl, ht, hp, hb6⟩
             obtain ⟨tk, tn, tneg, tma, tml, tmc, tbits, tbytes, ta, tlen, tcap, rfl⟩ := ht.shape
             have hb7 : Below wr.heap.size wr w6 := (Below.refl wr.heap.size wr).drew.trans hb6
             have K9 := Lib.hid (KB.out w6 hb7)
             have F9 := Lib.hid hb7
             have FA := Lib.hid (fun o => hb7.alloc hb7.size o)
             have KA := Lib.hid (fun o => KB.out (w6.alloc o) (hb7.alloc hb7.size o))
             clear ht hb6 hp hb7))
        all_goals go_wp2_with fail
        all_goals go_meet
        all_goals first
          | exact ⟨rfl, Lib.hid (FS.out _ _ _ _ _ _ _)⟩
          | exact ⟨rfl, Lib.hid (FA.out _)⟩
      case rest =>
        obtain ⟨rfl, HBX⟩ := hcut
        have HB2 := Lib.hid (HB.out.trans (HBX.out.mono HB.out.size))
        clear E0 KA0 KB H1 H2 kw1
        cases r with
        | none =>
          have HF := Lib.hid (show refReads deep S m l = false from all_false HMEM.out (by rw [HR.out]; rfl))
          simp only [Option.isSome_none]
          go_wp2_with fail
          go_ret
          exact ⟨by rw [HF.out]; rfl, XB.out.trans (HB2.out.mono XB.out.size)⟩
        | some t =>
          have HA2 := Lib.hid (show refReads deep S m (l.take (j + 1)) = true by
            have h := HA.out
            unfold refReads at h ⊢
            rw [HTK.out, List.all_append, h]; simp [HR.out])
          simp only [Option.isSome_some]
          go_wp2_with fail
          go_roundw
          case rel => exact ⟨j + 1, by omega, by go_num, HA2, HB2⟩
          case measure => simp [intOf]; omega
    · obtain rfl : j = l.length := by omega
      have p1 : ¬ ((l.length : Nat) : Int) < (l.length : Int) := by omega
      have HF := Lib.hid (show refReads deep S m l = true by have h := HA.out; rwa [List.take_length] at h)
      go_wp2_with fail
      go_ret
      exact ⟨by rw [HF.out]; rfl, YB.out⟩

end Go.Proofs.YtlmpmjhanpkcnaaGreat

namespace Go.Proofs.YtlmpmjhanpkcnaaGreat
open Go.RowKit

theorem slAt_nil (w : World) : SlAt w (.slice none 0 0) [] := ⟨by simp, none, 0, rfl, fun j hj => by simp at hj⟩

set_option maxHeartbeats 4000000 in
set_option maxRecDepth 100000 in
theorem sound12_any (d : Dmp) (v : Value) (w : World) (hd : DmAt w v d) (hf : d.frags.length ≤ 100000) (hN : wordsN d.mem ≤ 5000) :
    Calls Tryz.prog 19 #[v] w fun e w' => e = .returned (.bool (regionsP d && refRoots false [] d)) ∧ Below w.heap.size w w' := by
  have HD := Lib.hid hd
  obtain ⟨c0, c1, c2, c3, c6, c7, c8, rfl, -⟩ := hd
  obtain ⟨rp, hrp⟩ : ∃ rp, regionsP d = rp := ⟨_, rfl⟩
  obtain ⟨rr, hrr⟩ : ∃ rr, refRoots false [] d = rr := ⟨_, rfl⟩
  have HRP := Lib.hid hrp
  have HRR := Lib.hid hrr
  rw [hrp, hrr]
  clear hrp hrr
  go_enter Tryz.func19, Tryz.ntmps19
  go_wp2_with fail
  have T := one_at w (.cells #[c0, c1, c2, c3, .int .i64 d.size, .int .i64 d.mark, c6, c7, c8] 28)
  generalize w.alloc (.cells #[c0, c1, c2, c3, .int .i64 d.size, .int .i64 d.mark, c6, c7, c8] 28) = W at *
  have X0 := Lib.hid T.1
  have XS := Lib.hid T.2.1
  have XB := Lib.hid T.2.2
  clear T
  refine (regions12_any d _ W (HD.out.below XB.out) hf hN).mono ?_
  rw [HRP.out]
  rintro e w2 ⟨rfl, hb2⟩
  have Y0 := Lib.hid ((hb2.block w.heap.size (by have := XS.out; omega)).trans X0.out)
  have YB := Lib.hid (XB.out.trans (hb2.mono XB.out.size))
  have y0 := cell_of Y0.out 0
  have y1 := cell_of Y0.out 1
  have y2 := cell_of Y0.out 2
  have y3 := cell_of Y0.out 3
  have y4 := cell_of Y0.out 4
  have y5 := cell_of Y0.out 5
  have y6 := cell_of Y0.out 6
  have y7 := cell_of Y0.out 7
  have y8 := cell_of Y0.out 8
  simp at y0 y1 y2 y3 y4 y5 y6 y7 y8
  clear hb2
  cases rp
  · go_wp2_with fail
    go_ret
    exact ⟨rfl, YB.out⟩
  · go_wp2_with fail
    refine (roots12_any d [] false _ w2 ⟨c0, c1, c2, c3, c6, c7, c8, _, rfl, HD.out.below YB.out, slAt_nil _⟩ hf).mono ?_
    rw [HRR.out]
    rintro e w3 ⟨rfl, hb3⟩
    have E := Lib.hid (YB.out.trans (hb3.mono YB.out.size))
    clear hb3
    go_wp2_with fail
    go_ret
    exact ⟨rfl, E.out⟩

set_option maxHeartbeats 4000000 in
set_option maxRecDepth 100000 in
theorem refRead_any (d : Dmp) (dv sv : Value) (S : List Slt) (x : Nat) (w : World) (hd : DmAt w dv d) (hS : SlAt w sv S) (hf : d.frags.length ≤ 100000) (hx : x < 18446744073709551616) :
    Calls Tryz.prog 36 #[dv, sv, .int .u64 x] w fun e w' => ReadEnd w w' (refRead true S d.mem x) e := by
  have HD := Lib.hid hd
  have HS := Lib.hid hS
  obtain ⟨c0, c1, c2, c3, c6, c7, c8, rfl, -⟩ := hd
  obtain ⟨-, sa, sc, rfl, -⟩ := hS
  obtain ⟨r, hr⟩ : ∃ r, refRead true S d.mem x = r := ⟨_, rfl⟩
  have HR := Lib.hid hr
  rw [hr]
  clear hr
  go_enter Tryz.func36, Tryz.ntmps36
  go_wp2_with fail
  have T := two_at w (.cells #[c0, c1, c2, c3, .int .i64 d.size, .int .i64 d.mark, c6, c7, c8] 28) (.cells zer7 81)
  generalize (w.alloc (.cells #[c0, c1, c2, c3, .int .i64 d.size, .int .i64 d.mark, c6, c7, c8] 28)).alloc (.cells zer7 81) = W at *
  have X1 := Lib.hid T.2.1
  have XS := Lib.hid T.2.2.1
  have XB := Lib.hid T.2.2.2
  clear T
  refine (lookRead12_any d S true _ x W ⟨c0, c1, c2, c3, c6, c7, c8, _, rfl, HD.out.below XB.out, HS.out.below XB.out⟩ hf hx).mono ?_
  rw [HR.out]
  rintro e w2 ⟨tv, t, rfl, ht, hp, hb2⟩
  obtain ⟨tk, tn, tneg, tma, tml, tmc, tbits, tbytes, ta, tlen, tcap, rfl⟩ := ht.shape
  have U1 := Lib.hid ((hb2.block _ (by have := XS.out; omega)).trans X1.out)
  have UB := Lib.hid (XB.out.trans (hb2.mono XB.out.size))
  have UT := Lib.hid (ht.mono (Q := fun b => w.heap.size + 1 < b) (fun b hb _ => by have := XS.out; omega))
  have HP := Lib.hid hp
  have y0 := cell_of U1.out 0
  have y1 := cell_of U1.out 1
  have y2 := cell_of U1.out 2
  have y3 := cell_of U1.out 3
  have y4 := cell_of U1.out 4
  have y5 := cell_of U1.out 5
  have y6 := cell_of U1.out 6
  have z0 := free_of U1.out 0
  have z1 := free_of U1.out 1
  have z2 := free_of U1.out 2
  have z3 := free_of U1.out 3
  have z4 := free_of U1.out 4
  have z5 := free_of U1.out 5
  have z6 := free_of U1.out 6
  simp at y0 y1 y2 y3 y4 y5 y6
  clear ht hb2 hp
  go_wp2_with fail
  refine bodyPost_ret (v := .tuple #[.agg #[.int .i64 tk, .int .i64 tn, .bool tneg, .slice tma tml tmc, .int .u64 tbits, .string tbytes, .slice ta tlen tcap], .bool r.isSome]) (by simp [results, Tryz.results36, go_sem, y0, y1, y2, y3, y4, y5, y6]) rfl ?_
  exact read_at (b := w.heap.size + 1) (r := r) (by omega) UT.out UB.out HP.out

end Go.Proofs.YtlmpmjhanpkcnaaGreat

namespace Go.Proofs.YtlmpmjhanpkcnaaGreat
open Go.RowKit

def LowM (m : List Frg) : Prop := ∀ f ∈ m, ∀ a : Int, inP f.1 f.2.length a = true → a ≤ 1152921504606846975

theorem regL_ok : ∀ {r dn : List Frg}, regL dn r = true → ∀ f ∈ r, okA f = true
  | [], _, _, f, hf => by cases hf
  | g :: r, dn, h, f, hf => by
    simp only [regL, Bool.and_eq_true] at h
    rcases List.mem_cons.1 hf with rfl | hf
    · exact h.1.1
    · exact regL_ok h.2 f hf

theorem len_le_wordsN {m : List Frg} {f : Frg} (h : f ∈ m) : f.2.length ≤ wordsN m := by
  unfold wordsN
  induction m with
  | nil => cases h
  | cons g r ih =>
    simp only [List.map_cons, List.sum_cons]
    rcases List.mem_cons.1 h with rfl | h
    · omega
    · have := ih h; omega

theorem lowM_of {d : Dmp} (h : regionsP d = true) (hN : wordsN d.mem ≤ 5000) : LowM d.mem := by
  unfold regionsP at h
  simp only [Bool.and_eq_true] at h
  intro f hf a ha
  have h1 := regL_ok h.1 f hf
  have h2 := len_le_wordsN hf
  have h3 := inP_parts ha
  simp only [okA, Bool.or_eq_true, Bool.and_eq_true, decide_eq_true_eq] at h1
  omega

theorem words_rest : ∀ (m : List Frg) (a n : Int), 1 ≤ n → wordsP m a n = if n ≤ ((restP m a).length : Int) then some ((restP m a).take n.toNat) else none
  | [], a, n, hn => by
    have h : ¬ n ≤ ((restP [] a).length : Int) := by show ¬ n ≤ ((0 : Nat) : Int); omega
    rw [if_neg h]
    rfl
  | f :: r, a, n, hn => by
    by_cases h : inP f.1 f.2.length a = true
    · have e1 : restP (f :: r) a = f.2.drop (a - f.1).toNat := by rw [restP, if_pos h]
      have e2 : wordsP (f :: r) a n = cutP f a n := by rw [wordsP, if_pos h]
      have hp := inP_parts h
      have e : ((f.2.drop (a - f.1).toNat).length : Int) = (f.2.length : Int) - (a - f.1) := by rw [List.length_drop]; omega
      rw [e1, e2, e]
      rfl
    · have e1 : restP (f :: r) a = restP r a := by rw [restP, if_neg h]
      have e2 : wordsP (f :: r) a n = wordsP r a n := by rw [wordsP, if_neg h]
      rw [e1, e2]
      exact words_rest r a n hn

theorem rest_low : ∀ {m : List Frg} {a : Int}, LowM m → restP m a ≠ [] → 0 ≤ a ∧ a ≤ 1152921504606846975
  | [], a, _, h => by simp [restP] at h
  | f :: r, a, hm, h => by
    simp only [restP] at h
    by_cases hi : inP f.1 f.2.length a = true
    · have := inP_parts hi; have := hm f List.mem_cons_self a hi; omega
    · rw [if_neg hi] at h; exact rest_low (fun g hg => hm g (List.mem_cons_of_mem _ hg)) h

theorem headAt_rest (m : List Frg) (a : Int) : headAt m a = match restP m a with
    | [] => none
    | h :: t => (headP h).bind fun k => if k.2.toNat ≤ t.length then some (k.1, h :: t.take k.2.toNat) else none := by
  unfold headAt
  rw [words_rest m a 1 (by omega)]
  cases hr : restP m a with
  | nil => simp
  | cons h t =>
    rw [if_pos (by simp; omega)]
    simp only [Option.bind_some]
    have e : ((h :: t).take (1 : Int).toNat).getD 0 0 = h := by simp
    rw [e]
    cases hh : headP h with
    | none => rfl
    | some k =>
      have hb := headP_bounds h
      rw [hh] at hb
      simp only [Option.getD_some] at hb
      simp only [Option.bind_some]
      rw [words_rest m a (k.2 + 1) (by omega), hr]
      have e2 : (k.2 + 1).toNat = k.2.toNat + 1 := by omega
      by_cases hle : k.2.toNat ≤ t.length
      · rw [if_pos hle, if_pos (by simp only [List.length_cons]; omega), e2]; rfl
      · rw [if_neg hle, if_neg (by simp only [List.length_cons]; omega)]; rfl

theorem box_head (m : List Frg) (w : Nat) (h4 : tagW w = 4) : boxP m w = (headAt m (loadW w)).map fun o => (o.1, o.2.drop 1) := by
  unfold boxP
  rw [if_pos h4, headAt_rest]
  cases restP m (loadW w) with
  | nil => rfl
  | cons h t =>
    simp only
    cases headP h with
    | none => rfl
    | some k =>
      simp only [Option.bind_some]
      by_cases hle : k.2.toNat ≤ t.length
      · rw [if_pos hle, if_pos hle]; rfl
      · rw [if_neg hle, if_neg hle]; rfl

theorem headAt_low {m : List Frg} {a : Int} {o : Int × List Nat} (hm : LowM m) (h : headAt m a = some o) : 0 ≤ a ∧ a ≤ 1152921504606846975 := by
  refine rest_low hm fun e => ?_
  rw [headAt_rest, e] at h
  cases h

theorem getD_drop (l : List Nat) (i : Nat) : (l.drop 1).getD i 0 = l.getD (i + 1) 0 := by
  simp only [List.getD, List.getElem?_drop]
  rw [Nat.add_comm]

theorem bytes12_3eq (deep : Bool) (S : List Slt) (l : List Nat) (hl : 1 ≤ l.length) : bytes12 deep S 3 (l.drop 1) = if rightFlat 3 l = true then (bytesB l).map fun b => (b, l.getD 1 0) else none := by
  have e : rightFlat 3 l = (decide (2 ≤ l.length) && (bytesW l).isSome) := by simp [rightFlat]
  rw [e]
  unfold bytes12 bytesB
  by_cases h2 : 2 ≤ l.length
  · rw [if_pos ⟨rfl, by rw [List.length_drop]; omega⟩]
    rw [getD_drop]
    by_cases h64 : 64 < l.getD 1 0
    · rw [if_pos h64]
      have : bytesW l = none := by unfold bytesW; rw [if_pos (Or.inl h64)]
      simp [this]
    · rw [if_neg h64]
      have : bytesW l = packedP ((l.drop 1).drop 1) (l.getD 1 0) := by
        unfold bytesW packedP
        rw [List.drop_drop]
        have e3 : (l.drop (1 + 1)).length = l.length - 2 := by rw [List.length_drop]
        rw [e3]
        by_cases q : l.length - 2 ≠ (l.getD 1 0 + 7) / 8
        · rw [if_pos (Or.inr q), if_pos q]
        · rw [if_neg (by omega), if_neg q]
      rw [this]
      cases packedP ((l.drop 1).drop 1) (l.getD 1 0) <;> simp [h2]
  · rw [if_neg (by rw [List.length_drop]; omega), if_neg (by intro q; omega)]
    simp [h2]

theorem bytes12_4eq (deep : Bool) (S : List Slt) (l : List Nat) : bytes12 deep S 4 (l.drop 1) = if rightFlat 4 l = true then (sharedP deep S l).map fun b => (b, l.getD 3 0) else none := by
  have e : rightFlat 4 l = (decide (l.length = 4) && decide (max (l.getD 1 0) (l.getD 2 0) ≤ 1073741824) && decide (l.getD 3 0 ≤ 400)) := by simp [rightFlat]
  rw [e]
  unfold bytes12 sharedP
  rw [if_neg (by omega)]
  by_cases h4 : l.length = 4
  · rw [if_pos ⟨rfl, by rw [List.length_drop]; omega⟩, getD_drop, getD_drop, getD_drop]
    by_cases hb : 1073741824 < l.getD 1 0 ∨ 1073741824 < l.getD 2 0 ∨ 400 < l.getD 3 0
    · have hc : ¬ (decide (l.length = 4) && decide (max (l.getD 1 0) (l.getD 2 0) ≤ 1073741824) && decide (l.getD 3 0 ≤ 400)) = true := by
        simp only [Bool.and_eq_true, decide_eq_true_eq]
        omega
      rw [if_pos hb, if_neg hc]
    · have hc : (decide (l.length = 4) && decide (max (l.getD 1 0) (l.getD 2 0) ≤ 1073741824) && decide (l.getD 3 0 ≤ 400)) = true := by
        simp only [Bool.and_eq_true, decide_eq_true_eq]
        omega
      rw [if_neg hb, if_pos hc]
      cases deep with
      | false => rfl
      | true =>
        rw [if_neg (by simp), if_neg (by simp)]
        cases S[l.getD 1 0]? with
        | none => rfl
        | some s =>
          simp only
          split <;> rfl
  · rw [if_neg (by rw [List.length_drop]; omega), if_neg]
    simp [h4]

theorem bytes12_no (deep : Bool) (S : List Slt) (k : Int) (t : List Nat) (h3 : k ≠ 3) (h4 : k ≠ 4) : bytes12 deep S k t = none := by
  unfold bytes12; rw [if_neg (by omega), if_neg (by omega)]

theorem toP_of {w : Nat} (h4 : tagW w = 4) (hl : 0 ≤ loadW w ∧ loadW w ≤ 1152921504606846975) : toP w = some (loadW w, 4) := by
  unfold toP plainP fitsP loW hiW
  rw [h4]
  simp
  omega

theorem bytesB_len {l : List Nat} {b : ByteArray} (h : bytesB l = some b) (hr : 2 ≤ l.length) : b.size = l.getD 1 0 := by
  have := bytes12_3eq true [] l (by omega)
  rw [if_pos (by
    have e : rightFlat 3 l = (decide (2 ≤ l.length) && (bytesW l).isSome) := by simp [rightFlat]
    rw [e]
    unfold bytesB at h
    cases hb : bytesW l with
    | none => rw [hb] at h; cases h
    | some x => simp [hr]), h] at this
  rcases bytes12_len this with ⟨e, -⟩ | e
  · cases e
  · exact e

theorem sub_calc (deep : Bool) (k : Int) (a b n : Nat) (s : ByteArray) (hmag : (decide (a ≤ n) && decide (b ≤ n - a)) = true → a ≤ 400 ∧ b ≤ 400) :
    (if 400 < a ∨ 400 < b then (none : Option ByteArray) else if (n : Int) - (a : Nat) < (b : Nat) then none else if deep = false ∧ k = 4 then some ⟨#[]⟩ else some (s.extract a (a + b))) =
      if (decide (a ≤ n) && decide (b ≤ n - a)) = true then (if deep = false ∧ k = 4 then some ⟨#[]⟩ else some (s.extract a (a + b))) else none := by
  by_cases hc : (decide (a ≤ n) && decide (b ≤ n - a)) = true
  · have h1 := hmag hc
    rw [if_pos hc]
    simp only [Bool.and_eq_true, decide_eq_true_eq] at hc
    rw [if_neg (show ¬ (400 < a ∨ 400 < b) by omega), if_neg (show ¬ ((n : Int) - (a : Nat) < (b : Nat)) by omega)]
  · rw [if_neg hc]
    simp only [Bool.and_eq_true, decide_eq_true_eq] at hc
    by_cases h : 400 < a ∨ 400 < b
    · rw [if_pos h]
    · rw [if_neg h, if_pos (show ((n : Int) - (a : Nat) < (b : Nat)) by omega)]

def lenOk (l : List Nat) : Option Nat → Bool
  | some n => decide (l.getD 2 0 ≤ n) && decide (l.getD 3 0 ≤ n - l.getD 2 0)
  | none => false

theorem right5_eq {m : List Frg} {l : List Nat} (h4 : l.length = 4) {r : Option Nat} (hr : lengthP m (l.getD 1 0) = r) : rightP m 5 l = lenOk l r := by
  subst hr
  unfold rightP
  rw [if_pos rfl, decide_eq_true h4, Bool.true_and]
  cases lengthP m (l.getD 1 0) <;> rfl

theorem lengthP_none {m : List Frg} {w : Nat} (h : ∀ s, toP w = some s → s.2 = 4 → headAt m s.1 = none) : lengthP m w = none := by
  unfold lengthP
  cases hto : toP w with
  | none => rfl
  | some s =>
    simp only [Option.bind_some]
    by_cases h4 : s.2 = 4
    · rw [if_pos h4, h s hto h4]; rfl
    · rw [if_neg h4]

theorem obj_flat {m : List Frg} {a k : Int} {o : Int × List Nat} (hh : headAt m a = some o) (h3 : o.1 = k) (hk : k ≠ 5) (hf : rightFlat k o.2 = true) : objP m a 4 = some o := by
  unfold objP
  rw [if_neg (by decide), hh]
  simp only [Option.bind_some]
  have : rightP m o.1 o.2 = true := by unfold rightP; rw [h3, if_neg hk]; exact hf
  rw [if_pos this]

/-- A part of bytes. -/
theorem sub_eq (asks : Bool) (S : List Slt) (m : List Frg) (hm : LowM m) (l : List Nat) (hmag : rightP m 5 l = true → l.getD 2 0 ≤ 400 ∧ l.getD 3 0 ≤ 400) : sub12 asks S m (l.drop 1) = if rightP m 5 l = true then partP asks S m l else none := by
  by_cases h4 : l.length = 4
  · have hu : sub12 asks S m (l.drop 1) = (boxP m (l.getD 1 0)).bind fun o =>
        if 400 < l.getD 2 0 ∨ 400 < l.getD 3 0 then none
        else (bytes12 asks S o.1 o.2).bind fun p =>
          if (p.2 : Int) - (l.getD 2 0 : Nat) < (l.getD 3 0 : Nat) then none
          else if asks = false ∧ o.1 = 4 then some ⟨#[]⟩
          else some (p.1.extract (l.getD 2 0) (l.getD 2 0 + l.getD 3 0)) := by
      unfold sub12
      rw [if_neg (by rw [List.length_drop]; omega), getD_drop, getD_drop, getD_drop]
    rw [hu]
    by_cases ht : tagW (l.getD 1 0) = 4
    · rw [box_head m _ ht]
      cases hh : headAt m (loadW (l.getD 1 0)) with
      | none =>
        have hl : lengthP m (l.getD 1 0) = none := lengthP_none fun s hs _ => by
          unfold toP at hs
          split at hs
          · cases hs; exact hh
          · cases hs
        rw [right5_eq h4 hl]
        rfl
      | some o =>
        have hlow := headAt_low hm hh
        have hto := toP_of ht hlow
        have hho := headAt_le hh
        obtain ⟨k, ol⟩ := o
        simp only at hho
        simp only [Option.map_some, Option.bind_some]
        have hL : lengthP m (l.getD 1 0) = if k = 3 ∧ rightFlat 3 ol = true then some (ol.getD 1 0) else if k = 4 ∧ rightFlat 4 ol = true then some (ol.getD 3 0) else none := by
          unfold lengthP; rw [hto]; simp only [Option.bind_some]; rw [hh]; rfl
        by_cases h3 : k = 3
        · subst h3
          rw [bytes12_3eq asks S ol hho.2.2]
          by_cases hf : rightFlat 3 ol = true
          · have hobj := obj_flat (k := 3) hh rfl (by decide) hf
            have hbs : ∃ b, bytesB ol = some b := by
              have e : rightFlat 3 ol = (decide (2 ≤ ol.length) && (bytesW ol).isSome) := by simp [rightFlat]
              rw [e] at hf
              simp only [Bool.and_eq_true] at hf
              unfold bytesB
              cases hb : bytesW ol with
              | none => rw [hb] at hf; simp at hf
              | some x => exact ⟨_, rfl⟩
            obtain ⟨b, hb⟩ := hbs
            rw [if_pos ⟨rfl, hf⟩] at hL
            have hX := right5_eq h4 hL
            simp only [lenOk] at hX
            have hP : partP asks S m l = some (b.extract (l.getD 2 0) (l.getD 2 0 + l.getD 3 0)) := by
              unfold partP; rw [hto]; simp only; rw [hobj]; simp only; rw [if_pos trivial, hb]; rfl
            rw [if_pos hf, hb, hP, hX]
            simp only [Option.map_some, Option.bind_some]
            rw [sub_calc asks 3 _ _ _ b (by rw [← hX]; exact hmag)]
            rw [if_neg (show ¬ (asks = false ∧ (3 : Int) = 4) by omega)]
          · rw [if_neg (by simp [hf]), if_neg (by omega)] at hL
            rw [right5_eq h4 hL, if_neg hf]
            simp [lenOk]
        · by_cases h4' : k = 4
          · subst h4'
            rw [bytes12_4eq]
            by_cases hf : rightFlat 4 ol = true
            · have hobj := obj_flat (k := 4) hh rfl (by decide) hf
              rw [if_neg (by omega), if_pos ⟨rfl, hf⟩] at hL
              have hX := right5_eq h4 hL
              simp only [lenOk] at hX
              have hP : partP asks S m l = if asks = false then some ⟨#[]⟩ else (sharedP true S ol).map fun b => b.extract (l.getD 2 0) (l.getD 2 0 + l.getD 3 0) := by
                unfold partP; rw [hto]; simp only; rw [hobj]; simp only; rw [if_neg (by decide)]
              rw [if_pos hf, hP, hX]
              cases asks with
              | false =>
                have : sharedP false S ol = some ⟨#[]⟩ := rfl
                rw [this]
                rw [Option.map_some, Option.bind_some]
                rw [sub_calc false 4 _ _ _ _ (by rw [← hX]; exact hmag)]
                rfl
              | true =>
                cases hs : sharedP true S ol with
                | none => simp
                | some b =>
                  rw [Option.map_some, Option.bind_some]
                  rw [sub_calc true 4 _ _ _ b (by rw [← hX]; exact hmag)]
                  rfl
            · rw [if_neg (by omega), if_neg (by simp [hf])] at hL
              rw [right5_eq h4 hL, if_neg hf]
              simp [lenOk]
          · rw [if_neg (by omega), if_neg (by omega)] at hL
            rw [bytes12_no asks S _ _ h3 h4', right5_eq h4 hL]
            simp [lenOk]
    · have h1 : boxP m (l.getD 1 0) = none := by unfold boxP; rw [if_neg ht]
      have hl : lengthP m (l.getD 1 0) = none := lengthP_none fun s hs h => by
        unfold toP at hs
        split at hs
        · cases hs
          simp only at h
          omega
        · cases hs
      rw [h1, right5_eq h4 hl]
      rfl
  · have h1 : sub12 asks S m (l.drop 1) = none := by unfold sub12; rw [if_pos (by rw [List.length_drop]; omega)]
    have h2 : rightP m 5 l = false := by
      unfold rightP
      rw [if_pos rfl, decide_eq_false h4, Bool.false_and]
    rw [h1, h2]
    rfl

theorem right5_le {m : List Frg} {l : List Nat} (h : rightP m 5 l = true) : l.getD 2 0 ≤ 400 ∧ l.getD 3 0 ≤ 400 := by
  unfold rightP at h
  rw [if_pos rfl, Bool.and_eq_true] at h
  replace h := h.2
  cases hl : lengthP m (l.getD 1 0) with
  | none => rw [hl] at h; simp at h
  | some n =>
    rw [hl] at h
    simp only [Bool.and_eq_true, decide_eq_true_eq] at h
    have hn : n ≤ 400 := by
      unfold lengthP at hl
      cases hto : toP (l.getD 1 0) with
      | none => rw [hto] at hl; cases hl
      | some s =>
        rw [hto] at hl
        simp only [Option.bind_some] at hl
        split at hl
        · cases hh : headAt m s.1 with
          | none => rw [hh] at hl; cases hl
          | some o =>
            rw [hh] at hl
            simp only [Option.bind_some] at hl
            split at hl
            · rename_i q
              cases hl
              have e : rightFlat 3 o.2 = (decide (2 ≤ o.2.length) && (bytesW o.2).isSome) := by simp [rightFlat]
              rw [e] at q
              simp only [Bool.and_eq_true] at q
              obtain ⟨-, -, q⟩ := q
              unfold bytesW at q
              split at q
              · simp at q
              · omega
            · split at hl
              · rename_i q
                cases hl
                have e : rightFlat 4 o.2 = (decide (o.2.length = 4) && decide (max (o.2.getD 1 0) (o.2.getD 2 0) ≤ 1073741824) && decide (o.2.getD 3 0 ≤ 400)) := by simp [rightFlat]
                rw [e] at q
                simp only [Bool.and_eq_true, decide_eq_true_eq] at q
                omega
              · cases hl
        · cases hl
    omega

end Go.Proofs.YtlmpmjhanpkcnaaGreat

namespace Go.Proofs.YtlmpmjhanpkcnaaGreat
open Go.RowKit

mutual
def Tm.nd : Tm → Nat
  | .mk _ _ _ _ _ _ args => 1 + nds args
def nds : List Tm → Nat
  | [] => 0
  | a :: r => a.nd + nds r
end

def G12 (g g2 : Nat → Nat → Option (Tm × Nat)) : Prop := ∀ left x t l', g left x = some (t, l') → t.wt + l' = left ∧ t.right = true ∧ t.nd ≤ t.wt ∧ ∀ left2, t.nd ≤ left2 → g2 left2 x = some (t, left2 - t.nd)

theorem seq12 {g g2 : Nat → Nat → Option (Tm × Nat)} (h : G12 g g2) : ∀ (ws : List Nat) (left : Nat) (ts : List Tm) (l' : Nat), seqP g left ws = some (ts, l') →
    wts ts + l' = left ∧ rights ts = true ∧ ts.length = ws.length ∧ nds ts ≤ wts ts ∧ ∀ left2, nds ts ≤ left2 → seqP g2 left2 ws = some (ts, left2 - nds ts)
  | [], left, ts, l', he => by
    simp only [seqP, Option.some.injEq, Prod.mk.injEq] at he
    obtain ⟨rfl, rfl⟩ := he
    exact ⟨by simp [wts], rfl, rfl, by simp [nds, wts], fun left2 _ => by simp [seqP, nds]⟩
  | w :: r, left, ts, l', he => by
    simp only [seqP] at he
    cases ha : g left w with
    | none => rw [ha] at he; cases he
    | some a =>
      obtain ⟨t, l1⟩ := a
      rw [ha] at he
      simp only [Option.bind_some] at he
      cases hb : seqP g l1 r with
      | none => rw [hb] at he; cases he
      | some b =>
        obtain ⟨ts1, l2⟩ := b
        rw [hb] at he
        simp only [Option.map_some, Option.some.injEq, Prod.mk.injEq] at he
        obtain ⟨rfl, rfl⟩ := he
        obtain ⟨h1, h2, h3, h4⟩ := h left w t l1 ha
        obtain ⟨k1, k2, k3, k4, k5⟩ := seq12 h r l1 ts1 l2 hb
        refine ⟨by simp only [wts]; omega, by simp only [rights, h2, k2, Bool.and_self], by simp [k3], by simp only [wts, nds]; omega, fun left2 hl => ?_⟩
        simp only [nds] at hl ⊢
        simp only [seqP]
        rw [h4 left2 (by omega)]
        simp only [Option.bind_some]
        rw [k5 (left2 - t.nd) (by omega)]
        simp only [Option.map_some, Option.some.injEq, Prod.mk.injEq, true_and]
        omega

def G21 (g g2 : Nat → Nat → Option (Tm × Nat)) : Prop := ∀ left x t l', g left x = some (t, l') → plainP x = true ∧ (t.right = true → ∀ left2, t.wt ≤ left2 → g2 left2 x = some (t, left2 - t.wt))

theorem seq21 {g g2 : Nat → Nat → Option (Tm × Nat)} (h : G21 g g2) : ∀ (ws : List Nat) (left : Nat) (ts : List Tm) (l' : Nat), seqP g left ws = some (ts, l') →
    allP ws = true ∧ ts.length = ws.length ∧ (rights ts = true → ∀ left2, wts ts ≤ left2 → seqP g2 left2 ws = some (ts, left2 - wts ts))
  | [], left, ts, l', he => by
    simp only [seqP, Option.some.injEq, Prod.mk.injEq] at he
    obtain ⟨rfl, rfl⟩ := he
    exact ⟨rfl, rfl, fun _ left2 _ => by simp [seqP, wts]⟩
  | w :: r, left, ts, l', he => by
    simp only [seqP] at he
    cases ha : g left w with
    | none => rw [ha] at he; cases he
    | some a =>
      obtain ⟨t, l1⟩ := a
      rw [ha] at he
      simp only [Option.bind_some] at he
      cases hb : seqP g l1 r with
      | none => rw [hb] at he; cases he
      | some b =>
        obtain ⟨ts1, l2⟩ := b
        rw [hb] at he
        simp only [Option.map_some, Option.some.injEq, Prod.mk.injEq] at he
        obtain ⟨rfl, rfl⟩ := he
        obtain ⟨h1, h2⟩ := h left w t l1 ha
        obtain ⟨k1, k2, k3⟩ := seq21 h r l1 ts1 l2 hb
        refine ⟨by simp only [allP, List.all_cons, Bool.and_eq_true] at k1 ⊢; exact ⟨h1, k1⟩, by simp [k2], fun hr left2 hl => ?_⟩
        simp only [rights, Bool.and_eq_true] at hr
        simp only [wts] at hl ⊢
        simp only [seqP]
        rw [h2 hr.1 left2 (by omega)]
        simp only [Option.bind_some]
        rw [k3 hr.2 (left2 - t.wt) (by omega)]
        simp only [Option.map_some, Option.some.injEq, Prod.mk.injEq, true_and]
        omega

theorem lead_two {l : List Nat} (h : l.length = 2) : leadW (-1) l = l := by
  simp only [leadW, leadsP, if_true]
  exact List.take_of_length_le (by rw [List.length_drop]; simp; omega)

theorem lead_tup {l : List Nat} (h : 1 ≤ l.length) : leadW 0 l = l.drop 1 := by
  have : leadsP 0 l.length = (1, (l.length : Int)) := by simp [leadsP]
  unfold leadW
  rw [this]
  exact List.take_of_length_le (by rw [List.length_drop]; simp only; omega)

theorem plain_parts {x : Nat} (h : plainP x = true) : tagW x ≤ 5 ∧ loW (tagW x) ≤ loadW x ∧ loadW x ≤ hiW (tagW x) := by
  simp only [plainP, fitsP, Bool.and_eq_true, decide_eq_true_eq] at h
  exact ⟨h.1, h.2.2⟩

/-- A small term. -/
def leafT (x : Nat) : Option Tm :=
  if tagW x = 0 then some (.mk 1 (loadW x) false [] 0 ⟨#[]⟩ [])
  else if tagW x = 1 then some (.mk 4 (loadW x) false [] 0 ⟨#[]⟩ [])
  else if tagW x = 2 then some (.mk 5 (loadW x) false [] 0 ⟨#[]⟩ [])
  else if tagW x = 3 then some (.mk 7 0 false [] 0 ⟨#[]⟩ [])
  else none

theorem leaf_right {x : Nat} {t : Tm} (hp : plainP x = true) (h : leafT x = some t) : t.right = true ∧ t.wt = 1 ∧ t.nd = 1 := by
  have hq := plain_parts hp
  unfold leafT at h
  split at h
  · rename_i q; cases h; rw [q] at hq; simp [loW, hiW] at hq; refine ⟨?_, by simp [Tm.wt], by simp [Tm.nd, nds]⟩
    simp [Tm.right, SheadP, bareP, rights]; omega
  · split at h
    · rename_i q; cases h; rw [q] at hq; simp [loW, hiW] at hq; refine ⟨?_, by simp [Tm.wt], by simp [Tm.nd, nds]⟩
      simp [Tm.right, SheadP, bareP, rights]; omega
    · split at h
      · rename_i q; cases h; rw [q] at hq; simp [loW, hiW] at hq; refine ⟨?_, by simp [Tm.wt], by simp [Tm.nd, nds]⟩
        simp [Tm.right, SheadP, bareP, rights]; omega
      · split at h
        · cases h; refine ⟨?_, by simp [Tm.wt], by simp [Tm.nd, nds]⟩
          simp [Tm.right, SheadP, bareP, rights]
        · cases h

theorem term_leaf {asks : Bool} {S : List Slt} {m : List Frg} {f left x : Nat} (hp : plainP x = true) (hl : left ≠ 0) (ht : tagW x ≤ 3) : ∃ t, leafT x = some t ∧ termP asks S m (f + 1) left x = some (t, left - 1) ∧ refT asks S m (f + 1) left x = some (t, left - 1) := by
  unfold leafT
  rw [refT_step]
  unfold readT
  rw [termP, if_neg (show ¬ (plainP x = false ∨ left = 0) by rw [hp]; simp [hl]), if_neg (show ¬ (left = 0 ∨ plainP x = false) by rw [hp]; simp [hl])]
  by_cases h0 : tagW x = 0
  · rw [if_pos h0, if_pos h0, if_pos h0]; exact ⟨_, rfl, rfl, rfl⟩
  · rw [if_neg h0, if_neg h0, if_neg h0]
    by_cases h1 : tagW x = 1
    · rw [if_pos h1, if_pos h1, if_pos h1]; exact ⟨_, rfl, rfl, rfl⟩
    · rw [if_neg h1, if_neg h1, if_neg h1]
      by_cases h2 : tagW x = 2
      · rw [if_pos h2, if_pos h2, if_pos h2]; exact ⟨_, rfl, rfl, rfl⟩
      · rw [if_neg h2, if_neg h2, if_neg h2]
        have h3 : tagW x = 3 := by omega
        rw [if_pos h3, if_pos h3, if_pos h3]; exact ⟨_, rfl, rfl, rfl⟩

theorem term_deep {asks : Bool} {S : List Slt} {m : List Frg} {f left x : Nat} (hp : plainP x = true) (hl : left ≠ 0) (ht : 4 ≤ tagW x) :
    termP asks S m (f + 1) left x = (objP m (loadW x) (tagW x)).bind (objT (termP asks S m f) asks S m (left - 1)) ∧
    refT asks S m (f + 1) left x = if tagW x = 5 then (if (restP m (loadW x)).length < 2 then none else (seqP (refT asks S m f) (left - 1) ((restP m (loadW x)).take 2)).map fun r => (.mk 8 0 false [] 0 ⟨#[]⟩ r.1, r.2)) else boxT (refT asks S m f) asks S m (left - 1) x := by
  rw [refT_step]
  unfold readT
  rw [termP, if_neg (show ¬ (plainP x = false ∨ left = 0) by rw [hp]; simp [hl]), if_neg (show ¬ (left = 0 ∨ plainP x = false) by rw [hp]; simp [hl])]
  rw [if_neg (show ¬ tagW x = 0 by omega), if_neg (show ¬ tagW x = 1 by omega), if_neg (show ¬ tagW x = 2 by omega), if_neg (show ¬ tagW x = 3 by omega)]
  rw [if_neg (show ¬ tagW x = 0 by omega), if_neg (show ¬ tagW x = 1 by omega), if_neg (show ¬ tagW x = 2 by omega), if_neg (show ¬ tagW x = 3 by omega)]
  exact ⟨rfl, rfl⟩

theorem bigTm_right (l : List Nat) : (bigTm (l.drop 1)).right = (numMayP (bigNeg l) (bigMag l) && !smallP (bigNeg l) (bigMag l)) ∧ (bigTm (l.drop 1)).wt = 1 + (bigMag l).length ∧ (bigTm (l.drop 1)).nd = 1 ∧ bigTm (l.drop 1) = .mk 2 0 (bigNeg l) (bigMag l) 0 ⟨#[]⟩ [] := by
  have e : bigTm (l.drop 1) = .mk 2 0 (bigNeg l) (bigMag l) 0 ⟨#[]⟩ [] := by
    unfold bigTm bigNeg bigMag
    rw [getD_drop, List.drop_drop]
  rw [e]
  exact ⟨by simp [Tm.right, SheadP, bareP, rights], by simp [Tm.wt], by simp [Tm.nd, nds], rfl⟩

theorem big12_eq (l : List Nat) : big12 (l.drop 1) = if rightFlat 1 l = true then some (.mk 2 0 (bigNeg l) (bigMag l) 0 ⟨#[]⟩ []) else none := by
  have e : rightFlat 1 l = (decide (3 ≤ l.length) && decide (l.length ≤ 6) && bigP l) := by simp [rightFlat]
  obtain ⟨h1, h2, h3, h4⟩ := bigTm_right l
  unfold big12
  rw [getD_drop, List.length_drop, Nat.zero_add]
  by_cases hb : l.length - 1 < 2 ∨ 5 < l.length - 1 ∨ 1 < l.getD 1 0
  · rw [if_pos hb, if_neg]
    rw [e]
    simp only [bigP, Bool.and_eq_true, decide_eq_true_eq]
    omega
  · rw [if_neg hb]
    have hm : (bigTm (l.drop 1)).may = (numMayP (bigNeg l) (bigMag l) && !smallP (bigNeg l) (bigMag l)) := by
      unfold Tm.may
      rw [h1, h2]
      cases hn : numMayP (bigNeg l) (bigMag l) with
      | false => simp
      | true =>
        have : (bigMag l).length ≤ 8 := by
          simp only [numMayP, Bool.and_eq_true, decide_eq_true_eq] at hn
          exact hn.1
        rw [decide_eq_true (by omega), Bool.true_and]
    have e2 : rightFlat 1 l = (numMayP (bigNeg l) (bigMag l) && !smallP (bigNeg l) (bigMag l)) := by
      rw [e, bigP, decide_eq_true (by omega), decide_eq_true (by omega), decide_eq_true (by omega)]
      simp
    rw [hm, h4, e2]

theorem flt_eq (l : List Nat) : (if (l.drop 1).length ≠ 1 then none else if (fltTm ((l.drop 1).getD 0 0)).may = true then some (fltTm ((l.drop 1).getD 0 0)) else none) = if rightFlat 2 l = true then some (Tm.mk 3 0 false [] (l.getD 1 0) ⟨#[]⟩ []) else none := by
  have e : rightFlat 2 l = (decide (l.length = 2) && realP (l.getD 1 0)) := by simp [rightFlat]
  rw [e, getD_drop, List.length_drop]
  have hm : (fltTm (l.getD (0 + 1) 0)).may = realP (l.getD 1 0) := by
    simp [Tm.may, fltTm, Tm.wt, Tm.right, SheadP, bareP, rights]
  by_cases h : l.length = 2
  · rw [if_neg (by omega), decide_eq_true h, Bool.true_and, hm]; rfl
  · rw [decide_eq_false h]
    simp only [Bool.false_and, Bool.false_eq_true, if_false]
    split
    · rfl
    · omega

theorem bin_of {left : Nat} {b : ByteArray} {t : Tm} {l' : Nat} (h : binT left b = some (t, l')) : t = .mk 9 0 false [] 0 b [] ∧ t.wt + l' = 1 + left ∧ t.right = true ∧ t.nd = 1 ∧ 1 ≤ t.wt := by
  unfold binT at h
  split at h
  · rename_i q
    simp only [Option.some.injEq, Prod.mk.injEq] at h
    obtain ⟨rfl, rfl⟩ := h
    refine ⟨rfl, by simp [Tm.wt]; omega, ?_, by simp [Tm.nd, nds], by simp [Tm.wt]⟩
    simp [Tm.right, SheadP, bareP, rights]
    exact q.1
  · cases h

theorem bin_to {left : Nat} {b : ByteArray} (hr : (Tm.mk 9 0 false [] 0 b []).right = true) (hl : (Tm.mk 9 0 false [] 0 b []).wt ≤ left) : 1 ≤ left ∧ binT (left - 1) b = some (.mk 9 0 false [] 0 b [], left - (Tm.mk 9 0 false [] 0 b []).wt) := by
  have hw : (Tm.mk 9 0 false [] 0 b []).wt = 1 + b.size / 8 := by simp [Tm.wt]
  rw [hw] at hl ⊢
  simp [Tm.right, SheadP, bareP, rights] at hr
  refine ⟨by omega, ?_⟩
  unfold binT
  rw [if_pos ⟨hr, by omega⟩]
  congr 2
  omega

end Go.Proofs.YtlmpmjhanpkcnaaGreat

namespace Go.Proofs.YtlmpmjhanpkcnaaGreat
open Go.RowKit

theorem box_obj {asks : Bool} {S : List Slt} {m : List Frg} (hm : LowM m) (x : Nat) (h4 : tagW x = 4) (g : Nat → Nat → Option (Tm × Nat)) (left : Nat) :
    boxT g asks S m left x = (headAt m (loadW x)).bind fun o =>
      if o.1 = 0 then (if 9 < o.2.length then none else (seqP g left (o.2.drop 1)).map fun r => (.mk 6 0 false [] 0 ⟨#[]⟩ r.1, r.2))
      else if o.1 = 1 then (if rightFlat 1 o.2 = true then some (.mk 2 0 (bigNeg o.2) (bigMag o.2) 0 ⟨#[]⟩ [], left) else none)
      else if o.1 = 2 then (if rightFlat 2 o.2 = true then some (.mk 3 0 false [] (o.2.getD 1 0) ⟨#[]⟩ [], left) else none)
      else if o.1 = 3 then (if rightFlat 3 o.2 = true then (bytesB o.2).map fun b => (.mk 9 0 false [] 0 b [], left) else none)
      else if o.1 = 4 then (if rightFlat 4 o.2 = true then (sharedP asks S o.2).map fun b => (.mk 9 0 false [] 0 b [], left) else none)
      else (if rightP m 5 o.2 = true then (partP asks S m o.2).map fun b => (.mk 9 0 false [] 0 b [], left) else none) := by
  unfold boxT
  rw [box_head m x h4]
  cases hh : headAt m (loadW x) with
  | none => rfl
  | some o =>
    obtain ⟨k, l⟩ := o
    have hk := headAt_le hh
    simp only [Option.map_some, Option.bind_some]
    by_cases h0 : k = 0
    · rw [if_pos h0, if_pos h0, List.length_drop]
      by_cases h9 : 9 < l.length
      · rw [if_pos h9, if_pos (by omega)]
      · rw [if_neg h9, if_neg (by omega)]
    · rw [if_neg h0, if_neg h0]
      by_cases h1 : k = 1
      · rw [if_pos h1, if_pos h1, big12_eq]
        split <;> rfl
      · rw [if_neg h1, if_neg h1]
        by_cases h2 : k = 2
        · rw [if_pos h2, if_pos h2]
          have e := flt_eq l
          by_cases hr : rightFlat 2 l = true
          · rw [if_pos hr] at e ⊢
            split at e
            · cases e
            · rename_i q
              rw [if_neg q]
              split at e
              · rename_i q2
                rw [if_pos q2]
                simp only [Option.some.injEq] at e
                rw [e]
              · cases e
          · rw [if_neg hr] at e ⊢
            split at e
            · rename_i q; rw [if_pos q]
            · rename_i q
              rw [if_neg q]
              split at e
              · cases e
              · rename_i q2; rw [if_neg q2]
        · rw [if_neg h2, if_neg h2]
          by_cases h5 : k = 5
          · subst h5
            rw [if_pos rfl, if_neg (by decide), if_neg (by decide), sub_eq asks S m hm l (fun h => right5_le h)]
            split <;> rfl
          · rw [if_neg h5]
            by_cases h3 : k = 3
            · subst h3
              rw [if_pos rfl, bytes12_3eq asks S l hk.2.2]
              split
              · cases bytesB l <;> rfl
              · rfl
            · rw [if_neg h3]
              have h4' : k = 4 := by omega
              subst h4'
              rw [if_pos rfl, bytes12_4eq]
              split
              · cases sharedP asks S l <;> rfl
              · rfl

theorem obj_head {m : List Frg} {a : Int} : objP m a 4 = (headAt m a).bind fun o => if rightP m o.1 o.2 = true then some o else none := by
  unfold objP
  rw [if_neg (by decide)]

theorem step12 {asks : Bool} {S : List Slt} {m : List Frg} (hm : LowM m) {f : Nat} (ih : G12 (termP asks S m f) (refT asks S m f)) : G12 (termP asks S m (f + 1)) (refT asks S m (f + 1)) := by
  intro left x t l' he
  have hp : plainP x = true := by
    cases h : plainP x with
    | true => rfl
    | false => rw [termP, if_pos (Or.inl h)] at he; cases he
  have hl : left ≠ 0 := by
    intro h; rw [termP, if_pos (Or.inr h)] at he; cases he
  by_cases h3 : tagW x ≤ 3
  · obtain ⟨t', e1, e2, e3⟩ := term_leaf (asks := asks) (S := S) (m := m) (f := f) hp hl h3
    rw [e2] at he
    simp only [Option.some.injEq, Prod.mk.injEq] at he
    obtain ⟨rfl, rfl⟩ := he
    obtain ⟨k1, k2, k3⟩ := leaf_right hp e1
    refine ⟨by omega, k1, by omega, fun left2 hl2 => ?_⟩
    obtain ⟨t2, e1', -, e3'⟩ := term_leaf (asks := asks) (S := S) (m := m) (f := f) (left := left2) hp (by omega) h3
    rw [e1] at e1'
    cases e1'
    rw [e3', k3]
  · have hq := plain_parts hp
    obtain ⟨d1, -⟩ := term_deep (asks := asks) (S := S) (m := m) (f := f) hp hl (by omega)
    rw [d1] at he
    by_cases h5 : tagW x = 5
    · rw [h5] at he
      have e5 : objP m (loadW x) ((5 : Nat) : Int) = (wordsP m (loadW x) 2).bind fun l => if allP l = true then some (-1, l) else none := by
        unfold objP; rw [if_pos (show ((5 : Nat) : Int) = 5 from rfl)]
      rw [e5, words_rest m _ 2 (by decide)] at he
      by_cases h2 : (2 : Int) ≤ ((restP m (loadW x)).length : Int)
      · rw [if_pos h2] at he
        simp only [Option.bind_some] at he
        have e2 : ((2 : Int).toNat) = 2 := rfl
        rw [e2] at he
        have hlen : ((restP m (loadW x)).take 2).length = 2 := by rw [List.length_take]; omega
        generalize hws : (restP m (loadW x)).take 2 = ws at he hlen
        split at he
        · simp only [Option.bind_some] at he
          have e6 : objT (termP asks S m f) asks S m (left - 1) (-1, ws) = (seqP (termP asks S m f) (left - 1) ws).map fun r => (.mk 8 0 false [] 0 ⟨#[]⟩ r.1, r.2) := by
            unfold objT
            simp only
            rw [if_neg (by decide), if_neg (by decide), if_neg (by decide), if_neg (by decide), if_neg (by decide), lead_two hlen]
            rfl
          rw [e6] at he
          cases hs : seqP (termP asks S m f) (left - 1) ws with
          | none => rw [hs] at he; cases he
          | some r =>
            obtain ⟨ts, l2⟩ := r
            rw [hs] at he
            simp only [Option.map_some, Option.some.injEq, Prod.mk.injEq] at he
            obtain ⟨rfl, rfl⟩ := he
            obtain ⟨k1, k2, k3, k4, k5⟩ := seq12 ih ws _ _ _ hs
            have hw : (Tm.mk 8 0 false [] 0 ⟨#[]⟩ ts).wt = 1 + wts ts := by simp [Tm.wt]
            have hn : (Tm.mk 8 0 false [] 0 ⟨#[]⟩ ts).nd = 1 + nds ts := by simp [Tm.nd]
            rw [hw, hn]
            refine ⟨by omega, ?_, by omega, fun left2 hl2 => ?_⟩
            · simp [Tm.right, SheadP, bareP, k2]; omega
            · obtain ⟨-, d2⟩ := term_deep (asks := asks) (S := S) (m := m) (f := f) (left := left2) hp (by omega) (by omega)
              rw [d2, if_pos h5, if_neg (by omega), hws, k5 (left2 - 1) (by omega)]
              simp only [Option.map_some, Option.some.injEq, Prod.mk.injEq, true_and]
              omega
        · cases he
      · rw [if_neg h2] at he
        cases he
    · have h4 : tagW x = 4 := by omega
      rw [h4] at he
      have e4 : objP m (loadW x) ((4 : Nat) : Int) = (headAt m (loadW x)).bind fun o => if rightP m o.1 o.2 = true then some o else none := obj_head
      rw [e4] at he
      have D2 := fun (left2 : Nat) (h : left2 ≠ 0) => ((term_deep (asks := asks) (S := S) (m := m) (f := f) (left := left2) hp h (by omega)).2).trans ((if_neg h5).trans (box_obj (asks := asks) (S := S) hm x h4 (refT asks S m f) (left2 - 1)))
      cases hh : headAt m (loadW x) with
      | none => rw [hh] at he; cases he
      | some o =>
        obtain ⟨k, l⟩ := o
        have hk := headAt_le hh
        rw [hh] at he D2
        simp only [Option.bind_some] at he D2
        split at he
        · rename_i hr
          simp only [Option.bind_some] at he
          unfold objT at he
          simp only at he
          by_cases h0 : k = 0
          · subst h0
            rw [if_neg (by decide), if_neg (by decide), if_neg (by decide), if_neg (by decide), if_neg (by decide), if_neg (by decide), lead_tup hk.2.2] at he
            cases hs : seqP (termP asks S m f) (left - 1) (l.drop 1) with
            | none => rw [hs] at he; cases he
            | some r =>
              obtain ⟨ts, l2⟩ := r
              rw [hs] at he
              simp only [Option.map_some, Option.some.injEq, Prod.mk.injEq] at he
              obtain ⟨rfl, rfl⟩ := he
              obtain ⟨k1, k2, k3, k4, k5⟩ := seq12 ih _ _ _ _ hs
              have hw : (Tm.mk 6 0 false [] 0 ⟨#[]⟩ ts).wt = 1 + wts ts := by simp [Tm.wt]
              have hn : (Tm.mk 6 0 false [] 0 ⟨#[]⟩ ts).nd = 1 + nds ts := by simp [Tm.nd]
              have h9 : l.length ≤ 9 := by
                unfold rightP at hr
                rw [if_neg (by decide)] at hr
                simp [rightFlat] at hr
                exact hr.1
              rw [hw, hn]
              refine ⟨by omega, ?_, by omega, fun left2 hl2 => ?_⟩
              · simp [Tm.right, SheadP, bareP, k2]; rw [k3, List.length_drop]; omega
              · rw [D2 left2 (by omega), if_pos rfl, if_neg (by omega), k5 (left2 - 1) (by omega)]
                simp only [Option.map_some, Option.some.injEq, Prod.mk.injEq, true_and]
                omega
          · by_cases h1 : k = 1
            · subst h1
              rw [if_pos rfl] at he
              have hf : rightFlat 1 l = true := by unfold rightP at hr; rw [if_neg (by decide)] at hr; exact hr
              split at he
              · rename_i q
                simp only [Option.some.injEq, Prod.mk.injEq] at he
                obtain ⟨rfl, rfl⟩ := he
                obtain ⟨b1, b2, b3, b4⟩ := bigTm_right l
                rw [b4] at b1 b2 b3
                have hb : (numMayP (bigNeg l) (bigMag l) && !smallP (bigNeg l) (bigMag l)) = true := by
                  simp [rightFlat, bigP] at hf
                  simp [hf.2.1.2, hf.2.2]
                refine ⟨by omega, by rw [b1, hb], by omega, fun left2 hl2 => ?_⟩
                rw [D2 left2 (by omega), if_neg (by decide), if_pos rfl, if_pos hf, b3]
              · cases he
            · by_cases h2 : k = 2
              · subst h2
                rw [if_neg (by decide), if_pos rfl] at he
                have hf : rightFlat 2 l = true := by unfold rightP at hr; rw [if_neg (by decide)] at hr; exact hr
                simp only [Option.some.injEq, Prod.mk.injEq] at he
                obtain ⟨rfl, rfl⟩ := he
                have hw : (Tm.mk 3 0 false [] (l.getD 1 0) ⟨#[]⟩ []).wt = 1 := by simp [Tm.wt]
                have hn : (Tm.mk 3 0 false [] (l.getD 1 0) ⟨#[]⟩ []).nd = 1 := by simp [Tm.nd, nds]
                have hb : realP (l.getD 1 0) = true := by
                  simp only [rightFlat] at hf
                  simp at hf
                  simpa using hf.2
                rw [hw, hn]
                refine ⟨by omega, ?_, by omega, fun left2 hl2 => ?_⟩
                · simp only [Tm.right, SheadP, bareP, rights]
                  simp
                  simpa using hb
                · rw [D2 left2 (by omega), if_neg (by decide), if_neg (by decide), if_pos rfl, if_pos hf]
              · have K : ∀ (ob : Option ByteArray), (ob.bind (binT (left - 1)) = some (t, l')) → (∀ left2, left2 ≠ 0 → refT asks S m (f + 1) left2 x = ob.map fun b => (.mk 9 0 false [] 0 b [], left2 - 1)) →
                    t.wt + l' = left ∧ t.right = true ∧ t.nd ≤ t.wt ∧ ∀ left2, t.nd ≤ left2 → refT asks S m (f + 1) left2 x = some (t, left2 - t.nd) := by
                  intro ob h1 h2
                  cases ob with
                  | none => cases h1
                  | some b =>
                    simp only [Option.bind_some] at h1
                    obtain ⟨q1, q2, q3, q4, q5⟩ := bin_of h1
                    refine ⟨by omega, q3, by omega, fun left2 hl2 => ?_⟩
                    rw [h2 left2 (by omega), q4, Option.map_some, ← q1]
                by_cases h3' : k = 3
                · subst h3'
                  have hf : rightFlat 3 l = true := by unfold rightP at hr; rw [if_neg (by decide)] at hr; exact hr
                  rw [if_neg (by decide), if_neg (by decide), if_pos rfl] at he
                  refine K _ he fun left2 h => ?_
                  rw [D2 left2 h, if_neg (by decide), if_neg (by decide), if_neg (by decide), if_pos rfl, if_pos hf]
                · by_cases h4' : k = 4
                  · subst h4'
                    have hf : rightFlat 4 l = true := by unfold rightP at hr; rw [if_neg (by decide)] at hr; exact hr
                    rw [if_neg (by decide), if_neg (by decide), if_neg (by decide), if_pos rfl] at he
                    refine K _ he fun left2 h => ?_
                    rw [D2 left2 h, if_neg (by decide), if_neg (by decide), if_neg (by decide), if_neg (by decide), if_pos rfl, if_pos hf]
                  · have h5' : k = 5 := by omega
                    subst h5'
                    rw [if_neg (by decide), if_neg (by decide), if_neg (by decide), if_neg (by decide), if_pos rfl] at he
                    refine K _ he fun left2 h => ?_
                    rw [D2 left2 h, if_neg (by decide), if_neg (by decide), if_neg (by decide), if_neg (by decide), if_neg (by decide), if_pos hr]
        · cases he

theorem both12 {asks : Bool} {S : List Slt} {m : List Frg} (hm : LowM m) : ∀ f, G12 (termP asks S m f) (refT asks S m f)
  | 0 => fun left x t l' he => by cases he
  | f + 1 => step12 hm (both12 hm f)

theorem step21 {asks : Bool} {S : List Slt} {m : List Frg} (hm : LowM m) {f : Nat} (ih : G21 (refT asks S m f) (termP asks S m f)) : G21 (refT asks S m (f + 1)) (termP asks S m (f + 1)) := by
  intro left x t l' he
  have hp : plainP x = true := by
    cases h : plainP x with
    | true => rfl
    | false => rw [refT_step] at he; unfold readT at he; rw [if_pos (Or.inr h)] at he; cases he
  have hl : left ≠ 0 := by
    intro h; rw [refT_step] at he; unfold readT at he; rw [if_pos (Or.inl h)] at he; cases he
  refine ⟨hp, fun htr left2 hl2 => ?_⟩
  by_cases h3 : tagW x ≤ 3
  · obtain ⟨t', e1, e2, e3⟩ := term_leaf (asks := asks) (S := S) (m := m) (f := f) hp hl h3
    rw [e3] at he
    simp only [Option.some.injEq, Prod.mk.injEq] at he
    obtain ⟨rfl, rfl⟩ := he
    obtain ⟨k1, k2, k3⟩ := leaf_right hp e1
    obtain ⟨t2, e1', e2', -⟩ := term_leaf (asks := asks) (S := S) (m := m) (f := f) (left := left2) hp (by omega) h3
    rw [e1] at e1'
    cases e1'
    rw [e2', k2]
  · have hq := plain_parts hp
    have hw1 := Tm.wt_pos t
    obtain ⟨-, d2⟩ := term_deep (asks := asks) (S := S) (m := m) (f := f) hp hl (by omega)
    obtain ⟨d1, -⟩ := term_deep (asks := asks) (S := S) (m := m) (f := f) (left := left2) hp (by omega) (by omega)
    rw [d2] at he
    rw [d1]
    by_cases h5 : tagW x = 5
    · rw [if_pos h5] at he
      rw [h5]
      have e5 : objP m (loadW x) ((5 : Nat) : Int) = (wordsP m (loadW x) 2).bind fun l => if allP l = true then some (-1, l) else none := by
        unfold objP; rw [if_pos (show ((5 : Nat) : Int) = 5 from rfl)]
      rw [e5, words_rest m _ 2 (by decide)]
      split at he
      · cases he
      · rename_i h2
        rw [if_pos (by omega)]
        simp only [Option.bind_some]
        have e2 : ((2 : Int).toNat) = 2 := rfl
        rw [e2]
        have hlen : ((restP m (loadW x)).take 2).length = 2 := by rw [List.length_take]; omega
        generalize hws : (restP m (loadW x)).take 2 = ws at he hlen ⊢
        cases hs : seqP (refT asks S m f) (left - 1) ws with
        | none => rw [hs] at he; cases he
        | some r =>
          obtain ⟨ts, l2⟩ := r
          rw [hs] at he
          simp only [Option.map_some, Option.some.injEq, Prod.mk.injEq] at he
          obtain ⟨rfl, rfl⟩ := he
          obtain ⟨k1, k2, k3⟩ := seq21 ih ws _ _ _ hs
          have hw : (Tm.mk 8 0 false [] 0 ⟨#[]⟩ ts).wt = 1 + wts ts := by simp [Tm.wt]
          have hr : rights ts = true := by
            simp only [Tm.right, Bool.and_eq_true] at htr
            exact htr.2
          rw [if_pos k1]
          simp only [Option.bind_some]
          unfold objT
          simp only
          rw [if_neg (by decide), if_neg (by decide), if_neg (by decide), if_neg (by decide), if_neg (by decide), lead_two hlen, k3 hr (left2 - 1) (by omega), hw]
          simp only [Option.map_some, if_true, Option.some.injEq, Prod.mk.injEq, true_and]
          omega
    · have h4 : tagW x = 4 := by omega
      rw [if_neg h5, box_obj hm x h4] at he
      rw [h4]
      have e4 : objP m (loadW x) ((4 : Nat) : Int) = (headAt m (loadW x)).bind fun o => if rightP m o.1 o.2 = true then some o else none := obj_head
      rw [e4]
      cases hh : headAt m (loadW x) with
      | none => rw [hh] at he; cases he
      | some o =>
        obtain ⟨k, l⟩ := o
        have hk := headAt_le hh
        rw [hh] at he
        simp only [Option.bind_some] at he ⊢
        have R : ∀ j, k = j → j ≠ 5 → rightFlat j l = true → rightP m k l = true := fun j h hj hf => by unfold rightP; rw [h, if_neg hj]; exact hf
        by_cases h0 : k = 0
        · rw [if_pos h0] at he
          split at he
          · cases he
          · rename_i h9
            cases hs : seqP (refT asks S m f) (left - 1) (l.drop 1) with
            | none => rw [hs] at he; cases he
            | some r =>
              obtain ⟨ts, l2⟩ := r
              rw [hs] at he
              simp only [Option.map_some, Option.some.injEq, Prod.mk.injEq] at he
              obtain ⟨rfl, rfl⟩ := he
              obtain ⟨k1, k2, k3⟩ := seq21 ih _ _ _ _ hs
              have hw : (Tm.mk 6 0 false [] 0 ⟨#[]⟩ ts).wt = 1 + wts ts := by simp [Tm.wt]
              have hr : rights ts = true := by
                simp only [Tm.right, Bool.and_eq_true] at htr
                exact htr.2
              rw [if_pos (R 0 h0 (by decide) (by unfold rightFlat; rw [if_pos rfl, k1, decide_eq_true (by omega)]; rfl))]
              subst h0
              simp only [Option.bind_some]
              unfold objT
              simp only
              rw [if_neg (by decide), if_neg (by decide), if_neg (by decide), if_neg (by decide), if_neg (by decide), lead_tup hk.2.2, k3 hr (left2 - 1) (by omega), hw]
              rw [if_neg (by decide)]
              simp only [Option.map_some, Option.some.injEq, Prod.mk.injEq, true_and]
              omega
        · rw [if_neg h0] at he
          by_cases h1 : k = 1
          · rw [if_pos h1] at he
            split at he
            · rename_i hf
              simp only [Option.some.injEq, Prod.mk.injEq] at he
              obtain ⟨rfl, rfl⟩ := he
              obtain ⟨-, b2, -, b4⟩ := bigTm_right l
              rw [b4] at b2
              rw [if_pos (R 1 h1 (by decide) hf)]
              subst h1
              simp only [Option.bind_some]
              unfold objT
              simp only
              rw [if_pos trivial, if_pos (by omega), b2]
              simp only [Option.some.injEq, Prod.mk.injEq, true_and]
              omega
            · cases he
          · rw [if_neg h1] at he
            by_cases h2 : k = 2
            · rw [if_pos h2] at he
              split at he
              · rename_i hf
                simp only [Option.some.injEq, Prod.mk.injEq] at he
                obtain ⟨rfl, rfl⟩ := he
                have hw : (Tm.mk 3 0 false [] (l.getD 1 0) ⟨#[]⟩ []).wt = 1 := by simp [Tm.wt]
                rw [if_pos (R 2 h2 (by decide) hf)]
                subst h2
                simp only [Option.bind_some]
                unfold objT
                simp only
                rw [if_neg (by decide), if_pos trivial, hw]
              · cases he
            · rw [if_neg h2] at he
              have K : ∀ (ob : Option ByteArray), (ob.map fun b => (Tm.mk 9 0 false [] 0 b [], left - 1)) = some (t, l') → ob.bind (binT (left2 - 1)) = some (t, left2 - t.wt) := by
                intro ob h
                cases ob with
                | none => cases h
                | some b =>
                  simp only [Option.map_some, Option.some.injEq, Prod.mk.injEq] at h
                  obtain ⟨rfl, -⟩ := h
                  exact (bin_to htr hl2).2
              by_cases h3' : k = 3
              · rw [if_pos h3'] at he
                split at he
                · rename_i hf
                  rw [if_pos (R 3 h3' (by decide) hf)]
                  subst h3'
                  simp only [Option.bind_some]
                  unfold objT
                  simp only
                  rw [if_neg (by decide), if_neg (by decide), if_pos trivial]
                  exact K _ he
                · cases he
              · rw [if_neg h3'] at he
                by_cases h4' : k = 4
                · rw [if_pos h4'] at he
                  split at he
                  · rename_i hf
                    rw [if_pos (R 4 h4' (by decide) hf)]
                    subst h4'
                    simp only [Option.bind_some]
                    unfold objT
                    simp only
                    rw [if_neg (by decide), if_neg (by decide), if_neg (by decide), if_pos trivial]
                    exact K _ he
                  · cases he
                · rw [if_neg h4'] at he
                  have h5' : k = 5 := by omega
                  split at he
                  · rename_i hf
                    subst h5'
                    rw [if_pos hf]
                    simp only [Option.bind_some]
                    unfold objT
                    simp only
                    rw [if_neg (by decide), if_neg (by decide), if_neg (by decide), if_neg (by decide), if_pos trivial]
                    exact K _ he
                  · cases he

theorem both21 {asks : Bool} {S : List Slt} {m : List Frg} (hm : LowM m) : ∀ f, G21 (refT asks S m f) (termP asks S m f)
  | 0 => fun left x t l' he => by cases he
  | f + 1 => step21 hm (both21 hm f)

/-- Chapter 12's own reader and the program's say the same of any word. -/
theorem read_same {asks : Bool} {S : List Slt} {m : List Frg} (hm : LowM m) (x : Nat) : refRead asks S m x = readP asks S m x := by
  unfold refRead readP
  cases ht : termP asks S m 301 300 x with
  | some p =>
    obtain ⟨t, l'⟩ := p
    obtain ⟨h1, h2, h3, h4⟩ := both12 hm 301 300 x t l' ht
    rw [h4 300 (by omega)]
    simp only [Option.bind_some, Option.map_some]
    rw [if_pos]
    unfold Tm.may
    rw [h2, decide_eq_true (by omega)]
    rfl
  | none =>
    cases hr : refT asks S m 301 300 x with
    | none => rfl
    | some p =>
      obtain ⟨t, l'⟩ := p
      simp only [Option.bind_some, Option.map_none]
      split
      · rename_i q
        unfold Tm.may at q
        simp only [Bool.and_eq_true, decide_eq_true_eq] at q
        have := (both21 hm 301 300 x t l' hr).2 q.2 300 q.1
        rw [ht] at this
        cases this
      · rfl

theorem roots_same {asks : Bool} {S : List Slt} {d : Dmp} (hm : LowM d.mem) : refRoots asks S d = rootsP asks S d := by
  unfold refRoots rootsP refReads readsP
  congr 1
  funext x
  rw [read_same hm]

end Go.Proofs.YtlmpmjhanpkcnaaGreat

namespace Go.Proofs.YtlmpmjhanpkcnaaGreat
open Go.RowKit

set_option maxHeartbeats 2000000 in
theorem sameW_eq (x y : List Nat) (n : Nat) (hx : x.length = n) (hy : y.length = n) (a b : Option Addr) (c d : Nat) (w : World) (hn : n ≤ maxLen)
    (hc : ∀ j, (hj : j < x.length) → ∃ g o, a = some ⟨g, o, none⟩ ∧ w.cell? ⟨g, o + j, none⟩ = some (.int .u64 x[j])) (hd : ∀ j, (hj : j < y.length) → ∃ g o, b = some ⟨g, o, none⟩ ∧ w.cell? ⟨g, o + j, none⟩ = some (.int .u64 y[j])) :
    Calls Tryz.prog 35 #[.slice a n c, .slice b n d] w fun e w' => e = .returned (.bool (decide (x = y))) ∧ Below w.heap.size w w' := by
  have HC := Lib.hid hc
  have HD := Lib.hid hd
  have HX := Lib.hid hx
  have HY := Lib.hid hy
  unfold maxLen at hn
  clear hc hd hx hy
  have q2 : ((n : Int) != (n : Int)) = false := by simp
  go_enter Tryz.func35, Tryz.ntmps35
  go_wp2_with fail
  go_loopw [5] (fun i wr => ∃ (k : Nat), k ≤ n ∧ i = .int .i64 k ∧ Hid (x.take k = y.take k) ∧ Hid (Below w.heap.size w wr)) (fun i _ => n - (intOf i).toNat)
  case atStart => exact ⟨0, by omega, rfl, Lib.hid (by simp), Lib.hid (Below.refl _ _)⟩
  case round =>
    obtain ⟨k, hk, rfl, HT, HB⟩ := hrel
    by_cases hlt : k < n
    · have q1 : (k : Int) < (n : Int) := by omega
      have q0 : (0 : Int) ≤ (k : Int) := by omega
      have kx : k < x.length := by have := HX.out; omega
      have ky : k < y.length := by have := HY.out; omega
      obtain ⟨g, o, rfl, k0⟩ := HC.out k kx
      obtain ⟨g', o', rfl, k1⟩ := HD.out k ky
      have k0 := (HB.out.cell (World.block_lt_of_cell? w _ k0)).trans k0
      have k1 := (HB.out.cell (World.block_lt_of_cell? w _ k1)).trans k1
      obtain ⟨p, hp⟩ : ∃ p, x[k]'kx = p := ⟨_, rfl⟩
      obtain ⟨r, hr⟩ : ∃ r, y[k]'ky = r := ⟨_, rfl⟩
      rw [hp] at k0
      rw [hr] at k1
      have HP := Lib.hid hp
      have HR := Lib.hid hr
      clear hp hr
      have QK := Lib.hid (show k + 1 ≤ n ∧ n - (k + 1) < n - k by omega)
      by_cases he : p = r
      · have HE := Lib.hid he
        clear he
        have q3 : ((p : Int) != (r : Int)) = false := by simp [HE.out]
        go_upto_region 6 with fail
        go_quiet (fail)
        have q5 : IntKind.i64.wrap ((k : Int) + 1) = (k : Int) + 1 := IntWalk.i64_in _ (by omega)
        go_wp2_with fail
        go_roundw
        case rel => exact ⟨k + 1, QK.out.1, by go_num, Lib.hid (by rw [List.take_succ_eq_append_getElem kx, List.take_succ_eq_append_getElem ky, HT.out, HP.out, HR.out, HE.out]), Lib.hid (HB.out.trans ((drewN_below _).mono HB.out.size))⟩
        case measure => clear q5; have := QK.out.2; simp [intOf]; omega
      · have HE := Lib.hid he
        have q3 : ((p : Int) != (r : Int)) = true := by rw [bne_iff_ne]; omega
        clear he
        go_upto_region 6 with fail
        go_quiet (fail)
        go_wp2_with fail
        go_ret
        refine ⟨?_, HB.out.trans ((drewN_below _).mono HB.out.size)⟩
        rw [decide_eq_false (show ¬ x = y from fun h => by subst h; exact HE.out (HP.out.symm.trans HR.out))]
        rfl
    · obtain rfl : k = n := by omega
      have q1 : ¬ (k : Int) < (k : Int) := by omega
      go_wp2_with fail
      go_ret
      refine ⟨?_, HB.out⟩
      have h := HT.out
      rw [List.take_of_length_le (by have := HX.out; omega), List.take_of_length_le (by have := HY.out; omega)] at h
      rw [decide_eq_true h]
      rfl

set_option maxHeartbeats 2000000 in
theorem sameW_any (x y : List Nat) (xv yv : Value) (w : World) (hx : Ws w xv x) (hy : Ws w yv y) : Calls Tryz.prog 35 #[xv, yv] w fun e w' => e = .returned (.bool (decide (x = y))) ∧ Below w.heap.size w w' := by
  obtain ⟨hl, -, a, c, rfl, -, -, hc⟩ := hx
  obtain ⟨hl', -, b, d, rfl, -, -, hd⟩ := hy
  by_cases h : y.length = x.length
  · rw [h]
    exact sameW_eq x y x.length rfl h a b c d w hl hc hd
  · have HN := Lib.hid h
    have q2 : ((x.length : Int) != (y.length : Int)) = true := by simp [bne_iff_ne]; omega
    clear h hl hl' hc hd
    go_enter Tryz.func35, Tryz.ntmps35
    go_wp2_with fail
    go_ret
    refine ⟨?_, Below.refl _ _⟩
    rw [decide_eq_false (show ¬ x = y from fun h => HN.out (by rw [h]))]
    rfl

set_option maxHeartbeats 2000000 in
theorem sameI_eq (x y : List Int) (n : Nat) (hx : x.length = n) (hy : y.length = n) (a b : Option Addr) (c d : Nat) (w : World) (hn : n ≤ maxLen)
    (hc : ∀ j, (hj : j < x.length) → ∃ g o, a = some ⟨g, o, none⟩ ∧ w.cell? ⟨g, o + j, none⟩ = some (.int .i64 x[j])) (hd : ∀ j, (hj : j < y.length) → ∃ g o, b = some ⟨g, o, none⟩ ∧ w.cell? ⟨g, o + j, none⟩ = some (.int .i64 y[j])) :
    Calls Tryz.prog 16 #[.slice a n c, .slice b n d] w fun e w' => e = .returned (.bool (decide (x = y))) ∧ Below w.heap.size w w' := by
  have HC := Lib.hid hc
  have HD := Lib.hid hd
  have HX := Lib.hid hx
  have HY := Lib.hid hy
  unfold maxLen at hn
  clear hc hd hx hy
  have q2 : ((n : Int) != (n : Int)) = false := by simp
  go_enter Tryz.func16, Tryz.ntmps16
  go_wp2_with fail
  go_loopw [5] (fun i wr => ∃ (k : Nat), k ≤ n ∧ i = .int .i64 k ∧ Hid (x.take k = y.take k) ∧ Hid (Below w.heap.size w wr)) (fun i _ => n - (intOf i).toNat)
  case atStart => exact ⟨0, by omega, rfl, Lib.hid (by simp), Lib.hid (Below.refl _ _)⟩
  case round =>
    obtain ⟨k, hk, rfl, HT, HB⟩ := hrel
    by_cases hlt : k < n
    · have q1 : (k : Int) < (n : Int) := by omega
      have q0 : (0 : Int) ≤ (k : Int) := by omega
      have kx : k < x.length := by have := HX.out; omega
      have ky : k < y.length := by have := HY.out; omega
      obtain ⟨g, o, rfl, k0⟩ := HC.out k kx
      obtain ⟨g', o', rfl, k1⟩ := HD.out k ky
      have k0 := (HB.out.cell (World.block_lt_of_cell? w _ k0)).trans k0
      have k1 := (HB.out.cell (World.block_lt_of_cell? w _ k1)).trans k1
      obtain ⟨p, hp⟩ : ∃ p, x[k]'kx = p := ⟨_, rfl⟩
      obtain ⟨r, hr⟩ : ∃ r, y[k]'ky = r := ⟨_, rfl⟩
      rw [hp] at k0
      rw [hr] at k1
      have HP := Lib.hid hp
      have HR := Lib.hid hr
      clear hp hr
      have QK := Lib.hid (show k + 1 ≤ n ∧ n - (k + 1) < n - k by omega)
      by_cases he : p = r
      · have HE := Lib.hid he
        clear he
        have q3 : ((p : Int) != (r : Int)) = false := by simp [HE.out]
        go_upto_region 6 with fail
        go_quiet (fail)
        have q5 : IntKind.i64.wrap ((k : Int) + 1) = (k : Int) + 1 := IntWalk.i64_in _ (by omega)
        go_wp2_with fail
        go_roundw
        case rel => exact ⟨k + 1, QK.out.1, by go_num, Lib.hid (by rw [List.take_succ_eq_append_getElem kx, List.take_succ_eq_append_getElem ky, HT.out, HP.out, HR.out, HE.out]), Lib.hid (HB.out.trans ((drewN_below _).mono HB.out.size))⟩
        case measure => clear q5; have := QK.out.2; simp [intOf]; omega
      · have HE := Lib.hid he
        have q3 : ((p : Int) != (r : Int)) = true := by rw [bne_iff_ne]; omega
        clear he
        go_upto_region 6 with fail
        go_quiet (fail)
        go_wp2_with fail
        go_ret
        refine ⟨?_, HB.out.trans ((drewN_below _).mono HB.out.size)⟩
        rw [decide_eq_false (show ¬ x = y from fun h => by subst h; exact HE.out (HP.out.symm.trans HR.out))]
        rfl
    · obtain rfl : k = n := by omega
      have q1 : ¬ (k : Int) < (k : Int) := by omega
      go_wp2_with fail
      go_ret
      refine ⟨?_, HB.out⟩
      have h := HT.out
      rw [List.take_of_length_le (by have := HX.out; omega), List.take_of_length_le (by have := HY.out; omega)] at h
      rw [decide_eq_true h]
      rfl

set_option maxHeartbeats 2000000 in
theorem sameI_any (x y : List Int) (xv yv : Value) (w : World) (hx : Is w xv x) (hy : Is w yv y) : Calls Tryz.prog 16 #[xv, yv] w fun e w' => e = .returned (.bool (decide (x = y))) ∧ Below w.heap.size w w' := by
  obtain ⟨hl, -, a, c, rfl, -, -, hc⟩ := hx
  obtain ⟨hl', -, b, d, rfl, -, -, hd⟩ := hy
  by_cases h : y.length = x.length
  · rw [h]
    exact sameI_eq x y x.length rfl h a b c d w hl hc hd
  · have HN := Lib.hid h
    have q2 : ((x.length : Int) != (y.length : Int)) = true := by simp [bne_iff_ne]; omega
    clear h hl hl' hc hd
    go_enter Tryz.func16, Tryz.ntmps16
    go_wp2_with fail
    go_ret
    refine ⟨?_, Below.refl _ _⟩
    rw [decide_eq_false (show ¬ x = y from fun h => HN.out (by rw [h]))]
    rfl

set_option maxHeartbeats 4000000 in
theorem sameF_any (f g : Frg) (a b a' b' : Value) (w : World) (hf : FrAt w a b f) (hg : FrAt w a' b' g) : Calls Tryz.prog 34 #[.agg #[a, b], .agg #[a', b']] w fun e w' => e = .returned (.bool (decide (f = g))) ∧ Below w.heap.size w w' := by
  obtain ⟨h1, rfl, wa, wc, rfl, hw⟩ := hf
  obtain ⟨h1', rfl, wa', wc', rfl, hw'⟩ := hg
  obtain ⟨x, l⟩ := f
  obtain ⟨y, m⟩ := g
  simp only at hw hw' h1 h1' ⊢
  have HW := Lib.hid hw
  have HW' := Lib.hid hw'
  have T := two_at' w (.cells #[.int .i64 x, .slice wa l.length wc] 24) (.cells #[.int .i64 y, .slice wa' m.length wc'] 24)
  clear hw hw'
  by_cases he : x = y
  · subst he
    have q : (x == x) = true := by simp
    go_enter Tryz.func34, Tryz.ntmps34
    go_upto_region 1 with fail
    generalize (w.alloc (.cells #[.int .i64 x, .slice wa l.length wc] 24)).alloc (.cells #[.int .i64 x, .slice wa' m.length wc'] 24) = W at *
    have A0 := Lib.hid T.1
    have A1 := Lib.hid T.2.1
    have AB := Lib.hid T.2.2
    clear T
    have c0 := cell_of A0.out 0
    have c1 := cell_of A0.out 1
    have d0 := cell_of A1.out 0
    have d1 := cell_of A1.out 1
    simp at c0 c1 d0 d1
    go_wp2_with fail
    refine (sameW_any l m _ _ W (HW.out.below AB.out) (HW'.out.below AB.out)).mono ?_
    rintro e w2 ⟨rfl, hb⟩
    have HB := Lib.hid (AB.out.trans (hb.mono AB.out.size))
    clear hb c0 c1 d0 d1
    obtain ⟨u, hu⟩ : ∃ u, decide (l = m) = u := ⟨_, rfl⟩
    rw [hu]
    have HU := Lib.hid (show decide ((x, l) = (x, m)) = u by rw [← hu]; simp)
    clear hu
    cases u
    all_goals go_wp2_with fail
    all_goals go_ret
    all_goals exact ⟨by rw [HU.out]; rfl, HB.out⟩
  · have HE := Lib.hid he
    have q : (x == y) = false := by simpa using he
    clear he
    go_enter Tryz.func34, Tryz.ntmps34
    go_upto_region 1 with fail
    generalize (w.alloc (.cells #[.int .i64 x, .slice wa l.length wc] 24)).alloc (.cells #[.int .i64 y, .slice wa' m.length wc'] 24) = W at *
    have A0 := Lib.hid T.1
    have A1 := Lib.hid T.2.1
    have AB := Lib.hid T.2.2
    clear T
    have c0 := cell_of A0.out 0
    have c1 := cell_of A0.out 1
    have d0 := cell_of A1.out 0
    have d1 := cell_of A1.out 1
    simp at c0 c1 d0 d1
    go_wp2_with fail
    go_ret
    refine ⟨?_, AB.out⟩
    rw [decide_eq_false (show ¬ ((x, l) : Frg) = (y, m) from fun h => by simp only [Prod.mk.injEq] at h; exact HE.out h.1)]
    rfl

end Go.Proofs.YtlmpmjhanpkcnaaGreat

namespace Go.Proofs.YtlmpmjhanpkcnaaGreat
open Go.RowKit Go.Maps

/-- Where a spot went. -/
def wentAt : List (Spt × Nat) → Spt → Option Nat
  | [], _ => none
  | (t, y) :: r, s => if t = s then some y else wentAt r s

theorem wentAt_snoc (L : List (Spt × Nat)) (t : Spt) (y : Nat) (s : Spt) : wentAt (L ++ [(t, y)]) s = match wentAt L s with | some z => some z | none => if t = s then some y else none := by
  induction L with
  | nil => simp [wentAt]
  | cons a r ih =>
    obtain ⟨u, z⟩ := a
    simp only [List.cons_append, wentAt]
    split
    · rfl
    · exact ih

theorem wentAt_mem {L : List (Spt × Nat)} {s : Spt} {y : Nat} (h : wentAt L s = some y) : (s, y) ∈ L := by
  induction L with
  | nil => cases h
  | cons a r ih =>
    obtain ⟨u, z⟩ := a
    simp only [wentAt] at h
    split at h
    · rename_i e; cases h; subst e; exact List.mem_cons_self
    · exact List.mem_cons_of_mem _ (ih h)

def SptOk (s : Spt) : Prop := In64 s.1 ∧ In64 s.2

theorem K63 : Keyed Tryz.prog 63 := K68

/-- A map from spots to words. -/
def MapAt (w : World) (b : Nat) (L : List (Spt × Nat)) : Prop :=
  (∀ p ∈ L, p.2 < 18446744073709551616) ∧ ∃ (D : DataW Unit) (n : Nat), w.ownsMap Tryz.prog 63 (plainElem Tryz.prog 47) b n D ∧ n ≤ L.length ∧ IsMap D ∧ ∀ s, SptOk s → D.atKey (spotLit s) (.lit (.int .u64 0)) = .lit (.int .u64 ((wentAt L s).getD 0)) ∧ has D (spotLit s) = (wentAt L s).isSome

theorem MapAt.made (w : World) : MapAt (w.alloc (.map #[] 0)) w.heap.size [] :=
  ⟨(fun p hp => by cases hp), .map [], 0, World.ownsMap_made w _ _ _, Nat.le_refl _, ⟨_, rfl⟩, fun s _ => ⟨by simp [DataW.atKey, wentAt], rfl⟩⟩

theorem MapAt.lt {w : World} {b : Nat} {L : List (Spt × Nat)} (h : MapAt w b L) : b < w.heap.size := by
  obtain ⟨_, D, n, h1, _⟩ := h; exact h1.lt

theorem MapAt.block {w w' : World} {b : Nat} {L : List (Spt × Nat)} (h : MapAt w b L) (hb : w'.heap[b]? = w.heap[b]?) : MapAt w' b L := by
  obtain ⟨h0, D, n, ⟨es, cl, h1, h3⟩, h2⟩ := h
  exact ⟨h0, D, n, ⟨es, cl, hb.trans h1, h3⟩, h2⟩

theorem zero47 (w : World) : (zeroValue 47).run Tryz.prog w = .ok (.int .u64 0) w := by kernel_rfl

theorem wf_u64 {x : Nat} (h : x < 18446744073709551616) : (Lit.int .u64 (x : Int)).wf = true := WalkArith.wf_u64 ⟨by omega, by omega⟩

theorem MapAt.look {w : World} {b : Nat} {L : List (Spt × Nat)} (h : MapAt w b L) {s : Spt} (hs : SptOk s) :
    (Instr.lookup 61 (.map (some b)) (spotV s) true).run Tryz.prog w = .ok (.tuple #[.int .u64 ((wentAt L s).getD 0 : Nat), .bool (wentAt L s).isSome]) w := by
  obtain ⟨_, D, n, h1, h2, h3, h4⟩ := h
  obtain ⟨v, ps, hrun, hv⟩ := h1.look_ok K63 Tryz.underlying61 (zero47 w) (plainElem_int Tryz.underlying47 (by decide)) (spotFam.key s hs)
  obtain ⟨c, rfl, hc, _⟩ := plainElem_int_inv Tryz.underlying47 hv
  have h5 := h4 s hs
  have e := congrArg Prod.fst hc
  simp only at e
  rw [show spotFam.lit s = spotLit s from rfl, h5.1] at e
  rw [show spotFam.lit s = spotLit s from rfl, h5.2] at hrun
  simp only [DataW.lit.injEq, Lit.int.injEq, true_and] at e
  subst e
  exact hrun

theorem MapAt.look1 {w : World} {b : Nat} {L : List (Spt × Nat)} (h : MapAt w b L) {s : Spt} (hs : SptOk s) :
    (Instr.lookup 61 (.map (some b)) (spotV s) false).run Tryz.prog w = .ok (.int .u64 ((wentAt L s).getD 0 : Nat)) w := by
  obtain ⟨_, D, n, h1, h2, h3, h4⟩ := h
  obtain ⟨v, ps, hrun, hv⟩ := h1.lookup K63 Tryz.underlying61 (zero47 w) (plainElem_int Tryz.underlying47 (by decide)) (spotFam.key s hs)
  obtain ⟨c, rfl, hc, _⟩ := plainElem_int_inv Tryz.underlying47 hv
  have h5 := h4 s hs
  have e := congrArg Prod.fst hc
  simp only at e
  rw [show spotFam.lit s = spotLit s from rfl, h5.1] at e
  simp only [DataW.lit.injEq, Lit.int.injEq, true_and] at e
  subst e
  exact hrun

theorem MapAt.put {w : World} {b : Nat} {L : List (Spt × Nat)} (h : MapAt w b L) (hL : L.length ≤ 1000000) {s : Spt} (hs : SptOk s) {y : Nat} (hy : y < 18446744073709551616) (hnew : wentAt L s = none) :
    ∃ w', (Instr.mapUpdate 61 (.map (some b)) (spotV s) (.int .u64 y)).run Tryz.prog w = .ok () w' ∧ MapAt w' b (L ++ [(s, y)]) ∧ w.grownBy w' (some b) := by
  obtain ⟨h0, D, n, h1, h2, h3, h4⟩ := h
  obtain ⟨w', hrun, ho, hg⟩ := h1.update K63 Tryz.underlying61 (by unfold maxLen; omega) (spotFam.key s hs) (plainElem_int Tryz.underlying47 (wf_u64 hy))
  refine ⟨w', hrun, ⟨fun p hp => ?_, _, _, ho, by simp; omega, h3.put _ _, fun z hz => ?_⟩, hg⟩
  · rcases List.mem_append.1 hp with h | h
    · exact h0 p h
    · simp at h; subst h; exact hy
  · rw [wentAt_snoc]
    by_cases e : z = s
    · subst e
      rw [hnew]
      simp only [if_pos]
      exact ⟨atKey_put_same h3 (K63.key (spotFam.key z hz)) _ _, has_put_same h3 (K63.key (spotFam.key z hz)) _⟩
    · have hne := spotFam.lit_ne K63 hz hs e
      rw [show spotFam.lit z = spotLit z from rfl, show spotFam.lit s = spotLit s from rfl] at hne
      rw [show spotFam.lit s = spotLit s from rfl, atKey_put_other hne, has_put_other hne]
      have h5 := h4 z hz
      cases hw : wentAt L z with
      | some q => rw [hw] at h5; exact h5
      | none =>
        rw [hw] at h5
        rw [if_neg (fun q => e q.symm)]
        exact h5

end Go.Proofs.YtlmpmjhanpkcnaaGreat

namespace Go.Proofs.YtlmpmjhanpkcnaaGreat
open Go.RowKit Go.Maps

/-- What a mover knows: where each object went, and what was copied. -/
structure Mv where
  went : List (Spt × Nat)
  words : List Nat

/-- A word that leads to where its object went. -/
def moveP (m : List Frg) (a : Nat) (st : Mv) (x : Nat) : Nat × Mv :=
  match toP x with
  | none => (x, st)
  | some s => match wentAt st.went s with
    | some y => (y, st)
    | none => ((a + st.words.length) * 8 + s.2.toNat, ⟨st.went ++ [(s, (a + st.words.length) * 8 + s.2.toNat)], st.words ++ ((objP m s.1 s.2).getD (0, [])).2⟩)

/-- What the closure that chooses a space does. -/
structure MvEnv (Wm W0 : World) (Y : Nat) (m : List Frg) (mv : Value) (F : Nat) (caps : Array Value) : Prop where
  rs : RsAt Wm mv m
  yl : Wm.heap.size ≤ Y
  yh : Y < W0.heap.size
  low : Below Wm.heap.size Wm W0
  enter : ∀ args w, (callFunc F args).run Tryz.prog w = .ok (.enter F args) w
  goes : ∀ (s : Spt) (W : World), SptOk s → W0.grownBy W (some Y) → Calls Tryz.prog F (#[spotV s] ++ caps) W fun e w' => e = .returned (.pointer (some ⟨Y, 0, none⟩)) ∧ Below W.heap.size W w'

/-- A mover in memory. -/
structure MvSt (W0 : World) (Y : Nat) (mv : Value) (F : Nat) (caps : Array Value) (K : List (Nat × Obj)) (a : Nat) (st : Mv) (w : World) : Prop where
  base : W0.grownBy w (some Y)
  sz : W0.heap.size + 2 ≤ w.heap.size
  rows : ∃ v q, w.heap[Y]? = some (.cells #[.int .i64 a, v] 59 (0, 0)) ∧ w.ownsRow (W0.heap.size + 2) 47 1 v st.words.length (csW st.words) ∧
    w.heap[W0.heap.size + 1]? = some (.cells #[mv, .map (some W0.heap.size), .func (.func F) #[] caps, q] 67 (0, 0)) ∧ w.ownsRow (W0.heap.size + 2) 63 2 q st.went.length (csS (st.went.map (·.1))) ∧ (∀ b, v.ownBlock = some b → q.ownBlock ≠ some b) ∧
    (∀ p ∈ K, w.heap[p.1]? = some p.2 ∧ W0.heap.size + 2 ≤ p.1 ∧ v.ownBlock ≠ some p.1 ∧ q.ownBlock ≠ some p.1)
  map : MapAt w W0.heap.size st.went

theorem own_lift {w w' : World} {base e size n : Nat} {v : Value} {xs : List Value} (h : w.ownsRow base e size v n xs) (hb : Below w.heap.size w w') : w'.ownsRow base e size v n xs := by
  refine h.kept (row := none) ⟨hb.os, hb.tape, hb.output, hb.size, fun k hk _ => hb.block k hk⟩ ?_
  cases hv : v.ownBlock
  · exact .inl rfl
  · exact .inr (by simp)

theorem MvSt.lift {W0 w w' : World} {Y F a : Nat} {mv : Value} {caps : Array Value} {K : List (Nat × Obj)} {st : Mv} (hY : Y < W0.heap.size) (h : MvSt W0 Y mv F caps K a st w) (hb : Below w.heap.size w w') : MvSt W0 Y mv F caps K a st w' := by
  obtain ⟨h1, h2, ⟨v, q, r1, r2, r3, r4, r5, r6⟩, h4⟩ := h
  exact ⟨grown_then h1 (hb.mono (by omega)), Nat.le_trans h2 hb.size, ⟨v, q, (hb.block _ (lt_of_block r1)).trans r1, own_lift r2 hb, (hb.block _ (lt_of_block r3)).trans r3, own_lift r4 hb, r5, fun p hp => ⟨(hb.block _ (lt_of_block (r6 p hp).1)).trans (r6 p hp).1, (r6 p hp).2⟩⟩, h4.block (hb.block _ h4.lt)⟩

/-- A block that was made since is kept too. -/
theorem MvSt.keep {W0 w w' : World} {Y F a : Nat} {mv : Value} {caps : Array Value} {K : List (Nat × Obj)} {st : Mv} (hY : Y < W0.heap.size) (h : MvSt W0 Y mv F caps K a st w) (hb : Below w.heap.size w w') {b : Nat} {o : Obj} (hk : w'.heap[b]? = some o) (hn : w.heap.size ≤ b) : MvSt W0 Y mv F caps ((b, o) :: K) a st w' := by
  have h' := h.lift hY hb
  obtain ⟨h1, h2, ⟨v, q, r1, r2, r3, r4, r5, r6⟩, h4⟩ := h
  obtain ⟨g1, g2, ⟨v', q', s1, s2, s3, s4, s5, s6⟩, g4⟩ := h'
  have e1 := s1.symm.trans ((hb.block _ (lt_of_block r1)).trans r1)
  have e3 := s3.symm.trans ((hb.block _ (lt_of_block r3)).trans r3)
  simp at e1 e3
  subst e1 e3
  refine ⟨g1, g2, ⟨v', q', s1, s2, s3, s4, s5, fun p hp => ?_⟩, g4⟩
  rcases List.mem_cons.1 hp with rfl | hp
  · exact ⟨hk, by simp only; omega, fun e => by have := (r2.lt _ e).2; simp only at this; omega, fun e => by have := (r4.lt _ e).2; simp only at this; omega⟩
  · exact s6 p hp

theorem MvSt.less {W0 w : World} {Y F a : Nat} {mv : Value} {caps : Array Value} {K K' : List (Nat × Obj)} {st : Mv} (h : MvSt W0 Y mv F caps K a st w) (hk : ∀ p ∈ K', p ∈ K) : MvSt W0 Y mv F caps K' a st w := by
  obtain ⟨h1, h2, ⟨v, q, r1, r2, r3, r4, r5, r6⟩, h4⟩ := h
  exact ⟨h1, h2, ⟨v, q, r1, r2, r3, r4, r5, fun p hp => r6 p (hk p hp)⟩, h4⟩

theorem MvSt.kept {W0 w : World} {Y F a : Nat} {mv : Value} {caps : Array Value} {K : List (Nat × Obj)} {st : Mv} (h : MvSt W0 Y mv F caps K a st w) {p : Nat × Obj} (hp : p ∈ K) : w.heap[p.1]? = some p.2 := by
  obtain ⟨h1, h2, ⟨v, q, r1, r2, r3, r4, r5, r6⟩, h4⟩ := h
  exact (r6 p hp).1

theorem MvEnv.mem {Wm W0 w : World} {Y F : Nat} {m : List Frg} {mv : Value} {caps : Array Value} (h : MvEnv Wm W0 Y m mv F caps) (hg : W0.grownBy w (some Y)) : RsAt w mv m :=
  h.rs.below (h.low.trans (grown_low hg h.yl h.low.size))

theorem MvEnv.below {Wm W0 w : World} {Y F : Nat} {m : List Frg} {mv : Value} {caps : Array Value} (h : MvEnv Wm W0 Y m mv F caps) (hg : W0.grownBy w (some Y)) : Below Wm.heap.size Wm w :=
  h.low.trans (grown_low hg h.yl h.low.size)

theorem moveP_none {m : List Frg} {a : Nat} {st : Mv} {x : Nat} (h : toP x = none) : moveP m a st x = (x, st) := by unfold moveP; rw [h]
theorem moveP_old {m : List Frg} {a : Nat} {st : Mv} {x y : Nat} {s : Spt} (h : toP x = some s) (hw : wentAt st.went s = some y) : moveP m a st x = (y, st) := by unfold moveP; rw [h]; simp only; rw [hw]
theorem moveP_new {m : List Frg} {a : Nat} {st : Mv} {x : Nat} {s : Spt} (h : toP x = some s) (hw : wentAt st.went s = none) {k : Int} {l : List Nat} (ho : objP m s.1 s.2 = some (k, l)) :
    moveP m a st x = ((a + st.words.length) * 8 + s.2.toNat, ⟨st.went ++ [(s, (a + st.words.length) * 8 + s.2.toNat)], st.words ++ l⟩) := by unfold moveP; rw [h]; simp only; rw [hw, ho]; rfl

theorem toP_tag' {x : Nat} {s : Spt} (h : toP x = some s) : s.2 = 4 ∨ s.2 = 5 := toP_tag h

theorem sptOk_of {x : Nat} {s : Spt} (hx : x < 18446744073709551616) (h : toP x = some s) : SptOk s := by
  have h1 := toP_in h hx
  have h2 := toP_tag h
  unfold SptOk In64
  rcases h2 with e | e <;> rw [e] <;> exact ⟨h1, by decide⟩

end Go.Proofs.YtlmpmjhanpkcnaaGreat
