/-
  Chapter 12's own look: Roots, Sound, Read.
  Chapter 12's own look: Sound and Read.
  Collect: where objects went, as a map to words; the mover in memory.
  Collect: the mover, in plain words and in memory.
-/
import Derived.Test.YtlmpmjhanpkcnaaGreatN23
set_option linter.unusedVariables false
set_option linter.unusedSimpArgs false
namespace Go.Proofs.YtlmpmjhanpkcnaaGreat
open Go.RowKit

/-- Are all roots read, by chapter 12's own look? -/
def refReads (deep : Bool) (S : List Slt) (m : List Frg) (l : List Nat) : Bool := l.all fun x => (refRead deep S m x).isSome

def refRoots (deep : Bool) (S : List Slt) (d : Dmp) : Bool := refReads deep S d.mem d.roots

theorem elevB_of {W V : World} {b : Nat} {c0 c1 c2 c3 c4 c5 c6 c7 c8 c9 : Value} {deep : Bool} {g o : Nat} {x : Int} (h : W.heap[b]? = some (.cells (lkV c0 c1 c2 c3 c4 c5 c6 c7 c8 c9 deep) 53 (0, 0))) (k : W.cell? ⟨g, o, none⟩ = some (.int .u64 x)) (hg : Below W.heap.size W V) :
    Elev V b c0 c1 c2 c3 c4 c5 c6 c7 c8 c9 deep g o x := by
  have h2 := (hg.block b (lt_of_block h)).trans h
  exact ⟨cell_of h2 0, cell_of h2 1, cell_of h2 2, cell_of h2 3, cell_of h2 4, cell_of h2 5, cell_of h2 6, cell_of h2 7, cell_of h2 8, cell_of h2 9, cell_of h2 10, (hg.cell (World.block_lt_of_cell? _ _ k)).trans k⟩

abbrev zer7 : Array Value := #[.int .i64 0, .int .i64 0, .bool false, .slice none 0 0, .int .u64 0, .string ⟨#[]⟩, .slice none 0 0]

set_option maxHeartbeats 16000000 in
set_option maxRecDepth 100000 in
theorem roots12_any (d : Dmp) (S : List Slt) (deep : Bool) (v : Value) (w : World) (h : LkAt w v d S deep) (hf : d.frags.length ≤ 100000) :
    Calls Tryz.prog 22 #[v] w fun e w' => e = .returned (.bool (refRoots deep S d)) ∧ Below w.heap.size w w' := by
  have HLK := Lib.hid h
  obtain ⟨c0, c1, c2, c3, c6, c7, c8, c9, rfl, hd, hs⟩ := h
  obtain ⟨q0, q1, q2, q3, q6, q7, q8, hq, -, -, -, -, -, hro, -⟩ := hd
  simp only [Value.agg.injEq, Array.mk.injEq, List.cons.injEq, and_true] at hq
  obtain ⟨-, -, -, -, -, -, -, rfl, -⟩ := hq
  have HRO := Lib.hid hro
  obtain ⟨hrl, hru, ra, rc, rfl, -, -, hrc⟩ := hro
  have HRC := Lib.hid hrc
  have HRU := Lib.hid hru
  clear hrc hru hs
  obtain ⟨l, hl⟩ : ∃ l, d.roots = l := ⟨_, rfl⟩
  have HL := Lib.hid (show refRoots deep S d = refReads deep S d.mem l by unfold refRoots; rw [hl])
  rw [hl] at HRC HRU hrl HLK
  rw [HL.out, hl]
  clear hl HL
  unfold maxLen at hrl
  obtain ⟨m, hm⟩ : ∃ m, d.mem = m := ⟨_, rfl⟩
  have HM := Lib.hid hm
  rw [hm]
  clear hm
  go_enter Tryz.func22, Tryz.ntmps22
  go_upto_region 1 with fail
  have T := one_at w (.cells (lkV c0 c1 c2 c3 (.int .i64 d.size) (.int .i64 d.mark) c6 (.slice ra l.length rc) c8 c9 deep) 53)
  generalize w.alloc (.cells (lkV c0 c1 c2 c3 (.int .i64 d.size) (.int .i64 d.mark) c6 (.slice ra l.length rc) c8 c9 deep) 53) = W at *
  have X0 := Lib.hid T.1
  have XS := Lib.hid T.2.1
  have XB := Lib.hid T.2.2
  clear T
  go_wp2_with fail
  go_loopw [3] (fun i wr => ∃ (j : Nat), j ≤ l.length ∧ i = .int .i64 j ∧ Hid (refReads deep S m (l.take j) = true) ∧ Hid (Below W.heap.size W wr)) (fun i _ => l.length - (intOf i).toNat)
  case atStart => exact ⟨0, by omega, rfl, Lib.hid (by simp [refReads]), Lib.hid (Below.refl _ _)⟩
  case round =>
    obtain ⟨j, hj, rfl, HA, HB⟩ := hrel
    have Y0 := Lib.hid ((HB.out.block _ (lt_of_block X0.out)).trans X0.out)
    have YB := Lib.hid (XB.out.trans (HB.out.mono XB.out.size))
    have y7 := cell_of Y0.out 7
    simp at y7
    by_cases hlt : j < l.length
    · obtain ⟨g, o, rfl, kw⟩ := HRC.out j hlt
      have hx := HRU.out _ (List.getElem_mem hlt)
      have HTK := Lib.hid (List.take_succ_eq_append_getElem hlt)
      have HMEM := Lib.hid (List.getElem_mem hlt)
      obtain ⟨x, hxx⟩ : ∃ x, l[j]'hlt = x := ⟨_, rfl⟩
      rw [hxx] at kw hx HTK HMEM
      have kw1 := (YB.out.cell (World.block_lt_of_cell? _ _ kw)).trans kw
      have p1 : (j : Int) < (l.length : Int) := by omega
      have p2 : (0 : Int) ≤ (j : Int) := by omega
      have p5 : IntKind.i64.wrap ((j : Int) + 1) = (j : Int) + 1 := IntWalk.i64_in _ (by omega)
      obtain ⟨r, hr⟩ : ∃ r, refRead deep S m x = r := ⟨_, rfl⟩
      have HR := Lib.hid hr
      have HC := Lib.hid (show ∀ V, Below w.heap.size w V → Calls Tryz.prog 51 #[.agg (lkV c0 c1 c2 c3 (.int .i64 d.size) (.int .i64 d.mark) c6 (.slice (some ⟨g, o, none⟩) l.length rc) c8 c9 deep), .int .u64 x] V fun e w' => ReadEnd V w' r e from
        fun V hV => by have := lookRead12_any d S deep _ x V (HLK.out.below hV) hf hx; rwa [HM.out, hr] at this)
      have H1 := Lib.hid (HC.out wr.drew YB.out.drew)
      have H2 := Lib.hid (HC.out (wr.alloc (.cells zer7 81)).drew (YB.out.alloc YB.out.size _).drew)
      have KB := Lib.hid (fun (V : World) (hV : Below wr.heap.size wr V) => elevB_of Y0.out kw1 hV)
      have E0 := KB.out _ (Below.refl _ _)
      have KA0 := Lib.hid (fun o => KB.out (wr.alloc o).drew (((Below.refl wr.heap.size wr).alloc (Nat.le_refl _) o).drew))
      have hwr := lt_of_block Y0.out
      clear kw hxx hr y7
      go_wp2_with fail
      go_cut [5] from 4 to 24 (fun ok wx => ok = .bool r.isSome ∧ Hid (Below wr.heap.size wr wx))
      case first =>
        go_region_held3 (fun w' => Elev w' w.heap.size c0 c1 c2 c3 (.int .i64 d.size) (.int .i64 d.mark) c6 (.slice (some ⟨g, o, none⟩) l.length rc) c8 c9 deep g (o + j) x) (first | with_reducible exact KS.out _ _ _ _ _ _ _ | with_reducible exact KA.out _ | with_reducible exact K9.out | with_reducible exact E0 | with_reducible exact KA0.out _ | with_reducible exact KB.out _ ((Below.refl wr.heap.size wr).drew) | go_keep) (first
          | (go_at_call 51; (with_reducible refine H2.out.mono ?_); rintro e w6 ⟨tv, t, rfl, ht, hp, hb6⟩
             obtain ⟨tk, tn, tneg, tma, tml, tmc, tbits, tbytes, ta, tlen, tcap, rfl⟩ := ht.shape
             have hb7 : Below wr.heap.size wr w6 := ((Below.refl wr.heap.size wr).alloc (Nat.le_refl _) _).drew.trans (hb6.mono (by simp))
             have K9 := Lib.hid (KB.out w6 hb7)
             have F9 := Lib.hid hb7
             have KS := Lib.hid (fun d0 d1 d2 d3 d4 d5 d6 => KB.out (set7 w6 wr.heap.size d0 d1 d2 d3 d4 d5 d6) (set7_below hb7 (Nat.le_refl _) d0 d1 d2 d3 d4 d5 d6))
             have FS := Lib.hid (fun d0 d1 d2 d3 d4 d5 d6 => set7_below hb7 (Nat.le_refl wr.heap.size) d0 d1 d2 d3 d4 d5 d6)
             have HH := Lib.hid (show w6.heap[wr.heap.size]? = some (.cells zer7 81 (0, 0)) from (hb6.block wr.heap.size (by simp)).trans (World.alloc_heap_new wr _))
             have y0 := cell_of HH.out 0
             have y1 := cell_of HH.out 1
             have y2 := cell_of HH.out 2
             have y3 := cell_of HH.out 3
             have y4 := cell_of HH.out 4
             have y5 := cell_of HH.out 5
             have y6 := cell_of HH.out 6
             have z0 := free_of HH.out 0
             have z1 := free_of HH.out 1
             have z2 := free_of HH.out 2
             have z3 := free_of HH.out 3
             have z4 := free_of HH.out 4
             have z5 := free_of HH.out 5
             have z6 := free_of HH.out 6
             simp at y0 y1 y2 y3 y4 y5 y6
             clear ht hb6 hp hb7)
          | (go_at_call 51; (with_reducible refine H1.out.mono ?_); rintro e w6 ⟨tv, t, rfl, ht, hp, hb6⟩
             obtain ⟨tk, tn, tneg, tma, tml, tmc, tbits, tbytes, ta, tlen, tcap, rfl⟩ := ht.shape
             have hb7 : Below wr.heap.size wr w6 := (Below.refl wr.heap.size wr).drew.trans hb6
             have K9 := Lib.hid (KB.out w6 hb7)
             have F9 := Lib.hid hb7
             have FA := Lib.hid (fun o => hb7.alloc hb7.size o)
             have KA := Lib.hid (fun o => KB.out (w6.alloc o) (hb7.alloc hb7.size o))
             clear ht hb6 hp hb7))
        all_goals go_wp2_with fail
        all_goals go_meet
        all_goals first
          | exact ⟨rfl, Lib.hid (FS.out _ _ _ _ _ _ _)⟩
          | exact ⟨rfl, Lib.hid (FA.out _)⟩
      case rest =>
        obtain ⟨rfl, HBX⟩ := hcut
        have HB2 := Lib.hid (HB.out.trans (HBX.out.mono HB.out.size))
        clear E0 KA0 KB H1 H2 kw1
        cases r with
        | none =>
          have HF := Lib.hid (show refReads deep S m l = false from all_false HMEM.out (by rw [HR.out]; rfl))
          simp only [Option.isSome_none]
          go_wp2_with fail
          go_ret
          exact ⟨by rw [HF.out]; rfl, XB.out.trans (HB2.out.mono XB.out.size)⟩
        | some t =>
          have HA2 := Lib.hid (show refReads deep S m (l.take (j + 1)) = true by
            have h := HA.out
            unfold refReads at h ⊢
            rw [HTK.out, List.all_append, h]; simp [HR.out])
          simp only [Option.isSome_some]
          go_wp2_with fail
          go_roundw
          case rel => exact ⟨j + 1, by omega, by go_num, HA2, HB2⟩
          case measure => simp [intOf]; omega
    · obtain rfl : j = l.length := by omega
      have p1 : ¬ ((l.length : Nat) : Int) < (l.length : Int) := by omega
      have HF := Lib.hid (show refReads deep S m l = true by have h := HA.out; rwa [List.take_length] at h)
      go_wp2_with fail
      go_ret
      exact ⟨by rw [HF.out]; rfl, YB.out⟩

end Go.Proofs.YtlmpmjhanpkcnaaGreat

namespace Go.Proofs.YtlmpmjhanpkcnaaGreat
open Go.RowKit

theorem slAt_nil (w : World) : SlAt w (.slice none 0 0) [] := ⟨by simp, none, 0, rfl, fun j hj => by simp at hj⟩

set_option maxHeartbeats 4000000 in
set_option maxRecDepth 100000 in
theorem refRead_any (d : Dmp) (dv sv : Value) (S : List Slt) (x : Nat) (w : World) (hd : DmAt w dv d) (hS : SlAt w sv S) (hf : d.frags.length ≤ 100000) (hx : x < 18446744073709551616) :
    Calls Tryz.prog 36 #[dv, sv, .int .u64 x] w fun e w' => ReadEnd w w' (refRead true S d.mem x) e := by
  have HD := Lib.hid hd
  have HS := Lib.hid hS
  obtain ⟨c0, c1, c2, c3, c6, c7, c8, rfl, -⟩ := hd
  obtain ⟨-, sa, sc, rfl, -⟩ := hS
  obtain ⟨r, hr⟩ : ∃ r, refRead true S d.mem x = r := ⟨_, rfl⟩
  have HR := Lib.hid hr
  rw [hr]
  clear hr
  go_enter Tryz.func36, Tryz.ntmps36
  go_wp2_with fail
  have T := two_at w (.cells #[c0, c1, c2, c3, .int .i64 d.size, .int .i64 d.mark, c6, c7, c8] 28) (.cells zer7 81)
  generalize (w.alloc (.cells #[c0, c1, c2, c3, .int .i64 d.size, .int .i64 d.mark, c6, c7, c8] 28)).alloc (.cells zer7 81) = W at *
  have X1 := Lib.hid T.2.1
  have XS := Lib.hid T.2.2.1
  have XB := Lib.hid T.2.2.2
  clear T
  refine (lookRead12_any d S true _ x W ⟨c0, c1, c2, c3, c6, c7, c8, _, rfl, HD.out.below XB.out, HS.out.below XB.out⟩ hf hx).mono ?_
  rw [HR.out]
  rintro e w2 ⟨tv, t, rfl, ht, hp, hb2⟩
  obtain ⟨tk, tn, tneg, tma, tml, tmc, tbits, tbytes, ta, tlen, tcap, rfl⟩ := ht.shape
  have U1 := Lib.hid ((hb2.block _ (by have := XS.out; omega)).trans X1.out)
  have UB := Lib.hid (XB.out.trans (hb2.mono XB.out.size))
  have UT := Lib.hid (ht.mono (Q := fun b => w.heap.size + 1 < b) (fun b hb _ => by have := XS.out; omega))
  have HP := Lib.hid hp
  have y0 := cell_of U1.out 0
  have y1 := cell_of U1.out 1
  have y2 := cell_of U1.out 2
  have y3 := cell_of U1.out 3
  have y4 := cell_of U1.out 4
  have y5 := cell_of U1.out 5
  have y6 := cell_of U1.out 6
  have z0 := free_of U1.out 0
  have z1 := free_of U1.out 1
  have z2 := free_of U1.out 2
  have z3 := free_of U1.out 3
  have z4 := free_of U1.out 4
  have z5 := free_of U1.out 5
  have z6 := free_of U1.out 6
  simp at y0 y1 y2 y3 y4 y5 y6
  clear ht hb2 hp
  go_wp2_with fail
  refine bodyPost_ret (v := .tuple #[.agg #[.int .i64 tk, .int .i64 tn, .bool tneg, .slice tma tml tmc, .int .u64 tbits, .string tbytes, .slice ta tlen tcap], .bool r.isSome]) (by simp [results, Tryz.results36, go_sem, y0, y1, y2, y3, y4, y5, y6]) rfl ?_
  exact read_at (b := w.heap.size + 1) (r := r) (by omega) UT.out UB.out HP.out

end Go.Proofs.YtlmpmjhanpkcnaaGreat

namespace Go.Proofs.YtlmpmjhanpkcnaaGreat
open Go.RowKit Go.Maps

/-- Where a spot went. -/
def wentAt : List (Spt × Nat) → Spt → Option Nat
  | [], _ => none
  | (t, y) :: r, s => if t = s then some y else wentAt r s

theorem wentAt_snoc (L : List (Spt × Nat)) (t : Spt) (y : Nat) (s : Spt) : wentAt (L ++ [(t, y)]) s = match wentAt L s with | some z => some z | none => if t = s then some y else none := by
  induction L with
  | nil => simp [wentAt]
  | cons a r ih =>
    obtain ⟨u, z⟩ := a
    simp only [List.cons_append, wentAt]
    split
    · rfl
    · exact ih

theorem wentAt_mem {L : List (Spt × Nat)} {s : Spt} {y : Nat} (h : wentAt L s = some y) : (s, y) ∈ L := by
  induction L with
  | nil => cases h
  | cons a r ih =>
    obtain ⟨u, z⟩ := a
    simp only [wentAt] at h
    split at h
    · rename_i e; cases h; subst e; exact List.mem_cons_self
    · exact List.mem_cons_of_mem _ (ih h)

def SptOk (s : Spt) : Prop := In64 s.1 ∧ In64 s.2

theorem K63 : Keyed Tryz.prog 63 := K68

/-- A map from spots to words. -/
def MapAt (w : World) (b : Nat) (L : List (Spt × Nat)) : Prop :=
  (∀ p ∈ L, p.2 < 18446744073709551616) ∧ ∃ (D : DataW Unit) (n : Nat), w.ownsMap Tryz.prog 63 (plainElem Tryz.prog 47) b n D ∧ n ≤ L.length ∧ IsMap D ∧ ∀ s, SptOk s → D.atKey (spotLit s) (.lit (.int .u64 0)) = .lit (.int .u64 ((wentAt L s).getD 0)) ∧ has D (spotLit s) = (wentAt L s).isSome

theorem MapAt.made (w : World) : MapAt (w.alloc (.map #[] 0)) w.heap.size [] :=
  ⟨(fun p hp => by cases hp), .map [], 0, World.ownsMap_made w _ _ _, Nat.le_refl _, ⟨_, rfl⟩, fun s _ => ⟨by simp [DataW.atKey, wentAt], rfl⟩⟩

theorem MapAt.lt {w : World} {b : Nat} {L : List (Spt × Nat)} (h : MapAt w b L) : b < w.heap.size := by
  obtain ⟨_, D, n, h1, _⟩ := h; exact h1.lt

theorem MapAt.block {w w' : World} {b : Nat} {L : List (Spt × Nat)} (h : MapAt w b L) (hb : w'.heap[b]? = w.heap[b]?) : MapAt w' b L := by
  obtain ⟨h0, D, n, ⟨es, cl, h1, h3⟩, h2⟩ := h
  exact ⟨h0, D, n, ⟨es, cl, hb.trans h1, h3⟩, h2⟩

theorem zero47 (w : World) : (zeroValue 47).run Tryz.prog w = .ok (.int .u64 0) w := by kernel_rfl

theorem wf_u64 {x : Nat} (h : x < 18446744073709551616) : (Lit.int .u64 (x : Int)).wf = true := WalkArith.wf_u64 ⟨by omega, by omega⟩

theorem MapAt.look {w : World} {b : Nat} {L : List (Spt × Nat)} (h : MapAt w b L) {s : Spt} (hs : SptOk s) :
    (Instr.lookup 61 (.map (some b)) (spotV s) true).run Tryz.prog w = .ok (.tuple #[.int .u64 ((wentAt L s).getD 0 : Nat), .bool (wentAt L s).isSome]) w := by
  obtain ⟨_, D, n, h1, h2, h3, h4⟩ := h
  obtain ⟨v, ps, hrun, hv⟩ := h1.look_ok K63 Tryz.underlying61 (zero47 w) (plainElem_int Tryz.underlying47 (by decide)) (spotFam.key s hs)
  obtain ⟨c, rfl, hc, _⟩ := plainElem_int_inv Tryz.underlying47 hv
  have h5 := h4 s hs
  have e := congrArg Prod.fst hc
  simp only at e
  rw [show spotFam.lit s = spotLit s from rfl, h5.1] at e
  rw [show spotFam.lit s = spotLit s from rfl, h5.2] at hrun
  simp only [DataW.lit.injEq, Lit.int.injEq, true_and] at e
  subst e
  exact hrun

theorem MapAt.look1 {w : World} {b : Nat} {L : List (Spt × Nat)} (h : MapAt w b L) {s : Spt} (hs : SptOk s) :
    (Instr.lookup 61 (.map (some b)) (spotV s) false).run Tryz.prog w = .ok (.int .u64 ((wentAt L s).getD 0 : Nat)) w := by
  obtain ⟨_, D, n, h1, h2, h3, h4⟩ := h
  obtain ⟨v, ps, hrun, hv⟩ := h1.lookup K63 Tryz.underlying61 (zero47 w) (plainElem_int Tryz.underlying47 (by decide)) (spotFam.key s hs)
  obtain ⟨c, rfl, hc, _⟩ := plainElem_int_inv Tryz.underlying47 hv
  have h5 := h4 s hs
  have e := congrArg Prod.fst hc
  simp only at e
  rw [show spotFam.lit s = spotLit s from rfl, h5.1] at e
  simp only [DataW.lit.injEq, Lit.int.injEq, true_and] at e
  subst e
  exact hrun

theorem MapAt.put {w : World} {b : Nat} {L : List (Spt × Nat)} (h : MapAt w b L) (hL : L.length ≤ 1000000) {s : Spt} (hs : SptOk s) {y : Nat} (hy : y < 18446744073709551616) (hnew : wentAt L s = none) :
    ∃ w', (Instr.mapUpdate 61 (.map (some b)) (spotV s) (.int .u64 y)).run Tryz.prog w = .ok () w' ∧ MapAt w' b (L ++ [(s, y)]) ∧ w.grownBy w' (some b) := by
  obtain ⟨h0, D, n, h1, h2, h3, h4⟩ := h
  obtain ⟨w', hrun, ho, hg⟩ := h1.update K63 Tryz.underlying61 (by unfold maxLen; omega) (spotFam.key s hs) (plainElem_int Tryz.underlying47 (wf_u64 hy))
  refine ⟨w', hrun, ⟨fun p hp => ?_, _, _, ho, by simp; omega, h3.put _ _, fun z hz => ?_⟩, hg⟩
  · rcases List.mem_append.1 hp with h | h
    · exact h0 p h
    · simp at h; subst h; exact hy
  · rw [wentAt_snoc]
    by_cases e : z = s
    · subst e
      rw [hnew]
      simp only [if_pos]
      exact ⟨atKey_put_same h3 (K63.key (spotFam.key z hz)) _ _, has_put_same h3 (K63.key (spotFam.key z hz)) _⟩
    · have hne := spotFam.lit_ne K63 hz hs e
      rw [show spotFam.lit z = spotLit z from rfl, show spotFam.lit s = spotLit s from rfl] at hne
      rw [show spotFam.lit s = spotLit s from rfl, atKey_put_other hne, has_put_other hne]
      have h5 := h4 z hz
      cases hw : wentAt L z with
      | some q => rw [hw] at h5; exact h5
      | none =>
        rw [hw] at h5
        rw [if_neg (fun q => e q.symm)]
        exact h5

end Go.Proofs.YtlmpmjhanpkcnaaGreat

namespace Go.Proofs.YtlmpmjhanpkcnaaGreat
open Go.RowKit Go.Maps

/-- What a mover knows: where each object went, and what was copied. -/
structure Mv where
  went : List (Spt × Nat)
  words : List Nat

/-- A word that leads to where its object went. -/
def moveP (m : List Frg) (a : Nat) (st : Mv) (x : Nat) : Nat × Mv :=
  match toP x with
  | none => (x, st)
  | some s => match wentAt st.went s with
    | some y => (y, st)
    | none => ((a + st.words.length) * 8 + s.2.toNat, ⟨st.went ++ [(s, (a + st.words.length) * 8 + s.2.toNat)], st.words ++ ((objP m s.1 s.2).getD (0, [])).2⟩)

/-- What the closure that chooses a space does. -/
structure MvEnv (Wm W0 : World) (Y : Nat) (m : List Frg) (mv : Value) (F : Nat) (caps : Array Value) : Prop where
  rs : RsAt Wm mv m
  yl : Wm.heap.size ≤ Y
  yh : Y < W0.heap.size
  low : Below Wm.heap.size Wm W0
  enter : ∀ args w, (callFunc F args).run Tryz.prog w = .ok (.enter F args) w
  goes : ∀ (s : Spt) (W : World), SptOk s → W0.grownBy W (some Y) → Calls Tryz.prog F (#[spotV s] ++ caps) W fun e w' => e = .returned (.pointer (some ⟨Y, 0, none⟩)) ∧ Below W.heap.size W w'

/-- A mover in memory. -/
structure MvSt (W0 : World) (Y : Nat) (mv : Value) (F : Nat) (caps : Array Value) (K : List (Nat × Obj)) (a : Nat) (st : Mv) (w : World) : Prop where
  base : W0.grownBy w (some Y)
  sz : W0.heap.size + 2 ≤ w.heap.size
  rows : ∃ v q, w.heap[Y]? = some (.cells #[.int .i64 a, v] 59 (0, 0)) ∧ w.ownsRow (W0.heap.size + 2) 47 1 v st.words.length (csW st.words) ∧
    w.heap[W0.heap.size + 1]? = some (.cells #[mv, .map (some W0.heap.size), .func (.func F) #[] caps, q] 67 (0, 0)) ∧ w.ownsRow (W0.heap.size + 2) 63 2 q st.went.length (csS (st.went.map (·.1))) ∧ (∀ b, v.ownBlock = some b → q.ownBlock ≠ some b) ∧
    (∀ p ∈ K, w.heap[p.1]? = some p.2 ∧ W0.heap.size + 2 ≤ p.1 ∧ v.ownBlock ≠ some p.1 ∧ q.ownBlock ≠ some p.1)
  map : MapAt w W0.heap.size st.went

theorem own_lift {w w' : World} {base e size n : Nat} {v : Value} {xs : List Value} (h : w.ownsRow base e size v n xs) (hb : Below w.heap.size w w') : w'.ownsRow base e size v n xs := by
  refine h.kept (row := none) ⟨hb.os, hb.tape, hb.output, hb.size, fun k hk _ => hb.block k hk⟩ ?_
  cases hv : v.ownBlock
  · exact .inl rfl
  · exact .inr (by simp)

theorem MvSt.lift {W0 w w' : World} {Y F a : Nat} {mv : Value} {caps : Array Value} {K : List (Nat × Obj)} {st : Mv} (hY : Y < W0.heap.size) (h : MvSt W0 Y mv F caps K a st w) (hb : Below w.heap.size w w') : MvSt W0 Y mv F caps K a st w' := by
  obtain ⟨h1, h2, ⟨v, q, r1, r2, r3, r4, r5, r6⟩, h4⟩ := h
  exact ⟨grown_then h1 (hb.mono (by omega)), Nat.le_trans h2 hb.size, ⟨v, q, (hb.block _ (lt_of_block r1)).trans r1, own_lift r2 hb, (hb.block _ (lt_of_block r3)).trans r3, own_lift r4 hb, r5, fun p hp => ⟨(hb.block _ (lt_of_block (r6 p hp).1)).trans (r6 p hp).1, (r6 p hp).2⟩⟩, h4.block (hb.block _ h4.lt)⟩

/-- A block that was made since is kept too. -/
theorem MvSt.keep {W0 w w' : World} {Y F a : Nat} {mv : Value} {caps : Array Value} {K : List (Nat × Obj)} {st : Mv} (hY : Y < W0.heap.size) (h : MvSt W0 Y mv F caps K a st w) (hb : Below w.heap.size w w') {b : Nat} {o : Obj} (hk : w'.heap[b]? = some o) (hn : w.heap.size ≤ b) : MvSt W0 Y mv F caps ((b, o) :: K) a st w' := by
  have h' := h.lift hY hb
  obtain ⟨h1, h2, ⟨v, q, r1, r2, r3, r4, r5, r6⟩, h4⟩ := h
  obtain ⟨g1, g2, ⟨v', q', s1, s2, s3, s4, s5, s6⟩, g4⟩ := h'
  have e1 := s1.symm.trans ((hb.block _ (lt_of_block r1)).trans r1)
  have e3 := s3.symm.trans ((hb.block _ (lt_of_block r3)).trans r3)
  simp at e1 e3
  subst e1 e3
  refine ⟨g1, g2, ⟨v', q', s1, s2, s3, s4, s5, fun p hp => ?_⟩, g4⟩
  rcases List.mem_cons.1 hp with rfl | hp
  · exact ⟨hk, by simp only; omega, fun e => by have := (r2.lt _ e).2; simp only at this; omega, fun e => by have := (r4.lt _ e).2; simp only at this; omega⟩
  · exact s6 p hp

theorem MvSt.less {W0 w : World} {Y F a : Nat} {mv : Value} {caps : Array Value} {K K' : List (Nat × Obj)} {st : Mv} (h : MvSt W0 Y mv F caps K a st w) (hk : ∀ p ∈ K', p ∈ K) : MvSt W0 Y mv F caps K' a st w := by
  obtain ⟨h1, h2, ⟨v, q, r1, r2, r3, r4, r5, r6⟩, h4⟩ := h
  exact ⟨h1, h2, ⟨v, q, r1, r2, r3, r4, r5, fun p hp => r6 p (hk p hp)⟩, h4⟩

theorem MvSt.kept {W0 w : World} {Y F a : Nat} {mv : Value} {caps : Array Value} {K : List (Nat × Obj)} {st : Mv} (h : MvSt W0 Y mv F caps K a st w) {p : Nat × Obj} (hp : p ∈ K) : w.heap[p.1]? = some p.2 := by
  obtain ⟨h1, h2, ⟨v, q, r1, r2, r3, r4, r5, r6⟩, h4⟩ := h
  exact (r6 p hp).1

theorem MvEnv.mem {Wm W0 w : World} {Y F : Nat} {m : List Frg} {mv : Value} {caps : Array Value} (h : MvEnv Wm W0 Y m mv F caps) (hg : W0.grownBy w (some Y)) : RsAt w mv m :=
  h.rs.below (h.low.trans (grown_low hg h.yl h.low.size))

theorem MvEnv.below {Wm W0 w : World} {Y F : Nat} {m : List Frg} {mv : Value} {caps : Array Value} (h : MvEnv Wm W0 Y m mv F caps) (hg : W0.grownBy w (some Y)) : Below Wm.heap.size Wm w :=
  h.low.trans (grown_low hg h.yl h.low.size)

theorem moveP_none {m : List Frg} {a : Nat} {st : Mv} {x : Nat} (h : toP x = none) : moveP m a st x = (x, st) := by unfold moveP; rw [h]
theorem moveP_old {m : List Frg} {a : Nat} {st : Mv} {x y : Nat} {s : Spt} (h : toP x = some s) (hw : wentAt st.went s = some y) : moveP m a st x = (y, st) := by unfold moveP; rw [h]; simp only; rw [hw]
theorem moveP_new {m : List Frg} {a : Nat} {st : Mv} {x : Nat} {s : Spt} (h : toP x = some s) (hw : wentAt st.went s = none) {k : Int} {l : List Nat} (ho : objP m s.1 s.2 = some (k, l)) :
    moveP m a st x = ((a + st.words.length) * 8 + s.2.toNat, ⟨st.went ++ [(s, (a + st.words.length) * 8 + s.2.toNat)], st.words ++ l⟩) := by unfold moveP; rw [h]; simp only; rw [hw, ho]; rfl

theorem sptOk_of {x : Nat} {s : Spt} (hx : x < 18446744073709551616) (h : toP x = some s) : SptOk s := by
  have h1 := toP_in h hx
  have h2 := toP_tag h
  unfold SptOk In64
  rcases h2 with e | e <;> rw [e] <;> exact ⟨h1, by decide⟩

end Go.Proofs.YtlmpmjhanpkcnaaGreat
