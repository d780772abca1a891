/-
  Collect: two dumps of the same content are the same by SameDump.
  Collect: the pair of awake, and what becomes of it.
-/
import Derived.Test.YtlmpmjhanpkcnaaGreatN29
import Derived.Test.YtlmpmjhanpkcnaaGreatN31
set_option linter.unusedVariables false
set_option linter.unusedSimpArgs false
namespace Go.Proofs.YtlmpmjhanpkcnaaGreat
open Go.RowKit

theorem sameF_true (f : Frg) (a b a' b' : Value) (w : World) (hf : FrAt w a b f) (hg : FrAt w a' b' f) : Calls Tryz.prog 34 #[.agg #[a, b], .agg #[a', b']] w fun e w' => TrueEnd w w' e :=
  (sameF_any f f a b a' b' w hf hg).mono fun e w' h => ⟨by rw [h.1, decide_eq_true rfl], h.2⟩

theorem sameW_true (l : List Nat) (v v' : Value) (w : World) (h : Ws w v l) (h' : Ws w v' l) : Calls Tryz.prog 35 #[v, v'] w fun e w' => TrueEnd w w' e :=
  (sameW_any l l v v' w h h').mono fun e w' h => ⟨by rw [h.1, decide_eq_true rfl], h.2⟩

theorem sameI_true (l : List Int) (v v' : Value) (w : World) (h : Is w v l) (h' : Is w v' l) : Calls Tryz.prog 16 #[v, v'] w fun e w' => TrueEnd w w' e :=
  (sameI_any l l v v' w h h').mono fun e w' h => ⟨by rw [h.1, decide_eq_true rfl], h.2⟩

theorem RsAt.fr {w : World} {v : Value} {m : List Frg} (h : RsAt w v m) {k : Nat} (hk : k < m.length) : ∃ g o c wa wc, v = .slice (some ⟨g, o, none⟩) m.length c ∧ w.cell? ⟨g, o + k * 2, none⟩ = some (.int .i64 m[k].1) ∧ w.cell? ⟨g, o + k * 2 + 1, none⟩ = some (.slice wa m[k].2.length wc) ∧ FrAt w (.int .i64 m[k].1) (.slice wa m[k].2.length wc) m[k] := by
  obtain ⟨h1, a, c, rfl, hc⟩ := h
  obtain ⟨g, o, wa, wc, rfl, hi, k0, k1, hw⟩ := hc k hk
  exact ⟨g, o, c, wa, wc, rfl, k0, k1, hi, rfl, wa, wc, rfl, hw⟩

set_option maxHeartbeats 8000000 in
set_option maxRecDepth 100000 in
theorem sameDump_true (d : Dmp) (v v' : Value) (w : World) (hv : DmAt w v d) (hv' : DmAt w v' d) : Calls Tryz.prog 14 #[v, v'] w fun e w' => TrueEnd w w' e := by
  obtain ⟨a0, a1, a2, a3, a6, a7, a8, rfl, hy, ho, -, -, hf, hr, hh⟩ := hv
  obtain ⟨b0, b1, b2, b3, b6, b7, b8, rfl, hy', ho', -, -, hf', hr', hh'⟩ := hv'
  have HY := Lib.hid hy
  have HO := Lib.hid ho
  have HF := Lib.hid hf
  have HR := Lib.hid hr
  have HH := Lib.hid hh
  have HY' := Lib.hid hy'
  have HO' := Lib.hid ho'
  have HF' := Lib.hid hf'
  have HR' := Lib.hid hr'
  have HH' := Lib.hid hh'
  obtain ⟨-, fa, fc, rfl, -⟩ := hf
  obtain ⟨-, fa', fc', rfl, -⟩ := hf'
  have T := two_at' w (.cells #[a0, a1, a2, a3, .int .i64 d.size, .int .i64 d.mark, .slice fa d.frags.length fc, a7, a8] 28) (.cells #[b0, b1, b2, b3, .int .i64 d.size, .int .i64 d.mark, .slice fa' d.frags.length fc', b7, b8] 28)
  clear hy ho hr hh hy' ho' hr' hh'
  have e1 : (d.size != d.size) = false := by simp
  have e2 : (d.mark != d.mark) = false := by simp
  have e3 : ((d.frags.length : Int) != (d.frags.length : Int)) = false := by simp
  go_enter Tryz.func14, Tryz.ntmps14
  go_upto_region 1 with fail
  generalize (w.alloc (.cells #[a0, a1, a2, a3, .int .i64 d.size, .int .i64 d.mark, .slice fa d.frags.length fc, a7, a8] 28)).alloc (.cells #[b0, b1, b2, b3, .int .i64 d.size, .int .i64 d.mark, .slice fa' d.frags.length fc', b7, b8] 28) = W at *
  have A := Lib.hid T.1
  have B := Lib.hid T.2.1
  have AB := Lib.hid T.2.2
  clear T
  have x0 := cell_of A.out 0
  have x1 := cell_of A.out 1
  simp at x0 x1
  have y0 := cell_of B.out 0
  have y1 := cell_of B.out 1
  simp at y0 y1
  go_wp2_with fail
  refine (sameF_true d.young _ _ _ _ W (HY.out.below AB.out) (HY'.out.below AB.out)).mono ?_
  rintro e w2 ⟨rfl, hb⟩
  have A2 := Lib.hid ((hb.block _ (lt_of_block A.out)).trans A.out)
  have B2 := Lib.hid ((hb.block _ (lt_of_block B.out)).trans B.out)
  have AB2 := Lib.hid (AB.out.trans (hb.mono AB.out.size))
  clear hb x0 x1 y0 y1
  have x2 := cell_of A2.out 2
  have x3 := cell_of A2.out 3
  simp at x2 x3
  have y2 := cell_of B2.out 2
  have y3 := cell_of B2.out 3
  simp at y2 y3
  go_wp2_with fail
  refine (sameF_true d.old _ _ _ _ w2 (HO.out.below AB2.out) (HO'.out.below AB2.out)).mono ?_
  rintro e w3 ⟨rfl, hb⟩
  have A3 := Lib.hid ((hb.block _ (lt_of_block A2.out)).trans A2.out)
  have B3 := Lib.hid ((hb.block _ (lt_of_block B2.out)).trans B2.out)
  have AB3 := Lib.hid (AB2.out.trans (hb.mono AB2.out.size))
  clear hb x2 x3 y2 y3 A B A2 B2 AB AB2
  have x4 := cell_of A3.out 4
  have x5 := cell_of A3.out 5
  have x6 := cell_of A3.out 6
  have x7 := cell_of A3.out 7
  simp at x4 x5 x6 x7
  have y4 := cell_of B3.out 4
  have y5 := cell_of B3.out 5
  have y6 := cell_of B3.out 6
  have y7 := cell_of B3.out 7
  simp at y4 y5 y6 y7
  go_wp2_with fail
  refine (sameW_true d.roots _ _ w3 (HR.out.below AB3.out) (HR'.out.below AB3.out)).mono ?_
  rintro e w4 ⟨rfl, hb⟩
  have A4 := Lib.hid ((hb.block _ (lt_of_block A3.out)).trans A3.out)
  have B4 := Lib.hid ((hb.block _ (lt_of_block B3.out)).trans B3.out)
  have AB4 := Lib.hid (AB3.out.trans (hb.mono AB3.out.size))
  clear hb x4 x5 x6 x7 y4 y5 y6 y7 A3 B3 AB3
  have x8 := cell_of A4.out 8
  simp at x8
  have y8 := cell_of B4.out 8
  simp at y8
  go_wp2_with fail
  refine (sameI_true d.handles _ _ w4 (HH.out.below AB4.out) (HH'.out.below AB4.out)).mono ?_
  rintro e w5 ⟨rfl, hb⟩
  have A5 := Lib.hid ((hb.block _ (lt_of_block A4.out)).trans A4.out)
  have B5 := Lib.hid ((hb.block _ (lt_of_block B4.out)).trans B4.out)
  have AB5 := Lib.hid (AB4.out.trans (hb.mono AB4.out.size))
  clear hb x8 y8 A4 B4 AB4
  have HSZ := Lib.hid (show w.heap.size + 2 ≤ w5.heap.size by have := lt_of_block B5.out; omega)
  have HLN := Lib.hid HF.out.1
  obtain ⟨m, hmm⟩ : ∃ m, d.frags = m := ⟨_, rfl⟩
  rw [hmm] at HF HF' A5 B5 HLN ⊢
  clear hmm e1 e2 e3 HY HO HR HH HY' HO' HR' HH'
  go_wp2_with fail
  go_loopw [5] (fun i wr => ∃ (k : Nat), k ≤ m.length ∧ i = .int .i64 k ∧ Hid (Below w5.heap.size w5 wr)) (fun i _ => m.length - (intOf i).toNat)
  case atStart => exact ⟨0, by omega, rfl, Lib.hid (Below.refl _ _)⟩
  case round =>
    obtain ⟨k, hk, rfl, HB⟩ := hrel
    have A6 := Lib.hid ((HB.out.block _ (lt_of_block A5.out)).trans A5.out)
    have B6 := Lib.hid ((HB.out.block _ (lt_of_block B5.out)).trans B5.out)
    have AB6 := Lib.hid (AB5.out.trans (HB.out.mono AB5.out.size))
    have x6 := cell_of A6.out 6
    have y6 := cell_of B6.out 6
    simp at x6 y6
    by_cases hlt : k < m.length
    · have q1 : (k : Int) < (m.length : Int) := by omega
      have q0 : (0 : Int) ≤ (k : Int) := by omega
      obtain ⟨g, o, c, wa, wc, hva, k0, k1, hfr⟩ := HF.out.fr hlt
      obtain ⟨g', o', c', wa', wc', hva', k0', k1', hfr'⟩ := HF'.out.fr hlt
      simp only [Value.slice.injEq, true_and] at hva hva'
      obtain ⟨rfl, rfl⟩ := hva
      obtain ⟨rfl, rfl⟩ := hva'
      obtain ⟨f, hff⟩ : ∃ f, m[k]'hlt = f := ⟨_, rfl⟩
      rw [hff] at k0 k1 k0' k1' hfr hfr'
      clear hff
      have HV := Lib.hid hfr
      have HV' := Lib.hid hfr'
      have up := fun {p : Addr} {v : Value} (q : w.cell? p = some v) => (AB6.out.cell (World.block_lt_of_cell? w _ q)).trans q
      have x0 := up k0
      have x1 := up k1
      have y0 := up k0'
      have y1 := up k1'
      have DB := Lib.hid (show Below wr.heap.size wr wr.drew from (Below.refl _ _).drew)
      have QK := Lib.hid (show k + 1 ≤ m.length ∧ m.length - (k + 1) < m.length - k by omega)
      have QB := Lib.hid (show -9223372036854775808 ≤ (k : Int) + 1 ∧ (k : Int) + 1 ≤ 9223372036854775807 by have := HLN.out; unfold maxLen at this; omega)
      clear k0 k1 k0' k1' hfr hfr' up
      go_upto_region 6 with fail
      refine wp_region_still_tail 10 (by kernel_rfl) (by kernel_rfl) ?_
      simp only [List.take_succ_cons, List.take_zero, List.drop_succ_cons, List.drop_zero]
      change wpStill _ _ wr.drew (fun a' => wpList _ _ _ _ a' wr.drew) _ _
      have x0 : wr.drew.cell? _ = _ := x0
      have x1 : wr.drew.cell? _ = _ := x1
      have y0 : wr.drew.cell? _ = _ := y0
      have y1 : wr.drew.cell? _ = _ := y1
      have x6 : wr.drew.cell? _ = _ := x6
      have y6 : wr.drew.cell? _ = _ := y6
      generalize wr.drew = wd at *
      have HBD := Lib.hid (HB.out.trans (DB.out.mono HB.out.size))
      have ABD := Lib.hid (AB6.out.trans (DB.out.mono AB6.out.size))
      repeat still_step
      refine wpStill_nil ?_
      go_wp2_with fail
      have HC := sameF_true f _ _ _ _ wd (HV.out.below ABD.out) (HV'.out.below ABD.out)
      with_reducible refine HC.mono ?_
      clear HC
      rintro e w6 ⟨rfl, hb6⟩
      have HB6 := Lib.hid (HBD.out.trans (hb6.mono HBD.out.size))
      clear hb6 x0 x1 x6 y0 y1 y6
      have q5 : IntKind.i64.wrap ((k : Int) + 1) = (k : Int) + 1 := IntWalk.i64_in _ QB.out
      go_wp2_with fail
      go_roundw
      case rel => exact ⟨k + 1, QK.out.1, by go_num, HB6⟩
      case measure => clear q5; have := QK.out.2; simp [intOf]; omega
    · obtain rfl : k = m.length := by omega
      have q1 : ¬ (m.length : Int) < (m.length : Int) := by omega
      go_wp2_with fail
      go_ret
      exact ⟨rfl, AB6.out⟩

end Go.Proofs.YtlmpmjhanpkcnaaGreat

namespace Go.Proofs.YtlmpmjhanpkcnaaGreat
open Go.RowKit

def pairD : Dmp := ⟨(5, [24, 8, 16]), (0, []), 3, 0, [], [53], []⟩
def pairE : Dmp := ⟨(40, [8, 16]), (0, []), 2, 2, [], [325], []⟩
theorem pair_sane : saneP pairD 40 = true := by kernel_rfl
theorem pair_insane : saneP pairD 0 = false := by kernel_rfl

theorem pair_reach {s : Spt} (h : Reach pairD.mem pairD.roots s) : s = (6, 5) := by
  induction h with
  | root hx ht ho =>
    have : ∀ x ∈ pairD.roots, x = 53 := by intro x hx; simpa [pairD] using hx
    have e := this _ hx
    subst e
    have e2 : toP 53 = some (6, 5) := by kernel_rfl
    rw [e2] at ht
    cases ht
    rfl
  | step h ho hx ht ho' ih =>
    subst ih
    have e2 : objP pairD.mem 6 5 = some (-1, [8, 16]) := by kernel_rfl
    rw [e2] at ho
    cases ho
    have e3 : leadW (-1) [8, 16] = [8, 16] := by kernel_rfl
    simp only at hx
    rw [e3] at hx
    simp at hx
    have e4 : toP 8 = none := by kernel_rfl
    have e5 : toP 16 = none := by kernel_rfl
    rcases hx with rfl | rfl
    · rw [e4] at ht; cases ht
    · rw [e5] at ht; cases ht

theorem pair_at : Reach pairD.mem pairD.roots (6, 5) := by
  refine Reach.root (x := 53) (by simp [pairD]) (by kernel_rfl) (by kernel_rfl)

theorem single {α : Type} {l : List α} {a : α} (h1 : l.Nodup) (h2 : a ∈ l) (h3 : ∀ x ∈ l, x = a) : l = [a] := by
  match l, h1, h2, h3 with
  | [], _, h2, _ => cases h2
  | [x], _, _, h3 => rw [h3 x List.mem_cons_self]
  | x :: y :: r, h1, _, h3 =>
    have e1 := h3 x List.mem_cons_self
    have e2 := h3 y (List.mem_cons_of_mem _ List.mem_cons_self)
    rw [e1, e2] at h1
    simp at h1

theorem pair_list {l : List Spt} (h : ReachL pairD.mem pairD.roots l) : l = [(6, 5)] :=
  single h.1 ((h.2 _).2 pair_at) fun s hs => pair_reach ((h.2 s).1 hs)

theorem sort_nil : sortI [] = [] := by simp [sortI]

theorem pair_major : majorD pairD 40 [(6, 5)] = pairE := by
  have e1 : (majorSt pairD 40 [(6, 5)]).words = [8, 16] := by kernel_rfl
  have e2 : hsM pairD.mem (majorSt pairD 40 [(6, 5)]).went [(6, 5)] = [] := by kernel_rfl
  have e3 : (movesP pairD.mem 40 pairD.roots ⟨[], []⟩).1 = [325] := by kernel_rfl
  unfold majorD
  rw [e1, e2, e3, sort_nil]
  rfl

theorem majorOut_dm {w w' : World} {d : Dmp} {a : Nat} {l : List Spt} {dv : Value} (h : MajorOut w w' d a l dv) (ha : a ≤ 1125899907842624) (h1 : (majorD d a l).young.2.length ≤ 1000000) (h2 : ∀ x ∈ (majorD d a l).young.2, x < 18446744073709551616)
    (h3 : (majorD d a l).roots.length ≤ 1000000) (h4 : ∀ x ∈ (majorD d a l).roots, x < 18446744073709551616) (h5 : (majorD d a l).handles.length ≤ 1000000) (h6 : ∀ x ∈ (majorD d a l).handles, In64 x) : DmAt w' dv (majorD d a l) := by
  obtain ⟨yv, rv, hv, rfl, ho1, ho2, ho3⟩ := h
  have w1 := Ws.of_own ho1 h1 h2
  have w2 := Ws.of_own ho2 h3 h4
  have w3 := Is.of_own ho3 h5 h6
  obtain ⟨ya, yc, rfl⟩ := own_slice ho1
  have hz : ((majorD d a l).young.2.length : Int) ≤ 1000000 := by omega
  refine ⟨.int .i64 (a : Int), _, .int .i64 0, .slice none 0 0, .slice none 0 0, rv, hv, rfl, ⟨?_, rfl, ya, yc, rfl, w1⟩, ⟨(show -9223372036854775808 ≤ (0 : Int) ∧ (0 : Int) ≤ 9223372036854775807 by omega), rfl, none, 0, rfl, Ws.nil _⟩, ?_, ?_, ?_, w2, w3⟩
  · show -9223372036854775808 ≤ (a : Int) ∧ (a : Int) ≤ 9223372036854775807
    omega
  · show -9223372036854775808 ≤ ((majorSt d a l).words.length : Int) ∧ ((majorSt d a l).words.length : Int) ≤ 9223372036854775807
    have : ((majorSt d a l).words.length : Int) ≤ 1000000 := hz
    omega
  · show -9223372036854775808 ≤ ((majorSt d a l).words.length : Int) ∧ ((majorSt d a l).words.length : Int) ≤ 9223372036854775807
    have : ((majorSt d a l).words.length : Int) ≤ 1000000 := hz
    omega
  · exact ⟨by show (0 : Nat) ≤ maxLen; omega, none, 0, rfl, fun j hj => by simp [majorD] at hj⟩

abbrev pairV (y r : Value) : Value := dmpV (.int .i64 5) y (.int .i64 0) (.slice none 0 0) 3 0 (.slice none 0 0) r (.slice none 0 0)

theorem pair_dm {w : World} {y r : Value} (hy : Ws w y [24, 8, 16]) (hr : Ws w r [53]) : DmAt w (pairV y r) pairD := by
  obtain ⟨h1, h2, a, c, rfl, h3⟩ := hy
  exact ⟨_, _, _, _, _, _, _, rfl, ⟨by constructor <;> decide, rfl, a, c, rfl, ⟨h1, h2, a, c, rfl, h3⟩⟩, ⟨by constructor <;> decide, rfl, none, 0, rfl, Ws.nil _⟩, by constructor <;> decide, by constructor <;> decide, ⟨by show (0 : Nat) ≤ maxLen; omega, none, 0, rfl, fun j hj => by simp [pairD] at hj⟩, hr,
    ⟨by show (0 : Nat) ≤ maxLen; omega, (fun x hx => by cases hx), none, 0, rfl, by simp [pairD], by unfold maxLen; omega, fun j hj => by simp [pairD] at hj⟩⟩

theorem ws_row {w : World} {b : Nat} {t : TypeId} (l : List Nat) (h : w.heap[b]? = some (.cells (csW l).toArray t (0, 0))) (hl : l.length ≤ maxLen) (hb : ∀ x ∈ l, x < 18446744073709551616) : Ws w (.slice (some ⟨b, 0, none⟩) l.length l.length) l := by
  refine ⟨hl, hb, some ⟨b, 0, none⟩, l.length, rfl, Nat.le_refl _, hl, fun j hj => ⟨b, 0, rfl, ?_⟩⟩
  rw [cell_of h, Nat.zero_add]
  simp [csW, hj]

theorem three_at (w : World) (o1 o2 o3 : Obj) : (((w.alloc o1).alloc o2).alloc o3).heap[w.heap.size]? = some o1 ∧ (((w.alloc o1).alloc o2).alloc o3).heap[w.heap.size + 1]? = some o2 ∧
    (((w.alloc o1).alloc o2).alloc o3).heap[w.heap.size + 1 + 1]? = some o3 ∧ Below w.heap.size w (((w.alloc o1).alloc o2).alloc o3) := by
  have h := four_at w o1 o2 o3 o3
  simp only [get_drew] at h
  refine ⟨?_, ?_, ?_, (((Below.refl _ _).alloc (Nat.le_refl _) _).alloc (by simp) _).alloc (by simp; omega) _⟩
  · rw [get_alloc, if_neg (by simp <;> omega), get_alloc, if_neg (by simp <;> omega), get_alloc, if_pos rfl]
  · rw [get_alloc, if_neg (by simp <;> omega), get_alloc, if_pos (by simp)]
  · rw [get_alloc, if_pos (by simp)]

theorem small3 : (3 : Nat) ≤ maxLen := by unfold maxLen; omega

theorem pair_call (W : World) : Calls Tryz.prog 25 #[] W fun e w' => ∃ y r, e = .returned (pairV y r) ∧ Ws w' y [24, 8, 16] ∧ Ws w' r [53] ∧ Below W.heap.size W w' := by
  have T := three_at W (.cells #[.int .i64 5, .slice (some ⟨W.heap.size + 1, 0, none⟩) 3 3, .int .i64 0, .slice none 0 0, .int .i64 3, .int .i64 0, .slice none 0 0, .slice (some ⟨W.heap.size + 1 + 1, 0, none⟩) 1 1, .slice none 0 0] 28)
    (.cells #[.int .u64 24, .int .u64 8, .int .u64 16] 47) (.cells #[.int .u64 53] 47)
  go_enter Tryz.func25, Tryz.ntmps25
  go_wp2_with fail
  generalize ((W.alloc _).alloc (.cells #[.int .u64 24, .int .u64 8, .int .u64 16] 47)).alloc (.cells #[.int .u64 53] 47) = V at *
  obtain ⟨t1, t2, t3, t4⟩ := T
  have y0 := cell_of t1 0
  have y1 := cell_of t1 1
  have y2 := cell_of t1 2
  have y3 := cell_of t1 3
  have y4 := cell_of t1 4
  have y5 := cell_of t1 5
  have y6 := cell_of t1 6
  have y7 := cell_of t1 7
  have y8 := cell_of t1 8
  simp at y0 y1 y2 y3 y4 y5 y6 y7 y8
  exact bodyPost_ret (v := pairV (.slice (some ⟨W.heap.size + 1, 0, none⟩) 3 3) (.slice (some ⟨W.heap.size + 1 + 1, 0, none⟩) 1 1)) (by simp [results, Tryz.results25, go_sem, y0, y1, y2, y3, y4, y5, y6, y7, y8]) rfl
    ⟨_, _, rfl, ws_row [24, 8, 16] t2 small3 (by decide), ws_row [53] t3 (by have := small3; show 1 ≤ maxLen; omega) (by decide), t4⟩

theorem out_pair {w w' : World} {dv : Value} (ho : MajorOut w w' pairD 40 [(6, 5)] dv) : ∃ wa1 wc1 wa2 wc2 fa fc ra rc ha hc, dv = (dmpV (.int .i64 40) (.slice wa1 2 wc1) (.int .i64 0) (.slice wa2 0 wc2) 2 2 (.slice fa 0 fc) (.slice ra 1 rc) (.slice ha 0 hc)) ∧ DmAt w' (dmpV (.int .i64 40) (.slice wa1 2 wc1) (.int .i64 0) (.slice wa2 0 wc2) 2 2 (.slice fa 0 fc) (.slice ra 1 rc) (.slice ha 0 hc)) pairE := by
  have hd := majorOut_dm ho (by decide) (by rw [pair_major]; decide) (by rw [pair_major]; decide) (by rw [pair_major]; decide) (by rw [pair_major]; decide) (by rw [pair_major]; decide) (by rw [pair_major]; intro x hx; cases hx)
  rw [pair_major] at hd
  have HD := hd
  obtain ⟨_, _, _, _, _, _, _, rfl, ⟨-, rfl, wa1, wc1, rfl, -⟩, ⟨-, rfl, wa2, wc2, rfl, -⟩, -, -, ⟨-, fa, fc, rfl, -⟩, ⟨-, -, ra, rc, rfl, -⟩, ⟨-, -, ha, hc, rfl, -⟩⟩ := hd
  exact ⟨wa1, wc1, wa2, wc2, fa, fc, ra, rc, ha, hc, rfl, HD⟩

set_option maxHeartbeats 8000000 in
set_option maxRecDepth 100000 in
theorem awake_any (W : World) : Calls Tryz.prog 9 #[] W fun e w' => TrueEnd W w' e := by
  go_enter Tryz.func9, Tryz.ntmps9
  go_wp2_with fail
  refine (pair_call W).mono ?_
  rintro e w1 ⟨y, r, rfl, hy, hr, hb1⟩
  go_wp2_with fail
  refine (major_any pairD _ 40 w1 (pair_dm hy hr) (by simp [pairD]) (by decide) (by decide)).mono ?_
  rintro e w2 ⟨-, h, hb2⟩
  obtain ⟨l, dv, hl, rfl, ho⟩ := h pair_sane
  have hl := pair_list hl
  subst hl
  obtain ⟨wa1, wc1, wa2, wc2, fa, fc, ra, rc, ha, hc, rfl, hd⟩ := out_pair ho
  have HB2 := Lib.hid (hb1.trans (hb2.mono hb1.size))
  have HD2 := Lib.hid hd
  clear h ho hy hr hb1 hb2 hd
  have T := one_at w2 (.cells #[.int .i64 40, .slice wa1 2 wc1, .int .i64 0, .slice wa2 0 wc2, .int .i64 2, .int .i64 2, .slice fa 0 fc, .slice ra 1 rc, .slice ha 0 hc] 28)
  go_wp2_with fail
  generalize w2.alloc (.cells #[.int .i64 40, .slice wa1 2 wc1, .int .i64 0, .slice wa2 0 wc2, .int .i64 2, .int .i64 2, .slice fa 0 fc, .slice ra 1 rc, .slice ha 0 hc] 28) = w3 at *
  have X3 := Lib.hid T.1
  have HB3 := Lib.hid (HB2.out.trans (T.2.2.mono HB2.out.size))
  have HD3 := Lib.hid (HD2.out.below T.2.2)
  clear T HB2 HD2
  refine (pair_call w3).mono ?_
  rintro e w4 ⟨y2, r2, rfl, hy, hr, hb1⟩
  go_wp2_with fail
  have HMN := minor_none pairD (.int .i64 5) y2 (.slice none 0 0) r2 40 w4 (pair_dm hy hr) rfl rfl (by simp [pairD]) (by decide) (by decide) pair_sane (fun l hl => by have := pair_list hl; subst this; exact Nat.lt_of_le_of_lt (hsM_le _ _ _) (by decide))
  refine HMN.mono ?_
  clear HMN
  rintro e w5 ⟨l, dv, hl, rfl, ho, hb2⟩
  have hl := pair_list hl
  subst hl
  obtain ⟨wa1', wc1', wa2', wc2', fa', fc', ra', rc', ha', hc', rfl, hd⟩ := out_pair ho
  have HB5 := Lib.hid (hb1.trans (hb2.mono hb1.size))
  have HD5 := Lib.hid hd
  clear ho hy hr hb1 hb2 hd
  have T := one_at w5 (.cells #[.int .i64 40, .slice wa1' 2 wc1', .int .i64 0, .slice wa2' 0 wc2', .int .i64 2, .int .i64 2, .slice fa' 0 fc', .slice ra' 1 rc', .slice ha' 0 hc'] 28)
  go_wp2_with fail
  generalize w5.alloc (.cells #[.int .i64 40, .slice wa1' 2 wc1', .int .i64 0, .slice wa2' 0 wc2', .int .i64 2, .int .i64 2, .slice fa' 0 fc', .slice ra' 1 rc', .slice ha' 0 hc'] 28) = w6 at *
  have X6 := Lib.hid T.1
  have Y6 := Lib.hid ((T.2.2.block _ (by have := lt_of_block X3.out; have := HB5.out.size; omega)).trans ((HB5.out.block _ (lt_of_block X3.out)).trans X3.out))
  have HD6 := Lib.hid (HD5.out.below T.2.2)
  have HE6 := Lib.hid ((HD3.out.below HB5.out).below T.2.2)
  have HB6 := Lib.hid (HB3.out.trans ((HB5.out.trans (T.2.2.mono HB5.out.size)).mono HB3.out.size))
  clear T HB5 HD5 HD3 X3 HB3
  refine (pair_call w6).mono ?_
  rintro e w7 ⟨y3, r3, rfl, hy, hr, hb1⟩
  go_wp2_with fail
  refine (major_any pairD _ 0 w7 (pair_dm hy hr) (by simp [pairD]) (by decide) (by decide)).mono ?_
  rintro e w8 ⟨h, -, hb2⟩
  obtain rfl := h pair_insane
  have HB8 := Lib.hid (hb1.trans (hb2.mono hb1.size))
  clear h hy hr hb1 hb2
  have T := one_at w8 (.cells #[.int .i64 0, .slice none 0 0, .int .i64 0, .slice none 0 0, .int .i64 0, .int .i64 0, .slice none 0 0, .slice none 0 0, .slice none 0 0] 28)
  unfold zeroD
  go_upto_region 4 with fail
  generalize w8.alloc (.cells #[.int .i64 0, .slice none 0 0, .int .i64 0, .slice none 0 0, .int .i64 0, .int .i64 0, .slice none 0 0, .slice none 0 0, .slice none 0 0] 28) = w9 at *
  have HB9 := Lib.hid (HB8.out.trans (T.2.2.mono HB8.out.size))
  have X9 := Lib.hid ((HB9.out.block _ (lt_of_block X6.out)).trans X6.out)
  have Y9 := Lib.hid ((HB9.out.block _ (lt_of_block Y6.out)).trans Y6.out)
  have HD9 := Lib.hid (HD6.out.below HB9.out)
  have HE9 := Lib.hid (HE6.out.below HB9.out)
  have HBX := Lib.hid (HB6.out.trans (HB9.out.mono HB6.out.size))
  clear T HB8 HB9 HD6 HE6 HB6 X6 Y6
  have x0 := cell_of X9.out 0
  have x1 := cell_of X9.out 1
  have x2 := cell_of X9.out 2
  have x3 := cell_of X9.out 3
  have x4 := cell_of X9.out 4
  have x5 := cell_of X9.out 5
  have x6 := cell_of X9.out 6
  have x7 := cell_of X9.out 7
  have x8 := cell_of X9.out 8
  simp at x0 x1 x2 x3 x4 x5 x6 x7 x8
  have y0 := cell_of Y9.out 0
  have y1 := cell_of Y9.out 1
  have y2 := cell_of Y9.out 2
  have y3 := cell_of Y9.out 3
  have y4 := cell_of Y9.out 4
  have y5 := cell_of Y9.out 5
  have y6 := cell_of Y9.out 6
  have y7 := cell_of Y9.out 7
  have y8 := cell_of Y9.out 8
  simp at y0 y1 y2 y3 y4 y5 y6 y7 y8
  go_wp2_with fail
  refine (sameDump_true pairE _ _ w9 HE9.out HD9.out).mono ?_
  rintro e w10 ⟨rfl, hb⟩
  have Y10 := Lib.hid ((hb.block _ (lt_of_block Y9.out)).trans Y9.out)
  have HE10 := Lib.hid (HE9.out.below hb)
  have HB10 := Lib.hid (HBX.out.trans (hb.mono HBX.out.size))
  clear hb x0 x1 x2 x3 x4 x5 x6 x7 x8 y0 y1 y2 y3 y4 y5 y6 y7 y8
  have y0 := cell_of Y10.out 0
  have y1 := cell_of Y10.out 1
  have y2 := cell_of Y10.out 2
  have y3 := cell_of Y10.out 3
  have y4 := cell_of Y10.out 4
  have y5 := cell_of Y10.out 5
  have y6 := cell_of Y10.out 6
  have y7 := cell_of Y10.out 7
  have y8 := cell_of Y10.out 8
  simp at y0 y1 y2 y3 y4 y5 y6 y7 y8
  have T := two_at' w10 (.cells #[.int .u64 8, .int .u64 16] 47) (.cells #[.int .u64 325] 47)
  go_wp2_with fail
  generalize (w10.alloc (.cells #[.int .u64 8, .int .u64 16] 47)).alloc (.cells #[.int .u64 325] 47) = w11 at *
  obtain ⟨t1, t2, t3⟩ := T
  have hy := ws_row [8, 16] t1 (by have := small3; show 2 ≤ maxLen; omega) (by decide)
  have hr := ws_row [325] t2 (by have := small3; show 1 ≤ maxLen; omega) (by decide)
  have HE11 := Lib.hid (HE10.out.below t3)
  have HB11 := Lib.hid (HB10.out.trans (t3.mono HB10.out.size))
  have HL11 := Lib.hid (show DmAt w11 (dmpV (.int .i64 40) (.slice (some ⟨w10.heap.size, 0, none⟩) 2 2) (.int .i64 0) (.slice none 0 0) 2 2 (.slice none 0 0) (.slice (some ⟨w10.heap.size + 1, 0, none⟩) 1 1) (.slice none 0 0)) pairE from
    ⟨_, _, _, _, _, _, _, rfl, ⟨by constructor <;> decide, rfl, _, _, rfl, hy⟩, ⟨by constructor <;> decide, rfl, none, 0, rfl, Ws.nil _⟩, by constructor <;> decide, by constructor <;> decide, ⟨by show (0 : Nat) ≤ maxLen; omega, none, 0, rfl, fun j hj => by simp [pairE] at hj⟩, hr,
      ⟨by show (0 : Nat) ≤ maxLen; omega, (fun x hx => by cases hx), none, 0, rfl, by simp [pairE], by unfold maxLen; omega, fun j hj => by simp [pairE] at hj⟩⟩)
  clear t1 t2 t3 hy hr y0 y1 y2 y3 y4 y5 y6 y7 y8
  refine (sameDump_true pairE _ _ w11 HE11.out HL11.out).mono ?_
  rintro e w12 ⟨rfl, hb⟩
  have HB12 := Lib.hid (HB11.out.trans (hb.mono HB11.out.size))
  clear hb
  go_wp2_with fail
  go_ret
  exact ⟨rfl, HB12.out⟩

end Go.Proofs.YtlmpmjhanpkcnaaGreat
