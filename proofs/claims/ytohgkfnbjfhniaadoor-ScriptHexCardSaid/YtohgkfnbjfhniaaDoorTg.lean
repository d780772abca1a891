/-
  How heavy a term is, by both answers; how many parts terms have.
-/
import Derived.Test.YtohgkfnbjfhniaaDoorTn
namespace Go.Proofs.YtohgkfnbjfhniaaDoor
open Go.RowKit Sp

def Tm.args : Tm → List Tm
  | .mk _ _ _ _ _ _ args => args

/-! ### parts -/

def PartsOk (l : List Tm) : Prop := ∀ (av : Value) (w : World) (most : Int), TsAt w av l → -1 ≤ most → most ≤ 1000000 →
  Calls Tryd.prog 26 #[av, .int .i64 most] w fun e w' => ∃ r : Int, e = .returned (.int .i64 r) ∧ 0 ≤ r ∧ r ≤ most + 1 ∧ Hid (r ≤ most → smalls l = true) ∧ w' = w

set_option maxHeartbeats 4000000 in
set_option maxRecDepth 100000 in
theorem parts_of (l : List Tm) (ih : ∀ t ∈ l, PartsOk t.args) : PartsOk l := by
  intro av w most hav h0 h1
  obtain ⟨hl, a, cap, rfl, hc⟩ := hav
  unfold maxLen at hl
  have HC := Lib.hid hc
  have HI := Lib.hid ih
  clear hc ih
  go_enter Tryd.func26, Tryd.ntmps26
  go_wp2_with fail
  go_loop [5, 6] (fun n i => ∃ (k : Nat) (r : Int), k ≤ l.length ∧ n = .int .i64 r ∧ i = .int .i64 k ∧ 0 ≤ r ∧ r ≤ most + 1 ∧ Hid (r ≤ most → smalls (l.take k) = true)) (fun _ i => l.length - (intOf i).toNat)
  case atStart => exact ⟨0, 0, by omega, rfl, rfl, by omega, by omega, Lib.hid (fun _ => by simp [smalls])⟩
  case round =>
    obtain ⟨k, r, hk, rfl, rfl, hr0, hr1, HS⟩ := hrel
    by_cases hlt : k < l.length
    · have q1 : (k : Int) < (l.length : Int) := by omega
      by_cases hm : r ≤ most
      · obtain ⟨g, o, k', n', neg', mv', bits', bytes', av', ha, ht, c0, c1, c2, c3, c4, c5, c6, _, _⟩ := HC.out k hlt
        obtain ⟨k2, n2, neg2, mag, bits2, bytes2, args2, mv2, av2, he, hv, hk2, hn2, hm2, hml, hu, hb2, hs2, hts⟩ := ht.open
        simp only [termV, Value.agg.injEq, Array.mk.injEq, List.cons.injEq, Value.int.injEq, Value.bool.injEq, Value.string.injEq, true_and, and_true] at hv
        obtain ⟨rfl, rfl, rfl, rfl, hbb, rfl, rfl⟩ := hv
        obtain ⟨ma, mcap, rfl, _⟩ := hm2
        have HP := Lib.hid (show PartsOk args2 by have := HI.out l[k] (List.getElem_mem hlt); rw [he] at this; exact this)
        have HTS := Lib.hid hts
        have HEQ := Lib.hid he
        clear he
        subst ha
        unfold maxLen at hml hs2
        have q2 : (0 : Int) ≤ (k : Int) := by omega
        have q3 : IntKind.i64.wrap ((k : Int) + 1) = (k : Int) + 1 := IntWalk.i64_in _ (by omega)
        have q4 : IntKind.i64.wrap (most + 1) = most + 1 := IntWalk.i64_in _ (by omega)
        have q5 : IntKind.i64.wrap (r + 1) = r + 1 := IntWalk.i64_in _ (by omega)
        have q6 : IntKind.i64.wrap (most - r) = most - r := IntWalk.i64_in _ (by omega)
        have q7 : IntKind.i64.wrap (most - r - 1) = most - r - 1 := IntWalk.i64_in _ (by omega)
        clear ht hts hu
        by_cases hbig : 1000 < bytes'.size
        · have p1 : (1000 : Int) < (bytes'.size : Int) := by omega
          go_wp2_with fail
          go_ret
          exact ⟨most + 1, rfl, by omega, by omega, Lib.hid (fun q => by omega), rfl⟩
        · have p1 : ¬ (1000 : Int) < (bytes'.size : Int) := by omega
          by_cases hbig2 : 40 < mag.length
          · have p2 : (40 : Int) < (mag.length : Int) := by omega
            go_wp2_with fail
            go_ret
            exact ⟨most + 1, rfl, by omega, by omega, Lib.hid (fun q => by omega), rfl⟩
          · have p2 : ¬ (40 : Int) < (mag.length : Int) := by omega
            go_wp2_with fail
            refine (HP.out _ _ (most - r - 1) HTS.out (by omega) (by omega)).mono ?_
            rintro e w1 ⟨r2, rfl, hr2, hr3, HS2, rfl⟩
            have q8 : IntKind.i64.wrap (r + 1 + r2) = r + 1 + r2 := IntWalk.i64_in _ (by omega)
            go_wp2_with fail
            go_round
            case rel => exact ⟨k + 1, r + 1 + r2, by omega, rfl, by go_num, by omega, by omega, Lib.hid (fun q => by
              rw [List.take_succ_eq_append_getElem hlt, smalls_append, HS.out hm, HEQ.out]
              simp only [smalls, Tm.small, Bool.true_and, Bool.and_true, Bool.and_eq_true, decide_eq_true_eq]
              exact ⟨⟨by omega, by omega⟩, HS2.out (by omega)⟩)⟩
            case measure => simp [intOf]; omega
      · have p1 : ¬ r ≤ most := hm
        go_wp2_with fail
        go_ret
        exact ⟨r, rfl, hr0, hr1, Lib.hid (fun q => absurd q (by omega)), rfl⟩
    · have q1 : ¬ (k : Int) < (l.length : Int) := by omega
      go_wp2_with fail
      go_ret
      exact ⟨r, rfl, hr0, hr1, Lib.hid (fun q => by have h := HS.out q; rwa [List.take_of_length_le (by omega)] at h), rfl⟩

theorem parts_args : ∀ t : Tm, PartsOk t.args :=
  Tm.ind fun _ _ _ _ _ _ args h => parts_of args h

theorem parts_any (l : List Tm) : PartsOk l := parts_of l (fun t _ => parts_args t)

/-- One term in a row of its own. -/
theorem TsAt.one {w : World} {k n : Int} {neg : Bool} {mv : Value} {bits : Nat} {bytes : ByteArray} {av : Value} {t : Tm} (h1 : ∃ a n c, mv = .slice a n c) (h2 : ∃ a n c, av = .slice a n c) (h : TmAt w (termV k n neg mv bits bytes av) t) (ty : TypeId) (H : Nat) (hH : w.heap.size = H) :
    TsAt (w.alloc (.cells #[.int .i64 k, .int .i64 n, .bool neg, mv, .int .u64 bits, .string bytes, av] ty)) (.slice (some ⟨H, 0, none⟩) 1 1) [t] := by
  subst hH
  refine ⟨by unfold maxLen; simp, some ⟨w.heap.size, 0, none⟩, 1, rfl, fun j hj => ?_⟩
  obtain rfl : j = 0 := by simp at hj; omega
  refine ⟨w.heap.size, 0, k, n, neg, mv, bits, bytes, av, rfl, h.lift ((Below.refl _ _).alloc (Nat.le_refl _) _), ?_⟩
  have c : ∀ i, (w.alloc (.cells #[.int .i64 k, .int .i64 n, .bool neg, mv, .int .u64 bits, .string bytes, av] ty)).cell? ⟨w.heap.size, i, none⟩ = (#[Value.int .i64 k, .int .i64 n, .bool neg, mv, .int .u64 bits, .string bytes, av])[i]? := fun i => World.cell?_alloc_at _ _ _ _ rfl
  exact ⟨c 0, c 1, c 2, c 3, c 4, c 5, c 6, h1, h2⟩

set_option maxHeartbeats 4000000 in
set_option maxRecDepth 100000 in
theorem great_any (t : Tm) (v : Value) (w : World) (h : TmAt w v t) : Calls Tryd.prog 9 #[v, .int .i64 400] w fun e w' => ((e = .returned (.bool true)) ∨ (e = .returned (.bool false) ∧ t.small = true)) ∧ Below w.heap.size w w' := by
  obtain ⟨k, n, neg, mag, bits, bytes, args, mv, av, rfl, rfl, _, _, hms, _, _, _, _, hts⟩ := h.open
  have H1 := Lib.hid (TsAt.one (by obtain ⟨a, c, e, _⟩ := hms; exact ⟨_, _, _, e⟩) (by obtain ⟨_, a, c, e, _⟩ := hts; exact ⟨_, _, _, e⟩) (h.lift ((Below.refl _ _).alloc (Nat.le_refl _) (.cells #[.int .i64 k, .int .i64 n, .bool neg, mv, .int .u64 bits, .string bytes, av] 28))) 28 (w.heap.size + 1) (by simp))
  have B1 := Lib.hid (((Below.refl w.heap.size w).alloc (Nat.le_refl _) (.cells #[.int .i64 k, .int .i64 n, .bool neg, mv, .int .u64 bits, .string bytes, av] 28)).alloc (by simp) (.cells #[.int .i64 k, .int .i64 n, .bool neg, mv, .int .u64 bits, .string bytes, av] 28))
  clear h hms hts
  unfold termV
  go_enter Tryd.func9, Tryd.ntmps9
  go_wp2_with fail
  refine (parts_any _ _ _ 400 H1.out (by omega) (by omega)).mono ?_
  rintro e w1 ⟨r, rfl, _, _, HS, rfl⟩
  by_cases hr : 400 < r
  · go_wp2_with fail
    go_ret
    exact ⟨.inl rfl, B1.out⟩
  · go_wp2_with fail
    go_ret
    exact ⟨.inr ⟨by show Ending.returned (Value.bool (decide (400 < r))) = _; rw [decide_eq_false (by omega)], by have h := HS.out (by omega); simpa [smalls] using h⟩, B1.out⟩

/-! ### What a term weighs -/

theorem wts_take {l : List Tm} {k : Nat} (h : k < l.length) : wts (l.take (k + 1)) = wts (l.take k) + l[k].wt := by
  rw [List.take_succ_eq_append_getElem h, wts_append]; simp [wts]

def AddOk (t : Tm) : Prop := ∀ (v : Value) (w0 w : World) (sb n : Nat), TmAt w0 v t → t.small = true → Below w0.heap.size w0 w → w0.heap.size ≤ sb → n ≤ 300 → w.heap[sb]? = some (.cells #[.int .i64 n] 117 (0, 0)) →
  Calls Tryd.prog 69 #[.pointer (some ⟨sb, 0, none⟩), v] w fun e w' => ∃ m : Nat, e = .returned (.tuple #[]) ∧ m ≤ 2000 ∧ min m 301 = min (n + t.wt) 301 ∧ w'.heap[sb]? = some (.cells #[.int .i64 m] 117 (0, 0)) ∧ Fr (fun k => k = sb) w w'

theorem sb_fr {w0 w wr : World} {sb : Nat} (hb : Below w0.heap.size w0 w) (hs : w0.heap.size ≤ sb) (f : Fr (fun k => k = sb) w wr) : Below w0.heap.size w0 wr :=
  Fr.below hb f (fun i q => by omega) hb.size

theorem add_cell {w : World} {sb : Nat} {v : Value} (h : w.heap[sb]? = some (.cells #[v] 117 (0, 0))) (u1 u2 : Value) (o : Obj) : (((w.setCell ⟨sb, 0, none⟩ u1).setCell ⟨sb, 0, none⟩ u2).alloc o).drew.heap[sb]? = some (.cells #[u2] 117 (0, 0)) := by
  have h1 := block_set h 0 u1
  have h2 := block_set h1 0 u2
  have h3 := Below.heap_alloc ((w.setCell ⟨sb, 0, none⟩ u1).setCell ⟨sb, 0, none⟩ u2) o sb (Array.getElem?_eq_some_iff.1 h2).1
  exact h3.trans h2

theorem add_cell1 {w : World} {sb : Nat} {v : Value} (h : w.heap[sb]? = some (.cells #[v] 117 (0, 0))) (u1 : Value) (o : Obj) : ((w.setCell ⟨sb, 0, none⟩ u1).alloc o).heap[sb]? = some (.cells #[u1] 117 (0, 0)) := by
  have h1 := block_set h 0 u1
  exact (Below.heap_alloc (w.setCell ⟨sb, 0, none⟩ u1) o sb (Array.getElem?_eq_some_iff.1 h1).1).trans h1

theorem wts_le_take (l : List Tm) (j : Nat) : wts (l.take j) ≤ wts l := by
  have h := wts_append (l.take j) (l.drop j)
  rw [List.take_append_drop] at h
  omega

set_option maxHeartbeats 8000000 in
set_option maxRecDepth 100000 in
theorem add_of (k n' : Int) (neg : Bool) (mag : List Nat) (bits : Nat) (bytes : ByteArray) (args : List Tm) (ih : ∀ t ∈ args, AddOk t) : AddOk (.mk k n' neg mag bits bytes args) := by
  intro v w0 w sb n ht hsm hb hs hn hcell
  obtain ⟨k2, n2, neg2, mag2, bits2, bytes2, args2, mv, av, he, rfl, hk, hn2, hm, hml, hu, hbt, hsz, hts⟩ := ht.open
  cases he
  obtain ⟨ma, mcap, rfl, hq⟩ := hm
  obtain ⟨hl, a, acap, rfl, hc⟩ := hts
  obtain ⟨hm40, hb1000, hsa⟩ := small_parts hsm
  have HI := Lib.hid ih
  have HC := Lib.hid hc
  have HB := Lib.hid hb
  have HCELL := Lib.hid hcell
  have HSA := Lib.hid (smalls_mem hsa)
  have c0 := block_cell hcell 0
  have f0 := block_frozen hcell 0
  simp at c0
  have hlt : sb < w.heap.size := (Array.getElem?_eq_some_iff.1 hcell).1
  have hne : ¬ w.heap.size = sb := by omega
  have hne' : ¬ sb = w.heap.size := by omega
  unfold maxLen at hl
  have q1 : IntKind.i64.wrap ((n : Int) + 1) = (n : Int) + 1 := IntWalk.i64_in _ (by omega)
  clear ih hc hb hcell ht hq hml hsz hbt hu hk hn2 hsm hsa
  unfold termV
  by_cases hk2 : k = 2
  · subst hk2
    have q2 : IntKind.i64.wrap ((n : Int) + 1 + (mag.length : Int)) = (n : Int) + 1 + (mag.length : Int) := IntWalk.i64_in _ (by omega)
    go_enter Tryd.func69, Tryd.ntmps69
    go_wp2_with fail
    go_region
    all_goals go_wp2_with fail
    go_end0
    exact ⟨n + 1 + mag.length, rfl, by omega, by simp [Tm.wt]; omega, add_cell HCELL.out _ _ _, ((((Fr.refl (fun k => k = sb) w).setCell (p := ⟨sb, 0, none⟩) rfl _).setCell (p := ⟨sb, 0, none⟩) rfl _).alloc _).drew⟩
  by_cases hk9 : k = 9
  · subst hk9
    have q2 : IntKind.i64.wrap ((bytes.size : Int) / 8) = (bytes.size : Int) / 8 := IntWalk.i64_in _ (by omega)
    have q3 : IntKind.i64.wrap ((n : Int) + 1 + (bytes.size : Int) / 8) = (n : Int) + 1 + (bytes.size : Int) / 8 := IntWalk.i64_in _ (by omega)
    go_enter Tryd.func69, Tryd.ntmps69
    go_wp2_with fail
    go_region
    all_goals go_wp2_with fail
    go_end0
    exact ⟨n + 1 + bytes.size / 8, rfl, by omega, by simp [Tm.wt]; omega, add_cell HCELL.out _ _ _, ((((Fr.refl (fun k => k = sb) w).setCell (p := ⟨sb, 0, none⟩) rfl _).setCell (p := ⟨sb, 0, none⟩) rfl _).alloc _).drew⟩
  by_cases hk6 : k = 6 ∨ k = 8
  · have HWT := Lib.hid (show (Tm.mk k n' neg mag bits bytes args).wt = 1 + wts args by simp only [Tm.wt]; rw [if_neg hk2, if_neg hk9, if_pos hk6])
    rcases hk6 with rfl | rfl
    all_goals
      clear hk2 hk9
      go_enter Tryd.func69, Tryd.ntmps69
      go_wp2_with fail
      go_loopw [47] (fun i wr => ∃ (j m : Nat), j ≤ args.length ∧ i = .int .i64 j ∧ m ≤ 2000 ∧ Hid (min m 301 = min (n + 1 + wts (args.take j)) 301) ∧ Hid (wr.heap[sb]? = some (.cells #[.int .i64 m] 117 (0, 0))) ∧ Hid (Fr (fun k => k = sb) w wr)) (fun i _ => args.length - (intOf i).toNat)
      case atStart => exact ⟨0, n + 1, by omega, rfl, by omega, Lib.hid (by simp [wts]), Lib.hid (add_cell1 HCELL.out _ _), Lib.hid (((Fr.refl (fun k => k = sb) w).setCell (p := ⟨sb, 0, none⟩) rfl _).alloc _)⟩
      case round =>
        obtain ⟨j, m, hj, rfl, hm, HM, HW, HF⟩ := hrel
        have sz := HF.out.size
        have hsb : sb < wr.heap.size := by omega
        have d0 := block_cell HW.out 0
        have e0 := block_frozen HW.out 0
        simp at d0
        have r1 : ¬ wr.heap.size = sb := by omega
        have r2 : ¬ sb = wr.heap.size := by omega
        by_cases hlt' : j < args.length
        · obtain ⟨g, o, k', n2', neg', mv', bits', bytes', av', rfl, ht, p0, p1, p2, p3, p4, p5, p6, ⟨ma2, ml2, mc2, rfl⟩, ⟨aa2, al2, ac2, rfl⟩⟩ := HC.out j hlt'
          have HT := Lib.hid ht
          have B0 := sb_fr HB.out hs HF.out
          have up : ∀ {p : Addr} {v : Value}, w0.cell? p = some v → wr.cell? p = some v := fun q => (B0.cell (World.block_lt_of_cell? w0 _ q)).trans q
          have l0 := up p0
          have l1 := up p1
          have l2 := up p2
          have l3 := up p3
          have l4 := up p4
          have l5 := up p5
          have l6 := up p6
          have HB0 := Lib.hid B0
          have q4 : (j : Int) < (args.length : Int) := by omega
          have q5 : (0 : Int) ≤ (j : Int) := by omega
          have q6 : IntKind.i64.wrap ((j : Int) + 1) = (j : Int) + 1 := IntWalk.i64_in _ (by omega)
          clear p0 p1 p2 p3 p4 p5 p6 up B0 ht
          by_cases hg : 300 < m
          · have q7 : (300 : Int) < (m : Int) := by omega
            go_wp2_with fail
            refine bodyPost_ret (results_none rfl _ _ _) rfl ?_
            exact ⟨m, rfl, hm, by
              have h1 := HM.out
              have h2 := wts_le_take args j
              rw [HWT.out]; omega, (Below.heap_alloc wr _ _ hsb).trans HW.out, HF.out.alloc _⟩
          · have q7 : ¬ (300 : Int) < (m : Int) := by omega
            go_wp2_with fail
            refine ((HI.out args[j] (List.getElem_mem hlt')) _ w0 _ sb m HT.out (HSA.out _ (List.getElem_mem hlt')) (HB0.out.alloc HB0.out.size _) hs (by omega) ((Below.heap_alloc wr _ _ hsb).trans HW.out)).mono ?_
            rintro e w5 ⟨m5, rfl, hm5, hmin, hc5, f5⟩
            have HC5 := Lib.hid hc5
            have HF5 := Lib.hid ((HF.out.alloc _).trans f5)
            have HM5 := Lib.hid (show min m5 301 = min (n + 1 + wts (args.take (j + 1))) 301 by
              have h1 := HM.out
              rw [wts_take hlt']; omega)
            clear hc5 f5 hmin
            go_wp2_with fail
            go_roundw
            case rel => exact ⟨j + 1, m5, by omega, by go_num, hm5, HM5, HC5, HF5⟩
            case measure => simp [intOf]; omega
        · obtain rfl : j = args.length := by omega
          have q4 : ¬ ((args.length : Nat) : Int) < (args.length : Int) := by omega
          go_wp2_with fail
          go_end0
          exact ⟨rfl, m, hm, by
            have h1 := HM.out
            rw [List.take_length] at h1
            rw [HWT.out]; omega, HW.out, HF.out⟩
  · have hne6 : ¬ k = 6 := fun q => hk6 (.inl q)
    have hne8 : ¬ k = 8 := fun q => hk6 (.inr q)
    have b2 : (k == 2) = false := by simp [hk2]
    have b9 : (k == 9) = false := by simp [hk9]
    have b6 : (k == 6) = false := by simp [hne6]
    have b8 : (k == 8) = false := by simp [hne8]
    go_enter Tryd.func69, Tryd.ntmps69
    go_wp2_with fail
    go_end0
    exact ⟨n + 1, rfl, by omega, by simp [Tm.wt, hk2, hk9, hne6, hne8], add_cell1 HCELL.out _ _, ((Fr.refl (fun k => k = sb) w).setCell (p := ⟨sb, 0, none⟩) rfl _).alloc _⟩

theorem add_all : ∀ t : Tm, AddOk t := Tm.ind add_of

set_option maxHeartbeats 4000000 in
set_option maxRecDepth 100000 in
theorem weight_any (t : Tm) (v : Value) (w : World) (h : TmAt w v t) (hsm : t.small = true) : Calls Tryd.prog 56 #[v] w fun e w' => e = .returned (.int .i64 ((min t.wt 301 : Nat) : Int)) ∧ Below w.heap.size w w' := by
  obtain ⟨k, n, neg, mag, bits, bytes, args, mv, av, he, rfl, _, _, hms, _, _, _, _, hts⟩ := h.open
  obtain ⟨ma, mcap, rfl, _⟩ := hms
  obtain ⟨_, a, acap, rfl, _⟩ := hts
  have b1 := ((Below.refl w.heap.size w).alloc (Nat.le_refl _) (.cells #[.int .i64 k, .int .i64 n, .bool neg, .slice ma mag.length mcap, .int .u64 bits, .string bytes, .slice a args.length acap] 28)).alloc (by simp) (.cells #[.int .i64 0] 117)
  have B1 := Lib.hid b1
  have hsb : ((w.alloc (.cells #[.int .i64 k, .int .i64 n, .bool neg, .slice ma mag.length mcap, .int .u64 bits, .string bytes, .slice a args.length acap] 28)).alloc (.cells #[.int .i64 0] 117)).heap[w.heap.size + 1]? = some (.cells #[.int .i64 ((0 : Nat) : Int)] 117 (0, 0)) := by
    have := heap_alloc_new (w.alloc (.cells #[.int .i64 k, .int .i64 n, .bool neg, .slice ma mag.length mcap, .int .u64 bits, .string bytes, .slice a args.length acap] 28)) (.cells #[.int .i64 0] 117)
    simpa using this
  have HSB := Lib.hid hsb
  have HT := Lib.hid h
  clear b1 hsb h
  unfold termV
  go_enter Tryd.func56, Tryd.ntmps56
  go_wp2_with fail
  refine (add_all t _ w _ (w.heap.size + 1) 0 HT.out hsm B1.out (by omega) (by omega) HSB.out).mono ?_
  rintro e w2 ⟨m, rfl, hm, hmin, hc2, f2⟩
  have c0 := block_cell hc2 0
  have f0 := block_frozen hc2 0
  simp at c0
  have B2 := Lib.hid (Fr.below B1.out f2 (fun i q => by omega) B1.out.size)
  have hlt := (Array.getElem?_eq_some_iff.1 hc2).1
  rw [Nat.zero_add] at hmin
  go_wp2_with fail
  go_ret
  exact ⟨by show Ending.returned (.int .i64 (min (m : Int) 301)) = _; congr 2; omega, B2.out⟩

def RefWOk (t : Tm) : Prop := ∀ (v : Value) (w : World), TmAt w v t → t.small = true → Calls Tryd.prog 59 #[v] w fun e w' => e = .returned (.int .i64 ((min t.wt 301 : Nat) : Int)) ∧ Below w.heap.size w w'

theorem box_cells {w wr : World} {c : Array Value} {t : TypeId} (hb : Below (w.heap.size + 1) (w.alloc (.cells c t)) wr) (i : Nat) : wr.cell? ⟨w.heap.size, i, none⟩ = c[i]? :=
  (hb.cell (p := ⟨w.heap.size, i, none⟩) (by show w.heap.size < w.heap.size + 1; omega)).trans (World.cell?_alloc_at _ _ _ _ rfl)

theorem box_below {w wr : World} {o : Obj} (hb : Below (w.heap.size + 1) (w.alloc o) wr) : Below w.heap.size w wr :=
  ((Below.refl w.heap.size w).alloc (Nat.le_refl _) o).trans (hb.mono (by omega))

set_option maxHeartbeats 8000000 in
set_option maxRecDepth 100000 in
theorem refw_of (k n' : Int) (neg : Bool) (mag : List Nat) (bits : Nat) (bytes : ByteArray) (args : List Tm) (ih : ∀ t ∈ args, RefWOk t) : RefWOk (.mk k n' neg mag bits bytes args) := by
  intro v w ht hsm
  obtain ⟨k2, n2, neg2, mag2, bits2, bytes2, args2, mv, av, he, rfl, hk, hn2, hm, hml, hu, hbt, hsz, hts⟩ := ht.open
  cases he
  obtain ⟨ma, mcap, rfl, hq⟩ := hm
  obtain ⟨hl, a, acap, rfl, hc⟩ := hts
  obtain ⟨hm40, hb1000, hsa⟩ := small_parts hsm
  have HI := Lib.hid ih
  have HC := Lib.hid hc
  have HSA := Lib.hid (smalls_mem hsa)
  have B1 := Lib.hid ((Below.refl w.heap.size w).alloc (Nat.le_refl _) (.cells #[.int .i64 k, .int .i64 n', .bool neg, .slice ma mag.length mcap, .int .u64 bits, .string bytes, .slice a args.length acap] 28))
  unfold maxLen at hl
  clear ih hc ht hq hml hsz hbt hu hk hn2 hsm hsa
  unfold termV
  by_cases hk2 : k = 2
  · subst hk2
    have q2 : IntKind.i64.wrap (1 + min (mag.length : Int) 300) = 1 + min (mag.length : Int) 300 := IntWalk.i64_in _ (by omega)
    go_enter Tryd.func59, Tryd.ntmps59
    go_wp2_with fail
    go_ret
    exact ⟨by show Ending.returned (.int .i64 (min (1 + min (mag.length : Int) 300) 301)) = _; simp only [Tm.wt, if_true]; congr 2; omega, B1.out⟩
  by_cases hk9 : k = 9
  · subst hk9
    have q2 : IntKind.i64.wrap ((bytes.size : Int) / 8) = (bytes.size : Int) / 8 := IntWalk.i64_in _ (by omega)
    have q3 : IntKind.i64.wrap (1 + min ((bytes.size : Int) / 8) 300) = 1 + min ((bytes.size : Int) / 8) 300 := IntWalk.i64_in _ (by omega)
    go_enter Tryd.func59, Tryd.ntmps59
    go_wp2_with fail
    go_ret
    exact ⟨by show Ending.returned (.int .i64 (min (1 + min ((bytes.size : Int) / 8) 300) 301)) = _; simp only [Tm.wt, if_neg hk2, if_true]; congr 2; omega, B1.out⟩
  by_cases hk6 : k = 6 ∨ k = 8
  · have HWT := Lib.hid (show (Tm.mk k n' neg mag bits bytes args).wt = 1 + wts args by simp only [Tm.wt]; rw [if_neg hk2, if_neg hk9, if_pos hk6])
    rcases hk6 with rfl | rfl
    all_goals
      clear hk2 hk9
      go_enter Tryd.func59, Tryd.ntmps59
      go_wp2_with fail
      go_loopw [3, 4] (fun s i wr => ∃ (j r : Nat), j ≤ args.length ∧ s = .int .i64 r ∧ i = .int .i64 j ∧ r ≤ 700 ∧ Hid (min r 301 = min (1 + wts (args.take j)) 301) ∧ Hid (Below (w.heap.size + 1) (w.alloc (.cells #[.int .i64 _, .int .i64 n', .bool neg, .slice ma mag.length mcap, .int .u64 bits, .string bytes, .slice a args.length acap] 28)) wr)) (fun _ i _ => args.length - (intOf i).toNat)
      case atStart => exact ⟨0, 1, by omega, rfl, rfl, by omega, Lib.hid (by simp [wts]), Lib.hid (Below.refl _ _)⟩
      case round =>
        obtain ⟨j, r, hj, rfl, rfl, hr, HM, HBX⟩ := hrel
        have d6 := box_cells HBX.out 6
        simp at d6
        have B0 := box_below HBX.out
        have HB0 := Lib.hid B0
        have sz : w.heap.size + 1 ≤ wr.heap.size := by have := HBX.out.size; simpa using this
        by_cases hlt' : j < args.length
        · have q4 : (j : Int) < (args.length : Int) := by omega
          have q5 : (0 : Int) ≤ (j : Int) := by omega
          have q6 : IntKind.i64.wrap ((j : Int) + 1) = (j : Int) + 1 := IntWalk.i64_in _ (by omega)
          by_cases hg : r ≤ 300
          · have q7 : (r : Int) ≤ 300 := by omega
            obtain ⟨g, o, k', n2', neg', mv', bits', bytes', av', rfl, ht, p0, p1, p2, p3, p4, p5, p6, ⟨ma2, ml2, mc2, rfl⟩, ⟨aa2, al2, ac2, rfl⟩⟩ := HC.out j hlt'
            have HT := Lib.hid (ht.lift B0)
            have up : ∀ {p : Addr} {v : Value}, w.cell? p = some v → wr.cell? p = some v := fun q => (B0.cell (World.block_lt_of_cell? w _ q)).trans q
            have l0 := up p0
            have l1 := up p1
            have l2 := up p2
            have l3 := up p3
            have l4 := up p4
            have l5 := up p5
            have l6 := up p6
            clear p0 p1 p2 p3 p4 p5 p6 up B0 ht
            go_wp2_with fail
            refine ((HI.out args[j] (List.getElem_mem hlt')) _ wr HT.out (HSA.out _ (List.getElem_mem hlt'))).mono ?_
            rintro e w5 ⟨rfl, hb5⟩
            have HB5 := Lib.hid (HBX.out.trans (hb5.mono sz))
            have q8 : IntKind.i64.wrap ((r : Int) + ((min args[j].wt 301 : Nat) : Int)) = (r : Int) + ((min args[j].wt 301 : Nat) : Int) := IntWalk.i64_in _ (by omega)
            have HM5 := Lib.hid (show min (r + min args[j].wt 301) 301 = min (1 + wts (args.take (j + 1))) 301 by
              have h1 := HM.out
              rw [wts_take hlt']; omega)
            clear hb5
            go_wp2_with fail
            go_roundw
            case rel => exact ⟨j + 1, r + min args[j].wt 301, by omega, by simp, by go_num, by omega, HM5, HB5⟩
            case measure => simp [intOf]; omega
          · have q7 : ¬ (r : Int) ≤ 300 := by omega
            go_wp2_with fail
            go_ret
            exact ⟨by
              show Ending.returned (.int .i64 (min (r : Int) 301)) = _
              have h1 := HM.out
              have h2 := wts_le_take args j
              rw [HWT.out]; congr 2; omega, HB0.out⟩
        · obtain rfl : j = args.length := by omega
          have q4 : ¬ ((args.length : Nat) : Int) < (args.length : Int) := by omega
          go_wp2_with fail
          go_ret
          exact ⟨by
            show Ending.returned (.int .i64 (min (r : Int) 301)) = _
            have h1 := HM.out
            rw [List.take_length] at h1
            rw [HWT.out]; congr 2; omega, HB0.out⟩
  · have hne6 : ¬ k = 6 := fun q => hk6 (.inl q)
    have hne8 : ¬ k = 8 := fun q => hk6 (.inr q)
    have b2 : (k == 2) = false := by simp [hk2]
    have b9 : (k == 9) = false := by simp [hk9]
    have b6 : (k == 6) = false := by simp [hne6]
    have b8 : (k == 8) = false := by simp [hne8]
    go_enter Tryd.func59, Tryd.ntmps59
    go_wp2_with fail
    go_ret
    exact ⟨by simp [Tm.wt, hk2, hk9, hne6, hne8]; rfl, B1.out⟩

theorem refw_all : ∀ t : Tm, RefWOk t := Tm.ind refw_of

end Go.Proofs.YtohgkfnbjfhniaaDoor
