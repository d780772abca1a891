/-
  A term is the same as itself: SameLimbs, SameNum, SameTerms, SameTerm.
-/
import Derived.Test.YtohgkfnbjfhniaaYi
namespace Go.Proofs.Ytohgkfnbjfhniaa
open Go.RowKit

/-- By a term's parts. -/
theorem Tm.ind {P : Tm → Prop} (h : ∀ k n neg mag bits bytes args, (∀ t ∈ args, P t) → P (.mk k n neg mag bits bytes args)) : ∀ t, P t
  | .mk k n neg mag bits bytes args => h k n neg mag bits bytes args (fun t _ => Tm.ind h t)
termination_by t => SizeOf.sizeOf t
decreasing_by
  rename_i ht
  have := List.sizeOf_lt_of_mem ht
  simp
  omega

theorem TmAt.lower {P : Nat → Prop} {w w' : World} {v : Value} {t : Tm} (h : TmAt P w v t) (hb : Below w.heap.size w w') : TmAt P w' v t := h.lift (fun k _ hk => hb.block k hk)

theorem MsP.below {P : Nat → Prop} {w w' : World} {v : Value} {l : List Nat} (h : MsP P w v l) (hb : Below w.heap.size w w') : MsP P w' v l := h.lift (fun k _ hk => hb.block k hk)

def TrueEnd (w w' : World) (e : Ending) : Prop := e = .returned (.bool true) ∧ Below w.heap.size w w'

set_option maxHeartbeats 2000000 in
theorem limbs_same (P P' : Nat → Prop) (m : List Nat) (v v' : Value) (w : World) (h : MsP P w v m) (h' : MsP P' w v' m) (hl : m.length ≤ maxLen) : Calls Try.prog 49 #[v, v'] w fun e w' => TrueEnd w w' e := by
  obtain ⟨a, c, rfl, hc⟩ := h
  obtain ⟨a', c', rfl, hc'⟩ := h'
  have HC := Lib.hid hc
  have HC' := Lib.hid hc'
  unfold maxLen at hl
  clear hc hc'
  go_enter Try.func49, Try.ntmps49
  go_wp2_with fail
  go_loopw [5] (fun i wr => ∃ (k : Nat), k ≤ m.length ∧ i = .int .i64 k ∧ Hid (Below w.heap.size w wr)) (fun i _ => m.length - (intOf i).toNat)
  case atStart => exact ⟨0, by omega, rfl, Lib.hid (Below.refl _ _)⟩
  case round =>
    obtain ⟨k, hk, rfl, HB⟩ := hrel
    by_cases hlt : k < m.length
    · have q1 : (k : Int) < (m.length : Int) := by omega
      have q0 : (0 : Int) ≤ (k : Int) := by omega
      obtain ⟨g, o, rfl, -, k0⟩ := HC.out k hlt
      obtain ⟨g', o', rfl, -, k1⟩ := HC'.out k hlt
      have k0 := (HB.out.cell (World.block_lt_of_cell? w _ k0)).trans k0
      have k1 := (HB.out.cell (World.block_lt_of_cell? w _ k1)).trans k1
      obtain ⟨x, hx⟩ : ∃ x, m[k]'hlt = x := ⟨_, rfl⟩
      rw [hx] at k0 k1
      clear hx
      have q2 : ((x : Int) != (x : Int)) = false := by simp
      have QK := Lib.hid (show k + 1 ≤ m.length ∧ m.length - (k + 1) < m.length - k by omega)
      go_upto_region 6 with fail
      go_quiet (fail)
      have q5 : IntKind.i64.wrap ((k : Int) + 1) = (k : Int) + 1 := IntWalk.i64_in _ (by omega)
      go_wp2_with fail
      go_roundw
      case rel => exact ⟨k + 1, QK.out.1, by go_num, Lib.hid (HB.out.trans ((drewN_below _).mono HB.out.size))⟩
      case measure => clear q5; have := QK.out.2; simp [intOf]; omega
    · obtain rfl : k = m.length := by omega
      have q1 : ¬ (m.length : Int) < (m.length : Int) := by omega
      go_wp2_with fail
      go_ret
      exact ⟨rfl, HB.out⟩

theorem two_at' (w : World) (o o' : Obj) : ((w.alloc o).alloc o').heap[w.heap.size]? = some o ∧ ((w.alloc o).alloc o').heap[w.heap.size + 1]? = some o' ∧ Below w.heap.size w ((w.alloc o).alloc o') := by
  have T := two_at w o o'
  exact ⟨T.1, T.2.1, T.2.2.2⟩

set_option maxHeartbeats 2000000 in
theorem num_same (P P' : Nat → Prop) (neg : Bool) (m : List Nat) (v v' : Value) (w : World) (h : MsP P w v m) (h' : MsP P' w v' m) (hl : m.length ≤ maxLen) : Calls Try.prog 31 #[.agg #[.bool neg, v], .agg #[.bool neg, v']] w fun e w' => TrueEnd w w' e := by
  have HM := Lib.hid h
  have HM' := Lib.hid h'
  have HL := Lib.hid hl
  obtain ⟨a, c, rfl, -⟩ := h
  obtain ⟨a', c', rfl, -⟩ := h'
  clear hl
  have T := two_at' w (.cells #[.bool neg, .slice a m.length c] 36) (.cells #[.bool neg, .slice a' m.length c'] 36)
  go_enter Try.func31, Try.ntmps31
  go_upto_region 1 with fail
  generalize (w.alloc (.cells #[.bool neg, .slice a m.length c] 36)).alloc (.cells #[.bool neg, .slice a' m.length c'] 36) = W at *
  have A0 := Lib.hid T.1
  have A1 := Lib.hid T.2.1
  have AB := Lib.hid T.2.2
  clear T
  have c0 := cell_of A0.out 0
  have c1 := cell_of A0.out 1
  have d0 := cell_of A1.out 0
  have d1 := cell_of A1.out 1
  simp at c0 c1 d0 d1
  have q : (neg == neg) = true := by simp
  go_wp2_with fail
  refine (limbs_same P P' m _ _ W (HM.out.below AB.out) (HM'.out.below AB.out) HL.out).mono ?_
  rintro e w2 ⟨rfl, hb⟩
  have HB := Lib.hid (AB.out.trans (hb.mono AB.out.size))
  clear hb c0 c1 d0 d1
  go_wp2_with fail
  go_ret
  exact ⟨rfl, HB.out⟩

/-- A term's value is the same as another one's. -/
def SameOK (t : Tm) : Prop := ∀ (P P' : Nat → Prop) (v v' : Value) (w : World), TmAt P w v t → TmAt P' w v' t → Calls Try.prog 17 #[v, v'] w fun e w' => TrueEnd w w' e

set_option maxHeartbeats 4000000 in
set_option maxRecDepth 100000 in
theorem terms_same (P P' : Nat → Prop) (args : List Tm) (a a' : Option Addr) (c c' : Nat) (w : World) (cells cells' : Nat → Array Value)
    (hc : ∀ j, j < args.length → ∃ g o, a = some ⟨g, o, none⟩ ∧ P g ∧ ∀ i, i < 7 → w.cell? ⟨g, o + j * 7 + i, none⟩ = (cells j)[i]?) (ht : ∀ j, (hj : j < args.length) → TmAt P w (.agg (cells j)) args[j])
    (hc' : ∀ j, j < args.length → ∃ g o, a' = some ⟨g, o, none⟩ ∧ P' g ∧ ∀ i, i < 7 → w.cell? ⟨g, o + j * 7 + i, none⟩ = (cells' j)[i]?) (ht' : ∀ j, (hj : j < args.length) → TmAt P' w (.agg (cells' j)) args[j])
    (hl : args.length ≤ maxLen) (ih : ∀ t ∈ args, SameOK t) : Calls Try.prog 32 #[.slice a args.length c, .slice a' args.length c'] w fun e w' => TrueEnd w w' e := by
  have HC := Lib.hid hc
  have HT := Lib.hid ht
  have HC' := Lib.hid hc'
  have HT' := Lib.hid ht'
  have IH := Lib.hid ih
  unfold maxLen at hl
  clear hc ht hc' ht' ih
  go_enter Try.func32, Try.ntmps32
  go_wp2_with fail
  go_loopw [5] (fun i wr => ∃ (k : Nat), k ≤ args.length ∧ i = .int .i64 k ∧ Hid (Below w.heap.size w wr)) (fun i _ => args.length - (intOf i).toNat)
  case atStart => exact ⟨0, by omega, rfl, Lib.hid (Below.refl _ _)⟩
  case round =>
    obtain ⟨k, hk, rfl, HB⟩ := hrel
    by_cases hlt : k < args.length
    · have q1 : (k : Int) < (args.length : Int) := by omega
      have q0 : (0 : Int) ≤ (k : Int) := by omega
      obtain ⟨g, o, rfl, -, k0⟩ := HC.out k hlt
      obtain ⟨g', o', rfl, -, k1⟩ := HC'.out k hlt
      have h1 := HT.out k hlt
      have h1' := HT'.out k hlt
      have HI := Lib.hid (IH.out _ (List.getElem_mem hlt))
      obtain ⟨t, htt⟩ : ∃ t, args[k]'hlt = t := ⟨_, rfl⟩
      rw [htt] at h1 h1' HI
      clear htt
      obtain ⟨e0, e1, e2, e3, e4, e5, e6, e7, e8, e9, e10, hcv⟩ := h1.shape
      obtain ⟨d0, d1, d2, d3, d4, d5, d6, d7, d8, d9, d10, hcv'⟩ := h1'.shape
      simp only [Value.agg.injEq] at hcv hcv'
      rw [hcv] at k0 h1
      rw [hcv'] at k1 h1'
      have HV := Lib.hid h1
      have HV' := Lib.hid h1'
      have up := fun {p : Addr} {v : Value} (q : w.cell? p = some v) => (HB.out.cell (World.block_lt_of_cell? w _ q)).trans q
      have x0 := up (k0 0 (by omega))
      have x1 := up (k0 1 (by omega))
      have x2 := up (k0 2 (by omega))
      have x3 := up (k0 3 (by omega))
      have x4 := up (k0 4 (by omega))
      have x5 := up (k0 5 (by omega))
      have x6 := up (k0 6 (by omega))
      have y0 := up (k1 0 (by omega))
      have y1 := up (k1 1 (by omega))
      have y2 := up (k1 2 (by omega))
      have y3 := up (k1 3 (by omega))
      have y4 := up (k1 4 (by omega))
      have y5 := up (k1 5 (by omega))
      have y6 := up (k1 6 (by omega))
      have DB := Lib.hid (show Below wr.heap.size wr wr.drew from (Below.refl _ _).drew)
      clear k0 k1 h1 h1' hcv hcv' up
      have QK := Lib.hid (show k + 1 ≤ args.length ∧ args.length - (k + 1) < args.length - k by omega)
      go_upto_region 6 with fail
      refine wp_region_still_tail 8 (by kernel_rfl) (by kernel_rfl) ?_
      simp only [List.take_succ_cons, List.take_zero, List.drop_succ_cons, List.drop_zero]
      change wpStill _ _ wr.drew (fun a' => wpList _ _ _ _ a' wr.drew) _ _
      have x0 : wr.drew.cell? _ = _ := x0
      have x1 : wr.drew.cell? _ = _ := x1
      have x2 : wr.drew.cell? _ = _ := x2
      have x3 : wr.drew.cell? _ = _ := x3
      have x4 : wr.drew.cell? _ = _ := x4
      have x5 : wr.drew.cell? _ = _ := x5
      have x6 : wr.drew.cell? _ = _ := x6
      have y0 : wr.drew.cell? _ = _ := y0
      have y1 : wr.drew.cell? _ = _ := y1
      have y2 : wr.drew.cell? _ = _ := y2
      have y3 : wr.drew.cell? _ = _ := y3
      have y4 : wr.drew.cell? _ = _ := y4
      have y5 : wr.drew.cell? _ = _ := y5
      have y6 : wr.drew.cell? _ = _ := y6
      generalize wr.drew = wd at *
      simp at x0 x1 x2 x3 x4 x5 x6 y0 y1 y2 y3 y4 y5 y6
      have HBD := Lib.hid (HB.out.trans (DB.out.mono HB.out.size))
      repeat still_step
      refine wpStill_nil ?_
      go_wp2_with fail
      have HC := HI.out P P' _ _ wd (HV.out.lower HBD.out) (HV'.out.lower HBD.out)
      with_reducible refine HC.mono ?_
      clear HC
      rintro e w6 ⟨rfl, hb6⟩
      have HB6 := Lib.hid (HBD.out.trans (hb6.mono HBD.out.size))
      clear hb6 x0 x1 x2 x3 x4 x5 x6 y0 y1 y2 y3 y4 y5 y6
      have q5 : IntKind.i64.wrap ((k : Int) + 1) = (k : Int) + 1 := IntWalk.i64_in _ (by omega)
      go_wp2_with fail
      go_roundw
      case rel => exact ⟨k + 1, QK.out.1, by go_num, HB6⟩
      case measure => clear q5; have := QK.out.2; simp [intOf]; omega
    · obtain rfl : k = args.length := by omega
      have q1 : ¬ (args.length : Int) < (args.length : Int) := by omega
      go_wp2_with fail
      go_ret
      exact ⟨rfl, HB.out⟩

theorem cells_low {P : Nat → Prop} {args : List Tm} {a : Option Addr} {w w' : World} {cells : Nat → Array Value}
    (hc : ∀ j, j < args.length → ∃ g o, a = some ⟨g, o, none⟩ ∧ P g ∧ ∀ i, i < 7 → w.cell? ⟨g, o + j * 7 + i, none⟩ = (cells j)[i]?) (ht : ∀ j, (hj : j < args.length) → TmAt P w (.agg (cells j)) args[j]) (hb : Below w.heap.size w w') :
    ∀ j, j < args.length → ∃ g o, a = some ⟨g, o, none⟩ ∧ P g ∧ ∀ i, i < 7 → w'.cell? ⟨g, o + j * 7 + i, none⟩ = (cells j)[i]? := by
  intro j hj
  obtain ⟨g, o, e, hp, k⟩ := hc j hj
  refine ⟨g, o, e, hp, fun i hi => ?_⟩
  obtain ⟨u, hu⟩ := (ht j hj).seven i hi
  have h1 := k i hi
  rw [hu] at h1 ⊢
  exact (hb.cell (World.block_lt_of_cell? w _ h1)).trans h1

set_option maxHeartbeats 4000000 in
set_option maxRecDepth 100000 in
theorem same_any : ∀ t : Tm, SameOK t := by
  refine Tm.ind fun k n neg mag bits bytes args ih => ?_
  intro P P' v v' w h h'
  cases h with
  | @mk _ _ _ _ _ _ _ mv a cap cells hk hn hm hml hu hbt hs hal hc ht =>
    cases h' with
    | @mk _ _ _ _ _ _ _ mv' a' cap' cells' _ _ hm' _ _ _ _ _ hc' ht' =>
      have HM := Lib.hid hm
      have HM' := Lib.hid hm'
      have HML := Lib.hid hml
      have HAL := Lib.hid hal
      have HC := Lib.hid hc
      have HT := Lib.hid ht
      have HC' := Lib.hid hc'
      have HT' := Lib.hid ht'
      have IH := Lib.hid ih
      obtain ⟨ma, mc, rfl, -⟩ := hm
      obtain ⟨ma', mc', rfl, -⟩ := hm'
      clear hml hal hc ht hc' ht' ih hk hn hu hbt hs
      have T := two_at' w (.cells #[.int .i64 k, .int .i64 n, .bool neg, .slice ma mag.length mc, .int .u64 bits, .string bytes, .slice a args.length cap] 40) (.cells #[.int .i64 k, .int .i64 n, .bool neg, .slice ma' mag.length mc', .int .u64 bits, .string bytes, .slice a' args.length cap'] 40)
      go_enter Try.func17, Try.ntmps17
      go_upto_region 1 with fail
      generalize (w.alloc (.cells #[.int .i64 k, .int .i64 n, .bool neg, .slice ma mag.length mc, .int .u64 bits, .string bytes, .slice a args.length cap] 40)).alloc (.cells #[.int .i64 k, .int .i64 n, .bool neg, .slice ma' mag.length mc', .int .u64 bits, .string bytes, .slice a' args.length cap'] 40) = W at *
      have A0 := Lib.hid T.1
      have A1 := Lib.hid T.2.1
      have AB := Lib.hid T.2.2
      clear T
      have c := fun i => cell_of A0.out i
      have d := fun i => cell_of A1.out i
      have q1 : (k == k) = true := by simp
      have q2 : (n == n) = true := by simp
      go_wp2_with fail
      clear c d q1 q2
      refine (num_same P P' neg mag _ _ W (HM.out.below AB.out) (HM'.out.below AB.out) HML.out).mono ?_
      rintro e w2 ⟨rfl, hb⟩
      have B0 := Lib.hid ((hb.block _ (lt_of_block A0.out)).trans A0.out)
      have B1 := Lib.hid ((hb.block _ (lt_of_block A1.out)).trans A1.out)
      have BB := Lib.hid (AB.out.trans (hb.mono AB.out.size))
      have c := fun i => cell_of B0.out i
      have d := fun i => cell_of B1.out i
      have q1 : ((bits : Int) == (bits : Int)) = true := by simp
      clear hb
      go_wp2_with fail
      clear c d q1
      have HX := terms_same P P' args a a' cap cap' w2 cells cells' (cells_low HC.out HT.out BB.out) (fun j hj => (HT.out j hj).lower BB.out) (cells_low HC'.out HT'.out BB.out) (fun j hj => (HT'.out j hj).lower BB.out) HAL.out IH.out
      with_reducible refine HX.mono ?_
      clear HX
      rintro e w3 ⟨rfl, hb⟩
      have CB := Lib.hid (BB.out.trans (hb.mono BB.out.size))
      clear hb
      go_wp2_with fail
      go_ret
      exact ⟨rfl, CB.out⟩

/-! ### A word that is moved -/

set_option maxHeartbeats 1000000 in
theorem moved_any (x b : Nat) (hx : x < 18446744073709551616) (hb : b ≤ 1000) (W : World) : Calls Try.prog 16 #[.int .u64 x, .int .i64 b] W fun e W' => e = .returned (.int .u64 ((mvW b x : Nat) : Int)) ∧ W = W' := by
  have HX := Lib.hid hx
  obtain ⟨m, hm⟩ : ∃ m, mvW b x = m := ⟨_, rfl⟩
  have HMV := Lib.hid hm
  have HMB := Lib.hid (show m < 18446744073709551616 by rw [← hm]; exact mv_lt hb hx)
  rw [hm]
  clear hm
  go_enter Try.func16, Try.ntmps16
  go_wp2_with fail
  refine (tag8_any x hx W).mono ?_
  rintro e w ⟨rfl, rfl⟩
  by_cases ht : tagW x = 4 ∨ tagW x = 5
  · have HT := Lib.hid ht
    rcases ht with h4 | h4
    all_goals
      rw [h4]
      go_wp2_with fail
      refine (load8_any x HX.out W).mono ?_
      rintro e w ⟨rfl, rfl⟩
      by_cases hl : loadW x ≤ 1125899906842624
      · have HE := Lib.hid (show m = x + b * 8 by rw [← HMV.out]; unfold mvW; rw [if_pos ⟨HT.out, hl⟩])
        have p1 : ¬ (1125899906842624 : Int) < loadW x := by omega
        have p2 : IntKind.u64.wrap (b : Int) = (b : Int) := by rw [IntKind.wrap_u64]; omega
        have p3 : IntKind.u64.wrap ((b : Int) * 8) = ((b * 8 : Nat) : Int) := by rw [IntKind.wrap_u64]; omega
        have p4 : IntKind.u64.wrap ((x : Int) + ((b * 8 : Nat) : Int)) = (m : Int) := by
          have := HMB.out
          rw [HE.out] at this ⊢
          rw [IntKind.wrap_u64]; omega
        clear h4
        generalize loadW x = l at *
        generalize b * 8 = y at *
        go_wp2_with fail
        go_ret
        exact ⟨rfl, rfl⟩
      · have HE := Lib.hid (show (m : Int) = (x : Int) by rw [← HMV.out, mv_far (by omega)])
        have p1 : (1125899906842624 : Int) < loadW x := by omega
        clear h4
        generalize loadW x = l at *
        go_wp2_with fail
        go_ret
        exact ⟨by rw [HE.out]; rfl, rfl⟩
  · have HE := Lib.hid (show (m : Int) = (x : Int) by rw [← HMV.out, mv_same ht])
    have p1 : (((tagW x : Nat) : Int) != 4) = true := by
      have : ((tagW x : Nat) : Int) ≠ 4 := by omega
      simpa using this
    have p2 : (((tagW x : Nat) : Int) != 5) = true := by
      have : ((tagW x : Nat) : Int) ≠ 5 := by omega
      simpa using this
    clear ht
    generalize tagW x = t at *
    go_wp2_with fail
    go_ret
    exact ⟨by rw [HE.out]; rfl, rfl⟩

end Go.Proofs.Ytohgkfnbjfhniaa
