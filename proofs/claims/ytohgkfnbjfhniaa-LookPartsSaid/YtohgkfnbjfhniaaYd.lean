/-
  What every program answers that is one: awake of chapter 12.
-/
import Derived.Test.YtohgkfnbjfhniaaYc
namespace Go.Proofs.Ytohgkfnbjfhniaa
open Go.RowKit

def pairD : Dmp := ⟨(5, [8, 16]), (0, []), 2, 0, [], [45], []⟩

def PairEnd (w' : World) (e : Ending) : Prop := ∃ v, e = .returned v ∧ DmAt w' v pairD

theorem Is.nil (w : World) : Is w (.slice none 0 0) [] :=
  ⟨by simp, (fun x hx => by cases hx), none, 0, rfl, by simp, by unfold maxLen; omega, fun j hj => by simp at hj⟩

theorem RsAt.nil (w : World) : RsAt w (.slice none 0 0) [] := ⟨by simp, none, 0, rfl, fun j hj => by simp at hj⟩

theorem SlAt.nil (w : World) : SlAt w (.slice none 0 0) [] := ⟨by simp, none, 0, rfl, fun j hj => by simp at hj⟩

theorem ws_block {w : World} {b : Nat} {l : List Nat} {t : TypeId} (h : w.heap[b]? = some (.cells (l.map fun (x : Nat) => Value.int .u64 (x : Int)).toArray t (0, 0))) (hl : l.length ≤ maxLen) (hu : ∀ x ∈ l, x < 18446744073709551616) : Ws w (.slice (some ⟨b, 0, none⟩) l.length l.length) l :=
  ⟨hl, hu, _, _, rfl, Nat.le_refl _, hl, fun j hj => ⟨b, 0, rfl, by simp [World.cell?, h, hj]⟩⟩

theorem pair_at {w' : World} {g1 g2 : Nat} (h1 : w'.heap[g1]? = some (.cells #[.int .u64 8, .int .u64 16] 37 (0, 0))) (h2 : w'.heap[g2]? = some (.cells #[.int .u64 45] 37 (0, 0))) :
    DmAt w' (.agg #[.int .i64 5, .slice (some ⟨g1, 0, none⟩) 2 2, .int .i64 0, .slice none 0 0, .int .i64 2, .int .i64 0, .slice none 0 0, .slice (some ⟨g2, 0, none⟩) 1 1, .slice none 0 0]) pairD := by
  refine ⟨_, _, _, _, _, _, _, rfl, ⟨by decide, rfl, _, _, rfl, ?_⟩, ⟨by decide, rfl, _, _, rfl, Ws.nil _⟩, by decide, by decide, RsAt.nil _, ?_, Is.nil _⟩
  · exact ws_block (l := [8, 16]) h1 (by unfold maxLen; decide) (by decide)
  · exact ws_block (l := [45]) h2 (by unfold maxLen; decide) (by decide)

theorem three_at (w : World) (o1 o2 o3 : Obj) : (((w.alloc o1).alloc o2).alloc o3).heap[w.heap.size + 1]? = some o2 ∧ (((w.alloc o1).alloc o2).alloc o3).heap[w.heap.size + 1 + 1]? = some o3 ∧ Below w.heap.size w (((w.alloc o1).alloc o2).alloc o3) := by
  have h1 := World.alloc_heap_new (w.alloc o1) o2
  have h2 := World.alloc_heap_new ((w.alloc o1).alloc o2) o3
  have e1 : (w.alloc o1).heap.size = w.heap.size + 1 := by simp
  have e2 : ((w.alloc o1).alloc o2).heap.size = w.heap.size + 1 + 1 := by simp
  rw [e1] at h1
  rw [e2] at h2
  exact ⟨(Below.heap_alloc _ o3 _ (by rw [e2]; omega)).trans h1, h2, (((Below.refl _ _).alloc (Nat.le_refl _) _).alloc (by simp) _).alloc (by simp; omega) _⟩

set_option maxHeartbeats 4000000 in
set_option maxRecDepth 100000 in
theorem pair_any (w : World) : Calls Try.prog 23 #[] w fun e w' => PairEnd w' e ∧ Below w.heap.size w w' := by
  have T := three_at w (.cells #[.int .i64 5, .slice (some ⟨w.heap.size + 1, 0, none⟩) 2 2, .int .i64 0, .slice none 0 0, .int .i64 2, .int .i64 0, .slice none 0 0, .slice (some ⟨w.heap.size + 1 + 1, 0, none⟩) 1 1, .slice none 0 0] 28) (.cells #[.int .u64 8, .int .u64 16] 37) (.cells #[.int .u64 45] 37)
  have HT := Lib.hid T
  clear T
  go_enter Try.func23, Try.ntmps23
  go_wp2_with fail
  refine bodyPost_ret (v := .agg #[.int .i64 5, .slice (some ⟨w.heap.size + 1, 0, none⟩) 2 2, .int .i64 0, .slice none 0 0, .int .i64 2, .int .i64 0, .slice none 0 0, .slice (some ⟨w.heap.size + 1 + 1, 0, none⟩) 1 1, .slice none 0 0]) (by simp [results, Try.results23, go_sem]) rfl ⟨⟨_, rfl, pair_at HT.out.1 HT.out.2.1⟩, HT.out.2.2⟩

/-- The term that its root stands for. -/
def pairT : Tm := .mk 8 0 false [] 0 ⟨#[]⟩ [.mk 1 1 false [] 0 ⟨#[]⟩ [], .mk 1 2 false [] 0 ⟨#[]⟩ []]

theorem pair_read : readP true [] pairD.mem 45 = some pairT := by rfl

theorem pair_reach {s : Spt} (h : Reach pairD.mem [45] s) : s = (5, 5) := by
  induction h with
  | root hx ht _ =>
    rw [List.mem_singleton] at hx
    subst hx
    rw [show toP 45 = some (5, 5) from rfl] at ht
    exact (Option.some.inj ht).symm
  | step _ ho hx ht _ ih =>
    subst ih
    rw [show objP pairD.mem 5 5 = some (-1, [8, 16]) from rfl] at ho
    cases ho
    rw [show leadW (-1) [8, 16] = [8, 16] from rfl] at hx
    rcases List.mem_cons.1 hx with rfl | hx
    · cases ht
    · rw [List.mem_singleton] at hx
      subst hx
      cases ht

theorem pair_right : WhyP pairD [] := ⟨by rfl, by rfl, by rfl, by rfl, fun s hs hh => by rw [pair_reach hs] at hh; cases hh⟩

theorem pair_live : liveP pairD.mem pairD.roots = 2 := by
  have h : ReachL pairD.mem [45] [(5, 5)] := by
    refine ⟨by simp, fun s => ⟨fun h => ?_, fun h => by rw [pair_reach h]; simp⟩⟩
    rw [List.mem_singleton] at h
    subst h
    exact .root (x := 45) (by simp) rfl rfl
  rw [show pairD.roots = [45] from rfl, liveP_of h]; rfl

def badD : Dmp := { pairD with mark := 3 }

theorem bad_why : whyT badD [] = ⟨#[114, 101, 103, 105, 111, 110, 115]⟩ := whyT_1 (by rfl)

theorem pair_ok : DmOk pairD := ⟨by decide, by decide, by decide, by decide⟩

theorem bad_ok : DmOk badD := ⟨by decide, by decide, by decide, by decide⟩

theorem DmAt.bad {w : World} {a b c d' e f g r h : Value} (hd : DmAt w (.agg #[a, b, c, d', e, f, g, r, h]) pairD) : DmAt w (.agg #[a, b, c, d', e, .int .i64 3, g, r, h]) badD := by
  obtain ⟨a1, b1, a2, b2, f1, r1, h1, he, k1, k2, k3, k4, k5, k6, k7⟩ := hd
  simp only [dmpV, Value.agg.injEq, Array.mk.injEq, List.cons.injEq, and_true] at he
  obtain ⟨rfl, rfl, rfl, rfl, rfl, rfl, rfl, rfl, rfl⟩ := he
  exact ⟨_, _, _, _, _, _, _, rfl, k1, k2, k3, by decide, k5, k6, k7⟩

/-- What is read of the pair's root, as cells. -/
theorem pairT_at {P : Nat → Prop} {w : World} {v : Value} (h : TmAt P w v pairT) : ∃ ma ml mc by_ g o c, v = .agg #[.int .i64 8, .int .i64 0, .bool false, .slice ma ml mc, .int .u64 0, .string by_, .slice (some ⟨g, o, none⟩) 2 c] ∧ w.cell? ⟨g, o + 8, none⟩ = some (.int .i64 2) := by
  unfold pairT at h
  cases h with
  | mk cells hk hn hm hml hu hb hs hal hc ht =>
    obtain ⟨g, o, rfl, -, k⟩ := hc 1 (by decide)
    have h1 := ht 1 (by decide)
    have h2 := k 1 (by decide)
    obtain ⟨ma, mc, rfl, -⟩ := hm
    refine ⟨ma, _, mc, _, g, o, _, rfl, ?_⟩
    rw [show o + 1 * 7 + 1 = o + 8 by omega] at h2
    rw [h2]
    generalize cells 1 = cc at h1
    obtain ⟨ck, cn, cneg, cma, cml, cmc, cbits, cbytes, ca, cl, cca, e⟩ := h1.shape
    cases h1
    rfl

theorem pair_shape {w : World} {v : Value} (h : DmAt w v pairD) : ∃ wa1 wc1 wa2 wc2 fa fc ra rc ha hc, v = .agg #[.int .i64 5, .slice wa1 2 wc1, .int .i64 0, .slice wa2 0 wc2, .int .i64 2, .int .i64 0, .slice fa 0 fc, .slice ra 1 rc, .slice ha 0 hc] := h.shape

theorem pair_readEnd {w w' : World} {e : Ending} (h : ReadEnd w w' (readP true [] pairD.mem 45) e) : ∃ tv, e = .returned (.tuple #[tv, .bool true]) ∧ TmAt (fun k => w.heap.size ≤ k) w' tv pairT ∧ Below w.heap.size w w' := by
  rw [pair_read] at h
  obtain ⟨tv, t, he, ht, hp, hb⟩ := h
  have := hp _ rfl
  subst this
  exact ⟨tv, he, ht, hb⟩

set_option maxHeartbeats 8000000 in
set_option maxRecDepth 100000 in
theorem awake_any (w : World) : Calls Try.prog 9 #[] w fun e w' => e = .returned (.bool true) ∧ Below w.heap.size w w' := by
  go_enter Try.func9, Try.ntmps9
  go_wp2_with fail
  refine (pair_any w).mono ?_
  rintro e w1 ⟨⟨v, rfl, hd⟩, hb⟩
  have HD := Lib.hid hd
  have HB := Lib.hid hb
  obtain ⟨wa1, wc1, wa2, wc2, fa, fc, ra, rc, ha, hc, rfl⟩ := pair_shape hd
  clear hd hb
  go_wp2_with fail
  refine (read_any pairD _ _ [] 45 w1 HD.out (SlAt.nil _) (by decide) (by decide)).mono ?_
  rintro e w2 h
  obtain ⟨tv, rfl, ht, hb⟩ := pair_readEnd h
  obtain ⟨ma, ml, mc, by_, g, o, c, rfl, k⟩ := pairT_at ht
  have HK := Lib.hid k
  have HB2 := Lib.hid (HB.out.trans (hb.mono HB.out.size))
  clear h ht hb k
  have T := one_at w2 (.cells #[.int .i64 8, .int .i64 0, .bool false, .slice ma ml mc, .int .u64 0, .string by_, .slice (some ⟨g, o, none⟩) 2 c] 40)
  go_wp2_with fail
  generalize w2.alloc (.cells #[.int .i64 8, .int .i64 0, .bool false, .slice ma ml mc, .int .u64 0, .string by_, .slice (some ⟨g, o, none⟩) 2 c] 40) = W2 at *
  have A1 := Lib.hid T.1
  have HBW := Lib.hid (HB2.out.trans (T.2.2.mono HB2.out.size))
  have HKW := Lib.hid ((T.2.2.cell (World.block_lt_of_cell? w2 _ HK.out)).trans HK.out)
  clear T HK
  refine (pair_any W2).mono ?_
  rintro e w3 ⟨⟨v, rfl, hd⟩, hb⟩
  have HD3 := Lib.hid hd
  have HB3 := Lib.hid (HBW.out.trans (hb.mono HBW.out.size))
  have A3 := Lib.hid ((hb.block w2.heap.size (lt_of_block A1.out)).trans A1.out)
  have HK3 := Lib.hid ((hb.cell (World.block_lt_of_cell? W2 _ HKW.out)).trans HKW.out)
  obtain ⟨xa1, xc1, xa2, xc2, xfa, xfc, xra, xrc, xha, xhc, rfl⟩ := pair_shape hd
  clear hd hb
  go_upto_region 3 with fail
  have T := one_at w3 (.cells #[.int .i64 5, .slice xa1 2 xc1, .int .i64 0, .slice xa2 0 xc2, .int .i64 2, .int .i64 0, .slice xfa 0 xfc, .slice xra 1 xrc, .slice xha 0 xhc] 28)
  generalize w3.alloc (.cells #[.int .i64 5, .slice xa1 2 xc1, .int .i64 0, .slice xa2 0 xc2, .int .i64 2, .int .i64 0, .slice xfa 0 xfc, .slice xra 1 xrc, .slice xha 0 xhc] 28) = W3 at *
  have B4 := Lib.hid T.1
  have T2 := Lib.hid T.2.2
  clear T
  have x5 := cell_of B4.out 5
  have f5 := free_of B4.out 5
  simp at x5 f5
  go_upto_region 4 with fail
  have S4 := Lib.hid (show (W3.setCell ⟨w3.heap.size, 5, none⟩ (.int .i64 3)).heap[w3.heap.size]? = some (.cells #[.int .i64 5, .slice xa1 2 xc1, .int .i64 0, .slice xa2 0 xc2, .int .i64 2, .int .i64 3, .slice xfa 0 xfc, .slice xra 1 xrc, .slice xha 0 xhc] 28 (0, 0)) from set_of B4.out 5 _)
  have BS := Lib.hid (T2.out.setCell (p := ⟨w3.heap.size, 5, none⟩) (Nat.le_refl _) (.int .i64 3))
  clear x5 f5 B4 T2
  generalize W3.setCell ⟨w3.heap.size, 5, none⟩ (.int .i64 3) = W4 at *
  have A4 := Lib.hid ((BS.out.block w2.heap.size (lt_of_block A3.out)).trans A3.out)
  have HK4 := Lib.hid ((BS.out.cell (World.block_lt_of_cell? w3 _ HK3.out)).trans HK3.out)
  have HB4 := Lib.hid (HB3.out.trans (BS.out.mono HB3.out.size))
  have HD4 := Lib.hid (HD3.out.below BS.out).bad
  have c0 := cell_of A4.out 0
  have c6 := cell_of A4.out 6
  have k8 := HK4.out
  simp at c0 c6
  clear A3 HK3 HKW A1
  go_wp2_with fail
  clear c0 c6 k8
  refine (pair_any W4).mono ?_
  rintro e w5 ⟨⟨v, rfl, hd⟩, hb⟩
  have HD5 := Lib.hid hd
  have HB5 := Lib.hid (HB4.out.trans (hb.mono HB4.out.size))
  have S5 := Lib.hid ((hb.block w3.heap.size (lt_of_block S4.out)).trans S4.out)
  have HX5 := Lib.hid (HD4.out.below hb)
  obtain ⟨ya1, yc1, ya2, yc2, yfa, yfc, yra, yrc, yha, yhc, rfl⟩ := pair_shape hd
  clear hd hb
  go_wp2_with fail
  refine (why_any pairD [] _ _ w5 HD5.out (SlAt.nil _) pair_ok).mono ?_
  rintro e w6 ⟨rfl, hb⟩
  rw [(whyT_empty pairD []).2 pair_right]
  have HB6 := Lib.hid (HB5.out.trans (hb.mono HB5.out.size))
  have S6 := Lib.hid ((hb.block w3.heap.size (lt_of_block S5.out)).trans S5.out)
  have HX6 := Lib.hid (HX5.out.below hb)
  clear hb
  have s := fun i => cell_of S6.out i
  go_wp2_with fail
  clear s
  refine (why_any badD [] _ _ w6 HX6.out (SlAt.nil _) bad_ok).mono ?_
  rintro e w7 ⟨rfl, hb⟩
  rw [bad_why]
  have HB7 := Lib.hid (HB6.out.trans (hb.mono HB6.out.size))
  clear hb
  go_wp2_with fail
  refine (pair_any w7).mono ?_
  rintro e w8 ⟨⟨v, rfl, hd⟩, hb⟩
  have HD8 := Lib.hid hd
  have HB8 := Lib.hid (HB7.out.trans (hb.mono HB7.out.size))
  obtain ⟨za1, zc1, za2, zc2, zfa, zfc, zra, zrc, zha, zhc, rfl⟩ := pair_shape hd
  clear hd hb
  go_wp2_with fail
  refine (live_fn pairD _ w8 HD8.out pair_ok).mono ?_
  rintro e w9 ⟨rfl, hb⟩
  rw [pair_live]
  have HB9 := Lib.hid (HB8.out.trans (hb.mono HB8.out.size))
  clear hb
  go_wp2_with fail
  go_ret
  exact ⟨rfl, HB9.out⟩

end Go.Proofs.Ytohgkfnbjfhniaa
