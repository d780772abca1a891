/-
  Collect: chapter 12's own Why, whatever the dump.
-/
import Derived.Test.YtlmpmjhanpkcnaaGreatN39
set_option linter.unusedVariables false
set_option linter.unusedSimpArgs false
namespace Go.Proofs.YtlmpmjhanpkcnaaGreat
open Go.RowKit

def WhyEnd (w w' : World) (q : Bool) (d : Dmp) (S : List Slt) (e : Ending) : Prop := ∃ t : ByteArray, e = .returned (.string t) ∧ Below w.heap.size w w' ∧ (t = ⟨#[]⟩ → regionsP d = true ∧ refRoots true S d = true ∧ handles12P d S = true) ∧ (q = true → regionsP d = true → refRoots true S d = true → handles12P d S = true → t = ⟨#[]⟩)

set_option maxHeartbeats 8000000 in
set_option maxRecDepth 100000 in
theorem why12_any (q : Bool) (d : Dmp) (S : List Slt) (v sv : Value) (w : World) (hd : DmAt w v d) (hs : SlAt w sv S) (hf : d.frags.length ≤ 100000) (hN : wordsN d.mem ≤ 5000) (hm : MemB d.mem) (hrl : d.roots.length ≤ 100000)
    (hold : ∀ V, Below w.heap.size w V → Calls Tryz.prog 23 #[v] V fun e w' => ∃ b, (q = true → b = true) ∧ e = .returned (.bool b) ∧ Below V.heap.size V w') :
    Calls Tryz.prog 8 #[v, sv] w fun e w' => WhyEnd w w' q d S e := by
  obtain ⟨wa1, wc1, wa2, wc2, fa, fc, ra, rc, ha, hc, rfl⟩ := hd.shape
  have HD := Lib.hid hd
  have HS := Lib.hid hs
  have HOLD := Lib.hid hold
  obtain ⟨-, sa, sc, rfl, -⟩ := hs
  have HLK := Lib.hid (show LkAt w (.agg #[.int .i64 d.young.1, .slice wa1 d.young.2.length wc1, .int .i64 d.old.1, .slice wa2 d.old.2.length wc2, .int .i64 d.size, .int .i64 d.mark, .slice fa d.frags.length fc, .slice ra d.roots.length rc, .slice ha d.handles.length hc, .slice sa S.length sc, .bool true]) d S true from ⟨_, _, _, _, _, _, _, _, rfl, HD.out, HS.out⟩)
  clear hd hold
  obtain ⟨b1, hb1⟩ : ∃ b, regionsP d = b := ⟨_, rfl⟩
  obtain ⟨b2, hb2⟩ : ∃ b, refRoots true S d = b := ⟨_, rfl⟩
  obtain ⟨b4, hb4⟩ : ∃ b, handles12P d S = b := ⟨_, rfl⟩
  have E1 := Lib.hid hb1
  have E2 := Lib.hid hb2
  have E4 := Lib.hid hb4
  unfold WhyEnd
  rw [hb1, hb2, hb4]
  clear hb1 hb2 hb4
  have T := two_at' w (.cells #[.int .i64 d.young.1, .slice wa1 d.young.2.length wc1, .int .i64 d.old.1, .slice wa2 d.old.2.length wc2, .int .i64 d.size, .int .i64 d.mark, .slice fa d.frags.length fc, .slice ra d.roots.length rc, .slice ha d.handles.length hc] 28) (.cells #[.int .i64 d.young.1, .slice wa1 d.young.2.length wc1, .int .i64 d.old.1, .slice wa2 d.old.2.length wc2, .int .i64 d.size, .int .i64 d.mark, .slice fa d.frags.length fc, .slice ra d.roots.length rc, .slice ha d.handles.length hc, .slice sa S.length sc, .bool true] 53)
  go_enter Tryz.func8, Tryz.ntmps8
  go_upto_region 2 with fail
  generalize (w.alloc (.cells #[.int .i64 d.young.1, .slice wa1 d.young.2.length wc1, .int .i64 d.old.1, .slice wa2 d.old.2.length wc2, .int .i64 d.size, .int .i64 d.mark, .slice fa d.frags.length fc, .slice ra d.roots.length rc, .slice ha d.handles.length hc] 28)).alloc (.cells #[.int .i64 d.young.1, .slice wa1 d.young.2.length wc1, .int .i64 d.old.1, .slice wa2 d.old.2.length wc2, .int .i64 d.size, .int .i64 d.mark, .slice fa d.frags.length fc, .slice ra d.roots.length rc, .slice ha d.handles.length hc, .slice sa S.length sc, .bool true] 53) = W at *
  obtain ⟨t1, t2, t3⟩ := T
  have X1 := Lib.hid t1
  have X2 := Lib.hid t2
  have B0 := Lib.hid t3
  clear t1 t2 t3
  have x0 := cell_of X1.out 0
  have x1 := cell_of X1.out 1
  have x2 := cell_of X1.out 2
  have x3 := cell_of X1.out 3
  have x4 := cell_of X1.out 4
  have x5 := cell_of X1.out 5
  have x6 := cell_of X1.out 6
  have x7 := cell_of X1.out 7
  have x8 := cell_of X1.out 8
  simp at x0 x1 x2 x3 x4 x5 x6 x7 x8
  go_wp2_with fail
  refine (regions12_any d _ W (HD.out.below B0.out) hf hN).mono ?_
  rw [E1.out]
  rintro e w2 ⟨rfl, hb⟩
  have X1b := Lib.hid ((hb.block _ (lt_of_block X1.out)).trans X1.out)
  have X2b := Lib.hid ((hb.block _ (lt_of_block X2.out)).trans X2.out)
  have B2 := Lib.hid (B0.out.trans (hb.mono B0.out.size))
  clear hb x0 x1 x2 x3 x4 x5 x6 x7 x8 X1 X2 B0
  cases b1
  · go_wp2_with fail
    go_ret
    first | exact ⟨_, rfl, B2.out, (fun h => by cases h), fun _ h => by cases h⟩ | exact ⟨_, rfl, B2.out, fun h => by cases h⟩
  have x0 := cell_of X2b.out 0
  have x1 := cell_of X2b.out 1
  have x2 := cell_of X2b.out 2
  have x3 := cell_of X2b.out 3
  have x4 := cell_of X2b.out 4
  have x5 := cell_of X2b.out 5
  have x6 := cell_of X2b.out 6
  have x7 := cell_of X2b.out 7
  have x8 := cell_of X2b.out 8
  have x9 := cell_of X2b.out 9
  have x10 := cell_of X2b.out 10
  simp at x0 x1 x2 x3 x4 x5 x6 x7 x8 x9 x10
  go_wp2_with fail
  refine (roots12_any d S true _ w2 (HLK.out.below B2.out) hf).mono ?_
  rw [E2.out]
  rintro e w3 ⟨rfl, hb⟩
  have X1 := Lib.hid ((hb.block _ (lt_of_block X1b.out)).trans X1b.out)
  have X2 := Lib.hid ((hb.block _ (lt_of_block X2b.out)).trans X2b.out)
  have B3 := Lib.hid (B2.out.trans (hb.mono B2.out.size))
  clear hb x0 x1 x2 x3 x4 x5 x6 x7 x8 x9 x10 X1b X2b B2
  cases b2
  · go_wp2_with fail
    go_ret
    first | exact ⟨_, rfl, B3.out, (fun h => by cases h), fun _ _ h => by cases h⟩ | exact ⟨_, rfl, B3.out, fun h => by cases h⟩
  have x0 := cell_of X1.out 0
  have x1 := cell_of X1.out 1
  have x2 := cell_of X1.out 2
  have x3 := cell_of X1.out 3
  have x4 := cell_of X1.out 4
  have x5 := cell_of X1.out 5
  have x6 := cell_of X1.out 6
  have x7 := cell_of X1.out 7
  have x8 := cell_of X1.out 8
  simp at x0 x1 x2 x3 x4 x5 x6 x7 x8
  go_wp2_with fail
  refine (HOLD.out w3 B3.out).mono ?_
  rintro e w4 ⟨b3, hq, rfl, hb⟩
  have HQ := Lib.hid hq
  have X2b := Lib.hid ((hb.block _ (lt_of_block X2.out)).trans X2.out)
  have B4 := Lib.hid (B3.out.trans (hb.mono B3.out.size))
  clear hb hq x0 x1 x2 x3 x4 x5 x6 x7 x8 X1 X2 B3
  cases b3
  · go_wp2_with fail
    go_ret
    first | exact ⟨_, rfl, B4.out, (fun h => by cases h), fun h => by cases HQ.out h⟩ | exact ⟨_, rfl, B4.out, fun h => by cases h⟩
  have x0 := cell_of X2b.out 0
  have x1 := cell_of X2b.out 1
  have x2 := cell_of X2b.out 2
  have x3 := cell_of X2b.out 3
  have x4 := cell_of X2b.out 4
  have x5 := cell_of X2b.out 5
  have x6 := cell_of X2b.out 6
  have x7 := cell_of X2b.out 7
  have x8 := cell_of X2b.out 8
  have x9 := cell_of X2b.out 9
  have x10 := cell_of X2b.out 10
  simp at x0 x1 x2 x3 x4 x5 x6 x7 x8 x9 x10
  go_wp2_with fail
  refine (handles12_any d S _ w4 (HLK.out.below B4.out) hf hN hm hrl).mono ?_
  rw [E4.out]
  rintro e w5 ⟨rfl, hb⟩
  have B5 := Lib.hid (B4.out.trans (hb.mono B4.out.size))
  clear hb x0 x1 x2 x3 x4 x5 x6 x7 x8 x9 x10 X2b B4
  cases b4
  · go_wp2_with fail
    go_ret
    first | exact ⟨_, rfl, B5.out, (fun h => by cases h), fun _ _ _ h => by cases h⟩ | exact ⟨_, rfl, B5.out, fun h => by cases h⟩
  · go_wp2_with fail
    go_ret
    first | exact ⟨_, rfl, B5.out, (fun _ => ⟨rfl, rfl, rfl⟩), fun _ _ _ _ => rfl⟩ | exact ⟨_, rfl, B5.out, fun _ => rfl⟩

end Go.Proofs.YtlmpmjhanpkcnaaGreat
