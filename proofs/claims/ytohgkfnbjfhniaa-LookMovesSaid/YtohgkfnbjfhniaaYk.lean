/-
  A dump with memory of its own: CopyDump, of a dump of one young region.
-/
import Derived.Test.YtohgkfnbjfhniaaYj
import Derived.Test.YtohgkfnbjfhniaaYe
namespace Go.Proofs.Ytohgkfnbjfhniaa
open Go.RowKit

theorem own_cap {w : World} {base e size n : Nat} {v : Value} {xs : List Value} (h : w.ownsRow base e size v n xs) : ∃ b c, v = .slice b n c ∧ c ≤ maxLen ∧ n ≤ c := by
  rcases h.2 with ⟨rfl, rfl⟩ | ⟨g, c, _, rfl, _, _, hnc, hcm, _⟩
  · exact ⟨none, 0, rfl, by unfold maxLen; omega, Nat.le_refl _⟩
  · exact ⟨_, c, rfl, hcm, hnc⟩

theorem Is.reads {w : World} {a : Option Addr} {n c : Nat} {l : List Int} (h : Is w (.slice a n c) l) : Reads w w.heap.size 1 a n (csI l) := by
  obtain ⟨-, -, a', c', he, -, -, hx⟩ := h
  simp only [Value.slice.injEq] at he
  obtain ⟨rfl, hn, -⟩ := he
  refine ⟨by simp [csI, hn], fun h0 => ?_⟩
  obtain ⟨g, o, rfl, k0⟩ := hx 0 (by omega)
  refine ⟨_, rfl, World.block_lt_of_cell? w _ k0, fun j u hu => ?_⟩
  have hj : j < l.length := by
    rcases Nat.lt_or_ge j l.length with q | q
    · exact q
    · rw [List.getElem?_eq_none (by simp [csI]; omega)] at hu; cases hu
  obtain ⟨g', o', e, kj⟩ := hx j hj
  cases e
  simp [csI, List.getElem?_eq_getElem hj] at hu
  subst hu
  by_cases h0 : j = 0
  · subst h0; simpa [Addr.add] using kj
  · simpa [Addr.add, h0] using kj

theorem csI_one (l : List Int) : ∀ u ∈ csI l, u.oneCell' = true := by
  intro u hu
  obtain ⟨x, _, rfl⟩ := List.mem_map.1 hu
  rfl

/-- What is answered of a dump of one young region. -/
def CopyEnd (d : Dmp) (w w' : World) (e : Ending) : Prop := ∃ (ya : Option Addr) (yc : Nat) (oa : Option Addr) (oc : Nat) (ra : Option Addr) (rc : Nat) (ha : Option Addr) (hc : Nat),
  e = .returned (.agg #[.int .i64 d.young.1, .slice ya d.young.2.length yc, .int .i64 d.old.1, .slice oa 0 oc, .int .i64 d.size, .int .i64 d.mark, .slice none 0 0, .slice ra d.roots.length rc, .slice ha 0 hc]) ∧ oc ≤ maxLen ∧ hc ≤ maxLen ∧ Below w.heap.size w w'

set_option maxHeartbeats 8000000 in
set_option maxRecDepth 100000 in
theorem copy_one (d : Dmp) (v : Value) (w : World) (hd : DmAt w v d) (ho : d.old.2 = []) (hf : d.frags = []) (hh : d.handles = []) (hy : d.young.2.length ≤ 1000) (hr : d.roots.length ≤ 1000) :
    Calls Try.prog 14 #[v] w fun e w' => CopyEnd d w w' e := by
  obtain ⟨i0, hi, hz0, hz1, hz2⟩ := info_parts info37
  obtain ⟨j0, gi, gz0, gz1, gz2⟩ := info_parts info3
  obtain ⟨a, b, a', b', f, r, h, rfl, ⟨-, rfl, wa1, wc1, rfl, hw1⟩, ⟨-, rfl, wa2, wc2, rfl, hw2⟩, -, -, ⟨-, fa, fc, rfl, -⟩, hro, hha⟩ := hd
  have HY := Lib.hid hw1
  have HO := Lib.hid hw2
  have HR := Lib.hid hro
  have HH := Lib.hid hha
  obtain ⟨-, -, ra, rc, rfl, -⟩ := hro
  obtain ⟨-, -, ha, hc, rfl, -⟩ := hha
  obtain ⟨⟨ya, yl⟩, ⟨oa, ol⟩, sz, mk, fr, ro, hn⟩ := d
  simp only at ho hf hh hy hr HY HO HR HH ⊢
  subst ho hf hh
  clear hw1 hw2
  have T := two_at' w (.cells #[.int .i64 ya, .slice wa1 yl.length wc1, .int .i64 oa, .slice wa2 0 wc2, .int .i64 sz, .int .i64 mk, .slice fa 0 fc, .slice ra ro.length rc, .slice ha 0 hc] 28) (.cells #[.int .i64 0, .slice none 0 0, .int .i64 0, .slice none 0 0, .int .i64 0, .int .i64 0, .slice none 0 0, .slice none 0 0, .slice none 0 0] 28)
  have TS := Lib.hid (two_at w (.cells #[.int .i64 ya, .slice wa1 yl.length wc1, .int .i64 oa, .slice wa2 0 wc2, .int .i64 sz, .int .i64 mk, .slice fa 0 fc, .slice ra ro.length rc, .slice ha 0 hc] 28) (.cells #[.int .i64 0, .slice none 0 0, .int .i64 0, .slice none 0 0, .int .i64 0, .int .i64 0, .slice none 0 0, .slice none 0 0, .slice none 0 0] 28)).2.2.1
  go_enter Try.func14, Try.ntmps14
  go_upto_region 1 with fail
  generalize (w.alloc (.cells #[.int .i64 ya, .slice wa1 yl.length wc1, .int .i64 oa, .slice wa2 0 wc2, .int .i64 sz, .int .i64 mk, .slice fa 0 fc, .slice ra ro.length rc, .slice ha 0 hc] 28)).alloc (.cells #[.int .i64 0, .slice none 0 0, .int .i64 0, .slice none 0 0, .int .i64 0, .int .i64 0, .slice none 0 0, .slice none 0 0, .slice none 0 0] 28) = V0 at *
  have A0 := Lib.hid T.1
  have Z0 := Lib.hid T.2.1
  have WB0 := Lib.hid T.2.2
  clear T TS
  have HRD := Lib.hid ((HY.out.below WB0.out).reads)
  have HSX := Lib.hid (show w.heap.size < V0.heap.size from lt_of_block A0.out)
  have x := cell_of A0.out 1
  simp at x
  go_upto_region 2 with (at_builtin; refine wpList_append_any _ rfl (.const (.slice none 0 0)) (.tmp 7) 22 rfl V0.heap.size 37 i0 _ 1 8 Try.underlying22 hi hz0 hz1 hz2 rfl (by omega) (.slice none 0 0) 0 [] rfl ⟨by simp, .inl ⟨rfl, rfl⟩⟩ V0.heap.size wa1 yl.length wc1 (csW yl) rfl HRD.out (csW_one _) (by unfold maxLen; (try simp); (try omega)) (by (try simp); (try omega)) (Nat.le_refl _) ?_; intro v1 w1 hown hg _
                         have HB1 := Lib.hid ((Below.refl V0.heap.size V0).grown hg (Nat.le_refl _) (by simp [Value.ownBlock]))
                         obtain ⟨b1, c1, rfl, hcm1, -⟩ := own_cap hown
                         have HCM1 := Lib.hid hcm1
                         have AQ := Lib.hid ((HB1.out.block _ (lt_of_block A0.out)).trans A0.out)
                         have y := cell_of AQ.out 1
                         have yf := free_of AQ.out 1
                         simp at y yf
                         clear hown hg x hcm1)
  have A1 := Lib.hid (show (w1.setCell ⟨w.heap.size, 1, none⟩ (.slice b1 yl.length c1)).heap[w.heap.size]? = some (.cells #[.int .i64 ya, .slice b1 yl.length c1, .int .i64 oa, .slice wa2 0 wc2, .int .i64 sz, .int .i64 mk, .slice fa 0 fc, .slice ra ro.length rc, .slice ha 0 hc] 28 (0, 0)) from set_of AQ.out 1 _)
  have Z1 := Lib.hid ((Below.heap_setCell w1 ⟨w.heap.size, 1, none⟩ (.slice b1 yl.length c1) (w.heap.size + 1) (by simp)).trans ((HB1.out.block _ (lt_of_block Z0.out)).trans Z0.out))
  have WB1 := Lib.hid ((WB0.out.trans (HB1.out.mono WB0.out.size)).setCell (p := ⟨w.heap.size, 1, none⟩) (Nat.le_refl _) (.slice b1 yl.length c1))
  clear y yf AQ HB1 HSX HRD
  generalize w1.setCell ⟨w.heap.size, 1, none⟩ (.slice b1 yl.length c1) = V1 at *
  clear A0 Z0 WB0
  have HRD := Lib.hid ((HO.out.below WB1.out).reads)
  have HSX := Lib.hid (show w.heap.size < V1.heap.size from lt_of_block A1.out)
  have x := cell_of A1.out 3
  simp at x
  go_upto_region 3 with (at_builtin; refine wpList_append_any _ rfl (.const (.slice none 0 0)) (.tmp 13) 22 rfl V1.heap.size 37 i0 _ 1 8 Try.underlying22 hi hz0 hz1 hz2 rfl (by omega) (.slice none 0 0) 0 [] rfl ⟨by simp, .inl ⟨rfl, rfl⟩⟩ V1.heap.size wa2 0 wc2 (csW []) rfl HRD.out (csW_one _) (by unfold maxLen; (try simp); (try omega)) (by (try simp); (try omega)) (Nat.le_refl _) ?_; intro v1 w1 hown hg _
                         have HB1 := Lib.hid ((Below.refl V1.heap.size V1).grown hg (Nat.le_refl _) (by simp [Value.ownBlock]))
                         obtain ⟨b2, c2, rfl, hcm2, -⟩ := own_cap hown
                         have HCM2 := Lib.hid hcm2
                         have AQ := Lib.hid ((HB1.out.block _ (lt_of_block A1.out)).trans A1.out)
                         have y := cell_of AQ.out 3
                         have yf := free_of AQ.out 3
                         simp at y yf
                         clear hown hg x hcm2)
  have A2 := Lib.hid (show (w1.setCell ⟨w.heap.size, 3, none⟩ (.slice b2 0 c2)).heap[w.heap.size]? = some (.cells #[.int .i64 ya, .slice b1 yl.length c1, .int .i64 oa, .slice b2 0 c2, .int .i64 sz, .int .i64 mk, .slice fa 0 fc, .slice ra ro.length rc, .slice ha 0 hc] 28 (0, 0)) from set_of AQ.out 3 _)
  have Z2 := Lib.hid ((Below.heap_setCell w1 ⟨w.heap.size, 3, none⟩ (.slice b2 0 c2) (w.heap.size + 1) (by simp)).trans ((HB1.out.block _ (lt_of_block Z1.out)).trans Z1.out))
  have WB2 := Lib.hid ((WB1.out.trans (HB1.out.mono WB1.out.size)).setCell (p := ⟨w.heap.size, 3, none⟩) (Nat.le_refl _) (.slice b2 0 c2))
  clear y yf AQ HB1 HSX HRD
  generalize w1.setCell ⟨w.heap.size, 3, none⟩ (.slice b2 0 c2) = V2 at *
  clear A1 Z1 WB1
  have x := cell_of A2.out 6
  have xf := free_of A2.out 6
  simp at x xf
  go_upto_region 5 with fail
  have A3 := Lib.hid (show (V2.setCell ⟨w.heap.size, 6, none⟩ (.slice none 0 0)).heap[w.heap.size]? = some (.cells #[.int .i64 ya, .slice b1 yl.length c1, .int .i64 oa, .slice b2 0 c2, .int .i64 sz, .int .i64 mk, .slice none 0 0, .slice ra ro.length rc, .slice ha 0 hc] 28 (0, 0)) from set_of A2.out 6 _)
  have Z3 := Lib.hid ((Below.heap_setCell V2 ⟨w.heap.size, 6, none⟩ (.slice none 0 0) (w.heap.size + 1) (by simp)).trans Z2.out)
  have WB3 := Lib.hid (WB2.out.setCell (p := ⟨w.heap.size, 6, none⟩) (Nat.le_refl _) (.slice none 0 0))
  clear x xf
  generalize V2.setCell ⟨w.heap.size, 6, none⟩ (.slice none 0 0) = V3 at *
  clear A2 Z2 WB2
  go_upto_region 6 with fail
  go_loopw [4] (fun i wr => i = .int .i64 0 ∧ V3 = wr) (fun _ _ => 0)
  case atStart => exact ⟨rfl, rfl⟩
  case round =>
  obtain ⟨rfl, rfl⟩ := hrel
  go_upto_region 9 with fail
  have HRD := Lib.hid ((HR.out.below WB3.out).reads)
  have HSX := Lib.hid (show w.heap.size < V3.heap.size from lt_of_block A3.out)
  have x := cell_of A3.out 7
  simp at x
  go_upto_region 10 with (at_builtin; refine wpList_append_any _ rfl (.const (.slice none 0 0)) (.tmp 44) 22 rfl V3.heap.size 37 i0 _ 1 8 Try.underlying22 hi hz0 hz1 hz2 rfl (by omega) (.slice none 0 0) 0 [] rfl ⟨by simp, .inl ⟨rfl, rfl⟩⟩ V3.heap.size ra ro.length rc (csW ro) rfl HRD.out (csW_one _) (by unfold maxLen; (try simp); (try omega)) (by (try simp); (try omega)) (Nat.le_refl _) ?_; intro v1 w1 hown hg _
                          have HB1 := Lib.hid ((Below.refl V3.heap.size V3).grown hg (Nat.le_refl _) (by simp [Value.ownBlock]))
                          obtain ⟨b3, c3, rfl, hcm3, -⟩ := own_cap hown
                          have HCM3 := Lib.hid hcm3
                          have AQ := Lib.hid ((HB1.out.block _ (lt_of_block A3.out)).trans A3.out)
                          have y := cell_of AQ.out 7
                          have yf := free_of AQ.out 7
                          simp at y yf
                          clear hown hg x hcm3)
  have A4 := Lib.hid (show (w1.setCell ⟨w.heap.size, 7, none⟩ (.slice b3 ro.length c3)).heap[w.heap.size]? = some (.cells #[.int .i64 ya, .slice b1 yl.length c1, .int .i64 oa, .slice b2 0 c2, .int .i64 sz, .int .i64 mk, .slice none 0 0, .slice b3 ro.length c3, .slice ha 0 hc] 28 (0, 0)) from set_of AQ.out 7 _)
  have Z4 := Lib.hid ((Below.heap_setCell w1 ⟨w.heap.size, 7, none⟩ (.slice b3 ro.length c3) (w.heap.size + 1) (by simp)).trans ((HB1.out.block _ (lt_of_block Z3.out)).trans Z3.out))
  have WB4 := Lib.hid ((WB3.out.trans (HB1.out.mono WB3.out.size)).setCell (p := ⟨w.heap.size, 7, none⟩) (Nat.le_refl _) (.slice b3 ro.length c3))
  clear y yf AQ HB1 HSX HRD
  generalize w1.setCell ⟨w.heap.size, 7, none⟩ (.slice b3 ro.length c3) = V4 at *
  clear A3 Z3 WB3
  have HRD := Lib.hid ((HH.out.below WB4.out).reads)
  have HSX := Lib.hid (show w.heap.size < V4.heap.size from lt_of_block A4.out)
  have x := cell_of A4.out 8
  simp at x
  go_upto_region 11 with (at_builtin; refine wpList_append_any _ rfl (.const (.slice none 0 0)) (.tmp 48) 26 rfl V4.heap.size 3 j0 _ 1 8 Try.underlying26 gi gz0 gz1 gz2 rfl (by omega) (.slice none 0 0) 0 [] rfl ⟨by simp, .inl ⟨rfl, rfl⟩⟩ V4.heap.size ha 0 hc (csI []) rfl HRD.out (csI_one _) (by unfold maxLen; (try simp); (try omega)) (by (try simp); (try omega)) (Nat.le_refl _) ?_; intro v1 w1 hown hg _
                          have HB1 := Lib.hid ((Below.refl V4.heap.size V4).grown hg (Nat.le_refl _) (by simp [Value.ownBlock]))
                          obtain ⟨b4, c4, rfl, hcm4, -⟩ := own_cap hown
                          have HCM4 := Lib.hid hcm4
                          have AQ := Lib.hid ((HB1.out.block _ (lt_of_block A4.out)).trans A4.out)
                          have y := cell_of AQ.out 8
                          have yf := free_of AQ.out 8
                          simp at y yf
                          clear hown hg x hcm4)
  have A5 := Lib.hid (show (w1.setCell ⟨w.heap.size, 8, none⟩ (.slice b4 0 c4)).heap[w.heap.size]? = some (.cells #[.int .i64 ya, .slice b1 yl.length c1, .int .i64 oa, .slice b2 0 c2, .int .i64 sz, .int .i64 mk, .slice none 0 0, .slice b3 ro.length c3, .slice b4 0 c4] 28 (0, 0)) from set_of AQ.out 8 _)
  have Z5 := Lib.hid ((Below.heap_setCell w1 ⟨w.heap.size, 8, none⟩ (.slice b4 0 c4) (w.heap.size + 1) (by simp)).trans ((HB1.out.block _ (lt_of_block Z4.out)).trans Z4.out))
  have WB5 := Lib.hid ((WB4.out.trans (HB1.out.mono WB4.out.size)).setCell (p := ⟨w.heap.size, 8, none⟩) (Nat.le_refl _) (.slice b4 0 c4))
  clear y yf AQ HB1 HSX HRD
  generalize w1.setCell ⟨w.heap.size, 8, none⟩ (.slice b4 0 c4) = V5 at *
  clear A4 Z4 WB4
  have c := fun i => cell_of A5.out i
  have z := fun i => cell_of Z5.out i
  have zf := fun i => free_of Z5.out i
  go_wp2_with fail
  refine bodyPost_ret (v := .agg #[.int .i64 ya, .slice b1 yl.length c1, .int .i64 oa, .slice b2 0 c2, .int .i64 sz, .int .i64 mk, .slice none 0 0, .slice b3 ro.length c3, .slice b4 0 c4]) (by simp [results, Try.results14, go_sem, z, zf]) rfl ⟨_, _, _, _, _, _, _, _, rfl, HCM2.out, HCM4.out, ?_⟩
  iterate 9 refine Below.setCell ?_ (Nat.le_succ _) _
  exact WB5.out

end Go.Proofs.Ytohgkfnbjfhniaa
