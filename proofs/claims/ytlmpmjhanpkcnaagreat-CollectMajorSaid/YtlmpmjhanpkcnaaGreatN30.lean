/-
  Collect: the elders where nothing has outlived a collection.
  Collect: where Minor's objects go, where nothing is old.
-/
import Derived.Test.YtlmpmjhanpkcnaaGreatN29
set_option linter.unusedVariables false
set_option linter.unusedSimpArgs false
namespace Go.Proofs.YtlmpmjhanpkcnaaGreat
open Go.RowKit Go.Maps

theorem inP_none (x a : Int) : inP x 0 a = false := by
  unfold inP
  by_cases h : x ≤ a
  · have : ¬ (a - x < ((0 : Nat) : Int)) := by omega
    simp [this]
  · simp [h]

def ElderEnd (w w' : World) (e : Ending) : Prop := ∃ b, e = .returned (.map (some b)) ∧ SetAt spotFam w' b [] ∧ w.heap.size ≤ b ∧ Below w.heap.size w w'

set_option maxHeartbeats 16000000 in
set_option maxRecDepth 100000 in
theorem elder_any (d : Dmp) (v mv sv : Value) (m : List Frg) (l : List Spt) (w : World) (hd : DmAt w v d) (hmk : d.mark = 0) (hol : d.old.2 = []) (hm : RsAt w mv m) (hN : wordsN m ≤ 5000) (hs : SpAt w sv l) (hok : ∀ s ∈ l, In64 s.1) :
    Calls Tryz.prog 45 #[v, mv, sv] w fun e w' => ElderEnd w w' e := by
  have HM := Lib.hid hm
  have HSP := Lib.hid hs
  have HOK := Lib.hid hok
  obtain ⟨c0, c1, c2, c3, c6, c7, c8, rfl, ⟨hy1, rfl, ya, yc, rfl, hyw⟩, ⟨ho1, rfl, oa, oc, rfl, -⟩, -, -, -, -, -⟩ := hd
  rw [hmk]
  have ho0 : d.old.2.length = 0 := by rw [hol]; rfl
  rw [ho0]
  clear hol
  obtain ⟨hll, sa, sc, rfl, -⟩ := hs
  have hmm := @run_makeMap Tryz.prog
  have T := one_at w (.cells #[.int .i64 d.young.1, .slice ya d.young.2.length yc, .int .i64 d.old.1, .slice oa 0 oc, .int .i64 d.size, .int .i64 0, c6, c7, c8] 28)
  clear hm hok hyw
  go_enter Tryz.func45, Tryz.ntmps45
  go_wp2_with fail
  generalize w.alloc (.cells #[.int .i64 d.young.1, .slice ya d.young.2.length yc, .int .i64 d.old.1, .slice oa 0 oc, .int .i64 d.size, .int .i64 0, c6, c7, c8] 28) = W at *
  obtain ⟨t1, t2, t3⟩ := T
  have X1 := Lib.hid t1
  have B1 := Lib.hid t3
  have y0 := cell_of t1 0
  have y1 := cell_of t1 1
  have y5 := cell_of t1 5
  simp at y0 y1 y5
  have n0 := World.new_ne _ _ y0
  have n1 := World.new_ne _ _ y1
  have n5 := World.new_ne _ _ y5
  have A := fun o => (Below.refl W.heap.size W).alloc (Nat.le_refl _) o
  have a0 := fun o => ((A o).cell (World.block_lt_of_cell? W _ y0)).trans y0
  have a1 := fun o => ((A o).cell (World.block_lt_of_cell? W _ y1)).trans y1
  have a5 := fun o => ((A o).cell (World.block_lt_of_cell? W _ y5)).trans y5
  clear t1 t3 A
  go_region
  have T := one_at W (.cells #[.int .i64 d.young.1, .slice ya 0 yc] 24)
  obtain ⟨t1, t2', t3⟩ := T
  have X7 := Lib.hid (show (W.alloc (.cells #[.int .i64 d.young.1, .slice ya 0 yc] 24)).drew.heap[W.heap.size]? = some (.cells #[.int .i64 d.young.1, .slice ya 0 yc] 24 (0, 0)) from t1)
  have B7 := Lib.hid (B1.out.trans ((t3.drew).mono B1.out.size))
  clear t1 t2' t3 n0 n1 n5 y0 y1 y5 a0 a1 a5
  obtain ⟨tb, htb⟩ : ∃ tb, W.heap.size = tb := ⟨_, rfl⟩
  rw [htb] at X7 ⊢
  generalize (W.alloc (.cells #[.int .i64 d.young.1, .slice ya 0 yc] 24)).drew = W2 at *
  go_wp2_with fail
  go_loopw [8, 28] (fun o i wr => ∃ (k : Nat), k ≤ l.length ∧ i = .int .i64 k ∧ o = .slice none 0 0 ∧ Hid (wr.heap[tb]? = some (.cells #[.int .i64 d.young.1, .slice ya 0 yc] 24 (0, 0))) ∧ Hid (Below w.heap.size w wr)) (fun _ i _ => l.length - (intOf i).toNat)
  case atStart => exact ⟨0, Nat.zero_le _, rfl, rfl, X7, B7⟩
  case round =>
    obtain ⟨k, hk, rfl, rfl, L1, L2⟩ := hrel
    by_cases hlt : k < l.length
    · obtain ⟨-, a', c', he, hsc⟩ := HSP.out.below L2.out
      simp only [Value.slice.injEq, true_and] at he
      obtain ⟨rfl, rfl⟩ := he
      obtain ⟨gq, oq, rfl, k0, k1⟩ := hsc k hlt
      have p1 : (k : Int) < (l.length : Int) := by omega
      have p2 : (0 : Int) ≤ (k : Int) := by omega
      have p5 : IntKind.i64.wrap ((k : Int) + 1) = (k : Int) + 1 := IntWalk.i64_in _ (by omega)
      have hin := HOK.out _ (List.getElem_mem hlt)
      obtain ⟨⟨a, t⟩, hss⟩ : ∃ s, l[k] = s := ⟨_, rfl⟩
      rw [hss] at k0 k1 hin
      simp only at k0 k1 hin
      have T := one_at wr (.cells #[.int .i64 a, .int .i64 t] 63)
      obtain ⟨t1, t2', t3⟩ := T
      have e0 := cell_of ((t3.block tb (lt_of_block L1.out)).trans L1.out) 0
      have e1 := cell_of ((t3.block tb (lt_of_block L1.out)).trans L1.out) 1
      have s0 : (wr.alloc (.cells #[.int .i64 a, .int .i64 t] 63)).cell? ⟨wr.heap.size, 0, none⟩ = some (.int .i64 a) := cell_of t1 0
      simp at e0 e1
      have M1 := Lib.hid ((t3.block tb (lt_of_block L1.out)).trans L1.out)
      have M2 := Lib.hid (L2.out.trans (t3.mono L2.out.size))
      clear t1 t2' t3 hss hsc
      go_upto_region 6 with fail
      generalize wr.alloc (.cells #[.int .i64 a, .int .i64 t] 63) = W3 at *
      go_wp2_with fail
      refine (in_any d.young.1 a ya 0 yc _ hin).mono ?_
      rw [inP_none]
      rintro e w4 ⟨rfl, hb4⟩
      have N1 := Lib.hid ((hb4.block tb (lt_of_block M1.out)).trans M1.out)
      have N2 := Lib.hid (M2.out.trans (hb4.mono M2.out.size))
      clear hb4
      go_wp2_with fail
      go_roundw
      case rel => exact ⟨k + 1, by omega, by go_num, rfl, N1, N2⟩
      case measure => simp [intOf]; omega
    · obtain rfl : k = l.length := by omega
      have p1 : ¬ (l.length : Int) < (l.length : Int) := by omega
      have T := one_at wr (.map #[] 0)
      have hset := SetAt.made spotFam wr
      have B3 := Lib.hid (L2.out.trans (T.2.2.mono L2.out.size))
      have HSET := Lib.hid hset
      have HRS := Lib.hid L2.out.size
      clear T hset
      go_upto_region 11 with fail
      generalize wr.alloc (.map #[] 0) = W3 at *
      go_wp2_with fail
      refine (reached_any m [] _ _ W3 (HM.out.below B3.out) ⟨by unfold maxLen; simp, (fun x hx => by cases hx), none, 0, rfl, by simp, by unfold maxLen; simp, fun j hj => by simp at hj⟩ hN (by simp)).mono ?_
      rintro e w5 ⟨rv, l2, rfl, hsp2, hrl, -, -, hb5⟩
      obtain rfl := reachL_nil hrl
      obtain ⟨-, _, _, rfl, -⟩ := hsp2
      have HS5 := Lib.hid (HSET.out.block (hb5.block _ HSET.out.lt))
      have B5 := Lib.hid (B3.out.trans (hb5.mono B3.out.size))
      clear hb5 hrl
      go_wp2_with fail
      go_loopw [54] (fun i wr5 => i = .int .i64 0 ∧ w5 = wr5) (fun _ _ => 0)
      case atStart => exact ⟨rfl, rfl⟩
      case round =>
        obtain ⟨rfl, rfl⟩ := hrel
        go_wp2_with fail
        go_ret
        exact ⟨_, rfl, HS5.out, HRS.out, B5.out⟩

end Go.Proofs.YtlmpmjhanpkcnaaGreat

namespace Go.Proofs.YtlmpmjhanpkcnaaGreat
open Go.RowKit Go.Maps

set_option maxHeartbeats 4000000 in
theorem goes_minor (s : Spt) (hs : SptOk s) (A O D T Y eb : Nat) (c0 c1 c4 c5 c6 c7 c8 : Value) (x : Int) (oa : Option Addr) (oc : Nat) (W : World) (hA : W.heap[A]? = some (.cells #[.map (some eb)] 90 (0, 0))) (hE : SetAt spotFam W eb [])
    (hD : W.heap[D]? = some (.cells #[c0, c1, .int .i64 x, .slice oa 0 oc, c4, c5, c6, c7, c8] 28 (0, 0))) (hT : W.heap[T]? = some (.cells #[.pointer (some ⟨Y, 0, none⟩)] 57 (0, 0))) :
    Calls Tryz.prog 47 #[spotV s, .pointer (some ⟨A, 0, none⟩), .pointer (some ⟨O, 0, none⟩), .pointer (some ⟨D, 0, none⟩), .pointer (some ⟨T, 0, none⟩)] W fun e w' => e = .returned (.pointer (some ⟨Y, 0, none⟩)) ∧ Below W.heap.size W w' := by
  obtain ⟨sa, st⟩ := s
  have hin := hs.1
  simp only at hin
  have HOK := Lib.hid hs
  have T0 := one_at W (.cells #[.int .i64 sa, .int .i64 st] 63)
  obtain ⟨t1, t2, t3⟩ := T0
  have B := Lib.hid t3
  have HA := Lib.hid ((t3.block A (lt_of_block hA)).trans hA)
  have HD := Lib.hid ((t3.block D (lt_of_block hD)).trans hD)
  have HT := Lib.hid ((t3.block T (lt_of_block hT)).trans hT)
  have HE := Lib.hid (hE.block (t3.block _ hE.lt))
  have s0 : (W.alloc (.cells #[.int .i64 sa, .int .i64 st] 63)).cell? ⟨W.heap.size, 0, none⟩ = some (.int .i64 sa) := cell_of t1 0
  have s1 : (W.alloc (.cells #[.int .i64 sa, .int .i64 st] 63)).cell? ⟨W.heap.size, 1, none⟩ = some (.int .i64 st) := cell_of t1 1
  have a0 := cell_of HA.out 0
  have d2 := cell_of HD.out 2
  have d3 := cell_of HD.out 3
  simp at a0 d2 d3
  clear hs hA hD hT hE t1 t2 t3
  go_enter Tryz.func47, Tryz.ntmps47
  go_upto_region 1 with fail
  generalize W.alloc (.cells #[.int .i64 sa, .int .i64 st] 63) = W2 at *
  go_wp2_with (at_lookup; refine wpList_look_set rfl (.tmp 8) (.tmp 9) 90 rfl K68 Tryz.underlying90 rfl HE.out (sa, st) HOK.out rfl false (by simp) ?_)
  refine (in_any x sa oa 0 oc _ hin).mono ?_
  rw [inP_none]
  rintro e w4 ⟨rfl, hb4⟩
  have t0 := cell_of ((hb4.block T (lt_of_block HT.out)).trans HT.out) 0
  simp at t0
  have B4 := Lib.hid (B.out.trans (hb4.mono B.out.size))
  clear hb4
  go_wp2_with fail
  go_ret
  exact ⟨rfl, B4.out⟩

theorem enter_minor : ∀ args w, (callFunc 47 args).run Tryz.prog w = .ok (.enter 47 args) w := by
  intro args w
  have hf : Tryz.prog.funcs[47]? = some Tryz.f47 := by kernel_rfl
  have h0 : (Tryz.f47.name == "runtime.NumGoroutine") = false := by kernel_rfl
  have h1 : Tryz.f47.name ≠ "runtime.NumGoroutine" := by simpa using h0
  obtain ⟨c, hb⟩ : ∃ c, Tryz.f47.body = some c := ⟨_, rfl⟩
  simp [callFunc, hf, h1, hb]

set_option maxRecDepth 100000 in
set_option maxHeartbeats 4000000 in
theorem clone_nil (W : World) : Calls Tryz.prog 46 #[.slice none 0 0] W fun e w' => e = .returned (.slice none 0 0) ∧ W = w' := by
  have h22 : Tryz.prog.underlying 22 = some (.slice 47) := by kernel_rfl
  have hn := fun (w : World) => run_eql_nil_slice w 22 47 none 0 0 0 0 h22
  go_enter Tryz.func46, Tryz.ntmps46
  go_wp2_with fail
  go_ret
  exact ⟨rfl, rfl⟩

set_option maxRecDepth 100000 in
set_option maxHeartbeats 4000000 in
theorem compact_short (a : Option Addr) (n c : Nat) (hn : n < 2) (W : World) : Calls Tryz.prog 50 #[.slice a n c] W fun e w' => e = .returned (.slice a n c) ∧ W = w' := by
  have h1 : (n : Int) < 2 := by omega
  go_enter Tryz.func50, Tryz.ntmps50
  go_wp2_with fail
  go_ret
  exact ⟨rfl, rfl⟩

end Go.Proofs.YtlmpmjhanpkcnaaGreat
