/-
  Collect: where Minor's objects go, where nothing is old.
-/
import Derived.Test.YtlmpmjhanpkcnaaGreatM32
set_option linter.unusedVariables false
set_option linter.unusedSimpArgs false
namespace Go.Proofs.YtlmpmjhanpkcnaaGreat
open Go.RowKit Go.Maps

set_option maxHeartbeats 4000000 in
theorem goes_minor (s : Spt) (hs : SptOk s) (A O D T Y eb : Nat) (c0 c1 c4 c5 c6 c7 c8 : Value) (x : Int) (oa : Option Addr) (oc : Nat) (W : World) (hA : W.heap[A]? = some (.cells #[.map (some eb)] 90 (0, 0))) (hE : SetAt spotFam W eb [])
    (hD : W.heap[D]? = some (.cells #[c0, c1, .int .i64 x, .slice oa 0 oc, c4, c5, c6, c7, c8] 28 (0, 0))) (hT : W.heap[T]? = some (.cells #[.pointer (some ⟨Y, 0, none⟩)] 57 (0, 0))) :
    Calls Tryz.prog 47 #[spotV s, .pointer (some ⟨A, 0, none⟩), .pointer (some ⟨O, 0, none⟩), .pointer (some ⟨D, 0, none⟩), .pointer (some ⟨T, 0, none⟩)] W fun e w' => e = .returned (.pointer (some ⟨Y, 0, none⟩)) ∧ Below W.heap.size W w' := by
  obtain ⟨sa, st⟩ := s
  have hin := hs.1
  simp only at hin
  have HOK := Lib.hid hs
  have T0 := one_at W (.cells #[.int .i64 sa, .int .i64 st] 63)
  obtain ⟨t1, t2, t3⟩ := T0
  have B := Lib.hid t3
  have HA := Lib.hid ((t3.block A (lt_of_block hA)).trans hA)
  have HD := Lib.hid ((t3.block D (lt_of_block hD)).trans hD)
  have HT := Lib.hid ((t3.block T (lt_of_block hT)).trans hT)
  have HE := Lib.hid (hE.block (t3.block _ hE.lt))
  have s0 : (W.alloc (.cells #[.int .i64 sa, .int .i64 st] 63)).cell? ⟨W.heap.size, 0, none⟩ = some (.int .i64 sa) := cell_of t1 0
  have s1 : (W.alloc (.cells #[.int .i64 sa, .int .i64 st] 63)).cell? ⟨W.heap.size, 1, none⟩ = some (.int .i64 st) := cell_of t1 1
  have a0 := cell_of HA.out 0
  have d2 := cell_of HD.out 2
  have d3 := cell_of HD.out 3
  simp at a0 d2 d3
  clear hs hA hD hT hE t1 t2 t3
  go_enter Tryz.func47, Tryz.ntmps47
  go_upto_region 1 with fail
  generalize W.alloc (.cells #[.int .i64 sa, .int .i64 st] 63) = W2 at *
  go_wp2_with (at_lookup; refine wpList_look_set rfl (.tmp 8) (.tmp 9) 90 rfl K68 Tryz.underlying90 rfl HE.out (sa, st) HOK.out rfl false (by simp) ?_)
  refine (in_any x sa oa 0 oc _ hin).mono ?_
  rw [inP_none]
  rintro e w4 ⟨rfl, hb4⟩
  have t0 := cell_of ((hb4.block T (lt_of_block HT.out)).trans HT.out) 0
  simp at t0
  have B4 := Lib.hid (B.out.trans (hb4.mono B.out.size))
  clear hb4
  go_wp2_with fail
  go_ret
  exact ⟨rfl, B4.out⟩

theorem enter_minor : ∀ args w, (callFunc 47 args).run Tryz.prog w = .ok (.enter 47 args) w := by
  intro args w
  have hf : Tryz.prog.funcs[47]? = some Tryz.f47 := by kernel_rfl
  have h0 : (Tryz.f47.name == "runtime.NumGoroutine") = false := by kernel_rfl
  have h1 : Tryz.f47.name ≠ "runtime.NumGoroutine" := by simpa using h0
  obtain ⟨c, hb⟩ : ∃ c, Tryz.f47.body = some c := ⟨_, rfl⟩
  simp [callFunc, hf, h1, hb]

set_option maxRecDepth 100000 in
set_option maxHeartbeats 4000000 in
theorem clone_nil (W : World) : Calls Tryz.prog 46 #[.slice none 0 0] W fun e w' => e = .returned (.slice none 0 0) ∧ W = w' := by
  have h22 : Tryz.prog.underlying 22 = some (.slice 47) := by kernel_rfl
  have hn := fun (w : World) => run_eql_nil_slice w 22 47 none 0 0 0 0 h22
  go_enter Tryz.func46, Tryz.ntmps46
  go_wp2_with fail
  go_ret
  exact ⟨rfl, rfl⟩

set_option maxRecDepth 100000 in
set_option maxHeartbeats 4000000 in
theorem compact_short (a : Option Addr) (n c : Nat) (hn : n < 2) (W : World) : Calls Tryz.prog 50 #[.slice a n c] W fun e w' => e = .returned (.slice a n c) ∧ W = w' := by
  have h1 : (n : Int) < 2 := by omega
  go_enter Tryz.func50, Tryz.ntmps50
  go_wp2_with fail
  go_ret
  exact ⟨rfl, rfl⟩

end Go.Proofs.YtlmpmjhanpkcnaaGreat
