/-
  Arguments that came in: dumps, slots.
-/
import Derived.Test.YtohgkfnbjfhniaaYc
import Derived.Deep.Slices
import Derived.ChangeSlices
import Derived.OpenShut
import Derived.Carry
namespace Go.Proofs.Ytohgkfnbjfhniaa
open Go.RowKit Go.ChangeShapes

instance : Inhabited Slt := ⟨⟨0, 0, ⟨#[]⟩⟩⟩

section
variable {H : Type} {enc : TypeId × Value → H} {w : World} {base : Nat} {sp : Nat → Bool} {hd : Bool}

theorem i64_of {n : Int} (h : (Lit.int .i64 n).wf = true) : -9223372036854775808 ≤ n ∧ n ≤ 9223372036854775807 := bounds_i64 h

theorem u64_of {n : Int} (h : (Lit.int .u64 n).wf = true) : 0 ≤ n ∧ n < 18446744073709551616 := by
  simp only [Lit.wf, Bool.and_eq_true, decide_eq_true_eq] at h
  revert h
  simp [IntKind.min, IntKind.max, IntKind.bits, IntKind.signed]
  omega

set_option maxRecDepth 100000 in
theorem words_open {fuel : Nat} {cs : List Value} {x : DataW H × List MemPlace} (h : DataW.trod enc Try.prog w base sp hd fuel 22 cs = some x) : ∃ v l, cs = [v] ∧ Ws w v l := by
  rcases open_ints Try.underlying22 Try.underlying37 (by kernel_rfl) h with ⟨rfl, _⟩ | ⟨a, n, c, zs, rfl, _, hl, hm, hz, _, hcell, hwf⟩
  · exact ⟨_, [], rfl, Ws.nil w⟩
  · have hle : n ≤ zs.length := by rw [hz]; split <;> omega
    have hln : ((zs.take n).map Int.toNat).length = n := by simp [Nat.min_eq_left hle]
    refine ⟨_, (zs.take n).map Int.toNat, rfl, by omega, fun y hy => ?_, some a, c, by rw [hln], by omega, hm, fun j hj => ?_⟩
    · obtain ⟨z, hz', rfl⟩ := List.mem_map.1 hy
      have := u64_of (hwf z (List.mem_of_mem_take hz'))
      omega
    · have hj' : j < n := by omega
      have hjz : j < zs.length := by omega
      have hc := hcell j hjz
      have hc0 := hcell 0 (by omega)
      obtain ⟨g, o, s⟩ := a
      have hs : s = none := by have := World.cell?_spot hc0; simpa [Addr.add] using this
      subst hs
      refine ⟨g, o, rfl, ?_⟩
      have hb := u64_of (hwf _ (List.getElem_mem hjz))
      have e : zs.getD j 0 = zs[j] := by simp [List.getD, hjz]
      rw [e, Go.WideShapes.add_plain] at hc
      rw [hc]
      simp only [List.getElem_map, List.getElem_take]
      congr 2
      omega

set_option maxRecDepth 100000 in
theorem ints_open {fuel : Nat} {cs : List Value} {x : DataW H × List MemPlace} (h : DataW.trod enc Try.prog w base sp hd fuel 26 cs = some x) : ∃ v l, cs = [v] ∧ ∃ a cap, v = .slice a (List.length l) cap ∧ (List.length l) ≤ maxLen ∧ cap ≤ maxLen ∧ (List.length l) ≤ cap ∧ (∀ x ∈ l, -9223372036854775808 ≤ x ∧ x ≤ 9223372036854775807) ∧ ∀ j, (hj : j < l.length) → ∃ g o, a = some ⟨g, o, none⟩ ∧ w.cell? ⟨g, o + j, none⟩ = some (.int .i64 l[j]) := by
  rcases open_ints Try.underlying26 Try.underlying3 (by kernel_rfl) h with ⟨rfl, _⟩ | ⟨a, n, c, zs, rfl, _, hl, hm, hz, _, hcell, hwf⟩
  · exact ⟨_, [], rfl, none, 0, rfl, by simp, by unfold maxLen; omega, by simp, (fun x hx => by cases hx), fun j hj => by simp at hj⟩
  · have hle : n ≤ zs.length := by rw [hz]; split <;> omega
    have hln : (zs.take n).length = n := by simp [Nat.min_eq_left hle]
    refine ⟨_, zs.take n, rfl, some a, c, by rw [hln], by omega, hm, by omega, fun y hy => i64_of (hwf y (List.mem_of_mem_take hy)), fun j hj => ?_⟩
    have hj' : j < n := by omega
    have hjz : j < zs.length := by omega
    have hc := hcell j hjz
    have hc0 := hcell 0 (by omega)
    obtain ⟨g, o, s⟩ := a
    have hs : s = none := by have := World.cell?_spot hc0; simpa [Addr.add] using this
    subst hs
    refine ⟨g, o, rfl, ?_⟩
    have e : zs.getD j 0 = zs[j] := by simp [List.getD, hjz]
    rw [e, Go.WideShapes.add_plain] at hc
    rw [hc]
    simp

theorem is_open {fuel : Nat} {cs : List Value} {x : DataW H × List MemPlace} (h : DataW.trod enc Try.prog w base sp hd fuel 26 cs = some x) : ∃ v l, cs = [v] ∧ Is w v l := by
  obtain ⟨v, l, hc, a, cap, hv, h1, h2, h3, h4, h5⟩ := ints_open h
  exact ⟨v, l, hc, h1, h4, a, cap, hv, h3, h2, h5⟩

set_option maxRecDepth 100000 in
theorem frag_open {fuel : Nat} {cs : List Value} {x : DataW H × List MemPlace} (h : DataW.trod enc Try.prog w base sp hd fuel 24 cs = some x) : ∃ a b f, cs = [a, b] ∧ FrAt w a b f := by
  obtain ⟨xs, n, _, rfl, hl, hlen, hf⟩ := DataW.trod_struct Try.underlying24 h
  rw [show Try.prog.cellsOf 24 = 2 by kernel_rfl] at hl
  match cs, hl with
  | [v0, v1], _ =>
    match xs, hlen with
    | [y0, y1], _ =>
      have g0 : DataW.trod enc Try.prog w base sp hd n 3 ((List.drop 0 [v0, v1]).take (Try.prog.cellsOf 3)) = some y0 := hf 0 _ rfl
      have g1 : DataW.trod enc Try.prog w base sp hd n 22 ((List.drop 1 [v0, v1]).take (Try.prog.cellsOf 22)) = some y1 := hf 1 _ rfl
      simp only [show Try.prog.cellsOf 3 = 1 by kernel_rfl, show Try.prog.cellsOf 22 = 1 by kernel_rfl, List.drop_zero, List.drop_succ_cons, List.take_succ_cons, List.take_zero, List.getElem?_cons_zero, List.getElem?_cons_succ] at g0 g1
      obtain ⟨a, ha, _, wa⟩ := DataW.trod_int Try.underlying3 g0
      obtain ⟨v, l, hv, hw⟩ := words_open g1
      simp only [List.cons.injEq, and_true] at ha hv
      subst ha hv
      obtain ⟨h1, h2, b, c, rfl, h3⟩ := id hw
      exact ⟨_, _, (a, l), rfl, i64_of wa, rfl, b, c, rfl, hw⟩

set_option maxRecDepth 100000 in
theorem frags_open {fuel : Nat} {cs : List Value} {x : DataW H × List MemPlace} (h : DataW.trod enc Try.prog w base sp hd fuel 25 cs = some x) : ∃ v m, cs = [v] ∧ RsAt w v m := by
  rcases Go.Deep.open_slice Try.underlying25 h with ⟨rfl, _⟩ | ⟨a, len, c, m, k, D, Pl, rfl, _, hl, hm, hmm, _, hel⟩
  · exact ⟨_, [], rfl, by simp, none, 0, rfl, fun j hj => by simp at hj⟩
  · have hle : len ≤ m := by rw [hmm]; split <;> omega
    have h2 : Try.prog.cellsOf 24 = 2 := by kernel_rfl
    obtain ⟨V, hV⟩ := Go.Deep.choose_lt (α := Frg) (n := m) (p := fun i f => ∃ u v, w.cell? (a.add (i * 2)) = some u ∧ w.cell? (a.add (i * 2 + 1)) = some v ∧ FrAt w u v f) (fun i hi => by
      obtain ⟨cs', h1, h3⟩ := hel i hi
      rw [h2] at h1
      obtain ⟨_, hlen, hcell⟩ := World.cells?_some h1
      obtain ⟨u, v, f, rfl, hf⟩ := frag_open h3
      have g0 := hcell 0 (by omega)
      have g1 := hcell 1 (by omega)
      rw [Addr.add_add] at g0 g1
      exact ⟨f, u, v, g0, g1, hf⟩)
    have hln : ((List.range len).map V).length = len := by simp
    refine ⟨_, (List.range len).map V, rfl, by omega, some a, c, by rw [hln], fun j hj => ?_⟩
    rw [hln] at hj
    obtain ⟨u, v, k0, k1, h1, rfl, wa, wc, rfl, hw⟩ := hV j (by omega)
    obtain ⟨_, _, z0, _⟩ := hV 0 (by omega)
    obtain ⟨g, o, s⟩ := a
    have hs : s = none := by have := World.cell?_spot z0; simpa [Addr.add] using this
    subst hs
    have e : ((List.range len).map V)[j]'(by rw [hln]; exact hj) = V j := by simp
    rw [Go.WideShapes.add_plain] at k0 k1
    rw [e]
    exact ⟨g, o, wa, wc, rfl, h1, k0, by rw [Nat.add_assoc]; exact k1, hw⟩

set_option maxRecDepth 100000 in
set_option maxHeartbeats 1000000 in
theorem dump_open {fuel : Nat} {cs : List Value} {x : DataW H × List MemPlace} (h : DataW.trod enc Try.prog w base sp hd fuel 28 cs = some x) : ∃ d, DmAt w (.agg cs.toArray) d := by
  obtain ⟨xs, n, _, rfl, hl, hlen, hf⟩ := DataW.trod_struct Try.underlying28 h
  rw [show Try.prog.cellsOf 28 = 9 by kernel_rfl] at hl
  match cs, hl with
  | [v0, v1, v2, v3, v4, v5, v6, v7, v8], _ =>
    match xs, hlen with
    | [y0, y1, y2, y3, y4, y5, y6], _ =>
      have g0 : DataW.trod enc Try.prog w base sp hd n 24 ((List.drop 0 [v0, v1, v2, v3, v4, v5, v6, v7, v8]).take (Try.prog.cellsOf 24)) = some y0 := hf 0 _ rfl
      have g1 : DataW.trod enc Try.prog w base sp hd n 24 ((List.drop 2 [v0, v1, v2, v3, v4, v5, v6, v7, v8]).take (Try.prog.cellsOf 24)) = some y1 := hf 1 _ rfl
      have g2 : DataW.trod enc Try.prog w base sp hd n 3 ((List.drop 4 [v0, v1, v2, v3, v4, v5, v6, v7, v8]).take (Try.prog.cellsOf 3)) = some y2 := hf 2 _ rfl
      have g3 : DataW.trod enc Try.prog w base sp hd n 3 ((List.drop 5 [v0, v1, v2, v3, v4, v5, v6, v7, v8]).take (Try.prog.cellsOf 3)) = some y3 := hf 3 _ rfl
      have g4 : DataW.trod enc Try.prog w base sp hd n 25 ((List.drop 6 [v0, v1, v2, v3, v4, v5, v6, v7, v8]).take (Try.prog.cellsOf 25)) = some y4 := hf 4 _ rfl
      have g5 : DataW.trod enc Try.prog w base sp hd n 22 ((List.drop 7 [v0, v1, v2, v3, v4, v5, v6, v7, v8]).take (Try.prog.cellsOf 22)) = some y5 := hf 5 _ rfl
      have g6 : DataW.trod enc Try.prog w base sp hd n 26 ((List.drop 8 [v0, v1, v2, v3, v4, v5, v6, v7, v8]).take (Try.prog.cellsOf 26)) = some y6 := hf 6 _ rfl
      simp only [show Try.prog.cellsOf 3 = 1 by kernel_rfl, show Try.prog.cellsOf 22 = 1 by kernel_rfl, show Try.prog.cellsOf 24 = 2 by kernel_rfl, show Try.prog.cellsOf 25 = 1 by kernel_rfl, show Try.prog.cellsOf 26 = 1 by kernel_rfl,
        List.drop_zero, List.drop_succ_cons, List.take_succ_cons, List.take_zero, List.getElem?_cons_zero, List.getElem?_cons_succ] at g0 g1 g2 g3 g4 g5 g6
      obtain ⟨a, b, f, e0, F0⟩ := frag_open g0
      obtain ⟨a', b', f', e1, F1⟩ := frag_open g1
      obtain ⟨s, e2, _, ws⟩ := DataW.trod_int Try.underlying3 g2
      obtain ⟨k, e3, _, wk⟩ := DataW.trod_int Try.underlying3 g3
      obtain ⟨fv, m, e4, F4⟩ := frags_open g4
      obtain ⟨rv, l, e5, F5⟩ := words_open g5
      obtain ⟨hv, is, e6, F6⟩ := is_open g6
      simp only [List.cons.injEq, and_true] at e0 e1 e2 e3 e4 e5 e6
      obtain ⟨rfl, rfl⟩ := e0
      obtain ⟨rfl, rfl⟩ := e1
      subst e2 e3 e4 e5 e6
      exact ⟨⟨f, f', s, k, m, l, is⟩, _, _, _, _, _, _, _, rfl, F0, F1, i64_of ws, i64_of wk, F4, F5, F6⟩

set_option maxRecDepth 100000 in
theorem slot_open {fuel : Nat} {cs : List Value} {x : DataW H × List MemPlace} (h : DataW.trod enc Try.prog w base sp hd fuel 57 cs = some x) : ∃ s : Slt, cs = [.int .i64 s.stamp, .int .i64 s.count, .string s.bytes] ∧ (-9223372036854775808 ≤ s.stamp ∧ s.stamp ≤ 9223372036854775807) := by
  obtain ⟨xs, n, _, rfl, hl, hlen, hf⟩ := DataW.trod_struct Try.underlying57 h
  rw [show Try.prog.cellsOf 57 = 3 by kernel_rfl] at hl
  match cs, hl with
  | [v0, v1, v2], _ =>
    match xs, hlen with
    | [y0, y1, y2], _ =>
      have g0 : DataW.trod enc Try.prog w base sp hd n 3 ((List.drop 0 [v0, v1, v2]).take (Try.prog.cellsOf 3)) = some y0 := hf 0 _ rfl
      have g1 : DataW.trod enc Try.prog w base sp hd n 3 ((List.drop 1 [v0, v1, v2]).take (Try.prog.cellsOf 3)) = some y1 := hf 1 _ rfl
      have g2 : DataW.trod enc Try.prog w base sp hd n 9 ((List.drop 2 [v0, v1, v2]).take (Try.prog.cellsOf 9)) = some y2 := hf 2 _ rfl
      simp only [show Try.prog.cellsOf 3 = 1 by kernel_rfl, show Try.prog.cellsOf 9 = 1 by kernel_rfl, List.drop_zero, List.drop_succ_cons, List.take_succ_cons, List.take_zero, List.getElem?_cons_zero, List.getElem?_cons_succ] at g0 g1 g2
      obtain ⟨a, ha, _, wa⟩ := DataW.trod_int Try.underlying3 g0
      obtain ⟨b, hb, _, wb⟩ := DataW.trod_int Try.underlying3 g1
      obtain ⟨s, hs, _, _⟩ := DataW.trod_string Try.underlying9 g2
      simp only [List.cons.injEq, and_true] at ha hb hs
      subst ha hb hs
      exact ⟨⟨a, b, s⟩, rfl, i64_of wa⟩

set_option maxRecDepth 100000 in
theorem slots_open {fuel : Nat} {cs : List Value} {x : DataW H × List MemPlace} (h : DataW.trod enc Try.prog w base sp hd fuel 29 cs = some x) : ∃ v S, cs = [v] ∧ SlRaw w v S := by
  rcases Go.Deep.open_slice Try.underlying29 h with ⟨rfl, _⟩ | ⟨a, len, c, m, k, D, Pl, rfl, _, hl, hm, hmm, _, hel⟩
  · exact ⟨_, [], rfl, by simp, none, 0, rfl, fun j hj => by simp at hj⟩
  · have hle : len ≤ m := by rw [hmm]; split <;> omega
    have h3 : Try.prog.cellsOf 57 = 3 := by kernel_rfl
    obtain ⟨V, hV⟩ := Go.Deep.choose_lt (α := Slt) (n := m) (p := fun i s => (-9223372036854775808 ≤ s.stamp ∧ s.stamp ≤ 9223372036854775807) ∧ w.cell? (a.add (i * 3)) = some (.int .i64 s.stamp) ∧ w.cell? (a.add (i * 3 + 1)) = some (.int .i64 s.count) ∧ w.cell? (a.add (i * 3 + 2)) = some (.string s.bytes)) (fun i hi => by
      obtain ⟨cs', h1, h2⟩ := hel i hi
      rw [h3] at h1
      obtain ⟨_, hlen, hcell⟩ := World.cells?_some h1
      obtain ⟨s, rfl, hs⟩ := slot_open h2
      have g0 := hcell 0 (by omega)
      have g1 := hcell 1 (by omega)
      have g2 := hcell 2 (by omega)
      rw [Addr.add_add] at g0 g1 g2
      exact ⟨s, hs, g0, g1, g2⟩)
    have hln : ((List.range len).map V).length = len := by simp
    refine ⟨_, (List.range len).map V, rfl, by omega, some a, c, by rw [hln], fun j hj => ?_⟩
    rw [hln] at hj
    obtain ⟨h1, k0, k1, k2⟩ := hV j (by omega)
    obtain ⟨_, z0, _⟩ := hV 0 (by omega)
    obtain ⟨g, o, s⟩ := a
    have hs : s = none := by have := World.cell?_spot z0; simpa [Addr.add] using this
    subst hs
    have e : ((List.range len).map V)[j]'(by rw [hln]; exact hj) = V j := by simp
    rw [Go.WideShapes.add_plain] at k0 k1 k2
    rw [e]
    exact ⟨g, o, rfl, h1, k0, by rw [Nat.add_assoc]; exact k1, by rw [Nat.add_assoc]; exact k2⟩

theorem dumpArg_open {v : Value} {d : DataW H} {ps : List MemPlace} (h : DataW.Trod enc Try.prog w base sp hd 28 v d ps) (hv : ∃ cs, v = .agg cs) : ∃ d', DmAt w v d' := by
  obtain ⟨cs, rfl⟩ := hv
  obtain ⟨fuel, hf⟩ := h
  obtain ⟨d', hd'⟩ := dump_open hf
  exact ⟨d', by simpa [Value.cells] using hd'⟩

theorem slotsArg_open {v : Value} {d : DataW H} {ps : List MemPlace} (h : DataW.Trod enc Try.prog w base sp hd 29 v d ps) (hv : ∃ a len cap, v = .slice a len cap) : ∃ S, SlRaw w v S := by
  obtain ⟨a, len, cap, rfl⟩ := hv
  obtain ⟨fuel, hf⟩ := h
  obtain ⟨v, S, hc, hS⟩ := slots_open hf
  simp [Value.cells] at hc
  subst hc
  exact ⟨S, hS⟩

end
end Go.Proofs.Ytohgkfnbjfhniaa
