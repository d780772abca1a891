/-
  Arguments that came in: bytes, a configuration, events.
-/
import Derived.Test.YtohgkfnbjfhniaaDoorPn
import Derived.Deep.Slices
import Derived.ChangeSlices
import Derived.OpenShut
import Derived.Carry
namespace Go.Proofs.YtohgkfnbjfhniaaDoor
open Go.RowKit Sp Go.ChangeShapes

section
variable {H : Type} {enc : TypeId × Value → H} {w : World} {base : Nat} {sp : Nat → Bool} {hd : Bool}

set_option maxRecDepth 100000 in
theorem three_open {ts : TypeId} {f0 f1 f2 : Field} {fuel : Nat} {cs : List Value} {x : DataW H × List MemPlace} (hfs : Tryd.prog.underlying ts = some (.struct #[f0, f1, f2])) (ho : f0.offset = 0 ∧ f1.offset = 1 ∧ f2.offset = 2)
    (ht : f0.type = 3 ∧ f1.type = 3 ∧ f2.type = 3) (hc : Tryd.prog.cellsOf ts = 3) (h3 : Tryd.prog.cellsOf 3 = 1) (h : DataW.trod enc Tryd.prog w base sp hd fuel ts cs = some x) :
    ∃ a b c : Int, cs = [.int .i64 a, .int .i64 b, .int .i64 c] ∧ In64 a ∧ In64 b ∧ In64 c := by
  obtain ⟨xs, n, _, rfl, hl, hlen, hf⟩ := DataW.trod_struct hfs h
  obtain ⟨o0, o1, o2⟩ := ho
  obtain ⟨t0, t1, t2⟩ := ht
  rw [hc] at hl
  match cs, hl with
  | [v0, v1, v2], _ =>
    match xs, hlen with
    | [y0, y1, y2], _ =>
      have g0 := hf 0 f0 rfl
      have g1 := hf 1 f1 rfl
      have g2 := hf 2 f2 rfl
      rw [o0, t0, h3] at g0
      rw [o1, t1, h3] at g1
      rw [o2, t2, h3] at g2
      simp only [List.drop_zero, List.drop_succ_cons, List.take_succ_cons, List.take_zero, List.getElem?_cons_zero, List.getElem?_cons_succ] at g0 g1 g2
      obtain ⟨a, ha, _, wa⟩ := DataW.trod_int Tryd.underlying3 g0
      obtain ⟨b, hb, _, wb⟩ := DataW.trod_int Tryd.underlying3 g1
      obtain ⟨c, hc, _, wc⟩ := DataW.trod_int Tryd.underlying3 g2
      simp only [List.cons.injEq, and_true] at ha hb hc
      exact ⟨a, b, c, by rw [ha, hb, hc], bounds_i64 wa, bounds_i64 wb, bounds_i64 wc⟩

theorem config_open {fuel : Nat} {cs : List Value} {x : DataW H × List MemPlace} (h : DataW.trod enc Tryd.prog w base sp hd fuel 38 cs = some x) :
    ∃ a b c : Int, cs = [.int .i64 a, .int .i64 b, .int .i64 c] ∧ In64 a ∧ In64 b ∧ In64 c :=
  three_open Tryd.underlying38 ⟨rfl, rfl, rfl⟩ ⟨rfl, rfl, rfl⟩ (by kernel_rfl) (by kernel_rfl) h

theorem event_open {fuel : Nat} {cs : List Value} {x : DataW H × List MemPlace} (h : DataW.trod enc Tryd.prog w base sp hd fuel 61 cs = some x) :
    ∃ a b c : Int, cs = [.int .i64 a, .int .i64 b, .int .i64 c] ∧ In64 a ∧ In64 b ∧ In64 c :=
  three_open Tryd.underlying61 ⟨rfl, rfl, rfl⟩ ⟨rfl, rfl, rfl⟩ (by kernel_rfl) (by kernel_rfl) h

set_option maxRecDepth 100000 in
theorem bytes_open {v : Value} {d : DataW H} {ps : List MemPlace} (h : DataW.Trod enc Tryd.prog w base sp hd 36 v d ps) (hv : ∃ a len cap, v = .slice a len cap) : ∃ l, Bs w v l := by
  obtain ⟨a, len, cap, rfl⟩ := hv
  obtain ⟨fuel, hf⟩ := h
  rcases open_ints Tryd.underlying36 Tryd.underlying5 (by kernel_rfl) hf with ⟨hcs, _⟩ | ⟨x, n, c, zs, hcs, _, hl, hm, hz, _, hcell, hwf⟩
  · simp [Value.cells] at hcs
    obtain ⟨rfl, rfl, rfl⟩ := hcs
    exact ⟨[], none, 0, rfl, fun j hj => by simp at hj⟩
  · simp [Value.cells] at hcs
    obtain ⟨rfl, rfl, rfl⟩ := hcs
    have hle : len ≤ zs.length := by rw [hz]; split <;> omega
    refine ⟨(zs.take len).map (fun z => UInt8.ofNat z.toNat), some x, cap, by simp [Nat.min_eq_left hle], fun j hj => ⟨x, rfl, ?_⟩⟩
    have hj' : j < len := by simp at hj; omega
    have hjz : j < zs.length := by omega
    rw [hcell j hjz]
    have hb := bounds_u8 (hwf _ (List.getElem_mem hjz))
    have e : zs.getD j 0 = zs[j] := by simp [List.getD, hjz]
    rw [e]
    simp only [List.getElem_map, List.getElem_take]
    have e2 : (UInt8.ofNat (zs[j].toNat)).toNat = zs[j].toNat := by rw [UInt8.toNat_ofNat']; omega
    rw [e2]
    congr 2
    omega

set_option maxRecDepth 100000 in
theorem events_open {v : Value} {d : DataW H} {ps : List MemPlace} (h : DataW.Trod enc Tryd.prog w base sp hd 39 v d ps) (hv : ∃ a len cap, v = .slice a len cap) : ∃ l, Es w v l ∧ ∀ e ∈ l, In64 e.1 ∧ In64 e.2.1 ∧ In64 e.2.2 := by
  obtain ⟨a, len, cap, rfl⟩ := hv
  obtain ⟨fuel, hf⟩ := h
  rcases Go.Deep.open_slice Tryd.underlying39 hf with ⟨hcs, _⟩ | ⟨x, n, c, m, k, D, Pl, hcs, _, hl, hm, hmm, _, hel⟩
  · simp [Value.cells] at hcs
    obtain ⟨rfl, rfl, rfl⟩ := hcs
    exact ⟨[], ⟨none, 0, rfl, fun j hj => by simp at hj⟩, fun e he => by cases he⟩
  · simp [Value.cells] at hcs
    obtain ⟨rfl, rfl, rfl⟩ := hcs
    have hle : len ≤ m := by rw [hmm]; split <;> omega
    have h3 : Tryd.prog.cellsOf 61 = 3 := by kernel_rfl
    obtain ⟨V, hV⟩ := Go.Deep.choose_lt (α := Three) (n := m) (p := fun i e => (w.cell? (x.add (i * 3)) = some (.int .i64 e.1) ∧ w.cell? (x.add (i * 3 + 1)) = some (.int .i64 e.2.1) ∧ w.cell? (x.add (i * 3 + 2)) = some (.int .i64 e.2.2)) ∧ In64 e.1 ∧ In64 e.2.1 ∧ In64 e.2.2) (fun i hi => by
      obtain ⟨cs', h1, h2⟩ := hel i hi
      rw [h3] at h1
      obtain ⟨_, hlen, hcell⟩ := World.cells?_some h1
      obtain ⟨a, b, c, rfl, ia, ib, ic⟩ := event_open h2
      have g0 := hcell 0 (by omega)
      have g1 := hcell 1 (by omega)
      have g2 := hcell 2 (by omega)
      rw [Addr.add_add] at g0 g1 g2
      exact ⟨(a, b, c), ⟨g0, g1, g2⟩, ia, ib, ic⟩)
    refine ⟨(List.range len).map V, ⟨some x, cap, by simp, fun j hj => ⟨x, rfl, ?_⟩⟩, fun e he => ?_⟩
    · have hj' : j < len := by simpa using hj
      have := (hV j (by omega)).1
      simpa using this
    · simp only [List.mem_map, List.mem_range] at he
      obtain ⟨j, hj, rfl⟩ := he
      exact (hV j (by omega)).2

end
end Go.Proofs.YtohgkfnbjfhniaaDoor
