/-
  A term that came in as an argument.
-/
import Derived.Test.YtohgkfnbjfhniaaDoorTm
import Derived.Test.YtohgkfnbjfhniaaDoorOg
namespace Go.Proofs.YtohgkfnbjfhniaaDoor
open Go.RowKit Sp Go.ChangeShapes

instance : Inhabited Tm := ⟨.mk 0 0 false [] 0 ⟨#[]⟩ []⟩

section
variable {H : Type} {enc : TypeId × Value → H} {w : World} {sp : Nat → Bool} {hd : Bool}

theorem spot_none {a : Addr} {u : Value} (h : w.cell? (a.add 0) = some u) : a.spot = none := by
  have := World.cell?_spot h
  simpa [Addr.add] using this

set_option maxRecDepth 100000 in
theorem limbs_open {fuel : Nat} {v : Value} {x : DataW H × List MemPlace} (h : DataW.trod enc Tryd.prog w 0 sp hd fuel 22 [v] = some x) : ∃ l, Ms w v l ∧ l.length ≤ maxLen ∧ ∀ y ∈ l, y < 4294967296 := by
  rcases open_ints Tryd.underlying22 Tryd.underlying107 (by kernel_rfl) h with ⟨hcs, _⟩ | ⟨a, len, cap, zs, hcs, _, hl, hm, hz, _, hcell, hwf⟩
  · simp at hcs
    subst hcs
    exact ⟨[], ⟨none, 0, rfl, fun j hj => by simp at hj⟩, by simp, fun y hy => by cases hy⟩
  · simp at hcs
    subst hcs
    have hle : len ≤ zs.length := by rw [hz]; split <;> omega
    refine ⟨(zs.take len).map (·.toNat), ⟨some a, cap, by simp [Nat.min_eq_left hle], fun j hj => ?_⟩, by simp; omega, fun y hy => ?_⟩
    · have hj' : j < len := by simp at hj; omega
      have hjz : j < zs.length := by omega
      have hc := hcell j hjz
      have hw := hwf _ (List.getElem_mem hjz)
      simp [Lit.wf, IntKind.min, IntKind.max, IntKind.signed, IntKind.bits] at hw
      have e : zs.getD j 0 = zs[j] := by simp [List.getD, hjz]
      rw [e] at hc
      obtain ⟨g, o, s⟩ := a
      obtain rfl : s = none := spot_none (hcell 0 (by omega))
      refine ⟨g, o, rfl, ?_⟩
      rw [← Go.WideShapes.add_plain g o j, hc]
      simp only [List.getElem_map, List.getElem_take]
      congr 2
      omega
    · simp only [List.mem_map] at hy
      obtain ⟨z, hz1, rfl⟩ := hy
      have hw := hwf z (List.mem_of_mem_take hz1)
      simp [Lit.wf, IntKind.min, IntKind.max, IntKind.signed, IntKind.bits] at hw
      omega

set_option maxRecDepth 100000 in
theorem term_open : ∀ (fuel : Nat) (cs : List Value) (x : DataW H × List MemPlace), DataW.trod enc Tryd.prog w 0 sp hd fuel 28 cs = some x → ∃ t, TmAt w (.agg cs.toArray) t := by
  intro fuel
  induction fuel using Nat.strongRecOn with
  | _ fuel ih =>
    intro cs x h
    obtain ⟨xs, n, rfl, rfl, hl, hlen, hf⟩ := DataW.trod_struct Tryd.underlying28 h
    have h28 : Tryd.prog.cellsOf 28 = 7 := by kernel_rfl
    have h24 : Tryd.prog.cellsOf 24 = 2 := by kernel_rfl
    have h3 : Tryd.prog.cellsOf 3 = 1 := by kernel_rfl
    have h4 : Tryd.prog.cellsOf 4 = 1 := by kernel_rfl
    have h22 : Tryd.prog.cellsOf 22 = 1 := by kernel_rfl
    have h25 : Tryd.prog.cellsOf 25 = 1 := by kernel_rfl
    have h9 : Tryd.prog.cellsOf 9 = 1 := by kernel_rfl
    have h26 : Tryd.prog.cellsOf 26 = 1 := by kernel_rfl
    rw [h28] at hl
    match cs, hl with
    | [v0, v1, v2, v3, v4, v5, v6], _ =>
      match xs, hlen with
      | [y0, y1, y2, y3, y4, y5], _ =>
        have g0 := hf 0 _ rfl
        have g1 := hf 1 _ rfl
        have g2 := hf 2 _ rfl
        have g3 := hf 3 _ rfl
        have g4 := hf 4 _ rfl
        have g5 := hf 5 _ rfl
        change DataW.trod enc Tryd.prog w 0 sp hd n 3 (List.take (Tryd.prog.cellsOf 3) [v0, v1, v2, v3, v4, v5, v6]) = some y0 at g0
        rw [h3] at g0
        change DataW.trod enc Tryd.prog w 0 sp hd n 3 [v0] = some y0 at g0
        change DataW.trod enc Tryd.prog w 0 sp hd n 3 (List.take (Tryd.prog.cellsOf 3) [v1, v2, v3, v4, v5, v6]) = some y1 at g1
        rw [h3] at g1
        change DataW.trod enc Tryd.prog w 0 sp hd n 3 [v1] = some y1 at g1
        change DataW.trod enc Tryd.prog w 0 sp hd n 24 (List.take (Tryd.prog.cellsOf 24) [v2, v3, v4, v5, v6]) = some y2 at g2
        rw [h24] at g2
        change DataW.trod enc Tryd.prog w 0 sp hd n 24 [v2, v3] = some y2 at g2
        change DataW.trod enc Tryd.prog w 0 sp hd n 25 (List.take (Tryd.prog.cellsOf 25) [v4, v5, v6]) = some y3 at g3
        rw [h25] at g3
        change DataW.trod enc Tryd.prog w 0 sp hd n 25 [v4] = some y3 at g3
        change DataW.trod enc Tryd.prog w 0 sp hd n 9 (List.take (Tryd.prog.cellsOf 9) [v5, v6]) = some y4 at g4
        rw [h9] at g4
        change DataW.trod enc Tryd.prog w 0 sp hd n 9 [v5] = some y4 at g4
        change DataW.trod enc Tryd.prog w 0 sp hd n 26 (List.take (Tryd.prog.cellsOf 26) [v6]) = some y5 at g5
        rw [h26] at g5
        change DataW.trod enc Tryd.prog w 0 sp hd n 26 [v6] = some y5 at g5
        obtain ⟨k, e0, _, w0⟩ := DataW.trod_int Tryd.underlying3 g0
        obtain ⟨m, e1, _, w1⟩ := DataW.trod_int Tryd.underlying3 g1
        obtain ⟨bits, e3, _, w3⟩ := DataW.trod_int Tryd.underlying25 g3
        obtain ⟨bytes, e4, _, w4⟩ := DataW.trod_string Tryd.underlying9 g4
        obtain ⟨ns, n2, hn2, _, hl2, hlen2, hf2⟩ := DataW.trod_struct Tryd.underlying24 g2
        match ns, hlen2 with
        | [z0, z1], _ =>
          have k0 := hf2 0 _ rfl
          have k1 := hf2 1 _ rfl
          change DataW.trod enc Tryd.prog w 0 sp hd n2 4 (List.take (Tryd.prog.cellsOf 4) [v2, v3]) = some z0 at k0
          change DataW.trod enc Tryd.prog w 0 sp hd n2 22 (List.take (Tryd.prog.cellsOf 22) [v3]) = some z1 at k1
          rw [h4] at k0
          rw [h22] at k1
          change DataW.trod enc Tryd.prog w 0 sp hd n2 4 [v2] = some z0 at k0
          change DataW.trod enc Tryd.prog w 0 sp hd n2 22 [v3] = some z1 at k1
          obtain ⟨neg, e2, _⟩ := DataW.trod_bool Tryd.underlying4 k0
          obtain ⟨mag, hm, hml, hu⟩ := limbs_open k1
          simp only [List.cons.injEq, and_true] at e0 e1 e2 e3 e4
          subst e0 e1 e2 e3 e4
          have wb := w3
          simp [Lit.wf, IntKind.min, IntKind.max, IntKind.signed, IntKind.bits] at wb
          obtain ⟨bb, rfl⟩ : ∃ b : Nat, bits = b := ⟨bits.toNat, by omega⟩
          rcases DataW.trod_slice Tryd.underlying26 g5 with ⟨hcs, _⟩ | ⟨a, len, cap, elems, rest, q, hq, hcs, _, _, hl5, hm5, hlen5, hel, _, _⟩
          · simp at hcs
            subst hcs
            exact ⟨.mk k m neg mag bb bytes [], .mk (args := []) (fun _ => #[]) (bounds_i64 w0) (bounds_i64 w1) hm hml hu (by omega) w4 (by simp) (fun j hj => by simp at hj) (fun j hj => by simp at hj)⟩
          · simp at hcs
            subst hcs
            rw [h28] at hel
            obtain ⟨V, hV⟩ := Go.Deep.choose_lt (α := List Value × Tm) (n := len) (p := fun i p => w.cells? 0 (a.add (i * 7)) 7 = some p.1 ∧ TmAt w (.agg p.1.toArray) p.2) (fun i hi => by
              have he := hel i hi
              rw [List.getElem?_eq_getElem (by omega)] at he
              obtain ⟨c, hc1, hc2⟩ := Option.bind_eq_some_iff.1 he
              obtain ⟨t, ht⟩ := ih q (by omega) c _ hc2
              exact ⟨(c, t), hc1, ht⟩)
            refine ⟨.mk k m neg mag bb bytes ((List.range len).map fun i => (V i).2), ?_⟩
            have key := TmAt.mk (w := w) (neg := neg) (args := (List.range len).map fun i => (V i).2) (a := some a) (cap := cap) (fun i => (V i).1.toArray) (bounds_i64 w0) (bounds_i64 w1) hm hml hu (by omega : bb < 18446744073709551616) w4 (by simp; omega) (fun j hj => by
              have hj' : j < len := by simpa using hj
              obtain ⟨_, hcl, hcell⟩ := World.cells?_some (hV j hj').1
              obtain ⟨u0, hu0⟩ := (hV j hj').2.seven 0 (by omega)
              have hc0 := hcell 0 (by omega)
              simp at hu0
              rw [hu0] at hc0
              obtain ⟨g, o, s⟩ := a
              obtain rfl : s = none := by
                obtain ⟨_, _, hcell0⟩ := World.cells?_some (hV 0 (by omega)).1
                obtain ⟨u1, hu1⟩ := (hV 0 (by omega)).2.seven 0 (by omega)
                have h0 := hcell0 0 (by omega)
                simp at hu1
                rw [hu1, Nat.zero_mul] at h0
                exact spot_none (a := ⟨g, o, s⟩) (by simpa [Addr.add] using h0)
              refine ⟨g, o, rfl, fun i hi => ?_⟩
              have := hcell i hi
              rw [Go.WideShapes.add_plain, Go.WideShapes.add_plain] at this
              rw [this]; simp) (fun j hj => by
              have hj' : j < len := by simpa using hj
              simpa using (hV j hj').2)
            simpa [termV] using key

end
end Go.Proofs.YtohgkfnbjfhniaaDoor
