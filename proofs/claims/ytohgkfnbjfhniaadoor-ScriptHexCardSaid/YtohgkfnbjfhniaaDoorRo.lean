/-
  A row of bytes that came from a text's conversion, and grows by texts.
-/
import Derived.Test.YtohgkfnbjfhniaaDoorRl
import Derived.Test.YtohgkfnbjfhniaaDoorPn
import Derived.Lib.ConvBytes
import Derived.Lib.AppendStr
namespace Go.Proofs.YtohgkfnbjfhniaaDoor
open Go.RowKit Sp

/-- None of a row's cells is frozen. -/
def Thawed (n : Nat) (fz : Nat × Nat) : Prop := ∀ i, i < n → ¬ (fz.1 ≤ i ∧ i < fz.2)

/-- A row of bytes of one's own, whatever mark stands behind it. -/
def OT (w : World) (base : Nat) (v : Value) (l : List UInt8) : Prop :=
  ∃ g cap cur fz, v = .slice (some ⟨g, 0, none⟩) l.length cap ∧ base ≤ g ∧ w.heap[g]? = some (.cells cur 5 fz) ∧ Thawed cur.size fz ∧ l.length ≤ cap ∧ cap ≤ maxLen ∧ cur.size = cap ∧ cur.toList.take l.length = cs8 l

theorem OT.own {w : World} {base : Nat} {v : Value} {l : List UInt8} (h : OT w base v l) : ∀ k, v.ownBlock = some k → base ≤ k ∧ k < w.heap.size := by
  obtain ⟨g, cap, cur, fz, rfl, h1, h2, _⟩ := h
  intro k e
  simp [Value.ownBlock] at e
  subst e
  exact ⟨h1, (Array.getElem?_eq_some_iff.1 h2).1⟩

theorem OT.below {w w' : World} {base : Nat} {v : Value} {l : List UInt8} (h : OT w base v l) (hb : Below w.heap.size w w') : OT w' base v l := by
  obtain ⟨g, cap, cur, fz, h0, h1, h2, h3⟩ := h
  exact ⟨g, cap, cur, fz, h0, h1, (hb.block g (Array.getElem?_eq_some_iff.1 h2).1).trans h2, h3⟩

theorem OT.bs {w : World} {base : Nat} {v : Value} {l : List UInt8} (h : OT w base v l) : Bs w v l := by
  obtain ⟨g, cap, cur, fz, rfl, h1, h2, h3, h4, h5, h6, h7⟩ := h
  refine ⟨some ⟨g, 0, none⟩, cap, rfl, fun j hj => ⟨⟨g, 0, none⟩, rfl, ?_⟩⟩
  rw [add_zero_at]
  rw [block_cell h2 j]
  have e : (cur.toList.take l.length)[j]? = (cs8 l)[j]? := by rw [h7]
  rw [List.getElem?_take, if_pos hj] at e
  have e2 : (cs8 l)[j]? = some (.int .u8 (l[j].toNat : Int)) := by unfold cs8; simp [hj]
  rw [e2] at e
  simpa using e

theorem store_tail (P : Program) (g : Nat) (t : TypeId) (fz : Nat × Nat) : ∀ (vs : List Value) (o i : Nat) (cur : Array Value) (w : World), w.heap[g]? = some (.cells cur t fz) → Thawed cur.size fz → o + i + vs.length ≤ cur.size → (∀ v ∈ vs, v.oneCell' = true) →
    ∃ cur' w', (storeCells ⟨g, o, none⟩ vs i).run P w = .ok () w' ∧ w'.heap[g]? = some (.cells cur' t fz) ∧ cur'.size = cur.size ∧ cur'.toList.take (o + i + vs.length) = cur.toList.take (o + i) ++ vs ∧ w'.os = w.os ∧ w.grownBy w' (some g)
  | [], o, i, cur, w, hg, _, _, _ => ⟨cur, w, rfl, hg, rfl, by simp, rfl, ⟨rfl, rfl, rfl, Nat.le_refl _, fun _ _ _ => rfl⟩⟩
  | v :: rest, o, i, cur, w, hg, hfz, hl, h1 => by
    have hi : o + i < cur.size := by simp at hl; omega
    have hcell : w.cell? ⟨g, o + i, none⟩ = some cur[o + i] := by simp [World.cell?, hg, hi]
    have hfro : w.frozen? ⟨g, o + i, none⟩ = false := by
      have := hfz (o + i) hi
      obtain ⟨lo, hi'⟩ := fz
      simp only [World.frozen?, hg, Bool.and_eq_false_iff, decide_eq_false_iff_not]
      simp only at this
      by_cases q : lo ≤ o + i
      · right; intro q2; exact this ⟨q, q2⟩
      · left; exact q
    have hst : (store ((⟨g, o, none⟩ : Addr).add i) v).run P w = .ok () (w.setCell ⟨g, o + i, none⟩ v) := by
      rw [show (⟨g, o, none⟩ : Addr).add i = ⟨g, o + i, none⟩ by unfold Addr.add; split <;> simp_all, run_store P w _ v _ (h1 v (by simp)), hcell]
      simp [hfro]
    have hg' : (w.setCell ⟨g, o + i, none⟩ v).heap[g]? = some (.cells (cur.setIfInBounds (o + i) v) t fz) := by
      have := block_set hg (o + i) v; exact this
    obtain ⟨cur', w', k1, k2, k3, k4, k5, k6⟩ := store_tail P g t fz rest o (i + 1) (cur.setIfInBounds (o + i) v) _ hg' (by simpa using hfz) (by simp at hl ⊢; omega) (fun x hx => h1 x (by simp [hx]))
    refine ⟨cur', w', ?_, k2, by simpa using k3, ?_, k5, ?_⟩
    · simp only [storeCells, Sem.run_bind, hst, Result.andThen_ok, k1]
    · have e1 : o + i + (v :: rest).length = o + (i + 1) + rest.length := by simp; omega
      rw [e1, k4, Array.toList_setIfInBounds]
      have e2 : (cur.toList.set (o + i) v).take (o + (i + 1)) = cur.toList.take (o + i) ++ [v] := by
        rw [← Nat.add_assoc, List.take_set, List.take_succ_eq_append_getElem (by simpa using hi)]
        rw [List.set_append_right _ _ (by rw [List.length_take]; omega)]
        have : (cur.toList.take (o + i)).length = o + i := by simp; omega
        rw [this]; simp
      rw [e2]; simp
    · have k0 : w.grownBy (w.setCell ⟨g, o + i, none⟩ v) (some g) := ⟨rfl, rfl, rfl, by simp, fun k hk hne => Below.heap_setCell _ _ _ _ (fun e => hne (by simp [e]))⟩
      exact k0.trans k6

theorem OT.append {w : World} {base : Nat} {v : Value} {l : List UInt8} (ty : TypeId) (h : OT w base v l) (s : ByteArray) (hl : l.length + s.size ≤ 140737488355328) (hbase : base ≤ w.heap.size) :
    ∃ v' w', (Builtin.append_ #[36, 9] ty #[v, .string s]).run Tryd.prog w = .ok v' w' ∧ OT w' base v' (l ++ s.toList) ∧ w.grownBy w' v.ownBlock := by
  obtain ⟨g, cap, cur, fz, rfl, hbg, hg, hfz, hnc, hcm, hcs, htake⟩ := h
  obtain ⟨i0, hi, hz0, hz1, hz2⟩ := info_parts info5
  have hsl : (l ++ s.toList).length = l.length + s.size := by rw [List.length_append, size_toList]
  have hcs8 : cs8 (l ++ s.toList) = cs8 l ++ Lib.strCells s := by rw [strCells_cs8]; simp [cs8]
  by_cases hroom : l.length + s.size ≤ cap
  · have hf := Lib.run_firstCells_string (P := Tryd.prog) w 1 s
    obtain ⟨cur', w', k1, k2, k3, k4, k5, k6⟩ := store_tail Tryd.prog g 5 fz (Lib.strCells s) l.length 0 cur w hg hfz (by rw [Lib.strCells_length]; omega) (Lib.strCells_oneCell s)
    refine ⟨.slice (some ⟨g, 0, none⟩) (l.length + s.size) cap, w', ?_, ⟨g, cap, cur', fz, by rw [hsl], hbg, k2, by rw [k3]; exact hfz, by omega, hcm, by omega, ?_⟩, k6⟩
    · simp [Builtin.append_, run_underlying Tryd.underlying36, run_underlying Tryd.underlying9, sizeOf, typeInfo, hi, hz1, Builtin.lenOf, hroom, hf, Addr.add_lit, k1]
    · rw [hsl, hcs8, ← htake]
      simpa [Lib.strCells_length] using k4
  · have holds : ∀ j u, (cs8 l)[j]? = some u → w.cell? ((⟨g, 0, none⟩ : Addr).add j) = some u := by
      intro j u hu
      rw [add_zero_at, block_cell hg j]
      rw [← htake, List.getElem?_take] at hu
      split at hu
      · simpa using hu
      · cases hu
    have hr := Lib.run_append_grow_string (P := Tryd.prog) w 36 9 ty 5 i0 (.int .u8 0) Tryd.underlying36 Tryd.underlying9 hi hz0 ⟨g, 0, none⟩ l.length cap (cs8 l) (by rw [hz1]; simp [cs8]) holds s (by omega) (by omega) (by rw [hz2]; exact growslice_fits (by omega) (by omega))
    have hge := grownCap_ge w (l.length + s.size) cap 5
    have hcm2 : grownCap w (l.length + s.size) cap 5 ≤ maxLen := grownCap_le_maxLen w (l.length + s.size) cap 5 (by unfold maxLen; omega)
    refine ⟨_, _, hr, ⟨w.heap.size, _, _, (0, 0), by rw [hsl], hbase, heap_alloc_new w.drew _, fun i _ q => by simp at q, by omega, hcm2, ?_, ?_⟩, ⟨rfl, rfl, rfl, by simp, fun k hk _ => heap_alloc_old w.drew _ hk⟩⟩
    · have hz1 : (Value.int IntKind.u8 0).cells.size = 1 := rfl
      simp only [Array.size_append, List.size_toArray, size_zeroCells, hz1, Lib.strCells_length]
      simp only [cs8, List.length_map]
      omega
    · simp only [Array.toList_append, List.append_assoc]
      rw [hcs8, ← List.append_assoc, show (l ++ s.toList).length = (cs8 l ++ Lib.strCells s).length by rw [hsl]; simp [cs8, Lib.strCells_length]]
      exact List.take_left

/-- 'append(b, s...)' of a text, for the walk. -/
theorem wpList_append_ot {w : World} {ops : Array Oper} {rest : List Oper} {o : Oper} {a : Act} {Q : Exit → Act → World → Prop} (hgd : o.guard = none) (sl x : Operand)
    (ho : o.op = .call { callee := .builtin .append, args := #[sl, x], argTypes := #[36, 9] })
    (base : Nat) (v : Value) (l : List UInt8) (hs : a.eval sl = v) (hown : OT w base v l) (s : ByteArray) (hx : a.eval x = .string s)
    (hbytes : l.length + s.size ≤ 140737488355328) (hbase : base ≤ w.heap.size)
    (h : ∀ v' w', OT w' base v' (l ++ s.toList) → w.grownBy w' v.ownBlock → wpList Tryd.prog ops Q rest (a.put o.dst v') w') : wpList Tryd.prog ops Q (o :: rest) a w := by
  refine wpList_plain hgd fun K hK => ?_
  obtain ⟨v', w', hr, h2, h3⟩ := OT.append o.type hown s hbytes hbase
  unfold Oper.wp execOp
  simp only [ho, resolve, invoke, builtin, Sem.run_bind, Sem.run_pure, Result.andThen_ok, List.map_toArray, List.map_cons, List.map_nil, hs, hx, hr]
  exact hK _ _ (h v' w' h2 h3)

theorem conv_str (s : ByteArray) (w : World) : (convert 9 36 (.string s)).run Tryd.prog w = .ok (.slice (some ⟨w.heap.size, 0, none⟩) s.size (grownCap w s.size 0 5)) (Lib.bytesWorld w 5 s) :=
  Lib.run_convert_string_bytes (P := Tryd.prog) w 9 36 5 s Tryd.underlying9 Tryd.underlying36 Tryd.underlying5

theorem OT.of_bytes (s : ByteArray) (hs : s.size ≤ 140737488355328) (w : World) (base : Nat) (hb : base ≤ w.heap.size) : OT (Lib.bytesWorld w 5 s) base (.slice (some ⟨w.heap.size, 0, none⟩) s.size (grownCap w s.size 0 5)) s.toList := by
  have hge := grownCap_ge w s.size 0 5
  have hcm2 : grownCap w s.size 0 5 ≤ maxLen := grownCap_le_maxLen w s.size 0 5 (by unfold maxLen; omega)
  have hsz : (Lib.bytesCells w 5 s).size = grownCap w s.size 0 5 := by
    unfold Lib.bytesCells
    simp only [Array.size_append, Array.size_map, Array.size_replicate]
    have e : s.data.size = s.size := rfl
    omega
  refine ⟨w.heap.size, _, _, _, by rw [size_toList], hb, Lib.bytesWorld_at_new w 5 s, fun i hi q => by simp at q; omega, by rw [size_toList]; exact hge, hcm2, hsz, ?_⟩
  unfold Lib.bytesCells
  rw [Array.toList_append, Array.toList_map, ← strCells_cs8]
  have e : (s.data.toList.map fun b => Value.int .u8 (b.toNat : Int)) = Lib.strCells s := rfl
  rw [e, show s.toList.length = (Lib.strCells s).length by rw [Lib.strCells_length, size_toList]]
  exact List.take_left

theorem below_bytesW (w : World) (s : ByteArray) : Below w.heap.size w (Lib.bytesWorld w 5 s) :=
  ⟨rfl, rfl, rfl, by rw [Lib.bytesWorld_size]; omega, fun k hk => Lib.bytesWorld_at_old w 5 s k hk⟩

end Go.Proofs.YtohgkfnbjfhniaaDoor
