/-
  A dump; its regions.
-/
import Derived.Test.YtohgkfnbjfhniaaWn
import Derived.Maps.AppendAt
namespace Go.Proofs.Ytohgkfnbjfhniaa
open Go.RowKit

theorem info24 : (Try.prog.info? 24).map (fun i => (i.zero, i.size, i.bytes)) = some (some (.agg #[.int .i64 0, .slice none 0 0]), 2, 32) := by kernel_rfl

theorem append_types (w : World) (ty : TypeId) (b : Option Addr) (n c : Nat) (x : Value) {i : TypeInfo} (hi : Try.prog.info? 24 = some i) : (Builtin.append_ #[62, 25] ty #[.slice b n c, x]).run Try.prog w = (Builtin.append_ #[62, 62] ty #[.slice b n c, x]).run Try.prog w := by
  simp [Builtin.append_, run_underlying Try.underlying62, run_underlying Try.underlying25, sizeOf, typeInfo, hi]

theorem own_slice {w : World} {base e size n : Nat} {v : Value} {xs : List Value} (h : w.ownsRow base e size v n xs) : ∃ b c, v = .slice b n c := by
  rcases h.2 with ⟨rfl, rfl⟩ | ⟨g, c, _, rfl, _⟩
  · exact ⟨none, 0, rfl⟩
  · exact ⟨_, c, rfl⟩

theorem run_append_empty {w : World} {base e size n : Nat} {v : Value} {xs : List Value} (hown : w.ownsRow base e size v n xs) (t ty : TypeId) {i : TypeInfo} (ht : Try.prog.underlying t = some (.slice e)) (hi : Try.prog.info? e = some i) (cap : Nat) :
    (Builtin.append_ #[t, t] ty #[v, .slice none 0 cap]).run Try.prog w = .ok v w := by
  rcases hown.2 with ⟨rfl, _⟩ | ⟨g, c, cur, rfl, hbg, hg, hnc, hcm, hcs, htake⟩
  · simp [Builtin.append_, run_underlying ht, sizeOf, typeInfo, hi, Builtin.lenOf, run_firstCells_none]
  · simp [Builtin.append_, run_underlying ht, sizeOf, typeInfo, hi, Builtin.lenOf, run_firstCells_none, hnc, Addr.add_lit, storeCells]

theorem grown_same (w : World) (row : Option Nat) : w.grownBy w row := ⟨rfl, rfl, rfl, Nat.le_refl _, fun _ _ _ => rfl⟩

/-- What a region's two cells hold. -/
def FrAt (w : World) (a b : Value) (f : Frg) : Prop := (-9223372036854775808 ≤ f.1 ∧ f.1 ≤ 9223372036854775807) ∧ a = .int .i64 f.1 ∧ ∃ wa wc, b = .slice wa f.2.length wc ∧ Ws w (.slice wa f.2.length wc) f.2

theorem FrAt.below {w w' : World} {a b : Value} {f : Frg} (h : FrAt w a b f) (hb : Below w.heap.size w w') : FrAt w' a b f := by
  obtain ⟨h1, h2, wa, wc, h3, h4⟩ := h
  exact ⟨h1, h2, wa, wc, h3, h4.below hb⟩

/-- A row's cells hold regions. -/
def Held (w : World) : List Value → List Frg → Prop
  | [], [] => True
  | a :: b :: r, f :: m => FrAt w a b f ∧ Held w r m
  | _, _ => False

theorem Held.len {w : World} : ∀ {xs : List Value} {m : List Frg}, Held w xs m → xs.length = m.length * 2
  | [], [], _ => rfl
  | _ :: _ :: r, _ :: m, h => by have := Held.len h.2; simp only [List.length_cons]; omega
  | [], _ :: _, h => by cases h
  | [_], _, h => by simp [Held] at h
  | _ :: _ :: _, [], h => by cases h

theorem Held.below {w w' : World} (hb : Below w.heap.size w w') : ∀ {xs : List Value} {m : List Frg}, Held w xs m → Held w' xs m
  | [], [], _ => trivial
  | _ :: _ :: _, _ :: _, h => ⟨h.1.below hb, Held.below hb h.2⟩
  | [], _ :: _, h => by cases h
  | [_], _, h => by simp [Held] at h
  | _ :: _ :: _, [], h => by cases h

theorem Held.one {w : World} : ∀ {xs : List Value} {m : List Frg}, Held w xs m → ∀ u ∈ xs, u.oneCell' = true
  | [], [], _ => fun _ h => by cases h
  | _ :: _ :: _, _ :: _, h => fun u hu => by
    obtain ⟨⟨_, rfl, wa, wc, rfl, _⟩, h2⟩ := h
    simp only [List.mem_cons] at hu
    rcases hu with rfl | rfl | hu
    · rfl
    · rfl
    · exact Held.one h2 u hu
  | [], _ :: _, h => by cases h
  | [_], _, h => by simp [Held] at h
  | _ :: _ :: _, [], h => by cases h

theorem Held.at {w : World} : ∀ {xs : List Value} {m : List Frg}, Held w xs m → ∀ j, (hj : j < m.length) → ∃ a b, xs[j * 2]? = some a ∧ xs[j * 2 + 1]? = some b ∧ FrAt w a b m[j]
  | [], [], _ => fun j hj => by simp at hj
  | a :: b :: r, f :: m, h => fun j hj => by
    cases j with
    | zero => exact ⟨a, b, rfl, rfl, h.1⟩
    | succ j =>
      obtain ⟨a', b', k1, k2, k3⟩ := Held.at h.2 j (by simpa using hj)
      refine ⟨a', b', ?_, ?_, by simpa using k3⟩
      · rw [show (j + 1) * 2 = j * 2 + 1 + 1 by omega]; simpa using k1
      · rw [show (j + 1) * 2 + 1 = j * 2 + 1 + 1 + 1 by omega]; simpa using k2
  | [], _ :: _, h => by cases h
  | [_], _, h => by simp [Held] at h
  | _ :: _ :: _, [], h => by cases h

/-- The cells of regions in memory. -/
theorem held_of {w : World} {g o : Nat} : ∀ (m : List Frg) (k : Nat), (∀ j, (hj : j < m.length) → ∃ wa wc, (-9223372036854775808 ≤ m[j].1 ∧ m[j].1 ≤ 9223372036854775807) ∧ w.cell? ⟨g, o + (k + j) * 2, none⟩ = some (.int .i64 m[j].1) ∧
    w.cell? ⟨g, o + (k + j) * 2 + 1, none⟩ = some (.slice wa m[j].2.length wc) ∧ Ws w (.slice wa m[j].2.length wc) m[j].2) →
    ∃ xs, Held w xs m ∧ ∀ j u, xs[j]? = some u → w.cell? ⟨g, o + k * 2 + j, none⟩ = some u
  | [], k, _ => ⟨[], trivial, fun j u h => by simp at h⟩
  | f :: m, k, h => by
    obtain ⟨xs, h1, h2⟩ := held_of (w := w) (g := g) (o := o) m (k + 1) (fun j hj => by
      have := h (j + 1) (by simpa using hj)
      rw [show k + (j + 1) = k + 1 + j by omega] at this
      simpa using this)
    obtain ⟨wa, wc, hi, k0, k1, hw⟩ := h 0 (by simp)
    simp only [Nat.add_zero, List.getElem_cons_zero] at hi k0 k1 hw
    refine ⟨.int .i64 f.1 :: .slice wa f.2.length wc :: xs, ⟨⟨hi, rfl, wa, wc, rfl, hw⟩, h1⟩, fun j u hj => ?_⟩
    match j with
    | 0 => simp only [List.getElem?_cons_zero, Option.some.injEq] at hj; rw [← hj]; exact k0
    | 1 => simp only [List.getElem?_cons_succ, List.getElem?_cons_zero, Option.some.injEq] at hj; rw [← hj]; exact k1
    | j + 2 =>
      simp only [List.getElem?_cons_succ] at hj
      have := h2 j u hj
      rw [show o + k * 2 + (j + 2) = o + (k + 1) * 2 + j by omega]
      exact this

theorem held_append {w : World} : ∀ {xs ys : List Value} {a b : List Frg}, Held w xs a → Held w ys b → Held w (xs ++ ys) (a ++ b)
  | [], _, [], _, _, h => h
  | _ :: _ :: _, _, _ :: _, _, h, k => ⟨h.1, held_append h.2 k⟩
  | [], _, _ :: _, _, h, _ => by cases h
  | [_], _, _, _, h, _ => by simp [Held] at h
  | _ :: _ :: _, _, [], _, h, _ => by cases h

theorem append_rs {W0 w : World} {base n : Nat} {v xv : Value} {xs : List Value} {m : List Frg} (ty : TypeId) (hown : w.ownsRow base 24 2 v n xs) (hm : RsAt W0 xv m) (hbl : Below W0.heap.size W0 w) (hle : n + m.length ≤ 1000000) (hbase : base ≤ w.heap.size) :
    ∃ v' w' ys, (Builtin.append_ #[62, 25] ty #[v, xv]).run Try.prog w = .ok v' w' ∧ Held W0 ys m ∧ w'.ownsRow base 24 2 v' (n + m.length) (xs ++ ys) ∧ w.grownBy w' v.ownBlock := by
  obtain ⟨i0, hi, hz0, hz1, hz2⟩ := info_parts info24
  obtain ⟨_, a, cap, rfl, hc⟩ := hm
  obtain ⟨vb, vc, hv⟩ := own_slice hown
  rw [hv, append_types _ _ _ _ _ _ hi, ← hv]
  cases a with
  | none =>
    have : m = [] := by
      cases m with
      | nil => rfl
      | cons x r => obtain ⟨_, _, _, _, q, _⟩ := hc 0 (by simp); cases q
    subst this
    exact ⟨v, w, [], run_append_empty hown 62 ty Try.underlying62 hi cap, trivial, by simpa using hown, grown_same _ _⟩
  | some ad =>
    by_cases hmm : m = []
    · subst hmm
      obtain ⟨v', w', h1, h2, h3, _, _⟩ := run_append_own_at (P := Try.prog) w base 62 ty 24 i0 (.agg #[.int .i64 0, .slice none 0 0]) 2 32 Try.underlying62 hi hz0 hz1 hz2 rfl (by decide) v n xs hown ad 0 cap [] rfl (fun j u hj => by simp at hj) (fun u hu => by cases hu) (by unfold maxLen; simp at hle; omega) (by simp at hle; omega) hbase
      exact ⟨v', w', [], h1, trivial, h2, h3⟩
    · have h0 : 0 < m.length := List.length_pos_iff.2 hmm
      obtain ⟨g, o, _, _, q, _⟩ := hc 0 h0
      cases q
      obtain ⟨ys, hh, hy⟩ := held_of (w := W0) (g := g) (o := o) m 0 (fun j hj => by
        obtain ⟨g', o', wa, wc, q, r1, r2, r3, r4⟩ := hc j hj
        cases q
        exact ⟨wa, wc, r1, by rw [Nat.zero_add]; exact r2, by rw [Nat.zero_add]; exact r3, r4⟩)
      obtain ⟨v', w', h1, h2, h3, _, _⟩ := run_append_own_at (P := Try.prog) w base 62 ty 24 i0 (.agg #[.int .i64 0, .slice none 0 0]) 2 32 Try.underlying62 hi hz0 hz1 hz2 rfl (by decide) v n xs hown ⟨g, o, none⟩ m.length cap ys hh.len (fun j u hj => by
        rw [Addr.add_lit]
        have := hy j u hj
        rw [Nat.zero_mul, Nat.add_zero] at this
        exact (hbl.cell (World.block_lt_of_cell? W0 _ this)).trans this) hh.one (by unfold maxLen; omega) (by omega) hbase
      exact ⟨v', w', ys, h1, hh, h2, h3⟩

theorem wpList_append_rs {w : World} {ops : Array Oper} {rest : List Oper} {o : Oper} {a : Act} {Q : Exit → Act → World → Prop} (hgd : o.guard = none) (sl x : Operand)
    (ho : o.op = .call { callee := .builtin .append, args := #[sl, x], argTypes := #[62, 25] })
    (base : Nat) (v : Value) (n : Nat) (xs : List Value) (hs : a.eval sl = v) (hown : w.ownsRow base 24 2 v n xs) (xv : Value) (hx : a.eval x = xv) (m : List Frg) (W0 : World) (hm : RsAt W0 xv m) (hbl : Below W0.heap.size W0 w)
    (hle : n + m.length ≤ 1000000) (hbase : base ≤ w.heap.size)
    (h : ∀ v' w' ys, Held W0 ys m → w'.ownsRow base 24 2 v' (n + m.length) (xs ++ ys) → w.grownBy w' v.ownBlock → wpList Try.prog ops Q rest (a.put o.dst v') w') : wpList Try.prog ops Q (o :: rest) a w := by
  refine wpList_plain hgd fun K hK => ?_
  obtain ⟨v', w', ys, hr, h1, h2, h3⟩ := append_rs o.type hown hm hbl hle hbase
  unfold Oper.wp execOp
  simp only [ho, resolve, invoke, builtin, Sem.run_bind, Sem.run_pure, Result.andThen_ok, List.map_toArray, List.map_cons, List.map_nil, hs, hx, hr]
  exact hK _ _ (h v' w' ys h1 h2 h3)

/-- A row that holds regions is regions in memory. -/
theorem rs_of_own {w : World} {base n : Nat} {v : Value} {xs : List Value} {m : List Frg} (hown : w.ownsRow base 24 2 v n xs) (hn : n = m.length) (hh : Held w xs m) (hpos : 0 < n) : RsAt w v m := by
  subst hn
  rcases hown.2 with ⟨_, h0⟩ | ⟨g, c, cur, rfl, hbg, hg, hnc, hcm, hcs, htake⟩
  · omega
  · refine ⟨by omega, some ⟨g, 0, none⟩, c, rfl, fun j hj => ?_⟩
    obtain ⟨a, b, k1, k2, hi, rfl, wa, wc, rfl, hw⟩ := hh.at j hj
    have hcell : ∀ k u, xs[k]? = some u → w.cell? ⟨g, 0 + k, none⟩ = some u := fun k u hk => by
      rw [← htake] at hk
      have hk' : cur[k]? = some u := by
        rw [List.getElem?_take] at hk
        split at hk
        · simpa using hk
        · cases hk
      simp [World.cell?, hg, hk']
    exact ⟨g, 0, wa, wc, rfl, hi, hcell _ _ k1, by rw [Nat.add_assoc]; exact hcell _ _ k2, hw⟩

end Go.Proofs.Ytohgkfnbjfhniaa
