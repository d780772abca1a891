/-
  Contracts of script's reading side: a line, a text.
-/
import Derived.Test.YtohgkfnbjfhniaaDoorSw
import Derived.Test.YtohgkfnbjfhniaaDoorFr
import Derived.Deep.RegionHeld3
import Derived.Deep.RegionLaw
import Derived.BigRegion
namespace Go.Proofs.YtohgkfnbjfhniaaDoor
open Go.RowKit Sp

theorem info61 : (Tryd.prog.info? 61).map (fun i => (i.zero, i.size, i.bytes)) = some (some (.agg #[.int .i64 0, .int .i64 0, .int .i64 0]), 3, 24) := by kernel_rfl

def flat3 (l : List Three) : List Value := l.flatMap fun p => [.int .i64 p.1, .int .i64 p.2.1, .int .i64 p.2.2]
theorem flat3_append (a b : List Three) : flat3 (a ++ b) = flat3 a ++ flat3 b := by simp [flat3]
theorem flat3_length (l : List Three) : (flat3 l).length = l.length * 3 := by
  induction l with
  | nil => rfl
  | cons p r ih => simp only [flat3, List.flatMap_cons, List.length_append, List.length_cons] at ih ⊢; simp at ih ⊢; omega

/-- What has been read, in block tb. -/
structure TxAt (w : World) (base tb : Nat) (st : St) (vb ve : Value) : Prop where
  c0 : w.cell? ⟨tb, 0, none⟩ = some vb
  c1 : w.cell? ⟨tb, 1, none⟩ = some (.int .i64 st.c.1)
  c2 : w.cell? ⟨tb, 2, none⟩ = some (.int .i64 st.c.2.1)
  c3 : w.cell? ⟨tb, 3, none⟩ = some (.int .i64 st.c.2.2)
  c4 : w.cell? ⟨tb, 4, none⟩ = some ve
  f0 : w.frozen? ⟨tb, 0, none⟩ = false
  f1 : w.frozen? ⟨tb, 1, none⟩ = false
  f2 : w.frozen? ⟨tb, 2, none⟩ = false
  f3 : w.frozen? ⟨tb, 3, none⟩ = false
  f4 : w.frozen? ⟨tb, 4, none⟩ = false
  nb : base ≤ tb
  lt : tb < w.heap.size
  ob : w.ownsRow base 5 1 vb st.b.length (cs8 st.b)
  oe : w.ownsRow base 61 3 ve st.es.length (flat3 st.es)
  n1 : vb.ownBlock ≠ some tb
  n2 : ve.ownBlock ≠ some tb
  dd : vb.ownBlock = none ∨ vb.ownBlock ≠ ve.ownBlock

theorem TxAt.fr {w w' : World} {base tb : Nat} {st : St} {vb ve : Value} (h : TxAt w base tb st vb ve) {S : Nat → Prop} (f : Fr S w w') (h1 : ¬ S tb) (h2 : ∀ k, vb.ownBlock = some k → ¬ S k) (h3 : ∀ k, ve.ownBlock = some k → ¬ S k) : TxAt w' base tb st vb ve :=
  ⟨f.cell h.c0 h1, f.cell h.c1 h1, f.cell h.c2 h1, f.cell h.c3 h1, f.cell h.c4 h1, (f.frozen h.lt h1).trans h.f0, (f.frozen h.lt h1).trans h.f1, (f.frozen h.lt h1).trans h.f2, (f.frozen h.lt h1).trans h.f3, (f.frozen h.lt h1).trans h.f4,
    h.nb, Nat.lt_of_lt_of_le h.lt f.size, Fr.own h.ob f h2, Fr.own h.oe f h3, h.n1, h.n2, h.dd⟩

theorem TxAt.below {w w' : World} {base tb : Nat} {st : St} {vb ve : Value} (h : TxAt w base tb st vb ve) (hb : Below w.heap.size w w') : TxAt w' base tb st vb ve :=
  h.fr (Fr.of_below hb) (by have := h.lt; omega) (fun k e => by have := (h.ob.lt k e).2; omega) (fun k e => by have := (h.oe.lt k e).2; omega)

theorem TxAt.setC {w : World} {base tb : Nat} {st : St} {vb ve : Value} (h : TxAt w base tb st vb ve) (x y z : Int) :
    TxAt (((w.setCell ⟨tb, 1, none⟩ (.int .i64 x)).setCell ⟨tb, 2, none⟩ (.int .i64 y)).setCell ⟨tb, 3, none⟩ (.int .i64 z)) base tb { st with c := (x, y, z) } vb ve := by
  obtain ⟨c0, c1, c2, c3, c4, f0, f1, f2, f3, f4, nb, lt, ob, oe, n1, n2, dd⟩ := h
  have f : Fr (fun k => k = tb) w (((w.setCell ⟨tb, 1, none⟩ (.int .i64 x)).setCell ⟨tb, 2, none⟩ (.int .i64 y)).setCell ⟨tb, 3, none⟩ (.int .i64 z)) :=
    Fr.setCell (S := fun k => k = tb) (Fr.setCell (S := fun k => k = tb) (Fr.setCell (S := fun k => k = tb) (Fr.refl _ w) (p := ⟨tb, 1, none⟩) rfl _) (p := ⟨tb, 2, none⟩) rfl _) (p := ⟨tb, 3, none⟩) rfl _
  refine ⟨?_, ?_, ?_, ?_, ?_, ?_, ?_, ?_, ?_, ?_, nb, Nat.lt_of_lt_of_le lt f.size, Fr.own ob f (fun k e q => n1 (by rw [e, q])), Fr.own oe f (fun k e q => n2 (by rw [e, q])), n1, n2, dd⟩ <;> simp [go_sem, c0, c1, c2, c3, c4, f0, f1, f2, f3, f4]

/-- How a line ends. -/
def LineEnd (base tb : Nat) (w : World) (r : Option St) (e : Ending) (w' : World) : Prop :=
  (match r with
    | some st' => e = .returned (.bool true) ∧ ∃ vb' ve', TxAt w' base tb st' vb' ve'
    | none => e = .returned (.bool false)) ∧ Below base w w'


theorem splitC_le (c : UInt8) : ∀ (s : List UInt8), ∀ p ∈ splitC c s, p.length ≤ s.length
  | [], p, h => by simp [splitC] at h; simp [h]
  | b :: r, p, h => by
    have ih := splitC_le c r
    unfold splitC at h
    split at h
    · rcases List.mem_cons.1 h with rfl | h
      · simp
      · have := ih p h; simp; omega
    · cases hq : splitC c r with
      | nil => rw [hq] at h; simp at h; subst h; simp
      | cons x t =>
        rw [hq] at h
        rcases List.mem_cons.1 h with rfl | h
        · have := ih x (by rw [hq]; simp); simp; omega
        · have := ih p (by rw [hq]; simp [h]); simp; omega

theorem split_any (s : ByteArray) (hs : s.size < 4294967281) (w : World) (g : GW w) :
    Calls Tryd.prog 47 #[.string s, .string ⟨#[32]⟩] w fun e w' => ∃ ws : List ByteArray, 1 ≤ ws.length ∧ Hid (ws.map (·.toList) = splitC 32 s.toList) ∧ Hid (∀ p ∈ ws, p.size ≤ s.size) ∧
      e = .returned (.slice (some ⟨w.heap.size, 0, none⟩) ws.length ws.length) ∧ w' = w.alloc (.cells (ws.map Value.string).toArray 9) := by
  obtain ⟨m, hm⟩ := g.c0
  refine (Tryd.strings_Split s ⟨#[32]⟩ m w hs hm (by simp [ByteArray.size])).mono ?_
  rintro e w' ⟨rfl, rfl⟩
  have hl := Lib.splitB_all ⟨#[32]⟩ (by simp [ByteArray.size]) 0 _ s rfl
  have hd := splitB_splitC 32 _ s rfl
  have he : (Lib.splitB ⟨#[32]⟩ 0 (Lib.countB s ⟨#[32]⟩) s).map (·.toList) = splitC 32 s.toList := by
    rw [Lib.toList_data s, ← hd]; exact List.map_congr_left (fun p _ => Lib.toList_data p)
  refine ⟨Lib.splitB ⟨#[32]⟩ 0 (Lib.countB s ⟨#[32]⟩) s, by omega, he, ?_, by rw [hl], rfl⟩
  intro p hp
  have h1 := splitC_le 32 s.toList p.toList (by rw [← he]; exact List.mem_map.2 ⟨p, hp, rfl⟩)
  rw [Lib.toList_data, Lib.toList_data, ← Lib.size_eq, ← Lib.size_eq] at h1
  exact h1

theorem words_cell (w : World) (ws : List ByteArray) {j : Nat} (hj : j < ws.length) : (w.alloc (.cells (ws.map Value.string).toArray 9)).cell? ⟨w.heap.size, j, none⟩ = some (.string ws[j]) := by
  simp [hj]

theorem TxAt.setB {w w1 : World} {base tb : Nat} {st : St} {vb ve v1 : Value} {x : List UInt8} {N : Nat} {xs : List Value} (h : TxAt w base tb st vb ve) (ho : w1.ownsRow base 5 1 v1 N xs) (hN : N = (st.b ++ x).length) (hx : xs = cs8 (st.b ++ x))
    (hg : w.grownBy w1 vb.ownBlock) (hl : v1.ownBlock = vb.ownBlock ∨ ∀ k, v1.ownBlock = some k → w.heap.size ≤ k) :
    TxAt (w1.setCell ⟨tb, 0, none⟩ v1) base tb { st with b := st.b ++ x } v1 ve := by
  subst hN hx
  have f : Fr (fun k => vb.ownBlock = some k) w w1 := (Fr.refl _ w).grown hg (fun k e _ => e)
  have hlt := h.lt
  have n1 : v1.ownBlock ≠ some tb := by
    rcases hl with e | e
    · rw [e]; exact h.n1
    · intro q; have := e tb q; omega
  have dd : v1.ownBlock = none ∨ v1.ownBlock ≠ ve.ownBlock := by
    rcases hl with e | e
    · rw [e]; exact h.dd
    · cases q : v1.ownBlock with
      | none => exact .inl rfl
      | some k => exact .inr (fun z => by have := e k q; have := (h.oe.lt k z.symm).2; omega)
  have oe1 : w1.ownsRow base 61 3 ve st.es.length (flat3 st.es) := Fr.own h.oe f (fun k e q => by rcases h.dd with d | d; rw [d] at q; cases q; exact d (q.trans e.symm))
  have f2 := Fr.setCell (S := fun k => k = tb) (Fr.refl _ w1) (p := ⟨tb, 0, none⟩) rfl v1
  have c1 := f.cell h.c1 h.n1
  have c2 := f.cell h.c2 h.n1
  have c3 := f.cell h.c3 h.n1
  have c4 := f.cell h.c4 h.n1
  have c0 := f.cell h.c0 h.n1
  refine ⟨?_, ?_, ?_, ?_, ?_, ?_, ?_, ?_, ?_, ?_, h.nb, Nat.lt_of_lt_of_le hlt (Nat.le_trans f.size f2.size), Fr.own ho f2 (fun k e q => n1 (by rw [e, q])), Fr.own oe1 f2 (fun k e q => h.n2 (by rw [e, q])), n1, h.n2, dd⟩
  · rw [World.cell?_setCell_same _ _ _ c0]
  · rw [World.cell?_setCell_other _ _ _ _ (by simp)]; exact c1
  · rw [World.cell?_setCell_other _ _ _ _ (by simp)]; exact c2
  · rw [World.cell?_setCell_other _ _ _ _ (by simp)]; exact c3
  · rw [World.cell?_setCell_other _ _ _ _ (by simp)]; exact c4
  · rw [World.frozen?_setCell, f.frozen hlt h.n1]; exact h.f0
  · rw [World.frozen?_setCell, f.frozen hlt h.n1]; exact h.f1
  · rw [World.frozen?_setCell, f.frozen hlt h.n1]; exact h.f2
  · rw [World.frozen?_setCell, f.frozen hlt h.n1]; exact h.f3
  · rw [World.frozen?_setCell, f.frozen hlt h.n1]; exact h.f4

theorem TxAt.setE {w w1 : World} {base tb : Nat} {st : St} {vb ve v1 : Value} {x : List Three} {N : Nat} {xs : List Value} (h : TxAt w base tb st vb ve) (ho : w1.ownsRow base 61 3 v1 N xs) (hN : N = (st.es ++ x).length) (hx : xs = flat3 (st.es ++ x))
    (hg : w.grownBy w1 ve.ownBlock) (hl : v1.ownBlock = ve.ownBlock ∨ ∀ k, v1.ownBlock = some k → w.heap.size ≤ k) :
    TxAt (w1.setCell ⟨tb, 4, none⟩ v1) base tb { st with es := st.es ++ x } vb v1 := by
  subst hN hx
  have f : Fr (fun k => ve.ownBlock = some k) w w1 := (Fr.refl _ w).grown hg (fun k e _ => e)
  have hlt := h.lt
  have n1 : v1.ownBlock ≠ some tb := by
    rcases hl with e | e
    · rw [e]; exact h.n2
    · intro q; have := e tb q; omega
  have dd : vb.ownBlock = none ∨ vb.ownBlock ≠ v1.ownBlock := by
    rcases hl with e | e
    · rw [e]; exact h.dd
    · cases q : vb.ownBlock with
      | none => exact .inl rfl
      | some k => exact .inr (fun z => by have := e k z.symm; have := (h.ob.lt k q).2; omega)
  have ob1 : w1.ownsRow base 5 1 vb st.b.length (cs8 st.b) := Fr.own h.ob f (fun k e q => by rcases h.dd with d | d; rw [d] at e; cases e; exact d (e.trans q.symm))
  have f2 := Fr.setCell (S := fun k => k = tb) (Fr.refl _ w1) (p := ⟨tb, 4, none⟩) rfl v1
  have c1 := f.cell h.c1 h.n2
  have c2 := f.cell h.c2 h.n2
  have c3 := f.cell h.c3 h.n2
  have c4 := f.cell h.c4 h.n2
  have c0 := f.cell h.c0 h.n2
  refine ⟨?_, ?_, ?_, ?_, ?_, ?_, ?_, ?_, ?_, ?_, h.nb, Nat.lt_of_lt_of_le hlt (Nat.le_trans f.size f2.size), Fr.own ob1 f2 (fun k e q => h.n1 (by rw [e, q])), Fr.own ho f2 (fun k e q => n1 (by rw [e, q])), h.n1, n1, dd⟩
  · rw [World.cell?_setCell_other _ _ _ _ (by simp)]; exact c0
  · rw [World.cell?_setCell_other _ _ _ _ (by simp)]; exact c1
  · rw [World.cell?_setCell_other _ _ _ _ (by simp)]; exact c2
  · rw [World.cell?_setCell_other _ _ _ _ (by simp)]; exact c3
  · rw [World.cell?_setCell_same _ _ _ c4]
  · rw [World.frozen?_setCell, f.frozen hlt h.n2]; exact h.f0
  · rw [World.frozen?_setCell, f.frozen hlt h.n2]; exact h.f1
  · rw [World.frozen?_setCell, f.frozen hlt h.n2]; exact h.f2
  · rw [World.frozen?_setCell, f.frozen hlt h.n2]; exact h.f3
  · rw [World.frozen?_setCell, f.frozen hlt h.n2]; exact h.f4


/-- An append of a string's bytes: where the new row lies. -/
theorem append_string_at {w : World} {v v' : Value} {w' : World} {ty base : Nat} {n : Nat} {xs : List Value} (s : ByteArray) (hown : w.ownsRow base 5 1 v n xs) (h63 : n + s.size ≤ 140737488355328)
    (hr : (Builtin.append_ #[36, 9] ty #[v, .string s]).run Tryd.prog w = .ok v' w') : v'.ownBlock = v.ownBlock ∨ ∀ k, v'.ownBlock = some k → w.heap.size ≤ k := by
  obtain ⟨i0, hi, hz0, hz1, hz2⟩ := info_parts info5
  have hxl : xs.length = n := by simpa using hown.1
  rcases hown.2 with ⟨rfl, rfl⟩ | ⟨g, cap, cur, rfl, hbg, hg, hnc, hcm, hcs, htake⟩
  · by_cases hm : s.size = 0
    · left
      have hf := Lib.run_firstCells_string (P := Tryd.prog) w 1 s
      have hn : Lib.strCells s = [] := List.eq_nil_of_length_eq_zero (by rw [Lib.strCells_length]; exact hm)
      rw [hm] at hf
      have h2 : (Builtin.append_ #[36, 9] ty #[.slice none 0 0, .string s]).run Tryd.prog w = .ok (.slice none 0 0) w := by
        simp [Builtin.append_, run_underlying Tryd.underlying36, run_underlying Tryd.underlying9, sizeOf, typeInfo, hi, hz1, Builtin.lenOf, hm, hf]
      rw [h2] at hr; cases hr; rfl
    · right
      have h2 := run_append_nil_string (P := Tryd.prog) w 36 9 ty 5 i0 (.int .u8 0) Tryd.underlying36 Tryd.underlying9 hi hz0 s (by omega) (by omega) (by rw [hz2]; omega)
      rw [h2] at hr; cases hr
      intro k e; simp [Value.ownBlock] at e; omega
  · by_cases hroom : n + s.size ≤ cap
    · left
      have hcs' : cur.size = cap := by simpa using hcs
      have h2 := Lib.run_append_room_string (P := Tryd.prog) w 36 9 ty 5 i0 Tryd.underlying36 Tryd.underlying9 hi hz1 g n cap cur hg s hroom (by omega)
      rw [h2] at hr; cases hr; rfl
    · right
      have holds : ∀ j u, xs[j]? = some u → w.cell? ((⟨g, 0, none⟩ : Addr).add j) = some u := hown.cells (g := g) rfl
      have h2 := Lib.run_append_grow_string (P := Tryd.prog) w 36 9 ty 5 i0 (.int .u8 0) Tryd.underlying36 Tryd.underlying9 hi hz0 ⟨g, 0, none⟩ n cap xs (by rw [hz1]; simpa using hxl) holds s (by omega) (by omega) (by rw [hz2]; exact growslice_fits (by omega) (by omega))
      rw [h2] at hr; cases hr
      intro k e; simp [Value.ownBlock] at e; omega

theorem strCells_cs8 (s : ByteArray) : Lib.strCells s = cs8 s.toList := by
  rw [Lib.toList_data]; rfl

/-- 'append(b, s...)' of a string, for the walk. -/
theorem wpList_append_str {w : World} {ops : Array Oper} {rest : List Oper} {o : Oper} {a : Act} {Q : Exit → Act → World → Prop} (hgd : o.guard = none) (sl x : Operand)
    (ho : o.op = .call { callee := .builtin .append, args := #[sl, x], argTypes := #[36, 9] })
    (base : Nat) (v : Value) (n : Nat) (xs : List Value) (hs : a.eval sl = v) (hown : w.ownsRow base 5 1 v n xs) (s : ByteArray) (hx : a.eval x = .string s)
    (hbytes : n + s.size ≤ 140737488355328) (hbase : base ≤ w.heap.size)
    (h : ∀ A c w', w'.ownsRow base 5 1 (.slice A (n + s.size) c) (n + s.size) (xs ++ cs8 s.toList) → w.grownBy w' v.ownBlock → (Value.ownBlock (.slice A (n + s.size) c) = v.ownBlock ∨ ∀ k, Value.ownBlock (.slice A (n + s.size) c) = some k → w.heap.size ≤ k) → wpList Tryd.prog ops Q rest (a.put o.dst (.slice A (n + s.size) c)) w') : wpList Tryd.prog ops Q (o :: rest) a w := by
  obtain ⟨i0, hi, hz0, hz1, hz2⟩ := info_parts info5
  refine wpList_plain hgd fun K hK => ?_
  obtain ⟨v', w', hr, h2, h3, h4⟩ := Lib.run_append_own_string (P := Tryd.prog) w base 36 9 o.type 5 i0 Tryd.underlying36 Tryd.underlying9 hi hz0 hz1 hz2 v n xs hown s (by unfold maxLen; omega) hbytes hbase
  have hat := append_string_at s hown hbytes hr
  obtain ⟨A, c, rfl⟩ := own_form h2
  unfold Oper.wp execOp
  simp only [ho, resolve, invoke, builtin, Sem.run_bind, Sem.run_pure, Result.andThen_ok, List.map_toArray, List.map_cons, List.map_nil, hs, hx, hr]
  rw [strCells_cs8] at h2
  exact hK _ _ (h A c w' h2 h3 hat)

end Go.Proofs.YtohgkfnbjfhniaaDoor
