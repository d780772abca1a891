/-
  A dump; its regions.
  A dump as an argument; its regions: mem.Of.
  An object's leads; the reader's weight; a binary.
  Does a word lead to where a region is not?
  Floats: which bits may a float have? (As in chapter 25's text Tn, renumbered.)
  Integers: may a number be? (As in chapter 25's text Tn, renumbered.)
-/
import Derived.Test.YtlmpmjhanpkcnaaGreatM00
import Derived.Maps.AppendAt
import Derived.RangeFuncRecord
import Derived.Deep.RegionWith
import Derived.Deep.RegionHeld3
import Derived.StillTailTactics
import Derived.Laws.Externs
set_option linter.unusedVariables false
set_option linter.unusedSimpArgs false
namespace Go.Proofs.YtlmpmjhanpkcnaaGreat
open Go.RowKit

theorem info24 : (Tryz.prog.info? 24).map (fun i => (i.zero, i.size, i.bytes)) = some (some (.agg #[.int .i64 0, .slice none 0 0]), 2, 32) := by kernel_rfl

theorem append_types (w : World) (ty : TypeId) (b : Option Addr) (n c : Nat) (x : Value) {i : TypeInfo} (hi : Tryz.prog.info? 24 = some i) : (Builtin.append_ #[55, 25] ty #[.slice b n c, x]).run Tryz.prog w = (Builtin.append_ #[55, 55] ty #[.slice b n c, x]).run Tryz.prog w := by
  simp [Builtin.append_, run_underlying Tryz.underlying55, run_underlying Tryz.underlying25, sizeOf, typeInfo, hi]

theorem own_slice {w : World} {base e size n : Nat} {v : Value} {xs : List Value} (h : w.ownsRow base e size v n xs) : ∃ b c, v = .slice b n c := by
  rcases h.2 with ⟨rfl, rfl⟩ | ⟨g, c, _, rfl, _⟩
  · exact ⟨none, 0, rfl⟩
  · exact ⟨_, c, rfl⟩

theorem run_append_empty {w : World} {base e size n : Nat} {v : Value} {xs : List Value} (hown : w.ownsRow base e size v n xs) (t ty : TypeId) {i : TypeInfo} (ht : Tryz.prog.underlying t = some (.slice e)) (hi : Tryz.prog.info? e = some i) (cap : Nat) :
    (Builtin.append_ #[t, t] ty #[v, .slice none 0 cap]).run Tryz.prog w = .ok v w := by
  rcases hown.2 with ⟨rfl, _⟩ | ⟨g, c, cur, rfl, hbg, hg, hnc, hcm, hcs, htake⟩
  · simp [Builtin.append_, run_underlying ht, sizeOf, typeInfo, hi, Builtin.lenOf, run_firstCells_none]
  · simp [Builtin.append_, run_underlying ht, sizeOf, typeInfo, hi, Builtin.lenOf, run_firstCells_none, hnc, Addr.add_lit, storeCells]

theorem grown_same (w : World) (row : Option Nat) : w.grownBy w row := ⟨rfl, rfl, rfl, Nat.le_refl _, fun _ _ _ => rfl⟩

/-- What a region's two cells hold. -/
def FrAt (w : World) (a b : Value) (f : Frg) : Prop := (-9223372036854775808 ≤ f.1 ∧ f.1 ≤ 9223372036854775807) ∧ a = .int .i64 f.1 ∧ ∃ wa wc, b = .slice wa f.2.length wc ∧ Ws w (.slice wa f.2.length wc) f.2

theorem FrAt.below {w w' : World} {a b : Value} {f : Frg} (h : FrAt w a b f) (hb : Below w.heap.size w w') : FrAt w' a b f := by
  obtain ⟨h1, h2, wa, wc, h3, h4⟩ := h
  exact ⟨h1, h2, wa, wc, h3, h4.below hb⟩

/-- A row's cells hold regions. -/
def Held (w : World) : List Value → List Frg → Prop
  | [], [] => True
  | a :: b :: r, f :: m => FrAt w a b f ∧ Held w r m
  | _, _ => False

theorem Held.len {w : World} : ∀ {xs : List Value} {m : List Frg}, Held w xs m → xs.length = m.length * 2
  | [], [], _ => rfl
  | _ :: _ :: r, _ :: m, h => by have := Held.len h.2; simp only [List.length_cons]; omega
  | [], _ :: _, h => by cases h
  | [_], _, h => by simp [Held] at h
  | _ :: _ :: _, [], h => by cases h

theorem Held.below {w w' : World} (hb : Below w.heap.size w w') : ∀ {xs : List Value} {m : List Frg}, Held w xs m → Held w' xs m
  | [], [], _ => trivial
  | _ :: _ :: _, _ :: _, h => ⟨h.1.below hb, Held.below hb h.2⟩
  | [], _ :: _, h => by cases h
  | [_], _, h => by simp [Held] at h
  | _ :: _ :: _, [], h => by cases h

theorem Held.one {w : World} : ∀ {xs : List Value} {m : List Frg}, Held w xs m → ∀ u ∈ xs, u.oneCell' = true
  | [], [], _ => fun _ h => by cases h
  | _ :: _ :: _, _ :: _, h => fun u hu => by
    obtain ⟨⟨_, rfl, wa, wc, rfl, _⟩, h2⟩ := h
    simp only [List.mem_cons] at hu
    rcases hu with rfl | rfl | hu
    · rfl
    · rfl
    · exact Held.one h2 u hu
  | [], _ :: _, h => by cases h
  | [_], _, h => by simp [Held] at h
  | _ :: _ :: _, [], h => by cases h

theorem Held.at {w : World} : ∀ {xs : List Value} {m : List Frg}, Held w xs m → ∀ j, (hj : j < m.length) → ∃ a b, xs[j * 2]? = some a ∧ xs[j * 2 + 1]? = some b ∧ FrAt w a b m[j]
  | [], [], _ => fun j hj => by simp at hj
  | a :: b :: r, f :: m, h => fun j hj => by
    cases j with
    | zero => exact ⟨a, b, rfl, rfl, h.1⟩
    | succ j =>
      obtain ⟨a', b', k1, k2, k3⟩ := Held.at h.2 j (by simpa using hj)
      refine ⟨a', b', ?_, ?_, by simpa using k3⟩
      · rw [show (j + 1) * 2 = j * 2 + 1 + 1 by omega]; simpa using k1
      · rw [show (j + 1) * 2 + 1 = j * 2 + 1 + 1 + 1 by omega]; simpa using k2
  | [], _ :: _, h => by cases h
  | [_], _, h => by simp [Held] at h
  | _ :: _ :: _, [], h => by cases h

/-- The cells of regions in memory. -/
theorem held_of {w : World} {g o : Nat} : ∀ (m : List Frg) (k : Nat), (∀ j, (hj : j < m.length) → ∃ wa wc, (-9223372036854775808 ≤ m[j].1 ∧ m[j].1 ≤ 9223372036854775807) ∧ w.cell? ⟨g, o + (k + j) * 2, none⟩ = some (.int .i64 m[j].1) ∧
    w.cell? ⟨g, o + (k + j) * 2 + 1, none⟩ = some (.slice wa m[j].2.length wc) ∧ Ws w (.slice wa m[j].2.length wc) m[j].2) →
    ∃ xs, Held w xs m ∧ ∀ j u, xs[j]? = some u → w.cell? ⟨g, o + k * 2 + j, none⟩ = some u
  | [], k, _ => ⟨[], trivial, fun j u h => by simp at h⟩
  | f :: m, k, h => by
    obtain ⟨xs, h1, h2⟩ := held_of (w := w) (g := g) (o := o) m (k + 1) (fun j hj => by
      have := h (j + 1) (by simpa using hj)
      rw [show k + (j + 1) = k + 1 + j by omega] at this
      simpa using this)
    obtain ⟨wa, wc, hi, k0, k1, hw⟩ := h 0 (by simp)
    simp only [Nat.add_zero, List.getElem_cons_zero] at hi k0 k1 hw
    refine ⟨.int .i64 f.1 :: .slice wa f.2.length wc :: xs, ⟨⟨hi, rfl, wa, wc, rfl, hw⟩, h1⟩, fun j u hj => ?_⟩
    match j with
    | 0 => simp only [List.getElem?_cons_zero, Option.some.injEq] at hj; rw [← hj]; exact k0
    | 1 => simp only [List.getElem?_cons_succ, List.getElem?_cons_zero, Option.some.injEq] at hj; rw [← hj]; exact k1
    | j + 2 =>
      simp only [List.getElem?_cons_succ] at hj
      have := h2 j u hj
      rw [show o + k * 2 + (j + 2) = o + (k + 1) * 2 + j by omega]
      exact this

theorem held_append {w : World} : ∀ {xs ys : List Value} {a b : List Frg}, Held w xs a → Held w ys b → Held w (xs ++ ys) (a ++ b)
  | [], _, [], _, _, h => h
  | _ :: _ :: _, _, _ :: _, _, h, k => ⟨h.1, held_append h.2 k⟩
  | [], _, _ :: _, _, h, _ => by cases h
  | [_], _, _, _, h, _ => by simp [Held] at h
  | _ :: _ :: _, _, [], _, h, _ => by cases h

theorem append_rs {W0 w : World} {base n : Nat} {v xv : Value} {xs : List Value} {m : List Frg} (ty : TypeId) (hown : w.ownsRow base 24 2 v n xs) (hm : RsAt W0 xv m) (hbl : Below W0.heap.size W0 w) (hle : n + m.length ≤ 1000000) (hbase : base ≤ w.heap.size) :
    ∃ v' w' ys, (Builtin.append_ #[55, 25] ty #[v, xv]).run Tryz.prog w = .ok v' w' ∧ Held W0 ys m ∧ w'.ownsRow base 24 2 v' (n + m.length) (xs ++ ys) ∧ w.grownBy w' v.ownBlock := by
  obtain ⟨i0, hi, hz0, hz1, hz2⟩ := info_parts info24
  obtain ⟨_, a, cap, rfl, hc⟩ := hm
  obtain ⟨vb, vc, hv⟩ := own_slice hown
  rw [hv, append_types _ _ _ _ _ _ hi, ← hv]
  cases a with
  | none =>
    have : m = [] := by
      cases m with
      | nil => rfl
      | cons x r => obtain ⟨_, _, _, _, q, _⟩ := hc 0 (by simp); cases q
    subst this
    exact ⟨v, w, [], run_append_empty hown 55 ty Tryz.underlying55 hi cap, trivial, by simpa using hown, grown_same _ _⟩
  | some ad =>
    by_cases hmm : m = []
    · subst hmm
      obtain ⟨v', w', h1, h2, h3, _, _⟩ := run_append_own_at (P := Tryz.prog) w base 55 ty 24 i0 (.agg #[.int .i64 0, .slice none 0 0]) 2 32 Tryz.underlying55 hi hz0 hz1 hz2 rfl (by decide) v n xs hown ad 0 cap [] rfl (fun j u hj => by simp at hj) (fun u hu => by cases hu) (by unfold maxLen; simp at hle; omega) (by simp at hle; omega) hbase
      exact ⟨v', w', [], h1, trivial, h2, h3⟩
    · have h0 : 0 < m.length := List.length_pos_iff.2 hmm
      obtain ⟨g, o, _, _, q, _⟩ := hc 0 h0
      cases q
      obtain ⟨ys, hh, hy⟩ := held_of (w := W0) (g := g) (o := o) m 0 (fun j hj => by
        obtain ⟨g', o', wa, wc, q, r1, r2, r3, r4⟩ := hc j hj
        cases q
        exact ⟨wa, wc, r1, by rw [Nat.zero_add]; exact r2, by rw [Nat.zero_add]; exact r3, r4⟩)
      obtain ⟨v', w', h1, h2, h3, _, _⟩ := run_append_own_at (P := Tryz.prog) w base 55 ty 24 i0 (.agg #[.int .i64 0, .slice none 0 0]) 2 32 Tryz.underlying55 hi hz0 hz1 hz2 rfl (by decide) v n xs hown ⟨g, o, none⟩ m.length cap ys hh.len (fun j u hj => by
        rw [Addr.add_lit]
        have := hy j u hj
        rw [Nat.zero_mul, Nat.add_zero] at this
        exact (hbl.cell (World.block_lt_of_cell? W0 _ this)).trans this) hh.one (by unfold maxLen; omega) (by omega) hbase
      exact ⟨v', w', ys, h1, hh, h2, h3⟩

theorem wpList_append_rs {w : World} {ops : Array Oper} {rest : List Oper} {o : Oper} {a : Act} {Q : Exit → Act → World → Prop} (hgd : o.guard = none) (sl x : Operand)
    (ho : o.op = .call { callee := .builtin .append, args := #[sl, x], argTypes := #[55, 25] })
    (base : Nat) (v : Value) (n : Nat) (xs : List Value) (hs : a.eval sl = v) (hown : w.ownsRow base 24 2 v n xs) (xv : Value) (hx : a.eval x = xv) (m : List Frg) (W0 : World) (hm : RsAt W0 xv m) (hbl : Below W0.heap.size W0 w)
    (hle : n + m.length ≤ 1000000) (hbase : base ≤ w.heap.size)
    (h : ∀ v' w' ys, Held W0 ys m → w'.ownsRow base 24 2 v' (n + m.length) (xs ++ ys) → w.grownBy w' v.ownBlock → wpList Tryz.prog ops Q rest (a.put o.dst v') w') : wpList Tryz.prog ops Q (o :: rest) a w := by
  refine wpList_plain hgd fun K hK => ?_
  obtain ⟨v', w', ys, hr, h1, h2, h3⟩ := append_rs o.type hown hm hbl hle hbase
  unfold Oper.wp execOp
  simp only [ho, resolve, invoke, builtin, Sem.run_bind, Sem.run_pure, Result.andThen_ok, List.map_toArray, List.map_cons, List.map_nil, hs, hx, hr]
  exact hK _ _ (h v' w' ys h1 h2 h3)

/-- A row that holds regions is regions in memory. -/
theorem rs_of_own {w : World} {base n : Nat} {v : Value} {xs : List Value} {m : List Frg} (hown : w.ownsRow base 24 2 v n xs) (hn : n = m.length) (hh : Held w xs m) (hpos : 0 < n) : RsAt w v m := by
  subst hn
  rcases hown.2 with ⟨_, h0⟩ | ⟨g, c, cur, rfl, hbg, hg, hnc, hcm, hcs, htake⟩
  · omega
  · refine ⟨by omega, some ⟨g, 0, none⟩, c, rfl, fun j hj => ?_⟩
    obtain ⟨a, b, k1, k2, hi, rfl, wa, wc, rfl, hw⟩ := hh.at j hj
    have hcell : ∀ k u, xs[k]? = some u → w.cell? ⟨g, 0 + k, none⟩ = some u := fun k u hk => by
      rw [← htake] at hk
      have hk' : cur[k]? = some u := by
        rw [List.getElem?_take] at hk
        split at hk
        · simpa using hk
        · cases hk
      simp [World.cell?, hg, hk']
    exact ⟨g, 0, wa, wc, rfl, hi, hcell _ _ k1, by rw [Nat.add_assoc]; exact hcell _ _ k2, hw⟩

end Go.Proofs.YtlmpmjhanpkcnaaGreat

namespace Go.Proofs.YtlmpmjhanpkcnaaGreat
open Go.RowKit

/-- Numbers in memory. -/
def Is (w : World) (v : Value) (l : List Int) : Prop :=
  l.length ≤ maxLen ∧ (∀ x ∈ l, -9223372036854775808 ≤ x ∧ x ≤ 9223372036854775807) ∧ ∃ a cap, v = .slice a l.length cap ∧ l.length ≤ cap ∧ cap ≤ maxLen ∧ ∀ j, (hj : j < l.length) → ∃ g o, a = some ⟨g, o, none⟩ ∧ w.cell? ⟨g, o + j, none⟩ = some (.int .i64 l[j])

theorem Is.below {w w' : World} {v : Value} {l : List Int} (h : Is w v l) (hb : Below w.heap.size w w') : Is w' v l := by
  obtain ⟨h1, h2, a, cap, rfl, h3, h4, hc⟩ := h
  refine ⟨h1, h2, a, cap, rfl, h3, h4, fun j hj => ?_⟩
  obtain ⟨g, o, rfl, k⟩ := hc j hj
  exact ⟨g, o, rfl, (hb.cell (World.block_lt_of_cell? w _ k)).trans k⟩

/-- A dump. -/
structure Dmp where
  young : Frg
  old : Frg
  size : Int
  mark : Int
  frags : List Frg
  roots : List Nat
  handles : List Int

def Dmp.mem (d : Dmp) : List Frg := d.young :: d.old :: d.frags

/-- A dump's nine cells. -/
abbrev dmpV (a b c d : Value) (size mark : Int) (f r h : Value) : Value := .agg #[a, b, c, d, .int .i64 size, .int .i64 mark, f, r, h]

def DmAt (w : World) (v : Value) (d : Dmp) : Prop :=
  ∃ a b a' b' f r h, v = dmpV a b a' b' d.size d.mark f r h ∧ FrAt w a b d.young ∧ FrAt w a' b' d.old ∧ (-9223372036854775808 ≤ d.size ∧ d.size ≤ 9223372036854775807) ∧ (-9223372036854775808 ≤ d.mark ∧ d.mark ≤ 9223372036854775807) ∧
    RsAt w f d.frags ∧ Ws w r d.roots ∧ Is w h d.handles

theorem DmAt.below {w w' : World} {v : Value} {d : Dmp} (h : DmAt w v d) (hb : Below w.heap.size w w') : DmAt w' v d := by
  obtain ⟨a, b, a', b', f, r, h, rfl, h1, h2, h3, h4, h5, h6, h7⟩ := h
  exact ⟨a, b, a', b', f, r, h, rfl, h1.below hb, h2.below hb, h3, h4, h5.below hb, h6.below hb, h7.below hb⟩

theorem own_two (W : World) (o : Obj) (a b c d : Value) : ((W.alloc o).alloc (.cells #[a, b, c, d] 24)).ownsRow W.heap.size 24 2 (.slice (some ⟨W.heap.size + 1, 0, none⟩) 2 2) 2 [a, b, c, d] := by
  refine ⟨rfl, Or.inr ⟨W.heap.size + 1, 2, #[a, b, c, d], rfl, by omega, ?_, by omega, by unfold maxLen; omega, rfl, rfl⟩⟩
  have h : (W.alloc o).heap.size = W.heap.size + 1 := by simp
  rw [← h]
  generalize W.alloc o = W1
  exact World.alloc_heap_new W1 _

set_option maxHeartbeats 4000000 in
set_option maxRecDepth 100000 in
theorem of_any (d : Dmp) (v : Value) (w : World) (hd : DmAt w v d) (hf : d.frags.length ≤ 100000) : Calls Tryz.prog 27 #[v] w fun e w' => ∃ r, e = .returned r ∧ RsAt w' r d.mem ∧ Below w.heap.size w w' := by
  obtain ⟨a, b, a', b', f, r, h, rfl, ⟨hi1, rfl, wa1, wc1, rfl, hw1⟩, ⟨hi2, rfl, wa2, wc2, rfl, hw2⟩, h3, h4, h5, h6, h7⟩ := hd
  have H1 := Lib.hid hw1
  have H2 := Lib.hid hw2
  have H5 := Lib.hid h5
  clear hw1 hw2 h5 h6 h7
  obtain ⟨dy, dol, sz, mk, fr, ro, ha⟩ := d
  simp only at *
  go_enter Tryz.func27, Tryz.ntmps27
  have HBa := Lib.hid (((Below.refl w.heap.size w).alloc (Nat.le_refl _) (.cells #[.int .i64 dy.1, .slice wa1 dy.2.length wc1, .int .i64 dol.1, .slice wa2 dol.2.length wc2, .int .i64 sz, .int .i64 mk, f, r, h] 28)).alloc (by simp) (.cells #[.int .i64 dy.1, .slice wa1 dy.2.length wc1, .int .i64 dol.1, .slice wa2 dol.2.length wc2] 24))
  go_wp2_with (at_builtin; (refine wpList_append_rs rfl (.tmp 7) (.tmp 9) rfl w.heap.size _ 2 [.int .i64 dy.1, .slice wa1 dy.2.length wc1, .int .i64 dol.1, .slice wa2 dol.2.length wc2] rfl (own_two _ _ _ _ _ _) _ rfl fr w H5.out HBa.out (by omega) HBa.out.size ?_; intro v1 w1 ys hh hown hgr; have HB1 := Lib.hid (HBa.out.grown hgr HBa.out.size (fun k hk => by cases hk; exact Nat.le_succ _)); have HO := Lib.hid hown; have HH := Lib.hid hh; clear hh hown hgr))
  go_ret
  refine ⟨_, rfl, ?_, HB1.out⟩
  have HF : Held w1 ([.int .i64 dy.1, .slice wa1 dy.2.length wc1, .int .i64 dol.1, .slice wa2 dol.2.length wc2] ++ ys) ([dy, dol] ++ fr) := by
    refine held_append ⟨⟨hi1, rfl, wa1, wc1, rfl, H1.out.below HB1.out⟩, ⟨hi2, rfl, wa2, wc2, rfl, H2.out.below HB1.out⟩, trivial⟩ (HH.out.below HB1.out)
  exact rs_of_own HO.out (by simp [Dmp.mem]; omega) HF (by omega)

end Go.Proofs.YtlmpmjhanpkcnaaGreat

namespace Go.Proofs.YtlmpmjhanpkcnaaGreat
open Go.RowKit

/-- Which of an object's words may lead somewhere. -/
def leadsP (kind : Int) (n : Nat) : Int × Int := if kind = -1 then (0, 2) else if kind = 0 then (1, n) else if kind = 5 then (1, 2) else (0, 0)

set_option maxHeartbeats 4000000 in
theorem leads_any (kind : Int) (a : Option Addr) (n c : Nat) (w : World) : Calls Tryz.prog 61 #[.agg #[.int .i64 kind, .slice a n c]] w fun e w' => e = .returned (.tuple #[.int .i64 (leadsP kind n).1, .int .i64 (leadsP kind n).2]) ∧ Below w.heap.size w w' := by
  have HB := Lib.hid ((Below.refl w.heap.size w).alloc (Nat.le_refl _) (.cells #[.int .i64 kind, .slice a n c] 107))
  by_cases h1 : kind = -1
  · subst h1
    go_enter Tryz.func61, Tryz.ntmps61
    go_wp2_with fail
    go_ret2
    exact ⟨rfl, HB.out⟩
  · by_cases h2 : kind = 0
    · subst h2
      go_enter Tryz.func61, Tryz.ntmps61
      go_wp2_with fail
      go_region
      go_wp2_with fail
      go_ret2
      exact ⟨rfl, HB.out.drew⟩
    · by_cases h3 : kind = 5
      · subst h3
        go_enter Tryz.func61, Tryz.ntmps61
        go_wp2_with fail
        go_ret2
        exact ⟨rfl, HB.out⟩
      · go_enter Tryz.func61, Tryz.ntmps61
        go_wp2_with fail
        go_ret2
        exact ⟨by simp [leadsP, h1, h2, h3], HB.out⟩

/-- The reader, as it lies. -/
def RdAt (w : World) (R : Nat) (m s : Value) (asks : Bool) (left : Int) : Prop := w.heap[R]? = some (.cells #[m, s, .bool asks, .int .i64 left] 153 (0, 0))

set_option maxHeartbeats 4000000 in
theorem weighs_any (R : Nat) (m s : Value) (asks : Bool) (left n : Int) (w : World) (h : RdAt w R m s asks left) (hl : -9000000000000000000 ≤ left ∧ left ≤ 10000) (hn : 0 ≤ n ∧ n ≤ 1000000) :
    Calls Tryz.prog 125 #[.pointer (some ⟨R, 0, none⟩), .int .i64 n] w fun e w' => e = .returned (.bool (decide (0 ≤ left - n))) ∧ RdAt w' R m s asks (left - n) ∧ w.grownBy w' (some R) := by
  have hw : IntKind.i64.wrap (left - n) = left - n := IntWalk.i64_in _ (by omega)
  have c3 : w.cell? ⟨R, 3, none⟩ = some (.int .i64 left) := by unfold RdAt at h; simp [World.cell?, h]
  have c4 : w.frozen? ⟨R, 3, none⟩ = false := by unfold RdAt at h; simp [World.frozen?, h]
  go_enter Tryz.func125, Tryz.ntmps125
  go_wp2_with fail
  go_ret
  refine ⟨by congr 2; simp, ?_, ⟨rfl, rfl, rfl, by simp [World.setCell], fun k hk hne => Below.heap_setCell _ _ _ _ (fun e => hne (by simp [e]))⟩⟩
  unfold RdAt at h ⊢
  simp [World.setCell, h, Array.getElem?_modify]

theorem grown_trans {a b c : World} {R : Nat} (h : a.grownBy b (some R)) (k : b.grownBy c (some R)) : a.grownBy c (some R) :=
  ⟨k.os.trans h.os, k.tape.trans h.tape, k.output.trans h.output, Nat.le_trans h.size k.size, fun i hi hne => (k.block i (Nat.lt_of_lt_of_le hi h.size) hne).trans (h.block i hi hne)⟩

theorem grown_below {a b : World} {R : Nat} (h : Below a.heap.size a b) : a.grownBy b (some R) :=
  ⟨h.os, h.tape, h.output, h.size, fun i hi _ => h.block i hi⟩

theorem RdAt.below {w w' : World} {R : Nat} {m s : Value} {asks : Bool} {left : Int} (h : RdAt w R m s asks left) (hb : Below w.heap.size w w') : RdAt w' R m s asks left := by
  unfold RdAt at *
  have hlt : R < w.heap.size := (Array.getElem?_eq_some_iff.1 h).1
  rw [hb.block R hlt, h]

theorem RdAt.at {w w' : World} {B R : Nat} {m s : Value} {asks : Bool} {left : Int} (h : RdAt w R m s asks left) (hb : Below B w w') (hR : R < B) : RdAt w' R m s asks left := by
  unfold RdAt at *
  rw [hb.block R hR, h]

theorem grown_then {a b c : World} {R : Nat} (h : a.grownBy b (some R)) (k : Below a.heap.size b c) : a.grownBy c (some R) :=
  ⟨k.os.trans h.os, k.tape.trans h.tape, k.output.trans h.output, Nat.le_trans h.size k.size, fun i hi hne => (k.block i hi).trans (h.block i hi hne)⟩

/-- A binary's term. -/
abbrev binV (s : ByteArray) : Value := .agg #[.int .i64 9, .int .i64 0, .bool false, .slice none 0 0, .int .u64 0, .string s, .slice none 0 0]

def binLeft (left : Int) (n : Nat) : Int := if n ≤ 400 then left - (n : Int) / 8 else left
def binOk (left : Int) (n : Nat) : Bool := decide (n ≤ 400) && decide (0 ≤ left - (n : Int) / 8)

set_option maxHeartbeats 4000000 in
set_option maxRecDepth 100000 in
theorem binary_any (R : Nat) (m s : Value) (asks : Bool) (left : Int) (b : ByteArray) (w : World) (h : RdAt w R m s asks left) (hl : -9000000000000000000 ≤ left ∧ left ≤ 10000) (hb : b.size ≤ 100000000) :
    Calls Tryz.prog 135 #[.pointer (some ⟨R, 0, none⟩), .string b] w fun e w' => e = .returned (.tuple #[binV b, .bool (binOk left b.size)]) ∧ RdAt w' R m s asks (binLeft left b.size) ∧ w.grownBy w' (some R) := by
  have hR : R < w.heap.size := (Array.getElem?_eq_some_iff.1 h).1
  have HH := Lib.hid h
  clear h
  go_enter Tryz.func135, Tryz.ntmps135
  by_cases hs : b.size ≤ 400
  · have q1 : (b.size : Int) ≤ 400 := by omega
    have q2 : Int.tdiv (b.size : Int) 8 = ((b.size / 8 : Nat) : Int) := rfl
    have HB := Lib.hid ((Below.refl w.heap.size w).alloc (Nat.le_refl _) (.cells #[.int .i64 0, .int .i64 0, .bool false, .slice none 0 0, .int .u64 0, .string ⟨#[]⟩, .slice none 0 0] 81))
    go_wp2_with fail
    refine (weighs_any R m s asks left ((b.size : Int) / 8) _ (HH.out.below HB.out) hl (by omega)).mono ?_
    rintro e w1 ⟨rfl, h1, g1⟩
    have hH : w1.heap[w.heap.size]? = some (.cells #[.int .i64 0, .int .i64 0, .bool false, .slice none 0 0, .int .u64 0, .string ⟨#[]⟩, .slice none 0 0] 81) := by
      rw [g1.block w.heap.size (by simp) (by simp; omega)]
      exact World.alloc_heap_new w _
    have c0 : w1.cell? ⟨w.heap.size, 0, none⟩ = some (.int .i64 0) := by simp [World.cell?, hH]
    have z0 : w1.frozen? ⟨w.heap.size, 0, none⟩ = false := by simp [World.frozen?, hH]
    have c1 : w1.cell? ⟨w.heap.size, 1, none⟩ = some (.int .i64 0) := by simp [World.cell?, hH]
    have z1 : w1.frozen? ⟨w.heap.size, 1, none⟩ = false := by simp [World.frozen?, hH]
    have c2 : w1.cell? ⟨w.heap.size, 2, none⟩ = some (.bool false) := by simp [World.cell?, hH]
    have z2 : w1.frozen? ⟨w.heap.size, 2, none⟩ = false := by simp [World.frozen?, hH]
    have c3 : w1.cell? ⟨w.heap.size, 3, none⟩ = some (.slice none 0 0) := by simp [World.cell?, hH]
    have z3 : w1.frozen? ⟨w.heap.size, 3, none⟩ = false := by simp [World.frozen?, hH]
    have c4 : w1.cell? ⟨w.heap.size, 4, none⟩ = some (.int .u64 0) := by simp [World.cell?, hH]
    have z4 : w1.frozen? ⟨w.heap.size, 4, none⟩ = false := by simp [World.frozen?, hH]
    have c5 : w1.cell? ⟨w.heap.size, 5, none⟩ = some (.string ⟨#[]⟩) := by simp [World.cell?, hH]
    have z5 : w1.frozen? ⟨w.heap.size, 5, none⟩ = false := by simp [World.frozen?, hH]
    have c6 : w1.cell? ⟨w.heap.size, 6, none⟩ = some (.slice none 0 0) := by simp [World.cell?, hH]
    have z6 : w1.frozen? ⟨w.heap.size, 6, none⟩ = false := by simp [World.frozen?, hH]
    have H1 := Lib.hid h1
    have HHH := Lib.hid hH
    clear hH
    have G1 := Lib.hid (grown_trans (grown_below HB.out) g1)
    clear h1 g1
    go_wp2_with fail
    have HS := Lib.hid (((((((Below.refl w.heap.size w1).setCell (p := ⟨w.heap.size, 0, none⟩) (Nat.le_refl _) (.int .i64 9)).setCell (p := ⟨w.heap.size, 1, none⟩) (Nat.le_refl _) (.int .i64 0)).setCell (p := ⟨w.heap.size, 2, none⟩) (Nat.le_refl _) (.bool false)).setCell (p := ⟨w.heap.size, 3, none⟩) (Nat.le_refl _) (.slice none 0 0)).setCell (p := ⟨w.heap.size, 4, none⟩) (Nat.le_refl _) (.int .u64 0)).setCell (p := ⟨w.heap.size, 5, none⟩) (Nat.le_refl _) (.string b) |>.setCell (p := ⟨w.heap.size, 6, none⟩) (Nat.le_refl _) (.slice none 0 0))
    refine bodyPost_ret (v := .tuple #[binV b, .bool (decide ((b.size : Int) / 8 ≤ left))]) (by simp [results, Tryz.results135, go_sem, c0, c1, c2, c3, c4, c5, c6]) rfl ⟨?_, ?_, grown_then G1.out HS.out⟩
    · congr 3
      simp [binOk, hs]
    · rw [show binLeft left b.size = left - (b.size : Int) / 8 by simp [binLeft, hs]]
      exact H1.out.at HS.out hR
  · have q1 : ¬ (b.size : Int) ≤ 400 := by omega
    have HB := Lib.hid ((Below.refl w.heap.size w).alloc (Nat.le_refl _) (.cells #[.int .i64 9, .int .i64 0, .bool false, .slice none 0 0, .int .u64 0, .string b, .slice none 0 0] 81))
    go_wp2_with fail
    refine bodyPost_ret (v := .tuple #[binV b, .bool false]) (by simp [results, Tryz.results135, go_sem]) rfl ⟨?_, ?_, grown_below HB.out⟩
    · simp [binOk, hs]
    · simpa [binLeft, hs] using HH.out.below HB.out

end Go.Proofs.YtlmpmjhanpkcnaaGreat

namespace Go.Proofs.YtlmpmjhanpkcnaaGreat
open Go.RowKit

/-- Does a word lead to where a region is not? -/
def leavesP (f : Frg) (w : Nat) : Bool := (decide (tagW w = 4) || decide (tagW w = 5)) && !inP f.1 f.2.length (loadW w)

theorem loadW_in (w : Nat) (hw : w < 18446744073709551616) : -9223372036854775808 ≤ loadW w ∧ loadW w ≤ 9223372036854775807 := by
  unfold loadW
  split
  · split <;> omega
  · omega

set_option maxHeartbeats 4000000 in
set_option maxRecDepth 100000 in
theorem leaves_any (f : Frg) (wa : Option Addr) (wc : Nat) (x : Nat) (hx : x < 18446744073709551616) (w : World) : Calls Tryz.prog 72 #[.agg #[.int .i64 f.1, .slice wa f.2.length wc], .int .u64 x] w fun e w' => e = .returned (.bool (leavesP f x)) ∧ Below w.heap.size w w' := by
  obtain ⟨fa, fw⟩ := f
  have HB := Lib.hid ((Below.refl w.heap.size w).alloc (Nat.le_refl _) (.cells #[.int .i64 fa, .slice wa fw.length wc] 24))
  obtain ⟨t, ht⟩ : ∃ t, tagW x = t := ⟨_, rfl⟩
  have hl := loadW_in x hx
  go_enter Tryz.func72, Tryz.ntmps72
  go_wp2_with fail
  refine (tag_any x hx _).mono ?_
  rintro e w1 ⟨rfl, rfl⟩
  rw [ht]
  obtain ⟨u, hu⟩ : ∃ u : Int, (t : Int) = u := ⟨_, rfl⟩
  rw [hu]
  by_cases h4 : t = 4
  · have HT := Lib.hid (show tagW x = 4 by rw [ht, h4])
    have q4 : u = 4 := by omega
    clear ht h4 hu
    subst q4
    go_wp2_with fail
    have e0 : (w.alloc (.cells #[.int .i64 fa, .slice wa fw.length wc] 24)).drew.cell? ⟨w.heap.size, 0, none⟩ = some (.int .i64 fa) := by simp
    have e1 : (w.alloc (.cells #[.int .i64 fa, .slice wa fw.length wc] 24)).drew.cell? ⟨w.heap.size, 1, none⟩ = some (.slice wa fw.length wc) := by simp
    have hbd : Below w.heap.size w (w.alloc (.cells #[.int .i64 fa, .slice wa fw.length wc] 24)).drew := HB.out.drew
    refine wp_region_still_tail 10 (by kernel_rfl) (by kernel_rfl) ?_
    simp only [List.take_succ_cons, List.take_zero, List.drop_succ_cons, List.drop_zero]
    change wpStill _ _ (w.alloc (.cells #[.int .i64 fa, .slice wa fw.length wc] 24)).drew (fun a' => wpList _ _ _ _ a' (w.alloc (.cells #[.int .i64 fa, .slice wa fw.length wc] 24)).drew) _ _
    generalize (w.alloc (.cells #[.int .i64 fa, .slice wa fw.length wc] 24)).drew = wd at *
    repeat still_step
    still_call (load_any x hx _)
    refine wpStill_nil ?_
    go_wp2_with fail
    refine (in_any fa (loadW x) wa fw.length wc _ hl).mono ?_
    rintro e w3 ⟨rfl, hb3⟩
    have HB3 := Lib.hid (hbd.trans (hb3.mono hbd.size))
    clear hb3
    go_wp2_with fail
    go_ret
    exact ⟨by simp [leavesP, HT.out], HB3.out⟩
  · by_cases h5 : t = 5
    · have HT := Lib.hid (show tagW x = 5 by rw [ht, h5])
      have q5 : u = 5 := by omega
      clear ht h4 h5 hu
      subst q5
      go_wp2_with fail
      have e0 : (w.alloc (.cells #[.int .i64 fa, .slice wa fw.length wc] 24)).cell? ⟨w.heap.size, 0, none⟩ = some (.int .i64 fa) := by simp
      have e1 : (w.alloc (.cells #[.int .i64 fa, .slice wa fw.length wc] 24)).cell? ⟨w.heap.size, 1, none⟩ = some (.slice wa fw.length wc) := by simp
      go_region_held3 (fun w' => w'.cell? ⟨w.heap.size, 0, none⟩ = some (.int .i64 fa) ∧ w'.cell? ⟨w.heap.size, 1, none⟩ = some (.slice wa fw.length wc)) (first | exact ⟨d0, d1⟩ | exact ⟨e0, e1⟩ | go_keep) (first
        | (go_at_call 84; refine (load_any x hx _).mono ?_; rintro e w2 ⟨rfl, rfl⟩)
        | (go_at_call 48; refine (in_any fa (loadW x) wa fw.length wc _ hl).mono ?_; rintro e w3 ⟨rfl, hb3⟩
           have HB3 := Lib.hid (HB.out.trans (Below.trans (Below.drew (Below.refl _ _)) (hb3.mono HB.out.size)))
           have d0 := (hb3.cell (p := ⟨w.heap.size, 0, none⟩) (by simp)).trans e0
           have d1 := (hb3.cell (p := ⟨w.heap.size, 1, none⟩) (by simp)).trans e1
           clear hb3))
      all_goals
        go_wp2_with fail
        go_ret
        exact ⟨by simp [leavesP, HT.out], HB3.out⟩
    · have HT := Lib.hid ht
      have H4 := Lib.hid h4
      have H5 := Lib.hid h5
      have q4 : (u == 4) = false := by simp; omega
      have q5 : (u == 5) = false := by simp; omega
      clear h4 h5 ht hu
      go_wp2_with fail
      go_quiet (fail)
      go_wp2_with fail
      go_ret
      exact ⟨by simp [leavesP, HT.out, H4.out, H5.out], (HB.out.trans ⟨rfl, rfl, rfl, Nat.le_refl _, fun _ _ => rfl⟩)⟩

end Go.Proofs.YtlmpmjhanpkcnaaGreat

namespace Go.Proofs.YtlmpmjhanpkcnaaGreat
open Go.RowKit

def realP (bits : Nat) : Bool := decide (bits = 9221120237041090561) || decide (bits % 9223372036854775808 ≤ 9218868437227405312)

theorem nanBits (b : Nat) : Op.floatEq .f64 b b = decide (b % 9223372036854775808 ≤ 9218868437227405312) := by
  have h1 : FloatKind.f64.format = Ieee.double := rfl
  have h2 : Ieee.double.signWeight = 9223372036854775808 := by decide
  have h3 : Ieee.double.infRung = 9218868437227405312 := by decide
  unfold Op.floatEq Ieee.Format.order Ieee.Format.read
  rw [h1, h2, h3]
  simp only
  by_cases a1 : b % 9223372036854775808 < Ieee.double.binade
  · have : Ieee.double.binade = 4503599627370496 := by decide
    rw [if_pos a1]
    simp only [Ieee.Datum.order]
    have : b % 9223372036854775808 ≤ 9218868437227405312 := by omega
    simp [this, compare, compareOfLessAndEq]
  · rw [if_neg a1]
    by_cases a2 : b % 9223372036854775808 < 9218868437227405312
    · rw [if_pos a2]
      simp only [Ieee.Datum.order]
      have : b % 9223372036854775808 ≤ 9218868437227405312 := by omega
      simp [this, compare, compareOfLessAndEq]
    · rw [if_neg a2]
      by_cases a3 : b % 9223372036854775808 = 9218868437227405312
      · rw [if_pos a3]
        simp [Ieee.Datum.order, a3, compare, compareOfLessAndEq]
      · rw [if_neg a3]
        have : ¬ b % 9223372036854775808 ≤ 9218868437227405312 := by omega
        simp [Ieee.Datum.order, this]

theorem run_frombits (b : Nat) (w : World) : (callFunc 137 #[.int .u64 b]).run Tryz.prog w = .ok (.value (.float .f64 b)) w := by
  rw [run_callFunc_extern (f := 137) (fn := Tryz.f137) (e := Extern.MathFloatBits.float64frombits) (by kernel_rfl) (by kernel_rfl) (by kernel_rfl) (by kernel_rfl) (by kernel_rfl)]
  rfl

theorem isnan_any (b : Nat) (w : World) : Calls Tryz.prog 136 #[.float .f64 b] w fun e w' => e = .returned (.bool (!decide (b % 9223372036854775808 ≤ 9218868437227405312))) ∧ w' = w := by
  have h := nanBits b
  go_enter Tryz.func136, Tryz.ntmps136
  go_wp2_with fail
  go_ret
  exact ⟨by rw [← h]; rfl, rfl⟩

theorem none_any (b : Nat) (w : World) : Calls Tryz.prog 129 #[.int .u64 b] w fun e w' => e = .returned (.bool (!decide (b % 9223372036854775808 ≤ 9218868437227405312))) ∧ w' = w := by
  have hd := run_frombits b w
  go_enter Tryz.func129, Tryz.ntmps129
  go_wp2_with fail
  refine (isnan_any b _).mono ?_
  rintro e w1 ⟨rfl, rfl⟩
  go_wp2_with fail
  go_ret
  exact ⟨rfl, rfl⟩

theorem realMay_any (b : Nat) (w : World) : Calls Tryz.prog 110 #[.int .u64 b] w fun e w' => e = .returned (.bool (realP b)) ∧ w' = w := by
  by_cases h : b = 9221120237041090561
  · subst h
    go_enter Tryz.func110, Tryz.ntmps110
    go_wp2_with fail
    go_ret
    exact ⟨by simp [realP], rfl⟩
  · have q1 : ((b : Int) == 9221120237041090561) = false := by simp; omega
    go_enter Tryz.func110, Tryz.ntmps110
    go_wp2_with fail
    refine (none_any b _).mono ?_
    rintro e w1 ⟨rfl, rfl⟩
    go_wp2_with fail
    go_ret
    exact ⟨by simp [realP, h], rfl⟩

end Go.Proofs.YtlmpmjhanpkcnaaGreat

namespace Go.Proofs.YtlmpmjhanpkcnaaGreat
open Go.RowKit

/-- Words of 32 bits in memory. -/
def Ms (w : World) (v : Value) (l : List Nat) : Prop :=
  ∃ a cap, v = .slice a l.length cap ∧ ∀ j, (hj : j < l.length) → ∃ g o, a = some ⟨g, o, none⟩ ∧ w.cell? ⟨g, o + j, none⟩ = some (.int .u32 l[j])

theorem Ms.below {w w' : World} {v : Value} {l : List Nat} (h : Ms w v l) (hb : Below w.heap.size w w') : Ms w' v l := by
  obtain ⟨a, cap, rfl, hc⟩ := h
  refine ⟨a, cap, rfl, fun j hj => ?_⟩
  obtain ⟨g, o, rfl, k⟩ := hc j hj
  exact ⟨g, o, rfl, (hb.cell (World.block_lt_of_cell? w _ k)).trans k⟩

def numMayP (neg : Bool) (mag : List Nat) : Bool := decide (mag.length ≤ 8) && (if mag.length = 0 then !neg else decide (mag.getD (mag.length - 1) 0 ≠ 0))
def valP : List Nat → Nat
  | [] => 0
  | a :: r => a + 4294967296 * valP r
def smallP (neg : Bool) (mag : List Nat) : Bool := numMayP neg mag && decide (mag.length ≤ 2) && (if neg then decide (valP mag ≤ 1152921504606846976) else decide (valP mag ≤ 1152921504606846975))

set_option maxHeartbeats 4000000 in
set_option maxRecDepth 100000 in
theorem numMay_any (neg : Bool) (mag : List Nat) (mv : Value) (w : World) (hm : Ms w mv mag) (hml : mag.length ≤ maxLen) :
    Calls Tryz.prog 128 #[.agg #[.bool neg, mv]] w fun e w' => e = .returned (.bool (numMayP neg mag)) ∧ Below w.heap.size w w' := by
  obtain ⟨a, cap, rfl, hc⟩ := hm
  have b1 : Below w.heap.size w (w.alloc (.cells #[.bool neg, .slice a mag.length cap] 78)) := (Below.refl _ _).alloc (Nat.le_refl _) _
  unfold maxLen at hml
  by_cases h8 : 8 < mag.length
  · have q1 : ¬ (mag.length : Int) ≤ 8 := by omega
    go_enter Tryz.func128, Tryz.ntmps128
    go_wp2_with fail
    go_ret
    exact ⟨by unfold numMayP; rw [decide_eq_false (by omega)]; rfl, b1⟩
  have q1 : (mag.length : Int) ≤ 8 := by omega
  by_cases h0 : mag.length = 0
  · have HE := Lib.hid (show numMayP neg mag = !neg by unfold numMayP; rw [decide_eq_true (by omega), if_pos h0]; rfl)
    rw [h0] at q1 b1 ⊢
    clear hc hml h8
    cases neg
    all_goals
      go_enter Tryz.func128, Tryz.ntmps128
      go_wp2_with fail
      go_ret
      exact ⟨by rw [HE.out]; rfl, b1⟩
  · obtain ⟨m, hlen⟩ : ∃ m, mag.length = m + 1 := ⟨mag.length - 1, by omega⟩
    obtain ⟨g, o, rfl, k⟩ := hc m (by omega)
    have k1 := (b1.cell (World.block_lt_of_cell? w _ k)).trans k
    have hgd : mag.getD (mag.length - 1) 0 = mag[m] := by
      rw [show mag.length - 1 = m by omega]; simp [List.getD, List.getElem?_eq_getElem (show m < mag.length by omega)]
    have HE := Lib.hid (show numMayP neg mag = decide (mag[m] ≠ 0) by unfold numMayP; rw [decide_eq_true (by omega), if_neg h0, hgd]; rfl)
    obtain ⟨x, hx⟩ : ∃ x, mag[m] = x := ⟨_, rfl⟩
    rw [hx] at k k1 hgd
    have HX := Lib.hid hx
    rw [hlen] at q1 b1 k1 ⊢
    have q2 : IntKind.i64.wrap (m : Int) = m := IntWalk.i64_in _ (by omega)
    have q3 : (0 : Int) < (m : Int) + 1 := by omega
    have q4 : (m : Int) < (m : Int) + 1 := by omega
    have q5 : ((m : Int) + 1 == 0) = false := by simp; omega
    have q6 : (m : Int) + 1 ≤ 8 := by omega
    have q7 : (m : Int) + 1 - 1 = m := by omega
    clear hc hml h8 k hx
    by_cases hx0 : x = 0
    · subst hx0
      go_enter Tryz.func128, Tryz.ntmps128
      go_wp2_with fail
      go_ret
      exact ⟨by rw [HE.out, HX.out]; rfl, b1⟩
    · have q8 : ((x : Int) != 0) = true := by simp; omega
      go_enter Tryz.func128, Tryz.ntmps128
      go_wp2_with fail
      go_ret
      exact ⟨by rw [HE.out, HX.out, decide_eq_true hx0]; rfl, b1⟩

end Go.Proofs.YtlmpmjhanpkcnaaGreat
