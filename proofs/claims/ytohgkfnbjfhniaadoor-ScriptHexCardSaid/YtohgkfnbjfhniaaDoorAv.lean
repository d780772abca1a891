/-
  Two answers held against each other; what every program answers that is one.
-/
import Derived.Test.YtohgkfnbjfhniaaDoorAk
namespace Go.Proofs.YtohgkfnbjfhniaaDoor
open Go.RowKit Sp

/-- A slice of bytes that can be read. -/
def Bs (w : World) (v : Value) (l : List UInt8) : Prop :=
  ∃ a cap, v = .slice a l.length cap ∧ ∀ j, (hj : j < l.length) → ∃ ad : Addr, a = some ad ∧ w.cell? (ad.add j) = some (.int .u8 l[j].toNat)

/-- A slice of events that can be read. -/
def Es (w : World) (v : Value) (l : List Three) : Prop :=
  ∃ a cap, v = .slice a l.length cap ∧ ∀ j, (hj : j < l.length) → ∃ ad : Addr, a = some ad ∧ w.cell? (ad.add (j * 3)) = some (.int .i64 l[j].1) ∧ w.cell? (ad.add (j * 3 + 1)) = some (.int .i64 l[j].2.1) ∧ w.cell? (ad.add (j * 3 + 2)) = some (.int .i64 l[j].2.2)

theorem add_zero_at (g j : Nat) : (⟨g, 0, none⟩ : Addr).add j = ⟨g, j, none⟩ := by unfold Addr.add; split <;> simp_all

theorem Bs.of_own {w : World} {base : Nat} {v : Value} {l : List UInt8} (h : w.ownsRow base 5 1 v l.length (cs8 l)) : Bs w v l := by
  obtain ⟨a, cap, rfl⟩ := own_form h
  refine ⟨a, cap, rfl, fun j hj => ?_⟩
  rcases h.2 with ⟨q, q2⟩ | ⟨g, cap', cur, q, _⟩
  · exact absurd hj (by omega)
  · cases q
    refine ⟨⟨g, 0, none⟩, rfl, ?_⟩
    exact h.cells rfl j _ (by simp [cs8, hj])

theorem flat3_at {l : List Three} {j : Nat} (h : j < l.length) : (flat3 l)[j * 3]? = some (.int .i64 l[j].1) ∧ (flat3 l)[j * 3 + 1]? = some (.int .i64 l[j].2.1) ∧ (flat3 l)[j * 3 + 2]? = some (.int .i64 l[j].2.2) := by
  induction l generalizing j with
  | nil => simp at h
  | cons p r ih =>
    have e : flat3 (p :: r) = .int .i64 p.1 :: .int .i64 p.2.1 :: .int .i64 p.2.2 :: flat3 r := rfl
    rw [e]
    match j with
    | 0 => simp
    | j + 1 =>
      have := ih (j := j) (by simpa using h)
      rw [show (j + 1) * 3 = j * 3 + 1 + 1 + 1 by omega]
      simp only [List.getElem?_cons_succ, List.getElem_cons_succ]
      exact this

theorem Es.of_own {w : World} {base : Nat} {v : Value} {l : List Three} (h : w.ownsRow base 61 3 v l.length (flat3 l)) : Es w v l := by
  obtain ⟨a, cap, rfl⟩ := own_form h
  refine ⟨a, cap, rfl, fun j hj => ?_⟩
  rcases h.2 with ⟨q, q2⟩ | ⟨g, cap', cur, q, _⟩
  · exact absurd hj (by omega)
  · cases q
    obtain ⟨h0, h1, h2⟩ := flat3_at hj
    refine ⟨⟨g, 0, none⟩, rfl, ?_, ?_, ?_⟩
    · exact h.cells rfl _ _ h0
    · exact h.cells rfl _ _ h1
    · exact h.cells rfl _ _ h2

theorem take_same {α : Type} [DecidableEq α] {a b : List α} {k : Nat} (h : a.take k = b.take k) (ha : k < a.length) (hb : k < b.length) (he : a[k] = b[k]) : a.take (k + 1) = b.take (k + 1) := by
  rw [List.take_succ_eq_append_getElem ha, List.take_succ_eq_append_getElem hb, h, he]

set_option maxRecDepth 100000 in
set_option maxHeartbeats 2000000 in
theorem same_bytes (va vb : Value) (la lb : List UInt8) (w : World) (ha : Bs w va la) (hb : Bs w vb lb) (h63 : la.length ≤ 1000000000000) (h63' : lb.length ≤ 1000000000000) :
    Calls Tryd.prog 19 #[va, vb] w fun e w' => e = .returned (.bool (decide (la = lb))) ∧ ∃ n, w' = w.drewN n := by
  obtain ⟨aa, ca, rfl, hac⟩ := ha
  obtain ⟨ab, cb, rfl, hbc⟩ := hb
  have HA := Lib.hid hac
  have HB := Lib.hid hbc
  clear hac hbc
  by_cases hl : la.length = lb.length
  · have q0 : ((la.length : Int) != (lb.length : Int)) = false := by simp [hl]
    have HL := Lib.hid hl
    have hl2 : (la.length : Int) = (lb.length : Int) := by omega
    go_enter Tryd.func19, Tryd.ntmps19
    go_wp2_with fail
    go_loopw [5] (fun i wr => ∃ (k n : Nat), k ≤ la.length ∧ i = .int .i64 k ∧ Hid (la.take k = lb.take k) ∧ wr = w.drewN n) (fun i _ => la.length - (intOf i).toNat)
    case atStart => exact ⟨0, 0, by omega, rfl, Lib.hid rfl, rfl⟩
    case round =>
      obtain ⟨k, n, hk, rfl, HT, rfl⟩ := hrel
      by_cases hlt : k < la.length
      · have hlt2 : k < lb.length := by rw [← HL.out]; exact hlt
        obtain ⟨ga, rfl, ka⟩ := HA.out k hlt
        obtain ⟨gb, rfl, kb⟩ := HB.out k hlt2
        obtain ⟨x, hx⟩ : ∃ x, la[k] = x := ⟨_, rfl⟩
        obtain ⟨y, hy⟩ : ∃ y, lb[k] = y := ⟨_, rfl⟩
        rw [hx] at ka
        rw [hy] at kb
        have HX := Lib.hid hx
        have HY := Lib.hid hy
        clear hx hy
        have q1 : (k : Int) < (la.length : Int) := by omega
        have q2 : (0 : Int) ≤ (k : Int) := by omega
        have q3 : (k : Int) < (lb.length : Int) := by omega
        have q4 : IntKind.i64.wrap ((k : Int) + 1) = (k : Int) + 1 := IntWalk.i64_in _ (by omega)
        clear hl2 q0
        go_wp2_with fail
        go_quiet (fail)
        by_cases hxy : x = y
        · have q6 : ((x.toNat : Int) != (y.toNat : Int)) = false := by simp [hxy]
          have HNX := Lib.hid (take_same HT.out hlt hlt2 (by rw [HX.out, HY.out, hxy]))
          clear hxy
          go_wp2_with fail
          go_roundw
          case rel => exact ⟨k + 1, _, by omega, by go_num, HNX, rfl⟩
          case measure => simp [intOf]; omega
        · have q6 : ((x.toNat : Int) != (y.toNat : Int)) = true := by
            simp; intro h; exact hxy (UInt8.toNat_inj.1 (by omega))
          have HNE := Lib.hid (show ¬ la = lb by
            intro e
            apply hxy
            rw [← HX.out, ← HY.out]
            subst e; rfl)
          clear hxy
          go_wp2_with fail
          go_ret
          exact ⟨by rw [decide_eq_false HNE.out]; rfl, _, World.drewN_drewN _ _ _⟩
      · have hke : k = la.length := by omega
        have HEQ := Lib.hid (show la = lb by
          have := HT.out
          rwa [List.take_of_length_le (by omega), List.take_of_length_le (by have := HL.out; omega)] at this)
        go_wp2_with fail
        go_ret
        exact ⟨by rw [decide_eq_true HEQ.out]; rfl, n, rfl⟩
  · have q0 : ((la.length : Int) != (lb.length : Int)) = true := by simp; omega
    have HNE := Lib.hid (show ¬ la = lb from fun e => hl (by rw [e]))
    clear hl
    go_enter Tryd.func19, Tryd.ntmps19
    go_wp2_with fail
    go_ret
    exact ⟨by rw [decide_eq_false HNE.out]; rfl, 0, rfl⟩

set_option maxRecDepth 100000 in
set_option maxHeartbeats 2000000 in
theorem same_events (va vb : Value) (la lb : List Three) (w : World) (ha : Es w va la) (hb : Es w vb lb) (h63 : la.length ≤ 1000000000000) (h63' : lb.length ≤ 1000000000000) :
    Calls Tryd.prog 20 #[va, vb] w fun e w' => e = .returned (.bool (decide (la = lb))) ∧ ∃ n, w' = w.drewN n := by
  obtain ⟨aa, ca, rfl, hac⟩ := ha
  obtain ⟨ab, cb, rfl, hbc⟩ := hb
  have HA := Lib.hid hac
  have HB := Lib.hid hbc
  clear hac hbc
  by_cases hl : la.length = lb.length
  · have q0 : ((la.length : Int) != (lb.length : Int)) = false := by simp [hl]
    have HL := Lib.hid hl
    have hl2 : (la.length : Int) = (lb.length : Int) := by omega
    go_enter Tryd.func20, Tryd.ntmps20
    go_wp2_with fail
    go_loopw [5] (fun i wr => ∃ (k n : Nat), k ≤ la.length ∧ i = .int .i64 k ∧ Hid (la.take k = lb.take k) ∧ wr = w.drewN n) (fun i _ => la.length - (intOf i).toNat)
    case atStart => exact ⟨0, 0, by omega, rfl, Lib.hid rfl, rfl⟩
    case round =>
      obtain ⟨k, n, hk, rfl, HT, rfl⟩ := hrel
      by_cases hlt : k < la.length
      · have hlt2 : k < lb.length := by rw [← HL.out]; exact hlt
        obtain ⟨ga, rfl, ka0, ka1, ka2⟩ := HA.out k hlt
        obtain ⟨gb, rfl, kb0, kb1, kb2⟩ := HB.out k hlt2
        obtain ⟨⟨x0, x1, x2⟩, hx⟩ : ∃ x, la[k] = x := ⟨_, rfl⟩
        obtain ⟨⟨y0, y1, y2⟩, hy⟩ : ∃ y, lb[k] = y := ⟨_, rfl⟩
        rw [hx] at ka0 ka1 ka2
        rw [hy] at kb0 kb1 kb2
        rw [← Addr.add_add] at ka1 ka2 kb1 kb2
        have a1 : ∀ x : Addr, x.add 1 = { x with off := x.off + 1, spot := none } := fun x => by simp [Addr.add]
        have a2 : ∀ x : Addr, x.add 2 = { x with off := x.off + 2, spot := none } := fun x => by simp [Addr.add]
        rw [a1] at ka1 kb1
        rw [a2] at ka2 kb2
        clear a1 a2
        have HX := Lib.hid hx
        have HY := Lib.hid hy
        clear hx hy
        have q1 : (k : Int) < (la.length : Int) := by omega
        have q2 : (0 : Int) ≤ (k : Int) := by omega
        have q3 : (k : Int) < (lb.length : Int) := by omega
        have q4 : IntKind.i64.wrap ((k : Int) + 1) = (k : Int) + 1 := IntWalk.i64_in _ (by omega)
        clear hl2 q0 hl
        by_cases hxy : (x0, x1, x2) = (y0, y1, y2)
        · have HNX := Lib.hid (take_same HT.out hlt hlt2 (by rw [HX.out, HY.out, hxy]))
          simp only [Prod.mk.injEq] at hxy
          obtain ⟨rfl, rfl, rfl⟩ := hxy
          go_wp2_with fail
          go_quiet (fail)
          go_wp2_with fail
          go_roundw
          case rel => exact ⟨k + 1, _, by omega, by go_num, HNX, rfl⟩
          case measure => simp [intOf]; omega
        · have HNE := Lib.hid (show ¬ la = lb by
            intro e
            apply hxy
            rw [← HX.out, ← HY.out]
            subst e; rfl)
          have hd : (x0 == y0) = false ∨ ((x0 == y0) = true ∧ (x1 == y1) = false) ∨ ((x0 == y0) = true ∧ (x1 == y1) = true ∧ (x2 == y2) = false) := by
            simp only [beq_iff_eq, beq_eq_false_iff_ne]
            by_cases e0 : x0 = y0
            · by_cases e1 : x1 = y1
              · exact .inr (.inr ⟨e0, e1, fun e2 => hxy (by rw [e0, e1, e2])⟩)
              · exact .inr (.inl ⟨e0, e1⟩)
            · exact .inl e0
          clear hxy
          rcases hd with e0 | ⟨e0, e1⟩ | ⟨e0, e1, e2⟩
          all_goals
            go_wp2_with fail
            go_quiet (fail)
            go_wp2_with fail
            go_ret
            exact ⟨by rw [decide_eq_false HNE.out]; rfl, _, World.drewN_drewN _ _ _⟩
      · have hke : k = la.length := by omega
        have HEQ := Lib.hid (show la = lb by
          have := HT.out
          rwa [List.take_of_length_le (by omega), List.take_of_length_le (by have := HL.out; omega)] at this)
        go_wp2_with fail
        go_ret
        exact ⟨by rw [decide_eq_true HEQ.out]; rfl, n, rfl⟩
  · have q0 : ((la.length : Int) != (lb.length : Int)) = true := by simp; omega
    have HNE := Lib.hid (show ¬ la = lb from fun e => hl (by rw [e]))
    clear hl
    go_enter Tryd.func20, Tryd.ntmps20
    go_wp2_with fail
    go_ret
    exact ⟨by rw [decide_eq_false HNE.out]; rfl, 0, rfl⟩

end Go.Proofs.YtohgkfnbjfhniaaDoor
