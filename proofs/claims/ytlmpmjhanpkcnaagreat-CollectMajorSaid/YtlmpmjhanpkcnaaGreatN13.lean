/-
  Is a dump, are slots, more than is gone through: GreatDump, GreatSlots.
  Arguments that came in: dumps, slots.
  Words by chapter 8's own answer: Tag, Load, Head, Parts; a word that is moved.
-/
import Derived.Test.YtlmpmjhanpkcnaaGreatN12
import Derived.Deep.Slices
import Derived.ChangeSlices
import Derived.OpenShut
import Derived.Carry
set_option linter.unusedVariables false
set_option linter.unusedSimpArgs false
namespace Go.Proofs.YtlmpmjhanpkcnaaGreat
open Go.RowKit

/-- The cells that a dump's value has. -/
theorem DmAt.shape {w : World} {v : Value} {d : Dmp} (h : DmAt w v d) : ∃ wa1 wc1 wa2 wc2 fa fc ra rc ha hc, v = .agg #[.int .i64 d.young.1, .slice wa1 d.young.2.length wc1, .int .i64 d.old.1, .slice wa2 d.old.2.length wc2, .int .i64 d.size, .int .i64 d.mark, .slice fa d.frags.length fc, .slice ra d.roots.length rc, .slice ha d.handles.length hc] := by
  obtain ⟨a, b, a', b', f, r, h, rfl, ⟨-, rfl, wa1, wc1, rfl, -⟩, ⟨-, rfl, wa2, wc2, rfl, -⟩, -, -, ⟨-, fa, fc, rfl, -⟩, ⟨-, -, ra, rc, rfl, -⟩, ⟨-, -, ha, hc, rfl, -⟩⟩ := h
  exact ⟨wa1, wc1, wa2, wc2, fa, fc, ra, rc, ha, hc, rfl⟩

theorem Ws.value {w : World} {a : Option Addr} {n c : Nat} {l : List Nat} (h : Ws w (.slice a n c) l) : n = l.length := by
  obtain ⟨-, -, a', c', he, -⟩ := h
  simp only [Value.slice.injEq] at he
  exact he.2.1

/-- Other roots in a dump's value. -/
theorem DmAt.roots' {w : World} {a b c d' e f g r h : Value} {d : Dmp} (hd : DmAt w (.agg #[a, b, c, d', e, f, g, r, h]) d) {r' : Value} {l : List Nat} (hr : Ws w r' l) : DmAt w (.agg #[a, b, c, d', e, f, g, r', h]) (d.roots' l) := by
  obtain ⟨a1, b1, a2, b2, f1, r1, h1, he, k1, k2, k3, k4, k5, -, k7⟩ := hd
  simp only [dmpV, Value.agg.injEq, Array.mk.injEq, List.cons.injEq, and_true] at he
  obtain ⟨rfl, rfl, rfl, rfl, rfl, rfl, rfl, rfl, rfl⟩ := he
  exact ⟨_, _, _, _, _, _, _, rfl, k1, k2, k3, k4, k5, hr, k7⟩

theorem DmAt.ws {w : World} {a b c d' e f g r h : Value} {d : Dmp} (hd : DmAt w (.agg #[a, b, c, d', e, f, g, r, h]) d) : Ws w r d.roots := by
  obtain ⟨a1, b1, a2, b2, f1, r1, h1, he, k1, k2, k3, k4, k5, k6, k7⟩ := hd
  simp only [dmpV, Value.agg.injEq, Array.mk.injEq, List.cons.injEq, and_true] at he
  obtain ⟨rfl, rfl, rfl, rfl, rfl, rfl, rfl, rfl, rfl⟩ := he
  exact k6

def GreatEnd (d : Dmp) (e : Ending) : Prop := ∃ b : Bool, e = .returned (.bool b) ∧ (b = false → DmSmall d)

set_option maxHeartbeats 8000000 in
set_option maxRecDepth 100000 in
theorem greatDump_any (d : Dmp) (v : Value) (w : World) (hd : DmAt w v d) :
    Calls Tryz.prog 6 #[v, .int .i64 60] w fun e w' => GreatEnd d e ∧ Below w.heap.size w w' := by
  obtain ⟨a, b, a', b', f, r, h, rfl, ⟨-, rfl, wa1, wc1, rfl, hw1⟩, ⟨-, rfl, wa2, wc2, rfl, hw2⟩, -, -, ⟨hfl, fa, fc, rfl, hfc⟩, ⟨hrl, -, ra, rc, rfl, -⟩, ⟨hhl, -, ha, hc, rfl, -⟩⟩ := hd
  have T := one_at w (.cells #[.int .i64 d.young.1, .slice wa1 d.young.2.length wc1, .int .i64 d.old.1, .slice wa2 d.old.2.length wc2, .int .i64 d.size, .int .i64 d.mark, .slice fa d.frags.length fc, .slice ra d.roots.length rc, .slice ha d.handles.length hc] 28)
  have HFC := Lib.hid hfc
  have hyl := hw1.1
  have hol := hw2.1
  unfold maxLen at hfl hrl hhl hyl hol
  clear hfc hw1 hw2
  go_enter Tryz.func6, Tryz.ntmps6
  go_wp2_with fail
  generalize w.alloc (.cells #[.int .i64 d.young.1, .slice wa1 d.young.2.length wc1, .int .i64 d.old.1, .slice wa2 d.old.2.length wc2, .int .i64 d.size, .int .i64 d.mark, .slice fa d.frags.length fc, .slice ra d.roots.length rc, .slice ha d.handles.length hc] 28) = W at *
  have X0 := Lib.hid T.1
  have XB := Lib.hid T.2.2
  clear T
  have x1 := cell_of X0.out 1
  have x3 := cell_of X0.out 3
  have x6 := cell_of X0.out 6
  have x7 := cell_of X0.out 7
  have x8 := cell_of X0.out 8
  simp at x1 x3 x6 x7 x8
  go_loop [5] (fun i => ∃ (k : Nat), k ≤ d.frags.length ∧ i = .int .i64 k ∧ Hid (∀ f ∈ d.frags.take k, f.2.length ≤ 60)) (fun i => d.frags.length - (intOf i).toNat)
  case atStart => exact ⟨0, by omega, rfl, Lib.hid (by simp)⟩
  case round =>
    obtain ⟨k, hk, rfl, HA⟩ := hrel
    have q0 : (0 : Int) ≤ (k : Int) := by omega
    by_cases h6 : d.frags.length ≤ 6
    · have q6 : (d.frags.length : Int) ≤ 6 := by omega
      by_cases hlt : k < d.frags.length
      · have q1 : (k : Int) < (d.frags.length : Int) := by omega
        obtain ⟨g, o, wa, wc, rfl, -, k0, k1, hw⟩ := HFC.out k hlt
        have k1 := (XB.out.cell (World.block_lt_of_cell? w _ k1)).trans k1
        have HT := Lib.hid (List.take_succ_eq_append_getElem hlt)
        obtain ⟨⟨ga, gl⟩, hg⟩ : ∃ g, d.frags[k]'hlt = g := ⟨_, rfl⟩
        rw [hg] at k1 HT
        simp only at k1
        clear k0 hw hg
        have q5 : IntKind.i64.wrap ((k : Int) + 1) = (k : Int) + 1 := IntWalk.i64_in _ (by omega)
        by_cases hg6 : gl.length ≤ 60
        · have q7 : ¬ (60 : Int) < (gl.length : Int) := by omega
          have HA := Lib.hid (show ∀ f ∈ d.frags.take (k + 1), f.2.length ≤ 60 by
            rw [HT.out]
            intro f hf
            rcases List.mem_append.1 hf with hf | hf
            · exact HA.out f hf
            · rw [List.mem_singleton] at hf; subst hf; exact hg6)
          go_wp2_with fail
          go_round
          case rel => exact ⟨k + 1, by omega, by go_num, HA⟩
          case measure => clear q5; simp [intOf]; omega
        · have q7 : (60 : Int) < (gl.length : Int) := by omega
          go_wp2_with fail
          go_ret
          exact ⟨⟨true, rfl, fun h => by cases h⟩, XB.out⟩
      · obtain rfl : k = d.frags.length := by omega
        rw [List.take_length] at HA
        by_cases h1 : d.young.2.length ≤ 60
        · have q2 : ¬ (60 : Int) < (d.young.2.length : Int) := by omega
          by_cases h2 : d.old.2.length ≤ 60
          · have q3 : ¬ (60 : Int) < (d.old.2.length : Int) := by omega
            have q4 : ¬ (6 : Int) < (d.frags.length : Int) := by omega
            by_cases h3 : d.roots.length ≤ 100
            · have q5 : ¬ (100 : Int) < (d.roots.length : Int) := by omega
              by_cases h4 : d.handles.length ≤ 60
              · have q7 : ¬ (60 : Int) < (d.handles.length : Int) := by omega
                have HD := Lib.hid (show DmSmall d from ⟨h6, HA.out, h1, h2, h3, h4⟩)
                go_wp2_with fail
                go_ret
                exact ⟨⟨false, by first | rfl | simp [q7], fun _ => HD.out⟩, XB.out⟩
              · have q7 : (60 : Int) < (d.handles.length : Int) := by omega
                go_wp2_with fail
                go_ret
                exact ⟨⟨true, by first | rfl | simp [q7], fun h => by cases h⟩, XB.out⟩
            · have q5 : (100 : Int) < (d.roots.length : Int) := by omega
              go_wp2_with fail
              go_ret
              exact ⟨⟨true, by first | rfl | simp, fun h => by cases h⟩, XB.out⟩
          · have q3 : (60 : Int) < (d.old.2.length : Int) := by omega
            go_wp2_with fail
            go_ret
            exact ⟨⟨true, by first | rfl | simp, fun h => by cases h⟩, XB.out⟩
        · have q2 : (60 : Int) < (d.young.2.length : Int) := by omega
          go_wp2_with fail
          go_ret
          exact ⟨⟨true, by first | rfl | simp, fun h => by cases h⟩, XB.out⟩
    · have q6 : ¬ (d.frags.length : Int) ≤ 6 := by omega
      have q4 : (6 : Int) < (d.frags.length : Int) := by omega
      by_cases hlt : k < d.frags.length
      · have q1 : (k : Int) < (d.frags.length : Int) := by omega
        go_wp2_with fail
        all_goals
          go_ret
          exact ⟨⟨true, by first | rfl | simp, fun h => by cases h⟩, XB.out⟩
      · have q1 : ¬ (k : Int) < (d.frags.length : Int) := by omega
        go_wp2_with fail
        all_goals
          go_ret
          exact ⟨⟨true, by first | rfl | simp, fun h => by cases h⟩, XB.out⟩

/-- Slots of any size in memory. -/
def SlRaw (w : World) (v : Value) (S : List Slt) : Prop :=
  S.length ≤ maxLen ∧ ∃ a cap, v = .slice a S.length cap ∧ ∀ j, (hj : j < S.length) → ∃ g o, a = some ⟨g, o, none⟩ ∧ (-9223372036854775808 ≤ S[j].stamp ∧ S[j].stamp ≤ 9223372036854775807) ∧
    w.cell? ⟨g, o + j * 3, none⟩ = some (.int .i64 S[j].stamp) ∧ w.cell? ⟨g, o + j * 3 + 1, none⟩ = some (.int .i64 S[j].count) ∧ w.cell? ⟨g, o + j * 3 + 2, none⟩ = some (.string S[j].bytes)

theorem SlRaw.below {w w' : World} {v : Value} {S : List Slt} (h : SlRaw w v S) (hb : Below w.heap.size w w') : SlRaw w' v S := by
  obtain ⟨h1, a, cap, rfl, hc⟩ := h
  refine ⟨h1, a, cap, rfl, fun j hj => ?_⟩
  obtain ⟨g, o, rfl, h2, k0, k1, k2⟩ := hc j hj
  have up := fun {p : Addr} {v : Value} (q : w.cell? p = some v) => (hb.cell (World.block_lt_of_cell? w _ q)).trans q
  exact ⟨g, o, rfl, h2, up k0, up k1, up k2⟩

def SlSmall (S : List Slt) : Prop := S.length ≤ 40 ∧ ∀ s ∈ S, s.bytes.size ≤ 1000

theorem SlRaw.at {w : World} {v : Value} {S : List Slt} (h : SlRaw w v S) (hs : SlSmall S) : SlAt w v S := by
  obtain ⟨h1, a, cap, rfl, hc⟩ := h
  refine ⟨by have := hs.1; omega, a, cap, rfl, fun j hj => ?_⟩
  obtain ⟨g, o, rfl, h2, k0, k1, k2⟩ := hc j hj
  exact ⟨g, o, rfl, h2, by have := hs.2 _ (List.getElem_mem hj); omega, k0, k1, k2⟩

def SmallEnd (S : List Slt) (e : Ending) : Prop := ∃ b : Bool, e = .returned (.bool b) ∧ (b = false → SlSmall S)

set_option maxHeartbeats 8000000 in
set_option maxRecDepth 100000 in
theorem greatSlots_any (S : List Slt) (sv : Value) (w : World) (hS : SlRaw w sv S) :
    Calls Tryz.prog 7 #[sv] w fun e w' => SmallEnd S e ∧ w' = w := by
  obtain ⟨hl, sa, sc, rfl, hc⟩ := hS
  have HC := Lib.hid hc
  clear hc
  unfold maxLen at hl
  go_enter Tryz.func7, Tryz.ntmps7
  go_wp2_with fail
  go_loop [3] (fun i => ∃ (k : Nat), k ≤ S.length ∧ i = .int .i64 k ∧ Hid (∀ s ∈ S.take k, s.bytes.size ≤ 1000)) (fun i => S.length - (intOf i).toNat)
  case atStart => exact ⟨0, by omega, rfl, Lib.hid (by simp)⟩
  case round =>
    obtain ⟨k, hk, rfl, HA⟩ := hrel
    have q0 : (0 : Int) ≤ (k : Int) := by omega
    by_cases h4 : S.length ≤ 40
    · have q6 : (S.length : Int) ≤ 40 := by omega
      have q7 : ¬ (40 : Int) < (S.length : Int) := by omega
      by_cases hlt : k < S.length
      · have q1 : (k : Int) < (S.length : Int) := by omega
        obtain ⟨g, o, rfl, -, -, -, k2⟩ := HC.out k hlt
        have HT := Lib.hid (List.take_succ_eq_append_getElem hlt)
        obtain ⟨⟨st, ct, s⟩, hs⟩ : ∃ s, S[k]'hlt = s := ⟨_, rfl⟩
        rw [hs] at k2 HT
        simp only at k2
        clear hs
        have q5 : IntKind.i64.wrap ((k : Int) + 1) = (k : Int) + 1 := IntWalk.i64_in _ (by omega)
        by_cases hg : s.size ≤ 1000
        · have q8 : ¬ (1000 : Int) < (s.size : Int) := by omega
          have HA := Lib.hid (show ∀ s ∈ S.take (k + 1), s.bytes.size ≤ 1000 by
            rw [HT.out]
            intro f hf
            rcases List.mem_append.1 hf with hf | hf
            · exact HA.out f hf
            · rw [List.mem_singleton] at hf; subst hf; exact hg)
          go_wp2_with fail
          go_round
          case rel => exact ⟨k + 1, by omega, by go_num, HA⟩
          case measure => clear q5; simp [intOf]; omega
        · have q8 : (1000 : Int) < (s.size : Int) := by omega
          go_wp2_with fail
          go_ret
          exact ⟨⟨true, rfl, fun h => by cases h⟩, rfl⟩
      · obtain rfl : k = S.length := by omega
        rw [List.take_length] at HA
        go_wp2_with fail
        go_ret
        exact ⟨⟨false, by first | rfl | simp [q7], fun _ => ⟨h4, HA.out⟩⟩, rfl⟩
    · have q6 : ¬ (S.length : Int) ≤ 40 := by omega
      have q7 : (40 : Int) < (S.length : Int) := by omega
      by_cases hlt : k < S.length
      · have q1 : (k : Int) < (S.length : Int) := by omega
        go_wp2_with fail
        go_ret
        exact ⟨⟨true, by first | rfl | simp [q7], fun h => by cases h⟩, rfl⟩
      · have q1 : ¬ (k : Int) < (S.length : Int) := by omega
        go_wp2_with fail
        go_ret
        exact ⟨⟨true, by first | rfl | simp [q7], fun h => by cases h⟩, rfl⟩

end Go.Proofs.YtlmpmjhanpkcnaaGreat

namespace Go.Proofs.YtlmpmjhanpkcnaaGreat
open Go.RowKit Go.ChangeShapes

instance : Inhabited Slt := ⟨⟨0, 0, ⟨#[]⟩⟩⟩

section
variable {H : Type} {enc : TypeId × Value → H} {w : World} {base : Nat} {sp : Nat → Bool} {hd : Bool}

theorem i64_of {n : Int} (h : (Lit.int .i64 n).wf = true) : -9223372036854775808 ≤ n ∧ n ≤ 9223372036854775807 := bounds_i64 h

theorem u64_of {n : Int} (h : (Lit.int .u64 n).wf = true) : 0 ≤ n ∧ n < 18446744073709551616 := by
  simp only [Lit.wf, Bool.and_eq_true, decide_eq_true_eq] at h
  revert h
  simp [IntKind.min, IntKind.max, IntKind.bits, IntKind.signed]
  omega

set_option maxRecDepth 100000 in
theorem words_open {fuel : Nat} {cs : List Value} {x : DataW H × List MemPlace} (h : DataW.trod enc Tryz.prog w base sp hd fuel 22 cs = some x) : ∃ v l, cs = [v] ∧ Ws w v l := by
  rcases open_ints Tryz.underlying22 Tryz.underlying47 (by kernel_rfl) h with ⟨rfl, _⟩ | ⟨a, n, c, zs, rfl, _, hl, hm, hz, _, hcell, hwf⟩
  · exact ⟨_, [], rfl, Ws.nil w⟩
  · have hle : n ≤ zs.length := by rw [hz]; split <;> omega
    have hln : ((zs.take n).map Int.toNat).length = n := by simp [Nat.min_eq_left hle]
    refine ⟨_, (zs.take n).map Int.toNat, rfl, by omega, fun y hy => ?_, some a, c, by rw [hln], by omega, hm, fun j hj => ?_⟩
    · obtain ⟨z, hz', rfl⟩ := List.mem_map.1 hy
      have := u64_of (hwf z (List.mem_of_mem_take hz'))
      omega
    · have hj' : j < n := by omega
      have hjz : j < zs.length := by omega
      have hc := hcell j hjz
      have hc0 := hcell 0 (by omega)
      obtain ⟨g, o, s⟩ := a
      have hs : s = none := by have := World.cell?_spot hc0; simpa [Addr.add] using this
      subst hs
      refine ⟨g, o, rfl, ?_⟩
      have hb := u64_of (hwf _ (List.getElem_mem hjz))
      have e : zs.getD j 0 = zs[j] := by simp [List.getD, hjz]
      rw [e, Go.WideShapes.add_plain] at hc
      rw [hc]
      simp only [List.getElem_map, List.getElem_take]
      congr 2
      omega

set_option maxRecDepth 100000 in
theorem ints_open {fuel : Nat} {cs : List Value} {x : DataW H × List MemPlace} (h : DataW.trod enc Tryz.prog w base sp hd fuel 26 cs = some x) : ∃ v l, cs = [v] ∧ ∃ a cap, v = .slice a (List.length l) cap ∧ (List.length l) ≤ maxLen ∧ cap ≤ maxLen ∧ (List.length l) ≤ cap ∧ (∀ x ∈ l, -9223372036854775808 ≤ x ∧ x ≤ 9223372036854775807) ∧ ∀ j, (hj : j < l.length) → ∃ g o, a = some ⟨g, o, none⟩ ∧ w.cell? ⟨g, o + j, none⟩ = some (.int .i64 l[j]) := by
  rcases open_ints Tryz.underlying26 Tryz.underlying3 (by kernel_rfl) h with ⟨rfl, _⟩ | ⟨a, n, c, zs, rfl, _, hl, hm, hz, _, hcell, hwf⟩
  · exact ⟨_, [], rfl, none, 0, rfl, by simp, by unfold maxLen; omega, by simp, (fun x hx => by cases hx), fun j hj => by simp at hj⟩
  · have hle : n ≤ zs.length := by rw [hz]; split <;> omega
    have hln : (zs.take n).length = n := by simp [Nat.min_eq_left hle]
    refine ⟨_, zs.take n, rfl, some a, c, by rw [hln], by omega, hm, by omega, fun y hy => i64_of (hwf y (List.mem_of_mem_take hy)), fun j hj => ?_⟩
    have hj' : j < n := by omega
    have hjz : j < zs.length := by omega
    have hc := hcell j hjz
    have hc0 := hcell 0 (by omega)
    obtain ⟨g, o, s⟩ := a
    have hs : s = none := by have := World.cell?_spot hc0; simpa [Addr.add] using this
    subst hs
    refine ⟨g, o, rfl, ?_⟩
    have e : zs.getD j 0 = zs[j] := by simp [List.getD, hjz]
    rw [e, Go.WideShapes.add_plain] at hc
    rw [hc]
    simp

theorem is_open {fuel : Nat} {cs : List Value} {x : DataW H × List MemPlace} (h : DataW.trod enc Tryz.prog w base sp hd fuel 26 cs = some x) : ∃ v l, cs = [v] ∧ Is w v l := by
  obtain ⟨v, l, hc, a, cap, hv, h1, h2, h3, h4, h5⟩ := ints_open h
  exact ⟨v, l, hc, h1, h4, a, cap, hv, h3, h2, h5⟩

set_option maxRecDepth 100000 in
theorem frag_open {fuel : Nat} {cs : List Value} {x : DataW H × List MemPlace} (h : DataW.trod enc Tryz.prog w base sp hd fuel 24 cs = some x) : ∃ a b f, cs = [a, b] ∧ FrAt w a b f := by
  obtain ⟨xs, n, _, rfl, hl, hlen, hf⟩ := DataW.trod_struct Tryz.underlying24 h
  rw [show Tryz.prog.cellsOf 24 = 2 by kernel_rfl] at hl
  match cs, hl with
  | [v0, v1], _ =>
    match xs, hlen with
    | [y0, y1], _ =>
      have g0 : DataW.trod enc Tryz.prog w base sp hd n 3 ((List.drop 0 [v0, v1]).take (Tryz.prog.cellsOf 3)) = some y0 := hf 0 _ rfl
      have g1 : DataW.trod enc Tryz.prog w base sp hd n 22 ((List.drop 1 [v0, v1]).take (Tryz.prog.cellsOf 22)) = some y1 := hf 1 _ rfl
      simp only [show Tryz.prog.cellsOf 3 = 1 by kernel_rfl, show Tryz.prog.cellsOf 22 = 1 by kernel_rfl, List.drop_zero, List.drop_succ_cons, List.take_succ_cons, List.take_zero, List.getElem?_cons_zero, List.getElem?_cons_succ] at g0 g1
      obtain ⟨a, ha, _, wa⟩ := DataW.trod_int Tryz.underlying3 g0
      obtain ⟨v, l, hv, hw⟩ := words_open g1
      simp only [List.cons.injEq, and_true] at ha hv
      subst ha hv
      obtain ⟨h1, h2, b, c, rfl, h3⟩ := id hw
      exact ⟨_, _, (a, l), rfl, i64_of wa, rfl, b, c, rfl, hw⟩

set_option maxRecDepth 100000 in
theorem frags_open {fuel : Nat} {cs : List Value} {x : DataW H × List MemPlace} (h : DataW.trod enc Tryz.prog w base sp hd fuel 25 cs = some x) : ∃ v m, cs = [v] ∧ RsAt w v m := by
  rcases Go.Deep.open_slice Tryz.underlying25 h with ⟨rfl, _⟩ | ⟨a, len, c, m, k, D, Pl, rfl, _, hl, hm, hmm, _, hel⟩
  · exact ⟨_, [], rfl, by simp, none, 0, rfl, fun j hj => by simp at hj⟩
  · have hle : len ≤ m := by rw [hmm]; split <;> omega
    have h2 : Tryz.prog.cellsOf 24 = 2 := by kernel_rfl
    obtain ⟨V, hV⟩ := Go.Deep.choose_lt (α := Frg) (n := m) (p := fun i f => ∃ u v, w.cell? (a.add (i * 2)) = some u ∧ w.cell? (a.add (i * 2 + 1)) = some v ∧ FrAt w u v f) (fun i hi => by
      obtain ⟨cs', h1, h3⟩ := hel i hi
      rw [h2] at h1
      obtain ⟨_, hlen, hcell⟩ := World.cells?_some h1
      obtain ⟨u, v, f, rfl, hf⟩ := frag_open h3
      have g0 := hcell 0 (by omega)
      have g1 := hcell 1 (by omega)
      rw [Addr.add_add] at g0 g1
      exact ⟨f, u, v, g0, g1, hf⟩)
    have hln : ((List.range len).map V).length = len := by simp
    refine ⟨_, (List.range len).map V, rfl, by omega, some a, c, by rw [hln], fun j hj => ?_⟩
    rw [hln] at hj
    obtain ⟨u, v, k0, k1, h1, rfl, wa, wc, rfl, hw⟩ := hV j (by omega)
    obtain ⟨_, _, z0, _⟩ := hV 0 (by omega)
    obtain ⟨g, o, s⟩ := a
    have hs : s = none := by have := World.cell?_spot z0; simpa [Addr.add] using this
    subst hs
    have e : ((List.range len).map V)[j]'(by rw [hln]; exact hj) = V j := by simp
    rw [Go.WideShapes.add_plain] at k0 k1
    rw [e]
    exact ⟨g, o, wa, wc, rfl, h1, k0, by rw [Nat.add_assoc]; exact k1, hw⟩

set_option maxRecDepth 100000 in
set_option maxHeartbeats 1000000 in
theorem dump_open {fuel : Nat} {cs : List Value} {x : DataW H × List MemPlace} (h : DataW.trod enc Tryz.prog w base sp hd fuel 28 cs = some x) : ∃ d, DmAt w (.agg cs.toArray) d := by
  obtain ⟨xs, n, _, rfl, hl, hlen, hf⟩ := DataW.trod_struct Tryz.underlying28 h
  rw [show Tryz.prog.cellsOf 28 = 9 by kernel_rfl] at hl
  match cs, hl with
  | [v0, v1, v2, v3, v4, v5, v6, v7, v8], _ =>
    match xs, hlen with
    | [y0, y1, y2, y3, y4, y5, y6], _ =>
      have g0 : DataW.trod enc Tryz.prog w base sp hd n 24 ((List.drop 0 [v0, v1, v2, v3, v4, v5, v6, v7, v8]).take (Tryz.prog.cellsOf 24)) = some y0 := hf 0 _ rfl
      have g1 : DataW.trod enc Tryz.prog w base sp hd n 24 ((List.drop 2 [v0, v1, v2, v3, v4, v5, v6, v7, v8]).take (Tryz.prog.cellsOf 24)) = some y1 := hf 1 _ rfl
      have g2 : DataW.trod enc Tryz.prog w base sp hd n 3 ((List.drop 4 [v0, v1, v2, v3, v4, v5, v6, v7, v8]).take (Tryz.prog.cellsOf 3)) = some y2 := hf 2 _ rfl
      have g3 : DataW.trod enc Tryz.prog w base sp hd n 3 ((List.drop 5 [v0, v1, v2, v3, v4, v5, v6, v7, v8]).take (Tryz.prog.cellsOf 3)) = some y3 := hf 3 _ rfl
      have g4 : DataW.trod enc Tryz.prog w base sp hd n 25 ((List.drop 6 [v0, v1, v2, v3, v4, v5, v6, v7, v8]).take (Tryz.prog.cellsOf 25)) = some y4 := hf 4 _ rfl
      have g5 : DataW.trod enc Tryz.prog w base sp hd n 22 ((List.drop 7 [v0, v1, v2, v3, v4, v5, v6, v7, v8]).take (Tryz.prog.cellsOf 22)) = some y5 := hf 5 _ rfl
      have g6 : DataW.trod enc Tryz.prog w base sp hd n 26 ((List.drop 8 [v0, v1, v2, v3, v4, v5, v6, v7, v8]).take (Tryz.prog.cellsOf 26)) = some y6 := hf 6 _ rfl
      simp only [show Tryz.prog.cellsOf 3 = 1 by kernel_rfl, show Tryz.prog.cellsOf 22 = 1 by kernel_rfl, show Tryz.prog.cellsOf 24 = 2 by kernel_rfl, show Tryz.prog.cellsOf 25 = 1 by kernel_rfl, show Tryz.prog.cellsOf 26 = 1 by kernel_rfl,
        List.drop_zero, List.drop_succ_cons, List.take_succ_cons, List.take_zero, List.getElem?_cons_zero, List.getElem?_cons_succ] at g0 g1 g2 g3 g4 g5 g6
      obtain ⟨a, b, f, e0, F0⟩ := frag_open g0
      obtain ⟨a', b', f', e1, F1⟩ := frag_open g1
      obtain ⟨s, e2, _, ws⟩ := DataW.trod_int Tryz.underlying3 g2
      obtain ⟨k, e3, _, wk⟩ := DataW.trod_int Tryz.underlying3 g3
      obtain ⟨fv, m, e4, F4⟩ := frags_open g4
      obtain ⟨rv, l, e5, F5⟩ := words_open g5
      obtain ⟨hv, is, e6, F6⟩ := is_open g6
      simp only [List.cons.injEq, and_true] at e0 e1 e2 e3 e4 e5 e6
      obtain ⟨rfl, rfl⟩ := e0
      obtain ⟨rfl, rfl⟩ := e1
      subst e2 e3 e4 e5 e6
      exact ⟨⟨f, f', s, k, m, l, is⟩, _, _, _, _, _, _, _, rfl, F0, F1, i64_of ws, i64_of wk, F4, F5, F6⟩

set_option maxRecDepth 100000 in
theorem slot_open {fuel : Nat} {cs : List Value} {x : DataW H × List MemPlace} (h : DataW.trod enc Tryz.prog w base sp hd fuel 51 cs = some x) : ∃ s : Slt, cs = [.int .i64 s.stamp, .int .i64 s.count, .string s.bytes] ∧ (-9223372036854775808 ≤ s.stamp ∧ s.stamp ≤ 9223372036854775807) := by
  obtain ⟨xs, n, _, rfl, hl, hlen, hf⟩ := DataW.trod_struct Tryz.underlying51 h
  rw [show Tryz.prog.cellsOf 51 = 3 by kernel_rfl] at hl
  match cs, hl with
  | [v0, v1, v2], _ =>
    match xs, hlen with
    | [y0, y1, y2], _ =>
      have g0 : DataW.trod enc Tryz.prog w base sp hd n 3 ((List.drop 0 [v0, v1, v2]).take (Tryz.prog.cellsOf 3)) = some y0 := hf 0 _ rfl
      have g1 : DataW.trod enc Tryz.prog w base sp hd n 3 ((List.drop 1 [v0, v1, v2]).take (Tryz.prog.cellsOf 3)) = some y1 := hf 1 _ rfl
      have g2 : DataW.trod enc Tryz.prog w base sp hd n 9 ((List.drop 2 [v0, v1, v2]).take (Tryz.prog.cellsOf 9)) = some y2 := hf 2 _ rfl
      simp only [show Tryz.prog.cellsOf 3 = 1 by kernel_rfl, show Tryz.prog.cellsOf 9 = 1 by kernel_rfl, List.drop_zero, List.drop_succ_cons, List.take_succ_cons, List.take_zero, List.getElem?_cons_zero, List.getElem?_cons_succ] at g0 g1 g2
      obtain ⟨a, ha, _, wa⟩ := DataW.trod_int Tryz.underlying3 g0
      obtain ⟨b, hb, _, wb⟩ := DataW.trod_int Tryz.underlying3 g1
      obtain ⟨s, hs, _, _⟩ := DataW.trod_string Tryz.underlying9 g2
      simp only [List.cons.injEq, and_true] at ha hb hs
      subst ha hb hs
      exact ⟨⟨a, b, s⟩, rfl, i64_of wa⟩

set_option maxRecDepth 100000 in
theorem slots_open {fuel : Nat} {cs : List Value} {x : DataW H × List MemPlace} (h : DataW.trod enc Tryz.prog w base sp hd fuel 29 cs = some x) : ∃ v S, cs = [v] ∧ SlRaw w v S := by
  rcases Go.Deep.open_slice Tryz.underlying29 h with ⟨rfl, _⟩ | ⟨a, len, c, m, k, D, Pl, rfl, _, hl, hm, hmm, _, hel⟩
  · exact ⟨_, [], rfl, by simp, none, 0, rfl, fun j hj => by simp at hj⟩
  · have hle : len ≤ m := by rw [hmm]; split <;> omega
    have h3 : Tryz.prog.cellsOf 51 = 3 := by kernel_rfl
    obtain ⟨V, hV⟩ := Go.Deep.choose_lt (α := Slt) (n := m) (p := fun i s => (-9223372036854775808 ≤ s.stamp ∧ s.stamp ≤ 9223372036854775807) ∧ w.cell? (a.add (i * 3)) = some (.int .i64 s.stamp) ∧ w.cell? (a.add (i * 3 + 1)) = some (.int .i64 s.count) ∧ w.cell? (a.add (i * 3 + 2)) = some (.string s.bytes)) (fun i hi => by
      obtain ⟨cs', h1, h2⟩ := hel i hi
      rw [h3] at h1
      obtain ⟨_, hlen, hcell⟩ := World.cells?_some h1
      obtain ⟨s, rfl, hs⟩ := slot_open h2
      have g0 := hcell 0 (by omega)
      have g1 := hcell 1 (by omega)
      have g2 := hcell 2 (by omega)
      rw [Addr.add_add] at g0 g1 g2
      exact ⟨s, hs, g0, g1, g2⟩)
    have hln : ((List.range len).map V).length = len := by simp
    refine ⟨_, (List.range len).map V, rfl, by omega, some a, c, by rw [hln], fun j hj => ?_⟩
    rw [hln] at hj
    obtain ⟨h1, k0, k1, k2⟩ := hV j (by omega)
    obtain ⟨_, z0, _⟩ := hV 0 (by omega)
    obtain ⟨g, o, s⟩ := a
    have hs : s = none := by have := World.cell?_spot z0; simpa [Addr.add] using this
    subst hs
    have e : ((List.range len).map V)[j]'(by rw [hln]; exact hj) = V j := by simp
    rw [Go.WideShapes.add_plain] at k0 k1 k2
    rw [e]
    exact ⟨g, o, rfl, h1, k0, by rw [Nat.add_assoc]; exact k1, by rw [Nat.add_assoc]; exact k2⟩

theorem dumpArg_open {v : Value} {d : DataW H} {ps : List MemPlace} (h : DataW.Trod enc Tryz.prog w base sp hd 28 v d ps) (hv : ∃ cs, v = .agg cs) : ∃ d', DmAt w v d' := by
  obtain ⟨cs, rfl⟩ := hv
  obtain ⟨fuel, hf⟩ := h
  obtain ⟨d', hd'⟩ := dump_open hf
  exact ⟨d', by simpa [Value.cells] using hd'⟩

theorem slotsArg_open {v : Value} {d : DataW H} {ps : List MemPlace} (h : DataW.Trod enc Tryz.prog w base sp hd 29 v d ps) (hv : ∃ a len cap, v = .slice a len cap) : ∃ S, SlRaw w v S := by
  obtain ⟨a, len, cap, rfl⟩ := hv
  obtain ⟨fuel, hf⟩ := h
  obtain ⟨v, S, hc, hS⟩ := slots_open hf
  simp [Value.cells] at hc
  subst hc
  exact ⟨S, hS⟩

end
end Go.Proofs.YtlmpmjhanpkcnaaGreat

namespace Go.Proofs.YtlmpmjhanpkcnaaGreat
open Go.RowKit

theorem tag8_any (x : Nat) (hx : x < 18446744073709551616) (W : World) : Calls Tryz.prog 40 #[.int .u64 x] W fun e W' => e = .returned (.int .i64 ((tagW x : Nat) : Int)) ∧ W = W' := by
  have h2 : (x : Int).tmod 8 = ((x % 8 : Nat) : Int) := by rw [Int.tmod_eq_emod_of_nonneg (by omega)]; omega
  have h3 : IntKind.i64.wrap ((x % 8 : Nat) : Int) = ((x % 8 : Nat) : Int) := IntWalk.i64_in _ (by omega)
  have h4 : IntKind.u64.wrap ((x % 8 : Nat) : Int) = ((x % 8 : Nat) : Int) := by rw [IntKind.wrap_u64]; omega
  unfold tagW
  generalize x % 8 = t at *
  go_enter Tryz.func40, Tryz.ntmps40
  go_wp2_with fail
  go_ret
  exact ⟨rfl, rfl⟩

set_option maxHeartbeats 1000000 in
theorem load8_any (x : Nat) (hx : x < 18446744073709551616) (W : World) : Calls Tryz.prog 39 #[.int .u64 x] W fun e W' => e = .returned (.int .i64 (loadW x)) ∧ W = W' := by
  obtain ⟨l, hl⟩ : ∃ l, loadW x = l := ⟨_, rfl⟩
  by_cases h0 : x % 8 = 0
  · have h2 : (x : Int).tmod 8 = 0 := by rw [Int.tmod_eq_emod_of_nonneg (by omega)]; omega
    obtain ⟨z, hz⟩ : ∃ z : Int, IntKind.i64.wrap (x : Int) = z := ⟨_, rfl⟩
    have hz2 : (if x < 9223372036854775808 then (x : Int) else (x : Int) - 18446744073709551616) = z := by
      rw [← hz, IntKind.wrap_i64]
      split <;> omega
    have hl2 : l = z / 8 := by rw [← hl]; unfold loadW; rw [if_pos h0, hz2]
    have hz8 : z % 8 = 0 := by rw [← hz2]; split <;> omega
    have hzb : -9223372036854775808 ≤ z ∧ z ≤ 9223372036854775807 := by rw [← hz2]; split <;> omega
    have h3 : z.tdiv 8 = l := by
      rw [hl2]
      rw [Int.tdiv_eq_ediv_of_dvd (Int.dvd_of_emod_eq_zero hz8)]
    have h4 : IntKind.i64.wrap l = l := IntWalk.i64_in _ (by omega)
    have HL := Lib.hid hl
    rw [hl]
    clear hl hl2 hz2 hz8
    go_enter Tryz.func39, Tryz.ntmps39
    go_wp2_with fail
    go_ret
    exact ⟨by first | rfl | rw [h3] | rw [h3, h4], rfl⟩
  · have h2 : (x : Int).tmod 8 = ((x % 8 : Nat) : Int) := by rw [Int.tmod_eq_emod_of_nonneg (by omega)]; omega
    have q : (((x % 8 : Nat) : Int) == 0) = false := by
      have : ((x % 8 : Nat) : Int) ≠ 0 := by omega
      simpa using this
    have h4 : IntKind.u64.wrap ((x % 8 : Nat) : Int) = ((x % 8 : Nat) : Int) := by rw [IntKind.wrap_u64]; omega
    have h5 : (x : Int).tdiv 8 = l := by rw [Int.tdiv_eq_ediv_of_nonneg (by omega), ← hl]; unfold loadW; rw [if_neg h0]; omega
    have hlb : 0 ≤ l ∧ l < 2305843009213693952 := by rw [← hl]; unfold loadW; rw [if_neg h0]; omega
    have h6 : IntKind.u64.wrap l = l := by rw [IntKind.wrap_u64]; omega
    have h7 : IntKind.i64.wrap l = l := IntWalk.i64_in _ (by omega)
    have h8 : (x : Int) / 8 = l := by rw [← h5, Int.tdiv_eq_ediv_of_nonneg (by omega)]
    rw [hl]
    clear hl hlb
    generalize x % 8 = t at *
    go_enter Tryz.func39, Tryz.ntmps39
    go_wp2_with fail
    go_ret
    exact ⟨rfl, rfl⟩

/-- A head's word. -/
def head8 (k s : Nat) : Option Nat := if k ≤ 5 ∧ s ≤ 1048576 then some ((s * 8 + k) * 8 + 6) else none

def Head8End (k s : Nat) (e : Ending) : Prop := e = .returned (.tuple #[.int .u64 (((head8 k s).getD 0 : Nat) : Int), .bool (head8 k s).isSome])

set_option maxHeartbeats 1000000 in
theorem head8_any (k s : Nat) (hk : k ≤ 1000000) (hs : s ≤ 1000000000000000000) (W : World) : Calls Tryz.prog 70 #[.int .i64 k, .int .i64 s] W fun e W' => Head8End k s e ∧ W = W' := by
  have p1 : ¬ (k : Int) < 0 := by omega
  have p2 : ¬ (s : Int) < 0 := by omega
  by_cases h1 : k ≤ 5
  · have p3 : ¬ (5 : Int) < (k : Int) := by omega
    by_cases h2 : s ≤ 1048576
    · have p4 : ¬ (1048576 : Int) < (s : Int) := by omega
      have HE := Lib.hid (show head8 k s = some ((s * 8 + k) * 8 + 6) by unfold head8; rw [if_pos ⟨h1, h2⟩])
      have q1 : IntKind.i64.wrap ((s : Int) * 8) = ((s * 8 : Nat) : Int) := by rw [IntWalk.i64_in _ (by omega)]; omega
      have q2 : IntKind.i64.wrap (((s * 8 : Nat) : Int) + (k : Int)) = ((s * 8 + k : Nat) : Int) := by rw [IntWalk.i64_in _ (by omega)]; omega
      have q3 : IntKind.u64.wrap ((s * 8 + k : Nat) : Int) = ((s * 8 + k : Nat) : Int) := by rw [IntKind.wrap_u64]; omega
      have q4 : IntKind.u64.wrap (((s * 8 + k : Nat) : Int) * 8) = (((s * 8 + k) * 8 : Nat) : Int) := by rw [IntKind.wrap_u64]; omega
      have q5 : IntKind.u64.wrap ((((s * 8 + k) * 8 : Nat) : Int) + 6) = (((s * 8 + k) * 8 + 6 : Nat) : Int) := by rw [IntKind.wrap_u64]; omega
      generalize (s * 8 + k) * 8 + 6 = z at *
      generalize (s * 8 + k) * 8 = y at *
      generalize s * 8 + k = x at *
      generalize s * 8 = u at *
      go_enter Tryz.func70, Tryz.ntmps70
      go_wp2_with fail
      go_ret2
      unfold Head8End
      rw [HE.out]
      exact ⟨rfl, rfl⟩
    · have p4 : (1048576 : Int) < (s : Int) := by omega
      have HE := Lib.hid (show head8 k s = none by unfold head8; rw [if_neg (fun q => h2 q.2)])
      go_enter Tryz.func70, Tryz.ntmps70
      go_wp2_with fail
      go_ret2
      unfold Head8End
      rw [HE.out]
      exact ⟨rfl, rfl⟩
  · have p3 : (5 : Int) < (k : Int) := by omega
    have HE := Lib.hid (show head8 k s = none by unfold head8; rw [if_neg (fun q => h1 q.1)])
    go_enter Tryz.func70, Tryz.ntmps70
    go_wp2_with fail
    go_ret2
    unfold Head8End
    rw [HE.out]
    exact ⟨rfl, rfl⟩

theorem head8_headP (x : Nat) : (match head8 (x / 8 % 8) (x / 64) with | some z => if z = x then some (((x / 8 % 8 : Nat) : Int), ((x / 64 : Nat) : Int)) else none | none => none) = headP x := by
  unfold head8 headP tagW
  by_cases h : x / 8 % 8 ≤ 5 ∧ x / 64 ≤ 1048576
  · rw [if_pos h]
    simp only
    by_cases h6 : x % 8 = 6
    · rw [if_pos (by omega), if_pos ⟨h6, h.1, h.2⟩]
    · rw [if_neg (by omega), if_neg (fun q => h6 q.1)]
  · rw [if_neg h, if_neg (fun q => h q.2)]

set_option maxHeartbeats 1000000 in
theorem parts8_any (x : Nat) (hx : x < 18446744073709551616) (W : World) : Calls Tryz.prog 41 #[.int .u64 x] W fun e W' => HeadEnd x e ∧ W = W' := by
  have HH := Lib.hid (head8_headP x)
  have HKB := Lib.hid (show x / 8 % 8 ≤ 1000000 ∧ x / 64 ≤ 1000000000000000000 by omega)
  have q1 : (x : Int).tdiv 8 = ((x / 8 : Nat) : Int) := by rw [Int.tdiv_eq_ediv_of_nonneg (by omega)]; omega
  have q2 : ((x / 8 : Nat) : Int).tmod 8 = ((x / 8 % 8 : Nat) : Int) := by rw [Int.tmod_eq_emod_of_nonneg (by omega)]; omega
  have q3 : (x : Int).tdiv 64 = ((x / 64 : Nat) : Int) := by rw [Int.tdiv_eq_ediv_of_nonneg (by omega)]; omega
  have q4 : IntKind.i64.wrap ((x / 8 % 8 : Nat) : Int) = ((x / 8 % 8 : Nat) : Int) := IntWalk.i64_in _ (by omega)
  have q5 : IntKind.i64.wrap ((x / 64 : Nat) : Int) = ((x / 64 : Nat) : Int) := IntWalk.i64_in _ (by omega)
  have r1 : (x : Int) / 8 = ((x / 8 : Nat) : Int) := by omega
  have r2 : ((x / 8 : Nat) : Int) % 8 = ((x / 8 % 8 : Nat) : Int) := by omega
  have r3 : (x : Int) / 64 = ((x / 64 : Nat) : Int) := by omega
  obtain ⟨r, hr⟩ : ∃ r, headP x = r := ⟨_, rfl⟩
  have HR := Lib.hid hr
  rw [hr] at HH
  clear hr
  generalize x / 8 % 8 = k at *
  generalize x / 64 = s at *
  generalize x / 8 = y at *
  go_enter Tryz.func41, Tryz.ntmps41
  go_wp2_with fail
  refine (head8_any k s HKB.out.1 HKB.out.2 W).mono ?_
  rintro e w ⟨he, rfl⟩
  unfold Head8End at he
  obtain ⟨h8, hh8⟩ : ∃ h, head8 k s = h := ⟨_, rfl⟩
  rw [hh8] at HH he
  clear hh8
  subst he
  cases h8 with
  | none =>
    have HE := Lib.hid (show r = none from HH.out.symm)
    go_wp2_with fail
    refine bodyPost_ret (v := .tuple #[.int .i64 0, .int .i64 0, .bool false]) (by simp [results, Tryz.results41, go_sem]) rfl ⟨?_, rfl⟩
    unfold HeadEnd
    rw [HR.out, HE.out]; rfl
  | some z =>
    by_cases hz : z = x
    · have HE := Lib.hid (show r = some ((k : Int), (s : Int)) by rw [← HH.out]; simp [hz])
      subst hz
      go_wp2_with fail
      refine bodyPost_ret (v := .tuple #[.int .i64 k, .int .i64 s, .bool true]) (by simp [results, Tryz.results41, go_sem]) rfl ⟨?_, rfl⟩
      unfold HeadEnd
      rw [HR.out, HE.out]; rfl
    · have HE := Lib.hid (show r = none by rw [← HH.out]; simp [hz])
      have p1 : ((z : Int) != (x : Int)) = true := by
        have : (z : Int) ≠ (x : Int) := by omega
        simpa using this
      have p2 : ¬ (z : Int) = (x : Int) := by omega
      go_wp2_with fail
      refine bodyPost_ret (v := .tuple #[.int .i64 0, .int .i64 0, .bool false]) (by simp [results, Tryz.results41, go_sem]) rfl ⟨?_, rfl⟩
      unfold HeadEnd
      rw [HR.out, HE.out]; rfl

end Go.Proofs.YtlmpmjhanpkcnaaGreat
