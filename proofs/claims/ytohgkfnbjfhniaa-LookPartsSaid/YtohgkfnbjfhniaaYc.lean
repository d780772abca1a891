/-
  Is a dump, are slots, more than is gone through: GreatDump, GreatSlots.
-/
import Derived.Test.YtohgkfnbjfhniaaYb
namespace Go.Proofs.Ytohgkfnbjfhniaa
open Go.RowKit

/-- The cells that a dump's value has. -/
theorem DmAt.shape {w : World} {v : Value} {d : Dmp} (h : DmAt w v d) : ∃ wa1 wc1 wa2 wc2 fa fc ra rc ha hc, v = .agg #[.int .i64 d.young.1, .slice wa1 d.young.2.length wc1, .int .i64 d.old.1, .slice wa2 d.old.2.length wc2, .int .i64 d.size, .int .i64 d.mark, .slice fa d.frags.length fc, .slice ra d.roots.length rc, .slice ha d.handles.length hc] := by
  obtain ⟨a, b, a', b', f, r, h, rfl, ⟨-, rfl, wa1, wc1, rfl, -⟩, ⟨-, rfl, wa2, wc2, rfl, -⟩, -, -, ⟨-, fa, fc, rfl, -⟩, ⟨-, -, ra, rc, rfl, -⟩, ⟨-, -, ha, hc, rfl, -⟩⟩ := h
  exact ⟨wa1, wc1, wa2, wc2, fa, fc, ra, rc, ha, hc, rfl⟩

theorem Ws.value {w : World} {a : Option Addr} {n c : Nat} {l : List Nat} (h : Ws w (.slice a n c) l) : n = l.length := by
  obtain ⟨-, -, a', c', he, -⟩ := h
  simp only [Value.slice.injEq] at he
  exact he.2.1

/-- Other roots in a dump's value. -/
theorem DmAt.roots' {w : World} {a b c d' e f g r h : Value} {d : Dmp} (hd : DmAt w (.agg #[a, b, c, d', e, f, g, r, h]) d) {r' : Value} {l : List Nat} (hr : Ws w r' l) : DmAt w (.agg #[a, b, c, d', e, f, g, r', h]) (d.roots' l) := by
  obtain ⟨a1, b1, a2, b2, f1, r1, h1, he, k1, k2, k3, k4, k5, -, k7⟩ := hd
  simp only [dmpV, Value.agg.injEq, Array.mk.injEq, List.cons.injEq, and_true] at he
  obtain ⟨rfl, rfl, rfl, rfl, rfl, rfl, rfl, rfl, rfl⟩ := he
  exact ⟨_, _, _, _, _, _, _, rfl, k1, k2, k3, k4, k5, hr, k7⟩

theorem DmAt.ws {w : World} {a b c d' e f g r h : Value} {d : Dmp} (hd : DmAt w (.agg #[a, b, c, d', e, f, g, r, h]) d) : Ws w r d.roots := by
  obtain ⟨a1, b1, a2, b2, f1, r1, h1, he, k1, k2, k3, k4, k5, k6, k7⟩ := hd
  simp only [dmpV, Value.agg.injEq, Array.mk.injEq, List.cons.injEq, and_true] at he
  obtain ⟨rfl, rfl, rfl, rfl, rfl, rfl, rfl, rfl, rfl⟩ := he
  exact k6

def GreatEnd (d : Dmp) (e : Ending) : Prop := ∃ b : Bool, e = .returned (.bool b) ∧ (b = false → DmSmall d)

set_option maxHeartbeats 8000000 in
set_option maxRecDepth 100000 in
theorem greatDump_any (d : Dmp) (v : Value) (w : World) (hd : DmAt w v d) :
    Calls Try.prog 6 #[v, .int .i64 60] w fun e w' => GreatEnd d e ∧ Below w.heap.size w w' := by
  obtain ⟨a, b, a', b', f, r, h, rfl, ⟨-, rfl, wa1, wc1, rfl, hw1⟩, ⟨-, rfl, wa2, wc2, rfl, hw2⟩, -, -, ⟨hfl, fa, fc, rfl, hfc⟩, ⟨hrl, -, ra, rc, rfl, -⟩, ⟨hhl, -, ha, hc, rfl, -⟩⟩ := hd
  have T := one_at w (.cells #[.int .i64 d.young.1, .slice wa1 d.young.2.length wc1, .int .i64 d.old.1, .slice wa2 d.old.2.length wc2, .int .i64 d.size, .int .i64 d.mark, .slice fa d.frags.length fc, .slice ra d.roots.length rc, .slice ha d.handles.length hc] 28)
  have HFC := Lib.hid hfc
  have hyl := hw1.1
  have hol := hw2.1
  unfold maxLen at hfl hrl hhl hyl hol
  clear hfc hw1 hw2
  go_enter Try.func6, Try.ntmps6
  go_wp2_with fail
  generalize w.alloc (.cells #[.int .i64 d.young.1, .slice wa1 d.young.2.length wc1, .int .i64 d.old.1, .slice wa2 d.old.2.length wc2, .int .i64 d.size, .int .i64 d.mark, .slice fa d.frags.length fc, .slice ra d.roots.length rc, .slice ha d.handles.length hc] 28) = W at *
  have X0 := Lib.hid T.1
  have XB := Lib.hid T.2.2
  clear T
  have x1 := cell_of X0.out 1
  have x3 := cell_of X0.out 3
  have x6 := cell_of X0.out 6
  have x7 := cell_of X0.out 7
  have x8 := cell_of X0.out 8
  simp at x1 x3 x6 x7 x8
  go_loop [5] (fun i => ∃ (k : Nat), k ≤ d.frags.length ∧ i = .int .i64 k ∧ Hid (∀ f ∈ d.frags.take k, f.2.length ≤ 60)) (fun i => d.frags.length - (intOf i).toNat)
  case atStart => exact ⟨0, by omega, rfl, Lib.hid (by simp)⟩
  case round =>
    obtain ⟨k, hk, rfl, HA⟩ := hrel
    have q0 : (0 : Int) ≤ (k : Int) := by omega
    by_cases h6 : d.frags.length ≤ 6
    · have q6 : (d.frags.length : Int) ≤ 6 := by omega
      by_cases hlt : k < d.frags.length
      · have q1 : (k : Int) < (d.frags.length : Int) := by omega
        obtain ⟨g, o, wa, wc, rfl, -, k0, k1, hw⟩ := HFC.out k hlt
        have k1 := (XB.out.cell (World.block_lt_of_cell? w _ k1)).trans k1
        have HT := Lib.hid (List.take_succ_eq_append_getElem hlt)
        obtain ⟨⟨ga, gl⟩, hg⟩ : ∃ g, d.frags[k]'hlt = g := ⟨_, rfl⟩
        rw [hg] at k1 HT
        simp only at k1
        clear k0 hw hg
        have q5 : IntKind.i64.wrap ((k : Int) + 1) = (k : Int) + 1 := IntWalk.i64_in _ (by omega)
        by_cases hg6 : gl.length ≤ 60
        · have q7 : ¬ (60 : Int) < (gl.length : Int) := by omega
          have HA := Lib.hid (show ∀ f ∈ d.frags.take (k + 1), f.2.length ≤ 60 by
            rw [HT.out]
            intro f hf
            rcases List.mem_append.1 hf with hf | hf
            · exact HA.out f hf
            · rw [List.mem_singleton] at hf; subst hf; exact hg6)
          go_wp2_with fail
          go_round
          case rel => exact ⟨k + 1, by omega, by go_num, HA⟩
          case measure => clear q5; simp [intOf]; omega
        · have q7 : (60 : Int) < (gl.length : Int) := by omega
          go_wp2_with fail
          go_ret
          exact ⟨⟨true, rfl, fun h => by cases h⟩, XB.out⟩
      · obtain rfl : k = d.frags.length := by omega
        rw [List.take_length] at HA
        by_cases h1 : d.young.2.length ≤ 60
        · have q2 : ¬ (60 : Int) < (d.young.2.length : Int) := by omega
          by_cases h2 : d.old.2.length ≤ 60
          · have q3 : ¬ (60 : Int) < (d.old.2.length : Int) := by omega
            have q4 : ¬ (6 : Int) < (d.frags.length : Int) := by omega
            by_cases h3 : d.roots.length ≤ 100
            · have q5 : ¬ (100 : Int) < (d.roots.length : Int) := by omega
              by_cases h4 : d.handles.length ≤ 60
              · have q7 : ¬ (60 : Int) < (d.handles.length : Int) := by omega
                have HD := Lib.hid (show DmSmall d from ⟨h6, HA.out, h1, h2, h3, h4⟩)
                go_wp2_with fail
                go_ret
                exact ⟨⟨false, by first | rfl | simp [q7], fun _ => HD.out⟩, XB.out⟩
              · have q7 : (60 : Int) < (d.handles.length : Int) := by omega
                go_wp2_with fail
                go_ret
                exact ⟨⟨true, by first | rfl | simp [q7], fun h => by cases h⟩, XB.out⟩
            · have q5 : (100 : Int) < (d.roots.length : Int) := by omega
              go_wp2_with fail
              go_ret
              exact ⟨⟨true, by first | rfl | simp, fun h => by cases h⟩, XB.out⟩
          · have q3 : (60 : Int) < (d.old.2.length : Int) := by omega
            go_wp2_with fail
            go_ret
            exact ⟨⟨true, by first | rfl | simp, fun h => by cases h⟩, XB.out⟩
        · have q2 : (60 : Int) < (d.young.2.length : Int) := by omega
          go_wp2_with fail
          go_ret
          exact ⟨⟨true, by first | rfl | simp, fun h => by cases h⟩, XB.out⟩
    · have q6 : ¬ (d.frags.length : Int) ≤ 6 := by omega
      have q4 : (6 : Int) < (d.frags.length : Int) := by omega
      by_cases hlt : k < d.frags.length
      · have q1 : (k : Int) < (d.frags.length : Int) := by omega
        go_wp2_with fail
        all_goals
          go_ret
          exact ⟨⟨true, by first | rfl | simp, fun h => by cases h⟩, XB.out⟩
      · have q1 : ¬ (k : Int) < (d.frags.length : Int) := by omega
        go_wp2_with fail
        all_goals
          go_ret
          exact ⟨⟨true, by first | rfl | simp, fun h => by cases h⟩, XB.out⟩

/-- Slots of any size in memory. -/
def SlRaw (w : World) (v : Value) (S : List Slt) : Prop :=
  S.length ≤ maxLen ∧ ∃ a cap, v = .slice a S.length cap ∧ ∀ j, (hj : j < S.length) → ∃ g o, a = some ⟨g, o, none⟩ ∧ (-9223372036854775808 ≤ S[j].stamp ∧ S[j].stamp ≤ 9223372036854775807) ∧
    w.cell? ⟨g, o + j * 3, none⟩ = some (.int .i64 S[j].stamp) ∧ w.cell? ⟨g, o + j * 3 + 1, none⟩ = some (.int .i64 S[j].count) ∧ w.cell? ⟨g, o + j * 3 + 2, none⟩ = some (.string S[j].bytes)

theorem SlRaw.below {w w' : World} {v : Value} {S : List Slt} (h : SlRaw w v S) (hb : Below w.heap.size w w') : SlRaw w' v S := by
  obtain ⟨h1, a, cap, rfl, hc⟩ := h
  refine ⟨h1, a, cap, rfl, fun j hj => ?_⟩
  obtain ⟨g, o, rfl, h2, k0, k1, k2⟩ := hc j hj
  have up := fun {p : Addr} {v : Value} (q : w.cell? p = some v) => (hb.cell (World.block_lt_of_cell? w _ q)).trans q
  exact ⟨g, o, rfl, h2, up k0, up k1, up k2⟩

def SlSmall (S : List Slt) : Prop := S.length ≤ 40 ∧ ∀ s ∈ S, s.bytes.size ≤ 1000

theorem SlRaw.at {w : World} {v : Value} {S : List Slt} (h : SlRaw w v S) (hs : SlSmall S) : SlAt w v S := by
  obtain ⟨h1, a, cap, rfl, hc⟩ := h
  refine ⟨by have := hs.1; omega, a, cap, rfl, fun j hj => ?_⟩
  obtain ⟨g, o, rfl, h2, k0, k1, k2⟩ := hc j hj
  exact ⟨g, o, rfl, h2, by have := hs.2 _ (List.getElem_mem hj); omega, k0, k1, k2⟩

def SmallEnd (S : List Slt) (e : Ending) : Prop := ∃ b : Bool, e = .returned (.bool b) ∧ (b = false → SlSmall S)

set_option maxHeartbeats 8000000 in
set_option maxRecDepth 100000 in
theorem greatSlots_any (S : List Slt) (sv : Value) (w : World) (hS : SlRaw w sv S) :
    Calls Try.prog 7 #[sv] w fun e w' => SmallEnd S e ∧ w' = w := by
  obtain ⟨hl, sa, sc, rfl, hc⟩ := hS
  have HC := Lib.hid hc
  clear hc
  unfold maxLen at hl
  go_enter Try.func7, Try.ntmps7
  go_wp2_with fail
  go_loop [3] (fun i => ∃ (k : Nat), k ≤ S.length ∧ i = .int .i64 k ∧ Hid (∀ s ∈ S.take k, s.bytes.size ≤ 1000)) (fun i => S.length - (intOf i).toNat)
  case atStart => exact ⟨0, by omega, rfl, Lib.hid (by simp)⟩
  case round =>
    obtain ⟨k, hk, rfl, HA⟩ := hrel
    have q0 : (0 : Int) ≤ (k : Int) := by omega
    by_cases h4 : S.length ≤ 40
    · have q6 : (S.length : Int) ≤ 40 := by omega
      have q7 : ¬ (40 : Int) < (S.length : Int) := by omega
      by_cases hlt : k < S.length
      · have q1 : (k : Int) < (S.length : Int) := by omega
        obtain ⟨g, o, rfl, -, -, -, k2⟩ := HC.out k hlt
        have HT := Lib.hid (List.take_succ_eq_append_getElem hlt)
        obtain ⟨⟨st, ct, s⟩, hs⟩ : ∃ s, S[k]'hlt = s := ⟨_, rfl⟩
        rw [hs] at k2 HT
        simp only at k2
        clear hs
        have q5 : IntKind.i64.wrap ((k : Int) + 1) = (k : Int) + 1 := IntWalk.i64_in _ (by omega)
        by_cases hg : s.size ≤ 1000
        · have q8 : ¬ (1000 : Int) < (s.size : Int) := by omega
          have HA := Lib.hid (show ∀ s ∈ S.take (k + 1), s.bytes.size ≤ 1000 by
            rw [HT.out]
            intro f hf
            rcases List.mem_append.1 hf with hf | hf
            · exact HA.out f hf
            · rw [List.mem_singleton] at hf; subst hf; exact hg)
          go_wp2_with fail
          go_round
          case rel => exact ⟨k + 1, by omega, by go_num, HA⟩
          case measure => clear q5; simp [intOf]; omega
        · have q8 : (1000 : Int) < (s.size : Int) := by omega
          go_wp2_with fail
          go_ret
          exact ⟨⟨true, rfl, fun h => by cases h⟩, rfl⟩
      · obtain rfl : k = S.length := by omega
        rw [List.take_length] at HA
        go_wp2_with fail
        go_ret
        exact ⟨⟨false, by first | rfl | simp [q7], fun _ => ⟨h4, HA.out⟩⟩, rfl⟩
    · have q6 : ¬ (S.length : Int) ≤ 40 := by omega
      have q7 : (40 : Int) < (S.length : Int) := by omega
      by_cases hlt : k < S.length
      · have q1 : (k : Int) < (S.length : Int) := by omega
        go_wp2_with fail
        go_ret
        exact ⟨⟨true, by first | rfl | simp [q7], fun h => by cases h⟩, rfl⟩
      · have q1 : ¬ (k : Int) < (S.length : Int) := by omega
        go_wp2_with fail
        go_ret
        exact ⟨⟨true, by first | rfl | simp [q7], fun h => by cases h⟩, rfl⟩

end Go.Proofs.Ytohgkfnbjfhniaa
