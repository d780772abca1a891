/-
  Chapter 25's own answer, walked: numbers of words, lines.
-/
import Derived.Test.YtohgkfnbjfhniaaDoorNb
namespace Go.Proofs.YtohgkfnbjfhniaaDoor
open Go.RowKit Sp

theorem info3 : (Tryd.prog.info? 3).map (fun i => (i.zero, i.size, i.bytes)) = some (some (.int .i64 0), 1, 8) := by kernel_rfl

def ints (l : List Int) : List Value := l.map fun n => Value.int .i64 n

/-- How the reading of words as numbers ends. -/
def NumsOut (w0 : World) (ws : List ByteArray) (e : Ending) (w' : World) : Prop := ∃ (v : Value) (ns : List Int) (ok : Bool), e = .returned (.tuple #[v, .bool ok]) ∧
  (if ok then (ws.map fun s => numP s.toList) = ns.map some ∧ w'.ownsRow w0.heap.size 3 1 v ns.length (ints ns) else ∃ q ∈ ws, numP q.toList = none)

theorem NumsOut.three {w0 w' : World} {ws : List ByteArray} {ns : List Int} (h : (ws.map fun s => numP s.toList) = ns.map some) (h3 : ns.length = 3) : numbersP (ws.map (·.toList)) = some (ns.getD 0 0, ns.getD 1 0, ns.getD 2 0) := by
  have hl : ws.length = 3 := by have := congrArg List.length h; simp at this; omega
  match ns, h3 with
  | [x, y, z], _ =>
    match ws, hl, h with
    | [a, b, c], _, h =>
      simp at h
      simp [numbersP, h.1, h.2.1, h.2.2]

theorem NumsOut.bad {ws : List ByteArray} (h : ∃ q ∈ ws, numP q.toList = none) : numbersP (ws.map (·.toList)) = none := by
  obtain ⟨q, hq, hn⟩ := h
  match ws, hq with
  | [a, b, c], hq =>
    simp only [List.map_cons, List.map_nil, numbersP]
    simp only [List.mem_cons, List.mem_nil_iff, or_false] at hq
    rcases hq with rfl | rfl | rfl
    · rw [hn]; rfl
    · rw [hn]; cases numP a.toList <;> rfl
    · rw [hn]; cases numP a.toList <;> cases numP b.toList <;> rfl
  | [], hq => simp at hq
  | [a], _ => rfl
  | [a, b], _ => rfl
  | a :: b :: c :: d :: r, _ => rfl

theorem NumsOut.other {ws : List ByteArray} {ns : List Int} (h : (ws.map fun s => numP s.toList) = ns.map some) (h3 : ns.length ≠ 3) : numbersP (ws.map (·.toList)) = none := by
  have hl : ws.length = ns.length := by have := congrArg List.length h; simpa using this
  match ws, hl with
  | [a, b, c], hl => exact absurd (by simpa using hl.symm) h3
  | [], _ => rfl
  | [a], _ => rfl
  | [a, b], _ => rfl
  | a :: b :: c :: d :: r, _ => rfl

theorem ints_append (a b : List Int) : ints (a ++ b) = ints a ++ ints b := by simp [ints]

theorem map_take_snoc {ws : List ByteArray} {k : Nat} {ns : List Int} {x : Int} (hk : k < ws.length) (h : ((ws.take k).map fun s => numP s.toList) = ns.map some) (hx : numP ws[k].toList = some x) : ((ws.take (k + 1)).map fun s => numP s.toList) = (ns ++ [x]).map some := by
  rw [List.take_succ_eq_append_getElem hk, List.map_append, h, List.map_append]; simp [hx]

set_option maxRecDepth 100000 in
set_option maxHeartbeats 4000000 in
theorem refNumbers_any (a : Option Addr) (cap : Nat) (ws : List ByteArray) (N : Nat) (hN : ws.length = N) (hN2 : N ≤ 1000000) (w : World) (hs : Strs w a ws) (hsz : ∀ s ∈ ws, s.size ≤ 1000000) :
    Calls Tryd.prog 50 #[.slice a N cap] w fun e w' => NumsOut w ws e w' ∧ Below w.heap.size w w' := by
  obtain ⟨i0, hi, hz0, hz1, hz2⟩ := info_parts info3
  have HS := Lib.hid hs
  have HZ := Lib.hid hsz
  have HW := Lib.hid hN
  clear hs hsz hN
  go_enter Tryd.func50, Tryd.ntmps50
  go_wp2_with fail
  go_loopw [4, 5] (fun o i wr => ∃ (k : Nat) (ns : List Int), k ≤ N ∧ i = .int .i64 k ∧ ns.length ≤ k ∧ Hid (((ws.take k).map fun s => numP s.toList) = ns.map some) ∧ Hid (wr.ownsRow w.heap.size 3 1 o ns.length (ints ns)) ∧ Hid (Below w.heap.size w wr)) (fun _ i _ => N - (intOf i).toNat)
  case atStart => exact ⟨0, [], by omega, rfl, by simp, Lib.hid rfl, Lib.hid (World.ownsRow_nil _ _ _ _), Lib.hid (Below.refl _ _)⟩
  case round =>
    obtain ⟨k, ns, hk, rfl, hnl, HM, HO, HB⟩ := hrel
    by_cases hlt : k < N
    · have hkw : k < ws.length := by rw [HW.out]; exact hlt
      obtain ⟨ad, rfl, hcell⟩ := HS.out k hkw
      have hc := hcell _ HB.out
      have hsk := HZ.out _ (List.getElem_mem hkw)
      clear hcell
      obtain ⟨s, hs⟩ : ∃ s, ws[k] = s := ⟨_, rfl⟩
      rw [hs] at hc hsk
      have HSK := Lib.hid hs
      clear hs
      have q1 : (k : Int) < (N : Int) := by omega
      have q2 : (0 : Int) ≤ (k : Int) := by omega
      have q3 : IntKind.i64.wrap ((k : Int) + 1) = (k : Int) + 1 := IntWalk.i64_in _ (by omega)
      go_wp2_with fail
      refine (number_any s hsk _).mono ?_
      rintro e w1 ⟨⟨x, ok, rfl, hnum⟩, rfl⟩
      have HN := Lib.hid hnum
      clear hnum hc
      cases ok
      · have HBAD := Lib.hid (show ∃ q ∈ ws, numP q.toList = none from ⟨s, by rw [← HSK.out]; exact List.getElem_mem hkw, HN.out⟩)
        go_wp2_with fail
        go_ret2
        exact ⟨⟨_, [], false, rfl, HBAD.out⟩, HB.out⟩
      · have HNX := Lib.hid (map_take_snoc hkw HM.out (by rw [HSK.out]; exact HN.out))
        go_wp2_with (at_builtin; refine wpList_append_own_at _ rfl (.tmp 24) (.tmp 26) 92 rfl w.heap.size 3 i0 (.int .i64 0) 1 8 Tryd.underlying92 hi hz0 hz1 hz2 rfl (by decide) u4 _ _ rfl (World.ownsRow.alloc HO.out _) _ 1 1 [.int .i64 x] rfl rfl (cell_one_new _ _ _) (ints_oneCell .i64 [x]) (by unfold maxLen; omega) (by omega) (by have := HB.out.size; simp; omega) ?_; intro v1 w2 hown1 hgrow1 _ hloc1
                     have O1 := Lib.hid (show w2.ownsRow w.heap.size 3 1 v1 (ns ++ [x]).length (ints (ns ++ [x])) by rw [List.length_append, ints_append]; exact hown1)
                     have B1 := Lib.hid ((HB.out.alloc HB.out.size _).grown hgrow1 (by have := HB.out.size; simp; omega) (fun k e => (HO.out.lt k e).1))
                     clear hown1 hgrow1 hloc1)
        go_roundw
        case rel => exact ⟨k + 1, ns ++ [x], by omega, by go_num, by simp; omega, HNX, O1, B1⟩
        case measure => simp [intOf]; omega
    · obtain rfl : k = N := by omega
      have HALL := Lib.hid (show (ws.map fun s => numP s.toList) = ns.map some by have := HM.out; rwa [List.take_of_length_le (by rw [HW.out]; exact Nat.le_refl _)] at this)
      go_wp2_with fail
      go_ret2
      exact ⟨⟨_, ns, true, rfl, HALL.out, HO.out⟩, HB.out⟩

theorem linesP_split : ∀ s : List UInt8, linesP s = if (splitC 10 s).getLast? = some [] then (splitC 10 s).dropLast else splitC 10 s
  | [] => by simp [linesP, splitC]
  | b :: r => by
    have ih := linesP_split r
    by_cases hb : b = 10
    · subst hb
      rw [linesP, if_pos rfl, splitC, if_pos rfl, ih]
      have hne := splitC_ne 10 r
      cases hq : splitC 10 r with
      | nil => exact absurd hq hne
      | cons h t =>
        rw [List.getLast?_cons_cons, List.dropLast_cons_cons]
        split <;> rfl
    · rw [linesP_ne hb, splitC, if_neg hb]
      have hne := splitC_ne 10 r
      cases hq : splitC 10 r with
      | nil => exact absurd hq hne
      | cons h t =>
        rw [hq] at ih
        simp only
        cases t with
        | nil =>
          by_cases hh : h = []
          · subst hh
            rw [ih]; simp
          · rw [ih]; simp [hh]
        | cons x y =>
          rw [ih, List.getLast?_cons_cons, List.getLast?_cons_cons, List.dropLast_cons_cons, List.dropLast_cons_cons]
          by_cases hl : (x :: y).getLast? = some []
          · simp only [if_pos hl]
          · simp only [if_neg hl]

theorem add_zero_at' (g j : Nat) : (⟨g, 0, none⟩ : Addr).add j = ⟨g, j, none⟩ := by unfold Addr.add; split <;> simp_all

theorem own_strs {w : World} {base : Nat} {v : Value} {ws : List ByteArray} (h : w.ownsRow base 9 1 v ws.length (ws.map Value.string)) : ∃ a cap, v = .slice a ws.length cap ∧ (ws ≠ [] → ∃ g, a = some ⟨g, 0, none⟩) ∧ ∀ (M : Nat), Strs w a (ws.take M) := by
  obtain ⟨a, cap, rfl⟩ := own_form h
  refine ⟨a, cap, rfl, ?_, fun M j hj => ?_⟩
  · intro hne
    rcases h.2 with ⟨q, q2⟩ | ⟨g, cap', cur, q, _⟩
    · exact absurd (List.eq_nil_of_length_eq_zero q2) hne
    · cases q; exact ⟨g, rfl⟩
  · have hj' : j < ws.length := by simp at hj; omega
    rcases h.2 with ⟨q, q2⟩ | ⟨g, cap', cur, q, hb, hg, _⟩
    · omega
    · cases q
      have hc := h.cells rfl j (.string ws[j]) (by simp [hj'])
      refine ⟨⟨g, 0, none⟩, rfl, fun W hW => ?_⟩
      have hlt : ((⟨g, 0, none⟩ : Addr).add j).block < w.heap.size := World.block_lt_of_cell? w _ hc
      rw [hW.cell hlt, hc, List.getElem_take]

theorem own_cap {w : World} {base e size : Nat} {a : Option Addr} {n cap : Nat} {xs : List Value} (h : w.ownsRow base e size (.slice a n cap) n xs) : n ≤ cap := by
  rcases h.2 with ⟨q, r⟩ | ⟨g, cap', cur, q, _, _, hn, _⟩
  · omega
  · cases q; exact hn

/-- How the lines come. -/
def LinesOut (s : List UInt8) (B : Nat) (e : Ending) (w' : World) : Prop := ∃ (a : Option Addr) (cap : Nat) (ws : List ByteArray), e = .returned (.slice a ws.length cap) ∧ Strs w' a ws ∧ ws.map (·.toList) = linesP s ∧ (∀ p ∈ ws, p.size ≤ B) ∧ ws.length ≤ B + 1

set_option maxRecDepth 100000 in
set_option maxHeartbeats 4000000 in
theorem lines_any (s : ByteArray) (hs : s.size ≤ 1000000) (w : World) : Calls Tryd.prog 35 #[.string s] w fun e w' => LinesOut s.toList s.size e w' ∧ Below w.heap.size w w' := by
  go_enter Tryd.func35, Tryd.ntmps35
  go_wp2_with fail
  refine (pieces_any s hs 10 _ (by rfl) w).mono ?_
  rintro e w1 ⟨v, ws, rfl, HO, HM, HZ, hl, hb1⟩
  obtain ⟨a, cap, rfl, ha, hstr⟩ := own_strs HO.out
  have HB := Lib.hid hb1
  have HSTR := Lib.hid hstr
  clear hb1 hstr
  obtain ⟨M, hM⟩ : ∃ M, ws.length = M + 1 := ⟨ws.length - 1, by
    have h1 := splitC_ne 10 s.toList
    rw [← HM.out] at h1
    have : ws.length ≠ 0 := fun e => h1 (by rw [List.eq_nil_of_length_eq_zero e]; rfl)
    omega⟩
  have hMlt : M < ws.length := by omega
  obtain ⟨g, rfl⟩ := ha (fun e => by rw [e] at hM; simp at hM)
  obtain ⟨ad, had, hcell⟩ := HSTR.out ws.length M (by rw [List.take_length]; exact hMlt)
  cases had
  have hc := hcell w1 (Below.refl _ _)
  rw [List.getElem_take, add_zero_at'] at hc
  obtain ⟨z, hz⟩ : ∃ z, ws[M] = z := ⟨_, rfl⟩
  rw [hz] at hc
  have HLAST := Lib.hid (show (splitC 10 s.toList).getLast? = some z.toList by
    rw [← HM.out, List.getLast?_map, List.getLast?_eq_getElem?, show ws.length - 1 = M by omega, List.getElem?_eq_getElem hMlt, hz]; rfl)
  obtain ⟨N, hN⟩ : ∃ N, ws.length = N := ⟨_, rfl⟩
  have HLEN := Lib.hid hN
  have HNM := Lib.hid (show N = M + 1 by omega)
  have q1 : IntKind.i64.wrap ((N : Int) - 1) = (M : Int) := (IntWalk.i64_in _ (by omega)).trans (by omega)
  have q2 : (M : Int) < (N : Int) := by omega
  have q3 : (0 : Int) ≤ (M : Int) := by omega
  have q4 : (M : Int) ≤ (N : Int) := by omega
  have hNl : N ≤ s.size + 1 := by omega
  have q7 : (M : Int) ≤ (cap : Int) := by have := own_cap HO.out; omega
  rw [hN]
  clear hcell hz hM hMlt hN hl
  by_cases hz0 : z.toList = []
  · have q5 : (z.toList == []) = true := by simpa using hz0
    have q6 : z.toList.isEmpty = true := by simpa using hz0
    have HP := Lib.hid (show (ws.take M).map (·.toList) = linesP s.toList by
      rw [linesP_split, if_pos (by rw [HLAST.out, hz0]), ← HM.out, List.dropLast_eq_take, List.length_map, List.map_take, HLEN.out, HNM.out]; rfl)
    have HTL := Lib.hid (show (ws.take M).length = M by rw [List.length_take, HLEN.out, HNM.out]; omega)
    clear hz0
    go_wp2_with fail
    go_ret
    refine ⟨⟨some ⟨g, 0, none⟩, cap, ws.take M, ?_, HSTR.out M, HP.out, fun p hp => HZ.out p (List.mem_of_mem_take hp), by rw [HTL.out]; have := HNM.out; omega⟩, HB.out⟩
    rw [HTL.out]; rfl
  · have q5 : (z.toList == []) = false := by simpa using hz0
    have q6 : z.toList.isEmpty = false := by simpa using hz0
    have HP := Lib.hid (show ws.map (·.toList) = linesP s.toList by
      rw [linesP_split, if_neg (by rw [HLAST.out]; simpa using hz0), ← HM.out])
    clear hz0
    go_wp2_with fail
    go_ret
    have hst := HSTR.out ws.length
    rw [List.take_length] at hst
    refine ⟨⟨some ⟨g, 0, none⟩, cap, ws, ?_, hst, HP.out, HZ.out, by rw [HLEN.out]; omega⟩, HB.out⟩
    rw [HLEN.out]; rfl

end Go.Proofs.YtohgkfnbjfhniaaDoor
