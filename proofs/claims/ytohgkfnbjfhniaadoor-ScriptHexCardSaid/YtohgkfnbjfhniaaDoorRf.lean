/-
  Chapter 25's own answer, walked: digits, pieces of a text, lines.
-/
import Derived.Test.YtohgkfnbjfhniaaDoorSw
import Derived.Test.YtohgkfnbjfhniaaDoorFr
import Derived.Deep.RegionHeld3
import Derived.Deep.RegionLaw
import Derived.BigRegion
namespace Go.Proofs.YtohgkfnbjfhniaaDoor
open Go.RowKit Sp

abbrev hexB : ByteArray := ⟨#[48, 49, 50, 51, 52, 53, 54, 55, 56, 57, 97, 98, 99, 100, 101, 102]⟩

theorem hexv_tab : ∀ n < 256, ∀ k < 16, ((digitsH.getD k 0 == UInt8.ofNat n) = decide (hexv (UInt8.ofNat n) = (k : Int))) := by decide +kernel

theorem hexv_at (c : UInt8) (k : Nat) (hk : k < 16) : digitsH.getD k 0 = c ↔ hexv c = (k : Int) := by
  have h := hexv_tab c.toNat c.toNat_lt k hk
  rw [UInt8.ofNat_toNat] at h
  constructor
  · intro e
    rw [e] at h; simpa using h
  · intro e
    rw [e] at h; simpa using h

theorem hexB_at : ∀ z : Nat, (hz : z < 16) → hexB[z]'(by simp [ByteArray.size]; omega) = digitsH.getD z 0 := by decide

set_option maxRecDepth 100000 in
theorem digit_any (c : UInt8) (n : Int) (hn : n = (c.toNat : Int)) (w : World) : Calls Tryd.prog 29 #[.int .u8 n] w fun e w' => e = .returned (.int .i64 (hexv c)) ∧ w' = w := by
  subst hn
  go_enter Tryd.func29, Tryd.ntmps29
  go_wp2_with fail
  go_loop [3] (fun i => ∃ k : Nat, k ≤ 16 ∧ i = .int .i64 k ∧ Hid (∀ j < k, hexv c ≠ (j : Int))) (fun i => 16 - (intOf i).toNat)
  case atStart => exact ⟨0, by omega, rfl, Lib.hid (by intro j hj; omega)⟩
  case round =>
    obtain ⟨k, hk, rfl, HN⟩ := hrel
    by_cases hlt : k < 16
    · have q1 : (k : Int) < 16 := by omega
      have q2 : (0 : Int) ≤ (k : Int) := by omega
      obtain ⟨d, hd⟩ : ∃ d, digitsH.getD k 0 = d := ⟨_, rfl⟩
      have hb := hexB_at k hlt
      rw [hd] at hb
      by_cases hc : d = c
      · have q3 : ((d.toNat : Int) == (c.toNat : Int)) = true := by simp [hc]
        have HX := Lib.hid ((hexv_at c k hlt).1 (by rw [hd, hc]))
        clear hc hd
        go_wp2_with fail
        go_ret
        exact ⟨by rw [HX.out]; rfl, rfl⟩
      · have q3 : ((d.toNat : Int) == (c.toNat : Int)) = false := by
          simp; intro h; exact hc (UInt8.toNat_inj.1 (by omega))
        have HX := Lib.hid (show ∀ j < k + 1, hexv c ≠ (j : Int) by
          intro j hj e
          by_cases ej : j = k
          · subst ej
            exact hc (by rw [← hd]; exact (hexv_at c j hlt).2 e)
          · exact HN.out j (by omega) e)
        clear hc hd
        go_wp2_with fail
        go_round
        case rel => exact ⟨k + 1, by omega, by go_num, HX⟩
        case measure => simp [intOf]; omega
    · obtain rfl : k = 16 := by omega
      have HX := Lib.hid (show hexv c = -1 by
        have h1 := hexv_ge c
        have h2 := hexv_lt c
        by_cases e : hexv c = -1
        · exact e
        · exact absurd (show hexv c = ((hexv c).toNat : Int) by omega) (HN.out _ (by omega)))
      go_wp2_with fail
      go_ret
      exact ⟨by rw [HX.out]; rfl, rfl⟩

theorem info9 : (Tryd.prog.info? 9).map (fun i => (i.zero, i.size, i.bytes)) = some (some (.string ⟨#[]⟩), 1, 16) := by kernel_rfl

/-- What is left of a text's pieces: the piece that began at a, seen up to i. -/
def restP (c : UInt8) (l : List UInt8) (a i : Nat) : List (List UInt8) := ((l.take i).drop a ++ (splitC c (l.drop i)).headD []) :: (splitC c (l.drop i)).tail

theorem headD_tail {α : Type} {l : List α} {d : α} (h : l ≠ []) : l.headD d :: l.tail = l := by cases l with | nil => exact absurd rfl h | cons a r => rfl

theorem restP_zero (c : UInt8) (l : List UInt8) : restP c l 0 0 = splitC c l := by
  unfold restP; simp only [List.take_zero, List.drop_zero, List.nil_append]; exact headD_tail (splitC_ne c l)

theorem restP_miss {c : UInt8} {l : List UInt8} {a i : Nat} (hi : i < l.length) (ha : a ≤ i) (h : l[i] ≠ c) : restP c l a i = restP c l a (i + 1) := by
  unfold restP
  rw [List.drop_eq_getElem_cons hi, splitC, if_neg h, List.take_succ_eq_append_getElem hi, List.drop_append_of_le_length (by simp; omega)]
  have hne := splitC_ne c (l.drop (i + 1))
  cases hq : splitC c (l.drop (i + 1)) with
  | nil => exact absurd hq hne
  | cons x y => simp

theorem restP_hit {c : UInt8} {l : List UInt8} {a i : Nat} (hi : i < l.length) (h : l[i] = c) : restP c l a i = (l.take i).drop a :: restP c l (i + 1) (i + 1) := by
  unfold restP
  rw [List.drop_eq_getElem_cons hi, splitC, if_pos h]
  have hne := splitC_ne c (l.drop (i + 1))
  have : (l.take (i + 1)).drop (i + 1) = [] := List.drop_of_length_le (by simp; omega)
  rw [this]
  simp only [List.headD_cons, List.append_nil, List.tail_cons, List.nil_append]
  rw [headD_tail hne]

theorem restP_end {c : UInt8} {l : List UInt8} {a : Nat} : restP c l a l.length = [(l.take l.length).drop a] := by
  unfold restP
  rw [List.drop_length]; simp [splitC]

theorem piece_toList (s : ByteArray) (a b : Nat) : (s.extract a b).toList = (s.toList.take b).drop a := by
  rw [Lib.toList_data, Lib.toList_data]
  simp [ByteArray.data_extract, List.drop_take]

theorem oneStr (s : ByteArray) : ∀ u ∈ [Value.string s], u.oneCell' = true := by intro u hu; simp at hu; subst hu; rfl

theorem size_toList' (s : ByteArray) : s.toList.length = s.size := by rw [Lib.toList_data, ← Lib.size_eq]

set_option maxRecDepth 100000 in
set_option maxHeartbeats 4000000 in
theorem pieces_any (s : ByteArray) (hs : s.size ≤ 1000000) (c : UInt8) (n : Int) (hn : n = (c.toNat : Int)) (w : World) : Calls Tryd.prog 49 #[.string s, .int .u8 n] w fun e w' => ∃ (v : Value) (ws : List ByteArray),
    e = .returned v ∧ Hid (w'.ownsRow w.heap.size 9 1 v ws.length (ws.map Value.string)) ∧ Hid (ws.map (·.toList) = splitC c s.toList) ∧ Hid (∀ p ∈ ws, p.size ≤ s.size) ∧ ws.length ≤ s.size + 1 ∧ Below w.heap.size w w' := by
  subst hn
  obtain ⟨i0, hi, hz0, hz1, hz2⟩ := info_parts info9
  go_enter Tryd.func49, Tryd.ntmps49
  go_wp2_with fail
  go_loopw [5, 6, 7] (fun o a i wr => ∃ (x y : Nat) (ps : List ByteArray), a = .int .i64 x ∧ i = .int .i64 y ∧ x ≤ y ∧ y ≤ s.size + 1 ∧ ps.length ≤ y ∧ Hid (wr.ownsRow w.heap.size 9 1 o ps.length (ps.map Value.string)) ∧ Hid (Below w.heap.size w wr) ∧
      Hid (∀ p ∈ ps, p.size ≤ s.size) ∧ Hid (if y ≤ s.size then splitC c s.toList = ps.map (·.toList) ++ restP c s.toList x y else splitC c s.toList = ps.map (·.toList))) (fun _ _ i _ => s.size + 1 - (intOf i).toNat)
  case atStart => exact ⟨0, 0, [], rfl, rfl, by omega, by omega, by simp, Lib.hid (World.ownsRow_nil _ _ _ _), Lib.hid (Below.refl _ _), Lib.hid (by simp), Lib.hid (by rw [if_pos (by omega), restP_zero]; rfl)⟩
  case round =>
    obtain ⟨x, y, ps, rfl, rfl, hxy, hy, hpl, HW, HB, HP, HS⟩ := hrel
    by_cases hle : y ≤ s.size
    · have HS := Lib.hid (show splitC c s.toList = ps.map (·.toList) ++ restP c s.toList x y by have h := HS.out; rwa [if_pos hle] at h)
      have q1 : (y : Int) ≤ (s.size : Int) := by omega
      have q2 : (0 : Int) ≤ (y : Int) := by omega
      have q3 : (0 : Int) ≤ (x : Int) := by omega
      have q4 : (x : Int) ≤ (y : Int) := by omega
      have q5 : IntKind.i64.wrap ((y : Int) + 1) = (y : Int) + 1 := IntWalk.i64_in _ (by omega)
      by_cases hcut : y = s.size ∨ ∃ h : y < s.size, s[y] = c
      · -- a piece ends here
        have HNX := Lib.hid (show (if y + 1 ≤ s.size then splitC c s.toList = (ps ++ [s.extract x y]).map (·.toList) ++ restP c s.toList (y + 1) (y + 1) else splitC c s.toList = (ps ++ [s.extract x y]).map (·.toList)) by
          rw [List.map_append, List.map_cons, List.map_nil, piece_toList]
          by_cases hlt : y < s.size
          · obtain ⟨h', hg⟩ := get_toList hlt
            rw [if_pos (by omega), HS.out, restP_hit h' (by rw [hg]; rcases hcut with e | ⟨_, e⟩; omega; exact e)]
            simp
          · rw [if_neg (by omega), HS.out]
            have hy2 : y = s.toList.length := by rw [size_toList']; omega
            rw [hy2, restP_end])
        have HP2 := Lib.hid (show ∀ p ∈ ps ++ [s.extract x y], p.size ≤ s.size by
          intro p hp
          rcases List.mem_append.1 hp with h | h
          · exact HP.out p h
          · simp at h; subst h; rw [ByteArray.size_extract]; omega)
        have hd : ((y : Int) == (s.size : Int)) = true ∨ (((y : Int) == (s.size : Int)) = false ∧ ∃ h : y < s.size, s[y] = c) := by
          by_cases e : y = s.size
          · exact .inl (by simp [e])
          · exact .inr ⟨by simp; omega, by rcases hcut with e' | e'; exact absurd e' e; exact e'⟩
        clear hcut
        rcases hd with d1 | ⟨d1, hlt, d2⟩
        all_goals
          try (have d3 : (y : Int) < (s.size : Int) := by omega)
          try (have d4 : ((c.toNat : Int) == (c.toNat : Int)) = true := by simp)
          go_wp2_with (at_builtin; refine wpList_append_own_at _ rfl (.tmp 25) (.tmp 30) 76 rfl w.heap.size 9 i0 (.string ⟨#[]⟩) 1 16 Tryd.underlying76 hi hz0 hz1 hz2 rfl (by decide) u5 _ _ rfl (World.ownsRow.alloc HW.out _) _ 1 1 [.string (s.extract x y)] rfl rfl (cell_one_new _ _ _) (oneStr _) (by unfold maxLen; omega) (by omega) (by have := HB.out.size; simp; omega) ?_; intro v1 w1 hown1 hgrow1 _ hloc1
                       have O1 := Lib.hid (show w1.ownsRow w.heap.size 9 1 v1 (ps ++ [s.extract x y]).length ((ps ++ [s.extract x y]).map Value.string) by rw [List.length_append, List.map_append]; exact hown1)
                       have B1 := Lib.hid ((HB.out.alloc HB.out.size _).grown hgrow1 (by have := HB.out.size; simp; omega) (fun k e => (HW.out.lt k e).1))
                       clear hown1 hgrow1 hloc1)
          go_roundw
          case rel => exact ⟨y + 1, y + 1, ps ++ [s.extract x y], by go_num, by go_num, by omega, by omega, by simp; omega, O1, B1, HP2, HNX⟩
          case measure => simp [intOf]; omega
      · have hlt : y < s.size := by
          rcases Nat.lt_or_ge y s.size with h | h
          · exact h
          · exact absurd (.inl (by omega)) hcut
        have hne : s[y] ≠ c := fun e => hcut (.inr ⟨hlt, e⟩)
        have HNX := Lib.hid (show (if y + 1 ≤ s.size then splitC c s.toList = ps.map (·.toList) ++ restP c s.toList x (y + 1) else splitC c s.toList = ps.map (·.toList)) by
          obtain ⟨h', hg⟩ := get_toList hlt
          rw [if_pos (by omega), HS.out, restP_miss h' hxy (by rw [hg]; exact hne)])
        have d1 : ((y : Int) == (s.size : Int)) = false := by simp; omega
        have d3 : (y : Int) < (s.size : Int) := by omega
        obtain ⟨p, hp⟩ : ∃ p, s[y] = p := ⟨_, rfl⟩
        have d4 : ((p.toNat : Int) == (c.toNat : Int)) = false := by
          simp; intro h; exact hne (by rw [hp]; exact UInt8.toNat_inj.1 (by omega))
        clear hcut hne
        go_wp2_with fail
        go_roundw
        case rel => exact ⟨x, y + 1, ps, rfl, by go_num, by omega, by omega, by omega, HW, HB, HP, HNX⟩
        case measure => simp [intOf]; omega
    · have HS := Lib.hid (show splitC c s.toList = ps.map (·.toList) by have h := HS.out; rwa [if_neg hle] at h)
      have q1 : ¬ (y : Int) ≤ (s.size : Int) := by omega
      go_wp2_with fail
      go_ret
      exact ⟨_, rfl, ps, HW, Lib.hid HS.out.symm, HP, by omega, HB.out⟩

theorem digit_to (b : UInt8) (x n : Int) (hx : hexv b = x) (hn : n = (b.toNat : Int)) (w : World) : Calls Tryd.prog 29 #[.int .u8 n] w fun e w' => e = .returned (.int .i64 x) ∧ w' = w := by
  subst hx; exact digit_any b n hn w

set_option maxRecDepth 100000 in
set_option maxHeartbeats 1000000 in
theorem refBytes_any (s : ByteArray) (w : World) (hs : s.size ≤ 140737488355000) :
    Calls Tryd.prog 13 #[.string s] w fun e w' => ∃ r : ByteArray, e = .returned (.tuple #[.string r, .bool (bytesP s.toList).isSome]) ∧ r.toList = (bytesP s.toList).getD [] ∧ Below w.heap.size w w' := by
  obtain ⟨i0, hi, hz0, hz1, hz2⟩ := info_parts info5
  have hsz : s.toList.length = s.size := by rw [Lib.toList_data, ← Lib.size_eq]
  by_cases h1 : s.toList = [45]
  · have q1 : (s.toList == [45]) = true := by simpa using h1
    have HB := Lib.hid (show bytesP s.toList = some [] by simp [bytesP, h1])
    clear h1 hsz
    go_enter Tryd.func13, Tryd.ntmps13
    go_wp2
    go_ret2
    exact ⟨⟨#[]⟩, by rw [HB.out]; rfl, by rw [HB.out]; simp [Lib.toList_data], Below.refl _ _⟩
  · have q1 : (s.toList == [45]) = false := by simpa using h1
    by_cases h2 : s.toList = []
    · have q2 : (s.toList == []) = true := by simpa using h2
      have q3 : s.toList.isEmpty = true := by simpa using h2
      have HB := Lib.hid (show bytesP s.toList = none by simp [bytesP, h2])
      clear h1 hsz h2
      go_enter Tryd.func13, Tryd.ntmps13
      go_wp2
      go_ret2
      exact ⟨⟨#[]⟩, by rw [HB.out]; rfl, by rw [HB.out]; simp [Lib.toList_data], Below.refl _ _⟩
    · have q2 : (s.toList == []) = false := by simpa using h2
      have q3 : s.toList.isEmpty = false := by simpa using h2
      by_cases h3 : s.size % 2 = 0
      · have q4 : ((s.size : Int) % 2 != 0) = false := by simp; omega
        have HB := Lib.hid (show bytesP s.toList = pairsP s.toList by unfold bytesP; rw [if_neg h1, if_neg (by rw [hsz]; simp [h2, h3])])
        have HSZ := Lib.hid hsz
        have H3 := Lib.hid h3
        clear h1 hsz h2 h3
        go_enter Tryd.func13, Tryd.ntmps13
        go_wp2
        go_loopw [4, 5] (fun o i wr => ∃ (k : Nat) (out : List UInt8), k ≤ s.size ∧ i = .int .i64 k ∧ Hid (k % 2 = 0 ∧ pairsP (s.toList.take k) = some out) ∧ wr.ownsRow w.heap.size 5 1 o out.length (cs8 out) ∧ Below w.heap.size w wr) (fun _ i _ => s.size - (intOf i).toNat)
        case atStart => exact ⟨0, [], by omega, rfl, Lib.hid ⟨rfl, rfl⟩, World.ownsRow_nil _ _ _ _, Below.refl _ _⟩
        case round =>
          obtain ⟨k, out, hk, rfl, HO, hown, hbel⟩ := hrel
          by_cases hlt : k < s.size
          · have hlt2 : k + 1 < s.size := by have := H3.out; have := HO.out.1; omega
            have HP := Lib.hid (pair_of hlt2)
            obtain ⟨p, hp⟩ : ∃ p, s[k] = p := ⟨_, rfl⟩
            obtain ⟨q, hq⟩ : ∃ q, s[k + 1] = q := ⟨_, rfl⟩
            have HP0 := Lib.hid hp
            have HQ0 := Lib.hid hq
            clear hp hq
            have HP := Lib.hid (show s.toList.take (k + 2) = s.toList.take k ++ [p, q] ∧ s.toList = s.toList.take k ++ p :: q :: s.toList.drop (k + 2) by rw [← HP0.out, ← HQ0.out]; exact HP.out)
            obtain ⟨x, hx⟩ : ∃ x, hexv p = x := ⟨_, rfl⟩
            obtain ⟨y, hy⟩ : ∃ y, hexv q = y := ⟨_, rfl⟩
            have hx1 := hexv_ge p
            have hx2 := hexv_lt p
            have hy1 := hexv_ge q
            have hy2 := hexv_lt q
            rw [hx] at hx1 hx2
            rw [hy] at hy1 hy2
            have HX := Lib.hid hx
            have HY := Lib.hid hy
            clear hx hy
            have q5 : (k : Int) < (s.size : Int) := by omega
            have q6 : (0 : Int) ≤ (k : Int) := by omega
            have q7 : IntKind.i64.wrap ((k : Int) + 1) = (k : Int) + 1 := IntWalk.i64_in _ (by omega)
            have q8 : (k : Int) + 1 < (s.size : Int) := by omega
            have q9 : (0 : Int) ≤ (k : Int) + 1 := by omega
            have q10 : ((k : Int) + 1).toNat = k + 1 := by omega
            go_wp2_with fail
            go_quiet ((go_at_call 29; (first | (refine Calls.quiet_of_same (digit_to p x _ HX.out ?_ _); rw [HP0.out]) | (refine Calls.quiet_of_same (digit_to q y _ HY.out ?_ _); rw [HQ0.out]))))
            try clear q7
            try clear q10
            by_cases hbad : x < 0 ∨ y < 0
            · have HN := Lib.hid (show pairsP s.toList = none by
                have h1 := HP.out.2
                rw [h1]
                exact pairsP_bad (by rw [List.length_take, HSZ.out]; have := HO.out.1; omega) HO.out.2 (by rw [HX.out, HY.out]; exact hbad))
              by_cases hx0 : x < 0
              all_goals
                first | (have hy0 : y < 0 := by omega) | skip
                clear hbad
                go_wp2_with fail
                go_ret2
                exact ⟨⟨#[]⟩, by rw [HB.out, HN.out]; rfl, by rw [HB.out, HN.out]; simp [Lib.toList_data], hbel.trans (below_drewN (Below.refl _ _) _)⟩
            · have hx0 : 0 ≤ x := by omega
              have hy0 : 0 ≤ y := by omega
              have HGD := Lib.hid (show pairsP (s.toList.take (k + 2)) = some (out ++ [(16 * x + y).toNat.toUInt8]) by
                rw [HP.out.1]
                have := pairsP_snoc (a := p) (b := q) (by rw [List.length_take, HSZ.out]; have := HO.out.1; omega) HO.out.2 (by rw [HX.out, HY.out]; exact hbad)
                rw [HX.out, HY.out] at this; exact this)
              have hol : out.length ≤ k := by
                have := pairsP_length HO.out.2
                rw [List.length_take, HSZ.out] at this; omega
              clear hbad
              have hown2 : (wr.drewN nq).ownsRow w.heap.size 5 1 u4 out.length (cs8 out) := hown
              go_wp2_with (at_builtin; refine wpList_append_own_at _ rfl (.tmp 39) (.tmp 45) 36 rfl w.heap.size 5 i0 (.int .u8 0) 1 1 Tryd.underlying36 hi hz0 hz1 hz2 rfl (by decide) u4 _ _ rfl (World.ownsRow.alloc hown2 _) _ 1 1 [.int .u8 (16 * x + y)] rfl rfl (cell_one_new _ _ _) (ints_oneCell .u8 [16 * x + y]) (by unfold maxLen; omega) (by omega) (by have := hbel.size; simp; omega) ?_; intro v1 w1 hown1 hgrow1 _ hloc1)
              have hxy : ((16 * x + y).toNat.toUInt8.toNat : Int) = 16 * x + y := by
                have e : (16 * x + y).toNat < 256 := by omega
                rw [show (16 * x + y).toNat.toUInt8.toNat = (16 * x + y).toNat % 256 from rfl]; omega
              have how : w1.ownsRow w.heap.size 5 1 v1 (out ++ [(16 * x + y).toNat.toUInt8]).length (cs8 (out ++ [(16 * x + y).toNat.toUInt8])) := by
                have e : cs8 [(16 * x + y).toNat.toUInt8] = [.int .u8 (16 * x + y)] := by unfold cs8; rw [List.map_cons, hxy]; rfl
                rw [cs8_append, e, List.length_append]
                exact hown1
              go_roundw
              case rel => exact ⟨k + 2, _, by omega, by go_num, Lib.hid ⟨by have := HO.out.1; omega, HGD.out⟩, how, ((below_drewN hbel _).alloc (by have := hbel.size; simp; omega) _).grown hgrow1 (by have := hbel.size; simp; omega) (fun k e => (hown.lt k e).1)⟩
              case measure => simp [intOf]; omega
          · have hke : k = s.size := by omega
            have HE := Lib.hid (show pairsP s.toList = some out by
              have := HO.out.2
              rw [List.take_of_length_le (by rw [HSZ.out]; omega)] at this; exact this)
            have hcv := conv_own hown
            go_wp2
            go_ret2
            exact ⟨_, by rw [HB.out, HE.out]; rfl, by rw [HB.out, HE.out]; simp [Lib.toList_data], hbel⟩
      · have q4 : ((s.size : Int) % 2 != 0) = true := by simp; omega
        have HB := Lib.hid (show bytesP s.toList = none by unfold bytesP; rw [if_neg h1, if_pos (by rw [hsz]; simp [h3])])
        clear h1 hsz h2 h3
        go_enter Tryd.func13, Tryd.ntmps13
        go_wp2
        go_ret2
        exact ⟨⟨#[]⟩, by rw [HB.out]; rfl, by rw [HB.out]; simp [Lib.toList_data], Below.refl _ _⟩

end Go.Proofs.YtohgkfnbjfhniaaDoor
