/-
  What every program answers that is one: an atom shown, two texts read.
-/
import Derived.Test.YtohgkfnbjfhniaaDoorPa
namespace Go.Proofs.YtohgkfnbjfhniaaDoor
open Go.RowKit Sp

/-- An atom, as it is handed on. -/
abbrev atomV (n : Int) : Value := .agg #[.int .i64 4, .int .i64 n, .bool false, .slice none 0 0, .int .u64 0, .string ⟨#[]⟩, .slice none 0 0]

set_option maxHeartbeats 2000000 in
theorem atom_any (n : Int) (w : World) : Calls Tryd.prog 27 #[.int .i64 n] w fun e w' => e = .returned (atomV n) ∧ Below w.heap.size w w' := by
  go_enter Tryd.func27, Tryd.ntmps27
  go_wp2_with fail
  refine bodyPost_ret (v := atomV n) (by simp [results, Tryd.results27, go_sem]) rfl ⟨rfl, ?_⟩
  exact (Below.refl _ _).alloc (Nat.le_refl _) _

set_option maxHeartbeats 2000000 in
theorem bare_atom (n : Int) (w : World) : Calls Tryd.prog 73 #[atomV n] w fun e w' => e = .returned (.bool true) ∧ Below w.heap.size w w' := by
  go_enter Tryd.func73, Tryd.ntmps73
  go_wp2_with fail
  go_ret
  exact ⟨rfl, (Below.refl _ _).alloc (Nat.le_refl _) _⟩

theorem index_none (f : Value) (w : World) : Calls Tryd.prog 90 #[.slice none 0 0, f] w fun e w' => e = .returned (.int .i64 (-1)) ∧ w' = w := by
  go_enter Tryd.func90, Tryd.ntmps90
  go_wp2_with fail
  go_loop [8] (fun i => i = .int .i64 0) (fun _ => 0)
  case atStart => rfl
  case round =>
    obtain rfl := hrel
    go_wp2_with fail
    go_ret
    exact ⟨rfl, rfl⟩

theorem contains_none (f : Value) (w : World) : Calls Tryd.prog 74 #[.slice none 0 0, f] w fun e w' => e = .returned (.bool false) ∧ w' = w := by
  go_enter Tryd.func74, Tryd.ntmps74
  go_wp2_with fail
  refine (index_none _ _).mono ?_
  rintro e w' ⟨rfl, rfl⟩
  go_wp2_with fail
  go_ret
  exact ⟨rfl, rfl⟩

set_option maxHeartbeats 2000000 in
theorem right_atom (n : Int) (h0 : 0 ≤ n) (h1 : n ≤ 255) (w : World) : Calls Tryd.prog 57 #[atomV n] w fun e w' => e = .returned (.bool true) ∧ Below w.heap.size w w' := by
  go_enter Tryd.func57, Tryd.ntmps57
  go_wp2_with fail
  refine (bare_atom _ _).mono ?_
  rintro e w1 ⟨rfl, hb1⟩
  have c5 := hb1.cell (p := ⟨w.heap.size, 6, none⟩) (by simp)
  simp [go_sem] at c5
  go_wp2_with fail
  refine (contains_none _ _).mono ?_
  rintro e w2 ⟨rfl, rfl⟩
  go_wp2_with fail
  go_ret
  exact ⟨rfl, ((Below.refl _ _).alloc (Nat.le_refl _) _).trans (hb1.mono (by simp))⟩

set_option maxHeartbeats 2000000 in
theorem add_atom (n : Int) (k : Nat) (w : World) (hk : k < w.heap.size) (hc : w.cell? ⟨k, 0, none⟩ = some (.int .i64 0)) (hf : w.frozen? ⟨k, 0, none⟩ = false) :
    Calls Tryd.prog 69 #[.pointer (some ⟨k, 0, none⟩), atomV n] w fun e w' => e = .returned (.tuple #[]) ∧ w'.cell? ⟨k, 0, none⟩ = some (.int .i64 1) ∧ Fr (fun i => i = k) w w' := by
  go_enter Tryd.func69, Tryd.ntmps69
  go_wp2_with fail
  go_end0
  refine ⟨rfl, ?_, ?_⟩
  · simp [go_sem, hk, hc]
  · exact Fr.alloc (Fr.setCell (p := ⟨k, 0, none⟩) (Fr.refl (fun i => i = k) w) rfl _) _

set_option maxHeartbeats 2000000 in
theorem weight_atom (n : Int) (w : World) : Calls Tryd.prog 56 #[atomV n] w fun e w' => e = .returned (.int .i64 1) ∧ Below w.heap.size w w' := by
  go_enter Tryd.func56, Tryd.ntmps56
  go_wp2_with fail
  refine (add_atom n _ _ (by simp) (by simp [go_sem]) (by simp [go_sem])).mono ?_
  rintro e w1 ⟨rfl, c0, f⟩
  have f0 := f.frozen (p := ⟨w.heap.size + 1, 0, none⟩) (by simp)
  go_wp2_with fail
  go_ret
  exact ⟨rfl, Fr.below (((Below.refl _ _).alloc (Nat.le_refl _) _).alloc (by simp) _) f (by intro i q; omega) (by simp; omega)⟩

set_option maxHeartbeats 2000000 in
theorem may_atom (n : Int) (h0 : 0 ≤ n) (h1 : n ≤ 255) (w : World) : Calls Tryd.prog 42 #[atomV n] w fun e w' => e = .returned (.bool true) ∧ Below w.heap.size w w' := by
  go_enter Tryd.func42, Tryd.ntmps42
  go_wp2_with fail
  refine (weight_atom n _).mono ?_
  rintro e w1 ⟨rfl, hb1⟩
  have c : ∀ i, w1.cell? ⟨w.heap.size, i, none⟩ = (w.alloc (.cells #[.int .i64 4, .int .i64 n, .bool false, .slice none 0 0, .int .u64 0, .string ⟨#[]⟩, .slice none 0 0] 28)).cell? ⟨w.heap.size, i, none⟩ := fun i => hb1.cell (p := ⟨w.heap.size, i, none⟩) (by simp)
  have d0 := c 0
  have d1 := c 1
  have d2 := c 2
  have d3 := c 3
  have d4 := c 4
  have d5 := c 5
  have d6 := c 6
  clear c
  simp [go_sem] at d0 d1 d2 d3 d4 d5 d6
  go_wp2_with fail
  refine (right_atom n h0 h1 _).mono ?_
  rintro e w2 ⟨rfl, hb2⟩
  go_wp2_with fail
  go_ret
  exact ⟨rfl, ((Below.refl _ _).alloc (Nat.le_refl _) _).trans ((hb1.mono (by simp)).trans (hb2.mono (by have := hb1.size; simp at this; omega)))⟩

theorem cell_one_at (w : World) (H : Nat) (hH : w.heap.size = H) (a : Value) (t : TypeId) : ∀ j u, [a][j]? = some u → (w.alloc (.cells #[a] t)).cell? ((⟨H, 0, none⟩ : Addr).add j) = some u := by
  subst hH; exact cell_one_new w a t

set_option maxRecDepth 100000 in
set_option maxHeartbeats 4000000 in
theorem lay_seven (w : World) : Calls Tryd.prog 43 #[.slice none 0 0, atomV 7] w fun e w' => ∃ v, e = .returned v ∧ w'.ownsRow w.heap.size 5 1 v 2 (cs8 [4, 7]) ∧ Below w.heap.size w w' := by
  obtain ⟨i0, hi, hz0, hz1, hz2⟩ := info_parts info5
  go_enter Tryd.func43, Tryd.ntmps43
  go_wp2_with (at_builtin; (first
    | (refine wpList_append_own_at _ rfl (.tmp 10) (.tmp 14) 36 rfl (w.heap.size + 1) 5 i0 (.int .u8 0) 1 1 Tryd.underlying36 hi hz0 hz1 hz2 rfl (by decide) (.slice none 0 0) 0 [] rfl (World.ownsRow_nil _ _ _ _) _ 1 1 [.int .u8 4] rfl rfl (cell_one_at _ _ (by first | rfl | (simp; done)) _ _) (ints_oneCell .u8 [4]) (by unfold maxLen; omega) (by omega) (by first | omega | (simp <;> omega)) ?_; intro v1 w1 hown1 hgrow1 _ hloc1
       have F1 : Fr (fun _ => False) (w.alloc (.cells #[.int .i64 4, .int .i64 7, .bool false, .slice none 0 0, .int .u64 0, .string ⟨#[]⟩, .slice none 0 0] 28)) w1 := (Fr.alloc (Fr.refl _ _) _).grown hgrow1 (fun k e _ => by cases e)
       have c0 := F1.cell (p := ⟨w.heap.size, 0, none⟩) (v := .int .i64 4) (by simp [go_sem]) (fun q => q)
       have c1 := F1.cell (p := ⟨w.heap.size, 1, none⟩) (v := .int .i64 7) (by simp [go_sem]) (fun q => q)
       have B1 := Lib.hid (Fr.below ((Below.refl w.heap.size w).alloc (Nat.le_refl _) _) F1 (fun i q => q.elim) (by simp))
       have sz1 := F1.size
       simp at sz1
       have O1 := Lib.hid hown1
       clear hown1 hgrow1 hloc1 F1)
    | (refine wpList_append_own_at _ rfl (.tmp 67) (.tmp 71) 36 rfl (w.heap.size + 1) 5 i0 (.int .u8 0) 1 1 Tryd.underlying36 hi hz0 hz1 hz2 rfl (by decide) v1 _ _ rfl (World.ownsRow.alloc O1.out _) _ 1 1 [.int .u8 7] rfl rfl (cell_one_at _ _ (by first | rfl | (simp; done)) _ _) (ints_oneCell .u8 [7]) (by unfold maxLen; omega) (by omega) (by first | omega | (simp <;> omega)) ?_; intro v2 w2 hown2 hgrow2 _ hloc2
       have B2 := Lib.hid (Fr.below B1.out ((Fr.alloc (Fr.refl (fun k => v1.ownBlock = some k) w1) _).grown hgrow2 (fun k e _ => e)) (fun i q => by have := (O1.out.lt i q).1; omega) (by omega))
       have O2 := Lib.hid hown2
       clear hown2 hgrow2 hloc2)))
  go_ret
  exact ⟨v2, rfl, own_less O2.out (Nat.le_succ _), B2.out⟩

set_option maxHeartbeats 2000000 in
theorem lays_seven (w : World) : Calls Tryd.prog 30 #[atomV 7] w fun e w' => ∃ v, e = .returned (.tuple #[v, .int .i64 0]) ∧ w'.ownsRow w.heap.size 5 1 v 2 (cs8 [4, 7]) ∧ Below w.heap.size w w' := by
  go_enter Tryd.func30, Tryd.ntmps30
  go_wp2_with fail
  refine (may_atom 7 (by omega) (by omega) _).mono ?_
  rintro e w1 ⟨rfl, hb1⟩
  have c : ∀ i, w1.cell? ⟨w.heap.size, i, none⟩ = (w.alloc (.cells #[.int .i64 4, .int .i64 7, .bool false, .slice none 0 0, .int .u64 0, .string ⟨#[]⟩, .slice none 0 0] 28)).cell? ⟨w.heap.size, i, none⟩ := fun i => hb1.cell (p := ⟨w.heap.size, i, none⟩) (by simp)
  have d0 := c 0
  have d1 := c 1
  have d2 := c 2
  have d3 := c 3
  have d4 := c 4
  have d5 := c 5
  have d6 := c 6
  clear c
  simp [go_sem] at d0 d1 d2 d3 d4 d5 d6
  go_wp2_with fail
  refine (lay_seven _).mono ?_
  rintro e w2 ⟨v, rfl, ho, hb2⟩
  have h1 := hb1.size
  simp at h1
  go_wp2_with fail
  go_ret2
  exact ⟨v, rfl, own_less ho (by omega), ((Below.refl _ _).alloc (Nat.le_refl _) _).trans ((hb1.mono (by simp)).trans (hb2.mono (by omega)))⟩

/-- A text's digits of base 16. -/
def hexP (s : List UInt8) : List UInt8 := if s = [] then [45] else s.flatMap fun b => [digitsH.getD (b.toNat / 16) 0, digitsH.getD (b.toNat % 16) 0]

theorem digit_at (i : Nat) (h : i < 16) : ∃ d : UInt8, digitsH.getD i 0 = d ∧ (⟨#[48, 49, 50, 51, 52, 53, 54, 55, 56, 57, 97, 98, 99, 100, 101, 102]⟩ : ByteArray).toList[i]? = some d := by
  rw [Lib.toList_data]
  refine ⟨_, rfl, ?_⟩
  rw [List.getD_eq_getElem?_getD]
  have : i < digitsH.length := h
  show digitsH[i]? = _
  rw [List.getElem?_eq_getElem this]; rfl

theorem cell_two_drew (w : World) (H : Nat) (hH : w.heap.size = H) (a b : Value) (t : TypeId) : ∀ j u, [a, b][j]? = some u → (w.alloc (.cells #[a, b] t)).drew.cell? ((⟨H, 0, none⟩ : Addr).add j) = some u := by
  subst hH; exact cell_two_new w a b t

theorem u8_two (a b : Int) : ∀ u ∈ [Value.int .u8 a, Value.int .u8 b], u.oneCell' = true := by
  intro u hu; simp at hu; rcases hu with rfl | rfl <;> rfl

set_option maxRecDepth 100000 in
set_option maxHeartbeats 4000000 in
theorem hex_any (s : ByteArray) (hs : s.size ≤ 1000000000) (w : World) : Calls Tryd.prog 11 #[.string s] w fun e w' => e = .returned (.string ⟨(hexP s.toList).toArray⟩) ∧ Below w.heap.size w w' := by
  obtain ⟨i0, hi, hz0, hz1, hz2⟩ := info_parts info5
  by_cases h0 : s.toList = []
  · have q1 : (s.toList == []) = true := by simpa using h0
    have q2 : s.toList.isEmpty = true := by simpa using h0
    have HE := Lib.hid h0
    clear h0
    go_enter Tryd.func11, Tryd.ntmps11
    go_wp2_with fail
    go_ret
    exact ⟨by rw [HE.out]; rfl, Below.refl _ _⟩
  · have q1 : (s.toList == []) = false := by simpa using h0
    have q2 : s.toList.isEmpty = false := by simpa using h0
    have HE := Lib.hid h0
    clear h0
    go_enter Tryd.func11, Tryd.ntmps11
    go_wp2_with fail
    go_loopw [3, 9] (fun o i wr => ∃ (k : Nat) (out : List UInt8), k ≤ s.size ∧ i = .int .i64 k ∧ Hid (out = (s.toList.take k).flatMap fun b => [digitsH.getD (b.toNat / 16) 0, digitsH.getD (b.toNat % 16) 0]) ∧ Hid (out.length = 2 * k) ∧ Hid (wr.ownsRow w.heap.size 5 1 o out.length (cs8 out)) ∧ Hid (Below w.heap.size w wr)) (fun _ i _ => s.size - (intOf i).toNat)
    case atStart => exact ⟨0, [], by omega, rfl, Lib.hid (by simp), Lib.hid (by simp), Lib.hid (World.ownsRow_nil _ _ _ _), Lib.hid (Below.refl _ _)⟩
    case round =>
      obtain ⟨k, out, hk, rfl, HO, HL, HW, HB⟩ := hrel
      have hlen : out.length ≤ 2000000000 := by rw [HL.out]; omega
      by_cases hlt : k < s.size
      · obtain ⟨p, hp⟩ : ∃ p, s[k] = p := ⟨_, rfl⟩
        have HP := Lib.hid hp
        clear hp
        have q5 : (k : Int) < (s.size : Int) := by omega
        have q6 : (0 : Int) ≤ (k : Int) := by omega
        have hp2 : s[k].toNat < 256 := s[k].toNat_lt
        obtain ⟨x, hx⟩ : ∃ x : Nat, s[k].toNat / 16 = x := ⟨_, rfl⟩
        obtain ⟨y, hy⟩ : ∃ y : Nat, s[k].toNat % 16 = y := ⟨_, rfl⟩
        have x1 : (x : Int) < 16 := by omega
        have y1 : (y : Int) < 16 := by omega
        have x0 : (0 : Int) ≤ (x : Int) := by omega
        have y0 : (0 : Int) ≤ (y : Int) := by omega
        have qx : IntKind.u8.wrap ((s[k].toNat : Int) / 16) = (x : Int) := by
          rw [← hx]; simp [IntKind.wrap, IntKind.bits, IntKind.signed]; omega
        have qy : ((s[k].toNat : Int)).tmod 16 = (y : Int) := by
          rw [Int.tmod_eq_emod_of_nonneg (by omega)]; omega
        have HX := Lib.hid hx
        have HY := Lib.hid hy
        clear hx hy
        go_wp2_with fail
        go_region_law (first
          | (refine step_append_lies _ rfl (.tmp 12) (.tmp 23) 36 rfl w.heap.size 5 i0 (.int .u8 0) 1 1 Tryd.underlying36 hi hz0 hz1 hz2 rfl (by omega) u3 _ _ rfl ((HW.out.alloc _).drew) _ 2 2 _ rfl rfl (cell_two_drew _ _ (by first | rfl | (simp; done)) _ _ _) (u8_two _ _) (by omega) (by unfold maxLen; omega) (by omega) (by have := HB.out.size; simp; omega) _ rfl ?_; intro gg cap w4 hown4 hgrow4 hat4 hlt4
             have O4 := Lib.hid hown4
             have F4 := Lib.hid ((Fr.drew (Fr.alloc (Fr.refl (fun i => u3.ownBlock = some i) wr) _)).grown hgrow4 (fun k e _ => e))
             clear hown4 hgrow4 hat4 hlt4))
        all_goals
          go_wp2_with fail
          have hnew : [Value.int IntKind.u8 ((⟨#[48, 49, 50, 51, 52, 53, 54, 55, 56, 57, 97, 98, 99, 100, 101, 102]⟩ : ByteArray)[x]'(by simp [ByteArray.size]; omega)).toNat, Value.int IntKind.u8 ((⟨#[48, 49, 50, 51, 52, 53, 54, 55, 56, 57, 97, 98, 99, 100, 101, 102]⟩ : ByteArray)[y]'(by simp [ByteArray.size]; omega)).toNat] = cs8 [digitsH.getD x 0, digitsH.getD y 0] := by
            have h : ∀ z : Nat, (hz : z < 16) → (⟨#[48, 49, 50, 51, 52, 53, 54, 55, 56, 57, 97, 98, 99, 100, 101, 102]⟩ : ByteArray)[z]'(by simp [ByteArray.size]; omega) = digitsH.getD z 0 := by decide
            rw [h x (by omega), h y (by omega)]; rfl
          have o4 := O4.out
          rw [hnew, ← cs8_append] at o4
          have hk' : out ++ [digitsH.getD x 0, digitsH.getD y 0] = (s.toList.take (k + 1)).flatMap fun b => [digitsH.getD (b.toNat / 16) 0, digitsH.getD (b.toNat % 16) 0] := by
            obtain ⟨h', hg⟩ := get_toList hlt
            rw [List.take_succ_eq_append_getElem h', List.flatMap_append, ← HO.out, hg]
            simp [HX.out, HY.out]
          have hl' : (out ++ [digitsH.getD x 0, digitsH.getD y 0]).length = out.length + 2 := by simp
          go_roundw
          case rel => exact ⟨k + 1, _, by omega, by go_num, Lib.hid hk', Lib.hid (by rw [hl', HL.out]; omega), Lib.hid (by rw [hl']; exact o4), Lib.hid (Fr.below HB.out F4.out (fun i q => (HW.out.lt i q).1) HB.out.size)⟩
          case measure => simp [intOf]; omega
      · obtain rfl : k = s.size := by omega
        have hout := HO.out
        rw [List.take_of_length_le (by rw [size_toList]; omega)] at hout
        have HQ := Lib.hid (show hexP s.toList = out by unfold hexP; rw [if_neg HE.out, hout])
        have hcv := conv_own HW.out
        clear hout
        go_wp2_with fail
        go_ret
        exact ⟨by rw [HQ.out]; rfl, HB.out⟩

set_option maxHeartbeats 2000000 in
theorem show_seven (w : World) : Calls Tryd.prog 15 #[atomV 7] w fun e w' => e = .returned (.string ⟨#[48, 52, 48, 55]⟩) ∧ Below w.heap.size w w' := by
  go_enter Tryd.func15, Tryd.ntmps15
  go_wp2_with fail
  refine (lays_seven _).mono ?_
  rintro e w1 ⟨v, rfl, ho, hb1⟩
  have hcv := conv_own (l := [4, 7]) ho
  have h1 := hb1.size
  simp at h1
  clear ho
  go_wp2_with fail
  refine (hex_any _ (by simp [ByteArray.size]) _).mono ?_
  rintro e w2 ⟨rfl, hb2⟩
  have hx : hexP (⟨[4, 7].toArray⟩ : ByteArray).toList = [48, 52, 48, 55] := by rw [toList_mk]; decide
  go_wp2_with fail
  go_ret
  exact ⟨by first | (rw [hx]; rfl) | rfl, ((Below.refl _ _).alloc (Nat.le_refl _) _).trans ((hb1.mono (by simp)).trans (hb2.mono (by omega)))⟩

end Go.Proofs.YtohgkfnbjfhniaaDoor
