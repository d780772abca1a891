/-
  An answer written over: a row of one's own, overwritten and appended to.
-/
import Derived.Test.YtohgkfnbjfhniaaDoorAv
namespace Go.Proofs.YtohgkfnbjfhniaaDoor
open Go.RowKit Sp

theorem own_store {w : World} {base e size g n cap : Nat} {xs : List Value} (h : w.ownsRow base e size (.slice (some ⟨g, 0, none⟩) n cap) n xs) {j : Nat} (u : Value) : ∃ xs', (w.setCell ⟨g, j, none⟩ u).ownsRow base e size (.slice (some ⟨g, 0, none⟩) n cap) n xs' := by
  rcases h.2 with ⟨q, _⟩ | ⟨g', cap', cur, q, hb, hg, hn, hc, hs, ht⟩
  · cases q
  · cases q
    refine ⟨(cur.setIfInBounds j u).toList.take (n * size), ?_, .inr ⟨g, cap, cur.setIfInBounds j u, rfl, hb, ?_, hn, hc, by simpa using hs, rfl⟩⟩
    · rw [List.length_take]; simp only [Array.length_toList, Array.size_setIfInBounds]; rw [hs]; exact Nat.min_eq_left (Nat.mul_le_mul_right _ hn)
    · show (w.heap.modify g _)[g]? = _
      rw [Array.getElem?_modify, if_pos rfl, hg]; rfl

theorem own_at {w : World} {base e size g n cap : Nat} {xs : List Value} (h : w.ownsRow base e size (.slice (some ⟨g, 0, none⟩) n cap) n xs) {j : Nat} (hj : j < n * size) : (∃ u, w.cell? ⟨g, j, none⟩ = some u) ∧ w.frozen? ⟨g, j, none⟩ = false := by
  rcases h.2 with ⟨q, _⟩ | ⟨g', cap', cur, q, hb, hg, hn, hc, hs, ht⟩
  · cases q
  · cases q
    have hlt : j < cur.size := by rw [hs]; exact Nat.lt_of_lt_of_le hj (Nat.mul_le_mul_right _ hn)
    refine ⟨⟨cur[j], by simp [World.cell?, hg, hlt]⟩, by simp [World.frozen?, hg]⟩

set_option maxRecDepth 100000 in
set_option maxHeartbeats 4000000 in
theorem over_bytes (v : Value) (n : Nat) (xs : List Value) (base : Nat) (w : World) (h : w.ownsRow base 5 1 v n xs) (hn : n ≤ 1000000000000) (hbase : base ≤ w.heap.size) :
    Calls Tryd.prog 22 #[v] w fun e w' => e = .returned (.tuple #[]) ∧ Fr (fun k => v.ownBlock = some k) w w' := by
  obtain ⟨i0, hi, hz0, hz1, hz2⟩ := info_parts info5
  obtain ⟨a, cap, rfl⟩ := own_form h
  have H := Lib.hid h
  clear h
  go_enter Tryd.func22, Tryd.ntmps22
  go_wp2_with fail
  go_loopw [2] (fun i wr => ∃ (k : Nat) (ys : List Value), k ≤ n ∧ i = .int .i64 k ∧ Hid (wr.ownsRow base 5 1 (.slice a n cap) n ys) ∧ Hid (Fr (fun k => Value.ownBlock (.slice a n cap) = some k) w wr)) (fun i _ => n - (intOf i).toNat)
  case atStart => exact ⟨0, xs, by omega, rfl, H, Lib.hid (Fr.refl _ _)⟩
  case round =>
    obtain ⟨k, ys, hk, rfl, HO, HF⟩ := hrel
    by_cases hlt : k < n
    · obtain ⟨g, rfl⟩ : ∃ g, a = some ⟨g, 0, none⟩ := by
        rcases HO.out.2 with ⟨q, q2⟩ | ⟨g, cap', cur, q, _⟩
        · omega
        · cases q; exact ⟨g, rfl⟩
      obtain ⟨⟨u, hu⟩, hfz⟩ := own_at HO.out (j := k) (by omega)
      obtain ⟨ys2, ho2⟩ := own_store HO.out (j := k) (.int .u8 238)
      have HO2 := Lib.hid ho2
      have HF2 := Lib.hid (Fr.setCell HF.out (p := ⟨g, k, none⟩) (by rfl) (.int .u8 238))
      have q1 : (k : Int) < (n : Int) := by omega
      have q2 : (0 : Int) ≤ (k : Int) := by omega
      have q3 : IntKind.i64.wrap ((k : Int) + 1) = (k : Int) + 1 := IntWalk.i64_in _ (by omega)
      clear ho2
      go_wp2_with fail
      go_roundw
      case rel => exact ⟨k + 1, ys2, by omega, by go_num, HO2, HF2⟩
      case measure => simp [intOf]; omega
    · obtain rfl : k = n := by omega
      go_wp2_with (at_builtin; refine wpList_append_own_at _ rfl (.tmp 12) (.tmp 13) 36 rfl base 5 i0 (.int .u8 0) 1 1 Tryd.underlying36 hi hz0 hz1 hz2 rfl (by decide) (.slice a k cap) _ _ rfl (World.ownsRow.alloc HO.out _) _ 1 1 [.int .u8 238] rfl rfl (cell_one_new _ _ _) (ints_oneCell .u8 [238]) (by unfold maxLen; omega) (by omega) (by have := HF.out.size; simp; omega) ?_; intro v1 w1 hown1 hgrow1 _ hloc1
                   have F1 := Lib.hid ((Fr.alloc HF.out _).grown hgrow1 (fun k e _ => e))
                   clear hown1 hgrow1 hloc1)
      go_end0
      exact ⟨rfl, F1.out⟩

set_option maxRecDepth 100000 in
set_option maxHeartbeats 4000000 in
theorem over_events (v : Value) (n : Nat) (xs : List Value) (base : Nat) (w : World) (h : w.ownsRow base 61 3 v n xs) (hn : n ≤ 1000000000000) (hbase : base ≤ w.heap.size) :
    Calls Tryd.prog 23 #[v] w fun e w' => e = .returned (.tuple #[]) ∧ Fr (fun k => v.ownBlock = some k) w w' := by
  obtain ⟨i0, hi, hz0, hz1, hz2⟩ := info_parts info61
  obtain ⟨a, cap, rfl⟩ := own_form h
  have H := Lib.hid h
  clear h
  go_enter Tryd.func23, Tryd.ntmps23
  go_wp2_with fail
  go_loopw [2] (fun i wr => ∃ (k : Nat) (ys : List Value), k ≤ n ∧ i = .int .i64 k ∧ Hid (wr.ownsRow base 61 3 (.slice a n cap) n ys) ∧ Hid (Fr (fun k => Value.ownBlock (.slice a n cap) = some k) w wr)) (fun i _ => n - (intOf i).toNat)
  case atStart => exact ⟨0, xs, by omega, rfl, H, Lib.hid (Fr.refl _ _)⟩
  case round =>
    obtain ⟨k, ys, hk, rfl, HO, HF⟩ := hrel
    by_cases hlt : k < n
    · obtain ⟨g, rfl⟩ : ∃ g, a = some ⟨g, 0, none⟩ := by
        rcases HO.out.2 with ⟨q, q2⟩ | ⟨g, cap', cur, q, _⟩
        · omega
        · cases q; exact ⟨g, rfl⟩
      obtain ⟨⟨u, hu⟩, hfz⟩ := own_at HO.out (j := k * 3) (by omega)
      obtain ⟨⟨u', hu'⟩, hfz'⟩ := own_at HO.out (j := k * 3 + 1) (by omega)
      obtain ⟨⟨u2, hu2⟩, hfz2⟩ := own_at HO.out (j := k * 3 + 2) (by omega)
      obtain ⟨ys2, ho2⟩ := own_store HO.out (j := k * 3) (.int .i64 (-9))
      obtain ⟨ys3, ho3⟩ := own_store ho2 (j := k * 3 + 1) (.int .i64 0)
      obtain ⟨ys4, ho4⟩ := own_store ho3 (j := k * 3 + 2) (.int .i64 0)
      have HO2 := Lib.hid ho4
      have HF2 := Lib.hid (Fr.setCell (Fr.setCell (Fr.setCell HF.out (p := ⟨g, k * 3, none⟩) (by rfl) (.int .i64 (-9))) (p := ⟨g, k * 3 + 1, none⟩) (by rfl) (.int .i64 0)) (p := ⟨g, k * 3 + 2, none⟩) (by rfl) (.int .i64 0))
      have q1 : (k : Int) < (n : Int) := by omega
      have q2 : (0 : Int) ≤ (k : Int) := by omega
      have q3 : IntKind.i64.wrap ((k : Int) + 1) = (k : Int) + 1 := IntWalk.i64_in _ (by omega)
      clear ho2 ho3 ho4
      go_wp2_with fail
      go_roundw
      case rel => exact ⟨k + 1, ys4, by omega, by go_num, HO2, HF2⟩
      case measure => simp [intOf]; omega
    · obtain rfl : k = n := by omega
      go_wp2_with (at_builtin; refine wpList_append_own_at _ rfl (.tmp 13) (.tmp 15) 39 rfl base 61 i0 (.agg #[.int .i64 0, .int .i64 0, .int .i64 0]) 3 24 Tryd.underlying39 hi hz0 hz1 hz2 rfl (by decide) (.slice a k cap) _ _ rfl (World.ownsRow.alloc HO.out _) _ 1 1 [.int .i64 (-9), .int .i64 0, .int .i64 0] rfl rfl (World.news_of_block (cs := #[.int .i64 (-9), .int .i64 0, .int .i64 0]) (t := 61) (fr := (0, 0)) (heap_alloc_new _ _)) (by simp [Value.oneCell']) (by unfold maxLen; omega) (by omega) (by have := HF.out.size; simp; omega) ?_; intro v1 w1 hown1 hgrow1 _ hloc1
                   have F1 := Lib.hid ((Fr.alloc HF.out _).grown hgrow1 (fun k e _ => e))
                   clear hown1 hgrow1 hloc1)
      go_end0
      exact ⟨rfl, F1.out⟩

end Go.Proofs.YtohgkfnbjfhniaaDoor
