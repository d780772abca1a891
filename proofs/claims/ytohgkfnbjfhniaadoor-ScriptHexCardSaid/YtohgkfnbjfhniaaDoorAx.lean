/-
  What every program answers that is one.
-/
import Derived.Test.YtohgkfnbjfhniaaDoorAv
namespace Go.Proofs.YtohgkfnbjfhniaaDoor
open Go.RowKit Sp

theorem Bs.below {w w' : World} {v : Value} {l : List UInt8} (h : Bs w v l) (hb : Below w.heap.size w w') : Bs w' v l := by
  obtain ⟨a, cap, rfl, hc⟩ := h
  refine ⟨a, cap, rfl, fun j hj => ?_⟩
  obtain ⟨g, rfl, k⟩ := hc j hj
  exact ⟨g, rfl, by rw [hb.cell (World.block_lt_of_cell? w _ k)]; exact k⟩

theorem Es.below {w w' : World} {v : Value} {l : List Three} (h : Es w v l) (hb : Below w.heap.size w w') : Es w' v l := by
  obtain ⟨a, cap, rfl, hc⟩ := h
  refine ⟨a, cap, rfl, fun j hj => ?_⟩
  obtain ⟨g, rfl, k0, k1, k2⟩ := hc j hj
  exact ⟨g, rfl, by rw [hb.cell (World.block_lt_of_cell? w _ k0)]; exact k0, by rw [hb.cell (World.block_lt_of_cell? w _ k1)]; exact k1, by rw [hb.cell (World.block_lt_of_cell? w _ k2)]; exact k2⟩

abbrev txtA : List UInt8 := [99, 111, 100, 101, 32, 48, 48, 48, 48, 48, 48, 10, 115, 101, 116, 32, 49, 48, 48, 32, 50, 32, 51, 10, 101, 118, 32, 49, 32, 48, 32, 57, 10, 99, 111, 100, 101, 32, 48, 55, 10]
abbrev txtB : List UInt8 := [115, 101, 116, 32, 49, 32, 50, 32, 51, 10, 101, 118, 32, 48, 50, 32, 49, 32, 49]

theorem parseA : parseP txtA = .inr ⟨[0, 0, 0, 7], (100, 2, 3), [(1, 0, 9)]⟩ := by kernel_rfl
theorem parseB : parseP txtB = .inl 2 := by kernel_rfl

theorem Bs.four (w : World) (H : Nat) (hH : w.heap.size = H) (l : List UInt8) (c : Array Value) (hc : c.toList = cs8 l) (n : Nat) (hn : l.length = n) : Bs (w.alloc (.cells c 5)) (.slice (some ⟨H, 0, none⟩) n n) l := by
  subst hH hn
  refine ⟨_, _, rfl, fun j hj => ⟨_, rfl, ?_⟩⟩
  rw [add_zero_at, World.cell?_alloc_at (w := w) c 5 _ _ rfl, ← Array.getElem?_toList, hc]
  simp [cs8, hj]

theorem Es.lit (w : World) (H : Nat) (hH : w.heap.size = H) (l : List Three) (c : Array Value) (hc : c.toList = flat3 l) (n : Nat) (hn : l.length = n) : Es (w.alloc (.cells c 61)) (.slice (some ⟨H, 0, none⟩) n n) l := by
  subst hH hn
  refine ⟨_, _, rfl, fun j hj => ⟨_, rfl, ?_, ?_, ?_⟩⟩
  all_goals rw [add_zero_at, World.cell?_alloc_at (w := w) c 61 _ _ rfl, ← Array.getElem?_toList, hc]
  · exact (flat3_at hj).1
  · exact (flat3_at hj).2.1
  · exact (flat3_at hj).2.2

theorem Bs.drewN {w : World} {v : Value} {l : List UInt8} (h : Bs w v l) (n : Nat) : Bs (w.drewN n) v l := h.below (below_drewN (Below.refl _ _) n)
theorem Es.drewN {w : World} {v : Value} {l : List Three} (h : Es w v l) (n : Nat) : Es (w.drewN n) v l := h.below (below_drewN (Below.refl _ _) n)

set_option maxRecDepth 100000 in
set_option maxHeartbeats 4000000 in
theorem awake_any (w : World) (g : GW w) (h20 : 9 ≤ w.heap.size) : Calls Tryd.prog 10 #[] w fun e w' => e = .returned (.bool true) ∧ Below w.heap.size w w' := by
  have HG := Lib.hid g
  clear g
  go_enter Tryd.func10, Tryd.ntmps10
  go_wp2_with fail
  refine (parse_any _ (by simp [ByteArray.size]) w HG.out h20).mono ?_
  rintro e w1 ⟨h1, hb1⟩
  rw [toList_mk] at h1
  rw [show parseP _ = _ from parseA] at h1
  obtain ⟨vb, ve, rfl, ob, oe, dd⟩ := h1
  have BS1 := Lib.hid (Bs.of_own ob)
  have ES1 := Lib.hid (Es.of_own oe)
  have B1 := Lib.hid hb1
  have hs1 := hb1.size
  clear ob oe dd hb1
  go_wp2_with fail
  have B1a := Lib.hid (B1.out.alloc hs1 (.cells #[.int .i64 100, .int .i64 2, .int .i64 3] 38))
  refine (parse_any _ (by simp [ByteArray.size]) _ (HG.out.below B1a.out h20) (by simp; omega)).mono ?_
  rintro e w2 ⟨h2, hb2⟩
  rw [toList_mk] at h2
  rw [show parseP _ = _ from parseB] at h2
  obtain rfl := h2
  have hs2 := hb2.size
  simp at hs2
  have d0 := hb2.cell (p := ⟨w1.heap.size, 0, none⟩) (by simp)
  have d1 := hb2.cell (p := ⟨w1.heap.size, 1, none⟩) (by simp)
  have d2 := hb2.cell (p := ⟨w1.heap.size, 2, none⟩) (by simp)
  simp [go_sem] at d0 d1 d2
  have BS2 := Lib.hid ((BS1.out.below ((Below.refl _ _).alloc (Nat.le_refl _) (.cells #[.int .i64 100, .int .i64 2, .int .i64 3] 38))).below hb2)
  have ES2 := Lib.hid ((ES1.out.below ((Below.refl _ _).alloc (Nat.le_refl _) (.cells #[.int .i64 100, .int .i64 2, .int .i64 3] 38))).below hb2)
  have B2 := Lib.hid (B1a.out.trans (hb2.mono (by simp; omega)))
  clear hb2
  have hlt : w1.heap.size < w2.heap.size := by omega
  go_wp2_with fail
  refine (same_bytes vb _ [0, 0, 0, 7] [0, 0, 0, 7] _ (BS2.out.below (((Below.refl _ _).alloc (Nat.le_refl _) _).alloc (by simp) _)) (Bs.four _ _ (by simp) [0, 0, 0, 7] _ rfl 4 rfl) (by simp) (by simp)).mono ?_
  rintro e w3 ⟨rfl, n3, rfl⟩
  have B3 := Lib.hid (below_drewN ((B2.out.alloc (by omega) (.cells #[.int .i64 0, .int .i64 0, .int .i64 0] 38)).alloc (by simp; omega) (.cells #[.int .u8 0, .int .u8 0, .int .u8 0, .int .u8 7] 5)) n3)
  simp only [decide_true]
  go_wp2_with fail
  refine (same_events ve _ [(1, 0, 9)] [(1, 0, 9)] _ (by first | exact ES2.out.below (below_drewN ((((Below.refl _ _).alloc (Nat.le_refl _) _).alloc (by simp) _).alloc (by simp; omega) _) _) | exact ES2.out.below ((below_drewN (((Below.refl _ _).alloc (Nat.le_refl _) _).alloc (by simp) _) _).alloc (by simp; omega) _)) (by first | exact (Es.lit _ _ (by simp) [(1, 0, 9)] _ rfl 1 rfl).drewN _ | exact Es.lit _ _ (by simp) [(1, 0, 9)] _ rfl 1 rfl) (by simp) (by simp)).mono ?_
  rintro e w4 ⟨rfl, n4, rfl⟩
  simp only [decide_true]
  go_wp2_with fail
  have B4 := Lib.hid (below_drewN (B3.out.alloc (by simp; omega) (.cells #[.int .i64 1, .int .i64 0, .int .i64 9] 61)) n4)
  refine (hex_any _ (by simp [ByteArray.size]) _).mono ?_
  rintro e w5 ⟨rfl, hb5⟩
  have B5 := Lib.hid (B4.out.trans (hb5.mono (by simp; omega)))
  have hs5 := B5.out.size
  have hx : hexP (⟨#[15, 122]⟩ : ByteArray).toList = [48, 102, 55, 97] := by rw [toList_mk]; decide
  rw [hx]
  clear hb5
  go_wp2_with fail
  refine (atom_any 7 _).mono ?_
  rintro e w6 ⟨rfl, hb6⟩
  have B6 := Lib.hid (B5.out.trans (hb6.mono hs5))
  have hs6 := B6.out.size
  clear hb6
  go_wp2_with fail
  refine (show_seven _).mono ?_
  rintro e w7 ⟨rfl, hb7⟩
  have B7 := Lib.hid (B6.out.trans (hb7.mono hs6))
  clear hb7
  go_wp2_with fail
  go_ret
  exact ⟨rfl, B7.out⟩

end Go.Proofs.YtohgkfnbjfhniaaDoor
