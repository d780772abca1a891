/-
  Chapter 25's own Parse; a text that is too long.
-/
import Derived.Test.YtohgkfnbjfhniaaDoorRe
namespace Go.Proofs.YtohgkfnbjfhniaaDoor
open Go.RowKit Sp

set_option maxRecDepth 100000 in
set_option maxHeartbeats 4000000 in
theorem parse_big (s : ByteArray) (hs : 131072 < s.size) (w : World) :
    Calls Tryd.prog 17 #[.string s] w fun e w' => e = .returned (.tuple #[.slice none 0 0, .agg #[.int .i64 0, .int .i64 0, .int .i64 0], .slice none 0 0, .int .i64 0, .int .i64 3]) ∧ Below w.heap.size w w' := by
  have q0 : (131072 : Int) < (s.size : Int) := by omega
  go_enter Tryd.func17, Tryd.ntmps17
  go_wp2_with fail
  refine bodyPost_ret (v := .tuple #[.slice none 0 0, .agg #[.int .i64 0, .int .i64 0, .int .i64 0], .slice none 0 0, .int .i64 0, .int .i64 3]) (by simp [results, Tryd.results17, go_sem]) rfl ⟨rfl, ?_⟩
  exact (Below.refl _ _).alloc (Nat.le_refl _) _

set_option maxRecDepth 100000 in
set_option maxHeartbeats 4000000 in
theorem refParse_big (s : ByteArray) (hs : 131072 < s.size) (w : World) :
    Calls Tryd.prog 18 #[.string s] w fun e w' => e = .returned (.tuple #[.slice none 0 0, .agg #[.int .i64 0, .int .i64 0, .int .i64 0], .slice none 0 0, .int .i64 0, .int .i64 3]) ∧ Below w.heap.size w w' := by
  have q0 : (131072 : Int) < (s.size : Int) := by omega
  go_enter Tryd.func18, Tryd.ntmps18
  go_wp2_with fail
  refine bodyPost_ret (v := .tuple #[.slice none 0 0, .agg #[.int .i64 0, .int .i64 0, .int .i64 0], .slice none 0 0, .int .i64 0, .int .i64 3]) (by simp [results, Tryd.results18, go_sem]) rfl ⟨rfl, ?_⟩
  exact (Below.refl _ _).alloc (Nat.le_refl _) _

theorem cell_drew_at (X : World) (c : Array Value) (t : TypeId) (n i : Nat) (hn : n = X.heap.size) : (X.alloc (.cells c t)).drew.cell? ⟨n, i, none⟩ = c[i]? := World.cell?_alloc_at (w := X) c t n i hn

set_option maxRecDepth 100000 in
set_option maxHeartbeats 4000000 in
theorem refParse_any (s : ByteArray) (hs : s.size ≤ 131072) (w : World) :
    Calls Tryd.prog 18 #[.string s] w (ParseEnd w (parseP s.toList)) := by
  have q0 : ¬ (131072 : Int) < (s.size : Int) := by omega
  go_enter Tryd.func18, Tryd.ntmps18
  go_wp2_with fail
  refine (lines_any s (by omega) _).mono ?_
  rintro e w1 ⟨⟨a, cap, ws, rfl, hstr, hmap, hz, hl⟩, hb1⟩
  have HMAP := Lib.hid hmap
  have B1 := Lib.hid (((Below.refl w.heap.size w).alloc (Nat.le_refl _) (.cells #[.int .i64 0, .int .i64 0, .int .i64 0] 38)).trans (hb1.mono (by simp)))
  have r0 := hb1.cell (p := ⟨w.heap.size, 0, none⟩) (by simp)
  have r1 := hb1.cell (p := ⟨w.heap.size, 1, none⟩) (by simp)
  have r2 := hb1.cell (p := ⟨w.heap.size, 2, none⟩) (by simp)
  have s0 := hb1.frozen (p := ⟨w.heap.size, 0, none⟩) (by simp)
  have s1 := hb1.frozen (p := ⟨w.heap.size, 1, none⟩) (by simp)
  have s2 := hb1.frozen (p := ⟨w.heap.size, 2, none⟩) (by simp)
  simp [go_sem] at r0 r1 r2 s0 s1 s2
  have hs1 := hb1.size
  simp at hs1
  clear hb1 hmap
  go_wp2_with fail
  refine (read_any a cap ws ws.length rfl (by omega) w1 hstr (fun p hp => by have := hz p hp; omega)).mono ?_
  rintro e w2 ⟨h2, hb2⟩
  have R0 := (hb2.cell (p := ⟨w.heap.size, 0, none⟩) (by show _ < _; simp; omega)).trans r0
  have R1 := (hb2.cell (p := ⟨w.heap.size, 1, none⟩) (by show _ < _; simp; omega)).trans r1
  have R2 := (hb2.cell (p := ⟨w.heap.size, 2, none⟩) (by show _ < _; simp; omega)).trans r2
  have S0 := (hb2.frozen (p := ⟨w.heap.size, 0, none⟩) (by show _ < _; simp; omega)).trans s0
  have S1 := (hb2.frozen (p := ⟨w.heap.size, 1, none⟩) (by show _ < _; simp; omega)).trans s1
  have S2 := (hb2.frozen (p := ⟨w.heap.size, 2, none⟩) (by show _ < _; simp; omega)).trans s2
  have B2 := Lib.hid (B1.out.trans (hb2.mono (by omega)))
  have hs2 := hb2.size
  have hlt : w.heap.size < w2.heap.size := by omega
  clear hb2 r0 r1 r2 s0 s1 s2 hstr hz
  cases hp : parseP s.toList with
  | inl k =>
    have hk := runP_ge _ _ _ _ hp
    rw [show runP 1 St.zero (ws.map (·.toList)) = .inl k by rw [HMAP.out]; exact hp] at h2
    obtain rfl := h2
    have q1 : (0 : Int) < (k : Int) := by omega
    have HP := Lib.hid hp
    clear hp
    go_wp2_with fail
    refine bodyPost_ret (v := .tuple #[.slice none 0 0, .agg #[.int .i64 0, .int .i64 0, .int .i64 0], .slice none 0 0, .int .i64 k, .int .i64 8]) (by simp [results, Tryd.results18, go_sem, R0, R1, R2, hlt]) rfl ?_
    rw [HP.out]
    refine ⟨rfl, ?_⟩
    exact (((B2.out.setCell (Nat.le_refl _) _).setCell (Nat.le_refl _) _).setCell (Nat.le_refl _) _).alloc (by simp [World.setCell]; omega) _
  | inr st =>
    rw [show runP 1 St.zero (ws.map (·.toList)) = .inr st by rw [HMAP.out]; exact hp] at h2
    obtain ⟨vb, ve, rfl, ob, oe, dd⟩ := h2
    have OB := Lib.hid ob
    have OE := Lib.hid oe
    have HP := Lib.hid hp
    clear hp ob oe
    go_wp2_with fail
    have hne : ¬ w.heap.size = w2.heap.size := by omega
    have hne' : ¬ w2.heap.size = w.heap.size := by omega
    have K : ∀ i v, (#[Value.int .i64 st.c.1, .int .i64 st.c.2.1, .int .i64 st.c.2.2])[i]? = some v → ((((w2.setCell ⟨w.heap.size, 0, none⟩ (.int .i64 st.c.1)).setCell ⟨w.heap.size, 1, none⟩ (.int .i64 st.c.2.1)).setCell ⟨w.heap.size, 2, none⟩ (.int .i64 st.c.2.2)).alloc (.cells #[.int .i64 st.c.1, .int .i64 st.c.2.1, .int .i64 st.c.2.2] 38)).drew.cell? ⟨w2.heap.size, i, none⟩ = some v :=
      fun i v h => (cell_drew_at _ _ _ _ _ (by simp [World.setCell])).trans h
    have K0 := K 0 _ rfl
    have K1 := K 1 _ rfl
    have K2 := K 2 _ rfl
    clear K
    go_region_held3 (fun w' => w'.cell? ⟨w2.heap.size, 0, none⟩ = some (.int .i64 st.c.1) ∧ w'.cell? ⟨w2.heap.size, 1, none⟩ = some (.int .i64 st.c.2.1) ∧ w'.cell? ⟨w2.heap.size, 2, none⟩ = some (.int .i64 st.c.2.2))
      (first | exact ⟨K0, K1, K2⟩ | go_keep) (fail)
    go_wp2
    have f : Fr (fun k => k = w.heap.size) w2 ((((w2.setCell ⟨w.heap.size, 0, none⟩ (.int .i64 st.c.1)).setCell ⟨w.heap.size, 1, none⟩ (.int .i64 st.c.2.1)).setCell ⟨w.heap.size, 2, none⟩ (.int .i64 st.c.2.2)).alloc (.cells #[.int .i64 st.c.1, .int .i64 st.c.2.1, .int .i64 st.c.2.2] 38)).drew :=
      Fr.drew (Fr.alloc (Fr.setCell (Fr.setCell (Fr.setCell (Fr.refl (fun k => k = w.heap.size) w2) (p := ⟨w.heap.size, 0, none⟩) rfl _) (p := ⟨w.heap.size, 1, none⟩) rfl _) (p := ⟨w.heap.size, 2, none⟩) rfl _) _)
    refine bodyPost_ret (v := .tuple #[vb, .agg #[.int .i64 st.c.1, .int .i64 st.c.2.1, .int .i64 st.c.2.2], ve, .int .i64 0, .int .i64 0]) (by simp [results, Tryd.results18, go_sem, R0, R1, R2, hlt]) rfl ?_
    rw [HP.out]
    exact ⟨⟨vb, ve, rfl, own_less (Fr.own OB.out f (fun k e q => by have := (OB.out.lt k e).1; omega)) (by omega), own_less (Fr.own OE.out f (fun k e q => by have := (OE.out.lt k e).1; omega)) (by omega), dd⟩, Fr.below B2.out f (fun i q => by omega) B2.out.size⟩

end Go.Proofs.YtohgkfnbjfhniaaDoor
