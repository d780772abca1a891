/-
  Contracts of the arena's functions (walks).
-/
import Derived.Test.YtplhhmhdmcohfaaRows
import Derived.Test.YtplhhmhdmcohfaaAp
import Derived.Maps.OwnSet
import Derived.WalkKit
import Derived.WalkSpells
import Derived.WalkLawsBesides
import Derived.Deep.QuietTactic
import Derived.BigQuiet
import Derived.Lib.Hide
import Derived.IntWalk
namespace Go.Proofs.Ytplhhmhdmcohfaa
open Go.RowKit Go.Maps

theorem law3 : Keyed Try.prog 3 := int_keyed Try.underlying3
theorem zero3 (w : World) : (zeroValue 3).run Try.prog w = .ok (.int .i64 0) w := by kernel_rfl


/-- An arena in block b, its map in block bm. -/
structure ArAt (w : World) (b bm : Nat) (B x u c : Int) (L : List (Int × Int)) (n : Nat) : Prop where
  c0 : w.cell? ⟨b, 0, none⟩ = some (.int .i64 B)
  c1 : w.cell? ⟨b, 1, none⟩ = some (.int .i64 x)
  c2 : w.cell? ⟨b, 2, none⟩ = some (.int .i64 u)
  c3 : w.cell? ⟨b, 3, none⟩ = some (.int .i64 c)
  c4 : w.cell? ⟨b, 4, none⟩ = some (.map (some bm))
  f1 : w.frozen? ⟨b, 1, none⟩ = false
  f2 : w.frozen? ⟨b, 2, none⟩ = false
  f3 : w.frozen? ⟨b, 3, none⟩ = false
  ne : b ≠ bm
  lt : b < w.heap.size
  own : ∃ D : DataW Unit, w.ownsMap Try.prog 3 (plainElem Try.prog 3) bm n D ∧ Rep D L

theorem ArAt.ltm {w : World} {b bm : Nat} {B x u c : Int} {L : List (Int × Int)} {n : Nat} (h : ArAt w b bm B x u c L n) : bm < w.heap.size := by
  obtain ⟨D, ho, _⟩ := h.own; exact ho.lt

theorem ArAt.drewN {w : World} {b bm : Nat} {B x u c : Int} {L : List (Int × Int)} {n : Nat} (h : ArAt w b bm B x u c L n) (k : Nat) : ArAt (w.drewN k) b bm B x u c L n := by
  obtain ⟨c0, c1, c2, c3, c4, f1, f2, f3, ne, lt, D, ho, r⟩ := h
  exact ⟨by simpa using c0, by simpa using c1, by simpa using c2, by simpa using c3, by simpa using c4, by simpa using f1, by simpa using f2, by simpa using f3, ne, by simpa using lt, D, by
    obtain ⟨es, clock, hb, r⟩ := ho; exact ⟨es, clock, by simpa using hb, r⟩, r⟩

theorem ArAt.fr {w w' : World} {b bm : Nat} {B x u c : Int} {L : List (Int × Int)} {n : Nat} (h : ArAt w b bm B x u c L n) {S : Nat → Prop} (f : Fr S w w') (h1 : ¬ S b) (h2 : ¬ S bm) : ArAt w' b bm B x u c L n := by
  have hm := h.ltm
  obtain ⟨c0, c1, c2, c3, c4, f1, f2, f3, ne, lt, D, ho, r⟩ := h
  have e := f.block b lt h1
  refine ⟨?_, ?_, ?_, ?_, ?_, ?_, ?_, ?_, ne, Nat.lt_of_lt_of_le lt f.size, D, ?_, r⟩
  · rw [World.cell?_of_block (w := w) e]; exact c0
  · rw [World.cell?_of_block (w := w) e]; exact c1
  · rw [World.cell?_of_block (w := w) e]; exact c2
  · rw [World.cell?_of_block (w := w) e]; exact c3
  · rw [World.cell?_of_block (w := w) e]; exact c4
  · rw [World.frozen?_of_block (w := w) e]; exact f1
  · rw [World.frozen?_of_block (w := w) e]; exact f2
  · rw [World.frozen?_of_block (w := w) e]; exact f3
  · obtain ⟨es, clock, hb, r⟩ := ho
    exact ⟨es, clock, by rw [f.block bm hm h2]; exact hb, r⟩

set_option maxHeartbeats 400000 in
theorem used_any (b : Nat) (u c : Int) (w : World)
    (c2 : w.cell? ⟨b, 2, none⟩ = some (.int .i64 u)) (c3 : w.cell? ⟨b, 3, none⟩ = some (.int .i64 c))
    (hu : 0 ≤ u) (hu' : u ≤ 1099511627776) (hc : 0 ≤ c) (hc' : c ≤ 1099511627776) :
    Calls Try.prog 9 #[.pointer (some ⟨b, 0, none⟩)] w fun e w' => e = .returned (.int .i64 (u + c)) ∧ ∃ n, w' = w.drewN n := by
  go_enter Try.func9, Try.ntmps9
  go_wp2
  go_quiet (fail)
  go_wp2
  go_ret
  exact ⟨rfl, _, rfl⟩

set_option maxHeartbeats 400000 in
theorem room_zero (b : Nat) (n : Int) (w : World)
    (c0 : w.cell? ⟨b, 0, none⟩ = some (.int .i64 0)) :
    Calls Try.prog 22 #[.pointer (some ⟨b, 0, none⟩), .int .i64 n] w fun e w' => e = .returned (.bool true) ∧ ∃ n, w' = w.drewN n := by
  go_enter Try.func22, Try.ntmps22
  go_wp2
  go_quiet (fail)
  go_wp2
  go_ret
  exact ⟨rfl, _, rfl⟩

set_option maxHeartbeats 400000 in
theorem room_pos (b : Nat) (B u c n : Int) (w : World)
    (c0 : w.cell? ⟨b, 0, none⟩ = some (.int .i64 B)) 
    (c2 : w.cell? ⟨b, 2, none⟩ = some (.int .i64 u)) (c3 : w.cell? ⟨b, 3, none⟩ = some (.int .i64 c))
    (hB : (B == 0) = false)
    (hu : 0 ≤ u) (hu' : u ≤ 1099511627776) (hc : 0 ≤ c) (hc' : c ≤ 1099511627776) (hn : 0 ≤ n) (hn' : n ≤ 16777216) :
    Calls Try.prog 22 #[.pointer (some ⟨b, 0, none⟩), .int .i64 n] w fun e w' => e = .returned (.bool (decide (u + c + n ≤ B))) ∧ ∃ n, w' = w.drewN n := by
  go_enter Try.func22, Try.ntmps22
  go_wp2
  go_quiet ((go_at_call 9; refine Calls.quiet_of (used_any b u c _ ?_ ?_ hu hu' hc hc'); simpa using c2; simpa using c3))
  go_wp2
  go_ret
  exact ⟨rfl, _, rfl⟩


set_option maxHeartbeats 400000 in
theorem new_ok (B : Int) (w : World) (h0 : 0 ≤ B) (h1 : B ≤ 16777216) :
    Calls Try.prog 8 #[.int .i64 B] w fun e w' => ∃ b bm, e = .returned (.pointer (some ⟨b, 0, none⟩)) ∧ w.heap.size ≤ b ∧ w.heap.size ≤ bm ∧ ArAt w' b bm B 1 0 0 [] 0 ∧ Fr (fun _ => False) w w' := by
  have hmm := @run_makeMap Try.prog
  go_enter Try.func8, Try.ntmps8
  go_wp2
  go_ret
  refine ⟨w.heap.size + 1, w.heap.size, rfl, by omega, by omega, ?_, (((Fr.refl _ _).alloc _).alloc _)⟩
  refine ⟨?_, ?_, ?_, ?_, ?_, ?_, ?_, ?_, by omega, by simp, .map [], (World.ownsMap_made _ _ _ _).alloc _, Rep.empty⟩ <;> simp [go_sem]

set_option maxHeartbeats 400000 in
theorem new_none (B : Int) (w : World) (h : B < 0 ∨ 16777216 < B) :
    Calls Try.prog 8 #[.int .i64 B] w fun e w' => e = .returned (.pointer none) ∧ w' = w := by
  rcases h with h | h
  · go_enter Try.func8, Try.ntmps8
    go_wp2
    go_ret
    exact ⟨rfl, rfl⟩
  · have h' : ¬ B < 0 := by omega
    go_enter Try.func8, Try.ntmps8
    go_wp2
    go_ret
    exact ⟨rfl, rfl⟩

set_option maxHeartbeats 400000 in
theorem take_nil (n : Int) (w : World) :
    Calls Try.prog 10 #[.pointer none, .int .i64 n] w fun e w' => e = .returned (.tuple #[.int .i64 0, .int .i64 1]) ∧ w' = w := by
  go_enter Try.func10, Try.ntmps10
  go_wp2
  go_ret2
  exact ⟨rfl, rfl⟩

set_option maxHeartbeats 400000 in
theorem take_arg (b : Nat) (n : Int) (w : World) (h : n < 1 ∨ 16777216 < n) :
    Calls Try.prog 10 #[.pointer (some ⟨b, 0, none⟩), .int .i64 n] w fun e w' => e = .returned (.tuple #[.int .i64 0, .int .i64 2]) ∧ w' = w := by
  rcases h with h | h
  · go_enter Try.func10, Try.ntmps10
    go_wp2
    go_ret2
    exact ⟨rfl, rfl⟩
  · have h' : ¬ n < 1 := by omega
    go_enter Try.func10, Try.ntmps10
    go_wp2
    go_ret2
    exact ⟨rfl, rfl⟩

set_option maxHeartbeats 400000 in
theorem take_room {b bm : Nat} {B x u c : Int} {L : List (Int × Int)} {m : Nat} (n : Int) (w : World) (h : ArAt w b bm B x u c L m)
    (h1 : 1 ≤ n) (h2 : n ≤ 16777216) (hB : (B == 0) = false)
    (hu : 0 ≤ u) (hu' : u ≤ 1099511627776) (hc : 0 ≤ c) (hc' : c ≤ 1099511627776) (hr : decide (u + c + n ≤ B) = false) :
    Calls Try.prog 10 #[.pointer (some ⟨b, 0, none⟩), .int .i64 n] w fun e w' => e = .returned (.tuple #[.int .i64 0, .int .i64 7]) ∧ ∃ k, w' = w.drewN k := by
  have hk := (room_pos b B u c n w h.c0 h.c2 h.c3 hB hu hu' hc hc' (by omega) h2)
  have HK := Lib.hid hk; clear hk h
  have h3 : ¬ n < 1 := by omega
  have h4 : ¬ 16777216 < n := by omega
  go_enter Try.func10, Try.ntmps10
  go_wp2_with (go_at_call 22; refine HK.out.mono ?_; rintro e w' ⟨rfl, k, rfl⟩)
  go_ret2
  exact ⟨rfl, _, rfl⟩

theorem ArAt.setU {w : World} {b bm : Nat} {B x u c : Int} {L : List (Int × Int)} {n : Nat} (h : ArAt w b bm B x u c L n) (u' : Int) : ArAt (w.setCell ⟨b, 2, none⟩ (.int .i64 u')) b bm B x u' c L n := by
  obtain ⟨c0, c1, c2, c3, c4, f1, f2, f3, ne, lt, D, ho, r⟩ := h
  refine ⟨?_, ?_, ?_, ?_, ?_, ?_, ?_, ?_, ne, by simpa [World.setCell] using lt, D, ho.setCell (fun e => ne e.symm) _, r⟩ <;> simp [go_sem, c0, c1, c2, c3, c4, f1, f2, f3]
theorem ArAt.setC {w : World} {b bm : Nat} {B x u c : Int} {L : List (Int × Int)} {n : Nat} (h : ArAt w b bm B x u c L n) (u' : Int) : ArAt (w.setCell ⟨b, 3, none⟩ (.int .i64 u')) b bm B x u u' L n := by
  obtain ⟨c0, c1, c2, c3, c4, f1, f2, f3, ne, lt, D, ho, r⟩ := h
  refine ⟨?_, ?_, ?_, ?_, ?_, ?_, ?_, ?_, ne, by simpa [World.setCell] using lt, D, ho.setCell (fun e => ne e.symm) _, r⟩ <;> simp [go_sem, c0, c1, c2, c3, c4, f1, f2, f3]

theorem ArAt.turned {w w' : World} {b bm : Nat} {B x u c : Int} {L : List (Int × Int)} {n : Nat} (h : ArAt w b bm B x u c L n) (ht : w.mapTurned w' bm) :
    w'.cell? ⟨b, 0, none⟩ = some (.int .i64 B) ∧ w'.cell? ⟨b, 1, none⟩ = some (.int .i64 x) ∧ w'.cell? ⟨b, 2, none⟩ = some (.int .i64 u) ∧
    w'.cell? ⟨b, 3, none⟩ = some (.int .i64 c) ∧ w'.cell? ⟨b, 4, none⟩ = some (.map (some bm)) ∧ 
    w'.frozen? ⟨b, 1, none⟩ = false ∧ w'.frozen? ⟨b, 2, none⟩ = false ∧ w'.frozen? ⟨b, 3, none⟩ = false ∧ w.heap.size = w'.heap.size := by
  have e := fun o : Nat => turned_cell (p := ⟨b, o, none⟩) ht h.ne
  refine ⟨by rw [e]; exact h.c0, by rw [e]; exact h.c1, by rw [e]; exact h.c2, by rw [e]; exact h.c3, by rw [e]; exact h.c4, by rw [ht.frozen]; exact h.f1, by rw [ht.frozen]; exact h.f2, by rw [ht.frozen]; exact h.f3, ?_⟩
  obtain ⟨es, cl, es', cl', hb, rfl⟩ := ht
  simp [ChangeMaps.setBlock]

set_option maxHeartbeats 400000 in
theorem take_ok {b bm : Nat} {B x u c : Int} {L : List (Int × Int)} {m : Nat} (n : Int) (w : World) (h : ArAt w b bm B x u c L m)
    (h1 : 1 ≤ n) (h2 : n ≤ 16777216) (hx : 1 ≤ x) (hx' : x ≤ 1099511627776)
    (hu : 0 ≤ u) (hu' : u ≤ 1099511627776) (hm : m < 1000000) (hf : hs L x = false)
    (hroom : Calls Try.prog 22 #[.pointer (some ⟨b, 0, none⟩), .int .i64 n] w fun e w' => e = .returned (.bool true) ∧ ∃ k, w' = w.drewN k) :
    Calls Try.prog 10 #[.pointer (some ⟨b, 0, none⟩), .int .i64 n] w fun e w' => e = .returned (.tuple #[.int .i64 x, .int .i64 0]) ∧
      ArAt w' b bm B (x + (n + 1)) (u + n) c (L ++ [(x, n)]) (m + 1) ∧ Fr (fun k => k = b ∨ k = bm) w w' := by
  obtain ⟨D, ho, hrep⟩ := h.own
  have HK := Lib.hid hroom; clear hroom
  have hkey := keyOf_int_mk (P := Try.prog) (q := .i64) (a := x) Try.underlying3 (WalkArith.wf_i64 (by omega))
  have HF := Lib.hid hf; clear hf
  have h3 : ¬ n < 1 := by omega
  have h4 : ¬ 16777216 < n := by omega
  have HT := fun k w1 => Lib.hid (@ArAt.turned (w.drewN k) w1 b bm B x u c L m (h.drewN k))
  have c0 := h.c0
  have c1 := h.c1
  have c2 := h.c2
  have c3 := h.c3
  have c4 := h.c4
  have H := Lib.hid h; clear h
  go_enter Try.func10, Try.ntmps10
  go_wp2_with (first
    | (go_at_call 22; refine HK.out.mono ?_; rintro e w' ⟨rfl, k, rfl⟩)
    | (at_mapUpdate; refine wpList_mapUpdate_in _ rfl _ _ _ 48 rfl 3 3 law3 Try.underlying48 _ bm m D rfl (ho : (w.drewN k).ownsMap _ _ _ _ _ _) (by unfold maxLen; omega) _ _ _ rfl rfl hkey _ [] (plainElem_int Try.underlying3 (WalkArith.wf_i64 (by omega))) ?_; intro w1 hown1 hturn1;
       obtain ⟨d0, d1, d2, d3, d4, g1, g2, g3, hz⟩ := (HT k w1).out hturn1
       have HZ := Lib.hid hz; clear hz HT))
  go_ret2
  have hne := H.out.ne
  have hlt := H.out.lt
  have hz := HZ.out
  refine ⟨rfl, ⟨?_, ?_, ?_, ?_, ?_, ?_, ?_, ?_, hne, ?_, _, (hown1.setCell (fun e => hne e.symm) _).setCell (fun e => hne e.symm) _, hrep.put HF.out⟩, ((((Fr.refl _ _).drewN k).turned hturn1 (Or.inr rfl)).setCell (Or.inl rfl) _).setCell (Or.inl rfl) _⟩
  all_goals (try (simp [go_sem, d0, d1, d2, d3, d4, g1, g2, g3]; done))
  simp [World.setCell]; rw [← hz]; simpa using hlt

set_option maxHeartbeats 400000 in
theorem give_nil (n : Int) (w : World) :
    Calls Try.prog 11 #[.pointer none, .int .i64 n] w fun e w' => e = .returned (.bool false) ∧ w' = w := by
  go_enter Try.func11, Try.ntmps11
  go_wp2
  go_ret
  exact ⟨rfl, rfl⟩

set_option maxHeartbeats 400000 in
theorem give_any {b bm : Nat} {B x u c : Int} {L : List (Int × Int)} {m : Nat} (k : Int) (w : World) (h : ArAt w b bm B x u c L m)
    (hk : (Lit.int .i64 k).wf = true) (hu : lk L k ≤ u) (hl : 0 ≤ lk L k) (hu' : u ≤ 1099511627776)  :
    Calls Try.prog 11 #[.pointer (some ⟨b, 0, none⟩), .int .i64 k] w fun e w' => e = .returned (.bool (hs L k)) ∧
      ArAt w' b bm B x (u - lk L k) c (rm L k) m ∧ Fr (fun k => k = b ∨ k = bm) w w' := by
  obtain ⟨D, ho, hrep⟩ := h.own
  have hkey := keyOf_int_mk (P := Try.prog) (q := .i64) (a := k) Try.underlying3 hk
  have HA := Lib.hid (hrep.at_ k)
  have HS := Lib.hid (hrep.has k)
  have c0 := h.c0
  have c1 := h.c1
  have c2 := h.c2
  have c3 := h.c3
  have c4 := h.c4
  have f2 := h.f2
  have hne := h.ne
  have H := Lib.hid h; clear h
  go_enter Try.func11, Try.ntmps11
  go_wp2_with (first
    | (at_lookup; refine wpList_lookup_own_ok_int _ rfl _ _ 48 rfl 3 3 .i64 law3 Try.underlying48 Try.underlying3 (zero3 _) bm m D rfl ho _ _ rfl hkey ?_; intro q hat hwc
       obtain rfl : lk L k = q := by have e := HA.out; rw [hat] at e; cases e; rfl)
    | (at_delete; refine wpList_delete_own _ rfl _ _ 48 3 rfl 3 law3 Try.underlying48 _ bm m D rfl (ho.setCell (fun e => hne e.symm) _) _ _ rfl hkey ?_; intro w1 hown1 hturn1))
  go_ret
  have ha := H.out.setU (u - lk L k)
  obtain ⟨d0, d1, d2, d3, d4, g1, g2, g3, hz⟩ := ha.turned hturn1
  refine ⟨?_, ⟨d0, d1, d2, d3, d4, g1, g2, g3, hne, by rw [← hz]; exact ha.lt, _, hown1, hrep.del k⟩, ((Fr.refl _ _).setCell (Or.inl rfl) _).turned hturn1 (Or.inr rfl)⟩
  rw [← HS.out]; rfl

set_option maxHeartbeats 400000 in
theorem used_nil (w : World) :
    Calls Try.prog 9 #[.pointer none] w fun e w' => e = .returned (.int .i64 0) ∧ w' = w := by
  go_enter Try.func9, Try.ntmps9
  go_wp2
  go_ret
  exact ⟨rfl, rfl⟩

set_option maxHeartbeats 400000 in
theorem regions_nil (w : World) :
    Calls Try.prog 12 #[.pointer none] w fun e w' => e = .returned (.int .i64 0) ∧ w' = w := by
  go_enter Try.func12, Try.ntmps12
  go_wp2
  go_ret
  exact ⟨rfl, rfl⟩

set_option maxHeartbeats 400000 in
theorem regions_any {b bm : Nat} {B x u c : Int} {L : List (Int × Int)} {m : Nat} (w : World) (h : ArAt w b bm B x u c L m) :
    Calls Try.prog 12 #[.pointer (some ⟨b, 0, none⟩)] w fun e w' => e = .returned (.int .i64 L.length) ∧ w' = w := by
  obtain ⟨D, ho, hrep⟩ := h.own
  have c4 := h.c4
  have HS := Lib.hid hrep.size
  clear h
  go_enter Try.func12, Try.ntmps12
  go_wp2_with (at_len; refine wpList_len_own _ rfl _ 48 rfl 3 3 Try.underlying48 _ bm m D rfl ho ?_)
  go_ret
  refine ⟨?_, rfl⟩
  rw [← HS.out]; rfl

set_option maxHeartbeats 400000 in
theorem charge_nil (n : Int) (w : World) :
    Calls Try.prog 17 #[.pointer none, .int .i64 n] w fun e w' => e = .returned (.int .i64 1) ∧ w' = w := by
  go_enter Try.func17, Try.ntmps17
  go_wp2
  go_ret
  exact ⟨rfl, rfl⟩

set_option maxHeartbeats 400000 in
theorem charge_arg (b : Nat) (n : Int) (w : World) (h : n < 0 ∨ 16777216 < n) :
    Calls Try.prog 17 #[.pointer (some ⟨b, 0, none⟩), .int .i64 n] w fun e w' => e = .returned (.int .i64 2) ∧ w' = w := by
  rcases h with h | h
  · go_enter Try.func17, Try.ntmps17
    go_wp2
    go_ret
    exact ⟨rfl, rfl⟩
  · have h' : ¬ n < 0 := by omega
    go_enter Try.func17, Try.ntmps17
    go_wp2
    go_ret
    exact ⟨rfl, rfl⟩

set_option maxHeartbeats 400000 in
theorem charge_room {b : Nat} (n : Int) (w : World) 
    (h1 : 0 ≤ n) (h2 : n ≤ 16777216) 
    (hroom : Calls Try.prog 22 #[.pointer (some ⟨b, 0, none⟩), .int .i64 n] w fun e w' => e = .returned (.bool false) ∧ ∃ k, w' = w.drewN k) :
    Calls Try.prog 17 #[.pointer (some ⟨b, 0, none⟩), .int .i64 n] w fun e w' => e = .returned (.int .i64 7) ∧ ∃ k, w' = w.drewN k := by
  have HK := Lib.hid hroom; clear hroom
  have h3 : ¬ n < 0 := by omega
  have h4 : ¬ 16777216 < n := by omega
  go_enter Try.func17, Try.ntmps17
  go_wp2_with (go_at_call 22; refine HK.out.mono ?_; rintro e w' ⟨rfl, k, rfl⟩)
  go_ret
  exact ⟨rfl, _, rfl⟩

set_option maxHeartbeats 400000 in
theorem charge_ok {b bm : Nat} {B x u c : Int} {L : List (Int × Int)} {m : Nat} (n : Int) (w : World) (h : ArAt w b bm B x u c L m)
    (h1 : 0 ≤ n) (h2 : n ≤ 16777216) (hc : 0 ≤ c) (hc' : c ≤ 1099511627776)
    (hroom : Calls Try.prog 22 #[.pointer (some ⟨b, 0, none⟩), .int .i64 n] w fun e w' => e = .returned (.bool true) ∧ ∃ k, w' = w.drewN k) :
    Calls Try.prog 17 #[.pointer (some ⟨b, 0, none⟩), .int .i64 n] w fun e w' => e = .returned (.int .i64 0) ∧ 
      ArAt w' b bm B x u (c + n) L m ∧ Fr (fun k => k = b ∨ k = bm) w w' := by
  have HK := Lib.hid hroom; clear hroom
  have h3 : ¬ n < 0 := by omega
  have h4 : ¬ 16777216 < n := by omega
  have c3 := h.c3
  have f3 := h.f3
  have H := Lib.hid h; clear h
  go_enter Try.func17, Try.ntmps17
  go_wp2_with (go_at_call 22; refine HK.out.mono ?_; rintro e w' ⟨rfl, k, rfl⟩)
  go_ret
  exact ⟨rfl, (H.out.drewN k).setC _, ((Fr.refl _ _).drewN k).setCell (Or.inl rfl) _⟩

set_option maxHeartbeats 400000 in
theorem back_nil (n : Int) (w : World) :
    Calls Try.prog 19 #[.pointer none, .int .i64 n] w fun e w' => e = .returned (.bool false) ∧ w' = w := by
  go_enter Try.func19, Try.ntmps19
  go_wp2
  go_ret
  exact ⟨rfl, rfl⟩

set_option maxHeartbeats 400000 in
theorem back_no {b : Nat} (n : Int) (w : World) (c : Int)
    (c3 : w.cell? ⟨b, 3, none⟩ = some (.int .i64 c)) (h : n < 0 ∨ c < n) :
    Calls Try.prog 19 #[.pointer (some ⟨b, 0, none⟩), .int .i64 n] w fun e w' => e = .returned (.bool false) ∧ w' = w := by
  by_cases h0 : n < 0
  · go_enter Try.func19, Try.ntmps19
    go_wp2
    go_ret
    exact ⟨rfl, rfl⟩
  · have h1 : c < n := by omega
    clear h
    go_enter Try.func19, Try.ntmps19
    go_wp2
    go_ret
    exact ⟨rfl, rfl⟩

set_option maxHeartbeats 400000 in
theorem back_ok {b bm : Nat} {B x u c : Int} {L : List (Int × Int)} {m : Nat} (n : Int) (w : World) (h : ArAt w b bm B x u c L m)
    (h1 : 0 ≤ n) (h2 : n ≤ c) (hc' : c ≤ 1099511627776) :
    Calls Try.prog 19 #[.pointer (some ⟨b, 0, none⟩), .int .i64 n] w fun e w' => e = .returned (.bool true) ∧ 
      ArAt w' b bm B x u (c - n) L m ∧ Fr (fun k => k = b ∨ k = bm) w w' := by
  have h3 : ¬ n < 0 := by omega
  have h4 : ¬ c < n := by omega
  have c3 := h.c3
  have f3 := h.f3
  have H := Lib.hid h; clear h
  go_enter Try.func19, Try.ntmps19
  go_wp2
  go_ret
  exact ⟨rfl, H.out.setC _, (Fr.refl _ _).setCell (Or.inl rfl) _⟩

theorem give_is {b bm : Nat} {B x u c : Int} {L : List (Int × Int)} {m : Nat} (k : Int) (r : Bool) (w : World) (h : ArAt w b bm B x u c L m)
    (hk : (Lit.int .i64 k).wf = true) (hu : lk L k ≤ u) (hl : 0 ≤ lk L k) (hu' : u ≤ 1099511627776) (hr : hs L k = r) :
    Calls Try.prog 11 #[.pointer (some ⟨b, 0, none⟩), .int .i64 k] w fun e w' => e = .returned (.bool r) ∧
      ArAt w' b bm B x (u - lk L k) c (rm L k) m ∧ Fr (fun k => k = b ∨ k = bm) w w' := by
  subst hr; exact give_any k w h hk hu hl hu'

set_option maxHeartbeats 1000000 in
theorem awake_any (w : World) :
    Calls Try.prog 7 #[] w fun e w' => e = .returned (.bool true) ∧ Fr (fun _ => False) w w' := by
  go_enter Try.func7, Try.ntmps7
  go_wp2_with fail
  refine (new_ok 10 _ (by omega) (by omega)).mono ?_
  rintro e w1 ⟨b, bm, rfl, hb, hm, a1, fr1⟩
  have A1 := Lib.hid a1
  have HB := Lib.hid hb
  have HM := Lib.hid hm
  have FR1 := Lib.hid fr1
  clear a1 fr1 hb hm
  go_wp2_with fail
  refine (take_ok 4 _ A1.out (by omega) (by omega) (by omega) (by omega) (by omega) (by omega) (by omega) rfl (room_pos b 10 0 0 4 _ A1.out.c0 A1.out.c2 A1.out.c3 rfl (by omega) (by omega) (by omega) (by omega) (by omega) (by omega))).mono ?_
  rintro e w2 ⟨rfl, a2, fr2⟩
  have A2 := Lib.hid a2
  have FR2 := Lib.hid fr2
  clear a2 fr2
  go_wp2_with fail
  refine (take_room 7 _ A2.out (by omega) (by omega) rfl (by omega) (by omega) (by omega) (by omega) rfl).mono ?_
  rintro e w' ⟨rfl, k, rfl⟩
  go_wp2_with fail
  have A3 := Lib.hid (A2.out.drewN k)
  refine (take_ok 6 _ A3.out (by omega) (by omega) (by omega) (by omega) (by omega) (by omega) (by omega) rfl (room_pos b 10 4 0 6 _ A3.out.c0 A3.out.c2 A3.out.c3 rfl (by omega) (by omega) (by omega) (by omega) (by omega) (by omega))).mono ?_
  rintro e w3 ⟨rfl, a4, fr4⟩
  have A4 := Lib.hid a4
  have FR4 := Lib.hid fr4
  clear a4 fr4
  go_wp2_with fail
  refine (used_any b 10 0 _ A4.out.c2 A4.out.c3 (by omega) (by omega) (by omega) (by omega)).mono ?_
  rintro e w4 ⟨rfl, k4, rfl⟩
  go_wp2_with fail
  refine (give_is 1 true _ (A4.out.drewN k4) (by decide) (by decide) (by decide) (by decide) rfl).mono ?_
  rintro e w5 ⟨rfl, a5, fr5⟩
  have A5 := Lib.hid a5
  have FR5 := Lib.hid fr5
  clear a5 fr5
  go_wp2_with fail
  refine (give_is 1 false _ A5.out (by decide) (by decide) (by decide) (by decide) rfl).mono ?_
  rintro e w6 ⟨rfl, a6, fr6⟩
  have FR6 := Lib.hid fr6
  clear a6 fr6
  go_wp2_with fail
  refine (new_none (-1) _ (by omega)).mono ?_
  rintro e w' ⟨rfl, rfl⟩
  go_wp2_with fail
  go_ret
  have hb := HB.out
  have hm := HM.out
  have f1 := FR1.out
  have f2 := FR2.out.trans ((Fr.refl _ w2).drewN k |>.trans (FR4.out.trans (((Fr.refl _ w3).drewN k4).trans (FR5.out.trans FR6.out))))
  refine ⟨rfl, f1.os ▸ f2.os, f1.tape ▸ f2.tape, f1.output ▸ f2.output, Nat.le_trans f1.size f2.size, fun i hi hs => ?_⟩
  rw [f2.block i (Nat.lt_of_lt_of_le hi f1.size) (by omega), f1.block i hi hs]

theorem Fr.below0 {w w' : World} (h : Fr (fun _ => False) w w') : Below w.heap.size w w' :=
  ⟨h.os, h.tape, h.output, h.size, fun i hi => h.block i hi (fun q => q)⟩

set_option maxHeartbeats 1000000 in
theorem none_any (n : Int) (w : World) :
    Calls Try.prog 5 #[.int .i64 n] w fun e w' => e = .returned (.bool true) ∧ Below w.heap.size w w' := by
  go_enter Try.func5, Try.ntmps5
  go_wp2_with (first
    | (go_at_call 10; refine (take_nil _ _).mono ?_; rintro e w' ⟨rfl, rfl⟩)
    | (go_at_call 11; refine (give_nil _ _).mono ?_; rintro e w' ⟨rfl, rfl⟩)
    | (go_at_call 17; refine (charge_nil _ _).mono ?_; rintro e w' ⟨rfl, rfl⟩)
    | (go_at_call 19; refine (back_nil _ _).mono ?_; rintro e w' ⟨rfl, rfl⟩)
    | (go_at_call 9; refine (used_nil _).mono ?_; rintro e w' ⟨rfl, rfl⟩)
    | (go_at_call 12; refine (regions_nil _).mono ?_; rintro e w' ⟨rfl, rfl⟩)
    | (go_at_call 7; refine (awake_any _).mono ?_; rintro e w1 ⟨rfl, hf⟩))
  go_ret
  exact ⟨rfl, hf.below0⟩

end Go.Proofs.Ytplhhmhdmcohfaa
