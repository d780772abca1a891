/-
  The document's arena (the reference): its functions' contracts.
-/
import Derived.Test.YtplhhmhdmcohfaaAb
import Derived.Deep.AppendSrc
import Derived.Deep.AppendLies
import Derived.BigRegion
import Derived.Deep.RegionLaw
namespace Go.Proofs.Ytplhhmhdmcohfaa
open Go.RowKit Go.Maps

theorem Try.info53 : (Try.prog.info? 53).map (fun i => (i.zero, i.size, i.bytes)) = some (some (.agg #[.int .i64 0, .int .i64 0]), 2, 16) := by kernel_rfl

def flat (L : List (Int × Int)) : List Value := L.flatMap (fun p => [.int .i64 p.1, .int .i64 p.2])

theorem flat_length (L : List (Int × Int)) : (flat L).length = L.length * 2 := by
  induction L with
  | nil => rfl
  | cons p r ih => simp only [flat, List.flatMap_cons, List.length_append, List.length_cons] at ih ⊢; simp at ih ⊢; omega

theorem flat_append (L M : List (Int × Int)) : flat (L ++ M) = flat L ++ flat M := by simp [flat]

theorem flat_one (L : List (Int × Int)) : ∀ u ∈ flat L, u.oneCell' = true := by
  intro u hu
  simp only [flat, List.mem_flatMap] at hu
  obtain ⟨p, _, h⟩ := hu
  simp at h
  rcases h with rfl | rfl <;> rfl

theorem flat_at0 {L : List (Int × Int)} {j : Nat} (h : j < L.length) : (flat L)[j * 2]? = some (.int .i64 L[j].1) := by
  induction L generalizing j with
  | nil => simp at h
  | cons p r ih =>
    cases j with
    | zero => rfl
    | succ j =>
      have := ih (j := j) (by simpa using h)
      have e : (j + 1) * 2 = j * 2 + 2 := by omega
      rw [e]; simpa [flat] using this

theorem flat_at1 {L : List (Int × Int)} {j : Nat} (h : j < L.length) : (flat L)[j * 2 + 1]? = some (.int .i64 L[j].2) := by
  induction L generalizing j with
  | nil => simp at h
  | cons p r ih =>
    cases j with
    | zero => rfl
    | succ j =>
      have := ih (j := j) (by simpa using h)
      have e : (j + 1) * 2 + 1 = j * 2 + 1 + 2 := by omega
      rw [e]; simpa [flat] using this

/-- The reference's arena in block b; its list's value v. -/
structure RfAt (w : World) (base b : Nat) (B x c : Int) (L : List (Int × Int)) (v : Value) : Prop where
  c0 : w.cell? ⟨b, 0, none⟩ = some (.int .i64 B)
  c1 : w.cell? ⟨b, 1, none⟩ = some (.int .i64 x)
  c2 : w.cell? ⟨b, 2, none⟩ = some (.int .i64 c)
  c3 : w.cell? ⟨b, 3, none⟩ = some v
  f1 : w.frozen? ⟨b, 1, none⟩ = false
  f2 : w.frozen? ⟨b, 2, none⟩ = false
  f3 : w.frozen? ⟨b, 3, none⟩ = false
  nb : base ≤ b
  lt : b < w.heap.size
  own : w.ownsRow base 53 2 v L.length (flat L)
  ne : v.ownBlock ≠ some b

theorem own_fr2 {S : Nat → Prop} {w w' : World} {base e size : Nat} {v : Value} {n : Nat} {xs : List Value} (h : w.ownsRow base e size v n xs) (f : Fr S w w') (hs : ∀ k, v.ownBlock = some k → ¬ S k) : w'.ownsRow base e size v n xs := by
  obtain ⟨h1, h2⟩ := h
  refine ⟨h1, ?_⟩
  rcases h2 with h2 | ⟨g, cap, cur, rfl, hb, hg, r⟩
  · exact .inl h2
  · refine .inr ⟨g, cap, cur, rfl, hb, ?_, r⟩
    rw [f.block g (Array.getElem?_eq_some_iff.1 hg).1 (hs g rfl)]; exact hg

theorem RfAt.fr {w w' : World} {base b : Nat} {B x c : Int} {L : List (Int × Int)} {v : Value} (h : RfAt w base b B x c L v) {S : Nat → Prop} (f : Fr S w w') (h1 : ¬ S b) (h2 : ∀ k, v.ownBlock = some k → ¬ S k) : RfAt w' base b B x c L v := by
  obtain ⟨c0, c1, c2, c3, f1, f2, f3, nb, lt, ow, ne⟩ := h
  have e := f.block b lt h1
  refine ⟨?_, ?_, ?_, ?_, ?_, ?_, ?_, nb, Nat.lt_of_lt_of_le lt f.size, own_fr2 ow f h2, ne⟩
  · rw [World.cell?_of_block (w := w) e]; exact c0
  · rw [World.cell?_of_block (w := w) e]; exact c1
  · rw [World.cell?_of_block (w := w) e]; exact c2
  · rw [World.cell?_of_block (w := w) e]; exact c3
  · rw [World.frozen?_of_block (w := w) e]; exact f1
  · rw [World.frozen?_of_block (w := w) e]; exact f2
  · rw [World.frozen?_of_block (w := w) e]; exact f3

theorem RfAt.drewN {w : World} {base b : Nat} {B x c : Int} {L : List (Int × Int)} {v : Value} (h : RfAt w base b B x c L v) (k : Nat) : RfAt (w.drewN k) base b B x c L v :=
  h.fr (S := fun _ => False) ((Fr.refl _ w).drewN k) (fun q => q) (fun _ _ q => q)

set_option maxHeartbeats 400000 in
theorem rnew_none (B : Int) (w : World) (h : B < 0 ∨ 16777216 < B) :
    Calls Try.prog 13 #[.int .i64 B] w fun e w' => e = .returned (.pointer none) ∧ w = w' := by
  by_cases h0 : B < 0
  · go_enter Try.func13, Try.ntmps13
    go_wp2
    go_ret
    exact ⟨rfl, rfl⟩
  · have h' : 16777216 < B := by omega
    clear h
    go_enter Try.func13, Try.ntmps13
    go_wp2
    go_ret
    exact ⟨rfl, rfl⟩

set_option maxHeartbeats 400000 in
theorem rnew_ok (B : Int) (w : World) (h0 : 0 ≤ B) (h1 : B ≤ 16777216) :
    Calls Try.prog 13 #[.int .i64 B] w fun e w' => e = .returned (.pointer (some ⟨w.heap.size, 0, none⟩)) ∧ RfAt w' w.heap.size w.heap.size B 1 0 [] (.slice none 0 0) ∧ Fr (fun _ => False) w w' := by
  go_enter Try.func13, Try.ntmps13
  go_wp2
  go_ret
  refine ⟨rfl, ?_, ((Fr.refl _ _).alloc _)⟩
  refine ⟨?_, ?_, ?_, ?_, ?_, ?_, ?_, Nat.le_refl _, by simp, World.ownsRow_nil _ _ _ _, by simp [Value.ownBlock]⟩ <;> simp [go_sem]

theorem add_at (g j : Nat) : (⟨g, 0, none⟩ : Addr).add j = ⟨g, j, none⟩ := by unfold Addr.add; split <;> simp_all

theorem own_slice3 {w : World} {base : Nat} {v : Value} {L : List (Int × Int)} (h : w.ownsRow base 53 2 v L.length (flat L)) :
    ∃ a cap, v = .slice a L.length cap ∧ ∀ j, (hj : j < L.length) → ∃ g, a = some ⟨g, 0, none⟩ ∧ w.cell? ⟨g, j * 2, none⟩ = some (.int .i64 L[j].1) ∧ w.cell? ⟨g, j * 2 + 1, none⟩ = some (.int .i64 L[j].2) := by
  rcases h.2 with ⟨rfl, q⟩ | ⟨g, cap, cur, rfl, hb, hg, hn, hr⟩
  · exact ⟨none, 0, by rw [q], fun j hj => by omega⟩
  · refine ⟨_, _, rfl, fun j hj => ⟨g, rfl, ?_, ?_⟩⟩
    · have := h.cells rfl (j * 2) _ (flat_at0 hj)
      rw [add_at] at this; exact this
    · have := h.cells rfl (j * 2 + 1) _ (flat_at1 hj)
      rw [add_at] at this; exact this

def sumN (L : List (Int × Int)) : Int := (L.map (·.2)).sum

theorem sumN_take_succ {L : List (Int × Int)} {j : Nat} (h : j < L.length) : sumN (L.take (j + 1)) = sumN (L.take j) + L[j].2 := by
  rw [List.take_succ_eq_append_getElem h]; unfold sumN; rw [List.map_append, List.sum_append]; simp

theorem sumN_nonneg {L : List (Int × Int)} (h : ∀ p ∈ L, 0 ≤ p.2 ∧ p.2 ≤ 16777216) : 0 ≤ sumN L ∧ sumN L ≤ 16777216 * L.length := by
  induction L with
  | nil => simp [sumN]
  | cons a r ih =>
    have := ih (fun n hn => h n (by simp [hn])); have := h a (by simp)
    simp only [sumN, List.map_cons, List.sum_cons, List.length_cons] at *; omega

set_option maxHeartbeats 400000 in
theorem rused_any {base b : Nat} {B x c : Int} {L : List (Int × Int)} {v : Value} (w : World) (h : RfAt w base b B x c L v)
    (hL : ∀ p ∈ L, 0 ≤ p.2 ∧ p.2 ≤ 16777216) (hl : L.length ≤ 1000) (hc : 0 ≤ c) (hc' : c ≤ 1099511627776) :
    Calls Try.prog 21 #[.pointer (some ⟨b, 0, none⟩)] w fun e w' => e = .returned (.int .i64 (c + sumN L)) ∧ w = w' := by
  obtain ⟨a, cap, rfl, hcell⟩ := own_slice3 h.own
  have c2 := h.c2
  have c3 := h.c3
  have HC := Lib.hid hcell
  clear hcell h
  go_enter Try.func21, Try.ntmps21
  go_wp2
  go_loop [3, 4] (fun t i => ∃ j : Nat, j ≤ L.length ∧ i = .int .i64 j ∧ t = .int .i64 (c + sumN (L.take j))) (fun _ i => L.length - (intOf i).toNat)
  case atStart => exact ⟨0, by omega, rfl, by simp [sumN]⟩
  case round =>
    obtain ⟨j, hj, rfl, rfl⟩ := hrel
    have hs1 := sumN_nonneg (L := L.take j) (fun p hp => hL p (List.mem_of_mem_take hp))
    have hs2 : (L.take j).length ≤ 1000 := by simp; omega
    by_cases hjl : j < L.length
    · obtain ⟨g, rfl, k0, k1⟩ := HC.out j hjl
      have HST := Lib.hid (sumN_take_succ hjl)
      have hgd := hL _ (List.getElem_mem hjl)
      go_wp2
      go_round
      case rel => exact ⟨j + 1, by omega, by go_num, by rw [HST.out]; go_num⟩
      case measure => simp [intOf]; omega
    · obtain rfl : j = L.length := by omega
      go_wp2
      go_ret
      exact ⟨rfl, rfl⟩


theorem rused_same {base b : Nat} {B x c : Int} {L : List (Int × Int)} {v : Value} (w : World) (h : RfAt w base b B x c L v)
    (hL : ∀ p ∈ L, 0 ≤ p.2 ∧ p.2 ≤ 16777216) (hl : L.length ≤ 1000) (hc : 0 ≤ c) (hc' : c ≤ 1099511627776) :
    Calls Try.prog 21 #[.pointer (some ⟨b, 0, none⟩)] w fun e w' => e = .returned (.int .i64 (c + sumN L)) ∧ w' = w :=
  (rused_any w h hL hl hc hc').mono fun _ _ ⟨a, b⟩ => ⟨a, b.symm⟩

set_option maxHeartbeats 400000 in
theorem rroom_zero (b : Nat) (n : Int) (w : World)
    (c0 : w.cell? ⟨b, 0, none⟩ = some (.int .i64 0)) :
    Calls Try.prog 23 #[.pointer (some ⟨b, 0, none⟩), .int .i64 n] w fun e w' => e = .returned (.bool true) ∧ ∃ n, w' = w.drewN n := by
  go_enter Try.func23, Try.ntmps23
  go_wp2
  go_quiet (fail)
  go_wp2
  go_ret
  exact ⟨rfl, _, rfl⟩

set_option maxHeartbeats 400000 in
theorem rroom_pos {base b : Nat} {B x c : Int} {L : List (Int × Int)} {v : Value} (n : Int) (w : World) (h : RfAt w base b B x c L v)
    (hL : ∀ p ∈ L, 0 ≤ p.2 ∧ p.2 ≤ 16777216) (hl : L.length ≤ 1000) (hc : 0 ≤ c) (hc' : c ≤ 1099511627776)
    (hB : (B == 0) = false) (hB0 : 0 ≤ B) (hB1 : B ≤ 16777216) (hn : 0 ≤ n) (hn' : n ≤ 16777216) :
    Calls Try.prog 23 #[.pointer (some ⟨b, 0, none⟩), .int .i64 n] w fun e w' => e = .returned (.bool (decide (n ≤ B - (c + sumN L)))) ∧ ∃ n, w' = w.drewN n := by
  have hs := sumN_nonneg hL
  have hs2 : 0 ≤ c + sumN L ∧ c + sumN L ≤ 2199023255552 := by omega
  have c0 := h.c0
  have H := Lib.hid h
  have HL := Lib.hid hL
  clear h hL
  go_enter Try.func23, Try.ntmps23
  go_wp2
  go_quiet ((go_at_call 21; exact Calls.quiet_of_same (rused_same _ (H.out.drewN _) HL.out hl hc hc')))
  go_wp2
  go_ret
  exact ⟨rfl, _, rfl⟩

theorem rroom_any {base b : Nat} {B x c : Int} {L : List (Int × Int)} {v : Value} (n : Int) (w : World) (h : RfAt w base b B x c L v)
    (hL : ∀ p ∈ L, 0 ≤ p.2 ∧ p.2 ≤ 16777216) (hl : L.length ≤ 1000) (hc : 0 ≤ c) (hc' : c ≤ 1099511627776)
    (hB0 : 0 ≤ B) (hB1 : B ≤ 16777216) (hn : 0 ≤ n) (hn' : n ≤ 16777216) (r : Bool) (hr : r = decide (B = 0 ∨ sumN L + c + n ≤ B)) :
    Calls Try.prog 23 #[.pointer (some ⟨b, 0, none⟩), .int .i64 n] w fun e w' => e = .returned (.bool r) ∧ ∃ n, w' = w.drewN n := by
  by_cases q : B = 0
  · subst q
    have : r = true := by simp [hr]
    rw [this]; exact rroom_zero b n w h.c0
  · have : r = decide (n ≤ B - (c + sumN L)) := by rw [hr]; congr 1; simp [q]; omega
    rw [this]; exact rroom_pos n w h hL hl hc hc' (by simpa using q) hB0 hB1 hn hn'

set_option maxHeartbeats 400000 in
theorem rtake_arg (b : Nat) (n : Int) (w : World) (h : n < 1 ∨ 16777216 < n) :
    Calls Try.prog 14 #[.pointer (some ⟨b, 0, none⟩), .int .i64 n] w fun e w' => e = .returned (.tuple #[.int .i64 0, .int .i64 2]) ∧ w = w' := by
  by_cases h0 : n < 1
  · go_enter Try.func14, Try.ntmps14
    go_wp2
    go_ret2
    exact ⟨rfl, rfl⟩
  · have h' : 16777216 < n := by omega
    clear h
    go_enter Try.func14, Try.ntmps14
    go_wp2
    go_ret2
    exact ⟨rfl, rfl⟩

set_option maxHeartbeats 400000 in
theorem rtake_room (b : Nat) (n : Int) (w : World) (h1 : 1 ≤ n) (h2 : n ≤ 16777216)
    (hroom : Calls Try.prog 23 #[.pointer (some ⟨b, 0, none⟩), .int .i64 n] w fun e w' => e = .returned (.bool false) ∧ ∃ k, w' = w.drewN k) :
    Calls Try.prog 14 #[.pointer (some ⟨b, 0, none⟩), .int .i64 n] w fun e w' => e = .returned (.tuple #[.int .i64 0, .int .i64 7]) ∧ ∃ k, w' = w.drewN k := by
  have HK := Lib.hid hroom; clear hroom
  have h3 : ¬ n < 1 := by omega
  have h4 : ¬ 16777216 < n := by omega
  go_enter Try.func14, Try.ntmps14
  go_wp2_with (go_at_call 23; refine HK.out.mono ?_; rintro e w' ⟨rfl, k, rfl⟩)
  go_ret2
  exact ⟨rfl, _, rfl⟩

set_option maxHeartbeats 400000 in
theorem rcharge_arg (b : Nat) (n : Int) (w : World) (h : n < 0 ∨ 16777216 < n) :
    Calls Try.prog 18 #[.pointer (some ⟨b, 0, none⟩), .int .i64 n] w fun e w' => e = .returned (.int .i64 2) ∧ w = w' := by
  by_cases h0 : n < 0
  · go_enter Try.func18, Try.ntmps18
    go_wp2
    go_ret
    exact ⟨rfl, rfl⟩
  · have h' : 16777216 < n := by omega
    clear h
    go_enter Try.func18, Try.ntmps18
    go_wp2
    go_ret
    exact ⟨rfl, rfl⟩

set_option maxHeartbeats 400000 in
theorem rcharge_room (b : Nat) (n : Int) (w : World) (h1 : 0 ≤ n) (h2 : n ≤ 16777216)
    (hroom : Calls Try.prog 23 #[.pointer (some ⟨b, 0, none⟩), .int .i64 n] w fun e w' => e = .returned (.bool false) ∧ ∃ k, w' = w.drewN k) :
    Calls Try.prog 18 #[.pointer (some ⟨b, 0, none⟩), .int .i64 n] w fun e w' => e = .returned (.int .i64 7) ∧ ∃ k, w' = w.drewN k := by
  have HK := Lib.hid hroom; clear hroom
  have h3 : ¬ n < 0 := by omega
  have h4 : ¬ 16777216 < n := by omega
  go_enter Try.func18, Try.ntmps18
  go_wp2_with (go_at_call 23; refine HK.out.mono ?_; rintro e w' ⟨rfl, k, rfl⟩)
  go_ret
  exact ⟨rfl, _, rfl⟩

theorem RfAt.setC {w : World} {base b : Nat} {B x c : Int} {L : List (Int × Int)} {v : Value} (h : RfAt w base b B x c L v) (c' : Int) : RfAt (w.setCell ⟨b, 2, none⟩ (.int .i64 c')) base b B x c' L v := by
  obtain ⟨c0, c1, c2, c3, f1, f2, f3, nb, lt, ow, ne⟩ := h
  have f := (Fr.refl (fun k => k = b) w).setCell (p := ⟨b, 2, none⟩) rfl (.int .i64 c')
  refine ⟨?_, ?_, ?_, ?_, ?_, ?_, ?_, nb, by simpa [World.setCell] using lt, own_fr2 ow f (fun k e q => ne (by rw [e, q])), ne⟩ <;> simp [go_sem, c0, c1, c2, c3, f1, f2, f3]

set_option maxHeartbeats 400000 in
theorem rcharge_ok {base b : Nat} {B x c : Int} {L : List (Int × Int)} {v : Value} (n : Int) (w : World) (h : RfAt w base b B x c L v)
    (h1 : 0 ≤ n) (h2 : n ≤ 16777216) (hc : 0 ≤ c) (hc' : c ≤ 1099511627776)
    (hroom : Calls Try.prog 23 #[.pointer (some ⟨b, 0, none⟩), .int .i64 n] w fun e w' => e = .returned (.bool true) ∧ ∃ k, w' = w.drewN k) :
    Calls Try.prog 18 #[.pointer (some ⟨b, 0, none⟩), .int .i64 n] w fun e w' => e = .returned (.int .i64 0) ∧ RfAt w' base b B x (c + n) L v ∧ Fr (fun k => k = b) w w' := by
  have HK := Lib.hid hroom; clear hroom
  have h3 : ¬ n < 0 := by omega
  have h4 : ¬ 16777216 < n := by omega
  have c2 := h.c2
  have f2 := h.f2
  have H := Lib.hid h; clear h
  go_enter Try.func18, Try.ntmps18
  go_wp2_with (go_at_call 23; refine HK.out.mono ?_; rintro e w' ⟨rfl, k, rfl⟩)
  go_ret
  exact ⟨rfl, (H.out.drewN k).setC _, Fr.setCell ((Fr.refl (fun k => k = b) w).drewN k) (p := ⟨b, 2, none⟩) rfl _⟩

set_option maxHeartbeats 400000 in
theorem rback_no {b : Nat} (n : Int) (w : World) (c : Int)
    (c2 : w.cell? ⟨b, 2, none⟩ = some (.int .i64 c)) (h : n < 0 ∨ c < n) :
    Calls Try.prog 20 #[.pointer (some ⟨b, 0, none⟩), .int .i64 n] w fun e w' => e = .returned (.bool false) ∧ w = w' := by
  by_cases h0 : n < 0
  · go_enter Try.func20, Try.ntmps20
    go_wp2
    go_ret
    exact ⟨rfl, rfl⟩
  · have h1 : c < n := by omega
    clear h
    go_enter Try.func20, Try.ntmps20
    go_wp2
    go_ret
    exact ⟨rfl, rfl⟩

set_option maxHeartbeats 400000 in
theorem rback_ok {base b : Nat} {B x c : Int} {L : List (Int × Int)} {v : Value} (n : Int) (w : World) (h : RfAt w base b B x c L v)
    (h1 : 0 ≤ n) (h2 : n ≤ c) (hc' : c ≤ 1099511627776) :
    Calls Try.prog 20 #[.pointer (some ⟨b, 0, none⟩), .int .i64 n] w fun e w' => e = .returned (.bool true) ∧ RfAt w' base b B x (c - n) L v ∧ Fr (fun k => k = b) w w' := by
  have h3 : ¬ n < 0 := by omega
  have h4 : ¬ c < n := by omega
  have c2 := h.c2
  have f2 := h.f2
  have H := Lib.hid h; clear h
  go_enter Try.func20, Try.ntmps20
  go_wp2
  go_ret
  exact ⟨rfl, H.out.setC _, Fr.setCell (Fr.refl (fun k => k = b) w) (p := ⟨b, 2, none⟩) rfl _⟩


theorem RfAt.setX {w : World} {base b : Nat} {B x c : Int} {L : List (Int × Int)} {v : Value} (h : RfAt w base b B x c L v) (x' : Int) : RfAt (w.setCell ⟨b, 1, none⟩ (.int .i64 x')) base b B x' c L v := by
  obtain ⟨c0, c1, c2, c3, f1, f2, f3, nb, lt, ow, ne⟩ := h
  have f := (Fr.refl (fun k => k = b) w).setCell (p := ⟨b, 1, none⟩) rfl (.int .i64 x')
  refine ⟨?_, ?_, ?_, ?_, ?_, ?_, ?_, nb, by simpa [World.setCell] using lt, own_fr2 ow f (fun k e q => ne (by rw [e, q])), ne⟩ <;> simp [go_sem, c0, c1, c2, c3, f1, f2, f3]

theorem RfAt.setL {w : World} {base b : Nat} {B x c : Int} {L L' : List (Int × Int)} {v v' : Value} {n : Nat} (h : RfAt w base b B x c L v)
    (ho : w.ownsRow base 53 2 v' n (flat L')) (hn : n = L'.length) (hne : v'.ownBlock ≠ some b) : RfAt (w.setCell ⟨b, 3, none⟩ v') base b B x c L' v' := by
  subst hn
  obtain ⟨c0, c1, c2, c3, f1, f2, f3, nb, lt, ow, ne⟩ := h
  have f := (Fr.refl (fun k => k = b) w).setCell (p := ⟨b, 3, none⟩) rfl v'
  refine ⟨?_, ?_, ?_, ?_, ?_, ?_, ?_, nb, by simpa [World.setCell] using lt, own_fr2 ho f (fun k e q => hne (by rw [e, q])), hne⟩ <;> simp [go_sem, c0, c1, c2, c3, f1, f2, f3]

theorem own_mono {w : World} {base base' e size : Nat} {v : Value} {n : Nat} {xs : List Value} (h : w.ownsRow base' e size v n xs) (hb : base ≤ base') : w.ownsRow base e size v n xs := by
  obtain ⟨h1, h2⟩ := h
  refine ⟨h1, ?_⟩
  rcases h2 with h2 | ⟨g, cap, cur, e, q, r⟩
  · exact .inl h2
  · exact .inr ⟨g, cap, cur, e, Nat.le_trans hb q, r⟩

theorem cell_two_at (w : World) (H : Nat) (hH : w.heap.size = H) (a b : Value) (t : TypeId) : ∀ j u, [a, b][j]? = some u → (w.alloc (.cells #[a, b] t)).cell? ((⟨H, 0, none⟩ : Addr).add j) = some u := by
  subst hH; exact cell_two_new w a b t

theorem two_one (x n : Int) : ∀ u ∈ [Value.int .i64 x, Value.int .i64 n], u.oneCell' = true := by
  intro u hu; simp at hu; rcases hu with rfl | rfl <;> rfl

/-- What stands behind an append onto a slice of the call's own: the arena is as it was, the new row is new. -/
theorem RfAt.app {w0 w w1 : World} {base b : Nat} {B x c : Int} {L M : List (Int × Int)} {v v0 v1 : Value} {o : Obj} {N : Nat} {xs : List Value} (h : RfAt w base b B x c L v) (hw : w0.heap.size ≤ w.heap.size)
    (hv0 : ∀ k, v0.ownBlock = some k → w0.heap.size ≤ k) (hb : b < w0.heap.size) (hv : ∀ k, v.ownBlock = some k → k < w0.heap.size)
    (ho : w1.ownsRow w0.heap.size 53 2 v1 N xs) (hx : xs = flat M) (hg : (w.alloc o).grownBy w1 v0.ownBlock) :
    RfAt w1 base b B x c L v ∧ w1.ownsRow w0.heap.size 53 2 v1 N (flat M) ∧ (∀ k, v1.ownBlock = some k → w0.heap.size ≤ k) ∧ Fr (fun k => w0.heap.size ≤ k) w w1 := by
  have f : Fr (fun k => w0.heap.size ≤ k) w w1 := ((Fr.refl _ w).alloc o).grown hg (fun k e _ => hv0 k e)
  refine ⟨h.fr f (by omega) (fun k e q => by have := hv k e; omega), hx ▸ ho, fun k e => (ho.lt k e).1, f⟩

set_option maxHeartbeats 800000 in
theorem rtake_ok {base b : Nat} {B x c : Int} {L : List (Int × Int)} {v : Value} (n : Int) (w : World) (h : RfAt w base b B x c L v) (hbase : base ≤ w.heap.size)
    (h1 : 1 ≤ n) (h2 : n ≤ 16777216) (hx : 1 ≤ x) (hx' : x ≤ 1099511627776) (hl : L.length ≤ 1000)
    (hroom : Calls Try.prog 23 #[.pointer (some ⟨b, 0, none⟩), .int .i64 n] w fun e w' => e = .returned (.bool true) ∧ ∃ k, w' = w.drewN k) :
    Calls Try.prog 14 #[.pointer (some ⟨b, 0, none⟩), .int .i64 n] w fun e w' => e = .returned (.tuple #[.int .i64 x, .int .i64 0]) ∧
      ∃ v', RfAt w' base b B (x + n + 1) c (L ++ [(x, n)]) v' ∧ (∀ k, v'.ownBlock = some k → w.heap.size ≤ k) ∧ Fr (fun k => k = b) w w' := by
  have HK := Lib.hid hroom; clear hroom
  have h3 : ¬ n < 1 := by omega
  have h4 : ¬ 16777216 < n := by omega
  obtain ⟨i0, hi, hz0, hz1, hz2⟩ := info_parts Try.info53
  have c1 := h.c1
  have c3 := h.c3
  have f1 := h.f1
  have f3 := h.f3
  have hvlt := fun k e => (h.own.lt k e).2
  have hblt := h.lt
  have HVL := Lib.hid hvlt
  clear hvlt
  rcases h.own.2 with ⟨rfl, hL0⟩ | ⟨g, cap, cur, rfl, hbg, hg, hn, hr⟩
  · obtain rfl : L = [] := List.eq_nil_of_length_eq_zero hL0
    have H := Lib.hid h; clear h hL0
    go_enter Try.func14, Try.ntmps14
    go_wp2_with (first
      | (go_at_call 23; refine HK.out.mono ?_; rintro e w' ⟨rfl, k, rfl⟩)
      | (at_builtin; refine wpList_append_lies _ rfl (.tmp 33) (.tmp 37) 43 rfl w.heap.size 53 i0 (.agg #[.int .i64 0, .int .i64 0]) 2 16 Try.underlying43 hi hz0 hz1 hz2 rfl (by decide) (.slice none 0 0) 0 [] rfl (World.ownsRow_nil _ _ _ _) _ 1 1 [.int .i64 x, .int .i64 n] rfl rfl (cell_two_at _ _ (by simp) _ _ _) (two_one x n) (by omega) (by unfold maxLen; omega) (by omega) (by simp) _ rfl ?_; intro g1 cap1 w1 hown1 hgrow1 _ _
         have R := RfAt.app (w0 := w) (M := [(x, n)]) ((H.out.drewN k).setX (x + n + 1)) (by simp) (by simp [Value.ownBlock]) hblt HVL.out hown1 rfl hgrow1
         have c3' := R.1.c3
         have f3' := R.1.f3
         have HR := Lib.hid R
         clear hown1 hgrow1 R))
    go_ret2
    refine ⟨rfl, _, HR.out.1.setL (own_mono HR.out.2.1 hbase) rfl (fun q => by have := HR.out.2.2.1 _ q; omega), HR.out.2.2.1, ?_⟩
    have f1 : Fr (fun k => k = b) w ((w.drewN k).setCell ⟨b, 1, none⟩ (.int .i64 (x + n + 1))) := Fr.setCell ((Fr.refl (fun k => k = b) w).drewN k) (p := ⟨b, 1, none⟩) rfl _
    have f2 := HR.out.2.2.2
    exact Fr.setCell (p := ⟨b, 3, none⟩) ⟨f2.os.trans f1.os, f2.tape.trans f1.tape, f2.output.trans f1.output, Nat.le_trans f1.size f2.size, fun i hi hs => (f2.block i (Nat.lt_of_lt_of_le hi f1.size) (by omega)).trans (f1.block i hi hs)⟩ rfl _
  · have H := Lib.hid h; clear h
    go_enter Try.func14, Try.ntmps14
    go_wp2_with (first
      | (go_at_call 23; refine HK.out.mono ?_; rintro e w' ⟨rfl, k, rfl⟩)
      | (at_builtin; refine wpList_append_own_at _ rfl (.const (.slice none 0 0)) (.tmp 32) 43 rfl w.heap.size 53 i0 (.agg #[.int .i64 0, .int .i64 0]) 2 16 Try.underlying43 hi hz0 hz1 hz2 rfl (by decide) (.slice none 0 0) 0 [] rfl (World.ownsRow_nil _ _ _ _) ⟨g, 0, none⟩ L.length cap (flat L) rfl (flat_length L) (fun j u hu => (((H.out.drewN k).setX (x + n + 1)).own.cells rfl j u hu)) (flat_one L) (by unfold maxLen; omega) (by omega) (by simp) ?_; intro v1 w1 hown1 hgrow1 _ hloc1
         have f1 : Fr (fun _ => False) ((w.drewN k).setCell ⟨b, 1, none⟩ (.int .i64 (x + n + 1))) w1 := (Fr.refl _ _).grown hgrow1 (fun k e _ => by cases e)
         have R1 := Lib.hid (RfAt.fr ((H.out.drewN k).setX (x + n + 1)) f1 (fun q => q) (fun _ _ q => q))
         have F1 := Lib.hid f1
         have O1 := Lib.hid hown1
         clear hown1 hgrow1 hloc1 f1)
      | (at_builtin; refine wpList_append_lies _ rfl (.tmp 33) (.tmp 37) 43 rfl w.heap.size 53 i0 (.agg #[.int .i64 0, .int .i64 0]) 2 16 Try.underlying43 hi hz0 hz1 hz2 rfl (by decide) v1 _ _ rfl (World.ownsRow.alloc O1.out _) _ 1 1 [.int .i64 x, .int .i64 n] rfl rfl (cell_two_at _ _ (by simp) _ _ _) (two_one x n) (by omega) (by unfold maxLen; omega) (by omega) (by have := F1.out.size; simp at this ⊢; omega) _ rfl ?_; intro g2 cap2 w2 hown2 hgrow2 _ _
         have R := RfAt.app (w0 := w) (M := L ++ [(x, n)]) R1.out (by have := F1.out.size; simpa using this) (fun k e => (O1.out.lt k e).1) hblt HVL.out hown2 (by rw [flat_append]; rfl) hgrow2
         have c3' := R.1.c3
         have f3' := R.1.f3
         have HR := Lib.hid R
         clear hown2 hgrow2 R))
    go_ret2
    have hr2 := HR.out
    simp only [Nat.zero_add] at hr2
    refine ⟨rfl, _, hr2.1.setL (own_mono hr2.2.1 hbase) (by simp) (fun q => by have := HR.out.2.2.1 _ q; omega), HR.out.2.2.1, ?_⟩
    have f0 : Fr (fun k => k = b) w ((w.drewN k).setCell ⟨b, 1, none⟩ (.int .i64 (x + n + 1))) := Fr.setCell ((Fr.refl (fun k => k = b) w).drewN k) (p := ⟨b, 1, none⟩) rfl _
    have f1 := f0.trans (F1.out.mono (T := fun k => k = b) (fun _ q => q.elim))
    have f2 := HR.out.2.2.2
    exact Fr.setCell (p := ⟨b, 3, none⟩) ⟨f2.os.trans f1.os, f2.tape.trans f1.tape, f2.output.trans f1.output, Nat.le_trans f1.size f2.size, fun i hi hs => (f2.block i (Nat.lt_of_lt_of_le hi f1.size) (by omega)).trans (f1.block i hi hs)⟩ rfl _


/-- An append onto a slice of the call's own, as a step of a region that draws. -/
theorem step_append_own_at {P : Program} {w : World} {ops : Array Oper} {o : Oper} {a : Act} {K : Act → World → Prop} {Q : Exit → Act → World → Prop} {E : Prop} (hgd : o.guard = none) (s x : Operand) (t : TypeId)
    (ho : o.op = .call { callee := .builtin .append, args := #[s, x], argTypes := #[t, t] })
    (base : Nat) (e : TypeId) (i : TypeInfo) (z : Value) (size bytes : Nat) (ht : P.underlying t = some (.slice e)) (hi : P.info? e = some i) (hz : i.zero = some z)
    (hsize : i.size = size) (hby : i.bytes = bytes) (hzs : z.cells.size = size) (hsz : 0 < size)
    (v : Value) (n : Nat) (xs : List Value) (hs : a.eval s = v) (hown : w.ownsRow base e size v n xs)
    (ad : Addr) (m c : Nat) (news : List Value) (hx : a.eval x = .slice (some ad) m c) (hl : news.length = m * size) (hnews : ∀ j u, news[j]? = some u → w.cell? (ad.add j) = some u) (h1 : ∀ u ∈ news, u.oneCell' = true)
    (h63 : n + m ≤ maxLen) (hbytes : (n + m) * bytes ≤ 140737488355328) (hbase : base ≤ w.heap.size)
    (h : ∀ v' w', w'.ownsRow base e size v' (n + m) (xs ++ news) → w.grownBy w' v.ownBlock → K (a.put o.dst v') w') :
    if Region.wanted o (yielded ops a.tmps) = true then Oper.wp P o a w K Q else E := by
  have hw : Region.wanted o (yielded ops a.tmps) = true := by simp [Region.wanted, hgd]
  rw [if_pos hw]
  obtain ⟨v', w', hr, h2, h3, _, _⟩ := run_append_own_at (P := P) w base t o.type e i z size bytes ht hi hz hsize hby hzs hsz v n xs hown ad m c news hl hnews h1 h63 hbytes hbase
  unfold Oper.wp execOp
  simp only [ho, resolve, invoke, builtin, Sem.run_bind, Sem.run_pure, Result.andThen_ok, List.map_toArray, List.map_cons, List.map_nil, hs, hx, hr]
  exact h v' w' h2 h3

theorem own_form {w : World} {base e size : Nat} {v : Value} {n : Nat} {xs : List Value} (h : w.ownsRow base e size v n xs) : ∃ a cap, v = .slice a n cap := by
  rcases h.2 with ⟨rfl, q⟩ | ⟨g, cap, cur, rfl, _⟩
  · exact ⟨none, 0, by rw [q]⟩
  · exact ⟨_, _, rfl⟩

theorem own_cap {w : World} {base e size : Nat} {a : Option Addr} {n cap : Nat} {xs : List Value} (h : w.ownsRow base e size (.slice a n cap) n xs) : n ≤ cap := by
  rcases h.2 with ⟨q, r⟩ | ⟨g, cap', cur, q, _, _, hn, _⟩
  · omega
  · cases q; exact hn

theorem prefix_at {w : World} {base b : Nat} {B x c : Int} {L : List (Int × Int)} {g cap : Nat} (h : RfAt w base b B x c L (.slice (some ⟨g, 0, none⟩) L.length cap)) {j : Nat} (hj : j ≤ L.length) :
    ∀ W, Fr (fun _ => False) w W → ∀ i u, (flat (L.take j))[i]? = some u → W.cell? ((⟨g, 0, none⟩ : Addr).add i) = some u := by
  intro W f i u hu
  refine (h.fr f (fun q => q) (fun _ _ q => q)).own.cells rfl i u ?_
  have e : flat L = flat (L.take j) ++ flat (L.drop j) := by rw [← flat_append, List.take_append_drop]
  rw [e, List.getElem?_append_left (List.getElem?_eq_some_iff.1 hu).1]; exact hu

theorem suffix_at {w : World} {base b : Nat} {B x c : Int} {L : List (Int × Int)} {g cap : Nat} (h : RfAt w base b B x c L (.slice (some ⟨g, 0, none⟩) L.length cap)) {j : Nat} (hj : j < L.length) :
    ∃ A : Addr, (if cap = j + 1 then some (⟨g, 0, none⟩ : Addr) else some ⟨g, (j + 1) * 2, none⟩) = some A ∧ ∀ W, Fr (fun _ => False) w W → ∀ i u, (flat (L.drop (j + 1)))[i]? = some u → W.cell? (A.add i) = some u := by
  have hc := own_cap h.own
  by_cases e : cap = j + 1
  · refine ⟨⟨g, 0, none⟩, by simp [e], fun W f i u hu => ?_⟩
    rw [List.drop_of_length_le (by omega)] at hu
    simp [flat] at hu
  · refine ⟨⟨g, (j + 1) * 2, none⟩, by simp [e], fun W f i u hu => ?_⟩
    have := (h.fr f (fun q => q) (fun _ _ q => q)).own.cells rfl ((j + 1) * 2 + i) u (by
      have e2 : flat L = flat (L.take (j + 1)) ++ flat (L.drop (j + 1)) := by rw [← flat_append, List.take_append_drop]
      have e3 : (flat (L.take (j + 1))).length = (j + 1) * 2 := by rw [flat_length]; simp; omega
      rw [e2, List.getElem?_append_right (by omega), e3, Nat.add_sub_cancel_left]; exact hu)
    rw [add_at] at this
    rw [Addr.add_lit]; exact this

theorem rm_split {L : List (Int × Int)} {j : Nat} {k : Int} (hj : j < L.length) (hk : L[j].1 = k) (hno : hs (L.take j) k = false) (hn : L.Pairwise (fun p q => p.1 ≠ q.1)) : rm L k = L.take j ++ L.drop (j + 1) ∧ hs L k = true := by
  have e : L = L.take j ++ (L[j] :: L.drop (j + 1)) := by rw [← List.drop_eq_getElem_cons hj, List.take_append_drop]
  have hno2 : hs (L.drop (j + 1)) k = false := by
    rw [e, List.pairwise_append] at hn
    rw [hs, List.any_eq_false]; intro q hq
    have := (List.pairwise_cons.1 hn.2.1).1 q hq
    simp; rw [← hk]; exact fun z => this z.symm
  have h1 := rm_of_not hno
  have h2 := rm_of_not hno2
  constructor
  · conv => lhs; rw [e]
    simp only [rm, List.filter_append, List.filter_cons] at h1 h2 ⊢
    rw [h1, h2, hk]; simp
  · rw [hs, List.any_eq_true]; exact ⟨L[j], List.getElem_mem hj, by simp [hk]⟩

set_option maxHeartbeats 800000 in
theorem rgive_any {base b : Nat} {B x c : Int} {L : List (Int × Int)} {v : Value} (k : Int) (w : World) (h : RfAt w base b B x c L v) (hbase : base ≤ w.heap.size) (hl : L.length ≤ 1000) (hnod : L.Pairwise (fun p q => p.1 ≠ q.1)) :
    Calls Try.prog 16 #[.pointer (some ⟨b, 0, none⟩), .int .i64 k] w fun e w' => e = .returned (.bool (hs L k)) ∧
      ∃ v', RfAt w' base b B x c (rm L k) v' ∧ (v' = v ∨ ∀ k, v'.ownBlock = some k → w.heap.size ≤ k) ∧ Fr (fun k => k = b) w w' := by
  obtain ⟨i0, hi, hz0, hz1, hz2⟩ := info_parts Try.info53
  have c3 := h.c3
  have f3 := h.f3
  have hblt := h.lt
  obtain ⟨a, cap, rfl, hcell⟩ := own_slice3 h.own
  have HC := Lib.hid hcell
  have H := Lib.hid h
  have HN := Lib.hid hnod
  clear hcell h hnod
  go_enter Try.func16, Try.ntmps16
  go_wp2
  go_loop [5] (fun i => ∃ j : Nat, j ≤ L.length ∧ i = .int .i64 j ∧ hs (L.take j) k = false) (fun i => L.length - (intOf i).toNat)
  case atStart => exact ⟨0, by omega, rfl, rfl⟩
  case round =>
    obtain ⟨j, hj, rfl, hno⟩ := hrel
    have HNO := Lib.hid hno
    clear hno
    by_cases hjl : j < L.length
    · obtain ⟨g, rfl, k0, k1⟩ := HC.out j hjl
      by_cases hk : L[j].1 = k
      · have hkb : (L[j].1 == k) = true := by simpa using hk
        have HK := Lib.hid hk
        clear hk
        obtain ⟨A, hA, hnews⟩ := suffix_at H.out hjl
        have hcap := own_cap H.out.own
        have HNW := Lib.hid hnews
        have HTK := Lib.hid (prefix_at H.out (Nat.le_of_lt hjl))
        clear hnews
        have q1 : (j : Int) ≤ cap := by omega
        have q2 : IntKind.i64.wrap ((j : Int) + 1) = (j : Int) + 1 := IntWalk.i64_in _ (by omega)
        have q3 : (0 : Int) ≤ (j : Int) + 1 := by omega
        have q4 : ((j : Int) + 1).toNat = j + 1 := by omega
        have q5 : ((j : Int) + 1) ≤ L.length := by omega
        go_wp2
        go_region_law (first
          | (refine step_append_own_at rfl (.const (.slice none 0 0)) (.tmp 31) 43 rfl w.heap.size 53 i0 (.agg #[.int .i64 0, .int .i64 0]) 2 16 Try.underlying43 hi hz0 hz1 hz2 rfl (by decide) (.slice none 0 0) 0 [] rfl (World.ownsRow_nil _ _ _ _) ⟨g, 0, none⟩ j cap (flat (L.take j)) (by simp [Act.eval, Act.put]) (by rw [flat_length]; simp; omega) (HTK.out _ ((Fr.refl _ w).drewN 1)) (flat_one _) (by unfold maxLen; omega) (by omega) (by simp) ?_; intro v1 w1 hown1 hgrow1
             have f1 : Fr (fun _ => False) w w1 := ((Fr.refl _ w).drewN 1).grown hgrow1 (fun k e _ => by cases e)
             have R1 := H.out.fr f1 (fun q => q) (fun _ _ q => q)
             have c31 := R1.c3
             have f31 := R1.f3
             have HR1 := Lib.hid R1
             have O1 := Lib.hid hown1
             have F1 := Lib.hid f1
             clear hown1 hgrow1 f1 R1)
          | (refine step_append_own_at rfl (.tmp 32) (.tmp 39) 43 rfl w.heap.size 53 i0 (.agg #[.int .i64 0, .int .i64 0]) 2 16 Try.underlying43 hi hz0 hz1 hz2 rfl (by decide) v1 _ _ rfl O1.out A (L.length - (j + 1)) (cap - (j + 1)) (flat (L.drop (j + 1))) (by simp [Act.eval, Act.put]) (by rw [flat_length]; simp) (HNW.out _ F1.out) (flat_one _) (by unfold maxLen; omega) (by omega) F1.out.size ?_; intro v2 w2 hown2 hgrow2
             obtain ⟨a2, cap2, rfl⟩ := own_form hown2
             have f2 : Fr (fun k => w.heap.size ≤ k) w w2 := (F1.out.mono (T := fun k => w.heap.size ≤ k) (fun _ q => q.elim)).grown hgrow2 (fun k e _ => (O1.out.lt k e).1)
             have R2 := H.out.fr f2 (by omega) (fun k e q => by have := (H.out.own.lt k e).2; omega)
             have c32 := R2.c3
             have f32 := R2.f3
             have HR2 := Lib.hid R2
             have O2 := Lib.hid hown2
             have F2 := Lib.hid f2
             clear hown2 hgrow2 f2 R2))
        all_goals go_wp2
        all_goals go_ret
        all_goals
          have hsp := rm_split hjl HK.out HNO.out HN.out
          have o2 := O2.out
          simp only [Nat.zero_add, List.nil_append] at o2
          rw [← flat_append, ← hsp.1] at o2
          have hne : ∀ k', Value.ownBlock (.slice a2 (j + (L.length - (j + 1))) cap2) = some k' → w.heap.size ≤ k' := fun k' e => (o2.lt k' e).1
          refine ⟨by rw [hsp.2]; rfl, _, HR2.out.setL (own_mono o2 hbase) (by rw [hsp.1]; simp; omega) (fun q => by have := hne _ q; omega), .inr hne, ?_⟩
          exact Fr.setCell (S := fun k => k = b) (p := ⟨b, 3, none⟩) ⟨F2.out.os, F2.out.tape, F2.out.output, F2.out.size, fun i hi hs => F2.out.block i hi (by omega)⟩ rfl _
      · have hkb : (L[j].1 == k) = false := by simpa using hk
        have HK := Lib.hid hk
        clear hk
        go_wp2
        go_round
        case rel => exact ⟨j + 1, by omega, by go_num, by rw [List.take_succ_eq_append_getElem hjl, hs_snoc, HNO.out]; simpa using HK.out⟩
        case measure => simp [intOf]; omega
    · obtain rfl : j = L.length := by omega
      go_wp2
      go_ret
      have hno := HNO.out
      rw [List.take_length] at hno
      refine ⟨by rw [hno]; rfl, _, by rw [rm_of_not hno]; exact H.out, .inl rfl, Fr.refl _ _⟩

end Go.Proofs.Ytplhhmhdmcohfaa
