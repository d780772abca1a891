/-
  An object's leads; the reader's weight; a binary.
-/
import Derived.Test.YtohgkfnbjfhniaaWf
namespace Go.Proofs.Ytohgkfnbjfhniaa
open Go.RowKit

/-- Which of an object's words may lead somewhere. -/
def leadsP (kind : Int) (n : Nat) : Int × Int := if kind = -1 then (0, 2) else if kind = 0 then (1, n) else if kind = 5 then (1, 2) else (0, 0)

set_option maxHeartbeats 4000000 in
theorem leads_any (kind : Int) (a : Option Addr) (n c : Nat) (w : World) : Calls Try.prog 43 #[.agg #[.int .i64 kind, .slice a n c]] w fun e w' => e = .returned (.tuple #[.int .i64 (leadsP kind n).1, .int .i64 (leadsP kind n).2]) ∧ Below w.heap.size w w' := by
  have HB := Lib.hid ((Below.refl w.heap.size w).alloc (Nat.le_refl _) (.cells #[.int .i64 kind, .slice a n c] 70))
  by_cases h1 : kind = -1
  · subst h1
    go_enter Try.func43, Try.ntmps43
    go_wp2_with fail
    go_ret2
    exact ⟨rfl, HB.out⟩
  · by_cases h2 : kind = 0
    · subst h2
      go_enter Try.func43, Try.ntmps43
      go_wp2_with fail
      go_region
      go_wp2_with fail
      go_ret2
      exact ⟨rfl, HB.out.drew⟩
    · by_cases h3 : kind = 5
      · subst h3
        go_enter Try.func43, Try.ntmps43
        go_wp2_with fail
        go_ret2
        exact ⟨rfl, HB.out⟩
      · go_enter Try.func43, Try.ntmps43
        go_wp2_with fail
        go_ret2
        exact ⟨by simp [leadsP, h1, h2, h3], HB.out⟩

/-- The reader, as it lies. -/
def RdAt (w : World) (R : Nat) (m s : Value) (asks : Bool) (left : Int) : Prop := w.heap[R]? = some (.cells #[m, s, .bool asks, .int .i64 left] 86 (0, 0))

set_option maxHeartbeats 4000000 in
theorem weighs_any (R : Nat) (m s : Value) (asks : Bool) (left n : Int) (w : World) (h : RdAt w R m s asks left) (hl : -9000000000000000000 ≤ left ∧ left ≤ 10000) (hn : 0 ≤ n ∧ n ≤ 1000000) :
    Calls Try.prog 56 #[.pointer (some ⟨R, 0, none⟩), .int .i64 n] w fun e w' => e = .returned (.bool (decide (0 ≤ left - n))) ∧ RdAt w' R m s asks (left - n) ∧ w.grownBy w' (some R) := by
  have hw : IntKind.i64.wrap (left - n) = left - n := IntWalk.i64_in _ (by omega)
  have c3 : w.cell? ⟨R, 3, none⟩ = some (.int .i64 left) := by unfold RdAt at h; simp [World.cell?, h]
  have c4 : w.frozen? ⟨R, 3, none⟩ = false := by unfold RdAt at h; simp [World.frozen?, h]
  go_enter Try.func56, Try.ntmps56
  go_wp2_with fail
  go_ret
  refine ⟨by congr 2; simp, ?_, ⟨rfl, rfl, rfl, by simp [World.setCell], fun k hk hne => Below.heap_setCell _ _ _ _ (fun e => hne (by simp [e]))⟩⟩
  unfold RdAt at h ⊢
  simp [World.setCell, h, Array.getElem?_modify]

theorem grown_trans {a b c : World} {R : Nat} (h : a.grownBy b (some R)) (k : b.grownBy c (some R)) : a.grownBy c (some R) :=
  ⟨k.os.trans h.os, k.tape.trans h.tape, k.output.trans h.output, Nat.le_trans h.size k.size, fun i hi hne => (k.block i (Nat.lt_of_lt_of_le hi h.size) hne).trans (h.block i hi hne)⟩

theorem grown_below {a b : World} {R : Nat} (h : Below a.heap.size a b) : a.grownBy b (some R) :=
  ⟨h.os, h.tape, h.output, h.size, fun i hi _ => h.block i hi⟩

theorem RdAt.below {w w' : World} {R : Nat} {m s : Value} {asks : Bool} {left : Int} (h : RdAt w R m s asks left) (hb : Below w.heap.size w w') : RdAt w' R m s asks left := by
  unfold RdAt at *
  have hlt : R < w.heap.size := (Array.getElem?_eq_some_iff.1 h).1
  rw [hb.block R hlt, h]

theorem RdAt.at {w w' : World} {B R : Nat} {m s : Value} {asks : Bool} {left : Int} (h : RdAt w R m s asks left) (hb : Below B w w') (hR : R < B) : RdAt w' R m s asks left := by
  unfold RdAt at *
  rw [hb.block R hR, h]

theorem grown_then {a b c : World} {R : Nat} (h : a.grownBy b (some R)) (k : Below a.heap.size b c) : a.grownBy c (some R) :=
  ⟨k.os.trans h.os, k.tape.trans h.tape, k.output.trans h.output, Nat.le_trans h.size k.size, fun i hi hne => (k.block i hi).trans (h.block i hi hne)⟩

/-- A binary's term. -/
abbrev binV (s : ByteArray) : Value := .agg #[.int .i64 9, .int .i64 0, .bool false, .slice none 0 0, .int .u64 0, .string s, .slice none 0 0]

def binLeft (left : Int) (n : Nat) : Int := if n ≤ 400 then left - (n : Int) / 8 else left
def binOk (left : Int) (n : Nat) : Bool := decide (n ≤ 400) && decide (0 ≤ left - (n : Int) / 8)

set_option maxHeartbeats 4000000 in
set_option maxRecDepth 100000 in
theorem binary_any (R : Nat) (m s : Value) (asks : Bool) (left : Int) (b : ByteArray) (w : World) (h : RdAt w R m s asks left) (hl : -9000000000000000000 ≤ left ∧ left ≤ 10000) (hb : b.size ≤ 100000000) :
    Calls Try.prog 78 #[.pointer (some ⟨R, 0, none⟩), .string b] w fun e w' => e = .returned (.tuple #[binV b, .bool (binOk left b.size)]) ∧ RdAt w' R m s asks (binLeft left b.size) ∧ w.grownBy w' (some R) := by
  have hR : R < w.heap.size := (Array.getElem?_eq_some_iff.1 h).1
  have HH := Lib.hid h
  clear h
  go_enter Try.func78, Try.ntmps78
  by_cases hs : b.size ≤ 400
  · have q1 : (b.size : Int) ≤ 400 := by omega
    have q2 : Int.tdiv (b.size : Int) 8 = ((b.size / 8 : Nat) : Int) := rfl
    have HB := Lib.hid ((Below.refl w.heap.size w).alloc (Nat.le_refl _) (.cells #[.int .i64 0, .int .i64 0, .bool false, .slice none 0 0, .int .u64 0, .string ⟨#[]⟩, .slice none 0 0] 40))
    go_wp2_with fail
    refine (weighs_any R m s asks left ((b.size : Int) / 8) _ (HH.out.below HB.out) hl (by omega)).mono ?_
    rintro e w1 ⟨rfl, h1, g1⟩
    have hH : w1.heap[w.heap.size]? = some (.cells #[.int .i64 0, .int .i64 0, .bool false, .slice none 0 0, .int .u64 0, .string ⟨#[]⟩, .slice none 0 0] 40) := by
      rw [g1.block w.heap.size (by simp) (by simp; omega)]
      exact World.alloc_heap_new w _
    have c0 : w1.cell? ⟨w.heap.size, 0, none⟩ = some (.int .i64 0) := by simp [World.cell?, hH]
    have z0 : w1.frozen? ⟨w.heap.size, 0, none⟩ = false := by simp [World.frozen?, hH]
    have c1 : w1.cell? ⟨w.heap.size, 1, none⟩ = some (.int .i64 0) := by simp [World.cell?, hH]
    have z1 : w1.frozen? ⟨w.heap.size, 1, none⟩ = false := by simp [World.frozen?, hH]
    have c2 : w1.cell? ⟨w.heap.size, 2, none⟩ = some (.bool false) := by simp [World.cell?, hH]
    have z2 : w1.frozen? ⟨w.heap.size, 2, none⟩ = false := by simp [World.frozen?, hH]
    have c3 : w1.cell? ⟨w.heap.size, 3, none⟩ = some (.slice none 0 0) := by simp [World.cell?, hH]
    have z3 : w1.frozen? ⟨w.heap.size, 3, none⟩ = false := by simp [World.frozen?, hH]
    have c4 : w1.cell? ⟨w.heap.size, 4, none⟩ = some (.int .u64 0) := by simp [World.cell?, hH]
    have z4 : w1.frozen? ⟨w.heap.size, 4, none⟩ = false := by simp [World.frozen?, hH]
    have c5 : w1.cell? ⟨w.heap.size, 5, none⟩ = some (.string ⟨#[]⟩) := by simp [World.cell?, hH]
    have z5 : w1.frozen? ⟨w.heap.size, 5, none⟩ = false := by simp [World.frozen?, hH]
    have c6 : w1.cell? ⟨w.heap.size, 6, none⟩ = some (.slice none 0 0) := by simp [World.cell?, hH]
    have z6 : w1.frozen? ⟨w.heap.size, 6, none⟩ = false := by simp [World.frozen?, hH]
    have H1 := Lib.hid h1
    have HHH := Lib.hid hH
    clear hH
    have G1 := Lib.hid (grown_trans (grown_below HB.out) g1)
    clear h1 g1
    go_wp2_with fail
    have HS := Lib.hid (((((((Below.refl w.heap.size w1).setCell (p := ⟨w.heap.size, 0, none⟩) (Nat.le_refl _) (.int .i64 9)).setCell (p := ⟨w.heap.size, 1, none⟩) (Nat.le_refl _) (.int .i64 0)).setCell (p := ⟨w.heap.size, 2, none⟩) (Nat.le_refl _) (.bool false)).setCell (p := ⟨w.heap.size, 3, none⟩) (Nat.le_refl _) (.slice none 0 0)).setCell (p := ⟨w.heap.size, 4, none⟩) (Nat.le_refl _) (.int .u64 0)).setCell (p := ⟨w.heap.size, 5, none⟩) (Nat.le_refl _) (.string b) |>.setCell (p := ⟨w.heap.size, 6, none⟩) (Nat.le_refl _) (.slice none 0 0))
    refine bodyPost_ret (v := .tuple #[binV b, .bool (decide ((b.size : Int) / 8 ≤ left))]) (by simp [results, Try.results78, go_sem, c0, c1, c2, c3, c4, c5, c6]) rfl ⟨?_, ?_, grown_then G1.out HS.out⟩
    · congr 3
      simp [binOk, hs]
    · rw [show binLeft left b.size = left - (b.size : Int) / 8 by simp [binLeft, hs]]
      exact H1.out.at HS.out hR
  · have q1 : ¬ (b.size : Int) ≤ 400 := by omega
    have HB := Lib.hid ((Below.refl w.heap.size w).alloc (Nat.le_refl _) (.cells #[.int .i64 9, .int .i64 0, .bool false, .slice none 0 0, .int .u64 0, .string b, .slice none 0 0] 40))
    go_wp2_with fail
    refine bodyPost_ret (v := .tuple #[binV b, .bool false]) (by simp [results, Try.results78, go_sem]) rfl ⟨?_, ?_, grown_below HB.out⟩
    · simp [binOk, hs]
    · simpa [binLeft, hs] using HH.out.below HB.out

end Go.Proofs.Ytohgkfnbjfhniaa
