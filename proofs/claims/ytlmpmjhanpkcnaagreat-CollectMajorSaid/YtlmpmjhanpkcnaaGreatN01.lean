/-
  An object's leads; the reader's weight; a binary.
  Does a word lead to where a region is not?
  Floats: which bits may a float have? (As in chapter 25's text Tn, renumbered.)
  Integers: may a number be? (As in chapter 25's text Tn, renumbered.)
  Integers: is a number small? (As in chapter 25's text Tr, renumbered.)
  Objects of a dump, in plain words.
  The bytes of a head's words: mem.Bytes.
-/
import Derived.Test.YtlmpmjhanpkcnaaGreatN00
import Derived.Deep.RegionWith
import Derived.Deep.RegionHeld3
import Derived.StillTailTactics
import Derived.Laws.Externs
import Derived.Deep.CutBlock
import Derived.Laws.Bits64b
import Derived.Lib.AppendStr
import Derived.Laws.BytesArg
import Derived.Lib.AppendIntMem
import Derived.Lib.SmallJoins
set_option linter.unusedVariables false
set_option linter.unusedSimpArgs false
namespace Go.Proofs.YtlmpmjhanpkcnaaGreat
open Go.RowKit

/-- Which of an object's words may lead somewhere. -/
def leadsP (kind : Int) (n : Nat) : Int × Int := if kind = -1 then (0, 2) else if kind = 0 then (1, n) else if kind = 5 then (1, 2) else (0, 0)

set_option maxHeartbeats 4000000 in
theorem leads_any (kind : Int) (a : Option Addr) (n c : Nat) (w : World) : Calls Tryz.prog 61 #[.agg #[.int .i64 kind, .slice a n c]] w fun e w' => e = .returned (.tuple #[.int .i64 (leadsP kind n).1, .int .i64 (leadsP kind n).2]) ∧ Below w.heap.size w w' := by
  have HB := Lib.hid ((Below.refl w.heap.size w).alloc (Nat.le_refl _) (.cells #[.int .i64 kind, .slice a n c] 107))
  by_cases h1 : kind = -1
  · subst h1
    go_enter Tryz.func61, Tryz.ntmps61
    go_wp2_with fail
    go_ret2
    exact ⟨rfl, HB.out⟩
  · by_cases h2 : kind = 0
    · subst h2
      go_enter Tryz.func61, Tryz.ntmps61
      go_wp2_with fail
      go_region
      go_wp2_with fail
      go_ret2
      exact ⟨rfl, HB.out.drew⟩
    · by_cases h3 : kind = 5
      · subst h3
        go_enter Tryz.func61, Tryz.ntmps61
        go_wp2_with fail
        go_ret2
        exact ⟨rfl, HB.out⟩
      · go_enter Tryz.func61, Tryz.ntmps61
        go_wp2_with fail
        go_ret2
        exact ⟨by simp [leadsP, h1, h2, h3], HB.out⟩

/-- The reader, as it lies. -/
def RdAt (w : World) (R : Nat) (m s : Value) (asks : Bool) (left : Int) : Prop := w.heap[R]? = some (.cells #[m, s, .bool asks, .int .i64 left] 153 (0, 0))

set_option maxHeartbeats 4000000 in
theorem weighs_any (R : Nat) (m s : Value) (asks : Bool) (left n : Int) (w : World) (h : RdAt w R m s asks left) (hl : -9000000000000000000 ≤ left ∧ left ≤ 10000) (hn : 0 ≤ n ∧ n ≤ 1000000) :
    Calls Tryz.prog 125 #[.pointer (some ⟨R, 0, none⟩), .int .i64 n] w fun e w' => e = .returned (.bool (decide (0 ≤ left - n))) ∧ RdAt w' R m s asks (left - n) ∧ w.grownBy w' (some R) := by
  have hw : IntKind.i64.wrap (left - n) = left - n := IntWalk.i64_in _ (by omega)
  have c3 : w.cell? ⟨R, 3, none⟩ = some (.int .i64 left) := by unfold RdAt at h; simp [World.cell?, h]
  have c4 : w.frozen? ⟨R, 3, none⟩ = false := by unfold RdAt at h; simp [World.frozen?, h]
  go_enter Tryz.func125, Tryz.ntmps125
  go_wp2_with fail
  go_ret
  refine ⟨by congr 2; simp, ?_, ⟨rfl, rfl, rfl, by simp [World.setCell], fun k hk hne => Below.heap_setCell _ _ _ _ (fun e => hne (by simp [e]))⟩⟩
  unfold RdAt at h ⊢
  simp [World.setCell, h, Array.getElem?_modify]

theorem grown_trans {a b c : World} {R : Nat} (h : a.grownBy b (some R)) (k : b.grownBy c (some R)) : a.grownBy c (some R) :=
  ⟨k.os.trans h.os, k.tape.trans h.tape, k.output.trans h.output, Nat.le_trans h.size k.size, fun i hi hne => (k.block i (Nat.lt_of_lt_of_le hi h.size) hne).trans (h.block i hi hne)⟩

theorem grown_below {a b : World} {R : Nat} (h : Below a.heap.size a b) : a.grownBy b (some R) :=
  ⟨h.os, h.tape, h.output, h.size, fun i hi _ => h.block i hi⟩

theorem RdAt.below {w w' : World} {R : Nat} {m s : Value} {asks : Bool} {left : Int} (h : RdAt w R m s asks left) (hb : Below w.heap.size w w') : RdAt w' R m s asks left := by
  unfold RdAt at *
  have hlt : R < w.heap.size := (Array.getElem?_eq_some_iff.1 h).1
  rw [hb.block R hlt, h]

theorem RdAt.at {w w' : World} {B R : Nat} {m s : Value} {asks : Bool} {left : Int} (h : RdAt w R m s asks left) (hb : Below B w w') (hR : R < B) : RdAt w' R m s asks left := by
  unfold RdAt at *
  rw [hb.block R hR, h]

theorem grown_then {a b c : World} {R : Nat} (h : a.grownBy b (some R)) (k : Below a.heap.size b c) : a.grownBy c (some R) :=
  ⟨k.os.trans h.os, k.tape.trans h.tape, k.output.trans h.output, Nat.le_trans h.size k.size, fun i hi hne => (k.block i hi).trans (h.block i hi hne)⟩

/-- A binary's term. -/
abbrev binV (s : ByteArray) : Value := .agg #[.int .i64 9, .int .i64 0, .bool false, .slice none 0 0, .int .u64 0, .string s, .slice none 0 0]

def binLeft (left : Int) (n : Nat) : Int := if n ≤ 400 then left - (n : Int) / 8 else left
def binOk (left : Int) (n : Nat) : Bool := decide (n ≤ 400) && decide (0 ≤ left - (n : Int) / 8)

set_option maxHeartbeats 4000000 in
set_option maxRecDepth 100000 in
theorem binary_any (R : Nat) (m s : Value) (asks : Bool) (left : Int) (b : ByteArray) (w : World) (h : RdAt w R m s asks left) (hl : -9000000000000000000 ≤ left ∧ left ≤ 10000) (hb : b.size ≤ 100000000) :
    Calls Tryz.prog 135 #[.pointer (some ⟨R, 0, none⟩), .string b] w fun e w' => e = .returned (.tuple #[binV b, .bool (binOk left b.size)]) ∧ RdAt w' R m s asks (binLeft left b.size) ∧ w.grownBy w' (some R) := by
  have hR : R < w.heap.size := (Array.getElem?_eq_some_iff.1 h).1
  have HH := Lib.hid h
  clear h
  go_enter Tryz.func135, Tryz.ntmps135
  by_cases hs : b.size ≤ 400
  · have q1 : (b.size : Int) ≤ 400 := by omega
    have q2 : Int.tdiv (b.size : Int) 8 = ((b.size / 8 : Nat) : Int) := rfl
    have HB := Lib.hid ((Below.refl w.heap.size w).alloc (Nat.le_refl _) (.cells #[.int .i64 0, .int .i64 0, .bool false, .slice none 0 0, .int .u64 0, .string ⟨#[]⟩, .slice none 0 0] 81))
    go_wp2_with fail
    refine (weighs_any R m s asks left ((b.size : Int) / 8) _ (HH.out.below HB.out) hl (by omega)).mono ?_
    rintro e w1 ⟨rfl, h1, g1⟩
    have hH : w1.heap[w.heap.size]? = some (.cells #[.int .i64 0, .int .i64 0, .bool false, .slice none 0 0, .int .u64 0, .string ⟨#[]⟩, .slice none 0 0] 81) := by
      rw [g1.block w.heap.size (by simp) (by simp; omega)]
      exact World.alloc_heap_new w _
    have c0 : w1.cell? ⟨w.heap.size, 0, none⟩ = some (.int .i64 0) := by simp [World.cell?, hH]
    have z0 : w1.frozen? ⟨w.heap.size, 0, none⟩ = false := by simp [World.frozen?, hH]
    have c1 : w1.cell? ⟨w.heap.size, 1, none⟩ = some (.int .i64 0) := by simp [World.cell?, hH]
    have z1 : w1.frozen? ⟨w.heap.size, 1, none⟩ = false := by simp [World.frozen?, hH]
    have c2 : w1.cell? ⟨w.heap.size, 2, none⟩ = some (.bool false) := by simp [World.cell?, hH]
    have z2 : w1.frozen? ⟨w.heap.size, 2, none⟩ = false := by simp [World.frozen?, hH]
    have c3 : w1.cell? ⟨w.heap.size, 3, none⟩ = some (.slice none 0 0) := by simp [World.cell?, hH]
    have z3 : w1.frozen? ⟨w.heap.size, 3, none⟩ = false := by simp [World.frozen?, hH]
    have c4 : w1.cell? ⟨w.heap.size, 4, none⟩ = some (.int .u64 0) := by simp [World.cell?, hH]
    have z4 : w1.frozen? ⟨w.heap.size, 4, none⟩ = false := by simp [World.frozen?, hH]
    have c5 : w1.cell? ⟨w.heap.size, 5, none⟩ = some (.string ⟨#[]⟩) := by simp [World.cell?, hH]
    have z5 : w1.frozen? ⟨w.heap.size, 5, none⟩ = false := by simp [World.frozen?, hH]
    have c6 : w1.cell? ⟨w.heap.size, 6, none⟩ = some (.slice none 0 0) := by simp [World.cell?, hH]
    have z6 : w1.frozen? ⟨w.heap.size, 6, none⟩ = false := by simp [World.frozen?, hH]
    have H1 := Lib.hid h1
    have HHH := Lib.hid hH
    clear hH
    have G1 := Lib.hid (grown_trans (grown_below HB.out) g1)
    clear h1 g1
    go_wp2_with fail
    have HS := Lib.hid (((((((Below.refl w.heap.size w1).setCell (p := ⟨w.heap.size, 0, none⟩) (Nat.le_refl _) (.int .i64 9)).setCell (p := ⟨w.heap.size, 1, none⟩) (Nat.le_refl _) (.int .i64 0)).setCell (p := ⟨w.heap.size, 2, none⟩) (Nat.le_refl _) (.bool false)).setCell (p := ⟨w.heap.size, 3, none⟩) (Nat.le_refl _) (.slice none 0 0)).setCell (p := ⟨w.heap.size, 4, none⟩) (Nat.le_refl _) (.int .u64 0)).setCell (p := ⟨w.heap.size, 5, none⟩) (Nat.le_refl _) (.string b) |>.setCell (p := ⟨w.heap.size, 6, none⟩) (Nat.le_refl _) (.slice none 0 0))
    refine bodyPost_ret (v := .tuple #[binV b, .bool (decide ((b.size : Int) / 8 ≤ left))]) (by simp [results, Tryz.results135, go_sem, c0, c1, c2, c3, c4, c5, c6]) rfl ⟨?_, ?_, grown_then G1.out HS.out⟩
    · congr 3
      simp [binOk, hs]
    · rw [show binLeft left b.size = left - (b.size : Int) / 8 by simp [binLeft, hs]]
      exact H1.out.at HS.out hR
  · have q1 : ¬ (b.size : Int) ≤ 400 := by omega
    have HB := Lib.hid ((Below.refl w.heap.size w).alloc (Nat.le_refl _) (.cells #[.int .i64 9, .int .i64 0, .bool false, .slice none 0 0, .int .u64 0, .string b, .slice none 0 0] 81))
    go_wp2_with fail
    refine bodyPost_ret (v := .tuple #[binV b, .bool false]) (by simp [results, Tryz.results135, go_sem]) rfl ⟨?_, ?_, grown_below HB.out⟩
    · simp [binOk, hs]
    · simpa [binLeft, hs] using HH.out.below HB.out

end Go.Proofs.YtlmpmjhanpkcnaaGreat

namespace Go.Proofs.YtlmpmjhanpkcnaaGreat
open Go.RowKit

/-- Does a word lead to where a region is not? -/
def leavesP (f : Frg) (w : Nat) : Bool := (decide (tagW w = 4) || decide (tagW w = 5)) && !inP f.1 f.2.length (loadW w)

theorem loadW_in (w : Nat) (hw : w < 18446744073709551616) : -9223372036854775808 ≤ loadW w ∧ loadW w ≤ 9223372036854775807 := by
  unfold loadW
  split
  · split <;> omega
  · omega

set_option maxHeartbeats 4000000 in
set_option maxRecDepth 100000 in
theorem leaves_any (f : Frg) (wa : Option Addr) (wc : Nat) (x : Nat) (hx : x < 18446744073709551616) (w : World) : Calls Tryz.prog 72 #[.agg #[.int .i64 f.1, .slice wa f.2.length wc], .int .u64 x] w fun e w' => e = .returned (.bool (leavesP f x)) ∧ Below w.heap.size w w' := by
  obtain ⟨fa, fw⟩ := f
  have HB := Lib.hid ((Below.refl w.heap.size w).alloc (Nat.le_refl _) (.cells #[.int .i64 fa, .slice wa fw.length wc] 24))
  obtain ⟨t, ht⟩ : ∃ t, tagW x = t := ⟨_, rfl⟩
  have hl := loadW_in x hx
  go_enter Tryz.func72, Tryz.ntmps72
  go_wp2_with fail
  refine (tag_any x hx _).mono ?_
  rintro e w1 ⟨rfl, rfl⟩
  rw [ht]
  obtain ⟨u, hu⟩ : ∃ u : Int, (t : Int) = u := ⟨_, rfl⟩
  rw [hu]
  by_cases h4 : t = 4
  · have HT := Lib.hid (show tagW x = 4 by rw [ht, h4])
    have q4 : u = 4 := by omega
    clear ht h4 hu
    subst q4
    go_wp2_with fail
    have e0 : (w.alloc (.cells #[.int .i64 fa, .slice wa fw.length wc] 24)).drew.cell? ⟨w.heap.size, 0, none⟩ = some (.int .i64 fa) := by simp
    have e1 : (w.alloc (.cells #[.int .i64 fa, .slice wa fw.length wc] 24)).drew.cell? ⟨w.heap.size, 1, none⟩ = some (.slice wa fw.length wc) := by simp
    have hbd : Below w.heap.size w (w.alloc (.cells #[.int .i64 fa, .slice wa fw.length wc] 24)).drew := HB.out.drew
    refine wp_region_still_tail 10 (by kernel_rfl) (by kernel_rfl) ?_
    simp only [List.take_succ_cons, List.take_zero, List.drop_succ_cons, List.drop_zero]
    change wpStill _ _ (w.alloc (.cells #[.int .i64 fa, .slice wa fw.length wc] 24)).drew (fun a' => wpList _ _ _ _ a' (w.alloc (.cells #[.int .i64 fa, .slice wa fw.length wc] 24)).drew) _ _
    generalize (w.alloc (.cells #[.int .i64 fa, .slice wa fw.length wc] 24)).drew = wd at *
    repeat still_step
    still_call (load_any x hx _)
    refine wpStill_nil ?_
    go_wp2_with fail
    refine (in_any fa (loadW x) wa fw.length wc _ hl).mono ?_
    rintro e w3 ⟨rfl, hb3⟩
    have HB3 := Lib.hid (hbd.trans (hb3.mono hbd.size))
    clear hb3
    go_wp2_with fail
    go_ret
    exact ⟨by simp [leavesP, HT.out], HB3.out⟩
  · by_cases h5 : t = 5
    · have HT := Lib.hid (show tagW x = 5 by rw [ht, h5])
      have q5 : u = 5 := by omega
      clear ht h4 h5 hu
      subst q5
      go_wp2_with fail
      have e0 : (w.alloc (.cells #[.int .i64 fa, .slice wa fw.length wc] 24)).cell? ⟨w.heap.size, 0, none⟩ = some (.int .i64 fa) := by simp
      have e1 : (w.alloc (.cells #[.int .i64 fa, .slice wa fw.length wc] 24)).cell? ⟨w.heap.size, 1, none⟩ = some (.slice wa fw.length wc) := by simp
      go_region_held3 (fun w' => w'.cell? ⟨w.heap.size, 0, none⟩ = some (.int .i64 fa) ∧ w'.cell? ⟨w.heap.size, 1, none⟩ = some (.slice wa fw.length wc)) (first | exact ⟨d0, d1⟩ | exact ⟨e0, e1⟩ | go_keep) (first
        | (go_at_call 84; refine (load_any x hx _).mono ?_; rintro e w2 ⟨rfl, rfl⟩)
        | (go_at_call 48; refine (in_any fa (loadW x) wa fw.length wc _ hl).mono ?_; rintro e w3 ⟨rfl, hb3⟩
           have HB3 := Lib.hid (HB.out.trans (Below.trans (Below.drew (Below.refl _ _)) (hb3.mono HB.out.size)))
           have d0 := (hb3.cell (p := ⟨w.heap.size, 0, none⟩) (by simp)).trans e0
           have d1 := (hb3.cell (p := ⟨w.heap.size, 1, none⟩) (by simp)).trans e1
           clear hb3))
      all_goals
        go_wp2_with fail
        go_ret
        exact ⟨by simp [leavesP, HT.out], HB3.out⟩
    · have HT := Lib.hid ht
      have H4 := Lib.hid h4
      have H5 := Lib.hid h5
      have q4 : (u == 4) = false := by simp; omega
      have q5 : (u == 5) = false := by simp; omega
      clear h4 h5 ht hu
      go_wp2_with fail
      go_quiet (fail)
      go_wp2_with fail
      go_ret
      exact ⟨by simp [leavesP, HT.out, H4.out, H5.out], (HB.out.trans ⟨rfl, rfl, rfl, Nat.le_refl _, fun _ _ => rfl⟩)⟩

end Go.Proofs.YtlmpmjhanpkcnaaGreat

namespace Go.Proofs.YtlmpmjhanpkcnaaGreat
open Go.RowKit

def realP (bits : Nat) : Bool := decide (bits = 9221120237041090561) || decide (bits % 9223372036854775808 ≤ 9218868437227405312)

theorem nanBits (b : Nat) : Op.floatEq .f64 b b = decide (b % 9223372036854775808 ≤ 9218868437227405312) := by
  have h1 : FloatKind.f64.format = Ieee.double := rfl
  have h2 : Ieee.double.signWeight = 9223372036854775808 := by decide
  have h3 : Ieee.double.infRung = 9218868437227405312 := by decide
  unfold Op.floatEq Ieee.Format.order Ieee.Format.read
  rw [h1, h2, h3]
  simp only
  by_cases a1 : b % 9223372036854775808 < Ieee.double.binade
  · have : Ieee.double.binade = 4503599627370496 := by decide
    rw [if_pos a1]
    simp only [Ieee.Datum.order]
    have : b % 9223372036854775808 ≤ 9218868437227405312 := by omega
    simp [this, compare, compareOfLessAndEq]
  · rw [if_neg a1]
    by_cases a2 : b % 9223372036854775808 < 9218868437227405312
    · rw [if_pos a2]
      simp only [Ieee.Datum.order]
      have : b % 9223372036854775808 ≤ 9218868437227405312 := by omega
      simp [this, compare, compareOfLessAndEq]
    · rw [if_neg a2]
      by_cases a3 : b % 9223372036854775808 = 9218868437227405312
      · rw [if_pos a3]
        simp [Ieee.Datum.order, a3, compare, compareOfLessAndEq]
      · rw [if_neg a3]
        have : ¬ b % 9223372036854775808 ≤ 9218868437227405312 := by omega
        simp [Ieee.Datum.order, this]

theorem run_frombits (b : Nat) (w : World) : (callFunc 137 #[.int .u64 b]).run Tryz.prog w = .ok (.value (.float .f64 b)) w := by
  rw [run_callFunc_extern (f := 137) (fn := Tryz.f137) (e := Extern.MathFloatBits.float64frombits) (by kernel_rfl) (by kernel_rfl) (by kernel_rfl) (by kernel_rfl) (by kernel_rfl)]
  rfl

theorem isnan_any (b : Nat) (w : World) : Calls Tryz.prog 136 #[.float .f64 b] w fun e w' => e = .returned (.bool (!decide (b % 9223372036854775808 ≤ 9218868437227405312))) ∧ w' = w := by
  have h := nanBits b
  go_enter Tryz.func136, Tryz.ntmps136
  go_wp2_with fail
  go_ret
  exact ⟨by rw [← h]; rfl, rfl⟩

theorem none_any (b : Nat) (w : World) : Calls Tryz.prog 129 #[.int .u64 b] w fun e w' => e = .returned (.bool (!decide (b % 9223372036854775808 ≤ 9218868437227405312))) ∧ w' = w := by
  have hd := run_frombits b w
  go_enter Tryz.func129, Tryz.ntmps129
  go_wp2_with fail
  refine (isnan_any b _).mono ?_
  rintro e w1 ⟨rfl, rfl⟩
  go_wp2_with fail
  go_ret
  exact ⟨rfl, rfl⟩

theorem realMay_any (b : Nat) (w : World) : Calls Tryz.prog 110 #[.int .u64 b] w fun e w' => e = .returned (.bool (realP b)) ∧ w' = w := by
  by_cases h : b = 9221120237041090561
  · subst h
    go_enter Tryz.func110, Tryz.ntmps110
    go_wp2_with fail
    go_ret
    exact ⟨by simp [realP], rfl⟩
  · have q1 : ((b : Int) == 9221120237041090561) = false := by simp; omega
    go_enter Tryz.func110, Tryz.ntmps110
    go_wp2_with fail
    refine (none_any b _).mono ?_
    rintro e w1 ⟨rfl, rfl⟩
    go_wp2_with fail
    go_ret
    exact ⟨by simp [realP, h], rfl⟩

end Go.Proofs.YtlmpmjhanpkcnaaGreat

namespace Go.Proofs.YtlmpmjhanpkcnaaGreat
open Go.RowKit

/-- Words of 32 bits in memory. -/
def Ms (w : World) (v : Value) (l : List Nat) : Prop :=
  ∃ a cap, v = .slice a l.length cap ∧ ∀ j, (hj : j < l.length) → ∃ g o, a = some ⟨g, o, none⟩ ∧ w.cell? ⟨g, o + j, none⟩ = some (.int .u32 l[j])

theorem Ms.below {w w' : World} {v : Value} {l : List Nat} (h : Ms w v l) (hb : Below w.heap.size w w') : Ms w' v l := by
  obtain ⟨a, cap, rfl, hc⟩ := h
  refine ⟨a, cap, rfl, fun j hj => ?_⟩
  obtain ⟨g, o, rfl, k⟩ := hc j hj
  exact ⟨g, o, rfl, (hb.cell (World.block_lt_of_cell? w _ k)).trans k⟩

def numMayP (neg : Bool) (mag : List Nat) : Bool := decide (mag.length ≤ 8) && (if mag.length = 0 then !neg else decide (mag.getD (mag.length - 1) 0 ≠ 0))
def valP : List Nat → Nat
  | [] => 0
  | a :: r => a + 4294967296 * valP r
def smallP (neg : Bool) (mag : List Nat) : Bool := numMayP neg mag && decide (mag.length ≤ 2) && (if neg then decide (valP mag ≤ 1152921504606846976) else decide (valP mag ≤ 1152921504606846975))

set_option maxHeartbeats 4000000 in
set_option maxRecDepth 100000 in
theorem numMay_any (neg : Bool) (mag : List Nat) (mv : Value) (w : World) (hm : Ms w mv mag) (hml : mag.length ≤ maxLen) :
    Calls Tryz.prog 128 #[.agg #[.bool neg, mv]] w fun e w' => e = .returned (.bool (numMayP neg mag)) ∧ Below w.heap.size w w' := by
  obtain ⟨a, cap, rfl, hc⟩ := hm
  have b1 : Below w.heap.size w (w.alloc (.cells #[.bool neg, .slice a mag.length cap] 78)) := (Below.refl _ _).alloc (Nat.le_refl _) _
  unfold maxLen at hml
  by_cases h8 : 8 < mag.length
  · have q1 : ¬ (mag.length : Int) ≤ 8 := by omega
    go_enter Tryz.func128, Tryz.ntmps128
    go_wp2_with fail
    go_ret
    exact ⟨by unfold numMayP; rw [decide_eq_false (by omega)]; rfl, b1⟩
  have q1 : (mag.length : Int) ≤ 8 := by omega
  by_cases h0 : mag.length = 0
  · have HE := Lib.hid (show numMayP neg mag = !neg by unfold numMayP; rw [decide_eq_true (by omega), if_pos h0]; rfl)
    rw [h0] at q1 b1 ⊢
    clear hc hml h8
    cases neg
    all_goals
      go_enter Tryz.func128, Tryz.ntmps128
      go_wp2_with fail
      go_ret
      exact ⟨by rw [HE.out]; rfl, b1⟩
  · obtain ⟨m, hlen⟩ : ∃ m, mag.length = m + 1 := ⟨mag.length - 1, by omega⟩
    obtain ⟨g, o, rfl, k⟩ := hc m (by omega)
    have k1 := (b1.cell (World.block_lt_of_cell? w _ k)).trans k
    have hgd : mag.getD (mag.length - 1) 0 = mag[m] := by
      rw [show mag.length - 1 = m by omega]; simp [List.getD, List.getElem?_eq_getElem (show m < mag.length by omega)]
    have HE := Lib.hid (show numMayP neg mag = decide (mag[m] ≠ 0) by unfold numMayP; rw [decide_eq_true (by omega), if_neg h0, hgd]; rfl)
    obtain ⟨x, hx⟩ : ∃ x, mag[m] = x := ⟨_, rfl⟩
    rw [hx] at k k1 hgd
    have HX := Lib.hid hx
    rw [hlen] at q1 b1 k1 ⊢
    have q2 : IntKind.i64.wrap (m : Int) = m := IntWalk.i64_in _ (by omega)
    have q3 : (0 : Int) < (m : Int) + 1 := by omega
    have q4 : (m : Int) < (m : Int) + 1 := by omega
    have q5 : ((m : Int) + 1 == 0) = false := by simp; omega
    have q6 : (m : Int) + 1 ≤ 8 := by omega
    have q7 : (m : Int) + 1 - 1 = m := by omega
    clear hc hml h8 k hx
    by_cases hx0 : x = 0
    · subst hx0
      go_enter Tryz.func128, Tryz.ntmps128
      go_wp2_with fail
      go_ret
      exact ⟨by rw [HE.out, HX.out]; rfl, b1⟩
    · have q8 : ((x : Int) != 0) = true := by simp; omega
      go_enter Tryz.func128, Tryz.ntmps128
      go_wp2_with fail
      go_ret
      exact ⟨by rw [HE.out, HX.out, decide_eq_true hx0]; rfl, b1⟩

end Go.Proofs.YtlmpmjhanpkcnaaGreat

namespace Go.Proofs.YtlmpmjhanpkcnaaGreat
open Go.RowKit

theorem box_cells {w wr : World} {c : Array Value} {t : TypeId} (hb : Below (w.heap.size + 1) (w.alloc (.cells c t)) wr) (i : Nat) : wr.cell? ⟨w.heap.size, i, none⟩ = c[i]? :=
  (hb.cell (p := ⟨w.heap.size, i, none⟩) (by show w.heap.size < w.heap.size + 1; omega)).trans (World.cell?_alloc_at _ _ _ _ rfl)

theorem box_below {w wr : World} {o : Obj} (hb : Below (w.heap.size + 1) (w.alloc o) wr) : Below w.heap.size w wr :=
  ((Below.refl w.heap.size w).alloc (Nat.le_refl _) o).trans (hb.mono (by omega))

def TwoEnd (b : Bool) (e : Ending) : Prop := ∃ r : Int, e = .returned (.tuple #[.int .i64 r, .bool b])

theorem len_two {α : Type} (l : List α) : ((l.length : Int) == 2) = decide (l.length = 2) := by
  by_cases h : l.length = 2
  · simp [h]
  · have : ((l.length : Int) == 2) = false := by simp; omega
    simp [this, h]

theorem valP_snoc : ∀ (l : List Nat) (x : Nat), valP (l ++ [x]) = valP l + x * 4294967296 ^ l.length
  | [], x => by simp [valP]
  | a :: r, x => by
    simp only [List.cons_append, valP, valP_snoc r x, List.length_cons, Nat.pow_succ, Nat.mul_add, Nat.add_assoc]
    congr 2
    rw [Nat.mul_comm, Nat.mul_assoc]

theorem valP_lt : ∀ l : List Nat, (∀ x ∈ l, x < 4294967296) → valP l < 4294967296 ^ l.length
  | [], _ => by simp [valP]
  | a :: r, h => by
    have h1 := h a (by simp)
    have h2 := valP_lt r (fun x hx => h x (by simp [hx]))
    simp only [valP, List.length_cons, Nat.pow_succ]
    omega

theorem or_limb (y x j : Nat) (hj : j ≤ 1) (hy : y < 4294967296 ^ j) (hx : x < 4294967296) : bits .or .u64 (y : Int) (IntKind.u64.wrap ((x : Int) * 2 ^ (32 * j))) = ((y + x * 4294967296 ^ j : Nat) : Int) := by
  match j, hj with
  | 0, _ =>
    have h0 : y = 0 := by simp at hy; exact hy
    subst h0
    have e : IntKind.u64.wrap ((x : Int) * 2 ^ (32 * 0)) = (x : Int) := by rw [IntKind.wrap_u64]; simp; omega
    rw [e, bits_or_u64_nat 0 x (by omega) (by omega)]
    simp
  | 1, _ =>
    have hy' : y < 2 ^ 32 := by simpa using hy
    have e : IntKind.u64.wrap ((x : Int) * 2 ^ (32 * 1)) = ((x * 4294967296 : Nat) : Int) := by rw [IntKind.wrap_u64]; simp; omega
    rw [e, bits_or_u64_nat y (x * 4294967296) (by omega) (by omega)]
    have := Nat.two_pow_add_eq_or_of_lt hy' x
    congr 1
    rw [Nat.or_comm, show x * 4294967296 = 2 ^ 32 * x by omega, ← this]
    simp; omega

theorem or_limb2 (y x : Nat) (hy : y < 4294967296) (hx : x < 4294967296) : bits .or .u64 (IntKind.u64.wrap ((y : Int) * 4294967296)) (x : Int) = ((x + 4294967296 * y : Nat) : Int) := by
  have e : IntKind.u64.wrap ((y : Int) * 4294967296) = ((y * 4294967296 : Nat) : Int) := by rw [IntKind.wrap_u64]; omega
  rw [e, bits_or_u64_nat (y * 4294967296) x (by omega) (by omega)]
  have := Nat.two_pow_add_eq_or_of_lt (show x < 2 ^ 32 by omega) y
  congr 1
  rw [show y * 4294967296 = 2 ^ 32 * y by omega, ← this]
  omega

set_option maxHeartbeats 8000000 in
set_option maxRecDepth 100000 in
theorem small_any (neg : Bool) (mag : List Nat) (mv : Value) (w : World) (hm : Ms w mv mag) (hml : mag.length ≤ maxLen) (hu : ∀ x ∈ mag, x < 4294967296) :
    Calls Tryz.prog 127 #[.agg #[.bool neg, mv]] w fun e w' => TwoEnd (smallP neg mag) e ∧ Below w.heap.size w w' := by
  have HM := Lib.hid hm
  have HML := Lib.hid hml
  have HU := Lib.hid hu
  obtain ⟨a, cap, rfl, hc⟩ := hm
  have HC := Lib.hid hc
  have hb1 : Below w.heap.size w (w.alloc (.cells #[.bool neg, .slice a mag.length cap] 78)) := (Below.refl _ _).alloc (Nat.le_refl _) _
  have HM1 := Lib.hid (HM.out.below hb1)
  unfold maxLen at hml
  clear hc hu hb1
  go_enter Tryz.func127, Tryz.ntmps127
  go_wp2_with fail
  refine (numMay_any neg mag _ _ HM1.out HML.out).mono ?_
  rintro e w2 ⟨rfl, hb2⟩
  have HBX := Lib.hid (show Below (w.heap.size + 1) (w.alloc (.cells #[.bool neg, .slice a mag.length cap] 78)) w2 from hb2.mono (by simp))
  have d0 := box_cells HBX.out 0
  have d1 := box_cells HBX.out 1
  simp at d0 d1
  clear hb2
  cases hnm : numMayP neg mag
  · go_wp2_with fail
    go_ret2
    exact ⟨⟨0, by simp [smallP, hnm]⟩, box_below HBX.out⟩
  · by_cases h2 : 2 < mag.length
    · have q1 : (2 : Int) < (mag.length : Int) := by omega
      go_wp2_with fail
      go_ret2
      exact ⟨⟨0, by
        have : decide (mag.length ≤ 2) = false := decide_eq_false (by omega)
        simp [smallP, this]⟩, box_below HBX.out⟩
    · have q1 : ¬ (2 : Int) < (mag.length : Int) := by omega
      go_wp2_with fail
      go_loopw [4, 19] (fun s i wr => ∃ (j : Nat), j ≤ mag.length ∧ s = .int .u64 ((valP (mag.take j) : Nat) : Int) ∧ i = .int .i64 j ∧ wr = w2) (fun _ i _ => mag.length - (intOf i).toNat)
      case atStart => exact ⟨0, by omega, by simp [valP], rfl, rfl⟩
      case round =>
        obtain ⟨j, hj, rfl, rfl, rfl⟩ := hrel
        by_cases hlt : j < mag.length
        · obtain ⟨g, o, rfl, k0⟩ := HC.out j hlt
          have k1 := ((box_below HBX.out).cell (World.block_lt_of_cell? w _ k0)).trans k0
          have q4 : (j : Int) < (mag.length : Int) := by omega
          have q5 : (0 : Int) ≤ (j : Int) := by omega
          have q6 : IntKind.i64.wrap ((j : Int) + 1) = (j : Int) + 1 := IntWalk.i64_in _ (by omega)
          have q7 : IntKind.i64.wrap (32 * (j : Int)) = 32 * (j : Int) := IntWalk.i64_in _ (by omega)
          have hx := HU.out _ (List.getElem_mem hlt)
          have HTK := Lib.hid (show mag.take (j + 1) = mag.take j ++ [mag[j]] from List.take_succ_eq_append_getElem hlt)
          obtain ⟨x, hxx⟩ : ∃ x, mag[j] = x := ⟨_, rfl⟩
          obtain ⟨y, hy⟩ : ∃ y, valP (mag.take j) = y := ⟨_, rfl⟩
          rw [hxx] at k1 hx HTK
          clear k0
          have HY := Lib.hid (show y < 4294967296 ^ j by rw [← hy]; have h := valP_lt (mag.take j) (fun z hz => HU.out z (List.mem_of_mem_take hz)); rwa [List.length_take, Nat.min_eq_left (by omega)] at h)
          have HV := Lib.hid (show valP (mag.take (j + 1)) = y + x * 4294967296 ^ j by rw [HTK.out, valP_snoc, hy, List.length_take, Nat.min_eq_left (by omega)])
          have HYE := Lib.hid hy
          clear hy hxx
          go_wp2_with fail
          go_roundw
          case rel => exact ⟨j + 1, by omega, by rw [HV.out, HYE.out, or_limb y x j (by omega) HY.out hx], by go_num, trivial⟩
          case measure => simp [intOf]; omega
        · obtain rfl : j = mag.length := by omega
          have q4 : ¬ ((mag.length : Nat) : Int) < (mag.length : Int) := by omega
          rw [List.take_length]
          obtain ⟨y, hy⟩ : ∃ y, valP mag = y := ⟨_, rfl⟩
          have HSP := Lib.hid (show smallP neg mag = (if neg then decide (y ≤ 1152921504606846976) else decide (y ≤ 1152921504606846975)) by
            have : decide (mag.length ≤ 2) = true := decide_eq_true (by omega)
            unfold smallP; rw [hnm, this, hy]; simp)
          rw [hy]
          clear hnm hy
          cases neg
          · by_cases h6 : y ≤ 1152921504606846975
            · have q8 : (y : Int) ≤ 1152921504606846975 := by omega
              go_wp2_with fail
              go_ret2
              exact ⟨⟨_, by rw [HSP.out, if_neg (by simp), decide_eq_true h6]; rfl⟩, box_below HBX.out⟩
            · have q8 : ¬ (y : Int) ≤ 1152921504606846975 := by omega
              go_wp2_with fail
              go_ret2
              exact ⟨⟨_, by rw [HSP.out, if_neg (by simp), decide_eq_false h6]; rfl⟩, box_below HBX.out⟩
          · by_cases h6 : y ≤ 1152921504606846976
            · have q8 : (y : Int) ≤ 1152921504606846976 := by omega
              go_wp2_with fail
              go_ret2
              exact ⟨⟨_, by rw [HSP.out, decide_eq_true h6]; rfl⟩, box_below HBX.out⟩
            · have q8 : ¬ (y : Int) ≤ 1152921504606846976 := by omega
              go_wp2_with fail
              go_ret2
              exact ⟨⟨_, by rw [HSP.out, decide_eq_false h6]; rfl⟩, box_below HBX.out⟩

end Go.Proofs.YtlmpmjhanpkcnaaGreat

namespace Go.Proofs.YtlmpmjhanpkcnaaGreat
open Go.RowKit

def limbsP (l : List Nat) : List Nat := l.flatMap fun w => [w % 4294967296, w / 4294967296]
def trimP (m : List Nat) : List Nat := if 0 < m.length ∧ m.getD (m.length - 1) 0 = 0 then m.take (m.length - 1) else m
/-- An integer's words as limbs. -/
def bigMag (l : List Nat) : List Nat := trimP (limbsP (l.drop 2))
def bigNeg (l : List Nat) : Bool := decide (l.getD 1 0 = 1)
def bigP (l : List Nat) : Bool := decide (l.getD 1 0 ≤ 1) && numMayP (bigNeg l) (bigMag l) && !smallP (bigNeg l) (bigMag l)

def bytesOf (l : List Nat) : List UInt8 := l.flatMap fun w => (List.range 8).map fun k => (w / 256 ^ k % 256).toUInt8
/-- The bytes of a head's words. -/
def bytesW (l : List Nat) : Option (List UInt8) :=
  if 64 < l.getD 1 0 ∨ l.length - 2 ≠ (l.getD 1 0 + 7) / 8 then none
  else if ((bytesOf (l.drop 2)).drop (l.getD 1 0)).all (· == 0) then some ((bytesOf (l.drop 2)).take (l.getD 1 0)) else none

/-- May the words of a head's object be, the kinds that look at no other object. -/
def rightFlat (kind : Int) (l : List Nat) : Bool :=
  if kind = 0 then decide (l.length ≤ 9) && allP (l.drop 1)
  else if kind = 1 then decide (3 ≤ l.length) && decide (l.length ≤ 6) && bigP l
  else if kind = 2 then decide (l.length = 2) && realP (l.getD 1 0)
  else if kind = 3 then decide (2 ≤ l.length) && (bytesW l).isSome
  else if kind = 4 then decide (l.length = 4) && decide (max (l.getD 1 0) (l.getD 2 0) ≤ 1073741824) && decide (l.getD 3 0 ≤ 400)
  else false

/-- A head's kind and words. -/
def headAt (m : List Frg) (a : Int) : Option (Int × List Nat) :=
  (wordsP m a 1).bind fun h => (headP (h.getD 0 0)).bind fun k => (wordsP m a (k.2 + 1)).map fun l => (k.1, l)

/-- How many bytes a word leads to. -/
def lengthP (m : List Frg) (w : Nat) : Option Nat :=
  (toP w).bind fun s => if s.2 = 4 then (headAt m s.1).bind fun o =>
    if o.1 = 3 ∧ rightFlat 3 o.2 = true then some (o.2.getD 1 0) else if o.1 = 4 ∧ rightFlat 4 o.2 = true then some (o.2.getD 3 0) else none
  else none

def rightP (m : List Frg) (kind : Int) (l : List Nat) : Bool :=
  if kind = 5 then decide (l.length = 4) && (match lengthP m (l.getD 1 0) with
    | some n => decide (l.getD 2 0 ≤ n) && decide (l.getD 3 0 ≤ n - l.getD 2 0)
    | none => false)
  else rightFlat kind l

/-- What stands at a spot. -/
def objP (m : List Frg) (a t : Int) : Option (Int × List Nat) :=
  if t = 5 then (wordsP m a 2).bind fun l => if allP l = true then some (-1, l) else none
  else (headAt m a).bind fun o => if rightP m o.1 o.2 = true then some o else none

theorem trimP_length (m : List Nat) : (trimP m).length ≤ m.length := by
  unfold trimP
  split
  · rw [List.length_take]; omega
  · omega

theorem limbsP_length (l : List Nat) : (limbsP l).length = 2 * l.length := by
  induction l with
  | nil => rfl
  | cons a r ih =>
    have : limbsP (a :: r) = [a % 4294967296, a / 4294967296] ++ limbsP r := by simp [limbsP]
    rw [this, List.length_append, ih]
    simp only [List.length_cons, List.length_nil]; omega

theorem bytesOf_length (l : List Nat) : (bytesOf l).length = 8 * l.length := by
  induction l with
  | nil => rfl
  | cons a r ih =>
    have : bytesOf (a :: r) = ((List.range 8).map fun k => (a / 256 ^ k % 256).toUInt8) ++ bytesOf r := by simp [bytesOf]
    rw [this, List.length_append, ih]
    simp only [List.length_cons, List.length_map, List.length_range]; omega

end Go.Proofs.YtlmpmjhanpkcnaaGreat

namespace Go.Proofs.YtlmpmjhanpkcnaaGreat
open Go.RowKit

theorem info5 : (Tryz.prog.info? 5).map (fun i => (i.zero, i.size, i.bytes)) = some (some (.int .u8 0), 1, 1) := by kernel_rfl

/-- Bytes as cells. -/
def cs8 (l : List UInt8) : List Value := l.map fun b => Value.int .u8 b.toNat

/-- A word's bytes. -/
def byteL (x : Nat) : List UInt8 := (List.range 8).map fun k => (x / 256 ^ k % 256).toUInt8

theorem byte_cell (x c : Nat) : (((x / 256 ^ c % 256).toUInt8.toNat : Nat) : Int) = (x : Int) / 2 ^ (8 * c) % 256 := by
  have h1 : (x / 256 ^ c % 256).toUInt8.toNat = x / 256 ^ c % 256 % 256 := rfl
  have h2 : 256 ^ c = 2 ^ (8 * c) := by rw [show 256 = 2 ^ 8 by rfl, ← Nat.pow_mul]
  rw [h1, h2, Nat.mod_mod]
  simp

theorem byteL_snoc (A : List UInt8) (x c : Nat) (hc : c < 8) : cs8 (A ++ (byteL x).take (c + 1)) = cs8 (A ++ (byteL x).take c) ++ [.int .u8 ((x : Int) / 2 ^ (8 * c) % 256)] := by
  have hl : c < (byteL x).length := by simp [byteL]; omega
  rw [List.take_succ_eq_append_getElem hl, ← List.append_assoc]
  have : (byteL x)[c] = (x / 256 ^ c % 256).toUInt8 := by simp [byteL]
  rw [this]
  simp only [cs8, List.map_append, List.map_cons, List.map_nil]
  rw [byte_cell]

theorem cs8_append (a b : List UInt8) : cs8 (a ++ b) = cs8 a ++ cs8 b := List.map_append ..

theorem bytesOf_snoc (l : List Nat) {k : Nat} (h : k < l.length) : bytesOf (l.take (k + 1)) = bytesOf (l.take k) ++ byteL l[k] := by
  unfold bytesOf byteL
  rw [List.take_succ_eq_append_getElem h, List.flatMap_append]
  simp only [List.flatMap_cons, List.flatMap_nil, List.append_nil]

/-- Bytes in memory. -/
def Bs (w : World) (v : Value) (l : List UInt8) : Prop :=
  ∃ a cap, v = .slice a l.length cap ∧ ∀ j, (hj : j < l.length) → ∃ g o, a = some ⟨g, o, none⟩ ∧ w.cell? ⟨g, o + j, none⟩ = some (.int .u8 l[j].toNat)

theorem own_cell8 {w : World} {base g n cap : Nat} {l : List UInt8} (h : w.ownsRow base 5 1 (.slice (some ⟨g, 0, none⟩) n cap) n (cs8 l)) {j : Nat} (hj : j < l.length) : w.cell? ⟨g, j, none⟩ = some (.int .u8 l[j].toNat) := by
  have hc := h.cells rfl j (.int .u8 l[j].toNat) (by simp [cs8, hj])
  have e : (⟨g, 0, none⟩ : Addr).add j = ⟨g, j, none⟩ := by unfold Addr.add; split <;> simp_all
  rw [← e]; exact hc

theorem Bs.cut {w : World} {base g cap : Nat} {l : List UInt8} (h : w.ownsRow base 5 1 (.slice (some ⟨g, 0, none⟩) l.length cap) l.length (cs8 l)) {n : Nat} (hn : n ≤ l.length) : Bs w (.slice (some ⟨g, n, none⟩) (l.length - n) (cap - n)) (l.drop n) := by
  refine ⟨some ⟨g, n, none⟩, cap - n, by rw [List.length_drop], fun j hj => ⟨g, n, rfl, ?_⟩⟩
  rw [List.length_drop] at hj
  rw [own_cell8 h (by omega)]
  simp

theorem Bs.empty (w : World) (a : Option Addr) (cap : Nat) (l : List UInt8) (h : l = []) : Bs w (.slice a 0 cap) l := by
  subst h; exact ⟨a, cap, rfl, fun j hj => by simp at hj⟩

theorem strOf_bytes (l : List UInt8) : strOfNums (l.map fun b => (b.toNat : Int)) = ⟨l.toArray⟩ := by
  unfold strOfNums; rw [List.map_map]
  have : l.map ((fun n : Int => UInt8.ofNat n.toNat) ∘ fun b : UInt8 => (b.toNat : Int)) = l := by
    conv => rhs; rw [← List.map_id l]
    exact List.map_congr_left (fun b _ => by simp)
  rw [this]

set_option maxRecDepth 10000 in
/-- A row's first bytes as a text. -/
theorem conv_first {w : World} {base g n cap : Nat} {l : List UInt8} (h : w.ownsRow base 5 1 (.slice (some ⟨g, 0, none⟩) l.length cap) l.length (cs8 l)) (hn : n ≤ l.length) :
    (convert 149 9 (.slice (some ⟨g, 0, none⟩) n cap)).run Tryz.prog w = .ok (.string ⟨(l.take n).toArray⟩) w := by
  have hcell : ∀ i, i < n → w.cell? ⟨g, 0 + i, none⟩ = some (.int .u8 (((l.take n).map fun b => (b.toNat : Int)).getD i 0)) := by
    intro i hi
    rw [Nat.zero_add, own_cell8 h (by omega), List.getD_eq_getElem?_getD, List.getElem?_map, List.getElem?_take, if_pos hi, List.getElem?_eq_getElem (by omega)]; rfl
  have := run_convert_bytes_arg (P := Tryz.prog) w 149 5 Tryz.underlying149 Tryz.underlying5 g 0 n cap ((l.take n).map fun b => (b.toNat : Int)) (by rw [List.length_map, List.length_take]; omega) hcell 9 Tryz.underlying9
  rw [strOf_bytes] at this; exact this

theorem conv_none (w : World) : (convert 149 9 (.slice none 0 0)).run Tryz.prog w = .ok (.string ⟨#[]⟩) w :=
  run_convert_bytes_nil (P := Tryz.prog) w 149 5 Tryz.underlying149 Tryz.underlying5 0 0 9 Tryz.underlying9

def BytesEnd (r : Option (List UInt8)) (e : Ending) : Prop := ∃ b : ByteArray, e = .returned (.tuple #[.string b, .bool r.isSome]) ∧ b.toList = r.getD []

set_option maxHeartbeats 4000000 in
set_option maxRecDepth 100000 in
theorem bytes_any (l : List Nat) (lv : Value) (w : World) (h : Ws w lv l) (h2 : 2 ≤ l.length) :
    Calls Tryz.prog 111 #[lv] w fun e w' => BytesEnd (bytesW l) e ∧ Below w.heap.size w w' := by
  obtain ⟨i0, hi, hz0, hz1, hz2⟩ := info_parts info5
  have HW := Lib.hid h
  obtain ⟨hml, hu, a, cap, rfl, hlc, hcm, hc⟩ := h
  obtain ⟨g, o, rfl, _⟩ := hc 0 (by omega)
  obtain ⟨g', o', q, k1⟩ := hc 1 (by omega)
  cases q
  have hn := hu l[1] (List.getElem_mem _)
  have hgd : l.getD 1 0 = l[1] := by simp [List.getD, List.getElem?_eq_getElem (show 1 < l.length by omega)]
  obtain ⟨n, hnn⟩ : ∃ n, l[1] = n := ⟨_, rfl⟩
  rw [hnn] at k1 hn hgd
  have HC := Lib.hid hc
  have HU := Lib.hid hu
  have HGD := Lib.hid hgd
  unfold maxLen at hml
  clear hc hu hgd hnn
  have q0 : (1 : Int) < (l.length : Int) := by omega
  go_enter Tryz.func111, Tryz.ntmps111
  by_cases hbig : 64 < n
  · have q1 : (64 : Int) < (n : Int) := by omega
    have HE := Lib.hid (show bytesW l = none by unfold bytesW; rw [HGD.out, if_pos (Or.inl hbig)])
    go_wp2_with fail
    go_ret2
    exact ⟨⟨⟨#[]⟩, by rw [HE.out]; rfl, by rw [HE.out]; simp [Lib.toList_data]⟩, Below.refl _ _⟩
  · have q1 : ¬ (64 : Int) < (n : Int) := by omega
    have q2 : IntKind.u64.wrap ((n : Int) + 7) = (n : Int) + 7 := by rw [IntKind.wrap_u64]; omega
    have q3 : IntKind.i64.wrap ((n : Int) + 7) = (n : Int) + 7 := IntWalk.i64_in _ (by omega)
    have q4 : IntKind.i64.wrap ((l.length : Int) - 2) = (l.length : Int) - 2 := IntWalk.i64_in _ (by omega)
    by_cases hlen : l.length - 2 = (n + 7) / 8
    · have q5 : ((l.length : Int) - 2 != ((n : Int) + 7) / 8) = false := by simp; omega
      have HD := Lib.hid (show l.length - 2 = (n + 7) / 8 from hlen)
      go_upto_region 5 with fail
      go_cut [27, 28, 29] from 26 to 29 (fun v c i wx => Hid (Ws wx v (l.drop 2)) ∧ c = .int .i64 (((n + 7) / 8 : Nat) : Int) ∧ i = .int .i64 0 ∧ w = wx)
      case first =>
        have HCUT := Lib.hid (Ws.cut HW.out (k := 2) (n := (n + 7) / 8) (by omega))
        have HT := Lib.hid (show (l.drop 2).take ((n + 7) / 8) = l.drop 2 from List.take_of_length_le (by rw [List.length_drop]; omega))
        by_cases hc2 : cap = 2
        · have r0 : (n + 7) / 8 = 0 := by omega
          have HNil := Lib.hid (show l.drop 2 = [] from List.eq_nil_of_length_eq_zero (by rw [List.length_drop]; omega))
          subst hc2
          go_wp2_with fail
          go_meet
          exact ⟨Lib.hid (by rw [HNil.out]; exact ⟨by simp, (fun x hx => by cases hx), _, 0, rfl, by simp, by unfold maxLen; omega, fun j hj => by simp at hj⟩), by rw [r0]; rfl, rfl, rfl⟩
        · have r1 : ¬ cap - 2 = 0 := by omega
          have r2 : ¬ cap = 2 := hc2
          have r3 : 2 < cap := by omega
          go_wp2_with fail
          go_meet
          exact ⟨Lib.hid (by rw [← HT.out]; exact HCUT.out), rfl, rfl, rfl⟩
      case rest =>
        obtain ⟨HWS, rfl, rfl, rfl⟩ := hcut
        go_wp2_with fail
        go_loopw [5, 29] (fun o i wr => ∃ (k : Nat), k ≤ (n + 7) / 8 ∧ i = .int .i64 k ∧ wr.ownsRow w.heap.size 5 1 o (8 * k) (cs8 (bytesOf ((l.drop 2).take k))) ∧ Below w.heap.size w wr) (fun _ i _ => (n + 7) / 8 - (intOf i).toNat)
        case atStart => exact ⟨0, by omega, rfl, World.ownsRow_nil _ _ _ _, Below.refl _ _⟩
        case round =>
          obtain ⟨k, hk, rfl, hown, hbel⟩ := hrel
          have HLN := Lib.hid (show (l.drop 2).length = (n + 7) / 8 by rw [List.length_drop]; omega)
          obtain ⟨_, hxu, xa, xc, rfl, hxc, hxm, hxx⟩ := HWS.out
          have HXU := Lib.hid hxu
          have HXX := Lib.hid hxx
          rw [HLN.out]
          clear hxu hxx
          by_cases hlt : k < (n + 7) / 8
          · obtain ⟨g2, o2, rfl, kw⟩ := HXX.out k (by rw [HLN.out]; exact hlt)
            have kw1 := (hbel.cell (World.block_lt_of_cell? _ _ kw)).trans kw
            obtain ⟨x, hx⟩ : ∃ x, (l.drop 2)[k]'(by rw [HLN.out]; exact hlt) = x := ⟨_, rfl⟩
            rw [hx] at kw kw1
            have p1 : (k : Int) < ((n : Int) + 7) / 8 := by omega
            have p2 : (0 : Int) ≤ (k : Int) := by omega
            clear kw
            go_wp2_with fail
            go_loopw [5, 33] (fun o i wr2 => ∃ (c : Nat), c ≤ 8 ∧ i = .int .i64 c ∧ wr2.ownsRow w.heap.size 5 1 o (8 * k + c) (cs8 (bytesOf ((l.drop 2).take k) ++ (byteL x).take c)) ∧ Below w.heap.size w wr2) (fun _ i _ => 8 - (intOf i).toNat)
            case atStart => exact ⟨0, by omega, rfl, by simpa using hown, hbel⟩
            case round =>
              obtain ⟨c, hc8, rfl, hown2, hbel2⟩ := hrel
              by_cases hlc8 : c < 8
              · have p3 : (c : Int) < 8 := by omega
                have p4 : IntKind.i64.wrap (8 * (c : Int)) = 8 * (c : Int) := IntWalk.i64_in _ (by omega)
                have p5 : IntKind.i64.wrap ((c : Int) + 1) = (c : Int) + 1 := IntWalk.i64_in _ (by omega)
                have p6 : (0 : Int) ≤ 8 * (c : Int) := by omega
                have hsz := hbel2.size
                have hkk : k ≤ 8 := by omega
                go_wp2_with (at_builtin; refine wpList_append_own_at _ rfl (.tmp 36) (.tmp 42) 149 rfl w.heap.size 5 i0 (.int .u8 0) 1 1 Tryz.underlying149 hi hz0 hz1 hz2 rfl (by decide) _ _ _ rfl (World.ownsRow.alloc hown2 _) _ 1 1 [.int .u8 ((x : Int) / 2 ^ (8 * c) % 256)] rfl rfl (fun j u hj => by
                  match j with
                  | 0 => simp at hj; subst hj; simp [Addr.add_lit]
                  | j + 1 => simp at hj) (fun u hu => by simp at hu; subst hu; rfl) (by unfold maxLen; omega) (by omega) (by simp; omega) ?_; intro v1 w1 hown3 hgrow3 _ hloc3)
                go_roundw
                case rel => exact ⟨c + 1, by omega, by go_num, by rw [byteL_snoc _ _ _ hlc8]; exact hown3, ((hbel2.alloc hsz _).grown hgrow3 (by simp; omega) (fun k e => (hown2.lt k e).1))⟩
                case measure => simp [intOf]; omega
              · obtain rfl : c = 8 := by omega
                have p3 : ¬ ((8 : Nat) : Int) < 8 := by omega
                have p5 : IntKind.i64.wrap ((k : Int) + 1) = (k : Int) + 1 := IntWalk.i64_in _ (by omega)
                have HSN := Lib.hid (show bytesOf ((l.drop 2).take (k + 1)) = bytesOf ((l.drop 2).take k) ++ (byteL x).take 8 by
                  rw [bytesOf_snoc (l.drop 2) (by rw [HLN.out]; exact hlt), hx]; rfl)
                clear hx
                go_wp2_with fail
                go_roundw
                case rel => exact ⟨k + 1, by omega, by go_num, by rw [HSN.out]; exact hown2, hbel2⟩
                case measure => simp [intOf]; omega
          · obtain rfl : k = (n + 7) / 8 := by omega
            have p1 : ¬ ((((n + 7) / 8 : Nat)) : Int) < ((n : Int) + 7) / 8 := by omega
            have HF := Lib.hid (show (l.drop 2).take ((n + 7) / 8) = l.drop 2 from List.take_of_length_le (by rw [HLN.out]; omega))
            obtain ⟨L, hL⟩ : ∃ L, bytesOf (l.drop 2) = L := ⟨_, rfl⟩
            have hLN : L.length = 8 * ((n + 7) / 8) := by rw [← hL, bytesOf_length, HLN.out]
            rw [HF.out, hL] at hown
            have HL := Lib.hid hL
            clear hL
            obtain ⟨m, hm⟩ : ∃ m, (n + 7) / 8 = m := ⟨_, rfl⟩
            have hnm : n ≤ 8 * m := by omega
            have hmn : 8 * m ≤ n + 7 := by omega
            have hm8 : m ≤ 8 := by omega
            have HOK := Lib.hid (show bytesW l = if (L.drop n).all (· == 0) then some (L.take n) else none by
              unfold bytesW
              rw [HGD.out, if_neg (by omega), HL.out])
            rw [hm] at hown hLN
            rw [← hLN] at hown
            have HOWN := Lib.hid hown
            have HBEL := Lib.hid hbel
            have HLN2 := Lib.hid hLN
            have HNM := Lib.hid (show n ≤ L.length by omega)
            have hmL : L.length ≤ 64 := by omega
            clear hbel hnm hm hLN
            have q8 : (n : Int) ≤ (L.length : Int) := Int.ofNat_le.2 HNM.out
            go_upto_region 14 with fail
            obtain ⟨wz, hwz⟩ : ∃ wz : World, wz = wr := ⟨_, rfl⟩
            go_cut [48, 49, 50] from 46 to 50 (fun v c i wx => Hid (Bs wr v (L.drop n)) ∧ c = .int .i64 ((L.length - n : Nat) : Int) ∧ i = .int .i64 0 ∧ wr = wx)
            case first =>
              rcases hown.2 with ⟨rfl, h0⟩ | ⟨g5, cap5, cur5, rfl, _, _, hnc, hcm5, _, _⟩
              · have hn0 : n = 0 := by have := HNM.out; omega
                have HZ := Lib.hid (show L.length - n = 0 by omega)
                have HNil := Lib.hid (show L.drop n = [] from List.eq_nil_of_length_eq_zero (by rw [List.length_drop]; omega))
                have HN0 := Lib.hid hn0
                have r0 : (n : Int) ≤ 0 := by omega
                have r1 : (0 : Int) ≤ (n : Int) := by omega
                clear hn0 h0
                go_wp2_with fail
                go_meet
                exact ⟨Lib.hid (Bs.empty _ _ _ _ HNil.out), by rw [HZ.out]; rfl, rfl, rfl⟩
              · have HB5 := Lib.hid (Bs.cut HOWN.out HNM.out)
                by_cases hce : cap5 = n
                · have HNil := Lib.hid (show L.drop n = [] from List.eq_nil_of_length_eq_zero (by rw [List.length_drop]; omega))
                  subst hce
                  have HNL := Lib.hid (show L.length - cap5 = 0 by omega)
                  go_wp2_with fail
                  go_meet
                  exact ⟨Lib.hid (Bs.empty _ _ _ _ HNil.out), by rw [HNL.out]; rfl, rfl, rfl⟩
                · have r1 : ¬ cap5 - n = 0 := by omega
                  have r2 : n < cap5 := by omega
                  go_wp2_with fail
                  go_meet
                  exact ⟨HB5, rfl, rfl, rfl⟩
            case rest =>
              obtain ⟨HBS, rfl, rfl, rfl⟩ := hcut
              obtain ⟨ba, bc, rfl, hbc⟩ := HBS.out
              have HBC := Lib.hid hbc
              clear hbc
              obtain ⟨r, hr⟩ : ∃ r, L.length - n = r := ⟨_, rfl⟩
              have HR := Lib.hid (show (L.drop n).length = r by rw [List.length_drop]; exact hr)
              have hr8 : r ≤ 64 := by omega
              rw [HR.out, hr]
              clear hr
              go_wp2_with fail
              go_loop [50] (fun i => ∃ (k : Nat), k ≤ r ∧ i = .int .i64 k ∧ Hid (((L.drop n).take k).all (· == 0) = true)) (fun i => r - (intOf i).toNat)
              case atStart => exact ⟨0, by omega, rfl, Lib.hid (by simp)⟩
              case round =>
                obtain ⟨j, hj, rfl, HA⟩ := hrel
                by_cases hlt : j < r
                · obtain ⟨g6, o6, rfl, k0⟩ := HBC.out j (by rw [HR.out]; exact hlt)
                  have q10 : (j : Int) < (r : Int) := by omega
                  have q11 : (0 : Int) ≤ (j : Int) := by omega
                  have q12 : IntKind.i64.wrap ((j : Int) + 1) = (j : Int) + 1 := IntWalk.i64_in _ (by omega)
                  have HT := Lib.hid (List.take_succ_eq_append_getElem (l := L.drop n) (i := j) (by rw [HR.out]; exact hlt))
                  obtain ⟨x, hx⟩ : ∃ x, (L.drop n)[j]'(by rw [HR.out]; exact hlt) = x := ⟨_, rfl⟩
                  have HX := Lib.hid hx
                  rw [hx] at k0
                  clear hx
                  by_cases hx0 : x = 0
                  · subst hx0
                    go_wp2_with fail
                    go_round
                    case rel => exact ⟨j + 1, by omega, by go_num, Lib.hid (by rw [HT.out, List.all_append, HA.out, HX.out]; rfl)⟩
                    case measure => simp [intOf]; omega
                  · have q13 : ((x.toNat : Int) != 0) = true := by
                      simp; intro e; exact hx0 (UInt8.toNat_inj.1 (by simpa using e))
                    have HN := Lib.hid (show bytesW l = none by
                      rw [HOK.out, if_neg]
                      intro e
                      rw [List.all_eq_true] at e
                      have := e x (by rw [← HX.out]; exact List.getElem_mem _)
                      exact hx0 (by simpa using this))
                    clear hx0
                    go_wp2_with fail
                    go_ret2
                    exact ⟨⟨⟨#[]⟩, by rw [HN.out]; rfl, by rw [HN.out]; simp [Lib.toList_data]⟩, HBEL.out⟩
                · obtain rfl : j = r := by omega
                  have q10 : ¬ (j : Int) < (j : Int) := by omega
                  have HN := Lib.hid (show bytesW l = some (L.take n) by
                    rw [HOK.out, if_pos]
                    have h := HA.out
                    rwa [List.take_of_length_le (by rw [HR.out]; omega)] at h)
                  rcases HOWN.out.2 with ⟨rfl, h0⟩ | ⟨g5, cap5, cur5, rfl, _, _, hnc, hcm5, _, _⟩
                  · have hn0 : n = 0 := by have := HNM.out; omega
                    have hcf : (convert 149 9 (.slice none n 0)).run Tryz.prog wr = .ok (.string ⟨(L.take n).toArray⟩) wr := by
                      rw [hn0]; exact conv_none wr
                    have q13 : (n : Int) ≤ 0 := by omega
                    have q14 : (0 : Int) ≤ (n : Int) := by omega
                    clear hn0 h0
                    go_wp2_with fail
                    go_ret2
                    exact ⟨⟨_, by rw [HN.out]; rfl, by rw [HN.out]; simp [Lib.toList_data]⟩, HBEL.out⟩
                  · have hcf := conv_first HOWN.out HNM.out
                    have q13 : (n : Int) ≤ (cap5 : Int) := by omega
                    go_wp2_with fail
                    go_ret2
                    exact ⟨⟨_, by rw [HN.out]; rfl, by rw [HN.out]; simp [Lib.toList_data]⟩, HBEL.out⟩
    · have q5 : ((l.length : Int) - 2 != ((n : Int) + 7) / 8) = true := by simp; omega
      have HE := Lib.hid (show bytesW l = none by unfold bytesW; rw [HGD.out, if_pos (Or.inr hlen)])
      go_wp2_with fail
      go_ret2
      exact ⟨⟨⟨#[]⟩, by rw [HE.out]; rfl, by rw [HE.out]; simp [Lib.toList_data]⟩, Below.refl _ _⟩

end Go.Proofs.YtlmpmjhanpkcnaaGreat
