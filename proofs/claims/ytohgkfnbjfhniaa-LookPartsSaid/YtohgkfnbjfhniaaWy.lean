/-
  Integers: is a number small? (As in chapter 25's text Tr, renumbered.)
-/
import Derived.Test.YtohgkfnbjfhniaaWx
import Derived.Deep.CutBlock
import Derived.Laws.Bits64b
namespace Go.Proofs.Ytohgkfnbjfhniaa
open Go.RowKit

theorem box_cells {w wr : World} {c : Array Value} {t : TypeId} (hb : Below (w.heap.size + 1) (w.alloc (.cells c t)) wr) (i : Nat) : wr.cell? ⟨w.heap.size, i, none⟩ = c[i]? :=
  (hb.cell (p := ⟨w.heap.size, i, none⟩) (by show w.heap.size < w.heap.size + 1; omega)).trans (World.cell?_alloc_at _ _ _ _ rfl)

theorem box_below {w wr : World} {o : Obj} (hb : Below (w.heap.size + 1) (w.alloc o) wr) : Below w.heap.size w wr :=
  ((Below.refl w.heap.size w).alloc (Nat.le_refl _) o).trans (hb.mono (by omega))

def TwoEnd (b : Bool) (e : Ending) : Prop := ∃ r : Int, e = .returned (.tuple #[.int .i64 r, .bool b])

theorem len_two {α : Type} (l : List α) : ((l.length : Int) == 2) = decide (l.length = 2) := by
  by_cases h : l.length = 2
  · simp [h]
  · have : ((l.length : Int) == 2) = false := by simp; omega
    simp [this, h]

theorem valP_snoc : ∀ (l : List Nat) (x : Nat), valP (l ++ [x]) = valP l + x * 4294967296 ^ l.length
  | [], x => by simp [valP]
  | a :: r, x => by
    simp only [List.cons_append, valP, valP_snoc r x, List.length_cons, Nat.pow_succ, Nat.mul_add, Nat.add_assoc]
    congr 2
    rw [Nat.mul_comm, Nat.mul_assoc]

theorem valP_lt : ∀ l : List Nat, (∀ x ∈ l, x < 4294967296) → valP l < 4294967296 ^ l.length
  | [], _ => by simp [valP]
  | a :: r, h => by
    have h1 := h a (by simp)
    have h2 := valP_lt r (fun x hx => h x (by simp [hx]))
    simp only [valP, List.length_cons, Nat.pow_succ]
    omega

theorem or_limb (y x j : Nat) (hj : j ≤ 1) (hy : y < 4294967296 ^ j) (hx : x < 4294967296) : bits .or .u64 (y : Int) (IntKind.u64.wrap ((x : Int) * 2 ^ (32 * j))) = ((y + x * 4294967296 ^ j : Nat) : Int) := by
  match j, hj with
  | 0, _ =>
    have h0 : y = 0 := by simp at hy; exact hy
    subst h0
    have e : IntKind.u64.wrap ((x : Int) * 2 ^ (32 * 0)) = (x : Int) := by rw [IntKind.wrap_u64]; simp; omega
    rw [e, bits_or_u64_nat 0 x (by omega) (by omega)]
    simp
  | 1, _ =>
    have hy' : y < 2 ^ 32 := by simpa using hy
    have e : IntKind.u64.wrap ((x : Int) * 2 ^ (32 * 1)) = ((x * 4294967296 : Nat) : Int) := by rw [IntKind.wrap_u64]; simp; omega
    rw [e, bits_or_u64_nat y (x * 4294967296) (by omega) (by omega)]
    have := Nat.two_pow_add_eq_or_of_lt hy' x
    congr 1
    rw [Nat.or_comm, show x * 4294967296 = 2 ^ 32 * x by omega, ← this]
    simp; omega

theorem or_limb2 (y x : Nat) (hy : y < 4294967296) (hx : x < 4294967296) : bits .or .u64 (IntKind.u64.wrap ((y : Int) * 4294967296)) (x : Int) = ((x + 4294967296 * y : Nat) : Int) := by
  have e : IntKind.u64.wrap ((y : Int) * 4294967296) = ((y * 4294967296 : Nat) : Int) := by rw [IntKind.wrap_u64]; omega
  rw [e, bits_or_u64_nat (y * 4294967296) x (by omega) (by omega)]
  have := Nat.two_pow_add_eq_or_of_lt (show x < 2 ^ 32 by omega) y
  congr 1
  rw [show y * 4294967296 = 2 ^ 32 * y by omega, ← this]
  omega

set_option maxHeartbeats 8000000 in
set_option maxRecDepth 100000 in
theorem small_any (neg : Bool) (mag : List Nat) (mv : Value) (w : World) (hm : Ms w mv mag) (hml : mag.length ≤ maxLen) (hu : ∀ x ∈ mag, x < 4294967296) :
    Calls Try.prog 79 #[.agg #[.bool neg, mv]] w fun e w' => TwoEnd (smallP neg mag) e ∧ Below w.heap.size w w' := by
  have HM := Lib.hid hm
  have HML := Lib.hid hml
  have HU := Lib.hid hu
  obtain ⟨a, cap, rfl, hc⟩ := hm
  have HC := Lib.hid hc
  have hb1 : Below w.heap.size w (w.alloc (.cells #[.bool neg, .slice a mag.length cap] 36)) := (Below.refl _ _).alloc (Nat.le_refl _) _
  have HM1 := Lib.hid (HM.out.below hb1)
  unfold maxLen at hml
  clear hc hu hb1
  go_enter Try.func79, Try.ntmps79
  go_wp2_with fail
  refine (numMay_any neg mag _ _ HM1.out HML.out).mono ?_
  rintro e w2 ⟨rfl, hb2⟩
  have HBX := Lib.hid (show Below (w.heap.size + 1) (w.alloc (.cells #[.bool neg, .slice a mag.length cap] 36)) w2 from hb2.mono (by simp))
  have d0 := box_cells HBX.out 0
  have d1 := box_cells HBX.out 1
  simp at d0 d1
  clear hb2
  cases hnm : numMayP neg mag
  · go_wp2_with fail
    go_ret2
    exact ⟨⟨0, by simp [smallP, hnm]⟩, box_below HBX.out⟩
  · by_cases h2 : 2 < mag.length
    · have q1 : (2 : Int) < (mag.length : Int) := by omega
      go_wp2_with fail
      go_ret2
      exact ⟨⟨0, by
        have : decide (mag.length ≤ 2) = false := decide_eq_false (by omega)
        simp [smallP, this]⟩, box_below HBX.out⟩
    · have q1 : ¬ (2 : Int) < (mag.length : Int) := by omega
      go_wp2_with fail
      go_loopw [4, 19] (fun s i wr => ∃ (j : Nat), j ≤ mag.length ∧ s = .int .u64 ((valP (mag.take j) : Nat) : Int) ∧ i = .int .i64 j ∧ wr = w2) (fun _ i _ => mag.length - (intOf i).toNat)
      case atStart => exact ⟨0, by omega, by simp [valP], rfl, rfl⟩
      case round =>
        obtain ⟨j, hj, rfl, rfl, rfl⟩ := hrel
        by_cases hlt : j < mag.length
        · obtain ⟨g, o, rfl, k0⟩ := HC.out j hlt
          have k1 := ((box_below HBX.out).cell (World.block_lt_of_cell? w _ k0)).trans k0
          have q4 : (j : Int) < (mag.length : Int) := by omega
          have q5 : (0 : Int) ≤ (j : Int) := by omega
          have q6 : IntKind.i64.wrap ((j : Int) + 1) = (j : Int) + 1 := IntWalk.i64_in _ (by omega)
          have q7 : IntKind.i64.wrap (32 * (j : Int)) = 32 * (j : Int) := IntWalk.i64_in _ (by omega)
          have hx := HU.out _ (List.getElem_mem hlt)
          have HTK := Lib.hid (show mag.take (j + 1) = mag.take j ++ [mag[j]] from List.take_succ_eq_append_getElem hlt)
          obtain ⟨x, hxx⟩ : ∃ x, mag[j] = x := ⟨_, rfl⟩
          obtain ⟨y, hy⟩ : ∃ y, valP (mag.take j) = y := ⟨_, rfl⟩
          rw [hxx] at k1 hx HTK
          clear k0
          have HY := Lib.hid (show y < 4294967296 ^ j by rw [← hy]; have h := valP_lt (mag.take j) (fun z hz => HU.out z (List.mem_of_mem_take hz)); rwa [List.length_take, Nat.min_eq_left (by omega)] at h)
          have HV := Lib.hid (show valP (mag.take (j + 1)) = y + x * 4294967296 ^ j by rw [HTK.out, valP_snoc, hy, List.length_take, Nat.min_eq_left (by omega)])
          have HYE := Lib.hid hy
          clear hy hxx
          go_wp2_with fail
          go_roundw
          case rel => exact ⟨j + 1, by omega, by rw [HV.out, HYE.out, or_limb y x j (by omega) HY.out hx], by go_num, trivial⟩
          case measure => simp [intOf]; omega
        · obtain rfl : j = mag.length := by omega
          have q4 : ¬ ((mag.length : Nat) : Int) < (mag.length : Int) := by omega
          rw [List.take_length]
          obtain ⟨y, hy⟩ : ∃ y, valP mag = y := ⟨_, rfl⟩
          have HSP := Lib.hid (show smallP neg mag = (if neg then decide (y ≤ 1152921504606846976) else decide (y ≤ 1152921504606846975)) by
            have : decide (mag.length ≤ 2) = true := decide_eq_true (by omega)
            unfold smallP; rw [hnm, this, hy]; simp)
          rw [hy]
          clear hnm hy
          cases neg
          · by_cases h6 : y ≤ 1152921504606846975
            · have q8 : (y : Int) ≤ 1152921504606846975 := by omega
              go_wp2_with fail
              go_ret2
              exact ⟨⟨_, by rw [HSP.out, if_neg (by simp), decide_eq_true h6]; rfl⟩, box_below HBX.out⟩
            · have q8 : ¬ (y : Int) ≤ 1152921504606846975 := by omega
              go_wp2_with fail
              go_ret2
              exact ⟨⟨_, by rw [HSP.out, if_neg (by simp), decide_eq_false h6]; rfl⟩, box_below HBX.out⟩
          · by_cases h6 : y ≤ 1152921504606846976
            · have q8 : (y : Int) ≤ 1152921504606846976 := by omega
              go_wp2_with fail
              go_ret2
              exact ⟨⟨_, by rw [HSP.out, decide_eq_true h6]; rfl⟩, box_below HBX.out⟩
            · have q8 : ¬ (y : Int) ≤ 1152921504606846976 := by omega
              go_wp2_with fail
              go_ret2
              exact ⟨⟨_, by rw [HSP.out, decide_eq_false h6]; rfl⟩, box_below HBX.out⟩

end Go.Proofs.Ytohgkfnbjfhniaa
