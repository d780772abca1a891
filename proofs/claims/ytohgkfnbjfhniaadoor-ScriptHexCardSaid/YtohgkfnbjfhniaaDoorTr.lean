/-
  May a term be, by both answers.
-/
import Derived.Test.YtohgkfnbjfhniaaDoorTb
import Derived.Test.YtohgkfnbjfhniaaDoorTg
import Derived.Deep.CutBlock
import Derived.Laws.Bits64b
namespace Go.Proofs.YtohgkfnbjfhniaaDoor
open Go.RowKit Sp

def TwoEnd (b : Bool) (e : Ending) : Prop := ∃ r : Int, e = .returned (.tuple #[.int .i64 r, .bool b])

theorem len_two {α : Type} (l : List α) : ((l.length : Int) == 2) = decide (l.length = 2) := by
  by_cases h : l.length = 2
  · simp [h]
  · have : ((l.length : Int) == 2) = false := by simp; omega
    simp [this, h]

theorem valP_snoc : ∀ (l : List Nat) (x : Nat), valP (l ++ [x]) = valP l + x * 4294967296 ^ l.length
  | [], x => by simp [valP]
  | a :: r, x => by
    simp only [List.cons_append, valP, valP_snoc r x, List.length_cons, Nat.pow_succ, Nat.mul_add, Nat.add_assoc]
    congr 2
    rw [Nat.mul_comm, Nat.mul_assoc]

theorem valP_lt : ∀ l : List Nat, (∀ x ∈ l, x < 4294967296) → valP l < 4294967296 ^ l.length
  | [], _ => by simp [valP]
  | a :: r, h => by
    have h1 := h a (by simp)
    have h2 := valP_lt r (fun x hx => h x (by simp [hx]))
    simp only [valP, List.length_cons, Nat.pow_succ]
    omega

theorem or_limb (y x j : Nat) (hj : j ≤ 1) (hy : y < 4294967296 ^ j) (hx : x < 4294967296) : bits .or .u64 (y : Int) (IntKind.u64.wrap ((x : Int) * 2 ^ (32 * j))) = ((y + x * 4294967296 ^ j : Nat) : Int) := by
  match j, hj with
  | 0, _ =>
    have h0 : y = 0 := by simp at hy; exact hy
    subst h0
    have e : IntKind.u64.wrap ((x : Int) * 2 ^ (32 * 0)) = (x : Int) := by rw [IntKind.wrap_u64]; simp; omega
    rw [e, bits_or_u64_nat 0 x (by omega) (by omega)]
    simp
  | 1, _ =>
    have hy' : y < 2 ^ 32 := by simpa using hy
    have e : IntKind.u64.wrap ((x : Int) * 2 ^ (32 * 1)) = ((x * 4294967296 : Nat) : Int) := by rw [IntKind.wrap_u64]; simp; omega
    rw [e, bits_or_u64_nat y (x * 4294967296) (by omega) (by omega)]
    have := Nat.two_pow_add_eq_or_of_lt hy' x
    congr 1
    rw [Nat.or_comm, show x * 4294967296 = 2 ^ 32 * x by omega, ← this]
    simp; omega

theorem or_limb2 (y x : Nat) (hy : y < 4294967296) (hx : x < 4294967296) : bits .or .u64 (IntKind.u64.wrap ((y : Int) * 4294967296)) (x : Int) = ((x + 4294967296 * y : Nat) : Int) := by
  have e : IntKind.u64.wrap ((y : Int) * 4294967296) = ((y * 4294967296 : Nat) : Int) := by rw [IntKind.wrap_u64]; omega
  rw [e, bits_or_u64_nat (y * 4294967296) x (by omega) (by omega)]
  have := Nat.two_pow_add_eq_or_of_lt (show x < 2 ^ 32 by omega) y
  congr 1
  rw [show y * 4294967296 = 2 ^ 32 * y by omega, ← this]
  omega

set_option maxHeartbeats 8000000 in
set_option maxRecDepth 100000 in
theorem small_any (neg : Bool) (mag : List Nat) (mv : Value) (w : World) (hm : Ms w mv mag) (hml : mag.length ≤ maxLen) (hu : ∀ x ∈ mag, x < 4294967296) :
    Calls Tryd.prog 70 #[.agg #[.bool neg, mv]] w fun e w' => TwoEnd (smallP neg mag) e ∧ Below w.heap.size w w' := by
  have HM := Lib.hid hm
  have HML := Lib.hid hml
  have HU := Lib.hid hu
  obtain ⟨a, cap, rfl, hc⟩ := hm
  have HC := Lib.hid hc
  have hb1 : Below w.heap.size w (w.alloc (.cells #[.bool neg, .slice a mag.length cap] 24)) := (Below.refl _ _).alloc (Nat.le_refl _) _
  have HM1 := Lib.hid (HM.out.below hb1)
  unfold maxLen at hml
  clear hc hu hb1
  go_enter Tryd.func70, Tryd.ntmps70
  go_wp2_with fail
  refine (numMay_any neg mag _ _ HM1.out HML.out).mono ?_
  rintro e w2 ⟨rfl, hb2⟩
  have HBX := Lib.hid (show Below (w.heap.size + 1) (w.alloc (.cells #[.bool neg, .slice a mag.length cap] 24)) w2 from hb2.mono (by simp))
  have d0 := box_cells HBX.out 0
  have d1 := box_cells HBX.out 1
  simp at d0 d1
  clear hb2
  cases hnm : numMayP neg mag
  · go_wp2_with fail
    go_ret2
    exact ⟨⟨0, by simp [smallP, hnm]⟩, box_below HBX.out⟩
  · by_cases h2 : 2 < mag.length
    · have q1 : (2 : Int) < (mag.length : Int) := by omega
      go_wp2_with fail
      go_ret2
      exact ⟨⟨0, by
        have : decide (mag.length ≤ 2) = false := decide_eq_false (by omega)
        simp [smallP, this]⟩, box_below HBX.out⟩
    · have q1 : ¬ (2 : Int) < (mag.length : Int) := by omega
      go_wp2_with fail
      go_loopw [4, 19] (fun s i wr => ∃ (j : Nat), j ≤ mag.length ∧ s = .int .u64 ((valP (mag.take j) : Nat) : Int) ∧ i = .int .i64 j ∧ wr = w2) (fun _ i _ => mag.length - (intOf i).toNat)
      case atStart => exact ⟨0, by omega, by simp [valP], rfl, rfl⟩
      case round =>
        obtain ⟨j, hj, rfl, rfl, rfl⟩ := hrel
        by_cases hlt : j < mag.length
        · obtain ⟨g, o, rfl, k0⟩ := HC.out j hlt
          have k1 := ((box_below HBX.out).cell (World.block_lt_of_cell? w _ k0)).trans k0
          have q4 : (j : Int) < (mag.length : Int) := by omega
          have q5 : (0 : Int) ≤ (j : Int) := by omega
          have q6 : IntKind.i64.wrap ((j : Int) + 1) = (j : Int) + 1 := IntWalk.i64_in _ (by omega)
          have q7 : IntKind.i64.wrap (32 * (j : Int)) = 32 * (j : Int) := IntWalk.i64_in _ (by omega)
          have hx := HU.out _ (List.getElem_mem hlt)
          have HTK := Lib.hid (show mag.take (j + 1) = mag.take j ++ [mag[j]] from List.take_succ_eq_append_getElem hlt)
          obtain ⟨x, hxx⟩ : ∃ x, mag[j] = x := ⟨_, rfl⟩
          obtain ⟨y, hy⟩ : ∃ y, valP (mag.take j) = y := ⟨_, rfl⟩
          rw [hxx] at k1 hx HTK
          clear k0
          have HY := Lib.hid (show y < 4294967296 ^ j by rw [← hy]; have h := valP_lt (mag.take j) (fun z hz => HU.out z (List.mem_of_mem_take hz)); rwa [List.length_take, Nat.min_eq_left (by omega)] at h)
          have HV := Lib.hid (show valP (mag.take (j + 1)) = y + x * 4294967296 ^ j by rw [HTK.out, valP_snoc, hy, List.length_take, Nat.min_eq_left (by omega)])
          have HYE := Lib.hid hy
          clear hy hxx
          go_wp2_with fail
          go_roundw
          case rel => exact ⟨j + 1, by omega, by rw [HV.out, HYE.out, or_limb y x j (by omega) HY.out hx], by go_num, trivial⟩
          case measure => simp [intOf]; omega
        · obtain rfl : j = mag.length := by omega
          have q4 : ¬ ((mag.length : Nat) : Int) < (mag.length : Int) := by omega
          rw [List.take_length]
          obtain ⟨y, hy⟩ : ∃ y, valP mag = y := ⟨_, rfl⟩
          have HSP := Lib.hid (show smallP neg mag = (if neg then decide (y ≤ 1152921504606846976) else decide (y ≤ 1152921504606846975)) by
            have : decide (mag.length ≤ 2) = true := decide_eq_true (by omega)
            unfold smallP; rw [hnm, this, hy]; simp)
          rw [hy]
          clear hnm hy
          cases neg
          · by_cases h6 : y ≤ 1152921504606846975
            · have q8 : (y : Int) ≤ 1152921504606846975 := by omega
              go_wp2_with fail
              go_ret2
              exact ⟨⟨_, by rw [HSP.out, if_neg (by simp), decide_eq_true h6]; rfl⟩, box_below HBX.out⟩
            · have q8 : ¬ (y : Int) ≤ 1152921504606846975 := by omega
              go_wp2_with fail
              go_ret2
              exact ⟨⟨_, by rw [HSP.out, if_neg (by simp), decide_eq_false h6]; rfl⟩, box_below HBX.out⟩
          · by_cases h6 : y ≤ 1152921504606846976
            · have q8 : (y : Int) ≤ 1152921504606846976 := by omega
              go_wp2_with fail
              go_ret2
              exact ⟨⟨_, by rw [HSP.out, decide_eq_true h6]; rfl⟩, box_below HBX.out⟩
            · have q8 : ¬ (y : Int) ≤ 1152921504606846976 := by omega
              go_wp2_with fail
              go_ret2
              exact ⟨⟨_, by rw [HSP.out, decide_eq_false h6]; rfl⟩, box_below HBX.out⟩

set_option maxHeartbeats 8000000 in
set_option maxRecDepth 100000 in
theorem refSmall_any (neg : Bool) (mag : List Nat) (mv : Value) (w : World) (hm : Ms w mv mag) (hml : mag.length ≤ maxLen) (hu : ∀ x ∈ mag, x < 4294967296) :
    Calls Tryd.prog 77 #[.agg #[.bool neg, mv]] w fun e w' => TwoEnd (smallP neg mag) e ∧ Below w.heap.size w w' := by
  have HM := Lib.hid hm
  have HML := Lib.hid hml
  have HU := Lib.hid hu
  obtain ⟨a, cap, rfl, hc⟩ := hm
  have HC := Lib.hid hc
  have hb1 : Below w.heap.size w (w.alloc (.cells #[.bool neg, .slice a mag.length cap] 24)) := (Below.refl _ _).alloc (Nat.le_refl _) _
  have HM1 := Lib.hid (HM.out.below hb1)
  unfold maxLen at hml
  clear hc hu hb1
  go_enter Tryd.func77, Tryd.ntmps77
  go_wp2_with fail
  refine (refNumMay_any neg mag _ _ HM1.out HML.out).mono ?_
  rintro e w2 ⟨rfl, hb2⟩
  have HBX := Lib.hid (show Below (w.heap.size + 1) (w.alloc (.cells #[.bool neg, .slice a mag.length cap] 24)) w2 from hb2.mono (by simp))
  have d0 := box_cells HBX.out 0
  have d1 := box_cells HBX.out 1
  simp at d0 d1
  clear hb2
  cases hnm : numMayP neg mag
  · go_wp2_with fail
    go_ret2
    exact ⟨⟨0, by simp [smallP, hnm]⟩, box_below HBX.out⟩
  · by_cases h2 : 2 < mag.length
    · have q1 : (2 : Int) < (mag.length : Int) := by omega
      go_wp2_with fail
      go_ret2
      exact ⟨⟨0, by
        have : decide (mag.length ≤ 2) = false := decide_eq_false (by omega)
        simp [smallP, this]⟩, box_below HBX.out⟩
    · have q1 : ¬ (2 : Int) < (mag.length : Int) := by omega
      have q2 : IntKind.i64.wrap ((mag.length : Int) - 1) = (mag.length : Int) - 1 := IntWalk.i64_in _ (by omega)
      go_wp2_with fail
      go_loopw [4, 5] (fun s i wr => ∃ (j : Nat), j ≤ mag.length ∧ s = .int .u64 ((valP (mag.drop j) : Nat) : Int) ∧ i = .int .i64 ((j : Int) - 1) ∧ wr = w2) (fun _ i _ => (intOf i + 1).toNat)
      case atStart => exact ⟨mag.length, by omega, by simp [valP], rfl, rfl⟩
      case round =>
        obtain ⟨j, hj, rfl, rfl, rfl⟩ := hrel
        by_cases hz : j = 0
        · subst hz
          rw [List.drop_zero]
          obtain ⟨y, hy⟩ : ∃ y, valP mag = y := ⟨_, rfl⟩
          have HSP := Lib.hid (show smallP neg mag = (if neg then decide (y ≤ 1152921504606846976) else decide (y ≤ 1152921504606846975)) by
            have : decide (mag.length ≤ 2) = true := decide_eq_true (by omega)
            unfold smallP; rw [hnm, this, hy]; simp)
          rw [hy]
          clear hnm hy
          cases neg
          · by_cases h6 : y ≤ 1152921504606846975
            · have q8 : (y : Int) < 1152921504606846976 := by omega
              go_wp2_with fail
              go_ret2
              exact ⟨⟨_, by rw [HSP.out, if_neg (by simp), decide_eq_true h6]; rfl⟩, box_below HBX.out⟩
            · have q8 : ¬ (y : Int) < 1152921504606846976 := by omega
              go_wp2_with fail
              go_ret2
              exact ⟨⟨_, by rw [HSP.out, if_neg (by simp), decide_eq_false h6]; rfl⟩, box_below HBX.out⟩
          · by_cases h6 : y ≤ 1152921504606846976
            · have q8 : (y : Int) ≤ 1152921504606846976 := by omega
              go_wp2_with fail
              go_ret2
              exact ⟨⟨_, by rw [HSP.out, decide_eq_true h6]; rfl⟩, box_below HBX.out⟩
            · have q8 : ¬ (y : Int) ≤ 1152921504606846976 := by omega
              go_wp2_with fail
              go_ret2
              exact ⟨⟨_, by rw [HSP.out, decide_eq_false h6]; rfl⟩, box_below HBX.out⟩
        · obtain ⟨i, rfl⟩ : ∃ i, j = i + 1 := ⟨j - 1, by omega⟩
          obtain ⟨g, o, rfl, k0⟩ := HC.out i (by omega)
          have k1 := ((box_below HBX.out).cell (World.block_lt_of_cell? w _ k0)).trans k0
          have q4 : (i : Int) < (mag.length : Int) := by omega
          have q5 : (0 : Int) ≤ (i : Int) := by omega
          have e5 : (((i + 1 : Nat) : Int) - 1) = (i : Int) := by omega
          have q6 : IntKind.i64.wrap ((i : Int) - 1) = (i : Int) - 1 := IntWalk.i64_in _ (by omega)
          have hx := HU.out _ (List.getElem_mem (show i < mag.length by omega))
          have HTK := Lib.hid (show mag.drop i = mag[i] :: mag.drop (i + 1) from List.drop_eq_getElem_cons (by omega))
          obtain ⟨x, hxx⟩ : ∃ x, mag[i] = x := ⟨_, rfl⟩
          obtain ⟨y, hy⟩ : ∃ y, valP (mag.drop (i + 1)) = y := ⟨_, rfl⟩
          rw [hxx] at k1 hx HTK
          have HY := Lib.hid (show y < 4294967296 by
            rw [← hy]
            have h := valP_lt (mag.drop (i + 1)) (fun z hz => HU.out z (List.mem_of_mem_drop hz))
            rw [List.length_drop] at h
            have : mag.length - (i + 1) = 0 ∨ mag.length - (i + 1) = 1 := by omega
            rcases this with e | e <;> rw [e] at h <;> simp at h <;> omega)
          have HV := Lib.hid (show valP (mag.drop i) = x + 4294967296 * y by rw [HTK.out, valP, hy])
          have HYE := Lib.hid hy
          rw [e5, hy]
          clear k0 hy hxx e5
          go_wp2_with fail
          go_roundw
          case rel => exact ⟨i, by omega, by rw [HV.out, or_limb2 y x HY.out hx], rfl, trivial⟩
          case measure => simp [intOf]

def RightOk (t : Tm) : Prop := ∀ (v : Value) (w : World), TmAt w v t → Calls Tryd.prog 57 #[v] w fun e w' => e = .returned (.bool t.right) ∧ Below w.heap.size w w'

set_option maxRecDepth 100000 in
theorem not_right (t : Tm) (ih : RightOk t) (v : Value) (w : World) (h : TmAt w v t) : Calls Tryd.prog 75 #[v] w fun e w' => e = .returned (.bool (!t.right)) ∧ Below w.heap.size w w' := by
  obtain ⟨k, n, neg, mag, bits, bytes, args, mv, av, he, rfl, _, _, hms, _, _, _, _, hts⟩ := h.open
  obtain ⟨ma, mcap, rfl, _⟩ := hms
  obtain ⟨_, a, acap, rfl, _⟩ := hts
  have b1 := (Below.refl w.heap.size w).alloc (Nat.le_refl _) (.cells #[.int .i64 k, .int .i64 n, .bool neg, .slice ma mag.length mcap, .int .u64 bits, .string bytes, .slice a args.length acap] 28)
  have B1 := Lib.hid b1
  have HT := Lib.hid (h.lift b1)
  clear b1 h
  unfold termV
  go_enter Tryd.func75, Tryd.ntmps75
  go_wp2_with fail
  refine (ih _ _ HT.out).mono ?_
  rintro e w1 ⟨rfl, hb1⟩
  have B2 := Lib.hid (B1.out.trans (hb1.mono B1.out.size))
  clear hb1
  go_wp2_with fail
  go_ret
  exact ⟨by rw [he]; rfl, B2.out⟩

def IndexEnd (l : List Tm) (e : Ending) : Prop := ∃ i : Int, e = .returned (.int .i64 i) ∧ ((i = -1 ∧ rights l = true) ∨ (0 ≤ i ∧ rights l = false))

theorem rights_take {l : List Tm} {k : Nat} (h : k < l.length) : rights (l.take (k + 1)) = (rights (l.take k) && l[k].right) := by
  rw [List.take_succ_eq_append_getElem h, rights_append]; simp [rights]

theorem rights_not {l : List Tm} {k : Nat} (h : k < l.length) (hf : l[k].right = false) : rights l = false := by
  cases hr : rights l with
  | false => rfl
  | true => have := rights_mem hr _ (List.getElem_mem h); rw [hf] at this; cases this

set_option maxHeartbeats 8000000 in
set_option maxRecDepth 100000 in
theorem index_rights (l : List Tm) (ih : ∀ t ∈ l, RightOk t) (av : Value) (w : World) (h : TsAt w av l) : Calls Tryd.prog 90 #[av, .func (.func 75) #[] #[]] w fun e w' => IndexEnd l e ∧ Below w.heap.size w w' := by
  obtain ⟨hl, a, cap, rfl, hc⟩ := h
  have HI := Lib.hid ih
  have HC := Lib.hid hc
  unfold maxLen at hl
  clear ih hc
  go_enter Tryd.func90, Tryd.ntmps90
  go_wp2_with fail
  go_loopw [8] (fun i wr => ∃ (k : Nat), k ≤ l.length ∧ i = .int .i64 k ∧ Hid (rights (l.take k) = true) ∧ Hid (Below w.heap.size w wr)) (fun i _ => l.length - (intOf i).toNat)
  case atStart => exact ⟨0, by omega, rfl, Lib.hid (by simp [rights]), Lib.hid (Below.refl _ _)⟩
  case round =>
    obtain ⟨j, hj, rfl, HR, HB⟩ := hrel
    by_cases hlt' : j < l.length
    · have q4 : (j : Int) < (l.length : Int) := by omega
      have q5 : (0 : Int) ≤ (j : Int) := by omega
      have q6 : IntKind.i64.wrap ((j : Int) + 1) = (j : Int) + 1 := IntWalk.i64_in _ (by omega)
      obtain ⟨g, o, k', n2', neg', mv', bits', bytes', av', rfl, ht, p0, p1, p2, p3, p4, p5, p6, ⟨ma2, ml2, mc2, rfl⟩, ⟨aa2, al2, ac2, rfl⟩⟩ := HC.out j hlt'
      have B0 := HB.out
      have HT := Lib.hid (ht.lift B0)
      have up : ∀ {p : Addr} {v : Value}, w.cell? p = some v → wr.cell? p = some v := fun q => (B0.cell (World.block_lt_of_cell? w _ q)).trans q
      have l0 := up p0
      have l1 := up p1
      have l2 := up p2
      have l3 := up p3
      have l4 := up p4
      have l5 := up p5
      have l6 := up p6
      clear p0 p1 p2 p3 p4 p5 p6 up B0 ht
      go_wp2_with fail
      refine (not_right _ (HI.out l[j] (List.getElem_mem hlt')) _ wr HT.out).mono ?_
      rintro e w5 ⟨rfl, hb5⟩
      have HB5 := Lib.hid (HB.out.trans (hb5.mono HB.out.size))
      have HRT := Lib.hid (rights_take hlt')
      have HRN := Lib.hid (fun hf => rights_not hlt' hf)
      clear hb5
      cases hr : l[j].right with
      | true =>
        rw [hr] at HRT
        simp only [Bool.not_true]
        clear HRN hr
        go_wp2_with fail
        go_roundw
        case rel => exact ⟨j + 1, by omega, by go_num, Lib.hid (by rw [HRT.out, HR.out]; rfl), HB5⟩
        case measure => simp [intOf]; omega
      | false =>
        have HRF := Lib.hid (HRN.out hr)
        simp only [Bool.not_false]
        clear HRN hr HRT
        go_wp2_with fail
        go_ret
        exact ⟨⟨j, rfl, .inr ⟨by omega, HRF.out⟩⟩, HB5.out⟩
    · obtain rfl : j = l.length := by omega
      have q4 : ¬ ((l.length : Nat) : Int) < (l.length : Int) := by omega
      have HRE := Lib.hid (show rights l = true by have h := HR.out; rwa [List.take_length] at h)
      go_wp2_with fail
      go_ret
      exact ⟨⟨-1, rfl, .inl ⟨rfl, HRE.out⟩⟩, HB.out⟩

set_option maxRecDepth 100000 in
theorem contains_rights (l : List Tm) (ih : ∀ t ∈ l, RightOk t) (av : Value) (w : World) (h : TsAt w av l) : Calls Tryd.prog 74 #[av, .func (.func 75) #[] #[]] w fun e w' => e = .returned (.bool (!rights l)) ∧ Below w.heap.size w w' := by
  go_enter Tryd.func74, Tryd.ntmps74
  go_wp2_with fail
  refine (index_rights l ih av w h).mono ?_
  rintro e w1 ⟨⟨i, rfl, hi⟩, hb1⟩
  have HB := Lib.hid hb1
  clear hb1
  rcases hi with ⟨rfl, hr⟩ | ⟨hi, hr⟩
  · have HR := Lib.hid hr
    clear hr
    go_wp2_with fail
    go_ret
    exact ⟨by rw [HR.out]; rfl, HB.out⟩
  · have HR := Lib.hid hr
    clear hr
    go_wp2_with fail
    go_ret
    exact ⟨by rw [HR.out]; simp [hi], HB.out⟩

set_option maxHeartbeats 8000000 in
set_option maxRecDepth 100000 in
theorem right_of (k n : Int) (neg : Bool) (mag : List Nat) (bits : Nat) (bytes : ByteArray) (args : List Tm) (ih : ∀ t ∈ args, RightOk t) : RightOk (.mk k n neg mag bits bytes args) := by
  intro v w ht
  obtain ⟨k2, n2, neg2, mag2, bits2, bytes2, args2, mv, av, he, rfl, hk, hn2, hm, hml, hu, hbt, hsz, hts⟩ := ht.open
  cases he
  have HTS := Lib.hid hts
  have HM := Lib.hid hm
  obtain ⟨ma, mcap, rfl, _⟩ := hm
  obtain ⟨hl, a, acap, rfl, _⟩ := hts
  have HI := Lib.hid ih
  have HU := Lib.hid hu
  have HML := Lib.hid hml
  unfold maxLen at hl hml hsz
  clear ih ht hu
  have HX := Lib.hid (show ∀ i, (w.alloc (.cells #[.int .i64 k, .int .i64 n, .bool neg, .slice ma mag.length mcap, .int .u64 bits, .string bytes, .slice a args.length acap] 28)).cell? ⟨w.heap.size, i, none⟩ = (#[Value.int .i64 k, .int .i64 n, .bool neg, .slice ma mag.length mcap, .int .u64 bits, .string bytes, .slice a args.length acap])[i]? from fun i => World.cell?_alloc_at _ _ _ _ rfl)
  have hb1 : Below w.heap.size w (w.alloc (.cells #[.int .i64 k, .int .i64 n, .bool neg, .slice ma mag.length mcap, .int .u64 bits, .string bytes, .slice a args.length acap] 28)) := (Below.refl _ _).alloc (Nat.le_refl _) _
  have HB1 := Lib.hid hb1
  unfold termV
  clear hb1
  go_enter Tryd.func57, Tryd.ntmps57
  go_upto_block 0 with fail
  go_cut [3] from 4 to 77 (fun s3 wx => s3 = .bool (headP k n neg mag bits bytes args) ∧ Hid (Below (w.heap.size + 1) (w.alloc (.cells #[.int .i64 k, .int .i64 n, .bool neg, .slice ma mag.length mcap, .int .u64 bits, .string bytes, .slice a args.length acap] 28)) wx))
  case first =>
    clear HTS HI HX
    by_cases k1 : k = 1
    · subst k1
      by_cases h1 : -1152921504606846976 ≤ n
      · by_cases h2 : n ≤ 1152921504606846975
        all_goals
          go_wp2_with fail
          go_meet
          exact ⟨by simp [headP]; omega, Lib.hid (Below.refl _ _)⟩
      · go_wp2_with fail
        go_meet
        exact ⟨by simp [headP]; omega, Lib.hid (Below.refl _ _)⟩
    have b1 : (k == 1) = false := by simp [k1]
    by_cases k2 : k = 2
    · subst k2
      have hms := HM.out.below HB1.out
      go_wp2_with fail
      refine (small_any neg mag _ _ hms HML.out HU.out).mono ?_
      rintro e w2 ⟨⟨r, rfl⟩, hb2⟩
      have HB2 := Lib.hid hb2
      have HMS2 := Lib.hid (hms.below hb2)
      have HBX := Lib.hid (show Below (w.heap.size + 1) _ w2 from hb2.mono (by simp))
      have d2 := box_cells HBX.out 2
      have d3 := box_cells HBX.out 3
      simp at d2 d3
      clear hb2
      go_wp2_with fail
      refine (numMay_any neg mag _ w2 HMS2.out HML.out).mono ?_
      rintro e w3 ⟨rfl, hb3⟩
      have HB3 := Lib.hid (HBX.out.trans (hb3.mono (by have := HBX.out.size; simpa using this)))
      clear hb3
      cases hm1 : numMayP neg mag
      · go_wp2_with fail
        go_meet
        exact ⟨by simp [headP, hm1], HB3⟩
      · cases hm2 : smallP neg mag
        all_goals
          go_wp2_with fail
          go_meet
          exact ⟨by simp [headP, hm1, hm2], HB3⟩
    have b2 : (k == 2) = false := by simp [k2]
    by_cases k3 : k = 3
    · subst k3
      go_wp2_with fail
      refine (realMay_any bits _).mono ?_
      rintro e w2 ⟨rfl, rfl⟩
      go_wp2_with fail
      go_meet
      exact ⟨by simp [headP], Lib.hid (Below.refl _ _)⟩
    have b3 : (k == 3) = false := by simp [k3]
    by_cases k4 : k = 4
    · subst k4
      by_cases h1 : 0 ≤ n
      · by_cases h2 : n ≤ 255
        all_goals
          go_wp2_with fail
          go_meet
          exact ⟨by simp [headP]; omega, Lib.hid (Below.refl _ _)⟩
      · go_wp2_with fail
        go_meet
        exact ⟨by simp [headP]; omega, Lib.hid (Below.refl _ _)⟩
    have b4 : (k == 4) = false := by simp [k4]
    by_cases k5 : k = 5
    · subst k5
      by_cases h1 : 0 ≤ n
      · by_cases h2 : n ≤ 63
        all_goals
          go_wp2_with fail
          go_meet
          exact ⟨by simp [headP]; omega, Lib.hid (Below.refl _ _)⟩
      · go_wp2_with fail
        go_meet
        exact ⟨by simp [headP]; omega, Lib.hid (Below.refl _ _)⟩
    have b5 : (k == 5) = false := by simp [k5]
    by_cases k6 : k = 6
    · subst k6
      go_wp2_with fail
      go_meet
      exact ⟨by simp [headP]; omega, Lib.hid (Below.refl _ _)⟩
    have b6 : (k == 6) = false := by simp [k6]
    by_cases k8 : k = 8
    · subst k8
      go_wp2_with fail
      go_meet
      exact ⟨by simp [headP, len_two], Lib.hid (Below.refl _ _)⟩
    have b8 : (k == 8) = false := by simp [k8]
    by_cases k7 : k = 7
    · subst k7
      go_wp2_with fail
      go_meet
      exact ⟨by simp [headP], Lib.hid (Below.refl _ _)⟩
    have b7 : (k == 7) = false := by simp [k7]
    by_cases k9 : k = 9
    · subst k9
      go_wp2_with fail
      go_meet
      exact ⟨by simp [headP]; omega, Lib.hid (Below.refl _ _)⟩
    have b9 : (k == 9) = false := by simp [k9]
    go_wp2_with fail
    go_meet
    exact ⟨by simp [headP, k1, k2, k3, k4, k5, k6, k7, k8, k9], Lib.hid (Below.refl _ _)⟩
  case rest =>
    obtain ⟨rfl, HBX⟩ := hcut
    have d0 := box_cells HBX.out 0
    have d1 := box_cells HBX.out 1
    have d2 := box_cells HBX.out 2
    have d3 := box_cells HBX.out 3
    have d4 := box_cells HBX.out 4
    have d5 := box_cells HBX.out 5
    have d6 := box_cells HBX.out 6
    simp at d0 d1 d2 d3 d4 d5 d6
    cases hh : headP k n neg mag bits bytes args
    · go_wp2_with fail
      go_ret
      exact ⟨by simp [Tm.right, hh], box_below HBX.out⟩
    · go_wp2_with fail
      refine (bare_any k n neg mag bits bytes args a acap ma mcap _).mono ?_
      rintro e w2 ⟨rfl, hb2⟩
      have HB2 := Lib.hid (HBX.out.trans (hb2.mono (by have := HBX.out.size; simpa using this)))
      clear hb2 d0 d1 d2 d3 d4 d5 d6
      have d6 := box_cells HB2.out 6
      simp at d6
      cases hbp : bareP k n neg mag bits bytes args
      · go_wp2_with fail
        go_ret
        exact ⟨by simp [Tm.right, hbp], box_below HB2.out⟩
      · go_wp2_with fail
        refine (contains_rights args HI.out _ w2 (HTS.out.below (box_below HB2.out))).mono ?_
        rintro e w3 ⟨rfl, hb3⟩
        have HB3 := Lib.hid ((box_below HB2.out).trans (hb3.mono (box_below HB2.out).size))
        clear hb3
        go_wp2_with fail
        go_ret
        exact ⟨by simp [Tm.right, hh, hbp], HB3.out⟩

theorem right_all : ∀ t : Tm, RightOk t := Tm.ind right_of

def FormOk (t : Tm) : Prop := ∀ (v : Value) (w : World), TmAt w v t → Calls Tryd.prog 60 #[v] w fun e w' => e = .returned (.bool t.right) ∧ Below w.heap.size w w'

theorem rights_false {l : List Tm} {k : Nat} (h : k < l.length) (hf : l[k].right = false) : rights l = false := rights_not h hf

set_option maxHeartbeats 8000000 in
set_option maxRecDepth 100000 in
theorem form_of (k n : Int) (neg : Bool) (mag : List Nat) (bits : Nat) (bytes : ByteArray) (args : List Tm) (ih : ∀ t ∈ args, FormOk t) : FormOk (.mk k n neg mag bits bytes args) := by
  intro v w ht
  obtain ⟨k2, n2, neg2, mag2, bits2, bytes2, args2, mv, av, he, rfl, hk, hn2, hm, hml, hu, hbt, hsz, hts⟩ := ht.open
  cases he
  have HM := Lib.hid hm
  obtain ⟨ma, mcap, rfl, _⟩ := hm
  obtain ⟨hl, a, acap, rfl, hc⟩ := hts
  have HC := Lib.hid hc
  have HI := Lib.hid ih
  have HU := Lib.hid hu
  have HML := Lib.hid hml
  unfold maxLen at hl hml hsz
  clear ih ht hu hc
  unfold termV
  go_enter Tryd.func60, Tryd.ntmps60
  go_wp2_with fail
  refine (blank_any k n neg mag bits bytes args a acap ma mcap _).mono ?_
  rintro e w2 ⟨rfl, hb2⟩
  have HBX := Lib.hid (show Below (w.heap.size + 1) (w.alloc (.cells #[.int .i64 k, .int .i64 n, .bool neg, .slice ma mag.length mcap, .int .u64 bits, .string bytes, .slice a args.length acap] 28)) w2 from hb2.mono (by simp))
  have d0 := box_cells HBX.out 0
  have d1 := box_cells HBX.out 1
  have d2 := box_cells HBX.out 2
  have d3 := box_cells HBX.out 3
  have d4 := box_cells HBX.out 4
  have d5 := box_cells HBX.out 5
  have d6 := box_cells HBX.out 6
  simp at d0 d1 d2 d3 d4 d5 d6
  clear hb2
  cases hbp : bareP k n neg mag bits bytes args
  · go_wp2_with fail
    go_ret
    exact ⟨by simp [Tm.right, hbp], box_below HBX.out⟩
  by_cases hk6 : k = 6 ∨ k = 8
  · by_cases hlen : (k = 6 ∧ args.length ≤ 8) ∨ (k = 8 ∧ args.length = 2)
    · have HRT := Lib.hid (show (Tm.mk k n neg mag bits bytes args).right = rights args by
        rcases hlen with ⟨rfl, h8⟩ | ⟨rfl, h8⟩
        · simp [Tm.right, hbp, headP, h8]
        · simp [Tm.right, hbp, headP, h8])
      clear hbp
      rcases hlen with ⟨rfl, h8⟩ | ⟨rfl, h8⟩
      all_goals
        have q1 : ¬ (8 : Int) < (args.length : Int) := by omega
        have q0 : (args.length : Int) ≤ 8 := by omega
        (try have q3 : ((args.length : Int) == 2) = true := by simp [h8])
        (try have q3 : ((args.length : Int) != 2) = false := by simp [h8])
        go_wp2_with fail
        go_loopw [5] (fun i wr => ∃ (j : Nat), j ≤ args.length ∧ i = .int .i64 j ∧ Hid (rights (args.take j) = true) ∧ Hid (Below (w.heap.size + 1) (w.alloc (.cells #[.int .i64 _, .int .i64 n, .bool neg, .slice ma mag.length mcap, .int .u64 bits, .string bytes, .slice a args.length acap] 28)) wr)) (fun i _ => args.length - (intOf i).toNat)
        case atStart => exact ⟨0, by omega, rfl, Lib.hid (by simp [rights]), HBX⟩
        case round =>
          obtain ⟨j, hj, rfl, HR, HB⟩ := hrel
          have e6 := box_cells HB.out 6
          simp at e6
          by_cases hlt' : j < args.length
          · have q4 : (j : Int) < (args.length : Int) := by omega
            have q5 : (0 : Int) ≤ (j : Int) := by omega
            have q6 : IntKind.i64.wrap ((j : Int) + 1) = (j : Int) + 1 := IntWalk.i64_in _ (by omega)
            obtain ⟨g, o, k', n2', neg', mv', bits', bytes', av', rfl, ht, p0, p1, p2, p3, p4, p5, p6, ⟨ma2, ml2, mc2, rfl⟩, ⟨aa2, al2, ac2, rfl⟩⟩ := HC.out j hlt'
            have B0 := box_below HB.out
            have HT := Lib.hid (ht.lift B0)
            have up : ∀ {p : Addr} {v : Value}, w.cell? p = some v → wr.cell? p = some v := fun q => (B0.cell (World.block_lt_of_cell? w _ q)).trans q
            have l0 := up p0
            have l1 := up p1
            have l2 := up p2
            have l3 := up p3
            have l4 := up p4
            have l5 := up p5
            have l6 := up p6
            have sz : w.heap.size + 1 ≤ wr.heap.size := by have := HB.out.size; simpa using this
            clear p0 p1 p2 p3 p4 p5 p6 up B0 ht
            go_wp2_with fail
            refine ((HI.out args[j] (List.getElem_mem hlt')) _ wr HT.out).mono ?_
            rintro e w5 ⟨rfl, hb5⟩
            have HB5 := Lib.hid (HB.out.trans (hb5.mono sz))
            have HRTK := Lib.hid (rights_take hlt')
            have HRN := Lib.hid (fun hf => rights_not hlt' hf)
            clear hb5
            cases hr : args[j].right with
            | true =>
              rw [hr] at HRTK
              clear HRN hr
              go_wp2_with fail
              go_roundw
              case rel => exact ⟨j + 1, by omega, by go_num, Lib.hid (by rw [HRTK.out, HR.out]; rfl), HB5⟩
              case measure => simp [intOf]; omega
            | false =>
              have HRF := Lib.hid (HRN.out hr)
              clear HRN hr HRTK
              go_wp2_with fail
              go_ret
              exact ⟨by rw [HRT.out, HRF.out]; rfl, box_below HB5.out⟩
          · obtain rfl : j = args.length := by omega
            have q4 : ¬ ((args.length : Nat) : Int) < (args.length : Int) := by omega
            have HRE := Lib.hid (show rights args = true by have h := HR.out; rwa [List.take_length] at h)
            go_wp2_with fail
            go_ret
            exact ⟨by rw [HRT.out, HRE.out]; rfl, box_below HB.out⟩
    · have HRT := Lib.hid (show (Tm.mk k n neg mag bits bytes args).right = false by
        rcases hk6 with rfl | rfl
        · have : ¬ args.length ≤ 8 := fun q => hlen (.inl ⟨rfl, q⟩)
          simp [Tm.right, headP, this]
        · have : ¬ args.length = 2 := fun q => hlen (.inr ⟨rfl, q⟩)
          simp [Tm.right, headP, this])
      clear hbp
      rcases hk6 with rfl | rfl
      · have q1 : (8 : Int) < (args.length : Int) := by
          have : ¬ args.length ≤ 8 := fun q => hlen (.inl ⟨rfl, q⟩)
          omega
        go_wp2_with fail
        go_ret
        exact ⟨by rw [HRT.out]; rfl, box_below HBX.out⟩
      · have q2 : ¬ args.length = 2 := fun q => hlen (.inr ⟨rfl, q⟩)
        have q3 : ((args.length : Int) == 2) = false := by rw [len_two]; simp [q2]
        have q4 : ((args.length : Int) != 2) = true := by simp [bne, q3]
        clear hlen
        go_wp2_with fail
        go_ret
        exact ⟨by rw [HRT.out]; rfl, box_below HBX.out⟩
  · have HRT := Lib.hid (show (Tm.mk k n neg mag bits bytes args).right = headP k n neg mag bits bytes args by
      have hr : rights args = true := by rw [bare_args hbp hk6]; rfl
      simp [Tm.right, hbp, hr])
    have hk6' : ¬ k = 6 := fun q => hk6 (.inl q)
    have hk8 : ¬ k = 8 := fun q => hk6 (.inr q)
    clear hbp hk6
    by_cases k1 : k = 1
    · subst k1
      by_cases h1 : -1152921504606846976 ≤ n
      · by_cases h2 : n ≤ 1152921504606846975
        all_goals
          go_wp2_with fail
          go_ret
          exact ⟨by rw [HRT.out]; simp [headP]; omega, box_below HBX.out⟩
      · go_wp2_with fail
        go_ret
        exact ⟨by rw [HRT.out]; simp [headP]; omega, box_below HBX.out⟩
    have b1 : (k == 1) = false := by simp [k1]
    by_cases k2 : k = 2
    · subst k2
      have hms := HM.out.below (box_below HBX.out)
      have sz : w.heap.size + 1 ≤ w2.heap.size := by have := HBX.out.size; simpa using this
      go_wp2_with fail
      refine (refSmall_any neg mag _ _ hms HML.out HU.out).mono ?_
      rintro e w3 ⟨⟨r, rfl⟩, hb3⟩
      have HMS3 := Lib.hid (hms.below hb3)
      have HB3 := Lib.hid (HBX.out.trans (hb3.mono sz))
      have f2 := box_cells HB3.out 2
      have f3 := box_cells HB3.out 3
      simp at f2 f3
      have sz3 : w.heap.size + 1 ≤ w3.heap.size := by have := HB3.out.size; simpa using this
      clear hb3
      go_wp2_with fail
      refine (refNumMay_any neg mag _ w3 HMS3.out HML.out).mono ?_
      rintro e w4 ⟨rfl, hb4⟩
      have HB4 := Lib.hid (HB3.out.trans (hb4.mono sz3))
      clear hb4
      cases hm1 : numMayP neg mag
      · go_wp2_with fail
        go_ret
        exact ⟨by rw [HRT.out]; simp [headP, hm1], box_below HB4.out⟩
      · cases hm2 : smallP neg mag
        all_goals
          go_wp2_with fail
          go_ret
          exact ⟨by rw [HRT.out]; simp [headP, hm1, hm2], box_below HB4.out⟩
    have b2 : (k == 2) = false := by simp [k2]
    by_cases k3 : k = 3
    · subst k3
      go_wp2_with fail
      refine (refReal_any bits hbt _).mono ?_
      rintro e w3 ⟨rfl, rfl⟩
      go_wp2_with fail
      go_ret
      exact ⟨by rw [HRT.out]; simp [headP], box_below HBX.out⟩
    have b3 : (k == 3) = false := by simp [k3]
    by_cases k4 : k = 4
    · subst k4
      by_cases h1 : 0 ≤ n
      · by_cases h2 : n ≤ 255
        all_goals
          go_wp2_with fail
          go_ret
          exact ⟨by rw [HRT.out]; simp [headP]; omega, box_below HBX.out⟩
      · go_wp2_with fail
        go_ret
        exact ⟨by rw [HRT.out]; simp [headP]; omega, box_below HBX.out⟩
    have b4 : (k == 4) = false := by simp [k4]
    by_cases k5 : k = 5
    · subst k5
      by_cases h1 : 0 ≤ n
      · by_cases h2 : n ≤ 63
        all_goals
          go_wp2_with fail
          go_ret
          exact ⟨by rw [HRT.out]; simp [headP]; omega, box_below HBX.out⟩
      · go_wp2_with fail
        go_ret
        exact ⟨by rw [HRT.out]; simp [headP]; omega, box_below HBX.out⟩
    have b5 : (k == 5) = false := by simp [k5]
    have b6 : (k == 6) = false := by simp [hk6']
    have b8 : (k == 8) = false := by simp [hk8]
    by_cases k7 : k = 7
    · subst k7
      go_wp2_with fail
      go_ret
      exact ⟨by rw [HRT.out]; simp [headP], box_below HBX.out⟩
    have b7 : (k == 7) = false := by simp [k7]
    by_cases k9 : k = 9
    · subst k9
      go_wp2_with fail
      go_ret
      exact ⟨by rw [HRT.out]; simp [headP]; omega, box_below HBX.out⟩
    have b9 : (k == 9) = false := by simp [k9]
    go_wp2_with fail
    go_ret
    exact ⟨by rw [HRT.out]; simp [headP, k1, k2, k3, k4, k5, hk6', hk8, k7, k9], box_below HBX.out⟩

theorem form_all : ∀ t : Tm, FormOk t := Tm.ind form_of

/-! ### May: both answers -/

theorem seven_back {w w1 : World} {o : Array Value} {t : TypeId} (hb : Below (w.alloc (.cells o t)).heap.size (w.alloc (.cells o t)) w1) (i : Nat) : w1.cell? ⟨w.heap.size, i, none⟩ = o[i]? :=
  box_cells (hb.mono (by simp)) i

set_option maxHeartbeats 4000000 in
set_option maxRecDepth 100000 in
theorem may_any (t : Tm) (v : Value) (w : World) (h : TmAt w v t) (hsm : t.small = true) : Calls Tryd.prog 42 #[v] w fun e w' => e = .returned (.bool t.may) ∧ Below w.heap.size w w' := by
  obtain ⟨k, n, neg, mag, bits, bytes, args, mv, av, he, rfl, _, _, hms, _, _, _, _, hts⟩ := h.open
  obtain ⟨ma, mcap, rfl, _⟩ := hms
  obtain ⟨_, a, acap, rfl, _⟩ := hts
  have b1 := (Below.refl w.heap.size w).alloc (Nat.le_refl _) (.cells #[.int .i64 k, .int .i64 n, .bool neg, .slice ma mag.length mcap, .int .u64 bits, .string bytes, .slice a args.length acap] 28)
  have B1 := Lib.hid b1
  have HT := Lib.hid h
  clear b1 h he
  unfold termV
  go_enter Tryd.func42, Tryd.ntmps42
  go_wp2_with fail
  refine (weight_any t _ _ (HT.out.lift B1.out) hsm).mono ?_
  rintro e w1 ⟨rfl, hb1⟩
  have d0 := seven_back hb1 0
  have d1 := seven_back hb1 1
  have d2 := seven_back hb1 2
  have d3 := seven_back hb1 3
  have d4 := seven_back hb1 4
  have d5 := seven_back hb1 5
  have d6 := seven_back hb1 6
  simp at d0 d1 d2 d3 d4 d5 d6
  have B2 := Lib.hid (B1.out.trans (hb1.mono B1.out.size))
  clear hb1
  by_cases hw : t.wt ≤ 300
  · have q1 : ((min t.wt 301 : Nat) : Int) ≤ 300 := by omega
    go_wp2_with fail
    refine (right_all t _ w1 (HT.out.lift B2.out)).mono ?_
    rintro e w2 ⟨rfl, hb2⟩
    have B3 := Lib.hid (B2.out.trans (hb2.mono B2.out.size))
    clear hb2
    go_wp2_with fail
    go_ret
    exact ⟨by simp [Tm.may, hw], B3.out⟩
  · have q1 : ¬ ((min t.wt 301 : Nat) : Int) ≤ 300 := by omega
    go_wp2_with fail
    go_ret
    exact ⟨by simp [Tm.may, hw], B2.out⟩

set_option maxHeartbeats 4000000 in
set_option maxRecDepth 100000 in
theorem refMay_any (t : Tm) (v : Value) (w : World) (h : TmAt w v t) (hsm : t.small = true) : Calls Tryd.prog 44 #[v] w fun e w' => e = .returned (.bool t.may) ∧ Below w.heap.size w w' := by
  obtain ⟨k, n, neg, mag, bits, bytes, args, mv, av, he, rfl, _, _, hms, _, _, _, _, hts⟩ := h.open
  obtain ⟨ma, mcap, rfl, _⟩ := hms
  obtain ⟨_, a, acap, rfl, _⟩ := hts
  have b1 := (Below.refl w.heap.size w).alloc (Nat.le_refl _) (.cells #[.int .i64 k, .int .i64 n, .bool neg, .slice ma mag.length mcap, .int .u64 bits, .string bytes, .slice a args.length acap] 28)
  have B1 := Lib.hid b1
  have HT := Lib.hid h
  clear b1 h he
  unfold termV
  go_enter Tryd.func44, Tryd.ntmps44
  go_wp2_with fail
  refine (refw_all t _ _ (HT.out.lift B1.out) hsm).mono ?_
  rintro e w1 ⟨rfl, hb1⟩
  have d0 := seven_back hb1 0
  have d1 := seven_back hb1 1
  have d2 := seven_back hb1 2
  have d3 := seven_back hb1 3
  have d4 := seven_back hb1 4
  have d5 := seven_back hb1 5
  have d6 := seven_back hb1 6
  simp at d0 d1 d2 d3 d4 d5 d6
  have B2 := Lib.hid (B1.out.trans (hb1.mono B1.out.size))
  clear hb1
  by_cases hw : t.wt ≤ 300
  · have q1 : ((min t.wt 301 : Nat) : Int) ≤ 300 := by omega
    go_wp2_with fail
    refine (form_all t _ w1 (HT.out.lift B2.out)).mono ?_
    rintro e w2 ⟨rfl, hb2⟩
    have B3 := Lib.hid (B2.out.trans (hb2.mono B2.out.size))
    clear hb2
    go_wp2_with fail
    go_ret
    exact ⟨by simp [Tm.may, hw], B3.out⟩
  · have q1 : ¬ ((min t.wt 301 : Nat) : Int) ≤ 300 := by omega
    go_wp2_with fail
    go_ret
    exact ⟨by simp [Tm.may, hw], B2.out⟩

end Go.Proofs.YtohgkfnbjfhniaaDoor
