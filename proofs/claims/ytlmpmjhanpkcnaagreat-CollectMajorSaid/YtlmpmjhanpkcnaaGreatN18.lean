/-
  Terms as the document has them: what a term weighs, whether it may be (beehiveref4.May), over the terms in memory. No condition.
-/
import Derived.Test.YtlmpmjhanpkcnaaGreatN17
import Derived.Laws.Externs
import Derived.Deep.CutBlock
import Derived.Laws.Bits64b
set_option linter.unusedVariables false
set_option linter.unusedSimpArgs false
namespace Go.Proofs.YtlmpmjhanpkcnaaGreat
open Go.RowKit

def StermV (k n : Int) (neg : Bool) (mv : Value) (bits : Nat) (bytes : ByteArray) (av : Value) : Value :=
  .agg #[.int .i64 k, .int .i64 n, .bool neg, mv, .int .u64 bits, .string bytes, av]

/-- A term as it stands in memory. -/
inductive STmAt (w : World) : Value → Tm → Prop
  | mk {k n : Int} {neg : Bool} {mag : List Nat} {bits : Nat} {bytes : ByteArray} {args : List Tm} {mv : Value} {a : Option Addr} {cap : Nat} (cells : Nat → Array Value)
      (hk : In64 k) (hn : In64 n) (hm : Ms w mv mag) (hml : mag.length ≤ maxLen) (hu : ∀ x ∈ mag, x < 4294967296) (hb : bits < 18446744073709551616) (hs : bytes.size ≤ maxLen) (hal : args.length ≤ maxLen)
      (hc : ∀ j, j < args.length → ∃ g o, a = some ⟨g, o, none⟩ ∧ ∀ i, i < 7 → w.cell? ⟨g, o + j * 7 + i, none⟩ = (cells j)[i]?)
      (ht : ∀ j, (hj : j < args.length) → STmAt w (.agg (cells j)) args[j]) : STmAt w (StermV k n neg mv bits bytes (.slice a args.length cap)) (.mk k n neg mag bits bytes args)

theorem STmAt.seven {w : World} {c : Array Value} {t : Tm} (h : STmAt w (.agg c) t) : ∀ i, i < 7 → ∃ u, c[i]? = some u := by
  generalize hv : Value.agg c = v at h
  cases h
  simp only [StermV, Value.agg.injEq] at hv
  subst hv
  intro i hi
  match i, hi with
  | 0, _ => exact ⟨_, rfl⟩
  | 1, _ => exact ⟨_, rfl⟩
  | 2, _ => exact ⟨_, rfl⟩
  | 3, _ => exact ⟨_, rfl⟩
  | 4, _ => exact ⟨_, rfl⟩
  | 5, _ => exact ⟨_, rfl⟩
  | 6, _ => exact ⟨_, rfl⟩

theorem STmAt.lift {w w' : World} {v : Value} {t : Tm} (h : STmAt w v t) (hb : Below w.heap.size w w') : STmAt w' v t := by
  induction h with
  | mk cells hk hn hm hml hu hbt hs hal hc ht ih =>
    refine .mk cells hk hn (hm.below hb) hml hu hbt hs hal (fun j hj => ?_) ih
    obtain ⟨g, o, rfl, k⟩ := hc j hj
    refine ⟨g, o, rfl, fun i hi => ?_⟩
    obtain ⟨u, h7⟩ := (ht j hj).seven i hi
    have hk1 := k i hi
    rw [h7] at hk1
    rw [h7]
    exact (hb.cell (World.block_lt_of_cell? w _ hk1)).trans hk1

/-- Terms in a row. -/
def STsAt (w : World) (v : Value) (l : List Tm) : Prop :=
  l.length ≤ maxLen ∧ ∃ a cap, v = .slice a l.length cap ∧ ∀ j, (hj : j < l.length) → ∃ g o k n neg mv bits bytes av, a = some ⟨g, o, none⟩ ∧ STmAt w (StermV k n neg mv bits bytes av) l[j] ∧
    w.cell? ⟨g, o + j * 7, none⟩ = some (.int .i64 k) ∧ w.cell? ⟨g, o + j * 7 + 1, none⟩ = some (.int .i64 n) ∧ w.cell? ⟨g, o + j * 7 + 2, none⟩ = some (.bool neg) ∧ w.cell? ⟨g, o + j * 7 + 3, none⟩ = some mv ∧
    w.cell? ⟨g, o + j * 7 + 4, none⟩ = some (.int .u64 bits) ∧ w.cell? ⟨g, o + j * 7 + 5, none⟩ = some (.string bytes) ∧ w.cell? ⟨g, o + j * 7 + 6, none⟩ = some av ∧ (∃ a n c, mv = .slice a n c) ∧ ∃ a n c, av = .slice a n c

/-- What a term in memory is. -/
theorem STmAt.open {w : World} {v : Value} {t : Tm} (h : STmAt w v t) : ∃ k n neg mag bits bytes args mv av, t = .mk k n neg mag bits bytes args ∧ v = StermV k n neg mv bits bytes av ∧ In64 k ∧ In64 n ∧ Ms w mv mag ∧ mag.length ≤ maxLen ∧ (∀ x ∈ mag, x < 4294967296) ∧ bits < 18446744073709551616 ∧ bytes.size ≤ maxLen ∧ STsAt w av args := by
  cases h with
  | @mk k n neg mag bits bytes args mv a cap cells hk hn hm hml hu hb hs hal hc ht =>
    refine ⟨k, n, neg, mag, bits, bytes, args, mv, _, rfl, rfl, hk, hn, hm, hml, hu, hb, hs, hal, a, cap, rfl, fun j hj => ?_⟩
    obtain ⟨g, o, rfl, q⟩ := hc j hj
    have h1 := ht j hj
    generalize hv : Value.agg (cells j) = v at h1
    generalize args[j] = tj at h1
    have h2 := h1
    cases h2 with
    | @mk k' n' neg' mag' bits' bytes' args' mv' a' cap' cells' _ _ hm' _ _ _ _ _ _ _ =>
      simp only [StermV, Value.agg.injEq] at hv
      have q0 := q 0 (by omega)
      have q1 := q 1 (by omega)
      have q2 := q 2 (by omega)
      have q3 := q 3 (by omega)
      have q4 := q 4 (by omega)
      have q5 := q 5 (by omega)
      have q6 := q 6 (by omega)
      rw [hv] at q0 q1 q2 q3 q4 q5 q6
      exact ⟨g, o, k', n', neg', mv', bits', bytes', _, rfl, h1, q0, q1, q2, q3, q4, q5, q6, by obtain ⟨a, c, e, _⟩ := hm'; exact ⟨_, _, _, e⟩, ⟨_, _, _, rfl⟩⟩

theorem STsAt.below {w w' : World} {v : Value} {l : List Tm} (h : STsAt w v l) (hb : Below w.heap.size w w') : STsAt w' v l := by
  obtain ⟨hl, a, cap, rfl, hc⟩ := h
  refine ⟨hl, a, cap, rfl, fun j hj => ?_⟩
  obtain ⟨g, o, k, n, neg, mv, bits, bytes, av, rfl, ht, c0, c1, c2, c3, c4, c5, c6, c7⟩ := hc j hj
  have up : ∀ {p : Addr} {v : Value}, w.cell? p = some v → w'.cell? p = some v := fun q => (hb.cell (World.block_lt_of_cell? w _ q)).trans q
  exact ⟨g, o, k, n, neg, mv, bits, bytes, av, rfl, ht.lift hb, up c0, up c1, up c2, up c3, up c4, up c5, up c6, c7⟩

/-! ### What a term weighs -/

mutual
def Tm.wt : Tm → Nat
  | .mk k _ _ mag _ bytes args => 1 + (if k = 2 then mag.length else if k = 9 then bytes.size / 8 else if k = 6 ∨ k = 8 then wts args else 0)
def wts : List Tm → Nat
  | [] => 0
  | a :: r => a.wt + wts r
end

theorem Tm.wt_pos (t : Tm) : 1 ≤ t.wt := by cases t; unfold Tm.wt; omega

theorem wts_append (a b : List Tm) : wts (a ++ b) = wts a + wts b := by
  induction a with
  | nil => simp [wts]
  | cons x r ih => simp [wts, ih]; omega

/-! ### What may be -/

/-- Has a term nothing but what its kind has? -/
def bareP (k n : Int) (neg : Bool) (mag : List Nat) (bits : Nat) (bytes : ByteArray) (args : List Tm) : Bool :=
  (decide (k = 1 ∨ k = 4 ∨ k = 5) || decide (n = 0)) && (decide (k = 2) || (decide (mag.length = 0) && !neg)) && (decide (k = 3) || decide (bits = 0)) && (decide (k = 9) || decide (bytes.toList = [])) && (decide (k = 6 ∨ k = 8) || decide (args.length = 0))

def SheadP (k n : Int) (neg : Bool) (mag : List Nat) (bits : Nat) (bytes : ByteArray) (args : List Tm) : Bool :=
  if k = 1 then decide (-1152921504606846976 ≤ n ∧ n ≤ 1152921504606846975)
  else if k = 2 then numMayP neg mag && !smallP neg mag
  else if k = 3 then realP bits
  else if k = 4 then decide (0 ≤ n ∧ n ≤ 255)
  else if k = 5 then decide (0 ≤ n ∧ n ≤ 63)
  else if k = 6 then decide (args.length ≤ 8)
  else if k = 8 then decide (args.length = 2)
  else if k = 7 then true
  else if k = 9 then decide (bytes.size ≤ 400)
  else false

mutual
def Tm.right : Tm → Bool
  | .mk k n neg mag bits bytes args => SheadP k n neg mag bits bytes args && bareP k n neg mag bits bytes args && rights args
def rights : List Tm → Bool
  | [] => true
  | a :: r => a.right && rights r
end

def Tm.may (t : Tm) : Bool := decide (t.wt ≤ 300) && t.right

theorem rights_append (a b : List Tm) : rights (a ++ b) = (rights a && rights b) := by
  induction a with
  | nil => simp [rights]
  | cons x r ih => simp [rights, ih, Bool.and_assoc]

theorem rights_mem {l : List Tm} (h : rights l = true) : ∀ t ∈ l, t.right = true := by
  induction l with
  | nil => intro t ht; cases ht
  | cons x r ih =>
    simp only [rights, Bool.and_eq_true] at h
    intro t ht
    rcases List.mem_cons.1 ht with rfl | ht
    · exact h.1
    · exact ih h.2 t ht

/-! ### A term's bytes -/

/-- A number's lowest bytes, so many, the highest first. -/
def putP (u : Nat) : Nat → List UInt8
  | 0 => []
  | m + 1 => UInt8.ofNat (u >>> (8 * m)) :: putP u m

def bodyP (k n : Int) (neg : Bool) (mag : List Nat) (bits : Nat) (bytes : ByteArray) (len : Nat) : List UInt8 :=
  if k = 1 then putP (n % 18446744073709551616).toNat 8
  else if k = 2 then [if neg then 1 else 0, UInt8.ofNat mag.length] ++ mag.flatMap (fun x => putP x 4)
  else if k = 3 then putP bits 8
  else if k = 4 ∨ k = 5 then [UInt8.ofNat (n % 256).toNat]
  else if k = 6 then [UInt8.ofNat len]
  else if k = 9 then putP bytes.size 2 ++ bytes.toList
  else []

mutual
def Tm.lay : Tm → List UInt8
  | .mk k n neg mag bits bytes args => UInt8.ofNat (k % 256).toNat :: bodyP k n neg mag bits bytes args.length ++ (if k = 6 ∨ k = 8 then lays args else [])
def lays : List Tm → List UInt8
  | [] => []
  | a :: r => a.lay ++ lays r
end

theorem bare_args {k n : Int} {neg : Bool} {mag : List Nat} {bits : Nat} {bytes : ByteArray} {args : List Tm} (h : bareP k n neg mag bits bytes args = true) (hk : ¬ (k = 6 ∨ k = 8)) : args = [] := by
  unfold bareP at h
  simp only [Bool.and_eq_true, Bool.or_eq_true, decide_eq_true_eq] at h
  rcases h.2 with h | h
  · exact absurd h hk
  · exact List.eq_nil_of_length_eq_zero h

/-! ### Terms that are not too great -/

mutual
def Tm.small : Tm → Bool
  | .mk _ _ _ mag _ bytes args => decide (mag.length ≤ 40) && decide (bytes.size ≤ 1000) && smalls args
def smalls : List Tm → Bool
  | [] => true
  | a :: r => a.small && smalls r
end

theorem smalls_mem {l : List Tm} (h : smalls l = true) : ∀ t ∈ l, t.small = true := by
  induction l with
  | nil => intro t ht; cases ht
  | cons x r ih =>
    simp only [smalls, Bool.and_eq_true] at h
    intro t ht
    rcases List.mem_cons.1 ht with rfl | ht
    · exact h.1
    · exact ih h.2 t ht

theorem small_parts {k n : Int} {neg : Bool} {mag : List Nat} {bits : Nat} {bytes : ByteArray} {args : List Tm} (h : (Tm.mk k n neg mag bits bytes args).small = true) : mag.length ≤ 40 ∧ bytes.size ≤ 1000 ∧ smalls args = true := by
  simp only [Tm.small, Bool.and_eq_true, decide_eq_true_eq] at h
  exact ⟨h.1.1, h.1.2, h.2⟩

theorem andNot63 (b : Nat) (hb : b < 18446744073709551616) : bits .andNot .u64 (b : Int) 9223372036854775808 = ((b % 9223372036854775808 : Nat) : Int) := by
  have h1 : (BitVec.ofInt 64 (b : Int)).toNat = b := by
    rw [BitVec.ofInt_natCast, BitVec.toNat_ofNat]; exact Nat.mod_eq_of_lt (by omega)
  have h2 : (~~~ BitVec.ofInt 64 9223372036854775808).toNat = 2 ^ 63 - 1 := by decide
  show IntKind.u64.wrap ((BitVec.ofInt 64 (b : Int) &&& ~~~ BitVec.ofInt 64 9223372036854775808).toNat : Int) = _
  rw [BitVec.toNat_and, h1, h2, Nat.and_two_pow_sub_one_eq_mod, IntKind.wrap_u64]
  omega

theorem nan_any (b : Nat) (hb : b < 18446744073709551616) (w : World) : Calls Tryz.prog 131 #[.int .u64 b] w fun e w' => e = .returned (.bool (!decide (b % 9223372036854775808 ≤ 9218868437227405312))) ∧ w' = w := by
  have hx := andNot63 b hb
  by_cases h : b % 9223372036854775808 ≤ 9218868437227405312
  · have q : ¬ (9218868437227405312 : Int) < ((b % 9223372036854775808 : Nat) : Int) := by omega
    rw [decide_eq_true h]
    clear h
    go_enter Tryz.func131, Tryz.ntmps131
    go_wp2_with fail
    go_ret
    exact ⟨by simpa using q, rfl⟩
  · have q : (9218868437227405312 : Int) < ((b % 9223372036854775808 : Nat) : Int) := by omega
    rw [decide_eq_false h]
    clear h
    go_enter Tryz.func131, Tryz.ntmps131
    go_wp2_with fail
    go_ret
    exact ⟨by simpa using q, rfl⟩

theorem refReal_any (b : Nat) (hb : b < 18446744073709551616) (w : World) : Calls Tryz.prog 124 #[.int .u64 b] w fun e w' => e = .returned (.bool (realP b)) ∧ w' = w := by
  by_cases h2 : b % 9223372036854775808 ≤ 9218868437227405312
  · go_enter Tryz.func124, Tryz.ntmps124
    go_wp2_with fail
    refine (nan_any b hb _).mono ?_
    rintro e w1 ⟨rfl, rfl⟩
    simp only [h2, decide_true, Bool.not_true]
    go_wp2_with fail
    go_ret
    exact ⟨by simp [realP, h2], rfl⟩
  · by_cases h : b = 9221120237041090561
    · subst h
      go_enter Tryz.func124, Tryz.ntmps124
      go_wp2_with fail
      refine (nan_any _ hb _).mono ?_
      rintro e w1 ⟨rfl, rfl⟩
      simp only [h2, decide_false, Bool.not_false]
      go_wp2_with fail
      go_ret
      exact ⟨by simp [realP], rfl⟩
    · have q1 : ((b : Int) == 9221120237041090561) = false := by simp; omega
      go_enter Tryz.func124, Tryz.ntmps124
      go_wp2_with fail
      refine (nan_any b hb _).mono ?_
      rintro e w1 ⟨rfl, rfl⟩
      simp only [h2, decide_false, Bool.not_false]
      go_wp2_with fail
      go_ret
      exact ⟨by simp [realP, h, h2], rfl⟩

theorem refNumMay_any (neg : Bool) (mag : List Nat) (mv : Value) (w : World) (hm : Ms w mv mag) (hml : mag.length ≤ maxLen) :
    Calls Tryz.prog 123 #[.agg #[.bool neg, mv]] w fun e w' => e = .returned (.bool (numMayP neg mag)) ∧ Below w.heap.size w w' := by
  obtain ⟨a, cap, rfl, hc⟩ := hm
  have b1 : Below w.heap.size w (w.alloc (.cells #[.bool neg, .slice a mag.length cap] 78)) := (Below.refl _ _).alloc (Nat.le_refl _) _
  unfold maxLen at hml
  by_cases h8 : 8 < mag.length
  · have q1 : ¬ (mag.length : Int) ≤ 8 := by omega
    go_enter Tryz.func123, Tryz.ntmps123
    go_wp2_with fail
    go_ret
    exact ⟨by unfold numMayP; rw [decide_eq_false (by omega)]; rfl, b1⟩
  have q1 : (mag.length : Int) ≤ 8 := by omega
  by_cases h0 : mag.length = 0
  · have HE := Lib.hid (show numMayP neg mag = !neg by unfold numMayP; rw [decide_eq_true (by omega), if_pos h0]; rfl)
    rw [h0] at q1 b1 ⊢
    clear hc hml h8
    cases neg
    all_goals
      go_enter Tryz.func123, Tryz.ntmps123
      go_wp2_with fail
      go_ret
      exact ⟨by rw [HE.out]; rfl, b1⟩
  · obtain ⟨m, hlen⟩ : ∃ m, mag.length = m + 1 := ⟨mag.length - 1, by omega⟩
    obtain ⟨g, o, rfl, k⟩ := hc m (by omega)
    have k1 := (b1.cell (World.block_lt_of_cell? w _ k)).trans k
    have hgd : mag.getD (mag.length - 1) 0 = mag[m] := by
      rw [show mag.length - 1 = m by omega]; simp [List.getD, List.getElem?_eq_getElem (show m < mag.length by omega)]
    have HE := Lib.hid (show numMayP neg mag = decide (mag[m] ≠ 0) by unfold numMayP; rw [decide_eq_true (by omega), if_neg h0, hgd]; rfl)
    obtain ⟨x, hx⟩ : ∃ x, mag[m] = x := ⟨_, rfl⟩
    rw [hx] at k k1 hgd
    have HX := Lib.hid hx
    rw [hlen] at q1 b1 k1 ⊢
    have q2 : IntKind.i64.wrap (m : Int) = m := IntWalk.i64_in _ (by omega)
    have q3 : (0 : Int) < (m : Int) + 1 := by omega
    have q4 : (m : Int) < (m : Int) + 1 := by omega
    have q5 : ((m : Int) + 1 == 0) = false := by simp; omega
    have q6 : (m : Int) + 1 ≤ 8 := by omega
    have q7 : (m : Int) + 1 - 1 = m := by omega
    clear hc hml h8 k hx
    by_cases hx0 : x = 0
    · subst hx0
      go_enter Tryz.func123, Tryz.ntmps123
      go_wp2_with fail
      go_ret
      exact ⟨by rw [HE.out, HX.out]; rfl, b1⟩
    · have q8 : ((x : Int) != 0) = true := by simp; omega
      go_enter Tryz.func123, Tryz.ntmps123
      go_wp2_with fail
      go_ret
      exact ⟨by rw [HE.out, HX.out, decide_eq_true hx0]; rfl, b1⟩

theorem len_zero {α : Type} (l : List α) : ((l.length : Int) == 0) = decide (l.length = 0) := by
  by_cases h : l.length = 0
  · simp [h]
  · have : ((l.length : Int) == 0) = false := by simp; intro q; exact h (by simp [q])
    simp [this, h]
theorem empty_nil {α : Type} (l : List α) : l.isEmpty = decide (l.length = 0) := by cases l <;> simp

set_option maxHeartbeats 4000000 in
set_option maxRecDepth 100000 in
theorem blank_any (k n : Int) (neg : Bool) (mag : List Nat) (bits : Nat) (bytes : ByteArray) (args : List Tm) (a : Option Addr) (acap : Nat) (ma : Option Addr) (mcap : Nat) (w : World) :
    Calls Tryz.prog 121 #[.agg #[.int .i64 k, .int .i64 n, .bool neg, .slice ma mag.length mcap, .int .u64 bits, .string bytes, .slice a args.length acap]] w fun e w' => e = .returned (.bool (bareP k n neg mag bits bytes args)) ∧ Below w.heap.size w w' := by
  go_enter Tryz.func121, Tryz.ntmps121
  go_wp2_with fail
  all_goals
    go_ret
    refine ⟨?_, ((Below.refl _ _).alloc (Nat.le_refl _) _).alloc (by simp) _⟩
    show Ending.returned (Value.bool _) = Ending.returned (Value.bool _)
    congr 1
    congr 1
    simp_all [bareP, len_zero, empty_nil]

def Tm.args : Tm → List Tm
  | .mk _ _ _ _ _ _ args => args

theorem wts_take {l : List Tm} {k : Nat} (h : k < l.length) : wts (l.take (k + 1)) = wts (l.take k) + l[k].wt := by
  rw [List.take_succ_eq_append_getElem h, wts_append]; simp [wts]

theorem wts_le_take (l : List Tm) (j : Nat) : wts (l.take j) ≤ wts l := by
  have h := wts_append (l.take j) (l.drop j)
  rw [List.take_append_drop] at h
  omega

def RefWOk (t : Tm) : Prop := ∀ (v : Value) (w : World), STmAt w v t → t.small = true → Calls Tryz.prog 104 #[v] w fun e w' => e = .returned (.int .i64 ((min t.wt 301 : Nat) : Int)) ∧ Below w.heap.size w w'

set_option maxHeartbeats 8000000 in
set_option maxRecDepth 100000 in
theorem refw_of (k n' : Int) (neg : Bool) (mag : List Nat) (bits : Nat) (bytes : ByteArray) (args : List Tm) (ih : ∀ t ∈ args, RefWOk t) : RefWOk (.mk k n' neg mag bits bytes args) := by
  intro v w ht hsm
  obtain ⟨k2, n2, neg2, mag2, bits2, bytes2, args2, mv, av, he, rfl, hk, hn2, hm, hml, hu, hbt, hsz, hts⟩ := ht.open
  cases he
  obtain ⟨ma, mcap, rfl, hq⟩ := hm
  obtain ⟨hl, a, acap, rfl, hc⟩ := hts
  obtain ⟨hm40, hb1000, hsa⟩ := small_parts hsm
  have HI := Lib.hid ih
  have HC := Lib.hid hc
  have HSA := Lib.hid (smalls_mem hsa)
  have B1 := Lib.hid ((Below.refl w.heap.size w).alloc (Nat.le_refl _) (.cells #[.int .i64 k, .int .i64 n', .bool neg, .slice ma mag.length mcap, .int .u64 bits, .string bytes, .slice a args.length acap] 81))
  unfold maxLen at hl
  clear ih hc ht hq hml hsz hbt hu hk hn2 hsm hsa
  unfold StermV
  by_cases hk2 : k = 2
  · subst hk2
    have q2 : IntKind.i64.wrap (1 + min (mag.length : Int) 300) = 1 + min (mag.length : Int) 300 := IntWalk.i64_in _ (by omega)
    go_enter Tryz.func104, Tryz.ntmps104
    go_wp2_with fail
    go_ret
    exact ⟨by show Ending.returned (.int .i64 (min (1 + min (mag.length : Int) 300) 301)) = _; simp only [Tm.wt, if_true]; congr 2; omega, B1.out⟩
  by_cases hk9 : k = 9
  · subst hk9
    have q2 : IntKind.i64.wrap ((bytes.size : Int) / 8) = (bytes.size : Int) / 8 := IntWalk.i64_in _ (by omega)
    have q3 : IntKind.i64.wrap (1 + min ((bytes.size : Int) / 8) 300) = 1 + min ((bytes.size : Int) / 8) 300 := IntWalk.i64_in _ (by omega)
    go_enter Tryz.func104, Tryz.ntmps104
    go_wp2_with fail
    go_ret
    exact ⟨by show Ending.returned (.int .i64 (min (1 + min ((bytes.size : Int) / 8) 300) 301)) = _; simp only [Tm.wt, if_neg hk2, if_true]; congr 2; omega, B1.out⟩
  by_cases hk6 : k = 6 ∨ k = 8
  · have HWT := Lib.hid (show (Tm.mk k n' neg mag bits bytes args).wt = 1 + wts args by simp only [Tm.wt]; rw [if_neg hk2, if_neg hk9, if_pos hk6])
    rcases hk6 with rfl | rfl
    all_goals
      clear hk2 hk9
      go_enter Tryz.func104, Tryz.ntmps104
      go_wp2_with fail
      go_loopw [3, 4] (fun s i wr => ∃ (j r : Nat), j ≤ args.length ∧ s = .int .i64 r ∧ i = .int .i64 j ∧ r ≤ 700 ∧ Hid (min r 301 = min (1 + wts (args.take j)) 301) ∧ Hid (Below (w.heap.size + 1) (w.alloc (.cells #[.int .i64 _, .int .i64 n', .bool neg, .slice ma mag.length mcap, .int .u64 bits, .string bytes, .slice a args.length acap] 81)) wr)) (fun _ i _ => args.length - (intOf i).toNat)
      case atStart => exact ⟨0, 1, by omega, rfl, rfl, by omega, Lib.hid (by simp [wts]), Lib.hid (Below.refl _ _)⟩
      case round =>
        obtain ⟨j, r, hj, rfl, rfl, hr, HM, HBX⟩ := hrel
        have d6 := box_cells HBX.out 6
        simp at d6
        have B0 := box_below HBX.out
        have HB0 := Lib.hid B0
        have sz : w.heap.size + 1 ≤ wr.heap.size := by have := HBX.out.size; simpa using this
        by_cases hlt' : j < args.length
        · have q4 : (j : Int) < (args.length : Int) := by omega
          have q5 : (0 : Int) ≤ (j : Int) := by omega
          have q6 : IntKind.i64.wrap ((j : Int) + 1) = (j : Int) + 1 := IntWalk.i64_in _ (by omega)
          by_cases hg : r ≤ 300
          · have q7 : (r : Int) ≤ 300 := by omega
            obtain ⟨g, o, k', n2', neg', mv', bits', bytes', av', rfl, ht, p0, p1, p2, p3, p4, p5, p6, ⟨ma2, ml2, mc2, rfl⟩, ⟨aa2, al2, ac2, rfl⟩⟩ := HC.out j hlt'
            have HT := Lib.hid (ht.lift B0)
            have up : ∀ {p : Addr} {v : Value}, w.cell? p = some v → wr.cell? p = some v := fun q => (B0.cell (World.block_lt_of_cell? w _ q)).trans q
            have l0 := up p0
            have l1 := up p1
            have l2 := up p2
            have l3 := up p3
            have l4 := up p4
            have l5 := up p5
            have l6 := up p6
            clear p0 p1 p2 p3 p4 p5 p6 up B0 ht
            go_wp2_with fail
            refine ((HI.out args[j] (List.getElem_mem hlt')) _ wr HT.out (HSA.out _ (List.getElem_mem hlt'))).mono ?_
            rintro e w5 ⟨rfl, hb5⟩
            have HB5 := Lib.hid (HBX.out.trans (hb5.mono sz))
            have q8 : IntKind.i64.wrap ((r : Int) + ((min args[j].wt 301 : Nat) : Int)) = (r : Int) + ((min args[j].wt 301 : Nat) : Int) := IntWalk.i64_in _ (by omega)
            have HM5 := Lib.hid (show min (r + min args[j].wt 301) 301 = min (1 + wts (args.take (j + 1))) 301 by
              have h1 := HM.out
              rw [wts_take hlt']; omega)
            clear hb5
            go_wp2_with fail
            go_roundw
            case rel => exact ⟨j + 1, r + min args[j].wt 301, by omega, by simp, by go_num, by omega, HM5, HB5⟩
            case measure => simp [intOf]; omega
          · have q7 : ¬ (r : Int) ≤ 300 := by omega
            go_wp2_with fail
            go_ret
            exact ⟨by
              show Ending.returned (.int .i64 (min (r : Int) 301)) = _
              have h1 := HM.out
              have h2 := wts_le_take args j
              rw [HWT.out]; congr 2; omega, HB0.out⟩
        · obtain rfl : j = args.length := by omega
          have q4 : ¬ ((args.length : Nat) : Int) < (args.length : Int) := by omega
          go_wp2_with fail
          go_ret
          exact ⟨by
            show Ending.returned (.int .i64 (min (r : Int) 301)) = _
            have h1 := HM.out
            rw [List.take_length] at h1
            rw [HWT.out]; congr 2; omega, HB0.out⟩
  · have hne6 : ¬ k = 6 := fun q => hk6 (.inl q)
    have hne8 : ¬ k = 8 := fun q => hk6 (.inr q)
    have b2 : (k == 2) = false := by simp [hk2]
    have b9 : (k == 9) = false := by simp [hk9]
    have b6 : (k == 6) = false := by simp [hne6]
    have b8 : (k == 8) = false := by simp [hne8]
    go_enter Tryz.func104, Tryz.ntmps104
    go_wp2_with fail
    go_ret
    exact ⟨by simp [Tm.wt, hk2, hk9, hne6, hne8]; rfl, B1.out⟩

theorem refw_all : ∀ t : Tm, RefWOk t := Tm.ind refw_of

set_option maxHeartbeats 8000000 in
set_option maxRecDepth 100000 in
theorem refSmall_any (neg : Bool) (mag : List Nat) (mv : Value) (w : World) (hm : Ms w mv mag) (hml : mag.length ≤ maxLen) (hu : ∀ x ∈ mag, x < 4294967296) :
    Calls Tryz.prog 122 #[.agg #[.bool neg, mv]] w fun e w' => TwoEnd (smallP neg mag) e ∧ Below w.heap.size w w' := by
  have HM := Lib.hid hm
  have HML := Lib.hid hml
  have HU := Lib.hid hu
  obtain ⟨a, cap, rfl, hc⟩ := hm
  have HC := Lib.hid hc
  have hb1 : Below w.heap.size w (w.alloc (.cells #[.bool neg, .slice a mag.length cap] 78)) := (Below.refl _ _).alloc (Nat.le_refl _) _
  have HM1 := Lib.hid (HM.out.below hb1)
  unfold maxLen at hml
  clear hc hu hb1
  go_enter Tryz.func122, Tryz.ntmps122
  go_wp2_with fail
  refine (refNumMay_any neg mag _ _ HM1.out HML.out).mono ?_
  rintro e w2 ⟨rfl, hb2⟩
  have HBX := Lib.hid (show Below (w.heap.size + 1) (w.alloc (.cells #[.bool neg, .slice a mag.length cap] 78)) w2 from hb2.mono (by simp))
  have d0 := box_cells HBX.out 0
  have d1 := box_cells HBX.out 1
  simp at d0 d1
  clear hb2
  cases hnm : numMayP neg mag
  · go_wp2_with fail
    go_ret2
    exact ⟨⟨0, by simp [smallP, hnm]⟩, box_below HBX.out⟩
  · by_cases h2 : 2 < mag.length
    · have q1 : (2 : Int) < (mag.length : Int) := by omega
      go_wp2_with fail
      go_ret2
      exact ⟨⟨0, by
        have : decide (mag.length ≤ 2) = false := decide_eq_false (by omega)
        simp [smallP, this]⟩, box_below HBX.out⟩
    · have q1 : ¬ (2 : Int) < (mag.length : Int) := by omega
      have q2 : IntKind.i64.wrap ((mag.length : Int) - 1) = (mag.length : Int) - 1 := IntWalk.i64_in _ (by omega)
      go_wp2_with fail
      go_loopw [4, 5] (fun s i wr => ∃ (j : Nat), j ≤ mag.length ∧ s = .int .u64 ((valP (mag.drop j) : Nat) : Int) ∧ i = .int .i64 ((j : Int) - 1) ∧ wr = w2) (fun _ i _ => (intOf i + 1).toNat)
      case atStart => exact ⟨mag.length, by omega, by simp [valP], rfl, rfl⟩
      case round =>
        obtain ⟨j, hj, rfl, rfl, rfl⟩ := hrel
        by_cases hz : j = 0
        · subst hz
          rw [List.drop_zero]
          obtain ⟨y, hy⟩ : ∃ y, valP mag = y := ⟨_, rfl⟩
          have HSP := Lib.hid (show smallP neg mag = (if neg then decide (y ≤ 1152921504606846976) else decide (y ≤ 1152921504606846975)) by
            have : decide (mag.length ≤ 2) = true := decide_eq_true (by omega)
            unfold smallP; rw [hnm, this, hy]; simp)
          rw [hy]
          clear hnm hy
          cases neg
          · by_cases h6 : y ≤ 1152921504606846975
            · have q8 : (y : Int) < 1152921504606846976 := by omega
              go_wp2_with fail
              go_ret2
              exact ⟨⟨_, by rw [HSP.out, if_neg (by simp), decide_eq_true h6]; rfl⟩, box_below HBX.out⟩
            · have q8 : ¬ (y : Int) < 1152921504606846976 := by omega
              go_wp2_with fail
              go_ret2
              exact ⟨⟨_, by rw [HSP.out, if_neg (by simp), decide_eq_false h6]; rfl⟩, box_below HBX.out⟩
          · by_cases h6 : y ≤ 1152921504606846976
            · have q8 : (y : Int) ≤ 1152921504606846976 := by omega
              go_wp2_with fail
              go_ret2
              exact ⟨⟨_, by rw [HSP.out, decide_eq_true h6]; rfl⟩, box_below HBX.out⟩
            · have q8 : ¬ (y : Int) ≤ 1152921504606846976 := by omega
              go_wp2_with fail
              go_ret2
              exact ⟨⟨_, by rw [HSP.out, decide_eq_false h6]; rfl⟩, box_below HBX.out⟩
        · obtain ⟨i, rfl⟩ : ∃ i, j = i + 1 := ⟨j - 1, by omega⟩
          obtain ⟨g, o, rfl, k0⟩ := HC.out i (by omega)
          have k1 := ((box_below HBX.out).cell (World.block_lt_of_cell? w _ k0)).trans k0
          have q4 : (i : Int) < (mag.length : Int) := by omega
          have q5 : (0 : Int) ≤ (i : Int) := by omega
          have e5 : (((i + 1 : Nat) : Int) - 1) = (i : Int) := by omega
          have q6 : IntKind.i64.wrap ((i : Int) - 1) = (i : Int) - 1 := IntWalk.i64_in _ (by omega)
          have hx := HU.out _ (List.getElem_mem (show i < mag.length by omega))
          have HTK := Lib.hid (show mag.drop i = mag[i] :: mag.drop (i + 1) from List.drop_eq_getElem_cons (by omega))
          obtain ⟨x, hxx⟩ : ∃ x, mag[i] = x := ⟨_, rfl⟩
          obtain ⟨y, hy⟩ : ∃ y, valP (mag.drop (i + 1)) = y := ⟨_, rfl⟩
          rw [hxx] at k1 hx HTK
          have HY := Lib.hid (show y < 4294967296 by
            rw [← hy]
            have h := valP_lt (mag.drop (i + 1)) (fun z hz => HU.out z (List.mem_of_mem_drop hz))
            rw [List.length_drop] at h
            have : mag.length - (i + 1) = 0 ∨ mag.length - (i + 1) = 1 := by omega
            rcases this with e | e <;> rw [e] at h <;> simp at h <;> omega)
          have HV := Lib.hid (show valP (mag.drop i) = x + 4294967296 * y by rw [HTK.out, valP, hy])
          have HYE := Lib.hid hy
          rw [e5, hy]
          clear k0 hy hxx e5
          go_wp2_with fail
          go_roundw
          case rel => exact ⟨i, by omega, by rw [HV.out, or_limb2 y x HY.out hx], rfl, trivial⟩
          case measure => simp [intOf]

theorem rights_take {l : List Tm} {k : Nat} (h : k < l.length) : rights (l.take (k + 1)) = (rights (l.take k) && l[k].right) := by
  rw [List.take_succ_eq_append_getElem h, rights_append]; simp [rights]

theorem rights_not {l : List Tm} {k : Nat} (h : k < l.length) (hf : l[k].right = false) : rights l = false := by
  cases hr : rights l with
  | false => rfl
  | true => have := rights_mem hr _ (List.getElem_mem h); rw [hf] at this; cases this

def FormOk (t : Tm) : Prop := ∀ (v : Value) (w : World), STmAt w v t → Calls Tryz.prog 105 #[v] w fun e w' => e = .returned (.bool t.right) ∧ Below w.heap.size w w'

set_option maxHeartbeats 8000000 in
set_option maxRecDepth 100000 in
theorem form_of (k n : Int) (neg : Bool) (mag : List Nat) (bits : Nat) (bytes : ByteArray) (args : List Tm) (ih : ∀ t ∈ args, FormOk t) : FormOk (.mk k n neg mag bits bytes args) := by
  intro v w ht
  obtain ⟨k2, n2, neg2, mag2, bits2, bytes2, args2, mv, av, he, rfl, hk, hn2, hm, hml, hu, hbt, hsz, hts⟩ := ht.open
  cases he
  have HM := Lib.hid hm
  obtain ⟨ma, mcap, rfl, _⟩ := hm
  obtain ⟨hl, a, acap, rfl, hc⟩ := hts
  have HC := Lib.hid hc
  have HI := Lib.hid ih
  have HU := Lib.hid hu
  have HML := Lib.hid hml
  unfold maxLen at hl hml hsz
  clear ih ht hu hc
  unfold StermV
  go_enter Tryz.func105, Tryz.ntmps105
  go_wp2_with fail
  refine (blank_any k n neg mag bits bytes args a acap ma mcap _).mono ?_
  rintro e w2 ⟨rfl, hb2⟩
  have HBX := Lib.hid (show Below (w.heap.size + 1) (w.alloc (.cells #[.int .i64 k, .int .i64 n, .bool neg, .slice ma mag.length mcap, .int .u64 bits, .string bytes, .slice a args.length acap] 81)) w2 from hb2.mono (by simp))
  have d0 := box_cells HBX.out 0
  have d1 := box_cells HBX.out 1
  have d2 := box_cells HBX.out 2
  have d3 := box_cells HBX.out 3
  have d4 := box_cells HBX.out 4
  have d5 := box_cells HBX.out 5
  have d6 := box_cells HBX.out 6
  simp at d0 d1 d2 d3 d4 d5 d6
  clear hb2
  cases hbp : bareP k n neg mag bits bytes args
  · go_wp2_with fail
    go_ret
    exact ⟨by simp [Tm.right, hbp], box_below HBX.out⟩
  by_cases hk6 : k = 6 ∨ k = 8
  · by_cases hlen : (k = 6 ∧ args.length ≤ 8) ∨ (k = 8 ∧ args.length = 2)
    · have HRT := Lib.hid (show (Tm.mk k n neg mag bits bytes args).right = rights args by
        rcases hlen with ⟨rfl, h8⟩ | ⟨rfl, h8⟩
        · simp [Tm.right, hbp, SheadP, h8]
        · simp [Tm.right, hbp, SheadP, h8])
      clear hbp
      rcases hlen with ⟨rfl, h8⟩ | ⟨rfl, h8⟩
      all_goals
        have q1 : ¬ (8 : Int) < (args.length : Int) := by omega
        have q0 : (args.length : Int) ≤ 8 := by omega
        (try have q3 : ((args.length : Int) == 2) = true := by simp [h8])
        (try have q3 : ((args.length : Int) != 2) = false := by simp [h8])
        go_wp2_with fail
        go_loopw [5] (fun i wr => ∃ (j : Nat), j ≤ args.length ∧ i = .int .i64 j ∧ Hid (rights (args.take j) = true) ∧ Hid (Below (w.heap.size + 1) (w.alloc (.cells #[.int .i64 _, .int .i64 n, .bool neg, .slice ma mag.length mcap, .int .u64 bits, .string bytes, .slice a args.length acap] 81)) wr)) (fun i _ => args.length - (intOf i).toNat)
        case atStart => exact ⟨0, by omega, rfl, Lib.hid (by simp [rights]), HBX⟩
        case round =>
          obtain ⟨j, hj, rfl, HR, HB⟩ := hrel
          have e6 := box_cells HB.out 6
          simp at e6
          by_cases hlt' : j < args.length
          · have q4 : (j : Int) < (args.length : Int) := by omega
            have q5 : (0 : Int) ≤ (j : Int) := by omega
            have q6 : IntKind.i64.wrap ((j : Int) + 1) = (j : Int) + 1 := IntWalk.i64_in _ (by omega)
            obtain ⟨g, o, k', n2', neg', mv', bits', bytes', av', rfl, ht, p0, p1, p2, p3, p4, p5, p6, ⟨ma2, ml2, mc2, rfl⟩, ⟨aa2, al2, ac2, rfl⟩⟩ := HC.out j hlt'
            have B0 := box_below HB.out
            have HT := Lib.hid (ht.lift B0)
            have up : ∀ {p : Addr} {v : Value}, w.cell? p = some v → wr.cell? p = some v := fun q => (B0.cell (World.block_lt_of_cell? w _ q)).trans q
            have l0 := up p0
            have l1 := up p1
            have l2 := up p2
            have l3 := up p3
            have l4 := up p4
            have l5 := up p5
            have l6 := up p6
            have sz : w.heap.size + 1 ≤ wr.heap.size := by have := HB.out.size; simpa using this
            clear p0 p1 p2 p3 p4 p5 p6 up B0 ht
            go_wp2_with fail
            refine ((HI.out args[j] (List.getElem_mem hlt')) _ wr HT.out).mono ?_
            rintro e w5 ⟨rfl, hb5⟩
            have HB5 := Lib.hid (HB.out.trans (hb5.mono sz))
            have HRTK := Lib.hid (rights_take hlt')
            have HRN := Lib.hid (fun hf => rights_not hlt' hf)
            clear hb5
            cases hr : args[j].right with
            | true =>
              rw [hr] at HRTK
              clear HRN hr
              go_wp2_with fail
              go_roundw
              case rel => exact ⟨j + 1, by omega, by go_num, Lib.hid (by rw [HRTK.out, HR.out]; rfl), HB5⟩
              case measure => simp [intOf]; omega
            | false =>
              have HRF := Lib.hid (HRN.out hr)
              clear HRN hr HRTK
              go_wp2_with fail
              go_ret
              exact ⟨by rw [HRT.out, HRF.out]; rfl, box_below HB5.out⟩
          · obtain rfl : j = args.length := by omega
            have q4 : ¬ ((args.length : Nat) : Int) < (args.length : Int) := by omega
            have HRE := Lib.hid (show rights args = true by have h := HR.out; rwa [List.take_length] at h)
            go_wp2_with fail
            go_ret
            exact ⟨by rw [HRT.out, HRE.out]; rfl, box_below HB.out⟩
    · have HRT := Lib.hid (show (Tm.mk k n neg mag bits bytes args).right = false by
        rcases hk6 with rfl | rfl
        · have : ¬ args.length ≤ 8 := fun q => hlen (.inl ⟨rfl, q⟩)
          simp [Tm.right, SheadP, this]
        · have : ¬ args.length = 2 := fun q => hlen (.inr ⟨rfl, q⟩)
          simp [Tm.right, SheadP, this])
      clear hbp
      rcases hk6 with rfl | rfl
      · have q1 : (8 : Int) < (args.length : Int) := by
          have : ¬ args.length ≤ 8 := fun q => hlen (.inl ⟨rfl, q⟩)
          omega
        go_wp2_with fail
        go_ret
        exact ⟨by rw [HRT.out]; rfl, box_below HBX.out⟩
      · have q2 : ¬ args.length = 2 := fun q => hlen (.inr ⟨rfl, q⟩)
        have q3 : ((args.length : Int) == 2) = false := by rw [len_two]; simp [q2]
        have q4 : ((args.length : Int) != 2) = true := by simp [bne, q3]
        clear hlen
        go_wp2_with fail
        go_ret
        exact ⟨by rw [HRT.out]; rfl, box_below HBX.out⟩
  · have HRT := Lib.hid (show (Tm.mk k n neg mag bits bytes args).right = SheadP k n neg mag bits bytes args by
      have hr : rights args = true := by rw [bare_args hbp hk6]; rfl
      simp [Tm.right, hbp, hr])
    have hk6' : ¬ k = 6 := fun q => hk6 (.inl q)
    have hk8 : ¬ k = 8 := fun q => hk6 (.inr q)
    clear hbp hk6
    by_cases k1 : k = 1
    · subst k1
      by_cases h1 : -1152921504606846976 ≤ n
      · by_cases h2 : n ≤ 1152921504606846975
        all_goals
          go_wp2_with fail
          go_ret
          exact ⟨by rw [HRT.out]; simp [SheadP]; omega, box_below HBX.out⟩
      · go_wp2_with fail
        go_ret
        exact ⟨by rw [HRT.out]; simp [SheadP]; omega, box_below HBX.out⟩
    have b1 : (k == 1) = false := by simp [k1]
    by_cases k2 : k = 2
    · subst k2
      have hms := HM.out.below (box_below HBX.out)
      have sz : w.heap.size + 1 ≤ w2.heap.size := by have := HBX.out.size; simpa using this
      go_wp2_with fail
      refine (refSmall_any neg mag _ _ hms HML.out HU.out).mono ?_
      rintro e w3 ⟨⟨r, rfl⟩, hb3⟩
      have HMS3 := Lib.hid (hms.below hb3)
      have HB3 := Lib.hid (HBX.out.trans (hb3.mono sz))
      have f2 := box_cells HB3.out 2
      have f3 := box_cells HB3.out 3
      simp at f2 f3
      have sz3 : w.heap.size + 1 ≤ w3.heap.size := by have := HB3.out.size; simpa using this
      clear hb3
      go_wp2_with fail
      refine (refNumMay_any neg mag _ w3 HMS3.out HML.out).mono ?_
      rintro e w4 ⟨rfl, hb4⟩
      have HB4 := Lib.hid (HB3.out.trans (hb4.mono sz3))
      clear hb4
      cases hm1 : numMayP neg mag
      · go_wp2_with fail
        go_ret
        exact ⟨by rw [HRT.out]; simp [SheadP, hm1], box_below HB4.out⟩
      · cases hm2 : smallP neg mag
        all_goals
          go_wp2_with fail
          go_ret
          exact ⟨by rw [HRT.out]; simp [SheadP, hm1, hm2], box_below HB4.out⟩
    have b2 : (k == 2) = false := by simp [k2]
    by_cases k3 : k = 3
    · subst k3
      go_wp2_with fail
      refine (refReal_any bits hbt _).mono ?_
      rintro e w3 ⟨rfl, rfl⟩
      go_wp2_with fail
      go_ret
      exact ⟨by rw [HRT.out]; simp [SheadP], box_below HBX.out⟩
    have b3 : (k == 3) = false := by simp [k3]
    by_cases k4 : k = 4
    · subst k4
      by_cases h1 : 0 ≤ n
      · by_cases h2 : n ≤ 255
        all_goals
          go_wp2_with fail
          go_ret
          exact ⟨by rw [HRT.out]; simp [SheadP]; omega, box_below HBX.out⟩
      · go_wp2_with fail
        go_ret
        exact ⟨by rw [HRT.out]; simp [SheadP]; omega, box_below HBX.out⟩
    have b4 : (k == 4) = false := by simp [k4]
    by_cases k5 : k = 5
    · subst k5
      by_cases h1 : 0 ≤ n
      · by_cases h2 : n ≤ 63
        all_goals
          go_wp2_with fail
          go_ret
          exact ⟨by rw [HRT.out]; simp [SheadP]; omega, box_below HBX.out⟩
      · go_wp2_with fail
        go_ret
        exact ⟨by rw [HRT.out]; simp [SheadP]; omega, box_below HBX.out⟩
    have b5 : (k == 5) = false := by simp [k5]
    have b6 : (k == 6) = false := by simp [hk6']
    have b8 : (k == 8) = false := by simp [hk8]
    by_cases k7 : k = 7
    · subst k7
      go_wp2_with fail
      go_ret
      exact ⟨by rw [HRT.out]; simp [SheadP], box_below HBX.out⟩
    have b7 : (k == 7) = false := by simp [k7]
    by_cases k9 : k = 9
    · subst k9
      go_wp2_with fail
      go_ret
      exact ⟨by rw [HRT.out]; simp [SheadP]; omega, box_below HBX.out⟩
    have b9 : (k == 9) = false := by simp [k9]
    go_wp2_with fail
    go_ret
    exact ⟨by rw [HRT.out]; simp [SheadP, k1, k2, k3, k4, k5, hk6', hk8, k7, k9], box_below HBX.out⟩

theorem form_all : ∀ t : Tm, FormOk t := Tm.ind form_of

theorem seven_back {w w1 : World} {o : Array Value} {t : TypeId} (hb : Below (w.alloc (.cells o t)).heap.size (w.alloc (.cells o t)) w1) (i : Nat) : w1.cell? ⟨w.heap.size, i, none⟩ = o[i]? :=
  box_cells (hb.mono (by simp)) i

set_option maxHeartbeats 4000000 in
set_option maxRecDepth 100000 in
theorem refMay_any (t : Tm) (v : Value) (w : World) (h : STmAt w v t) (hsm : t.small = true) : Calls Tryz.prog 75 #[v] w fun e w' => e = .returned (.bool t.may) ∧ Below w.heap.size w w' := by
  obtain ⟨k, n, neg, mag, bits, bytes, args, mv, av, he, rfl, _, _, hms, _, _, _, _, hts⟩ := h.open
  obtain ⟨ma, mcap, rfl, _⟩ := hms
  obtain ⟨_, a, acap, rfl, _⟩ := hts
  have b1 := (Below.refl w.heap.size w).alloc (Nat.le_refl _) (.cells #[.int .i64 k, .int .i64 n, .bool neg, .slice ma mag.length mcap, .int .u64 bits, .string bytes, .slice a args.length acap] 81)
  have B1 := Lib.hid b1
  have HT := Lib.hid h
  clear b1 h he
  unfold StermV
  go_enter Tryz.func75, Tryz.ntmps75
  go_wp2_with fail
  refine (refw_all t _ _ (HT.out.lift B1.out) hsm).mono ?_
  rintro e w1 ⟨rfl, hb1⟩
  have d0 := seven_back hb1 0
  have d1 := seven_back hb1 1
  have d2 := seven_back hb1 2
  have d3 := seven_back hb1 3
  have d4 := seven_back hb1 4
  have d5 := seven_back hb1 5
  have d6 := seven_back hb1 6
  simp at d0 d1 d2 d3 d4 d5 d6
  have B2 := Lib.hid (B1.out.trans (hb1.mono B1.out.size))
  clear hb1
  by_cases hw : t.wt ≤ 300
  · have q1 : ((min t.wt 301 : Nat) : Int) ≤ 300 := by omega
    go_wp2_with fail
    refine (form_all t _ w1 (HT.out.lift B2.out)).mono ?_
    rintro e w2 ⟨rfl, hb2⟩
    have B3 := Lib.hid (B2.out.trans (hb2.mono B2.out.size))
    clear hb2
    go_wp2_with fail
    go_ret
    exact ⟨by simp [Tm.may, hw], B3.out⟩
  · have q1 : ¬ ((min t.wt 301 : Nat) : Int) ≤ 300 := by omega
    go_wp2_with fail
    go_ret
    exact ⟨by simp [Tm.may, hw], B2.out⟩

end Go.Proofs.YtlmpmjhanpkcnaaGreat
