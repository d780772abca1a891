/-
  Terms: what they are, how they stand in memory, what may be, what they weigh, their bytes.
-/
import Derived.Test.YtohgkfnbjfhniaaDoorPb
namespace Go.Proofs.YtohgkfnbjfhniaaDoor
open Go.RowKit Sp

inductive Tm where
  | mk (k n : Int) (neg : Bool) (mag : List Nat) (bits : Nat) (bytes : ByteArray) (args : List Tm)

/-- Limbs in memory. -/
def Ms (w : World) (v : Value) (l : List Nat) : Prop :=
  ∃ a cap, v = .slice a l.length cap ∧ ∀ j, (hj : j < l.length) → ∃ g o, a = some ⟨g, o, none⟩ ∧ w.cell? ⟨g, o + j, none⟩ = some (.int .u32 l[j])

theorem Ms.below {w w' : World} {v : Value} {l : List Nat} (h : Ms w v l) (hb : Below w.heap.size w w') : Ms w' v l := by
  obtain ⟨a, cap, rfl, hc⟩ := h
  refine ⟨a, cap, rfl, fun j hj => ?_⟩
  obtain ⟨g, o, rfl, k⟩ := hc j hj
  exact ⟨g, o, rfl, (hb.cell (World.block_lt_of_cell? w _ k)).trans k⟩

def termV (k n : Int) (neg : Bool) (mv : Value) (bits : Nat) (bytes : ByteArray) (av : Value) : Value :=
  .agg #[.int .i64 k, .int .i64 n, .bool neg, mv, .int .u64 bits, .string bytes, av]

/-- A term as it stands in memory. -/
inductive TmAt (w : World) : Value → Tm → Prop
  | mk {k n : Int} {neg : Bool} {mag : List Nat} {bits : Nat} {bytes : ByteArray} {args : List Tm} {mv : Value} {a : Option Addr} {cap : Nat} (cells : Nat → Array Value)
      (hk : In64 k) (hn : In64 n) (hm : Ms w mv mag) (hml : mag.length ≤ maxLen) (hu : ∀ x ∈ mag, x < 4294967296) (hb : bits < 18446744073709551616) (hs : bytes.size ≤ maxLen) (hal : args.length ≤ maxLen)
      (hc : ∀ j, j < args.length → ∃ g o, a = some ⟨g, o, none⟩ ∧ ∀ i, i < 7 → w.cell? ⟨g, o + j * 7 + i, none⟩ = (cells j)[i]?)
      (ht : ∀ j, (hj : j < args.length) → TmAt w (.agg (cells j)) args[j]) : TmAt w (termV k n neg mv bits bytes (.slice a args.length cap)) (.mk k n neg mag bits bytes args)

theorem TmAt.seven {w : World} {c : Array Value} {t : Tm} (h : TmAt w (.agg c) t) : ∀ i, i < 7 → ∃ u, c[i]? = some u := by
  generalize hv : Value.agg c = v at h
  cases h
  simp only [termV, Value.agg.injEq] at hv
  subst hv
  intro i hi
  match i, hi with
  | 0, _ => exact ⟨_, rfl⟩
  | 1, _ => exact ⟨_, rfl⟩
  | 2, _ => exact ⟨_, rfl⟩
  | 3, _ => exact ⟨_, rfl⟩
  | 4, _ => exact ⟨_, rfl⟩
  | 5, _ => exact ⟨_, rfl⟩
  | 6, _ => exact ⟨_, rfl⟩

theorem TmAt.lift {w w' : World} {v : Value} {t : Tm} (h : TmAt w v t) (hb : Below w.heap.size w w') : TmAt w' v t := by
  induction h with
  | mk cells hk hn hm hml hu hbt hs hal hc ht ih =>
    refine .mk cells hk hn (hm.below hb) hml hu hbt hs hal (fun j hj => ?_) ih
    obtain ⟨g, o, rfl, k⟩ := hc j hj
    refine ⟨g, o, rfl, fun i hi => ?_⟩
    obtain ⟨u, h7⟩ := (ht j hj).seven i hi
    have hk1 := k i hi
    rw [h7] at hk1
    rw [h7]
    exact (hb.cell (World.block_lt_of_cell? w _ hk1)).trans hk1

/-- Terms in a row. -/
def TsAt (w : World) (v : Value) (l : List Tm) : Prop :=
  l.length ≤ maxLen ∧ ∃ a cap, v = .slice a l.length cap ∧ ∀ j, (hj : j < l.length) → ∃ g o k n neg mv bits bytes av, a = some ⟨g, o, none⟩ ∧ TmAt w (termV k n neg mv bits bytes av) l[j] ∧
    w.cell? ⟨g, o + j * 7, none⟩ = some (.int .i64 k) ∧ w.cell? ⟨g, o + j * 7 + 1, none⟩ = some (.int .i64 n) ∧ w.cell? ⟨g, o + j * 7 + 2, none⟩ = some (.bool neg) ∧ w.cell? ⟨g, o + j * 7 + 3, none⟩ = some mv ∧
    w.cell? ⟨g, o + j * 7 + 4, none⟩ = some (.int .u64 bits) ∧ w.cell? ⟨g, o + j * 7 + 5, none⟩ = some (.string bytes) ∧ w.cell? ⟨g, o + j * 7 + 6, none⟩ = some av ∧ (∃ a n c, mv = .slice a n c) ∧ ∃ a n c, av = .slice a n c

/-- What a term in memory is. -/
theorem TmAt.open {w : World} {v : Value} {t : Tm} (h : TmAt w v t) : ∃ k n neg mag bits bytes args mv av, t = .mk k n neg mag bits bytes args ∧ v = termV k n neg mv bits bytes av ∧ In64 k ∧ In64 n ∧ Ms w mv mag ∧ mag.length ≤ maxLen ∧ (∀ x ∈ mag, x < 4294967296) ∧ bits < 18446744073709551616 ∧ bytes.size ≤ maxLen ∧ TsAt w av args := by
  cases h with
  | @mk k n neg mag bits bytes args mv a cap cells hk hn hm hml hu hb hs hal hc ht =>
    refine ⟨k, n, neg, mag, bits, bytes, args, mv, _, rfl, rfl, hk, hn, hm, hml, hu, hb, hs, hal, a, cap, rfl, fun j hj => ?_⟩
    obtain ⟨g, o, rfl, q⟩ := hc j hj
    have h1 := ht j hj
    generalize hv : Value.agg (cells j) = v at h1
    generalize args[j] = tj at h1
    have h2 := h1
    cases h2 with
    | @mk k' n' neg' mag' bits' bytes' args' mv' a' cap' cells' _ _ hm' _ _ _ _ _ _ _ =>
      simp only [termV, Value.agg.injEq] at hv
      have q0 := q 0 (by omega)
      have q1 := q 1 (by omega)
      have q2 := q 2 (by omega)
      have q3 := q 3 (by omega)
      have q4 := q 4 (by omega)
      have q5 := q 5 (by omega)
      have q6 := q 6 (by omega)
      rw [hv] at q0 q1 q2 q3 q4 q5 q6
      exact ⟨g, o, k', n', neg', mv', bits', bytes', _, rfl, h1, q0, q1, q2, q3, q4, q5, q6, by obtain ⟨a, c, e, _⟩ := hm'; exact ⟨_, _, _, e⟩, ⟨_, _, _, rfl⟩⟩

theorem TsAt.below {w w' : World} {v : Value} {l : List Tm} (h : TsAt w v l) (hb : Below w.heap.size w w') : TsAt w' v l := by
  obtain ⟨hl, a, cap, rfl, hc⟩ := h
  refine ⟨hl, a, cap, rfl, fun j hj => ?_⟩
  obtain ⟨g, o, k, n, neg, mv, bits, bytes, av, rfl, ht, c0, c1, c2, c3, c4, c5, c6, c7⟩ := hc j hj
  have up : ∀ {p : Addr} {v : Value}, w.cell? p = some v → w'.cell? p = some v := fun q => (hb.cell (World.block_lt_of_cell? w _ q)).trans q
  exact ⟨g, o, k, n, neg, mv, bits, bytes, av, rfl, ht.lift hb, up c0, up c1, up c2, up c3, up c4, up c5, up c6, c7⟩

/-! ### What a term weighs -/

mutual
def Tm.wt : Tm → Nat
  | .mk k _ _ mag _ bytes args => 1 + (if k = 2 then mag.length else if k = 9 then bytes.size / 8 else if k = 6 ∨ k = 8 then wts args else 0)
def wts : List Tm → Nat
  | [] => 0
  | a :: r => a.wt + wts r
end

theorem Tm.wt_pos (t : Tm) : 1 ≤ t.wt := by cases t; unfold Tm.wt; omega

theorem wts_append (a b : List Tm) : wts (a ++ b) = wts a + wts b := by
  induction a with
  | nil => simp [wts]
  | cons x r ih => simp [wts, ih]; omega

/-! ### What may be -/

def numMayP (neg : Bool) (mag : List Nat) : Bool := decide (mag.length ≤ 8) && (if mag.length = 0 then !neg else decide (mag.getD (mag.length - 1) 0 ≠ 0))
def valP : List Nat → Nat
  | [] => 0
  | a :: r => a + 4294967296 * valP r
def smallP (neg : Bool) (mag : List Nat) : Bool := numMayP neg mag && decide (mag.length ≤ 2) && (if neg then decide (valP mag ≤ 1152921504606846976) else decide (valP mag ≤ 1152921504606846975))
def realP (bits : Nat) : Bool := decide (bits = 9221120237041090561) || decide (bits % 9223372036854775808 ≤ 9218868437227405312)

/-- Has a term nothing but what its kind has? -/
def bareP (k n : Int) (neg : Bool) (mag : List Nat) (bits : Nat) (bytes : ByteArray) (args : List Tm) : Bool :=
  (decide (k = 1 ∨ k = 4 ∨ k = 5) || decide (n = 0)) && (decide (k = 2) || (decide (mag.length = 0) && !neg)) && (decide (k = 3) || decide (bits = 0)) && (decide (k = 9) || decide (bytes.toList = [])) && (decide (k = 6 ∨ k = 8) || decide (args.length = 0))

def headP (k n : Int) (neg : Bool) (mag : List Nat) (bits : Nat) (bytes : ByteArray) (args : List Tm) : Bool :=
  if k = 1 then decide (-1152921504606846976 ≤ n ∧ n ≤ 1152921504606846975)
  else if k = 2 then numMayP neg mag && !smallP neg mag
  else if k = 3 then realP bits
  else if k = 4 then decide (0 ≤ n ∧ n ≤ 255)
  else if k = 5 then decide (0 ≤ n ∧ n ≤ 63)
  else if k = 6 then decide (args.length ≤ 8)
  else if k = 8 then decide (args.length = 2)
  else if k = 7 then true
  else if k = 9 then decide (bytes.size ≤ 400)
  else false

mutual
def Tm.right : Tm → Bool
  | .mk k n neg mag bits bytes args => headP k n neg mag bits bytes args && bareP k n neg mag bits bytes args && rights args
def rights : List Tm → Bool
  | [] => true
  | a :: r => a.right && rights r
end

def Tm.may (t : Tm) : Bool := decide (t.wt ≤ 300) && t.right

theorem rights_append (a b : List Tm) : rights (a ++ b) = (rights a && rights b) := by
  induction a with
  | nil => simp [rights]
  | cons x r ih => simp [rights, ih, Bool.and_assoc]

theorem rights_mem {l : List Tm} (h : rights l = true) : ∀ t ∈ l, t.right = true := by
  induction l with
  | nil => intro t ht; cases ht
  | cons x r ih =>
    simp only [rights, Bool.and_eq_true] at h
    intro t ht
    rcases List.mem_cons.1 ht with rfl | ht
    · exact h.1
    · exact ih h.2 t ht

theorem rights_of {l : List Tm} (h : ∀ t ∈ l, t.right = true) : rights l = true := by
  induction l with
  | nil => rfl
  | cons x r ih => simp only [rights, Bool.and_eq_true]; exact ⟨h x (by simp), ih (fun t ht => h t (by simp [ht]))⟩

/-! ### A term's bytes -/

/-- A number's lowest bytes, so many, the highest first. -/
def putP (u : Nat) : Nat → List UInt8
  | 0 => []
  | m + 1 => UInt8.ofNat (u >>> (8 * m)) :: putP u m

def bodyP (k n : Int) (neg : Bool) (mag : List Nat) (bits : Nat) (bytes : ByteArray) (len : Nat) : List UInt8 :=
  if k = 1 then putP (n % 18446744073709551616).toNat 8
  else if k = 2 then [if neg then 1 else 0, UInt8.ofNat mag.length] ++ mag.flatMap (fun x => putP x 4)
  else if k = 3 then putP bits 8
  else if k = 4 ∨ k = 5 then [UInt8.ofNat (n % 256).toNat]
  else if k = 6 then [UInt8.ofNat len]
  else if k = 9 then putP bytes.size 2 ++ bytes.toList
  else []

mutual
def Tm.lay : Tm → List UInt8
  | .mk k n neg mag bits bytes args => UInt8.ofNat (k % 256).toNat :: bodyP k n neg mag bits bytes args.length ++ (if k = 6 ∨ k = 8 then lays args else [])
def lays : List Tm → List UInt8
  | [] => []
  | a :: r => a.lay ++ lays r
end

theorem lays_append (a b : List Tm) : lays (a ++ b) = lays a ++ lays b := by
  induction a with
  | nil => simp [lays]
  | cons x r ih => simp [lays, ih]

/-- By a term's parts. -/
theorem Tm.ind {P : Tm → Prop} (h : ∀ k n neg mag bits bytes args, (∀ t ∈ args, P t) → P (.mk k n neg mag bits bytes args)) : ∀ t, P t
  | .mk k n neg mag bits bytes args => h k n neg mag bits bytes args (fun t _ => Tm.ind h t)
termination_by t => SizeOf.sizeOf t
decreasing_by
  rename_i ht
  have := List.sizeOf_lt_of_mem ht
  simp
  omega

theorem putP_length (u : Nat) : ∀ m, (putP u m).length = m
  | 0 => rfl
  | m + 1 => by simp [putP, putP_length u m]

theorem flat_put (l : List Nat) : (l.flatMap fun x => putP x 4).length = 4 * l.length := by
  induction l with
  | nil => rfl
  | cons x r ih => simp only [List.flatMap_cons, List.length_append, putP_length, ih, List.length_cons]; omega

theorem body_len {k n : Int} {neg : Bool} {mag : List Nat} {bits : Nat} {bytes : ByteArray} {args : List Tm} (h : headP k n neg mag bits bytes args = true) (len : Nat) : (bodyP k n neg mag bits bytes len).length ≤ 402 := by
  unfold headP at h
  unfold bodyP
  split
  · simp [putP_length]
  · rename_i h1
    split
    · rename_i h2
      rw [if_neg h1, if_pos h2] at h
      simp only [Bool.and_eq_true] at h
      have := h.1
      unfold numMayP at this
      simp only [Bool.and_eq_true, decide_eq_true_eq] at this
      rw [List.length_append, flat_put]
      simp; omega
    · rename_i h2
      split
      · simp [putP_length]
      · rename_i h3
        split
        · simp
        · rename_i h4
          split
          · simp
          · rename_i h6
            split
            · rename_i h9
              subst h9
              simp at h
              rw [List.length_append, putP_length]
              have : bytes.toList.length = bytes.size := by rw [Lib.toList_data, ← Lib.size_eq]
              omega
            · simp

theorem right_parts {k n : Int} {neg : Bool} {mag : List Nat} {bits : Nat} {bytes : ByteArray} {args : List Tm} (h : (Tm.mk k n neg mag bits bytes args).right = true) :
    headP k n neg mag bits bytes args = true ∧ bareP k n neg mag bits bytes args = true ∧ rights args = true := by
  simp only [Tm.right, Bool.and_eq_true] at h
  exact ⟨h.1.1, h.1.2, h.2⟩

theorem bare_args {k n : Int} {neg : Bool} {mag : List Nat} {bits : Nat} {bytes : ByteArray} {args : List Tm} (h : bareP k n neg mag bits bytes args = true) (hk : ¬ (k = 6 ∨ k = 8)) : args = [] := by
  unfold bareP at h
  simp only [Bool.and_eq_true, Bool.or_eq_true, decide_eq_true_eq] at h
  rcases h.2 with h | h
  · exact absurd h hk
  · exact List.eq_nil_of_length_eq_zero h

theorem lay_right {k n : Int} {neg : Bool} {mag : List Nat} {bits : Nat} {bytes : ByteArray} {args : List Tm} (h : (Tm.mk k n neg mag bits bytes args).right = true) :
    (Tm.mk k n neg mag bits bytes args).lay = UInt8.ofNat (k % 256).toNat :: bodyP k n neg mag bits bytes args.length ++ lays args := by
  simp only [Tm.lay]
  split
  · rfl
  · rename_i hk
    rw [bare_args (right_parts h).2.1 hk]; rfl

theorem wts_lays {l : List Tm} (h : ∀ t ∈ l, t.right = true → t.lay.length ≤ 403 * t.wt) (hr : rights l = true) : (lays l).length ≤ 403 * wts l := by
  induction l with
  | nil => simp [lays]
  | cons x r ih =>
    simp only [rights, Bool.and_eq_true] at hr
    have h1 := h x (by simp) hr.1
    have h2 := ih (fun t ht => h t (by simp [ht])) hr.2
    simp only [lays, wts, List.length_append]
    omega

theorem lay_len : ∀ t : Tm, t.right = true → t.lay.length ≤ 403 * t.wt := by
  refine Tm.ind fun k n neg mag bits bytes args ih h => ?_
  obtain ⟨h1, h2, h3⟩ := right_parts h
  have hb := body_len h1 args.length
  simp only [Tm.lay, Tm.wt, List.length_append, List.length_cons]
  by_cases hk : k = 6 ∨ k = 8
  · have hl := wts_lays ih h3
    have e2 : k ≠ 2 := by omega
    have e9 : k ≠ 9 := by omega
    rw [if_pos hk, if_neg e2, if_neg e9, if_pos hk]
    omega
  · rw [if_neg hk]
    simp only [List.length_nil]
    omega

/-! ### Terms that are not too great -/

mutual
def Tm.small : Tm → Bool
  | .mk _ _ _ mag _ bytes args => decide (mag.length ≤ 40) && decide (bytes.size ≤ 1000) && smalls args
def smalls : List Tm → Bool
  | [] => true
  | a :: r => a.small && smalls r
end

theorem smalls_append (a b : List Tm) : smalls (a ++ b) = (smalls a && smalls b) := by
  induction a with
  | nil => simp [smalls]
  | cons x r ih => simp [smalls, ih, Bool.and_assoc]

theorem smalls_mem {l : List Tm} (h : smalls l = true) : ∀ t ∈ l, t.small = true := by
  induction l with
  | nil => intro t ht; cases ht
  | cons x r ih =>
    simp only [smalls, Bool.and_eq_true] at h
    intro t ht
    rcases List.mem_cons.1 ht with rfl | ht
    · exact h.1
    · exact ih h.2 t ht

theorem small_parts {k n : Int} {neg : Bool} {mag : List Nat} {bits : Nat} {bytes : ByteArray} {args : List Tm} (h : (Tm.mk k n neg mag bits bytes args).small = true) : mag.length ≤ 40 ∧ bytes.size ≤ 1000 ∧ smalls args = true := by
  simp only [Tm.small, Bool.and_eq_true, decide_eq_true_eq] at h
  exact ⟨h.1.1, h.1.2, h.2⟩

end Go.Proofs.YtohgkfnbjfhniaaDoor
