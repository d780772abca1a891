/-
  Terms: what they are, how they stand in memory.
-/
import Derived.Test.YtohgkfnbjfhniaaXb
namespace Go.Proofs.Ytohgkfnbjfhniaa
open Go.RowKit

inductive Tm where
  | mk (k n : Int) (neg : Bool) (mag : List Nat) (bits : Nat) (bytes : ByteArray) (args : List Tm)

instance : Inhabited Tm := ⟨.mk 0 0 false [] 0 ⟨#[]⟩ []⟩

def In64 (n : Int) : Prop := -9223372036854775808 ≤ n ∧ n ≤ 9223372036854775807

/-- Limbs in memory, in blocks of which P holds. -/
def MsP (P : Nat → Prop) (w : World) (v : Value) (l : List Nat) : Prop :=
  ∃ a cap, v = .slice a l.length cap ∧ ∀ j, (hj : j < l.length) → ∃ g o, a = some ⟨g, o, none⟩ ∧ P g ∧ w.cell? ⟨g, o + j, none⟩ = some (.int .u32 l[j])

theorem MsP.lift {P : Nat → Prop} {w w' : World} {v : Value} {l : List Nat} (h : MsP P w v l) (hk : ∀ k, P k → k < w.heap.size → w'.heap[k]? = w.heap[k]?) : MsP P w' v l := by
  obtain ⟨a, cap, rfl, hc⟩ := h
  refine ⟨a, cap, rfl, fun j hj => ?_⟩
  obtain ⟨g, o, rfl, hp, k⟩ := hc j hj
  exact ⟨g, o, rfl, hp, (World.cell?_of_block (w := w) (hk g hp (World.block_lt_of_cell? w _ k))).trans k⟩

theorem MsP.mono {P Q : Nat → Prop} {w : World} {v : Value} {l : List Nat} (h : MsP P w v l) (hpq : ∀ k, P k → k < w.heap.size → Q k) : MsP Q w v l := by
  obtain ⟨a, cap, rfl, hc⟩ := h
  refine ⟨a, cap, rfl, fun j hj => ?_⟩
  obtain ⟨g, o, rfl, hp, k⟩ := hc j hj
  exact ⟨g, o, rfl, hpq g hp (World.block_lt_of_cell? w _ k), k⟩

theorem MsP.of {P : Nat → Prop} {w : World} {v : Value} {l : List Nat} (h : Ms w v l) (hp : ∀ k, v.ownBlock = some k → P k) : MsP P w v l := by
  obtain ⟨a, cap, rfl, hc⟩ := h
  refine ⟨a, cap, rfl, fun j hj => ?_⟩
  obtain ⟨g, o, rfl, k⟩ := hc j hj
  exact ⟨g, o, rfl, hp g rfl, k⟩

abbrev termV (k n : Int) (neg : Bool) (mv : Value) (bits : Nat) (bytes : ByteArray) (av : Value) : Value :=
  .agg #[.int .i64 k, .int .i64 n, .bool neg, mv, .int .u64 bits, .string bytes, av]

/-- A term as it stands in memory, in blocks of which P holds. -/
inductive TmAt (P : Nat → Prop) (w : World) : Value → Tm → Prop
  | mk {k n : Int} {neg : Bool} {mag : List Nat} {bits : Nat} {bytes : ByteArray} {args : List Tm} {mv : Value} {a : Option Addr} {cap : Nat} (cells : Nat → Array Value)
      (hk : In64 k) (hn : In64 n) (hm : MsP P w mv mag) (hml : mag.length ≤ maxLen) (hu : ∀ x ∈ mag, x < 4294967296) (hb : bits < 18446744073709551616) (hs : bytes.size ≤ maxLen) (hal : args.length ≤ maxLen)
      (hc : ∀ j, j < args.length → ∃ g o, a = some ⟨g, o, none⟩ ∧ P g ∧ ∀ i, i < 7 → w.cell? ⟨g, o + j * 7 + i, none⟩ = (cells j)[i]?)
      (ht : ∀ j, (hj : j < args.length) → TmAt P w (.agg (cells j)) args[j]) : TmAt P w (.agg #[.int .i64 k, .int .i64 n, .bool neg, mv, .int .u64 bits, .string bytes, .slice a args.length cap]) (.mk k n neg mag bits bytes args)

theorem TmAt.seven {P : Nat → Prop} {w : World} {c : Array Value} {t : Tm} (h : TmAt P w (.agg c) t) : ∀ i, i < 7 → ∃ u, c[i]? = some u := by
  generalize hv : Value.agg c = v at h
  cases h
  simp only [Value.agg.injEq] at hv
  subst hv
  intro i hi
  match i, hi with
  | 0, _ => exact ⟨_, rfl⟩
  | 1, _ => exact ⟨_, rfl⟩
  | 2, _ => exact ⟨_, rfl⟩
  | 3, _ => exact ⟨_, rfl⟩
  | 4, _ => exact ⟨_, rfl⟩
  | 5, _ => exact ⟨_, rfl⟩
  | 6, _ => exact ⟨_, rfl⟩

theorem TmAt.lift {P : Nat → Prop} {w w' : World} {v : Value} {t : Tm} (h : TmAt P w v t) (hk : ∀ k, P k → k < w.heap.size → w'.heap[k]? = w.heap[k]?) : TmAt P w' v t := by
  induction h with
  | mk cells hk1 hn hm hml hu hbt hs hal hc ht ih =>
    refine .mk cells hk1 hn (hm.lift hk) hml hu hbt hs hal (fun j hj => ?_) ih
    obtain ⟨g, o, rfl, hp, k⟩ := hc j hj
    refine ⟨g, o, rfl, hp, fun i hi => ?_⟩
    obtain ⟨u, h7⟩ := (ht j hj).seven i hi
    have hk1 := k i hi
    rw [h7] at hk1
    rw [h7]
    exact (World.cell?_of_block (w := w) (hk g hp (World.block_lt_of_cell? w _ hk1))).trans hk1

theorem TmAt.mono {P Q : Nat → Prop} {w : World} {v : Value} {t : Tm} (h : TmAt P w v t) (hpq : ∀ k, P k → k < w.heap.size → Q k) : TmAt Q w v t := by
  induction h with
  | mk cells hk1 hn hm hml hu hbt hs hal hc ht ih =>
    refine .mk cells hk1 hn (hm.mono hpq) hml hu hbt hs hal (fun j hj => ?_) ih
    obtain ⟨g, o, rfl, hp, k⟩ := hc j hj
    obtain ⟨u, h7⟩ := (ht j hj).seven 0 (by omega)
    have hk1 := k 0 (by omega)
    rw [h7] at hk1
    exact ⟨g, o, rfl, hpq g hp (World.block_lt_of_cell? w _ hk1), k⟩

theorem TmAt.shape {P : Nat → Prop} {w : World} {v : Value} {t : Tm} (h : TmAt P w v t) : ∃ k n neg ma ml mc bits bytes a len cap, v = .agg #[.int .i64 k, .int .i64 n, .bool neg, .slice ma ml mc, .int .u64 bits, .string bytes, .slice a len cap] := by
  cases h with
  | mk cells hk hn hm hml hu hb hs hal hc ht =>
    obtain ⟨ma, mc, rfl, _⟩ := hm
    exact ⟨_, _, _, _, _, _, _, _, _, _, _, rfl⟩

/-- A term without parts. -/
theorem TmAt.leaf {P : Nat → Prop} {w : World} {k n : Int} {neg : Bool} {mag : List Nat} {mv : Value} {bits : Nat} {bytes : ByteArray} {a : Option Addr} {cap : Nat} (hk : In64 k) (hn : In64 n) (hm : MsP P w mv mag) (hml : mag.length ≤ maxLen) (hu : ∀ x ∈ mag, x < 4294967296) (hb : bits < 18446744073709551616) (hs : bytes.size ≤ maxLen) :
    TmAt P w (.agg #[.int .i64 k, .int .i64 n, .bool neg, mv, .int .u64 bits, .string bytes, .slice a 0 cap]) (.mk k n neg mag bits bytes []) :=
  .mk (args := []) (fun _ => #[]) hk hn hm hml hu hb hs (by simp) (fun j hj => by simp at hj) (fun j hj => by simp at hj)

theorem MsP.nil {P : Nat → Prop} (w : World) : MsP P w (.slice none 0 0) [] := ⟨none, 0, rfl, fun j hj => by simp at hj⟩

theorem TmAt.zero {P : Nat → Prop} (w : World) : TmAt P w (.agg #[.int .i64 0, .int .i64 0, .bool false, .slice none 0 0, .int .u64 0, .string ⟨#[]⟩, .slice none 0 0]) (.mk 0 0 false [] 0 ⟨#[]⟩ []) :=
  TmAt.leaf (by constructor <;> decide) (by constructor <;> decide) (MsP.nil w) (by simp) (fun x hx => by cases hx) (by decide) (by unfold maxLen; decide)

/-! ### What a word stands for -/

def seqP (g : Nat → Nat → Option (Tm × Nat)) : Nat → List Nat → Option (List Tm × Nat)
  | left, [] => some ([], left)
  | left, w :: r => (g left w).bind fun a => (seqP g a.2 r).map fun b => (a.1 :: b.1, b.2)

theorem seqP_snoc (g : Nat → Nat → Option (Tm × Nat)) (x : Nat) : ∀ (xs : List Nat) (left : Nat), seqP g left (xs ++ [x]) = (seqP g left xs).bind fun b => (g b.2 x).map fun a => (b.1 ++ [a.1], a.2)
  | [], left => by
    simp only [List.nil_append, seqP, Option.bind_some]
    cases g left x <;> rfl
  | y :: r, left => by
    simp only [List.cons_append, seqP]
    cases g left y with
    | none => rfl
    | some a =>
      simp only [Option.bind_some, seqP_snoc g x r a.2]
      cases seqP g a.2 r with
      | none => rfl
      | some b =>
        simp only [Option.bind_some, Option.map_some]
        cases g b.2 x <;> rfl

theorem seqP_none (g : Nat → Nat → Option (Tm × Nat)) : ∀ (xs ys : List Nat) (left : Nat), seqP g left xs = none → seqP g left (xs ++ ys) = none
  | [], _, _, h => by cases h
  | y :: r, ys, left, h => by
    simp only [List.cons_append, seqP] at h ⊢
    cases hg : g left y with
    | none => rfl
    | some a =>
      rw [hg] at h
      simp only [Option.bind_some, Option.map_eq_none_iff] at h ⊢
      exact seqP_none g r ys a.2 h

def binT (left : Nat) (b : ByteArray) : Option (Tm × Nat) := if b.size ≤ 400 ∧ b.size / 8 ≤ left then some (.mk 9 0 false [] 0 b [], left - b.size / 8) else none

/-- The words that an object leads by. -/
def leadW (k : Int) (l : List Nat) : List Nat := (l.drop (leadsP k l.length).1.toNat).take ((leadsP k l.length).2 - (leadsP k l.length).1).toNat

/-- The term that an object stands for. -/
def objT (g : Nat → Nat → Option (Tm × Nat)) (asks : Bool) (S : List Slt) (m : List Frg) (left : Nat) (o : Int × List Nat) : Option (Tm × Nat) :=
  if o.1 = 1 then if (bigMag o.2).length ≤ left then some (.mk 2 0 (bigNeg o.2) (bigMag o.2) 0 ⟨#[]⟩ [], left - (bigMag o.2).length) else none
  else if o.1 = 2 then some (.mk 3 0 false [] (o.2.getD 1 0) ⟨#[]⟩ [], left)
  else if o.1 = 3 then (bytesB o.2).bind (binT left)
  else if o.1 = 4 then (sharedP asks S o.2).bind (binT left)
  else if o.1 = 5 then (partP asks S m o.2).bind (binT left)
  else (seqP g left (leadW o.1 o.2)).map fun r => (.mk (if o.1 = -1 then 8 else 6) 0 false [] 0 ⟨#[]⟩ r.1, r.2)

/-- The term that a word stands for, and how heavy others may be yet. -/
def termP (asks : Bool) (S : List Slt) (m : List Frg) : Nat → Nat → Nat → Option (Tm × Nat)
  | 0, _, _ => none
  | f + 1, left, w =>
    if plainP w = false ∨ left = 0 then none
    else if tagW w = 0 then some (.mk 1 (loadW w) false [] 0 ⟨#[]⟩ [], left - 1)
    else if tagW w = 1 then some (.mk 4 (loadW w) false [] 0 ⟨#[]⟩ [], left - 1)
    else if tagW w = 2 then some (.mk 5 (loadW w) false [] 0 ⟨#[]⟩ [], left - 1)
    else if tagW w = 3 then some (.mk 7 0 false [] 0 ⟨#[]⟩ [], left - 1)
    else (objP m (loadW w) (tagW w)).bind (objT (termP asks S m f) asks S m (left - 1))

end Go.Proofs.Ytohgkfnbjfhniaa
