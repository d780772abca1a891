/-
  Terms: what they are, how they stand in memory.
  A row of terms; a pair's, or a tuple's, term.
  A pair's, or a tuple's, term: the reader's args.
  The term that an object stands for: the reader's object.
  The term that an object stands for: floats, binaries, great integers.
-/
import Derived.Test.YtlmpmjhanpkcnaaGreatN05
set_option linter.unusedVariables false
set_option linter.unusedSimpArgs false
namespace Go.Proofs.YtlmpmjhanpkcnaaGreat
open Go.RowKit

inductive Tm where
  | mk (k n : Int) (neg : Bool) (mag : List Nat) (bits : Nat) (bytes : ByteArray) (args : List Tm)

instance : Inhabited Tm := ⟨.mk 0 0 false [] 0 ⟨#[]⟩ []⟩

def In64 (n : Int) : Prop := -9223372036854775808 ≤ n ∧ n ≤ 9223372036854775807

/-- Limbs in memory, in blocks of which P holds. -/
def MsP (P : Nat → Prop) (w : World) (v : Value) (l : List Nat) : Prop :=
  ∃ a cap, v = .slice a l.length cap ∧ ∀ j, (hj : j < l.length) → ∃ g o, a = some ⟨g, o, none⟩ ∧ P g ∧ w.cell? ⟨g, o + j, none⟩ = some (.int .u32 l[j])

theorem MsP.lift {P : Nat → Prop} {w w' : World} {v : Value} {l : List Nat} (h : MsP P w v l) (hk : ∀ k, P k → k < w.heap.size → w'.heap[k]? = w.heap[k]?) : MsP P w' v l := by
  obtain ⟨a, cap, rfl, hc⟩ := h
  refine ⟨a, cap, rfl, fun j hj => ?_⟩
  obtain ⟨g, o, rfl, hp, k⟩ := hc j hj
  exact ⟨g, o, rfl, hp, (World.cell?_of_block (w := w) (hk g hp (World.block_lt_of_cell? w _ k))).trans k⟩

theorem MsP.mono {P Q : Nat → Prop} {w : World} {v : Value} {l : List Nat} (h : MsP P w v l) (hpq : ∀ k, P k → k < w.heap.size → Q k) : MsP Q w v l := by
  obtain ⟨a, cap, rfl, hc⟩ := h
  refine ⟨a, cap, rfl, fun j hj => ?_⟩
  obtain ⟨g, o, rfl, hp, k⟩ := hc j hj
  exact ⟨g, o, rfl, hpq g hp (World.block_lt_of_cell? w _ k), k⟩

theorem MsP.of {P : Nat → Prop} {w : World} {v : Value} {l : List Nat} (h : Ms w v l) (hp : ∀ k, v.ownBlock = some k → P k) : MsP P w v l := by
  obtain ⟨a, cap, rfl, hc⟩ := h
  refine ⟨a, cap, rfl, fun j hj => ?_⟩
  obtain ⟨g, o, rfl, k⟩ := hc j hj
  exact ⟨g, o, rfl, hp g rfl, k⟩

/-- A term as it stands in memory, in blocks of which P holds. -/
inductive TmAt (P : Nat → Prop) (w : World) : Value → Tm → Prop
  | mk {k n : Int} {neg : Bool} {mag : List Nat} {bits : Nat} {bytes : ByteArray} {args : List Tm} {mv : Value} {a : Option Addr} {cap : Nat} (cells : Nat → Array Value)
      (hk : In64 k) (hn : In64 n) (hm : MsP P w mv mag) (hml : mag.length ≤ maxLen) (hu : ∀ x ∈ mag, x < 4294967296) (hb : bits < 18446744073709551616) (hs : bytes.size ≤ maxLen) (hal : args.length ≤ maxLen)
      (hc : ∀ j, j < args.length → ∃ g o, a = some ⟨g, o, none⟩ ∧ P g ∧ ∀ i, i < 7 → w.cell? ⟨g, o + j * 7 + i, none⟩ = (cells j)[i]?)
      (ht : ∀ j, (hj : j < args.length) → TmAt P w (.agg (cells j)) args[j]) : TmAt P w (.agg #[.int .i64 k, .int .i64 n, .bool neg, mv, .int .u64 bits, .string bytes, .slice a args.length cap]) (.mk k n neg mag bits bytes args)

theorem TmAt.seven {P : Nat → Prop} {w : World} {c : Array Value} {t : Tm} (h : TmAt P w (.agg c) t) : ∀ i, i < 7 → ∃ u, c[i]? = some u := by
  generalize hv : Value.agg c = v at h
  cases h
  simp only [Value.agg.injEq] at hv
  subst hv
  intro i hi
  match i, hi with
  | 0, _ => exact ⟨_, rfl⟩
  | 1, _ => exact ⟨_, rfl⟩
  | 2, _ => exact ⟨_, rfl⟩
  | 3, _ => exact ⟨_, rfl⟩
  | 4, _ => exact ⟨_, rfl⟩
  | 5, _ => exact ⟨_, rfl⟩
  | 6, _ => exact ⟨_, rfl⟩

theorem TmAt.lift {P : Nat → Prop} {w w' : World} {v : Value} {t : Tm} (h : TmAt P w v t) (hk : ∀ k, P k → k < w.heap.size → w'.heap[k]? = w.heap[k]?) : TmAt P w' v t := by
  induction h with
  | mk cells hk1 hn hm hml hu hbt hs hal hc ht ih =>
    refine .mk cells hk1 hn (hm.lift hk) hml hu hbt hs hal (fun j hj => ?_) ih
    obtain ⟨g, o, rfl, hp, k⟩ := hc j hj
    refine ⟨g, o, rfl, hp, fun i hi => ?_⟩
    obtain ⟨u, h7⟩ := (ht j hj).seven i hi
    have hk1 := k i hi
    rw [h7] at hk1
    rw [h7]
    exact (World.cell?_of_block (w := w) (hk g hp (World.block_lt_of_cell? w _ hk1))).trans hk1

theorem TmAt.mono {P Q : Nat → Prop} {w : World} {v : Value} {t : Tm} (h : TmAt P w v t) (hpq : ∀ k, P k → k < w.heap.size → Q k) : TmAt Q w v t := by
  induction h with
  | mk cells hk1 hn hm hml hu hbt hs hal hc ht ih =>
    refine .mk cells hk1 hn (hm.mono hpq) hml hu hbt hs hal (fun j hj => ?_) ih
    obtain ⟨g, o, rfl, hp, k⟩ := hc j hj
    obtain ⟨u, h7⟩ := (ht j hj).seven 0 (by omega)
    have hk1 := k 0 (by omega)
    rw [h7] at hk1
    exact ⟨g, o, rfl, hpq g hp (World.block_lt_of_cell? w _ hk1), k⟩

theorem TmAt.shape {P : Nat → Prop} {w : World} {v : Value} {t : Tm} (h : TmAt P w v t) : ∃ k n neg ma ml mc bits bytes a len cap, v = .agg #[.int .i64 k, .int .i64 n, .bool neg, .slice ma ml mc, .int .u64 bits, .string bytes, .slice a len cap] := by
  cases h with
  | mk cells hk hn hm hml hu hb hs hal hc ht =>
    obtain ⟨ma, mc, rfl, _⟩ := hm
    exact ⟨_, _, _, _, _, _, _, _, _, _, _, rfl⟩

/-- A term without parts. -/
theorem TmAt.leaf {P : Nat → Prop} {w : World} {k n : Int} {neg : Bool} {mag : List Nat} {mv : Value} {bits : Nat} {bytes : ByteArray} {a : Option Addr} {cap : Nat} (hk : In64 k) (hn : In64 n) (hm : MsP P w mv mag) (hml : mag.length ≤ maxLen) (hu : ∀ x ∈ mag, x < 4294967296) (hb : bits < 18446744073709551616) (hs : bytes.size ≤ maxLen) :
    TmAt P w (.agg #[.int .i64 k, .int .i64 n, .bool neg, mv, .int .u64 bits, .string bytes, .slice a 0 cap]) (.mk k n neg mag bits bytes []) :=
  .mk (args := []) (fun _ => #[]) hk hn hm hml hu hb hs (by simp) (fun j hj => by simp at hj) (fun j hj => by simp at hj)

theorem MsP.nil {P : Nat → Prop} (w : World) : MsP P w (.slice none 0 0) [] := ⟨none, 0, rfl, fun j hj => by simp at hj⟩

theorem TmAt.zero {P : Nat → Prop} (w : World) : TmAt P w (.agg #[.int .i64 0, .int .i64 0, .bool false, .slice none 0 0, .int .u64 0, .string ⟨#[]⟩, .slice none 0 0]) (.mk 0 0 false [] 0 ⟨#[]⟩ []) :=
  TmAt.leaf (by constructor <;> decide) (by constructor <;> decide) (MsP.nil w) (by simp) (fun x hx => by cases hx) (by decide) (by unfold maxLen; decide)

/-! ### What a word stands for -/

def seqP (g : Nat → Nat → Option (Tm × Nat)) : Nat → List Nat → Option (List Tm × Nat)
  | left, [] => some ([], left)
  | left, w :: r => (g left w).bind fun a => (seqP g a.2 r).map fun b => (a.1 :: b.1, b.2)

theorem seqP_snoc (g : Nat → Nat → Option (Tm × Nat)) (x : Nat) : ∀ (xs : List Nat) (left : Nat), seqP g left (xs ++ [x]) = (seqP g left xs).bind fun b => (g b.2 x).map fun a => (b.1 ++ [a.1], a.2)
  | [], left => by
    simp only [List.nil_append, seqP, Option.bind_some]
    cases g left x <;> rfl
  | y :: r, left => by
    simp only [List.cons_append, seqP]
    cases g left y with
    | none => rfl
    | some a =>
      simp only [Option.bind_some, seqP_snoc g x r a.2]
      cases seqP g a.2 r with
      | none => rfl
      | some b =>
        simp only [Option.bind_some, Option.map_some]
        cases g b.2 x <;> rfl

theorem seqP_none (g : Nat → Nat → Option (Tm × Nat)) : ∀ (xs ys : List Nat) (left : Nat), seqP g left xs = none → seqP g left (xs ++ ys) = none
  | [], _, _, h => by cases h
  | y :: r, ys, left, h => by
    simp only [List.cons_append, seqP] at h ⊢
    cases hg : g left y with
    | none => rfl
    | some a =>
      rw [hg] at h
      simp only [Option.bind_some, Option.map_eq_none_iff] at h ⊢
      exact seqP_none g r ys a.2 h

def binT (left : Nat) (b : ByteArray) : Option (Tm × Nat) := if b.size ≤ 400 ∧ b.size / 8 ≤ left then some (.mk 9 0 false [] 0 b [], left - b.size / 8) else none

/-- The words that an object leads by. -/
def leadW (k : Int) (l : List Nat) : List Nat := (l.drop (leadsP k l.length).1.toNat).take ((leadsP k l.length).2 - (leadsP k l.length).1).toNat

/-- The term that an object stands for. -/
def objT (g : Nat → Nat → Option (Tm × Nat)) (asks : Bool) (S : List Slt) (m : List Frg) (left : Nat) (o : Int × List Nat) : Option (Tm × Nat) :=
  if o.1 = 1 then if (bigMag o.2).length ≤ left then some (.mk 2 0 (bigNeg o.2) (bigMag o.2) 0 ⟨#[]⟩ [], left - (bigMag o.2).length) else none
  else if o.1 = 2 then some (.mk 3 0 false [] (o.2.getD 1 0) ⟨#[]⟩ [], left)
  else if o.1 = 3 then (bytesB o.2).bind (binT left)
  else if o.1 = 4 then (sharedP asks S o.2).bind (binT left)
  else if o.1 = 5 then (partP asks S m o.2).bind (binT left)
  else (seqP g left (leadW o.1 o.2)).map fun r => (.mk (if o.1 = -1 then 8 else 6) 0 false [] 0 ⟨#[]⟩ r.1, r.2)

/-- The term that a word stands for, and how heavy others may be yet. -/
def termP (asks : Bool) (S : List Slt) (m : List Frg) : Nat → Nat → Nat → Option (Tm × Nat)
  | 0, _, _ => none
  | f + 1, left, w =>
    if plainP w = false ∨ left = 0 then none
    else if tagW w = 0 then some (.mk 1 (loadW w) false [] 0 ⟨#[]⟩ [], left - 1)
    else if tagW w = 1 then some (.mk 4 (loadW w) false [] 0 ⟨#[]⟩ [], left - 1)
    else if tagW w = 2 then some (.mk 5 (loadW w) false [] 0 ⟨#[]⟩ [], left - 1)
    else if tagW w = 3 then some (.mk 7 0 false [] 0 ⟨#[]⟩ [], left - 1)
    else (objP m (loadW w) (tagW w)).bind (objT (termP asks S m f) asks S m (left - 1))

end Go.Proofs.YtlmpmjhanpkcnaaGreat

namespace Go.Proofs.YtlmpmjhanpkcnaaGreat
open Go.RowKit

theorem info40 : (Tryz.prog.info? 81).map (fun i => (i.zero, i.size, i.bytes)) = some (some (.agg #[.int .i64 0, .int .i64 0, .bool false, .slice none 0 0, .int .u64 0, .string ⟨#[]⟩, .slice none 0 0]), 7, 96) := by kernel_rfl

/-- A row's cells hold terms. -/
def HeldT (P : Nat → Prop) (w : World) : List Value → List Tm → Prop
  | [], [] => True
  | a :: b :: c :: d :: e :: f :: g :: r, t :: m => TmAt P w (.agg #[a, b, c, d, e, f, g]) t ∧ HeldT P w r m
  | _, _ => False

theorem HeldT.cons {P : Nat → Prop} {w : World} {xs : List Value} {t : Tm} {m : List Tm} (h : HeldT P w xs (t :: m)) : ∃ a b c d e f g r, xs = a :: b :: c :: d :: e :: f :: g :: r ∧ TmAt P w (.agg #[a, b, c, d, e, f, g]) t ∧ HeldT P w r m := by
  match xs, h with
  | a :: b :: c :: d :: e :: f :: g :: r, h => exact ⟨a, b, c, d, e, f, g, r, rfl, h.1, h.2⟩
  | [], h => cases h
  | [_], h => unfold HeldT at h; cases h
  | [_, _], h => unfold HeldT at h; cases h
  | [_, _, _], h => unfold HeldT at h; cases h
  | [_, _, _, _], h => unfold HeldT at h; cases h
  | [_, _, _, _, _], h => unfold HeldT at h; cases h
  | [_, _, _, _, _, _], h => unfold HeldT at h; cases h

theorem HeldT.nil' {P : Nat → Prop} {w : World} {xs : List Value} (h : HeldT P w xs []) : xs = [] := by
  cases xs with
  | nil => rfl
  | cons a r => unfold HeldT at h; split at h <;> simp_all

theorem HeldT.len {P : Nat → Prop} {w : World} : ∀ {m : List Tm} {xs : List Value}, HeldT P w xs m → xs.length = m.length * 7
  | [], _, h => by rw [h.nil']; rfl
  | t :: m, xs, h => by
    obtain ⟨a, b, c, d, e, f, g, r, rfl, _, h2⟩ := h.cons
    have := HeldT.len h2
    simp only [List.length_cons]; omega

theorem HeldT.imp {P Q : Nat → Prop} {w w' : World} (hi : ∀ {v t}, TmAt P w v t → TmAt Q w' v t) : ∀ {m : List Tm} {xs : List Value}, HeldT P w xs m → HeldT Q w' xs m
  | [], _, h => by rw [h.nil']; trivial
  | t :: m, xs, h => by
    obtain ⟨a, b, c, d, e, f, g, r, rfl, h1, h2⟩ := h.cons
    exact ⟨hi h1, HeldT.imp hi h2⟩

theorem HeldT.snoc {P : Nat → Prop} {w : World} {a b c d e f g : Value} {t : Tm} (ht : TmAt P w (.agg #[a, b, c, d, e, f, g]) t) : ∀ {m : List Tm} {xs : List Value}, HeldT P w xs m → HeldT P w (xs ++ [a, b, c, d, e, f, g]) (m ++ [t])
  | [], _, h => by rw [h.nil']; exact ⟨ht, trivial⟩
  | t' :: m, xs, h => by
    obtain ⟨a', b', c', d', e', f', g', r, rfl, h1, h2⟩ := h.cons
    exact ⟨h1, HeldT.snoc ht h2⟩

theorem HeldT.at {P : Nat → Prop} {w : World} : ∀ {m : List Tm} {xs : List Value}, HeldT P w xs m → ∀ j, (hj : j < m.length) → ∃ cs : Array Value, (∀ i, i < 7 → xs[j * 7 + i]? = cs[i]?) ∧ TmAt P w (.agg cs) m[j]
  | [], _, _ => fun j hj => by simp at hj
  | t :: m, xs, h => fun j hj => by
    obtain ⟨a, b, c, d, e, f, g, r, rfl, h1, h2⟩ := h.cons
    cases j with
    | zero =>
      refine ⟨#[a, b, c, d, e, f, g], fun i hi => ?_, h1⟩
      match i, hi with
      | 0, _ => rfl
      | 1, _ => rfl
      | 2, _ => rfl
      | 3, _ => rfl
      | 4, _ => rfl
      | 5, _ => rfl
      | 6, _ => rfl
    | succ j =>
      obtain ⟨cs, h3, h4⟩ := HeldT.at h2 j (by simpa using hj)
      refine ⟨cs, fun i hi => ?_, by simpa using h4⟩
      rw [← h3 i hi]
      rw [show (j + 1) * 7 + i = (j * 7 + i) + 1 + 1 + 1 + 1 + 1 + 1 + 1 by omega]
      simp

/-- A term with parts, whose row is the call's own. -/
theorem TmAt.row {P Q : Nat → Prop} {w : World} {base n : Nat} {v : Value} {xs : List Value} {ts : List Tm} {k : Int} (hown : w.ownsRow base 81 7 v n xs) (hn : n = ts.length) (hh : HeldT Q w xs ts) (hk : In64 k) (hle : n ≤ maxLen)
    (hq : ∀ k, Q k → k < w.heap.size → P k) (hp : ∀ k, v.ownBlock = some k → P k) : TmAt P w (.agg #[.int .i64 k, .int .i64 0, .bool false, .slice none 0 0, .int .u64 0, .string ⟨#[]⟩, v]) (.mk k 0 false [] 0 ⟨#[]⟩ ts) := by
  subst hn
  have key : ∃ a cap, v = .slice a ts.length cap ∧ ∃ cells : Nat → Array Value, (∀ j, j < ts.length → ∃ g o, a = some ⟨g, o, none⟩ ∧ P g ∧ ∀ i, i < 7 → w.cell? ⟨g, o + j * 7 + i, none⟩ = (cells j)[i]?) ∧ (∀ j, (hj : j < ts.length) → TmAt P w (.agg (cells j)) ts[j]) := by
    have hat := hh.at
    refine ?_
    have : ∃ cells : Nat → Array Value, ∀ j, (hj : j < ts.length) → (∀ i, i < 7 → xs[j * 7 + i]? = (cells j)[i]?) ∧ TmAt Q w (.agg (cells j)) ts[j] :=
      ⟨fun j => if hj : j < ts.length then (hat j hj).choose else #[], fun j hj => by simp only [dif_pos hj]; exact (hat j hj).choose_spec⟩
    obtain ⟨cells, hc⟩ := this
    rcases hown.2 with ⟨rfl, h0⟩ | ⟨g, cap, cur, rfl, hbg, hg, hnc, hcm, hcs, htake⟩
    · exact ⟨none, 0, by rw [h0], cells, fun j hj => by omega, fun j hj => by omega⟩
    · refine ⟨some ⟨g, 0, none⟩, cap, rfl, cells, fun j hj => ⟨g, 0, rfl, hp g rfl, fun i hi => ?_⟩, fun j hj => (hc j hj).2.mono hq⟩
      obtain ⟨h1, h2⟩ := hc j hj
      rw [← h1 i hi]
      have hl := hh.len
      have hlt : j * 7 + i < xs.length := by omega
      rw [Nat.zero_add, ← htake, List.getElem?_take, if_pos (by omega)]
      simp [World.cell?, hg]
  obtain ⟨a, cap, rfl, cells, h1, h2⟩ := key
  exact .mk cells hk (by constructor <;> decide) (MsP.nil w) (by simp) (fun x hx => by cases hx) (by decide) (by unfold maxLen; decide) hle h1 h2

/-- A struct of seven cells, stored. -/
abbrev set7 (W : World) (b : Nat) (c0 c1 c2 c3 c4 c5 c6 : Value) : World :=
  ((((((W.setCell ⟨b, 0, none⟩ c0).setCell ⟨b, 1, none⟩ c1).setCell ⟨b, 2, none⟩ c2).setCell ⟨b, 3, none⟩ c3).setCell ⟨b, 4, none⟩ c4).setCell ⟨b, 5, none⟩ c5).setCell ⟨b, 6, none⟩ c6

theorem set7_heap {W : World} {b : Nat} {a0 a1 a2 a3 a4 a5 a6 : Value} {t : TypeId} (h : W.heap[b]? = some (.cells #[a0, a1, a2, a3, a4, a5, a6] t (0, 0))) (c0 c1 c2 c3 c4 c5 c6 : Value) :
    (set7 W b c0 c1 c2 c3 c4 c5 c6).heap[b]? = some (.cells #[c0, c1, c2, c3, c4, c5, c6] t (0, 0)) := by
  have h0 := set_of h 0 c0
  rw [show (#[a0, a1, a2, a3, a4, a5, a6] : Array Value).setIfInBounds 0 c0 = #[c0, a1, a2, a3, a4, a5, a6] from rfl] at h0
  have h1 := set_of h0 1 c1
  rw [show (#[c0, a1, a2, a3, a4, a5, a6] : Array Value).setIfInBounds 1 c1 = #[c0, c1, a2, a3, a4, a5, a6] from rfl] at h1
  have h2 := set_of h1 2 c2
  rw [show (#[c0, c1, a2, a3, a4, a5, a6] : Array Value).setIfInBounds 2 c2 = #[c0, c1, c2, a3, a4, a5, a6] from rfl] at h2
  have h3 := set_of h2 3 c3
  rw [show (#[c0, c1, c2, a3, a4, a5, a6] : Array Value).setIfInBounds 3 c3 = #[c0, c1, c2, c3, a4, a5, a6] from rfl] at h3
  have h4 := set_of h3 4 c4
  rw [show (#[c0, c1, c2, c3, a4, a5, a6] : Array Value).setIfInBounds 4 c4 = #[c0, c1, c2, c3, c4, a5, a6] from rfl] at h4
  have h5 := set_of h4 5 c5
  rw [show (#[c0, c1, c2, c3, c4, a5, a6] : Array Value).setIfInBounds 5 c5 = #[c0, c1, c2, c3, c4, c5, a6] from rfl] at h5
  have h6 := set_of h5 6 c6
  rw [show (#[c0, c1, c2, c3, c4, c5, a6] : Array Value).setIfInBounds 6 c6 = #[c0, c1, c2, c3, c4, c5, c6] from rfl] at h6
  exact h6

theorem set7_off (W : World) (b : Nat) (c0 c1 c2 c3 c4 c5 c6 : Value) {k : Nat} (hk : k ≠ b) : (set7 W b c0 c1 c2 c3 c4 c5 c6).heap[k]? = W.heap[k]? := by
  unfold set7
  rw [Below.heap_setCell _ _ _ _ hk, Below.heap_setCell _ _ _ _ hk, Below.heap_setCell _ _ _ _ hk, Below.heap_setCell _ _ _ _ hk, Below.heap_setCell _ _ _ _ hk, Below.heap_setCell _ _ _ _ hk, Below.heap_setCell _ _ _ _ hk]

theorem set7_below {B : Nat} {w W : World} {b : Nat} (h : Below B w W) (hB : B ≤ b) (c0 c1 c2 c3 c4 c5 c6 : Value) : Below B w (set7 W b c0 c1 c2 c3 c4 c5 c6) :=
  ((((((h.setCell (p := ⟨b, 0, none⟩) hB c0).setCell (p := ⟨b, 1, none⟩) hB c1).setCell (p := ⟨b, 2, none⟩) hB c2).setCell (p := ⟨b, 3, none⟩) hB c3).setCell (p := ⟨b, 4, none⟩) hB c4).setCell (p := ⟨b, 5, none⟩) hB c5).setCell (p := ⟨b, 6, none⟩) hB c6

end Go.Proofs.YtlmpmjhanpkcnaaGreat

namespace Go.Proofs.YtlmpmjhanpkcnaaGreat
open Go.RowKit

/-- What the reader answers. -/
def TermEnd (w w' : World) (R : Nat) (mv sv : Value) (asks : Bool) (r : Option (Tm × Nat)) (e : Ending) : Prop :=
  ∃ (tv : Value) (t : Tm) (left' : Int), e = .returned (.tuple #[tv, .bool r.isSome]) ∧ TmAt (fun k => w.heap.size ≤ k) w' tv t ∧ RdAt w' R mv sv asks left' ∧ w.grownBy w' (some R) ∧ (∀ p, r = some p → p.1 = t ∧ left' = (p.2 : Nat))

theorem seqP_le {g : Nat → Nat → Option (Tm × Nat)} (hg : ∀ left x p, g left x = some p → p.2 ≤ left) : ∀ (xs : List Nat) (left : Nat) (p : List Tm × Nat), seqP g left xs = some p → p.2 ≤ left ∧ p.1.length = xs.length
  | [], left, p, h => by cases h; exact ⟨Nat.le_refl _, rfl⟩
  | x :: r, left, p, h => by
    simp only [seqP] at h
    cases h1 : g left x with
    | none => rw [h1] at h; cases h
    | some a =>
      rw [h1] at h
      simp only [Option.bind_some] at h
      cases h2 : seqP g a.2 r with
      | none => rw [h2] at h; cases h
      | some b =>
        rw [h2] at h
        simp only [Option.map_some, Option.some.injEq] at h
        have e1 := hg _ _ _ h1
        have e2 := seqP_le hg r _ _ h2
        subst h
        simp only [List.length_cons]
        omega

theorem grown_refl (w : World) (R : Nat) : w.grownBy w (some R) := ⟨rfl, rfl, rfl, Nat.le_refl _, fun _ _ _ => rfl⟩

theorem RdAt.grownOff {w w' : World} {R : Nat} {m s : Value} {asks : Bool} {left : Int} {row : Option Nat} (h : RdAt w R m s asks left) (hg : w.grownBy w' row) (hr : row ≠ some R) : RdAt w' R m s asks left := by
  unfold RdAt at *
  have hlt : R < w.heap.size := (Array.getElem?_eq_some_iff.1 h).1
  rw [hg.block R hlt (fun e => hr e.symm)]; exact h

theorem RdAt.ne {w : World} {R g o : Nat} {m s : Value} {asks : Bool} {left : Int} {x : Int} (h : RdAt w R m s asks left) (hms : (∃ a n c, m = .slice a n c) ∧ ∃ a n c, s = .slice a n c) (hc : w.cell? ⟨g, o, none⟩ = some (.int .u64 x)) : g ≠ R := by
  rintro rfl
  obtain ⟨⟨_, _, _, rfl⟩, _, _, _, rfl⟩ := hms
  unfold RdAt at h
  rw [cell_of h] at hc
  match o, hc with
  | 0, hc => simp at hc
  | 1, hc => simp at hc
  | 2, hc => simp at hc
  | 3, hc => simp at hc
  | n + 4, hc => simp at hc

theorem grown_low {w w' : World} {R B : Nat} (hg : w.grownBy w' (some R)) (hR : B ≤ R) (hB : B ≤ w.heap.size) : Below B w w' :=
  ⟨hg.os, hg.tape, hg.output, hg.size, fun k hk => hg.block k (by omega) (by simp; omega)⟩

set_option maxHeartbeats 16000000 in
set_option maxRecDepth 100000 in
theorem args_any (g : Nat → Nat → Option (Tm × Nat)) (L R : Nat) (mv sv lv : Value) (asks : Bool) (left : Nat) (k : Int) (l : List Nat) (w0 w : World)
    (hg : ∀ (left x : Nat) (w : World), left ≤ L → x < 18446744073709551616 → RdAt w R mv sv asks left → Below w0.heap.size w0 w → Calls Tryz.prog 107 #[.pointer (some ⟨R, 0, none⟩), .int .u64 x] w fun e w' => TermEnd w w' R mv sv asks (g left x) e)
    (hgl : ∀ left x p, g left x = some p → p.2 ≤ left) (hR : w0.heap.size ≤ R) (hb : Below w0.heap.size w0 w) (h : RdAt w R mv sv asks left) (hl : Ws w lv l) (hk : (k = -1 ∧ l.length = 2) ∨ (k = 0 ∧ 1 ≤ l.length ∧ l.length ≤ 9)) (hL : left ≤ L) (hms : (∃ a n c, mv = .slice a n c) ∧ ∃ a n c, sv = .slice a n c) :
    Calls Tryz.prog 134 #[.pointer (some ⟨R, 0, none⟩), .agg #[.int .i64 k, lv]] w fun e w' => TermEnd w w' R mv sv asks ((seqP g left (leadW k l)).map fun r => (Tm.mk (if k = -1 then 8 else 6) 0 false [] 0 ⟨#[]⟩ r.1, r.2)) e := by
  obtain ⟨i0, hi, hz0, hz1, hz2⟩ := info_parts info40
  have hRlt : R < w.heap.size := (Array.getElem?_eq_some_iff.1 h).1
  obtain ⟨gl, ol, c, rfl, hlc, hcm, hml⟩ := hl.open (by omega)
  have HG := Lib.hid hg
  have HGL := Lib.hid hgl
  have HB := Lib.hid hb
  have HRD := Lib.hid h
  have HL := Lib.hid hl
  have HK := Lib.hid hk
  have HMS := Lib.hid hms
  obtain ⟨kk, hkk⟩ : ∃ kk : Int, (if k = -1 then (8 : Int) else 6) = kk := ⟨_, rfl⟩
  rw [hkk]
  have HKK := Lib.hid hkk
  clear hg hgl hb h hl hkk hk hms
  -- the three blocks
  obtain ⟨W3, hW3⟩ : ∃ W3, ((w.alloc (.cells #[.int .i64 k, .slice (some ⟨gl, ol, none⟩) l.length c] 107)).alloc (.cells #[.int .i64 0, .int .i64 0, .bool false, .slice none 0 0, .int .u64 0, .string ⟨#[]⟩, .slice none 0 0] 81)).alloc (.cells #[.int .i64 6, .int .i64 0, .bool false, .slice none 0 0, .int .u64 0, .string ⟨#[]⟩, .slice none 0 0] 81) = W3 := ⟨_, rfl⟩
  have T := two_at w (.cells #[.int .i64 k, .slice (some ⟨gl, ol, none⟩) l.length c] 107) (.cells #[.int .i64 0, .int .i64 0, .bool false, .slice none 0 0, .int .u64 0, .string ⟨#[]⟩, .slice none 0 0] 81)
  have HW3 := Lib.hid hW3
  have X0 := Lib.hid (show W3.heap[w.heap.size]? = some (.cells #[.int .i64 k, .slice (some ⟨gl, ol, none⟩) l.length c] 107 (0, 0)) by rw [← hW3, Below.heap_alloc _ _ _ (by simp; omega)]; exact T.1)
  have X1 := Lib.hid (show W3.heap[w.heap.size + 1]? = some (.cells #[.int .i64 0, .int .i64 0, .bool false, .slice none 0 0, .int .u64 0, .string ⟨#[]⟩, .slice none 0 0] 81 (0, 0)) by rw [← hW3, Below.heap_alloc _ _ _ (by simp)]; exact T.2.1)
  have X2 := Lib.hid (show W3.heap[w.heap.size + 2]? = some (.cells #[.int .i64 6, .int .i64 0, .bool false, .slice none 0 0, .int .u64 0, .string ⟨#[]⟩, .slice none 0 0] 81 (0, 0)) by rw [← hW3, T.2.2.1]; exact World.alloc_heap_new _ _)
  have XS := Lib.hid (show w.heap.size + 3 ≤ W3.heap.size by rw [← hW3]; simp)
  have XB := Lib.hid (show Below w.heap.size w W3 by rw [← hW3]; exact T.2.2.2.alloc (by simp; omega) _)
  clear hW3 T
  go_enter Tryz.func134, Tryz.ntmps134
  go_upto_if 16 with fail
  rw [HW3.out]
  go_cut [] from 17 to 17 (fun wx => Hid (wx.heap[w.heap.size]? = some (.cells #[.int .i64 k, .slice (some ⟨gl, ol, none⟩) l.length c] 107 (0, 0))) ∧ Hid (wx.heap[w.heap.size + 1]? = some (.cells #[.int .i64 0, .int .i64 0, .bool false, .slice none 0 0, .int .u64 0, .string ⟨#[]⟩, .slice none 0 0] 81 (0, 0))) ∧
    Hid (wx.heap[w.heap.size + 2]? = some (.cells #[.int .i64 kk, .int .i64 0, .bool false, .slice none 0 0, .int .u64 0, .string ⟨#[]⟩, .slice none 0 0] 81 (0, 0))) ∧ Hid (w.heap.size + 3 ≤ wx.heap.size) ∧ Hid (Below w.heap.size w wx))
  case first =>
    have z0 := free_of X2.out 0
    have y0 := cell_of X2.out 0
    simp at y0
    rcases HK.out with ⟨rfl, hl2⟩ | ⟨rfl, hl2, hl3⟩
    · have HKL := Lib.hid hl2
      have HKE := Lib.hid (show kk = 8 by rw [← HKK.out, if_pos rfl])
      clear hl2
      go_wp2_with fail
      go_meet
      rw [HKE.out]
      exact ⟨Lib.hid (by rw [Below.heap_setCell _ _ _ _ (by simp; omega)]; exact X0.out), Lib.hid (by rw [Below.heap_setCell _ _ _ _ (by simp)]; exact X1.out), Lib.hid (by rw [set_of X2.out]; rfl), Lib.hid (by simpa [World.setCell] using XS.out), Lib.hid (XB.out.setCell (by simp; omega) _)⟩
    · have HKE := Lib.hid (show kk = 6 by rw [← HKK.out, if_neg (by decide)])
      go_wp2_with fail
      go_meet
      rw [HKE.out]
      exact ⟨X0, X1, X2, XS, XB⟩
  case rest =>
    obtain ⟨Y0, Y1, Y2, YS, YB⟩ := hcut
    clear X0 X1 X2 XS XB
    obtain ⟨fr, tt, hlp, hft, htl, hlw⟩ : ∃ fr tt : Nat, leadsP k l.length = ((fr : Int), (tt : Int)) ∧ fr ≤ tt ∧ tt ≤ l.length ∧ leadW k l = (l.drop fr).take (tt - fr) := by
      rcases HK.out with ⟨rfl, hl2⟩ | ⟨rfl, hl2, hl3⟩
      · exact ⟨0, 2, rfl, by omega, by omega, rfl⟩
      · refine ⟨1, l.length, rfl, by omega, by omega, ?_⟩
        unfold leadW
        have e : leadsP 0 l.length = (1, (l.length : Int)) := rfl
        rw [e]
        congr 1
        simp only
        omega
    have hlen9 : l.length ≤ 9 := by rcases HK.out with ⟨rfl, hl2⟩ | ⟨rfl, hl2, hl3⟩ <;> omega
    have HLP := Lib.hid hlp
    have HLW := Lib.hid hlw
    have HLWL := Lib.hid (show (leadW k l).length = tt - fr by rw [hlw, List.length_take, List.length_drop]; omega)
    have y0 := cell_of Y0.out 0
    have y1 := cell_of Y0.out 1
    simp at y0 y1
    have HL1 := Lib.hid (HL.out.below YB.out)
    clear hlp hlw
    go_wp2_with fail
    refine (leads_any k _ l.length c _).mono ?_
    rintro e w5 ⟨rfl, hb5⟩
    rw [HLP.out]
    have Y05 := Lib.hid ((hb5.block _ (by have := YS.out; omega)).trans Y0.out)
    have Y15 := Lib.hid ((hb5.block _ (by have := YS.out; omega)).trans Y1.out)
    have Y25 := Lib.hid ((hb5.block _ (by have := YS.out; omega)).trans Y2.out)
    have YS5 := Lib.hid (Nat.le_trans YS.out hb5.size)
    have YB5 := Lib.hid (YB.out.trans (hb5.mono YB.out.size))
    clear hb5 y0 y1 Y0 Y1 Y2 YS
    have y0 := cell_of Y05.out 0
    have y1 := cell_of Y05.out 1
    simp at y0 y1
    have HL5 := Lib.hid (HL.out.below YB5.out)
    go_upto_region 5 with fail
    go_cut [27, 28, 29] from 23 to 29 (fun v n i wx => Hid (Ws w v (leadW k l)) ∧ n = .int .i64 ((tt - fr : Nat) : Int) ∧ i = .int .i64 0 ∧ w5 = wx)
    case first =>
      have q1 : (fr : Int) ≤ (tt : Int) := by omega
      have q2 : (tt : Int) ≤ (c : Int) := by omega
      have q3 : fr ≤ c := by omega
      have HCUT := Lib.hid (show Ws w (.slice (some ⟨gl, ol + fr, none⟩) (tt - fr) (c - fr)) (leadW k l) by rw [HLW.out]; exact Ws.cut HL.out (k := fr) (n := tt - fr) (by omega))
      by_cases hcf : c = fr
      · have HZ := Lib.hid (show tt - fr = 0 by omega)
        have HNil := Lib.hid (show leadW k l = [] from List.eq_nil_of_length_eq_zero (by rw [HLWL.out]; omega))
        subst hcf
        go_wp2_with fail
        go_meet
        exact ⟨Lib.hid (by rw [HNil.out, HZ.out]; exact Ws.empty _ _ (by unfold maxLen; omega)), rfl, rfl, rfl⟩
      · have r1 : ¬ c - fr = 0 := by omega
        have r2 : ¬ c = fr := hcf
        have r3 : fr < c := by omega
        go_wp2_with fail
        go_meet
        exact ⟨HCUT, rfl, rfl, rfl⟩
    case rest =>
      obtain ⟨HWS, rfl, rfl, rfl⟩ := hcut
      obtain ⟨n, hn⟩ : ∃ n, tt - fr = n := ⟨_, rfl⟩
      have HN := Lib.hid (show (leadW k l).length = n by rw [HLWL.out, hn])
      have hn9 : n ≤ 9 := by omega
      rw [hn]
      have HRD5 := Lib.hid (HRD.out.below YB5.out)
      clear hn hft htl
      go_wp2_with fail
      go_loopw [10, 29] (fun u i wr => ∃ (j : Nat) (ts : List Tm) (lf : Nat) (v : Value) (xs : List Value), j ≤ n ∧ i = .int .i64 j ∧ Hid (seqP g left ((leadW k l).take j) = some (ts, lf)) ∧
        Hid (wr.heap[w.heap.size + 1]? = some (.cells #[.int .i64 0, .int .i64 0, .bool false, .slice none 0 0, .int .u64 0, .string ⟨#[]⟩, .slice none 0 0] 81 (0, 0))) ∧ Hid (wr.heap[w.heap.size + 2]? = some (.cells #[.int .i64 kk, .int .i64 0, .bool false, .slice none 0 0, .int .u64 0, .string ⟨#[]⟩, v] 81 (0, 0))) ∧
        Hid (w.heap.size + 3 ≤ wr.heap.size) ∧ Hid (wr.ownsRow (w.heap.size + 3) 81 7 v j xs) ∧ Hid (HeldT (fun b => w.heap.size + 3 ≤ b ∧ v.ownBlock ≠ some b) wr xs ts) ∧ Hid (RdAt wr R mv sv asks lf) ∧ Hid (w.grownBy wr (some R))) (fun _ i _ => n - (intOf i).toNat)
      case atStart => exact ⟨0, [], left, _, [], by omega, rfl, Lib.hid (by simp [seqP]), Y15, Y25, YS5, Lib.hid (World.ownsRow_nil _ _ _ _), Lib.hid trivial, HRD5, Lib.hid (grown_below YB5.out)⟩
      case round =>
        obtain ⟨j, ts, lf, v, xs, hj, rfl, HSQ, Z1, Z2, ZS, ZO, ZH, ZR, ZG⟩ := hrel
        obtain ⟨_, hxu, xa, xc, rfl, hxc, hxm, hxx⟩ := HWS.out
        have HXU := Lib.hid hxu
        have HXX := Lib.hid hxx
        rw [HN.out]
        clear hxu hxx
        by_cases hlt : j < n
        · obtain ⟨g2, o2, rfl, kw⟩ := HXX.out j (by rw [HN.out]; exact hlt)
          have hx1 := HXU.out _ (List.getElem_mem (show j < (leadW k l).length by rw [HN.out]; exact hlt))
          have HTK := Lib.hid (List.take_succ_eq_append_getElem (show j < (leadW k l).length by rw [HN.out]; exact hlt))
          obtain ⟨x, hx⟩ : ∃ x, (leadW k l)[j]'(by rw [HN.out]; exact hlt) = x := ⟨_, rfl⟩
          rw [hx] at kw hx1 HTK
          have kw1 := ZG.out.cell kw (by have := HRD.out.ne HMS.out kw; simpa using this)
          have HLF := Lib.hid (show lf ≤ L by have := (seqP_le HGL.out _ _ _ HSQ.out).1; simp only at this; omega)
          have p1 : (j : Int) < (n : Int) := by omega
          have p2 : (0 : Int) ≤ (j : Int) := by omega
          have p5 : IntKind.i64.wrap ((j : Int) + 1) = (j : Int) + 1 := IntWalk.i64_in _ (by omega)
          have HBW := Lib.hid (HB.out.trans (grown_low ZG.out hR HB.out.size))
          clear kw hx
          go_wp2_with fail
          refine (HG.out lf x _ HLF.out hx1 ZR.out HBW.out).mono ?_
          rintro e w6 ⟨tv, t, lf', rfl, ht, hrd, hgr, hp⟩
          obtain ⟨tk, tn, tneg, tma, tml, tmc, tbits, tbytes, ta, tlen, tcap, rfl⟩ := ht.shape
          have U1 := Lib.hid ((hgr.block (w.heap.size + 1) (by have := ZS.out; omega) (by simp; omega)).trans Z1.out)
          have U2 := Lib.hid ((hgr.block (w.heap.size + 2) (by have := ZS.out; omega) (by simp; omega)).trans Z2.out)
          have US := Lib.hid (Nat.le_trans ZS.out hgr.size)
          have UG := Lib.hid (grown_trans ZG.out hgr)
          have UR := Lib.hid hrd
          have UT := Lib.hid ht
          have UO := Lib.hid (show w6.ownsRow (w.heap.size + 3) 81 7 v j xs from ZO.out.kept hgr (by by_cases hv : v.ownBlock = none; exact .inl hv; exact .inr (fun e => by have := (ZO.out.lt R e).1; omega)))
          have UH := Lib.hid (show HeldT (fun b => w.heap.size + 3 ≤ b ∧ v.ownBlock ≠ some b) w6 xs ts from ZH.out.imp (fun h => h.lift (fun k hk hlt => hgr.block k hlt (by simp; omega))))
          have HP := Lib.hid hp
          have HGR := Lib.hid hgr
          have zs := hgr.size
          clear ht hrd hgr hp Z1 Z2 kw1
          have A1 := fun o => (Below.heap_alloc w6 o (w.heap.size + 1) (by have := US.out; omega)).trans U1.out
          have A2 := fun o => (Below.heap_alloc w6 o (w.heap.size + 1 + 1) (by have := US.out; omega)).trans U2.out
          have a1 := fun o i => cell_of (A1 o) i
          have f1 := fun o i => free_of (A1 o) i
          have HA1 := Lib.hid A1
          have HA2 := Lib.hid A2
          clear A1 A2
          cases hgx : g lf x with
          | none =>
            have HE := Lib.hid (show seqP g left (leadW k l) = none by
              have h1 : seqP g left ((leadW k l).take (j + 1)) = none := by
                rw [HTK.out, seqP_snoc, HSQ.out]
                simp only [Option.bind_some]
                rw [hgx]; rfl
              have h2 := seqP_none g _ ((leadW k l).drop (j + 1)) _ h1
              rwa [List.take_append_drop] at h2)
            clear hgx
            go_wp2_with fail
            have BB := Below.alloc (B := w.heap.size) (Below.refl w.heap.size w6) (by have := US.out; omega) (.cells #[.int .i64 tk, .int .i64 tn, .bool tneg, .slice tma tml tmc, .int .u64 tbits, .string tbytes, .slice ta tlen tcap] 81)
            have BS := set7_below BB (Nat.le_succ w.heap.size) (.int .i64 0) (.int .i64 0) (.bool false) (.slice none 0 0) (.int .u64 0) (.string ⟨#[]⟩) (.slice none 0 0)
            refine bodyPost_ret (v := .tuple #[.agg #[.int .i64 0, .int .i64 0, .bool false, .slice none 0 0, .int .u64 0, .string ⟨#[]⟩, .slice none 0 0], .bool false]) (by simp [results, Tryz.results134, go_sem, a1, f1]) rfl ?_
            rw [HE.out]
            exact ⟨_, _, lf', rfl, TmAt.zero _, UR.out.at BS hRlt, grown_then UG.out BS, fun p hp => by cases hp⟩
          | some p =>
            obtain ⟨t', lf2⟩ := p
            obtain ⟨hp1, hp2⟩ := HP.out _ hgx
            simp only at hp1 hp2
            have HSQ2 := Lib.hid (show seqP g left ((leadW k l).take (j + 1)) = some (ts ++ [t], lf2) by
              rw [HTK.out, seqP_snoc, HSQ.out]
              simp only [Option.bind_some]
              rw [hgx, ← hp1]; rfl)
            have HP2 := Lib.hid hp2
            clear hgx hp1 hp2
            have a2 := fun o i => cell_of (HA2.out o) i
            clear f1 a1
            obtain ⟨o7, ho7⟩ : ∃ o7 : Obj, Obj.cells #[.int .i64 tk, .int .i64 tn, .bool tneg, .slice tma tml tmc, .int .u64 tbits, .string tbytes, .slice ta tlen tcap] 40 = o7 := ⟨_, rfl⟩
            have HO7 := Lib.hid ho7
            have hw8 : ((w6.alloc o7).alloc o7).heap.size = w6.heap.size + 2 := by simp
            have HW8 := Lib.hid hw8
            have hj9 : j + 1 ≤ 100 := by omega
            clear ho7 hw8
            go_wp2_with (at_builtin; refine wpList_append_own_at _ rfl (.tmp 43) (.tmp 45) 79 rfl (w.heap.size + 3) 81 i0 _ 7 96 Tryz.underlying79 hi hz0 hz1 hz2 rfl (by decide) v j xs rfl (World.ownsRow.alloc (World.ownsRow.alloc UO.out _) _) ⟨w6.heap.size + 1, 0, none⟩ 1 1 [.int .i64 tk, .int .i64 tn, .bool tneg, .slice tma tml tmc, .int .u64 tbits, .string tbytes, .slice ta tlen tcap] rfl rfl (fun i u hi => by
              match i with
              | 0 => simp at hi; subst hi; simp [Addr.add_lit]
              | 1 => simp at hi; subst hi; simp [Addr.add_lit]
              | 2 => simp at hi; subst hi; simp [Addr.add_lit]
              | 3 => simp at hi; subst hi; simp [Addr.add_lit]
              | 4 => simp at hi; subst hi; simp [Addr.add_lit]
              | 5 => simp at hi; subst hi; simp [Addr.add_lit]
              | 6 => simp at hi; subst hi; simp [Addr.add_lit]
              | i + 7 => simp at hi) (fun u hu => by simp at hu; rcases hu with rfl | rfl | rfl | rfl | rfl | rfl | rfl <;> rfl) (by unfold maxLen; omega) (by omega) (by have := US.out; simp; omega) ?_; intro v9 w9 hown9 hgrow9 _ hloc9
                         obtain ⟨vb, vc, rfl⟩ := own_slice hown9
                         have OFF := Lib.hid (fun b (hb : b < w6.heap.size) (hne : v.ownBlock ≠ some b) => (hgrow9.block b (by simp; omega) (fun e => hne e.symm)).trans ((Below.heap_alloc _ _ b (by simp; omega)).trans (Below.heap_alloc w6 _ b hb)))
                         have O9 := Lib.hid hown9
                         have S9 := Lib.hid (show w6.heap.size + 2 ≤ w9.heap.size by have := hgrow9.size; simp at this; omega)
                         have L9 := Lib.hid (show ∀ b, b < w6.heap.size → v.ownBlock ≠ some b → (Value.slice vb (j + 1) vc).ownBlock ≠ some b from fun b hb hne e => by
                           rcases hloc9 with q | q
                           · rw [q] at e; exact hne e
                           · rw [q] at e; simp at e; omega)
                         have E9 := Lib.hid (show Below w.heap.size w6 w9 from ((Below.alloc (Below.alloc (Below.refl w.heap.size w6) (by have := US.out; omega) _) (by have := US.out; simp; omega) _).grown hgrow9 (by have := US.out; simp; omega) (fun k e => by have := (UO.out.lt k e).1; omega)))
                         have V1 := Lib.hid ((OFF.out (w.heap.size + 1) (by have := US.out; omega) (fun e => by have := (UO.out.lt _ e).1; omega)).trans U1.out)
                         have V2 := Lib.hid ((OFF.out (w.heap.size + 1 + 1) (by have := US.out; omega) (fun e => by have := (UO.out.lt _ e).1; omega)).trans U2.out)
                         have c6 := cell_of V2.out 6
                         have z6 := free_of V2.out 6
                         simp at c6
                         clear hown9 hgrow9 hloc9 a2)
            go_roundw
            case rel =>
              have hset : ∀ k, k ≠ w.heap.size + 1 + 1 → (w9.setCell ⟨w.heap.size + 1 + 1, 6, none⟩ (.slice vb (j + 1) vc)).heap[k]? = w9.heap[k]? := fun k hk => Below.heap_setCell _ _ _ _ hk
              have hus := US.out
              have hlift : ∀ k, w.heap.size + 3 ≤ k → v.ownBlock ≠ some k → k < w6.heap.size → (w9.setCell ⟨w.heap.size + 1 + 1, 6, none⟩ (.slice vb (j + 1) vc)).heap[k]? = w6.heap[k]? := fun k h1 h2 h3 => (hset k (by omega)).trans (OFF.out k h3 h2)
              have hTn : TmAt (fun b => w.heap.size + 3 ≤ b ∧ v.ownBlock ≠ some b) w6 (.agg #[.int .i64 tk, .int .i64 tn, .bool tneg, .slice tma tml tmc, .int .u64 tbits, .string tbytes, .slice ta tlen tcap]) t := UT.out.mono (fun b hb _ => ⟨by have := ZS.out; omega, fun e => by have := (ZO.out.lt b e).2; omega⟩)
              have hup : ∀ {vv tt}, TmAt (fun b => w.heap.size + 3 ≤ b ∧ v.ownBlock ≠ some b) w6 vv tt → TmAt (fun b => w.heap.size + 3 ≤ b ∧ (Value.slice vb (j + 1) vc).ownBlock ≠ some b) (w9.setCell ⟨w.heap.size + 1 + 1, 6, none⟩ (.slice vb (j + 1) vc)) vv tt := fun h =>
                (h.mono (Q := fun b => w.heap.size + 3 ≤ b ∧ (v.ownBlock ≠ some b ∧ (Value.slice vb (j + 1) vc).ownBlock ≠ some b) ∧ b < w6.heap.size) (fun b hb hlt => ⟨hb.1, ⟨hb.2, L9.out b hlt hb.2⟩, hlt⟩)).lift (fun b hb hlt => hlift b hb.1 hb.2.1.1 hlt) |>.mono (fun b hb _ => ⟨hb.1, hb.2.1.2⟩)
              refine ⟨j + 1, ts ++ [t], lf2, .slice vb (j + 1) vc, _, by omega, by go_num, HSQ2, Lib.hid ?_, Lib.hid ?_, Lib.hid ?_, Lib.hid (ownsRow_setCell_below O9.out (by simp) _), Lib.hid (HeldT.snoc (hup hTn) (UH.out.imp hup)), Lib.hid ?_, Lib.hid ?_⟩
              · rw [hset _ (by omega)]; exact V1.out
              · rw [set_of V2.out]; rfl
              · have := S9.out; simp [World.setCell]; omega
              · have h1 := UR.out
                rw [HP2.out] at h1
                exact h1.at (E9.out.setCell (by simp; omega) _) hRlt
              · exact grown_then UG.out (E9.out.setCell (by simp; omega) _)
            case measure => simp [intOf]; omega
        · obtain rfl : j = n := by omega
          have p1 : ¬ (j : Int) < (j : Int) := by omega
          have HFIN := Lib.hid (show seqP g left (leadW k l) = some (ts, lf) by have h := HSQ.out; rwa [List.take_of_length_le (by rw [HN.out]; omega)] at h)
          have HTL := Lib.hid (show ts.length = j by have := (seqP_le HGL.out _ _ _ HFIN.out).2; simp only at this; rw [this, HN.out])
          obtain ⟨vb, vc, rfl⟩ := own_slice ZO.out
          have a1 := fun i => cell_of Z1.out i
          have f1 := fun i => free_of Z1.out i
          have a2 := fun i => cell_of (show wr.heap[w.heap.size + 1 + 1]? = _ from Z2.out) i
          have hk8 : In64 kk := by rw [← HKK.out]; split <;> constructor <;> decide
          have TR := TmAt.row (P := fun b => w.heap.size + 3 ≤ b) (k := kk) ZO.out HTL.out.symm ZH.out hk8 (by unfold maxLen; omega) (fun b hb _ => hb.1) (fun b e => (ZO.out.lt b e).1)
          have HTR := Lib.hid TR
          clear TR hk8
          go_wp2_with fail
          have BS := set7_below (Below.refl w.heap.size wr) (Nat.le_succ w.heap.size) (.int .i64 kk) (.int .i64 0) (.bool false) (.slice none 0 0) (.int .u64 0) (.string ⟨#[]⟩) (.slice vb j vc)
          refine bodyPost_ret (v := .tuple #[.agg #[.int .i64 kk, .int .i64 0, .bool false, .slice none 0 0, .int .u64 0, .string ⟨#[]⟩, .slice vb j vc], .bool true]) (by simp [results, Tryz.results134, go_sem, a1, f1]) rfl ?_
          rw [HFIN.out]
          exact ⟨_, _, _, rfl, (HTR.out.lift (fun b hb _ => set7_off _ _ _ _ _ _ _ _ _ (by omega))).mono (fun b hb _ => by omega), ZR.out.at BS hRlt, grown_then ZG.out BS, fun p hp => by cases hp; exact ⟨rfl, rfl⟩⟩

end Go.Proofs.YtlmpmjhanpkcnaaGreat

namespace Go.Proofs.YtlmpmjhanpkcnaaGreat
open Go.RowKit

/-- What an object that is one is like. -/
def ObjOK (m : List Frg) (k : Int) (l : List Nat) : Prop :=
  ((k = -1 ∧ l.length = 2) ∨ (k = 0 ∧ 1 ≤ l.length ∧ l.length ≤ 9)) ∨ (k = 1 ∧ 2 ≤ l.length ∧ l.length ≤ 6) ∨ (k = 2 ∧ l.length = 2) ∨ (k = 3 ∧ 2 ≤ l.length ∧ l.getD 1 0 ≤ 64 ∧ (bytesW l).isSome = true) ∨ (k = 4 ∧ rightFlat 4 l = true) ∨ (k = 5 ∧ rightP m 5 l = true)

theorem objP_ok {m : List Frg} {a t k : Int} {l : List Nat} (h : objP m a t = some (k, l)) : ObjOK m k l := by
  unfold objP at h
  split at h
  · cases hw : wordsP m a 2 with
    | none => rw [hw] at h; cases h
    | some x =>
      rw [hw] at h
      simp only [Option.bind_some] at h
      split at h
      · cases h
        have := wordsP_len hw (by omega)
        exact .inl (.inl ⟨rfl, by omega⟩)
      · cases h
  · cases hw : headAt m a with
    | none => rw [hw] at h; cases h
    | some o =>
      obtain ⟨k', l'⟩ := o
      rw [hw] at h
      simp only [Option.bind_some] at h
      split at h
      · rename_i hr
        cases h
        have hk := headAt_le hw
        have h6 : k = 0 ∨ k = 1 ∨ k = 2 ∨ k = 3 ∨ k = 4 ∨ k = 5 := by omega
        rcases h6 with rfl | rfl | rfl | rfl | rfl | rfl
        · unfold rightP rightFlat at hr
          rw [if_neg (by decide), if_pos rfl, Bool.and_eq_true, decide_eq_true_eq] at hr
          exact .inl (.inr ⟨rfl, by omega, hr.1⟩)
        · unfold rightP rightFlat at hr
          rw [if_neg (by decide), if_neg (by decide), if_pos rfl, Bool.and_eq_true, Bool.and_eq_true, decide_eq_true_eq, decide_eq_true_eq] at hr
          exact .inr (.inl ⟨rfl, by omega, by omega⟩)
        · unfold rightP rightFlat at hr
          rw [if_neg (by decide), if_neg (by decide), if_neg (by decide), if_pos rfl, Bool.and_eq_true, decide_eq_true_eq] at hr
          exact .inr (.inr (.inl ⟨rfl, hr.1⟩))
        · unfold rightP at hr
          rw [if_neg (by decide)] at hr
          have h3 := flat3_parts hr
          unfold rightFlat at hr
          rw [if_neg (by decide), if_neg (by decide), if_neg (by decide), if_pos rfl, Bool.and_eq_true, decide_eq_true_eq] at hr
          exact .inr (.inr (.inr (.inl ⟨rfl, hr.1, h3.2, hr.2⟩)))
        · unfold rightP at hr
          rw [if_neg (by decide)] at hr
          exact .inr (.inr (.inr (.inr (.inl ⟨rfl, hr⟩))))
        · exact .inr (.inr (.inr (.inr (.inr ⟨rfl, hr⟩))))
      · cases h

/-- The blocks that the reader's object begins with. -/
theorem obj_blocks (w : World) (k : Int) (a : Option Addr) (n c : Nat) :
    ∃ W, (w.alloc (.cells #[.int .i64 k, .slice a n c] 107)).alloc (.cells #[.int .i64 0, .int .i64 0, .bool false, .slice none 0 0, .int .u64 0, .string ⟨#[]⟩, .slice none 0 0] 81) = W ∧
      W.heap[w.heap.size]? = some (.cells #[.int .i64 k, .slice a n c] 107 (0, 0)) ∧ W.heap[w.heap.size + 1]? = some (.cells #[.int .i64 0, .int .i64 0, .bool false, .slice none 0 0, .int .u64 0, .string ⟨#[]⟩, .slice none 0 0] 81 (0, 0)) ∧ w.heap.size + 2 = W.heap.size ∧ Below w.heap.size w W :=
  ⟨_, rfl, (two_at _ _ _).1, (two_at _ _ _).2.1, (two_at _ _ _).2.2.1, (two_at _ _ _).2.2.2⟩

theorem RdAt.shape {w : World} {R : Nat} {m s : Value} {asks : Bool} {left : Int} (h : RdAt w R m s asks left) : R < w.heap.size := (Array.getElem?_eq_some_iff.1 h).1

/-- A term stored into the answer's block, and answered. -/
theorem answer_of {w W : World} {R : Nat} {mv sv : Value} {asks : Bool} {left' : Int} {tk tn : Int} {tneg : Bool} {tm : Value} {tbits : Int} {tbytes : ByteArray} {ta : Value} {t : Tm} {r : Option (Tm × Nat)}
    (ht : TmAt (fun b => w.heap.size + 2 ≤ b) W (.agg #[.int .i64 tk, .int .i64 tn, .bool tneg, tm, .int .u64 tbits, .string tbytes, ta]) t) (hr : RdAt W R mv sv asks left') (hR : R < w.heap.size) (hg : w.grownBy W (some R)) (hp : ∀ p, r = some p → p.1 = t ∧ left' = (p.2 : Nat)) :
    TermEnd w (set7 W (w.heap.size + 1) (.int .i64 tk) (.int .i64 tn) (.bool tneg) tm (.int .u64 tbits) (.string tbytes) ta) R mv sv asks r (.returned (.tuple #[.agg #[.int .i64 tk, .int .i64 tn, .bool tneg, tm, .int .u64 tbits, .string tbytes, ta], .bool r.isSome])) := by
  have BS := set7_below (Below.refl w.heap.size W) (Nat.le_succ w.heap.size) (.int .i64 tk) (.int .i64 tn) (.bool tneg) tm (.int .u64 tbits) (.string tbytes) ta
  exact ⟨_, t, left', rfl, (ht.lift (fun b hb _ => set7_off _ _ _ _ _ _ _ _ _ (by omega))).mono (fun b hb _ => by omega), hr.at BS hR, grown_then hg BS, hp⟩

set_option maxHeartbeats 800000 in
set_option maxRecDepth 100000 in
theorem obj_args (g : Nat → Nat → Option (Tm × Nat)) (L R : Nat) (mv sv lv : Value) (asks : Bool) (left : Nat) (k : Int) (S : List Slt) (m : List Frg) (l : List Nat) (w0 w : World)
    (hg : ∀ (left x : Nat) (w : World), left ≤ L → x < 18446744073709551616 → RdAt w R mv sv asks left → Below w0.heap.size w0 w → Calls Tryz.prog 107 #[.pointer (some ⟨R, 0, none⟩), .int .u64 x] w fun e w' => TermEnd w w' R mv sv asks (g left x) e)
    (hgl : ∀ left x p, g left x = some p → p.2 ≤ left) (hR : w0.heap.size ≤ R) (hb : Below w0.heap.size w0 w) (h : RdAt w R mv sv asks left) (hl : Ws w lv l) (hk : (k = -1 ∧ l.length = 2) ∨ (k = 0 ∧ 1 ≤ l.length ∧ l.length ≤ 9)) (hL : left ≤ L) (hms : (∃ a n c, mv = .slice a n c) ∧ ∃ a n c, sv = .slice a n c) :
    Calls Tryz.prog 126 #[.pointer (some ⟨R, 0, none⟩), .agg #[.int .i64 k, lv]] w fun e w' => TermEnd w w' R mv sv asks (objT g asks S m left (k, l)) e := by
  have hRlt := h.shape
  obtain ⟨gl, ol, c, rfl, hlc, hcm, hml⟩ := hl.open (by omega)
  obtain ⟨W, hW, X0, X1, XS, XB⟩ := obj_blocks w k (some ⟨gl, ol, none⟩) l.length c
  have HW := Lib.hid hW
  have HX1 := Lib.hid X1
  have HXS := Lib.hid XS
  have HXB := Lib.hid XB
  have HA := Lib.hid (args_any g L R mv sv _ asks left k l w0 W hg hgl hR (hb.trans (XB.mono hb.size)) (h.below XB) (hl.below XB) hk hL hms)
  have HE := Lib.hid (show objT g asks S m left (k, l) = (seqP g left (leadW k l)).map fun r => (Tm.mk (if k = -1 then 8 else 6) 0 false [] 0 ⟨#[]⟩ r.1, r.2) by
    unfold objT
    rcases hk with ⟨rfl, _⟩ | ⟨rfl, _⟩ <;> rfl)
  rw [← HE.out] at HA
  obtain ⟨r, hr⟩ : ∃ r, objT g asks S m left (k, l) = r := ⟨_, rfl⟩
  rw [hr] at HA ⊢
  clear HE hr
  have x0 := cell_of X0 0
  have x1 := cell_of X0 1
  simp at x0 x1
  have hsp : k = -1 ∨ k = 0 := by rcases hk with h | h; exact .inl h.1; exact .inr h.1
  clear hW X0 X1 XS XB hg hgl hb h hl hk hms
  rcases hsp with rfl | rfl
  all_goals
    go_enter Tryz.func126, Tryz.ntmps126
    go_wp2_with fail
    rw [HW.out]
    go_wp2_with fail
    refine HA.out.mono ?_
    rintro e w6 ⟨tv, t, lf', rfl, ht, hrd, hgr, hp⟩
    obtain ⟨tk, tn, tneg, tma, tml, tmc, tbits, tbytes, ta, tlen, tcap, rfl⟩ := ht.shape
    have U1 := Lib.hid ((hgr.block (w.heap.size + 1) (by have := HXS.out; omega) (by simp; omega)).trans HX1.out)
    have UT := Lib.hid (ht.mono (Q := fun b => w.heap.size + 2 ≤ b) (fun b hb _ => by have := HXS.out; omega))
    have UR := Lib.hid hrd
    have UG := Lib.hid (grown_trans (grown_below HXB.out) hgr)
    have HP := Lib.hid hp
    have a1 := fun i => cell_of U1.out i
    have f1 := fun i => free_of U1.out i
    clear ht hrd hgr hp
    go_wp2_with fail
    refine bodyPost_ret (v := .tuple #[.agg #[.int .i64 tk, .int .i64 tn, .bool tneg, .slice tma tml tmc, .int .u64 tbits, .string tbytes, .slice ta tlen tcap], .bool r.isSome]) (by simp [results, Tryz.results126, go_sem, a1, f1]) rfl ?_
    exact answer_of UT.out UR.out hRlt UG.out HP.out

end Go.Proofs.YtlmpmjhanpkcnaaGreat

namespace Go.Proofs.YtlmpmjhanpkcnaaGreat
open Go.RowKit

set_option maxHeartbeats 4000000 in
set_option maxRecDepth 100000 in
theorem obj_float (g : Nat → Nat → Option (Tm × Nat)) (R : Nat) (mv sv lv : Value) (asks : Bool) (left : Nat) (S : List Slt) (m : List Frg) (l : List Nat) (w : World)
    (h : RdAt w R mv sv asks left) (hl : Ws w lv l) (hk : l.length = 2) :
    Calls Tryz.prog 126 #[.pointer (some ⟨R, 0, none⟩), .agg #[.int .i64 2, lv]] w fun e w' => TermEnd w w' R mv sv asks (objT g asks S m left (2, l)) e := by
  have hRlt := h.shape
  obtain ⟨gl, ol, c, rfl, hlc, hcm, hml⟩ := hl.open (by omega)
  obtain ⟨W, hW, X0, X1, XS, XB⟩ := obj_blocks w 2 (some ⟨gl, ol, none⟩) l.length c
  have HW := Lib.hid hW
  have HXS := Lib.hid XS
  have HXB := Lib.hid XB
  have HR := Lib.hid (h.below XB)
  have k1 := (hl.below XB).at (j := 1) (by omega)
  have hx := hl.2.1 (l.getD 1 0) (by
    have : l.getD 1 0 = l[1]'(by omega) := by simp [List.getD, List.getElem?_eq_getElem (show 1 < l.length by omega)]
    rw [this]; exact List.getElem_mem _)
  have HE := Lib.hid (show objT g asks S m left (2, l) = some (.mk 3 0 false [] (l.getD 1 0) ⟨#[]⟩ [], left) by unfold objT; rfl)
  obtain ⟨x, hxe⟩ : ∃ x, l.getD 1 0 = x := ⟨_, rfl⟩
  rw [hxe] at k1 hx HE
  rw [HE.out]
  have q1 : (1 : Int) < (l.length : Int) := by omega
  have x0 := cell_of X0 0
  have x1 := cell_of X0 1
  simp at x0 x1
  have a1 := fun i => cell_of X1 i
  have f1 := fun i => free_of X1 i
  clear hW X0 X1 XS XB h hl hk hxe
  go_enter Tryz.func126, Tryz.ntmps126
  go_upto_region 2 with fail
  rw [HW.out]
  go_wp2_with fail
  have T := TmAt.leaf (P := fun b => w.heap.size + 2 ≤ b) (w := W) (k := 3) (n := 0) (neg := false) (mag := []) (mv := .slice none 0 0) (bits := x) (bytes := ⟨#[]⟩) (a := none) (cap := 0) (by constructor <;> decide) (by constructor <;> decide) (MsP.nil W) (by simp) (fun y hy => by cases hy) hx (by unfold maxLen; decide)
  have A := answer_of T HR.out hRlt (grown_below HXB.out) (r := some (.mk 3 0 false [] x ⟨#[]⟩ [], left)) (fun p hp => by cases hp; exact ⟨rfl, rfl⟩)
  refine bodyPost_ret (v := .tuple #[.agg #[.int .i64 3, .int .i64 0, .bool false, .slice none 0 0, .int .u64 x, .string ⟨#[]⟩, .slice none 0 0], .bool true]) (by simp [results, Tryz.results126, go_sem, a1, f1]) rfl A

/-- Behind the bytes of a binary. -/
theorem binT_some {left : Nat} {b : ByteArray} {p : Tm × Nat} (h : binT left b = some p) : p = (.mk 9 0 false [] 0 b [], left - b.size / 8) ∧ b.size ≤ 400 ∧ b.size / 8 ≤ left := by
  unfold binT at h
  split at h
  · rename_i q; cases h; exact ⟨rfl, q⟩
  · cases h

theorem binT_ok (left : Nat) (b : ByteArray) : (binT left b).isSome = binOk left b.size := by
  unfold binT binOk
  by_cases h1 : b.size ≤ 400
  · by_cases h2 : b.size / 8 ≤ left
    · rw [if_pos ⟨h1, h2⟩, decide_eq_true h1, decide_eq_true (by omega)]; rfl
    · rw [if_neg (fun q => h2 q.2), decide_eq_false (show ¬ (0 : Int) ≤ (left : Int) - (b.size : Int) / 8 by omega)]; simp
  · rw [if_neg (fun q => h1 q.1), decide_eq_false h1]; rfl

theorem bytes_str {l : List Nat} {e : Ending} (h : BytesEnd (bytesW l) e) (h64 : l.getD 1 0 ≤ 64) : StrEnd (bytesB l) e := by
  obtain ⟨b, rfl, hb⟩ := h
  refine ⟨b, _, rfl, by unfold bytesB; cases bytesW l <;> rfl, ?_, fun s hs => ?_⟩
  · have : b.size = b.toList.length := by rw [Lib.toList_data, ← Lib.size_eq]
    rw [this, hb]
    cases hw : bytesW l with
    | none => simp
    | some x => simp only [Option.getD_some]; rw [bytesW_len hw]; omega
  · unfold bytesB at hs
    cases hw : bytesW l with
    | none => rw [hw] at hs; cases hs
    | some x =>
      rw [hw] at hs hb
      simp only [Option.map_some, Option.some.injEq, Option.getD_some] at hs hb
      rw [← hs]
      have e : b.data = x.toArray := by
        rw [Lib.toList_data] at hb
        rw [← hb]
      rw [← e]

set_option maxHeartbeats 8000000 in
set_option maxRecDepth 100000 in
theorem obj_bin (g : Nat → Nat → Option (Tm × Nat)) (R : Nat) (mv sv lv : Value) (asks : Bool) (left : Nat) (k : Int) (S : List Slt) (m : List Frg) (l : List Nat) (w : World)
    (h : RdAt w R mv sv asks left) (hm : RsAt w mv m) (hS : SlAt w sv S) (hl : Ws w lv l) (hL : left ≤ 10000)
    (hk : (k = 3 ∧ 2 ≤ l.length ∧ l.getD 1 0 ≤ 64 ∧ (bytesW l).isSome = true) ∨ (k = 4 ∧ rightFlat 4 l = true) ∨ (k = 5 ∧ rightP m 5 l = true)) :
    Calls Tryz.prog 126 #[.pointer (some ⟨R, 0, none⟩), .agg #[.int .i64 k, lv]] w fun e w' => TermEnd w w' R mv sv asks (objT g asks S m left (k, l)) e := by
  have hRlt := h.shape
  have h1 : 1 ≤ l.length := by
    rcases hk with ⟨_, q, _⟩ | ⟨_, q⟩ | ⟨_, q⟩
    · omega
    · have := flat4_parts q; omega
    · have := right5_parts q; omega
  obtain ⟨gl, ol, c, rfl, hlc, hcm, hml⟩ := hl.open h1
  obtain ⟨W, hW, X0, X1, XS, XB⟩ := obj_blocks w k (some ⟨gl, ol, none⟩) l.length c
  have HW := Lib.hid hW
  have HXS := Lib.hid XS
  have HXB := Lib.hid XB
  have HR := Lib.hid (h.below XB)
  have HX1 := Lib.hid X1
  -- the bytes, by kind
  obtain ⟨s, hs, hcall⟩ : ∃ s : Option ByteArray, objT g asks S m left (k, l) = s.bind (binT left) ∧
      ((k = 3 ∧ Hid (Calls Tryz.prog 111 #[.slice (some ⟨gl, ol, none⟩) l.length c] W fun e w' => StrEnd s e ∧ Below W.heap.size W w')) ∨ (k = 4 ∧ Hid (Calls Tryz.prog 132 #[.pointer (some ⟨R, 0, none⟩), .slice (some ⟨gl, ol, none⟩) l.length c] W fun e w' => StrEnd s e ∧ Below W.heap.size W w')) ∨
        (k = 5 ∧ Hid (Calls Tryz.prog 133 #[.pointer (some ⟨R, 0, none⟩), .slice (some ⟨gl, ol, none⟩) l.length c] W fun e w' => StrEnd s e ∧ Below W.heap.size W w'))) := by
    rcases hk with ⟨rfl, q1, q2, q3⟩ | ⟨rfl, q⟩ | ⟨rfl, q⟩
    · exact ⟨bytesB l, rfl, .inl ⟨rfl, Lib.hid ((bytes_any l _ W (hl.below XB) q1).mono fun e w' he => ⟨bytes_str he.1 q2, he.2⟩)⟩⟩
    · have := flat4_parts q
      exact ⟨sharedP asks S l, rfl, .inr (.inl ⟨rfl, Lib.hid (shared_any R mv sv _ asks left S l W (h.below XB) (hS.below XB) (hl.below XB) this.1 this.2.1 this.2.2.1 this.2.2.2)⟩)⟩
    · exact ⟨partP asks S m l, rfl, .inr (.inr ⟨rfl, Lib.hid (part_any R mv sv _ asks left m S l W (h.below XB) (hm.below XB) (hS.below XB) (hl.below XB) q)⟩)⟩
  obtain ⟨r, hr⟩ : ∃ r, objT g asks S m left (k, l) = r := ⟨_, rfl⟩
  rw [hr] at hs ⊢
  have HE := Lib.hid hs
  have x0 := cell_of X0 0
  have x1 := cell_of X0 1
  simp at x0 x1
  clear hW X0 X1 XS XB h hm hS hl hk hs hr
  rcases hcall with ⟨rfl, HC⟩ | ⟨rfl, HC⟩ | ⟨rfl, HC⟩
  all_goals
    go_enter Tryz.func126, Tryz.ntmps126
    go_wp2_with fail
    rw [HW.out]
    go_wp2_with fail
    refine HC.out.mono ?_
    rintro e w6 ⟨⟨b, ok, rfl, hok, hbs, hbe⟩, hb6⟩
    have U1 := Lib.hid ((hb6.block (w.heap.size + 1) (by have := HXS.out; omega)).trans HX1.out)
    have UR := Lib.hid (HR.out.below hb6)
    have UB := Lib.hid (HXB.out.trans (hb6.mono HXB.out.size))
    have US := Lib.hid (Nat.le_trans (Nat.le_of_eq HXS.out) hb6.size)
    have HBE := Lib.hid hbe
    clear hb6 hbe
    cases s with
    | none =>
      subst hok
      have a1 := fun i => cell_of U1.out i
      have f1 := fun i => free_of U1.out i
      obtain rfl : r = none := HE.out
      go_wp2_with fail
      have A := answer_of (TmAt.zero (P := fun b => w.heap.size + 2 ≤ b) w6) UR.out hRlt (grown_below UB.out) (r := none) (fun p hp => by cases hp)
      refine bodyPost_ret (v := .tuple #[.agg #[.int .i64 0, .int .i64 0, .bool false, .slice none 0 0, .int .u64 0, .string ⟨#[]⟩, .slice none 0 0], .bool false]) (by simp [results, Tryz.results126, go_sem, a1, f1]) rfl A
    | some b' =>
      obtain rfl := HBE.out b' rfl
      subst hok
      have HRR := Lib.hid (show binT left b' = r from HE.out.symm)
      go_wp2_with fail
      refine (binary_any R _ _ _ left b' w6 UR.out (by omega) (by omega)).mono ?_
      rintro e w7 ⟨rfl, hr7, hg7⟩
      rw [← binT_ok, HRR.out]
      have V1 := Lib.hid ((hg7.block (w.heap.size + 1) (by have := US.out; omega) (by simp; omega)).trans U1.out)
      have VR := Lib.hid hr7
      have VG := Lib.hid (grown_trans (grown_below UB.out) hg7)
      have a1 := fun i => cell_of V1.out i
      have f1 := fun i => free_of V1.out i
      clear hr7 hg7
      have T := TmAt.leaf (P := fun b => w.heap.size + 2 ≤ b) (w := w7) (k := 9) (n := 0) (neg := false) (mag := []) (mv := .slice none 0 0) (bits := 0) (bytes := b') (a := none) (cap := 0) (by constructor <;> decide) (by constructor <;> decide) (MsP.nil w7) (by simp) (fun y hy => by cases hy) (by decide) (by unfold maxLen; omega)
      have HA := Lib.hid (answer_of T VR.out hRlt VG.out (r := r) (fun p hp => by
        have h := HRR.out
        rw [hp] at h
        obtain ⟨rfl, h2, h3⟩ := binT_some h
        refine ⟨rfl, ?_⟩
        unfold binLeft
        rw [if_pos h2]
        simp only
        omega))
      clear T
      go_wp2_with fail
      refine bodyPost_ret (v := .tuple #[.agg #[.int .i64 9, .int .i64 0, .bool false, .slice none 0 0, .int .u64 0, .string b', .slice none 0 0], .bool r.isSome]) (by simp [results, Tryz.results126, go_sem, a1, f1]) rfl HA.out

end Go.Proofs.YtlmpmjhanpkcnaaGreat
