/-
  A row of terms; a pair's, or a tuple's, term.
-/
import Derived.Test.YtohgkfnbjfhniaaXc
namespace Go.Proofs.Ytohgkfnbjfhniaa
open Go.RowKit

theorem info40 : (Try.prog.info? 40).map (fun i => (i.zero, i.size, i.bytes)) = some (some (.agg #[.int .i64 0, .int .i64 0, .bool false, .slice none 0 0, .int .u64 0, .string ⟨#[]⟩, .slice none 0 0]), 7, 96) := by kernel_rfl

/-- A row's cells hold terms. -/
def HeldT (P : Nat → Prop) (w : World) : List Value → List Tm → Prop
  | [], [] => True
  | a :: b :: c :: d :: e :: f :: g :: r, t :: m => TmAt P w (.agg #[a, b, c, d, e, f, g]) t ∧ HeldT P w r m
  | _, _ => False

theorem HeldT.cons {P : Nat → Prop} {w : World} {xs : List Value} {t : Tm} {m : List Tm} (h : HeldT P w xs (t :: m)) : ∃ a b c d e f g r, xs = a :: b :: c :: d :: e :: f :: g :: r ∧ TmAt P w (.agg #[a, b, c, d, e, f, g]) t ∧ HeldT P w r m := by
  match xs, h with
  | a :: b :: c :: d :: e :: f :: g :: r, h => exact ⟨a, b, c, d, e, f, g, r, rfl, h.1, h.2⟩
  | [], h => cases h
  | [_], h => unfold HeldT at h; cases h
  | [_, _], h => unfold HeldT at h; cases h
  | [_, _, _], h => unfold HeldT at h; cases h
  | [_, _, _, _], h => unfold HeldT at h; cases h
  | [_, _, _, _, _], h => unfold HeldT at h; cases h
  | [_, _, _, _, _, _], h => unfold HeldT at h; cases h

theorem HeldT.nil' {P : Nat → Prop} {w : World} {xs : List Value} (h : HeldT P w xs []) : xs = [] := by
  cases xs with
  | nil => rfl
  | cons a r => unfold HeldT at h; split at h <;> simp_all

theorem HeldT.len {P : Nat → Prop} {w : World} : ∀ {m : List Tm} {xs : List Value}, HeldT P w xs m → xs.length = m.length * 7
  | [], _, h => by rw [h.nil']; rfl
  | t :: m, xs, h => by
    obtain ⟨a, b, c, d, e, f, g, r, rfl, _, h2⟩ := h.cons
    have := HeldT.len h2
    simp only [List.length_cons]; omega

theorem HeldT.imp {P Q : Nat → Prop} {w w' : World} (hi : ∀ {v t}, TmAt P w v t → TmAt Q w' v t) : ∀ {m : List Tm} {xs : List Value}, HeldT P w xs m → HeldT Q w' xs m
  | [], _, h => by rw [h.nil']; trivial
  | t :: m, xs, h => by
    obtain ⟨a, b, c, d, e, f, g, r, rfl, h1, h2⟩ := h.cons
    exact ⟨hi h1, HeldT.imp hi h2⟩

theorem HeldT.snoc {P : Nat → Prop} {w : World} {a b c d e f g : Value} {t : Tm} (ht : TmAt P w (.agg #[a, b, c, d, e, f, g]) t) : ∀ {m : List Tm} {xs : List Value}, HeldT P w xs m → HeldT P w (xs ++ [a, b, c, d, e, f, g]) (m ++ [t])
  | [], _, h => by rw [h.nil']; exact ⟨ht, trivial⟩
  | t' :: m, xs, h => by
    obtain ⟨a', b', c', d', e', f', g', r, rfl, h1, h2⟩ := h.cons
    exact ⟨h1, HeldT.snoc ht h2⟩

theorem HeldT.at {P : Nat → Prop} {w : World} : ∀ {m : List Tm} {xs : List Value}, HeldT P w xs m → ∀ j, (hj : j < m.length) → ∃ cs : Array Value, (∀ i, i < 7 → xs[j * 7 + i]? = cs[i]?) ∧ TmAt P w (.agg cs) m[j]
  | [], _, _ => fun j hj => by simp at hj
  | t :: m, xs, h => fun j hj => by
    obtain ⟨a, b, c, d, e, f, g, r, rfl, h1, h2⟩ := h.cons
    cases j with
    | zero =>
      refine ⟨#[a, b, c, d, e, f, g], fun i hi => ?_, h1⟩
      match i, hi with
      | 0, _ => rfl
      | 1, _ => rfl
      | 2, _ => rfl
      | 3, _ => rfl
      | 4, _ => rfl
      | 5, _ => rfl
      | 6, _ => rfl
    | succ j =>
      obtain ⟨cs, h3, h4⟩ := HeldT.at h2 j (by simpa using hj)
      refine ⟨cs, fun i hi => ?_, by simpa using h4⟩
      rw [← h3 i hi]
      rw [show (j + 1) * 7 + i = (j * 7 + i) + 1 + 1 + 1 + 1 + 1 + 1 + 1 by omega]
      simp

/-- A term with parts, whose row is the call's own. -/
theorem TmAt.row {P Q : Nat → Prop} {w : World} {base n : Nat} {v : Value} {xs : List Value} {ts : List Tm} {k : Int} (hown : w.ownsRow base 40 7 v n xs) (hn : n = ts.length) (hh : HeldT Q w xs ts) (hk : In64 k) (hle : n ≤ maxLen)
    (hq : ∀ k, Q k → k < w.heap.size → P k) (hp : ∀ k, v.ownBlock = some k → P k) : TmAt P w (.agg #[.int .i64 k, .int .i64 0, .bool false, .slice none 0 0, .int .u64 0, .string ⟨#[]⟩, v]) (.mk k 0 false [] 0 ⟨#[]⟩ ts) := by
  subst hn
  have key : ∃ a cap, v = .slice a ts.length cap ∧ ∃ cells : Nat → Array Value, (∀ j, j < ts.length → ∃ g o, a = some ⟨g, o, none⟩ ∧ P g ∧ ∀ i, i < 7 → w.cell? ⟨g, o + j * 7 + i, none⟩ = (cells j)[i]?) ∧ (∀ j, (hj : j < ts.length) → TmAt P w (.agg (cells j)) ts[j]) := by
    have hat := hh.at
    refine ?_
    have : ∃ cells : Nat → Array Value, ∀ j, (hj : j < ts.length) → (∀ i, i < 7 → xs[j * 7 + i]? = (cells j)[i]?) ∧ TmAt Q w (.agg (cells j)) ts[j] :=
      ⟨fun j => if hj : j < ts.length then (hat j hj).choose else #[], fun j hj => by simp only [dif_pos hj]; exact (hat j hj).choose_spec⟩
    obtain ⟨cells, hc⟩ := this
    rcases hown.2 with ⟨rfl, h0⟩ | ⟨g, cap, cur, rfl, hbg, hg, hnc, hcm, hcs, htake⟩
    · exact ⟨none, 0, by rw [h0], cells, fun j hj => by omega, fun j hj => by omega⟩
    · refine ⟨some ⟨g, 0, none⟩, cap, rfl, cells, fun j hj => ⟨g, 0, rfl, hp g rfl, fun i hi => ?_⟩, fun j hj => (hc j hj).2.mono hq⟩
      obtain ⟨h1, h2⟩ := hc j hj
      rw [← h1 i hi]
      have hl := hh.len
      have hlt : j * 7 + i < xs.length := by omega
      rw [Nat.zero_add, ← htake, List.getElem?_take, if_pos (by omega)]
      simp [World.cell?, hg]
  obtain ⟨a, cap, rfl, cells, h1, h2⟩ := key
  exact .mk cells hk (by constructor <;> decide) (MsP.nil w) (by simp) (fun x hx => by cases hx) (by decide) (by unfold maxLen; decide) hle h1 h2

/-- A struct of seven cells, stored. -/
abbrev set7 (W : World) (b : Nat) (c0 c1 c2 c3 c4 c5 c6 : Value) : World :=
  ((((((W.setCell ⟨b, 0, none⟩ c0).setCell ⟨b, 1, none⟩ c1).setCell ⟨b, 2, none⟩ c2).setCell ⟨b, 3, none⟩ c3).setCell ⟨b, 4, none⟩ c4).setCell ⟨b, 5, none⟩ c5).setCell ⟨b, 6, none⟩ c6

theorem set7_heap {W : World} {b : Nat} {a0 a1 a2 a3 a4 a5 a6 : Value} {t : TypeId} (h : W.heap[b]? = some (.cells #[a0, a1, a2, a3, a4, a5, a6] t (0, 0))) (c0 c1 c2 c3 c4 c5 c6 : Value) :
    (set7 W b c0 c1 c2 c3 c4 c5 c6).heap[b]? = some (.cells #[c0, c1, c2, c3, c4, c5, c6] t (0, 0)) := by
  have h0 := set_of h 0 c0
  rw [show (#[a0, a1, a2, a3, a4, a5, a6] : Array Value).setIfInBounds 0 c0 = #[c0, a1, a2, a3, a4, a5, a6] from rfl] at h0
  have h1 := set_of h0 1 c1
  rw [show (#[c0, a1, a2, a3, a4, a5, a6] : Array Value).setIfInBounds 1 c1 = #[c0, c1, a2, a3, a4, a5, a6] from rfl] at h1
  have h2 := set_of h1 2 c2
  rw [show (#[c0, c1, a2, a3, a4, a5, a6] : Array Value).setIfInBounds 2 c2 = #[c0, c1, c2, a3, a4, a5, a6] from rfl] at h2
  have h3 := set_of h2 3 c3
  rw [show (#[c0, c1, c2, a3, a4, a5, a6] : Array Value).setIfInBounds 3 c3 = #[c0, c1, c2, c3, a4, a5, a6] from rfl] at h3
  have h4 := set_of h3 4 c4
  rw [show (#[c0, c1, c2, c3, a4, a5, a6] : Array Value).setIfInBounds 4 c4 = #[c0, c1, c2, c3, c4, a5, a6] from rfl] at h4
  have h5 := set_of h4 5 c5
  rw [show (#[c0, c1, c2, c3, c4, a5, a6] : Array Value).setIfInBounds 5 c5 = #[c0, c1, c2, c3, c4, c5, a6] from rfl] at h5
  have h6 := set_of h5 6 c6
  rw [show (#[c0, c1, c2, c3, c4, c5, a6] : Array Value).setIfInBounds 6 c6 = #[c0, c1, c2, c3, c4, c5, c6] from rfl] at h6
  exact h6

theorem set7_off (W : World) (b : Nat) (c0 c1 c2 c3 c4 c5 c6 : Value) {k : Nat} (hk : k ≠ b) : (set7 W b c0 c1 c2 c3 c4 c5 c6).heap[k]? = W.heap[k]? := by
  unfold set7
  rw [Below.heap_setCell _ _ _ _ hk, Below.heap_setCell _ _ _ _ hk, Below.heap_setCell _ _ _ _ hk, Below.heap_setCell _ _ _ _ hk, Below.heap_setCell _ _ _ _ hk, Below.heap_setCell _ _ _ _ hk, Below.heap_setCell _ _ _ _ hk]

theorem set7_below {B : Nat} {w W : World} {b : Nat} (h : Below B w W) (hB : B ≤ b) (c0 c1 c2 c3 c4 c5 c6 : Value) : Below B w (set7 W b c0 c1 c2 c3 c4 c5 c6) :=
  ((((((h.setCell (p := ⟨b, 0, none⟩) hB c0).setCell (p := ⟨b, 1, none⟩) hB c1).setCell (p := ⟨b, 2, none⟩) hB c2).setCell (p := ⟨b, 3, none⟩) hB c3).setCell (p := ⟨b, 4, none⟩) hB c4).setCell (p := ⟨b, 5, none⟩) hB c5).setCell (p := ⟨b, 6, none⟩) hB c6

theorem set7_size (W : World) (b : Nat) (c0 c1 c2 c3 c4 c5 c6 : Value) : (set7 W b c0 c1 c2 c3 c4 c5 c6).heap.size = W.heap.size := by simp [set7, World.setCell]

end Go.Proofs.Ytohgkfnbjfhniaa
