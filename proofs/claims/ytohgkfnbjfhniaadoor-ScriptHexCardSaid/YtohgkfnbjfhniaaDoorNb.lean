/-
  Chapter 25's own numbers: as script reads them.
-/
import Derived.Test.YtohgkfnbjfhniaaDoorRf
import Derived.Lib.AtoiTie
namespace Go.Proofs.YtohgkfnbjfhniaaDoor
open Go.RowKit Sp

theorem decFrom_append : ∀ (a b : List UInt8) (acc : Nat), Lib.decFrom acc (a ++ b) = (Lib.decFrom acc a).bind fun m => Lib.decFrom m b
  | [], b, acc => rfl
  | x :: a, b, acc => by
    simp only [List.cons_append, Lib.decFrom]
    cases Lib.digitVal x with
    | none => rfl
    | some d => exact decFrom_append a b _

theorem digit_byte (d : Nat) (h : d < 10) : Lib.digitVal (UInt8.ofNat (48 + d)) = some d ∧ (UInt8.ofNat (48 + d)).toNat = 48 + d := by
  have e : (UInt8.ofNat (48 + d)).toNat = 48 + d := by rw [UInt8.toNat_ofNat']; omega
  refine ⟨?_, e⟩
  unfold Lib.digitVal; rw [e, if_pos (by omega)]; congr 1; omega

theorem digit_is {b : UInt8} {d : Nat} (h : Lib.digitVal b = some d) : d < 10 ∧ b = UInt8.ofNat (48 + d) := by
  obtain ⟨h1, h2, rfl⟩ := Lib.digitVal_eq h
  refine ⟨by omega, ?_⟩
  apply UInt8.toNat_inj.1
  rw [UInt8.toNat_ofNat']; omega

theorem decFrom_digits (u : Nat) : Lib.decFrom 0 (Lib.decDigits u) = some u := by
  induction u using Nat.strongRecOn with
  | _ u ih =>
    rw [Lib.decDigits]
    split
    · rename_i h
      simp only [Lib.decFrom]; rw [(digit_byte u h).1]; simp
    · rename_i h
      rw [decFrom_append, ih (u / 10) (by omega)]
      simp only [Option.bind_some, Lib.decFrom]
      rw [(digit_byte (u % 10) (by omega)).1]
      simp only [Option.some.injEq]; omega

theorem digits_length : ∀ (k u : Nat), u < 10 ^ (k + 1) → (Lib.decDigits u).length ≤ k + 1
  | 0, u, h => by rw [Lib.decDigits, dif_pos (by simpa using h)]; simp
  | k + 1, u, h => by
    rw [Lib.decDigits]
    split
    · simp
    · rw [List.length_append]
      have := digits_length k (u / 10) (by rw [Nat.pow_succ] at h; omega)
      simp; omega

theorem digits_ne (u : Nat) : Lib.decDigits u ≠ [] := by
  rw [Lib.decDigits]; split <;> simp

theorem head_append {a b : List UInt8} (h : a ≠ []) : (a ++ b).head? = a.head? := by
  cases a with
  | nil => exact absurd rfl h
  | cons x r => rfl

theorem digits_head (u : Nat) : (Lib.decDigits u).head? = some 48 → u = 0 := by
  induction u using Nat.strongRecOn with
  | _ u ih =>
    rw [Lib.decDigits]
    split
    · rename_i h
      intro e
      simp at e
      have := congrArg UInt8.toNat e
      have h2 := (digit_byte u h).2
      rw [UInt8.ofNat_add] at h2
      simp at this h2
      omega
    · rename_i h
      intro e
      rw [head_append (digits_ne _)] at e
      have := ih (u / 10) (by omega) e
      omega

theorem digits_of : ∀ (s : List UInt8) (m : Nat), s ≠ [] → (s.head? = some 48 → s.length = 1) → Lib.decFrom 0 s = some m → Lib.decDigits m = s := by
  intro s
  induction h : s.length using Nat.strongRecOn generalizing s with
  | _ n ih =>
    intro m hne hz hd
    subst h
    rcases List.eq_nil_or_concat s with rfl | ⟨t, b, rfl⟩
    · exact absurd rfl hne
    · rw [List.concat_eq_append, decFrom_append] at hd
      cases ht : Lib.decFrom 0 t with
      | none => rw [ht] at hd; cases hd
      | some k =>
        rw [ht] at hd
        simp only [Option.bind_some, Lib.decFrom] at hd
        cases hb : Lib.digitVal b with
        | none => rw [hb] at hd; cases hd
        | some d =>
          rw [hb] at hd
          simp only [Option.some.injEq] at hd
          obtain ⟨hd10, rfl⟩ := digit_is hb
          rw [List.concat_eq_append]
          by_cases h0 : t = []
          · subst h0
            simp [Lib.decFrom] at ht
            subst ht hd
            rw [Lib.decDigits, dif_pos (by omega)]; simp
          · have hzt : t.head? ≠ some 48 := by
              intro e
              have hl : 0 < t.length := List.length_pos_iff.2 h0
              have := hz (by rw [List.concat_eq_append, head_append h0]; exact e)
              rw [List.concat_eq_append, List.length_append, List.length_singleton] at this; omega
            have hk := ih t.length (by simp) t rfl k h0 (fun e => absurd e hzt) ht
            have hk0 : k ≠ 0 := by
              intro e
              subst e
              apply hzt; rw [← hk]
              rw [Lib.decDigits, dif_pos (by omega)]; rfl
            subst hd
            rw [Lib.decDigits, dif_neg (by omega)]
            rw [show (k * 10 + d) / 10 = k by omega, show (k * 10 + d) % 10 = d by omega, hk]

/-- What chapter 25's own answer takes for a number. -/
def numR (s : List UInt8) : Option Int :=
  if s.length < 1 ∨ 13 < s.length ∨ (s.head? = some 48 ∧ 1 < s.length) then none
  else match Lib.decFrom 0 s with
    | some m => if m ≤ 1099511627776 then some (m : Int) else none
    | none => none

theorem numP_of {s : List UInt8} {v : Int} (h : numP s = some v) : 0 ≤ v ∧ v ≤ 1099511627776 ∧ Lib.itoa v = s := by
  unfold numP at h
  split at h
  · split at h
    · rename_i hc; cases h; exact hc
    · cases h
  · cases h

theorem numR_of {s : List UInt8} {v : Int} (h : numP s = some v) : numR s = some v := by
  obtain ⟨h0, h1, h2⟩ := numP_of h
  obtain ⟨u, rfl⟩ : ∃ u : Nat, v = u := ⟨v.toNat, by omega⟩
  have hs : s = Lib.decDigits u := by rw [← h2]; unfold Lib.itoa; rw [if_neg (by omega)]; rfl
  subst hs
  have hl := digits_length 12 u (by omega)
  have hne := digits_ne u
  have hpos : 0 < (Lib.decDigits u).length := List.length_pos_iff.2 hne
  unfold numR
  rw [if_neg, decFrom_digits]
  · simp only; rw [if_pos (by omega)]
  · rintro (h | h | ⟨h, h'⟩)
    · omega
    · omega
    · have := digits_head u h
      subst this
      rw [Lib.decDigits, dif_pos (by omega)] at h'
      simp at h'

theorem numP_back {s : List UInt8} {v : Int} (h : numR s = some v) : numP s = some v := by
  unfold numR at h
  split at h
  · cases h
  · rename_i hc
    cases hd : Lib.decFrom 0 s with
    | none => rw [hd] at h; cases h
    | some m =>
      rw [hd] at h
      simp only at h
      split at h
      · rename_i hm
        cases h
        have hne : s ≠ [] := fun e => hc (.inl (by rw [e]; simp))
        have hz : s.head? = some 48 → s.length = 1 := fun e => by
          have h1 : ¬ 1 < s.length := fun q => hc (.inr (.inr ⟨e, q⟩))
          have h2 : 0 < s.length := List.length_pos_iff.2 hne
          omega
        have hs := digits_of s m hne hz hd
        have hlen : s.length ≤ 13 := by
          rcases Nat.lt_or_ge 13 s.length with q | q
          · exact absurd (.inr (.inl q)) hc
          · exact q
        have ha : Lib.atoiAll s = .ok (m : Int) := by
          rw [Lib.atoiAll_short s (by omega)]
          cases s with
          | nil => exact absurd rfl hne
          | cons b r =>
            obtain ⟨d, hb⟩ := Lib.digit_of_decFrom (b :: r) 0 m hd 0 b rfl
            obtain ⟨q1, q2, _⟩ := Lib.digitVal_eq hb
            have n1 : (b == 45) = false := by
              simp; intro e; subst e; simp at q1
            have n2 : (b == 43) = false := by
              simp; intro e; subst e; simp at q1
            unfold Lib.atoi
            simp only [n1, n2, Bool.false_eq_true, if_false]
            unfold Lib.decNat
            simp only [List.isEmpty_cons, Bool.false_eq_true, if_false]
            rw [hd]; rfl
        unfold numP
        rw [ha]
        simp only
        rw [if_pos]
        refine ⟨by omega, by omega, ?_⟩
        unfold Lib.itoa
        rw [if_neg (by omega)]
        exact hs
      · cases h

theorem numR_eq (s : List UInt8) : numR s = numP s := by
  cases h : numP s with
  | some v => exact numR_of h
  | none =>
    cases h2 : numR s with
    | none => rfl
    | some v => rw [numP_back h2] at h; cases h

theorem decFrom_none_of {s : List UInt8} {k : Nat} {b : UInt8} {m : Nat} (hk : s[k]? = some b) (hp : Lib.decFrom 0 (s.take k) = some m) (hb : Lib.digitVal b = none) : Lib.decFrom 0 s = none := by
  obtain ⟨hl, he⟩ := List.getElem?_eq_some_iff.1 hk
  have e : s = s.take k ++ s[k] :: s.drop (k + 1) := by rw [← List.drop_eq_getElem_cons hl, List.take_append_drop]
  rw [e, decFrom_append, hp]
  simp only [Option.bind_some, Lib.decFrom]
  rw [he, hb]

theorem digitVal_not {b : UInt8} (h : b.toNat < 48 ∨ 57 < b.toNat) : Lib.digitVal b = none := by
  unfold Lib.digitVal; rw [if_neg (by omega)]

theorem head_zero {s : ByteArray} (h : 0 < s.size) : s.toList.head? = some s[0] := by
  obtain ⟨h', hg⟩ := get_toList h
  rw [List.head?_eq_getElem?, List.getElem?_eq_getElem h', hg]

/-- How a number's reading ends. -/
def NumOut (s : List UInt8) (e : Ending) : Prop := ∃ (x : Int) (ok : Bool), e = .returned (.tuple #[.int .i64 x, .bool ok]) ∧ numP s = if ok then some x else none

set_option maxRecDepth 100000 in
set_option maxHeartbeats 4000000 in
theorem number_any (s : ByteArray) (hs : s.size ≤ 1000000) (w : World) : Calls Tryd.prog 66 #[.string s] w fun e w' => NumOut s.toList e ∧ w' = w := by
  by_cases h1 : s.size < 1
  · have q1 : (s.size : Int) < 1 := by omega
    have HN := Lib.hid (show numP s.toList = none by rw [← numR_eq]; unfold numR; rw [if_pos (.inl (by rw [size_toList']; omega))])
    go_enter Tryd.func66, Tryd.ntmps66
    go_wp2_with fail
    go_ret2
    exact ⟨⟨_, _, rfl, by rw [HN.out]; rfl⟩, rfl⟩
  have q1 : ¬ (s.size : Int) < 1 := by omega
  by_cases h2 : 13 < s.size
  · have q2 : (13 : Int) < (s.size : Int) := by omega
    have HN := Lib.hid (show numP s.toList = none by rw [← numR_eq]; unfold numR; rw [if_pos (.inr (.inl (by rw [size_toList']; omega)))])
    go_enter Tryd.func66, Tryd.ntmps66
    go_wp2_with fail
    go_ret2
    exact ⟨⟨_, _, rfl, by rw [HN.out]; rfl⟩, rfl⟩
  have q2 : ¬ (13 : Int) < (s.size : Int) := by omega
  have hpos : 0 < s.size := by omega
  have q3 : (0 : Int) < (s.size : Int) := by omega
  obtain ⟨b0, hb0⟩ : ∃ b, s[0] = b := ⟨_, rfl⟩
  have hh := head_zero hpos
  rw [hb0] at hh
  by_cases hz : b0 = 48 ∧ 1 < s.size
  · have q4 : ((b0.toNat : Int) == 48) = true := by rw [hz.1]; rfl
    have q5 : (1 : Int) < (s.size : Int) := by omega
    have HN := Lib.hid (show numP s.toList = none by rw [← numR_eq]; unfold numR; rw [if_pos (.inr (.inr ⟨by rw [hh, hz.1], by rw [size_toList']; omega⟩))])
    clear hh hz
    go_enter Tryd.func66, Tryd.ntmps66
    go_wp2_with fail
    go_ret2
    exact ⟨⟨_, _, rfl, by rw [HN.out]; rfl⟩, rfl⟩
  have HR := Lib.hid (show numP s.toList = match Lib.decFrom 0 s.toList with
    | some m => if m ≤ 1099511627776 then some (m : Int) else none
    | none => none by
      rw [← numR_eq]; unfold numR; rw [if_neg]
      rintro (h | h | ⟨h, h'⟩)
      · rw [size_toList'] at h; omega
      · rw [size_toList'] at h; omega
      · rw [hh] at h; rw [size_toList'] at h'; exact hz ⟨by simpa using h, h'⟩)
  have hq : ((b0.toNat : Int) == 48) = false ∨ (((b0.toNat : Int) == 48) = true ∧ ¬ (1 : Int) < (s.size : Int)) := by
    by_cases e : b0 = 48
    · exact .inr ⟨by rw [e]; rfl, fun q => hz ⟨e, by omega⟩⟩
    · exact .inl (by simp; intro h; exact e (UInt8.toNat_inj.1 (by simpa using (by omega : b0.toNat = 48))))
  clear hh hz
  rcases hq with q4 | ⟨q4, q5⟩
  all_goals
    go_enter Tryd.func66, Tryd.ntmps66
    go_wp2_with fail
    go_loop [4, 5] (fun n i => ∃ k m : Nat, k ≤ s.size ∧ n = .int .i64 m ∧ i = .int .i64 k ∧ Hid (Lib.decFrom 0 (s.toList.take k) = some m) ∧ m < 100000000000000000) (fun _ i => s.size - (intOf i).toNat)
    case atStart => exact ⟨0, 0, by omega, rfl, rfl, Lib.hid rfl, by omega⟩
    case round =>
      obtain ⟨k, m, hk, rfl, rfl, HD, hm⟩ := hrel
      by_cases hlt : k < s.size
      · have q6 : (k : Int) < (s.size : Int) := by omega
        have q7 : (0 : Int) ≤ (k : Int) := by omega
        have q8 : IntKind.i64.wrap ((k : Int) + 1) = (k : Int) + 1 := IntWalk.i64_in _ (by omega)
        obtain ⟨h', hg⟩ := get_toList hlt
        obtain ⟨p, hp⟩ : ∃ p, s[k] = p := ⟨_, rfl⟩
        rw [hp] at hg
        have hget : s.toList[k]? = some p := by rw [List.getElem?_eq_getElem h', hg]
        have HGET := Lib.hid hget
        clear hget hg
        by_cases hlow : p.toNat < 48
        · have q9 : (p.toNat : Int) < 48 := by omega
          have HN := Lib.hid (show numP s.toList = none by rw [HR.out, decFrom_none_of HGET.out HD.out (digitVal_not (.inl hlow))])
          go_wp2_with fail
          go_ret2
          exact ⟨⟨_, _, rfl, by rw [HN.out]; rfl⟩, rfl⟩
        · have q9 : ¬ (p.toNat : Int) < 48 := by omega
          by_cases hhigh : 57 < p.toNat
          · have q10 : (57 : Int) < (p.toNat : Int) := by omega
            have HN := Lib.hid (show numP s.toList = none by rw [HR.out, decFrom_none_of HGET.out HD.out (digitVal_not (.inr hhigh))])
            go_wp2_with fail
            go_ret2
            exact ⟨⟨_, _, rfl, by rw [HN.out]; rfl⟩, rfl⟩
          · have q10 : ¬ (57 : Int) < (p.toNat : Int) := by omega
            obtain ⟨d, hd⟩ : ∃ d : Nat, p.toNat - 48 = d := ⟨_, rfl⟩
            have q11 : IntKind.u8.wrap ((p.toNat : Int) - 48) = (d : Int) := by
              rw [← hd]; simp [IntKind.wrap, IntKind.bits, IntKind.signed]; omega
            have q12 : IntKind.i64.wrap ((m : Int) * 10) = (m : Int) * 10 := IntWalk.i64_in _ (by omega)
            have q13 : IntKind.i64.wrap ((m : Int) * 10 + (d : Int)) = (m : Int) * 10 + (d : Int) := IntWalk.i64_in _ (by omega)
            have HD2 := Lib.hid (Lib.decFrom_take s.toList k 0 m p d HD.out HGET.out (by unfold Lib.digitVal; rw [if_pos (by omega), hd]))
            have hlt2 : m * 10 + d < 100000000000000000 := by
              have := Lib.decFrom_lt _ _ _ HD2.out
              rw [List.length_take, size_toList', Nat.min_eq_left (by omega)] at this
              have h10 : 10 ^ (k + 1) ≤ 10 ^ 13 := Nat.pow_le_pow_right (by omega) (by omega)
              omega
            clear hd
            go_wp2_with fail
            go_round
            case rel => exact ⟨k + 1, m * 10 + d, by omega, by go_num, by go_num, HD2, hlt2⟩
            case measure => simp [intOf]; omega
      · obtain rfl : k = s.size := by omega
        have HD2 := Lib.hid (show Lib.decFrom 0 s.toList = some m by have := HD.out; rwa [List.take_of_length_le (by rw [size_toList']; omega)] at this)
        by_cases hbig : 1099511627776 < m
        · have q6 : (1099511627776 : Int) < (m : Int) := by omega
          have HN := Lib.hid (show numP s.toList = none by rw [HR.out, HD2.out]; simp only; rw [if_neg (by omega)])
          go_wp2_with fail
          go_ret2
          exact ⟨⟨_, _, rfl, by rw [HN.out]; rfl⟩, rfl⟩
        · have q6 : ¬ (1099511627776 : Int) < (m : Int) := by omega
          have HN := Lib.hid (show numP s.toList = some (m : Int) by rw [HR.out, HD2.out]; simp only; rw [if_pos (by omega)])
          go_wp2_with fail
          go_ret2
          exact ⟨⟨m, true, rfl, by rw [HN.out]; rfl⟩, rfl⟩

end Go.Proofs.YtohgkfnbjfhniaaDoor
