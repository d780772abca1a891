/-
  What is printed is read again: plain words.
-/
import Derived.Test.YtohgkfnbjfhniaaDoorPn
import Derived.Test.YtohgkfnbjfhniaaDoorRs
import Derived.Lib.AtoiAllCases
namespace Go.Proofs.YtohgkfnbjfhniaaDoor
open Go.RowKit Sp Go.Lib

theorem digit_nat {d : Nat} (h : d < 10) : (UInt8.ofNat (48 + d)).toNat = 48 + d := by rw [UInt8.toNat_ofNat']; omega

theorem pu_append : ∀ (l : List UInt8) (acc u d : Nat), parseUint10 acc l = .ok u → d < 10 → u * 10 + d < 1000000000000000000 → parseUint10 acc (l ++ [UInt8.ofNat (48 + d)]) = .ok (u * 10 + d)
  | [], acc, u, d, h, hd, hb => by
    simp only [parseUint10] at h; injection h with h; subst h
    have e := digit_nat hd
    simp only [List.nil_append, parseUint10]
    rw [if_pos ⟨by omega, by omega⟩, if_neg (by omega), if_neg (by omega), e]
    congr 1; omega
  | c :: r, acc, u, d, h, hd, hb => by
    simp only [List.cons_append, parseUint10] at h ⊢
    split at h
    · rename_i h1
      split at h
      · cases h
      · rename_i h2
        split at h
        · cases h
        · rename_i h3
          rw [if_pos h1, if_neg h2, if_neg h3]
          exact pu_append r _ u d h hd hb
    · cases h

theorem pu_dec (u : Nat) : u < 1000000000000000000 → parseUint10 0 (decDigits u) = .ok u := by
  induction u using Nat.strongRecOn with
  | _ u ih =>
    intro hu
    by_cases h : u < 10
    · rw [decDigits, dif_pos h]
      have := pu_append [] 0 0 u rfl h (by omega)
      simpa using this
    · rw [decDigits, dif_neg h]
      have := pu_append _ 0 (u / 10) (u % 10) (ih (u / 10) (by omega) (by omega)) (by omega) (by omega)
      rw [this]; congr 1; omega

theorem dec_mem (u : Nat) : ∀ b ∈ decDigits u, 48 ≤ b.toNat ∧ b.toNat ≤ 57 := by
  induction u using Nat.strongRecOn with
  | _ u ih =>
    intro b hb
    by_cases h : u < 10
    · rw [decDigits, dif_pos h] at hb
      simp only [List.mem_singleton] at hb
      subst hb; rw [digit_nat h]; omega
    · rw [decDigits, dif_neg h] at hb
      rcases List.mem_append.1 hb with hb | hb
      · exact ih (u / 10) (by omega) b hb
      · simp only [List.mem_singleton] at hb
        subst hb; rw [digit_nat (by omega)]; omega

theorem dec_ne (u : Nat) : decDigits u ≠ [] := by
  rw [decDigits]; split <;> simp

theorem itoa_dec (u : Nat) : itoa (u : Int) = decDigits u := by unfold itoa; rw [if_neg (by omega)]; simp

theorem numP_itoa {n : Int} (h0 : 0 ≤ n) (h1 : n ≤ 1099511627776) : numP (itoa n) = some n := by
  obtain ⟨u, rfl⟩ : ∃ u : Nat, n = u := ⟨n.toNat, by omega⟩
  have hp := pu_dec u (by omega)
  have ha : atoiAll (itoa (u : Int)) = .ok (u : Int) := by
    rw [itoa_dec]
    cases hd : decDigits u with
    | nil => exact absurd hd (dec_ne u)
    | cons c r =>
      have hm := dec_mem u c (by rw [hd]; simp)
      rw [atoiAll_plain c r (by omega) (by omega)]
      unfold parseMag
      rw [if_neg (by simp), ← hd, hp]
      simp only [signless]
      rw [if_neg (by omega)]
  unfold numP
  rw [ha]
  simp [h0, h1]

theorem numP_in {s : List UInt8} {n : Int} (h : numP s = some n) : 0 ≤ n ∧ n ≤ 1099511627776 := by
  unfold numP at h
  split at h
  · split at h
    · rename_i hq
      injection h with h; subst h
      exact ⟨hq.1, hq.2.1⟩
    · cases h
  · cases h

theorem itoa_clean {n : Int} (h0 : 0 ≤ n) : ∀ b ∈ itoa n, b ≠ 32 ∧ b ≠ 10 := by
  obtain ⟨u, rfl⟩ : ∃ u : Nat, n = u := ⟨n.toNat, by omega⟩
  intro b hb
  rw [itoa_dec] at hb
  have := dec_mem u b hb
  constructor <;> (rintro rfl; revert this; decide)

theorem hexv_of : ∀ i : Fin 16, hexv (digitsH.getD i.1 0) = (i.1 : Int) := by decide +kernel
theorem hex_clean_at : ∀ i : Fin 16, digitsH.getD i.1 0 ≠ 32 ∧ digitsH.getD i.1 0 ≠ 10 ∧ digitsH.getD i.1 0 ≠ 45 := by decide +kernel

theorem pairsP_hex : ∀ b : List UInt8, pairsP (b.flatMap fun x => [digitsH.getD (x.toNat / 16) 0, digitsH.getD (x.toNat % 16) 0]) = some b
  | [] => rfl
  | x :: r => by
    have hx := x.toNat_lt
    have h1 : hexv (digitsH.getD (x.toNat / 16) 0) = ((x.toNat / 16 : Nat) : Int) := hexv_of ⟨x.toNat / 16, by omega⟩
    have h2 : hexv (digitsH.getD (x.toNat % 16) 0) = ((x.toNat % 16 : Nat) : Int) := hexv_of ⟨x.toNat % 16, by omega⟩
    simp only [List.flatMap_cons, List.cons_append, List.nil_append]
    rw [pairsP, if_neg (by rw [h1, h2]; omega), pairsP_hex r, h1, h2]
    simp only [Option.map_some]
    congr 2
    have e : (16 * ((x.toNat / 16 : Nat) : Int) + ((x.toNat % 16 : Nat) : Int)).toNat = x.toNat := by omega
    rw [e]
    simp

theorem hex_even (b : List UInt8) : (b.flatMap fun x => [digitsH.getD (x.toNat / 16) 0, digitsH.getD (x.toNat % 16) 0]).length = 2 * b.length := by
  induction b with
  | nil => rfl
  | cons x r ih => simp only [List.flatMap_cons, List.length_append, ih]; simp; omega

theorem bytesP_hex (b : List UInt8) : bytesP (hexP b) = some b := by
  unfold hexP
  by_cases h : b = []
  · subst h; rfl
  · rw [if_neg h]
    have hl := hex_even b
    have hp : 0 < b.length := List.length_pos_iff.2 h
    unfold bytesP
    rw [if_neg (fun q => by rw [q] at hl; simp at hl; omega), if_neg (by
      rintro (q | q)
      · rw [q] at hl; simp at hl; omega
      · omega), pairsP_hex]

theorem hexP_clean (b : List UInt8) : ∀ x ∈ hexP b, x ≠ 32 ∧ x ≠ 10 := by
  unfold hexP
  split
  · intro x hx; simp only [List.mem_singleton] at hx; subst hx; decide
  · intro x hx
    obtain ⟨y, _, hy⟩ := List.mem_flatMap.1 hx
    have hl := y.toNat_lt
    have h1 := hex_clean_at ⟨y.toNat / 16, by omega⟩
    have h2 := hex_clean_at ⟨y.toNat % 16, by omega⟩
    simp only [List.mem_cons, List.mem_nil_iff, or_false] at hy
    rcases hy with rfl | rfl
    · exact ⟨h1.1, h1.2.1⟩
    · exact ⟨h2.1, h2.2.1⟩

def Num3 (c : Three) : Prop := (0 ≤ c.1 ∧ c.1 ≤ 1099511627776) ∧ (0 ≤ c.2.1 ∧ c.2.1 ≤ 1099511627776) ∧ (0 ≤ c.2.2 ∧ c.2.2 ≤ 1099511627776)

theorem badN_num {c : Three} : badN [c.1, c.2.1, c.2.2] = false ↔ Num3 c := by
  unfold badN Num3
  simp only [List.any_cons, List.any_nil, Bool.or_false, Bool.or_eq_false_iff, decide_eq_false_iff_not]
  omega

theorem badE_num {es : List Three} : badE es = false ↔ ∀ e ∈ es, Num3 e := by
  unfold badE
  rw [List.any_eq_false]
  constructor
  · intro h e he; exact badN_num.1 (by have := h e he; simpa using this)
  · intro h e he; rw [badN_num.2 (h e he)]; simp

theorem split_line {name : List UInt8} (hn : ∀ b ∈ name, b ≠ 32) {c : Three} (hc : Num3 c) : splitC 32 (name ++ numT [c.1, c.2.1, c.2.2]) = [name, itoa c.1, itoa c.2.1, itoa c.2.2] := by
  have e : name ++ numT [c.1, c.2.1, c.2.2] = name ++ 32 :: (itoa c.1 ++ 32 :: (itoa c.2.1 ++ 32 :: itoa c.2.2)) := by simp [numT]
  rw [e, splitC_hit hn, splitC_hit (fun b hb => (itoa_clean hc.1.1 b hb).1), splitC_hit (fun b hb => (itoa_clean hc.2.1.1 b hb).1), splitC_miss (fun b hb => (itoa_clean hc.2.2.1 b hb).1)]

theorem clean_line {name : List UInt8} (hn : ∀ b ∈ name, b ≠ 10) {c : Three} (hc : Num3 c) : ∀ b ∈ name ++ numT [c.1, c.2.1, c.2.2], b ≠ 10 := by
  have e : name ++ numT [c.1, c.2.1, c.2.2] = name ++ 32 :: (itoa c.1 ++ 32 :: (itoa c.2.1 ++ 32 :: itoa c.2.2)) := by simp [numT]
  rw [e]
  intro b hb
  simp only [List.mem_append, List.mem_cons] at hb
  rcases hb with hb | rfl | hb | rfl | hb | rfl | hb
  · exact hn b hb
  · decide
  · exact (itoa_clean hc.1.1 b hb).2
  · decide
  · exact (itoa_clean hc.2.1.1 b hb).2
  · decide
  · exact (itoa_clean hc.2.2.1 b hb).2

theorem numbersP_itoa {c : Three} (hc : Num3 c) : numbersP [itoa c.1, itoa c.2.1, itoa c.2.2] = some c := by
  unfold numbersP
  simp only
  rw [numP_itoa hc.1.1 hc.1.2, numP_itoa hc.2.1.1 hc.2.1.2, numP_itoa hc.2.2.1 hc.2.2.2]
  rfl

theorem lineP_codeT (st : St) (b : List UInt8) : lineP st ([99, 111, 100, 101, 32] ++ hexP b) = some { st with b := st.b ++ b } := by
  have e : [99, 111, 100, 101, 32] ++ hexP b = [99, 111, 100, 101] ++ 32 :: hexP b := by simp
  unfold lineP
  rw [e, splitC_hit (by decide), splitC_miss (fun x hx => (hexP_clean b x hx).1)]
  simp [bytesP_hex]

theorem lineP_set (st : St) {c : Three} (hc : Num3 c) : lineP st ([115, 101, 116] ++ numT [c.1, c.2.1, c.2.2]) = some { st with c := c } := by
  unfold lineP
  rw [split_line (by decide) hc]
  simp only
  rw [if_neg (by simp), numbersP_itoa hc]
  simp

theorem lineP_ev (st : St) {c : Three} (hc : Num3 c) : lineP st ([101, 118] ++ numT [c.1, c.2.1, c.2.2]) = some { st with es := st.es ++ [c] } := by
  unfold lineP
  rw [split_line (by decide) hc]
  simp only
  rw [if_neg (by simp), numbersP_itoa hc]
  simp

theorem run_evs : ∀ (es : List Three) (r : List UInt8) (k : Nat) (st : St), (∀ e ∈ es, Num3 e) → runP k st (linesP (es.flatMap evT ++ r)) = runP (k + es.length) { st with es := st.es ++ es } (linesP r)
  | [], r, k, st, _ => by simp
  | e :: es, r, k, st, h => by
    have he := h e (by simp)
    have eq : (e :: es).flatMap evT ++ r = ([101, 118] ++ numT [e.1, e.2.1, e.2.2]) ++ 10 :: (es.flatMap evT ++ r) := by simp [evT]
    rw [eq, linesP_hit (clean_line (by decide) he), runP, lineP_ev st he]
    simp only
    rw [run_evs es r _ _ (fun x hx => h x (by simp [hx]))]
    simp only [List.append_assoc, List.length_cons, List.cons_append, List.nil_append]
    congr 1; omega

theorem run_print (b : List UInt8) (c : Three) (es : List Three) (r : List UInt8) (k : Nat) (st : St) (hc : Num3 c) (hes : ∀ e ∈ es, Num3 e) :
    runP k st (linesP (headT b c ++ es.flatMap evT ++ r)) = runP (k + 2 + es.length) ⟨st.b ++ b, c, st.es ++ es⟩ (linesP r) := by
  have eq : headT b c ++ es.flatMap evT ++ r = ([99, 111, 100, 101, 32] ++ hexP b) ++ 10 :: (([115, 101, 116] ++ numT [c.1, c.2.1, c.2.2]) ++ 10 :: (es.flatMap evT ++ r)) := by simp [headT]
  have hcl : ∀ x ∈ ([99, 111, 100, 101, 32] : List UInt8), x ≠ 10 := by decide
  rw [eq, linesP_hit (fun x hx => by
    rcases List.mem_append.1 hx with hx | hx
    · exact hcl x hx
    · exact (hexP_clean b x hx).2), runP, lineP_codeT]
  simp only
  rw [linesP_hit (clean_line (by decide) hc), runP, lineP_set _ hc]
  simp only
  rw [run_evs es r _ _ hes]

theorem printP_ok {b : List UInt8} {c : Three} {es : List Three} (h : (printP b c es).2 = 0) : Num3 c ∧ (∀ e ∈ es, Num3 e) ∧ (printP b c es).1 = headT b c ++ es.flatMap evT ∧ (printP b c es).1.length ≤ 131072 := by
  unfold printP at h ⊢
  split at h
  · simp at h
  · rename_i h1
    split at h
    · simp at h
    · rename_i h2
      have h1' : (badN [c.1, c.2.1, c.2.2] || badE es) = false := by simpa using h1
      rw [Bool.or_eq_false_iff] at h1'
      rw [if_neg h1, if_neg h2]
      exact ⟨badN_num.1 h1'.1, badE_num.1 h1'.2, rfl, Nat.le_of_not_lt h2⟩

theorem printP_bad {b : List UInt8} {c : Three} {es : List Three} (h : (printP b c es).2 ≠ 0) : (printP b c es).1 = [] := by
  unfold printP at h ⊢
  split at h
  · rename_i h1; rw [if_pos h1]
  · rename_i h1
    split at h
    · rename_i h2; rw [if_neg h1, if_pos h2]
    · simp at h

theorem printP_full {b : List UInt8} {c : Three} {es : List Three} (hc : Num3 c) (hes : ∀ e ∈ es, Num3 e) : (printP b c es).2 = 0 ∨ (printP b c es).2 = 3 := by
  unfold printP
  rw [badN_num.2 hc, badE_num.2 hes]
  simp only [Bool.or_false, Bool.false_eq_true, if_false]
  split
  · exact .inr rfl
  · exact .inl rfl

/-- WHAT IS PRINTED IS READ AGAIN. -/
theorem outP_print {b : List UInt8} {c : Three} {es : List Three} {t : ByteArray} (ht : t.toList = (printP b c es).1) (h : (printP b c es).2 = 0) : outP t = (b, c, es, 0, 0) := by
  obtain ⟨hc, hes, he, hl⟩ := printP_ok h
  have hsz : t.size ≤ 131072 := by rw [← size_toList, ht]; exact hl
  unfold outP
  rw [if_neg (by omega), ht, he]
  have := run_print b c es [] 1 St.zero hc hes
  rw [List.append_nil] at this
  unfold parseP
  rw [this]
  rfl

/-- .. and two texts, one behind the other. -/
theorem outP_joins {a b : List UInt8} {c d : Three} {es fs : List Three} {t : ByteArray} (ht : t.toList = (printP a c es).1 ++ (printP b d fs).1) (h : (printP a c es).2 = 0) (h2 : (printP b d fs).2 = 0) (hsz : t.size ≤ 131072) : outP t = (a ++ b, d, es ++ fs, 0, 0) := by
  obtain ⟨hc, hes, he, _⟩ := printP_ok h
  obtain ⟨hd, hfs, hf, _⟩ := printP_ok h2
  unfold outP
  rw [if_neg (by omega), ht, he, hf]
  unfold parseP
  rw [run_print a c es _ 1 St.zero hc hes]
  have := run_print b d fs [] (1 + 2 + es.length) ⟨St.zero.b ++ a, c, St.zero.es ++ es⟩ hd hfs
  rw [List.append_nil] at this
  rw [this]
  rfl

theorem numbersP_in {ws : List (List UInt8)} {n : Three} (h : numbersP ws = some n) : Num3 n := by
  unfold numbersP at h
  split at h
  · rename_i a b c
    cases ha : numP a with
    | none => rw [ha] at h; cases h
    | some x =>
      cases hb : numP b with
      | none => rw [ha, hb] at h; cases h
      | some y =>
        cases hc : numP c with
        | none => rw [ha, hb, hc] at h; cases h
        | some z =>
          rw [ha, hb, hc] at h
          simp at h; subst h
          exact ⟨numP_in ha, numP_in hb, numP_in hc⟩
  · cases h

theorem lineP_num {st st' : St} {l : List UInt8} (h : lineP st l = some st') (h1 : Num3 st.c) (h2 : ∀ e ∈ st.es, Num3 e) : Num3 st'.c ∧ ∀ e ∈ st'.es, Num3 e := by
  unfold lineP at h
  split at h
  · cases h
  · split at h
    · cases hq : bytesP (List.getD ‹List (List UInt8)› 0 []) with
      | none => rw [hq] at h; cases h
      | some x => rw [hq] at h; simp at h; subst h; exact ⟨h1, h2⟩
    · split at h
      · cases h
      · rename_i n hn
        have h3 := numbersP_in hn
        split at h
        · injection h with h; subst h; exact ⟨h3, h2⟩
        · split at h
          · injection h with h; subst h
            refine ⟨h1, fun e he => ?_⟩
            simp only [List.mem_append, List.mem_singleton] at he
            rcases he with he | rfl
            · exact h2 e he
            · exact h3
          · cases h

theorem runP_num : ∀ (ls : List (List UInt8)) (k : Nat) (st st' : St), runP k st ls = .inr st' → Num3 st.c → (∀ e ∈ st.es, Num3 e) → Num3 st'.c ∧ ∀ e ∈ st'.es, Num3 e
  | [], _, st, st', h, h1, h2 => by simp [runP] at h; subst h; exact ⟨h1, h2⟩
  | l :: r, k, st, st', h, h1, h2 => by
    simp only [runP] at h
    cases hq : lineP st l with
    | none => rw [hq] at h; cases h
    | some s2 =>
      rw [hq] at h
      obtain ⟨h3, h4⟩ := lineP_num hq h1 h2
      exact runP_num r _ _ _ h h3 h4

/-- What is read has numbers that may be printed. -/
theorem outP_num (s : ByteArray) : Num3 (outP s).2.1 ∧ ∀ e ∈ (outP s).2.2.1, Num3 e := by
  have hz : Num3 (0, 0, 0) := ⟨⟨by decide, by decide⟩, ⟨by decide, by decide⟩, ⟨by decide, by decide⟩⟩
  unfold outP
  split
  · exact ⟨hz, fun _ h => by cases h⟩
  · cases hp : parseP s.toList with
    | inl k => exact ⟨hz, fun _ h => by cases h⟩
    | inr st => exact runP_num _ _ _ _ hp hz (fun _ h => by cases h)

theorem outP_err {s : ByteArray} (h : (outP s).2.2.2.2 ≠ 0) : (outP s).1 = [] := by
  unfold outP at h ⊢
  split at h
  · rename_i h1; rw [if_pos h1]
  · rename_i h1
    rw [if_neg h1]
    cases hp : parseP s.toList with
    | inl k => rfl
    | inr st => rw [hp] at h; simp at h

end Go.Proofs.YtohgkfnbjfhniaaDoor
