/-
  Chapter 25's own line of numbers.
-/
import Derived.Test.YtohgkfnbjfhniaaDoorRh
namespace Go.Proofs.YtohgkfnbjfhniaaDoor
open Go.RowKit Sp

/-- How a line's text comes. -/
def LnOut (name : List UInt8) (ns : List Int) (e : Ending) : Prop := ∃ t : ByteArray, e = .returned (.tuple #[.string t, .bool (!badN ns)]) ∧ (badN ns = false → t.toList = name ++ numT ns ++ [10])

theorem badN_at {ns : List Int} {k : Nat} (hk : k < ns.length) (h : ns[k] < 0 ∨ 1099511627776 < ns[k]) : badN ns = true := by
  unfold badN
  rw [List.any_eq_true]
  exact ⟨ns[k], List.getElem_mem hk, by rcases h with h | h <;> simp [h]⟩

set_option maxHeartbeats 4000000 in
set_option maxRecDepth 100000 in
theorem refLine_any (name : ByteArray) (hn : name.size ≤ 1000) (L N cap : Nat) (ns : List Int) (hN : ns.length = N) (hN2 : N ≤ 1000) (w : World) (hc : ∀ j, (hj : j < ns.length) → w.cell? ⟨L, j, none⟩ = some (.int .i64 ns[j])) :
    Calls Tryd.prog 40 #[.string name, .slice (some ⟨L, 0, none⟩) N cap] w fun e w' => LnOut name.toList ns e ∧ w' = w := by
  have HC := Lib.hid hc
  have HNN := Lib.hid hN
  clear hc hN
  go_enter Tryd.func40, Tryd.ntmps40
  go_wp2_with fail
  go_loop [0, 6] (fun s i => ∃ (k : Nat) (t : ByteArray), k ≤ N ∧ s = .string t ∧ i = .int .i64 k ∧ Hid (t.toList = name.toList ++ numT (ns.take k)) ∧ Hid (badN (ns.take k) = false) ∧ (t.size : Int) ≤ 1000 + 22 * (k : Int)) (fun _ i => N - (intOf i).toNat)
  case atStart => exact ⟨0, name, by omega, rfl, rfl, Lib.hid (by simp [numT]), Lib.hid (by simp [badN]), by omega⟩
  case round =>
    obtain ⟨k, t, hk, rfl, rfl, HT, HB, hts⟩ := hrel
    by_cases hlt : k < N
    · have hkn : k < ns.length := by rw [HNN.out]; exact hlt
      have hc0 := HC.out k hkn
      have HBA := Lib.hid (fun h => badN_at hkn h)
      have HTK := Lib.hid (List.take_succ_eq_append_getElem hkn)
      obtain ⟨n, hnk⟩ : ∃ n, ns[k] = n := ⟨_, rfl⟩
      rw [hnk] at hc0
      have HNK := Lib.hid hnk
      have q1 : (k : Int) < (N : Int) := by omega
      have q2 : (0 : Int) ≤ (k : Int) := by omega
      have q3 : IntKind.i64.wrap ((k : Int) + 1) = (k : Int) + 1 := IntWalk.i64_in _ (by omega)
      clear hnk
      by_cases h1 : n < 0
      · have HBD := Lib.hid (HBA.out (.inl (by rw [HNK.out]; exact h1)))
        go_wp2_with fail
        go_ret2
        exact ⟨⟨⟨#[]⟩, by rw [HBD.out]; rfl, fun q => by rw [HBD.out] at q; cases q⟩, rfl⟩
      by_cases h2 : 1099511627776 < n
      · have HBD := Lib.hid (HBA.out (.inr (by rw [HNK.out]; exact h2)))
        go_wp2_with fail
        go_ret2
        exact ⟨⟨⟨#[]⟩, by rw [HBD.out]; rfl, fun q => by rw [HBD.out] at q; cases q⟩, rfl⟩
      obtain ⟨u, rfl⟩ : ∃ u : Nat, n = u := ⟨n.toNat, by omega⟩
      go_wp2_with fail
      refine (decimal_any u (by omega) _).mono ?_
      rintro e w1 ⟨⟨it, rfl, hit⟩, rfl⟩
      have z1 := dec_size hit (by omega)
      have HIT := Lib.hid hit
      clear hit
      go_wp2_with fail
      go_round
      case rel => exact ⟨k + 1, (t ++ ⟨#[32]⟩) ++ it, by omega, rfl, by go_num, Lib.hid (by
          rw [HTK.out, HNK.out, numT_snoc, ← List.append_assoc, ← HT.out]
          have e : Lib.itoa (u : Int) = Lib.decDigits u := by unfold Lib.itoa; rw [if_neg (by omega)]; rfl
          rw [e, ← HIT.out, Lib.toList_data, Lib.toList_data, Lib.toList_data, ByteArray.data_append, ByteArray.data_append]; simp), Lib.hid (by
          rw [HTK.out, HNK.out, badN_snoc, HB.out]; simp [h1, h2]), by
          rw [ByteArray.size_append, ByteArray.size_append]
          have h3 : (⟨#[32]⟩ : ByteArray).size = 1 := rfl
          omega⟩
      case measure => simp [intOf]; omega
    · obtain rfl : k = N := by omega
      have HTA := Lib.hid (show ns.take k = ns from List.take_of_length_le (by rw [HNN.out]; exact Nat.le_refl _))
      have HBF := Lib.hid (show badN ns = false by have := HB.out; rwa [HTA.out] at this)
      go_wp2_with fail
      go_ret2
      exact ⟨⟨t ++ ⟨#[10]⟩, by rw [HBF.out]; rfl, fun _ => by
        have h := HT.out
        rw [HTA.out] at h
        rw [← h, Lib.toList_data, Lib.toList_data, ByteArray.data_append]; simp⟩, rfl⟩

end Go.Proofs.YtohgkfnbjfhniaaDoor
