/-
  ScriptParts: the law's walk.
-/
import Derived.Test.YtohgkfnbjfhniaaDoorAx
namespace Go.Proofs.YtohgkfnbjfhniaaDoor
open Go.RowKit Sp

theorem parseP_parts {s t : List UInt8} {k : Nat} (h : parseP s = .inl k) : parseP (s ++ 10 :: t) = .inl k := by
  obtain ⟨m, hm, _⟩ := linesP_append s t
  unfold parseP at h ⊢
  rw [hm, List.append_assoc, runP_append, h]

theorem parseP_ge {s : List UInt8} {k : Nat} (h : parseP s = .inl k) : 1 ≤ k := runP_ge _ _ _ _ h

theorem joined (s t : ByteArray) : (s ++ ⟨#[10]⟩ ++ t).toList = s.toList ++ 10 :: t.toList := by
  rw [Lib.toList_data, Lib.toList_data, Lib.toList_data]
  simp [ByteArray.data_append]

set_option maxRecDepth 100000 in
set_option maxHeartbeats 4000000 in
theorem parts_any (s t : ByteArray) (w : World) (g : GW w) (h20 : 9 ≤ w.heap.size) : Calls Tryd.prog 5 #[.string s, .string t] w fun e w' => e = .returned (.bool true) ∧ Below w.heap.size w w' := by
  have HG := Lib.hid g
  clear g
  by_cases hs : 10000 < s.size
  · have q1 : (10000 : Int) < (s.size : Int) := by omega
    go_enter Tryd.func5, Tryd.ntmps5
    go_wp2_with fail
    refine (awake_any _ HG.out h20).mono ?_
    rintro e w1 ⟨rfl, hb⟩
    go_wp2_with fail
    go_ret
    exact ⟨rfl, hb⟩
  by_cases ht : 10000 < t.size
  · have q1 : ¬ (10000 : Int) < (s.size : Int) := by omega
    have q2 : (10000 : Int) < (t.size : Int) := by omega
    go_enter Tryd.func5, Tryd.ntmps5
    go_wp2_with fail
    refine (awake_any _ HG.out h20).mono ?_
    rintro e w1 ⟨rfl, hb⟩
    go_wp2_with fail
    go_ret
    exact ⟨rfl, hb⟩
  have q1 : ¬ (10000 : Int) < (s.size : Int) := by omega
  have q2 : ¬ (10000 : Int) < (t.size : Int) := by omega
  have hsz : (s ++ ⟨#[10]⟩ ++ t).size ≤ 131072 := by
    rw [ByteArray.size_append, ByteArray.size_append]; have : (⟨#[10]⟩ : ByteArray).size = 1 := rfl; omega
  have HJ := Lib.hid (joined s t)
  go_enter Tryd.func5, Tryd.ntmps5
  go_wp2_with fail
  refine (parse_any s (by omega) w HG.out h20).mono ?_
  rintro e w1 ⟨h1, hb1⟩
  have hs1 := hb1.size
  cases hp : parseP s.toList with
  | inl k =>
    rw [hp] at h1
    obtain rfl := h1
    have HP2 := Lib.hid (show parseP (s ++ ⟨#[10]⟩ ++ t).toList = .inl k by rw [HJ.out]; exact parseP_parts hp)
    clear hp
    go_wp2_with fail
    have B1 := Lib.hid (hb1.alloc hs1 (.cells #[.int .i64 0, .int .i64 0, .int .i64 0] 38))
    clear hb1
    refine (parse_any _ hsz _ (HG.out.below B1.out h20) (by simp; omega)).mono ?_
    rintro e w2 ⟨h2, hb2⟩
    rw [HP2.out] at h2
    obtain rfl := h2
    have B2 := Lib.hid (B1.out.trans (hb2.mono (by simp; omega)))
    have hs2 := hb2.size
    simp at hs2
    clear hb2
    have G2 := Lib.hid ((HG.out.below B2.out h20).below ((Below.refl w2.heap.size w2).alloc (Nat.le_refl _) (.cells #[.int .i64 0, .int .i64 0, .int .i64 0] 38)) (by omega))
    by_cases hs0 : s.toList = []
    · have q3 : (s.toList == []) = true := by simpa using hs0
      have q4 : s.toList.isEmpty = true := by simpa using hs0
      clear hs0
      go_wp2_with fail
      refine (awake_any _ G2.out (by simp; omega)).mono ?_
      rintro e w3 ⟨rfl, hb3⟩
      have B3 := Lib.hid ((B2.out.alloc (by omega) (.cells #[.int .i64 0, .int .i64 0, .int .i64 0] 38)).trans (hb3.mono (by simp; omega)))
      clear hb3
      go_wp2_with fail
      go_ret
      exact ⟨rfl, B3.out⟩
    · have q3 : (s.toList == []) = false := by simpa using hs0
      have q4 : s.toList.isEmpty = false := by simpa using hs0
      obtain ⟨m, hm⟩ : ∃ m, s.size = m + 1 := ⟨s.size - 1, by
        have : s.toList.length ≠ 0 := fun h => hs0 (List.eq_nil_of_length_eq_zero h)
        rw [size_toList] at this; omega⟩
      have q5 : IntKind.i64.wrap ((s.size : Int) - 1) = (m : Int) := by rw [hm]; exact (IntWalk.i64_in _ (by omega)).trans (by omega)
      have q6 : (m : Int) < (s.size : Int) := by omega
      have q7 : (0 : Int) ≤ (m : Int) := by omega
      have hlt : m < s.size := by omega
      have HS0 := Lib.hid hs0
      have HM := Lib.hid hm
      clear hs0 hm
      obtain ⟨c, hc⟩ : ∃ c, s[m] = c := ⟨_, rfl⟩
      by_cases hc10 : c = 10
      · have q8 : ((c.toNat : Int) != 10) = false := by subst hc10; rfl
        clear hc10
        go_wp2_with fail
        refine (awake_any _ G2.out (by simp; omega)).mono ?_
        rintro e w3 ⟨rfl, hb3⟩
        have B3 := Lib.hid ((B2.out.alloc (by omega) (.cells #[.int .i64 0, .int .i64 0, .int .i64 0] 38)).trans (hb3.mono (by simp; omega)))
        clear hb3
        go_wp2_with fail
        go_ret
        exact ⟨rfl, B3.out⟩
      · have q8 : ((c.toNat : Int) != 10) = true := by
          simp; intro h; exact hc10 (UInt8.toNat_inj.1 (by simpa using (by omega : c.toNat = 10)))
        clear hc10
        go_wp2_with fail
        refine (awake_any _ G2.out (by simp; omega)).mono ?_
        rintro e w3 ⟨rfl, hb3⟩
        have B3 := Lib.hid ((B2.out.alloc (by omega) (.cells #[.int .i64 0, .int .i64 0, .int .i64 0] 38)).trans (hb3.mono (by simp; omega)))
        clear hb3
        go_wp2_with fail
        go_ret
        exact ⟨rfl, B3.out⟩
  | inr st =>
    rw [hp] at h1
    obtain ⟨vb, ve, rfl, ob, oe, dd⟩ := h1
    clear hp ob oe dd
    go_wp2_with fail
    have B1 := Lib.hid (hb1.alloc hs1 (.cells #[.int .i64 st.c.1, .int .i64 st.c.2.1, .int .i64 st.c.2.2] 38))
    clear hb1
    refine (parse_any _ hsz _ (HG.out.below B1.out h20) (by simp; omega)).mono ?_
    rintro e w2 ⟨h2, hb2⟩
    have B2 := Lib.hid (B1.out.trans (hb2.mono (by simp; omega)))
    have hs2 := hb2.size
    simp at hs2
    clear hb2
    cases hp2 : parseP (s ++ ⟨#[10]⟩ ++ t).toList with
    | inl k =>
      rw [hp2] at h2
      obtain rfl := h2
      have hk : (0 : Int) < (k : Int) := by have := parseP_ge hp2; omega
      have G2 := Lib.hid ((HG.out.below B2.out h20).below ((Below.refl w2.heap.size w2).alloc (Nat.le_refl _) (.cells #[.int .i64 0, .int .i64 0, .int .i64 0] 38)) (by omega))
      clear hp2
      go_wp2_with fail
      refine (awake_any _ G2.out (by simp; omega)).mono ?_
      rintro e w3 ⟨rfl, hb3⟩
      have B3 := Lib.hid ((B2.out.alloc (by omega) (.cells #[.int .i64 0, .int .i64 0, .int .i64 0] 38)).trans (hb3.mono (by simp; omega)))
      clear hb3
      go_wp2_with fail
      go_ret
      exact ⟨rfl, B3.out⟩
    | inr st2 =>
      rw [hp2] at h2
      obtain ⟨vb2, ve2, rfl, ob, oe, dd⟩ := h2
      have G2 := Lib.hid ((HG.out.below B2.out h20).below ((Below.refl w2.heap.size w2).alloc (Nat.le_refl _) (.cells #[.int .i64 st2.c.1, .int .i64 st2.c.2.1, .int .i64 st2.c.2.2] 38)) (by omega))
      clear hp2 ob oe dd
      go_wp2_with fail
      refine (awake_any _ G2.out (by simp; omega)).mono ?_
      rintro e w3 ⟨rfl, hb3⟩
      have B3 := Lib.hid ((B2.out.alloc (by omega) (.cells #[.int .i64 st2.c.1, .int .i64 st2.c.2.1, .int .i64 st2.c.2.2] 38)).trans (hb3.mono (by simp; omega)))
      clear hb3
      go_wp2_with fail
      go_ret
      exact ⟨rfl, B3.out⟩

end Go.Proofs.YtohgkfnbjfhniaaDoor
