/-
  Collect: chapter 12's own insert.
-/
import Derived.Test.YtlmpmjhanpkcnaaGreatN29
import Derived.Test.YtlmpmjhanpkcnaaGreatN32
set_option linter.unusedVariables false
set_option linter.unusedSimpArgs false
namespace Go.Proofs.YtlmpmjhanpkcnaaGreat
open Go.RowKit Go.Maps

def insP (L : List Int) (n : Int) : List Int := L.takeWhile (fun x => decide (x < n)) ++ n :: L.dropWhile (fun x => decide (x < n))

theorem tw_at (L : List Int) (n : Int) : ∀ (k : Nat), k ≤ L.length → (∀ x ∈ L.take k, x < n) → (∀ h : k < L.length, ¬ L[k] < n) → L.takeWhile (fun x => decide (x < n)) = L.take k ∧ L.dropWhile (fun x => decide (x < n)) = L.drop k := by
  induction L with
  | nil => intro k hk _ _; simp
  | cons y r ih =>
    intro k hk h1 h2
    cases k with
    | zero =>
      have := h2 (by simp)
      simp only [List.getElem_cons_zero] at this
      rw [List.takeWhile_cons, List.dropWhile_cons]
      simp [this]
    | succ k =>
      have hy : y < n := h1 y (by simp)
      obtain ⟨e1, e2⟩ := ih k (by simpa using hk) (fun x hx => h1 x (by simp [hx])) (fun h => h2 (by simpa using h))
      rw [List.takeWhile_cons, List.dropWhile_cons]
      simp [hy, e1, e2]

theorem csI_one (l : List Int) : ∀ u ∈ csI l, u.oneCell' = true := by
  intro u hu
  unfold csI at hu
  obtain ⟨x, _, rfl⟩ := List.mem_map.1 hu
  rfl

theorem one_int (n : Int) : ∀ u ∈ [Value.int .i64 n], u.oneCell' = true := by
  intro u hu
  simp at hu
  subst hu
  rfl

theorem reads_int1 {w : World} {b B : Nat} {n : Int} (h : w.heap[b]? = some (.cells #[.int .i64 n] 3 (0, 0))) (hb : b < B) : Reads w B 1 (some ⟨b, 0, none⟩) 1 [.int .i64 n] := by
  refine ⟨rfl, fun _ => ⟨_, rfl, hb, fun j u hj => ?_⟩⟩
  have : j = 0 := by
    have := (List.getElem?_eq_some_iff.1 hj).1
    simpa using this
  subst this
  simp at hj
  subst hj
  have := cell_of h 0
  simpa [Addr.add] using this

theorem ins_own {w : World} {base base' : Nat} {v : Value} {L : List Int} {n : Int} {k : Nat} (h : w.ownsRow base 3 1 v (k + 1 + (L.length - k)) (csI (L.take k) ++ [.int .i64 n] ++ csI (L.drop k))) (hk : k ≤ L.length ∧ insP L n = L.take k ++ n :: L.drop k) (hb : base' ≤ base) : w.ownsRow base' 3 1 v (L.length + 1) (csI (insP L n)) := by
  have e1 : k + 1 + (L.length - k) = L.length + 1 := by omega
  have e2 : csI (L.take k) ++ [Value.int .i64 n] ++ csI (L.drop k) = csI (insP L n) := by
    rw [hk.2]
    simp [csI]
  rw [e1, e2] at h
  exact own_low h hb

theorem ins_own0 {w : World} {base base' : Nat} {v : Value} {L : List Int} {n : Int} {k : Nat} (h : w.ownsRow base 3 1 v (k + 1 + 0) (csI (L.take k) ++ [.int .i64 n] ++ [])) (hk : k ≤ L.length ∧ insP L n = L.take k ++ n :: L.drop k) (h0 : k = L.length) (hb : base' ≤ base) : w.ownsRow base' 3 1 v (L.length + 1) (csI (insP L n)) := by
  refine ins_own (k := k) ?_ hk hb
  have e1 : L.length - k = 0 := by omega
  have e2 : csI (L.drop k) = [] := by rw [List.drop_of_length_le (by omega)]; rfl
  rw [e1, e2]
  exact h

theorem csI_take (L : List Int) (k : Nat) : csI (L.take k) = (csI L).take k := by unfold csI; rw [List.map_take]
theorem csI_drop (L : List Int) (k : Nat) : csI (L.drop k) = (csI L).drop k := by unfold csI; rw [List.map_drop]

theorem Reads.sub {w : World} {B g o n k : Nat} {xs : List Value} (h : Reads w B 1 (some ⟨g, o, none⟩) n xs) (hk : k ≤ n) : Reads w B 1 (some ⟨g, o, none⟩) k (xs.take k) ∧ (k < n → Reads w B 1 (some ⟨g, o + k, none⟩) (n - k) (xs.drop k)) ∧ (k = n → Reads w B 1 (some ⟨g, o + k, none⟩) (n - k) (xs.drop k)) := by
  obtain ⟨h1, h2⟩ := h
  have hl : xs.length = n := by simpa using h1
  have D : Reads w B 1 (some ⟨g, o + k, none⟩) (n - k) (xs.drop k) := by
    refine ⟨by rw [List.length_drop]; omega, fun hp => ?_⟩
    obtain ⟨ad, e, hb, hc⟩ := h2 (by omega)
    cases e
    refine ⟨_, rfl, hb, fun j u hj => ?_⟩
    rw [List.getElem?_drop] at hj
    have := hc (k + j) u hj
    unfold Addr.add at this ⊢
    split <;> split at this <;> simp_all <;> first | exact this | (rw [show o + k + j = o + (k + j) by omega]; exact this) | (rw [← this]; congr 1) | omega
  refine ⟨⟨by rw [List.length_take]; omega, fun hp => ?_⟩, fun _ => D, fun _ => D⟩
  obtain ⟨ad, e, hb, hc⟩ := h2 (by omega)
  refine ⟨ad, e, hb, fun j u hj => hc j u ?_⟩
  rw [List.getElem?_take] at hj
  split at hj
  · exact hj
  · cases hj

set_option maxHeartbeats 8000000 in
set_option maxRecDepth 100000 in
theorem insert_any (L : List Int) (n : Int) (lv : Value) (base : Nat) (w : World) (hL : w.ownsRow base 3 1 lv L.length (csI L)) (hl : L.length ≤ 100000) :
    Calls Tryz.prog 67 #[lv, .int .i64 n] w fun e w' => ∃ v, e = .returned v ∧ w'.ownsRow w.heap.size 3 1 v (L.length + 1) (csI (insP L n)) ∧ Below w.heap.size w w' := by
  obtain ⟨i0, hi, hz0, hz1, hz2⟩ := info_parts info3
  have HOW := Lib.hid hL
  rcases hL.2 with ⟨rfl, h0⟩ | ⟨g, cap, cur, rfl, hbg, hg, hnc, hcm, hcs, htake⟩
  · have e : L = [] := List.eq_nil_of_length_eq_zero h0
    subst e
    obtain ⟨wr, hwr⟩ : ∃ wr, wr = w := ⟨_, rfl⟩
    have HB := Lib.hid (show Below w.heap.size w wr by rw [hwr]; exact Below.refl _ _)
    rw [← hwr]
    obtain ⟨L, hLL⟩ : ∃ L : List Int, L = [] := ⟨_, rfl⟩
    obtain ⟨k, hkk⟩ : ∃ k : Nat, k = 0 := ⟨_, rfl⟩
    have HR1 := Lib.hid (show Reads wr wr.heap.size 1 none k (csI (L.take k)) by rw [hLL, hkk]; exact ⟨rfl, fun h => by omega⟩)
    have HR2 := Lib.hid (show Reads wr wr.heap.size 1 none (L.length - k) (csI (L.drop k)) by rw [hLL, hkk]; exact ⟨rfl, fun h => by simp at h⟩)
    have HK := Lib.hid (show k ≤ L.length ∧ insP L n = L.take k ++ n :: L.drop k by rw [hLL, hkk]; exact ⟨Nat.le_refl _, rfl⟩)
    have HM1 := Lib.hid (show 0 + k ≤ maxLen by unfold maxLen; omega)
    have HM2 := Lib.hid (show (0 + k) * 8 ≤ 140737488355328 by omega)
    have HM3 := Lib.hid (show k + 1 ≤ maxLen by unfold maxLen; omega)
    have HM4 := Lib.hid (show (k + 1) * 8 ≤ 140737488355328 by omega)
    have HM5 := Lib.hid (show k + 1 + (L.length - k) ≤ maxLen by unfold maxLen; rw [hLL]; simp; omega)
    have HM6 := Lib.hid (show (k + 1 + (L.length - k)) * 8 ≤ 140737488355328 by rw [hLL]; simp; omega)
    have HK0 := Lib.hid (show k = L.length by rw [hLL, hkk]; rfl)
    have T0 : (L.length : Int) = 0 := by rw [hLL]; rfl
    subst hwr
    subst hLL
    subst hkk
    have q1 : ¬ (0 : Int) < 0 := by omega
    go_enter Tryz.func67, Tryz.ntmps67
    go_wp2_with fail
    go_loopw [5] (fun i w2 => i = .int .i64 0 ∧ wr = w2) (fun _ _ => 0)
    case atStart => exact ⟨rfl, rfl⟩
    case round =>
    obtain ⟨rfl, rfl⟩ := hrel
    go_upto_region 4 with fail
    have HN1 := Lib.hid (show 0 + 0 ≤ maxLen by unfold maxLen; omega)
    have HN3 := Lib.hid (show 0 + 1 ≤ maxLen by unfold maxLen; omega)
    have HN5 := Lib.hid (show 1 + 0 ≤ maxLen by unfold maxLen; omega)
    clear HR1 HR2 HK HK0 T0 HM1 HM2 HM3 HM4 HM5 HM6 HOW
    have T := one_at wr (.cells #[.int .i64 n] 3)
    have HT1 := Lib.hid (reads_int1 T.1 (show wr.heap.size < wr.heap.size + 1 by omega))
    clear T
    go_region_law (first
      | (refine step_append_any _ (by rfl) (.const (.slice none 0 0)) (.tmp 22) 26 (by rfl) wr.heap.size 3 i0 _ 1 8 Tryz.underlying26 hi hz0 hz1 hz2 rfl (by omega) (.slice none 0 0) 0 [] (by rfl) ⟨by simp, .inl ⟨rfl, rfl⟩⟩ wr.heap.size none 0 _ [] (by rfl) ⟨rfl, fun h => by omega⟩ (fun u hu => by cases hu) HN1.out (by omega) (Nat.le_refl _) ?_
         intro v1 w1 hown1 hg1 _
         have HO1 := Lib.hid (show w1.ownsRow wr.heap.size 3 1 v1 0 [] from hown1)
         have HB1 := Lib.hid ((Below.refl wr.heap.size wr).drew.grown hg1 (Nat.le_refl _) (by simp [Value.ownBlock]))
         have HX1 := Lib.hid (reads_int1 (w := w1.alloc (.cells #[.int .i64 n] 3)) (one_at w1 (.cells #[.int .i64 n] 3)).1 (show w1.heap.size < w1.heap.size + 1 by omega))
         obtain ⟨b1, c1, rfl⟩ := own_slice HO1.out
         clear hown1 hg1)
      | (refine step_append_any _ (by rfl) (.const (.slice none 0 0)) (.tmp 22) 26 (by rfl) wr.heap.size 3 i0 _ 1 8 Tryz.underlying26 hi hz0 hz1 hz2 rfl (by omega) (.slice none 0 0) 0 [] (by rfl) ⟨by simp, .inl ⟨rfl, rfl⟩⟩ wr.heap.size none 0 _ [] (by rfl) ⟨rfl, fun h => by omega⟩ (fun u hu => by cases hu) HN1.out (by omega) (by simp) ?_
         intro v1 w1 hown1 hg1 _
         have HO1 := Lib.hid (show w1.ownsRow wr.heap.size 3 1 v1 0 [] from hown1)
         have HB1 := Lib.hid (((Below.refl wr.heap.size wr).alloc (Nat.le_refl _) (.cells #[.int .i64 n] 3)).drew.grown hg1 (by simp) (by simp [Value.ownBlock]))
         have HX1 := Lib.hid (HT1.out.drew.grown hg1 (by simp) (by simp [Value.ownBlock]))
         obtain ⟨b1, c1, rfl⟩ := own_slice HO1.out
         clear hown1 hg1)
      | (refine step_append_any _ (by rfl) (.tmp 23) (.tmp 25) 26 (by rfl) wr.heap.size 3 i0 _ 1 8 Tryz.underlying26 hi hz0 hz1 hz2 rfl (by omega) _ 0 [] (by rfl) (World.ownsRow.alloc HO1.out _) _ (some ⟨w1.heap.size, 0, none⟩) 1 1 [.int .i64 n] (by rfl) HX1.out (one_int _) HN3.out (by omega) (by have := HB1.out.size; simp; omega) ?_
         intro v2 w2 hown2 hg2 _
         have HO2 := Lib.hid (show w2.ownsRow wr.heap.size 3 1 v2 1 [.int .i64 n] from hown2)
         have HB2 := Lib.hid ((HB1.out.alloc HB1.out.size (.cells #[.int .i64 n] 3)).grown hg2 (by have := HB1.out.size; simp; omega) (fun q hq => (HO1.out.lt q hq).1))
         obtain ⟨b2, c2, rfl⟩ := own_slice HO2.out
         clear hown2 hg2)
      | (refine step_append_any _ (by rfl) (.tmp 23) (.tmp 25) 26 (by rfl) wr.heap.size 3 i0 _ 1 8 Tryz.underlying26 hi hz0 hz1 hz2 rfl (by omega) _ 0 [] (by rfl) HO1.out _ (some ⟨wr.heap.size, 0, none⟩) 1 1 [.int .i64 n] (by rfl) HX1.out (one_int _) HN3.out (by omega) HB1.out.size ?_
         intro v2 w2 hown2 hg2 _
         have HO2 := Lib.hid (show w2.ownsRow wr.heap.size 3 1 v2 1 [.int .i64 n] from hown2)
         have HB2 := Lib.hid (HB1.out.grown hg2 HB1.out.size (fun q hq => (HO1.out.lt q hq).1))
         obtain ⟨b2, c2, rfl⟩ := own_slice HO2.out
         clear hown2 hg2)
      | (refine step_append_any _ (by rfl) (.tmp 26) (.tmp 29) 26 (by rfl) wr.heap.size 3 i0 _ 1 8 Tryz.underlying26 hi hz0 hz1 hz2 rfl (by omega) _ 1 [.int .i64 n] (by rfl) HO2.out wr.heap.size _ 0 _ [] (by rfl) ⟨rfl, fun h => by omega⟩ (fun u hu => by cases hu) HN5.out (by omega) HB2.out.size ?_
         intro v3 w3 hown3 hg3 _
         have HO3 := Lib.hid hown3
         have HB3 := Lib.hid (HB2.out.grown hg3 HB2.out.size (fun q hq => (HO2.out.lt q hq).1))
         obtain ⟨b3, c3, rfl⟩ := own_slice hown3
         clear hown3 hg3))
    all_goals go_wp2_with fail
    all_goals go_ret
    all_goals exact ⟨_, rfl, HO3.out, HB3.out⟩
  · have HR := Lib.hid (Reads.of_own HOW.out)
    have hcell : ∀ j, (hj : j < L.length) → w.cell? ⟨g, j, none⟩ = some (.int .i64 L[j]) := fun j hj => by
      have := HOW.out.cells rfl j (.int .i64 L[j]) (by simp [csI, hj])
      have e : (⟨g, 0, none⟩ : Addr).add j = ⟨g, j, none⟩ := by unfold Addr.add; split <;> simp_all
      rw [e] at this
      exact this
    have HC := Lib.hid hcell
    have HCAP := Lib.hid hnc
    have HLL := Lib.hid hl
    have hn0 : True := trivial
    clear hcell hbg hg hcm hcs htake hL
    go_enter Tryz.func67, Tryz.ntmps67
    go_wp2_with fail
    go_loopw [5] (fun i wr => ∃ (k : Nat), k ≤ L.length ∧ i = .int .i64 k ∧ Hid (∀ x ∈ L.take k, x < n) ∧ Hid (Below w.heap.size w wr)) (fun i _ => L.length - (intOf i).toNat)
    case atStart => exact ⟨0, by omega, rfl, Lib.hid (by simp), Lib.hid (Below.refl _ _)⟩
    case round =>
    obtain ⟨k, hk, rfl, HA, HB⟩ := hrel
    have q0 : (0 : Int) ≤ (k : Int) := by omega
    by_cases hgo : ∃ h : k < L.length, L[k] < n
    · obtain ⟨hlt, hxn⟩ := hgo
      have q1 : (k : Int) < (L.length : Int) := by omega
      have k0 := (HB.out.cell (World.block_lt_of_cell? w _ (HC.out k hlt))).trans (HC.out k hlt)
      have HA2 := Lib.hid (show ∀ x ∈ L.take (k + 1), x < n by
        rw [List.take_succ_eq_append_getElem hlt]
        intro x hx
        rcases List.mem_append.1 hx with q | q
        · exact HA.out x q
        · simp at q; subst q; exact hxn)
      obtain ⟨p, hp⟩ : ∃ p, L[k] = p := ⟨_, rfl⟩
      rw [hp] at k0 hxn
      clear hp
      have QK := Lib.hid (show k + 1 ≤ L.length ∧ L.length - (k + 1) < L.length - k by omega)
      have q5 : IntKind.i64.wrap ((k : Int) + 1) = (k : Int) + 1 := IntWalk.i64_in _ (by omega)
      go_wp2_with fail
      go_roundw
      case rel => exact ⟨k + 1, QK.out.1, by go_num, HA2, HB⟩
      case measure => clear q5; have := QK.out.2; simp [intOf]; omega
    · have HK := Lib.hid (show k ≤ L.length ∧ insP L n = L.take k ++ n :: L.drop k by
        obtain ⟨e1, e2⟩ := tw_at L n k hk HA.out (fun h hx => hgo ⟨h, hx⟩)
        refine ⟨hk, ?_⟩
        unfold insP
        rw [e1, e2])
      have HR1 := Lib.hid (show Reads wr wr.heap.size 1 (some ⟨g, 0, none⟩) k (csI (L.take k)) by rw [csI_take]; exact (((HR.out.below HB.out).more HB.out.size).sub hk).1)
      have HR2 := Lib.hid (show Reads wr wr.heap.size 1 (some ⟨g, k, none⟩) (L.length - k) (csI (L.drop k)) by
        rw [csI_drop, show (⟨g, k, none⟩ : Addr) = ⟨g, 0 + k, none⟩ by rw [Nat.zero_add]]
        rcases Nat.lt_or_ge k L.length with q | q
        · exact (((HR.out.below HB.out).more HB.out.size).sub hk).2.1 q
        · exact (((HR.out.below HB.out).more HB.out.size).sub hk).2.2 (by omega))
      have HM1 := Lib.hid (show 0 + k ≤ maxLen by unfold maxLen; omega)
      have HM2 := Lib.hid (show (0 + k) * 8 ≤ 140737488355328 by omega)
      have HM3 := Lib.hid (show k + 1 ≤ maxLen by unfold maxLen; omega)
      have HM4 := Lib.hid (show (k + 1) * 8 ≤ 140737488355328 by omega)
      have HM5 := Lib.hid (show k + 1 + (L.length - k) ≤ maxLen by unfold maxLen; omega)
      have HM6 := Lib.hid (show (k + 1 + (L.length - k)) * 8 ≤ 140737488355328 by omega)
      have p1 : (k : Int) ≤ (L.length : Int) := by omega
      have p2 : (L.length : Int) ≤ (cap : Int) := by have := HCAP.out; omega
      have p3 : (k : Int) ≤ (cap : Int) := by omega
      by_cases hlt : k < L.length
      · have q1 : (k : Int) < (L.length : Int) := by omega
        have k0 := (HB.out.cell (World.block_lt_of_cell? w _ (HC.out k hlt))).trans (HC.out k hlt)
        have hxn : ¬ L[k] < n := fun h => hgo ⟨hlt, h⟩
        obtain ⟨p, hp⟩ : ∃ p, L[k] = p := ⟨_, rfl⟩
        rw [hp] at k0 hxn
        clear hp hgo
        have hck : ¬ cap = k := by have := HCAP.out; omega
        go_upto_region 4 with fail
        clear HC HA HOW HCAP hn0
        have T := one_at wr (.cells #[.int .i64 n] 3)
        have HT1 := Lib.hid (reads_int1 T.1 (show wr.heap.size < wr.heap.size + 1 by omega))
        clear T
        go_region_law (first
          | (refine step_append_any _ (by rfl) (.const (.slice none 0 0)) (.tmp 22) 26 (by rfl) wr.heap.size 3 i0 _ 1 8 Tryz.underlying26 hi hz0 hz1 hz2 rfl (by omega) (.slice none 0 0) 0 [] (by rfl) ⟨by simp, .inl ⟨rfl, rfl⟩⟩ wr.heap.size (some ⟨g, 0, none⟩) k cap (csI (L.take k)) (by rfl) HR1.out.drew (csI_one _) HM1.out HM2.out (Nat.le_refl _) ?_
             intro v1 w1 hown1 hg1 _
             have HO1 := Lib.hid (show w1.ownsRow wr.heap.size 3 1 v1 k (csI (L.take k)) by rw [Nat.zero_add, List.nil_append] at hown1; exact hown1)
             have HB1 := Lib.hid ((Below.refl wr.heap.size wr).drew.grown hg1 (Nat.le_refl _) (by simp [Value.ownBlock]))
             have HX1 := Lib.hid (reads_int1 (w := w1.alloc (.cells #[.int .i64 n] 3)) (one_at w1 (.cells #[.int .i64 n] 3)).1 (show w1.heap.size < w1.heap.size + 1 by omega))
             obtain ⟨b1, c1, rfl⟩ := own_slice HO1.out
             clear hown1 hg1)
          | (refine step_append_any _ (by rfl) (.const (.slice none 0 0)) (.tmp 22) 26 (by rfl) wr.heap.size 3 i0 _ 1 8 Tryz.underlying26 hi hz0 hz1 hz2 rfl (by omega) (.slice none 0 0) 0 [] (by rfl) ⟨by simp, .inl ⟨rfl, rfl⟩⟩ wr.heap.size (some ⟨g, 0, none⟩) k cap (csI (L.take k)) (by rfl) (HR1.out.alloc (Nat.le_refl _) _).drew (csI_one _) HM1.out HM2.out (by simp) ?_
             intro v1 w1 hown1 hg1 _
             have HO1 := Lib.hid (show w1.ownsRow wr.heap.size 3 1 v1 k (csI (L.take k)) by rw [Nat.zero_add, List.nil_append] at hown1; exact hown1)
             have HB1 := Lib.hid (((Below.refl wr.heap.size wr).alloc (Nat.le_refl _) (.cells #[.int .i64 n] 3)).drew.grown hg1 (by simp) (by simp [Value.ownBlock]))
             have HX1 := Lib.hid (HT1.out.drew.grown hg1 (by simp) (by simp [Value.ownBlock]))
             obtain ⟨b1, c1, rfl⟩ := own_slice HO1.out
             clear hown1 hg1)
          | (refine step_append_any _ (by rfl) (.tmp 23) (.tmp 25) 26 (by rfl) wr.heap.size 3 i0 _ 1 8 Tryz.underlying26 hi hz0 hz1 hz2 rfl (by omega) _ k (csI (L.take k)) (by rfl) (World.ownsRow.alloc HO1.out _) _ (some ⟨w1.heap.size, 0, none⟩) 1 1 [.int .i64 n] (by rfl) HX1.out (one_int _) HM3.out HM4.out (by have := HB1.out.size; simp; omega) ?_
             intro v2 w2 hown2 hg2 _
             have HO2 := Lib.hid hown2
             have HB2 := Lib.hid ((HB1.out.alloc HB1.out.size (.cells #[.int .i64 n] 3)).grown hg2 (by have := HB1.out.size; simp; omega) (fun q hq => (HO1.out.lt q hq).1))
             obtain ⟨b2, c2, rfl⟩ := own_slice hown2
             clear hown2 hg2)
          | (refine step_append_any _ (by rfl) (.tmp 23) (.tmp 25) 26 (by rfl) wr.heap.size 3 i0 _ 1 8 Tryz.underlying26 hi hz0 hz1 hz2 rfl (by omega) _ k (csI (L.take k)) (by rfl) HO1.out _ (some ⟨wr.heap.size, 0, none⟩) 1 1 [.int .i64 n] (by rfl) HX1.out (one_int _) HM3.out HM4.out HB1.out.size ?_
             intro v2 w2 hown2 hg2 _
             have HO2 := Lib.hid hown2
             have HB2 := Lib.hid (HB1.out.grown hg2 HB1.out.size (fun q hq => (HO1.out.lt q hq).1))
             obtain ⟨b2, c2, rfl⟩ := own_slice hown2
             clear hown2 hg2)
          | (refine step_append_any _ (by rfl) (.tmp 26) (.tmp 29) 26 (by rfl) wr.heap.size 3 i0 _ 1 8 Tryz.underlying26 hi hz0 hz1 hz2 rfl (by omega) _ (k + 1) (csI (L.take k) ++ [.int .i64 n]) (by rfl) HO2.out wr.heap.size _ (L.length - k) _ (csI (L.drop k)) (by rfl) (HR2.out.below HB2.out) (csI_one _) HM5.out HM6.out HB2.out.size ?_
             intro v3 w3 hown3 hg3 _
             have HO3 := Lib.hid hown3
             have HB3 := Lib.hid (HB2.out.grown hg3 HB2.out.size (fun q hq => (HO2.out.lt q hq).1))
             obtain ⟨b3, c3, rfl⟩ := own_slice hown3
             clear hown3 hg3))
        all_goals go_wp2_with fail
        all_goals go_ret
        all_goals exact ⟨_, rfl, ins_own HO3.out HK.out HB.out.size, HB.out.trans (HB3.out.mono HB.out.size)⟩
      · have hk2 : k = L.length := by omega
        have q1 : ¬ (k : Int) < (L.length : Int) := by omega
        have HR0 := Lib.hid (show ∀ (V : World) (A : Option Addr), Reads V wr.heap.size 1 A (L.length - k) (csI (L.drop k)) from fun V A => ⟨by rw [hk2]; simp [csI], fun h => by omega⟩)
        have HK0 := Lib.hid hk2
        clear hgo hk2
        go_upto_region 4 with fail
        by_cases hck : cap = k
        · have hck' := hck.symm
          subst hck'
          clear HC HA HOW HCAP hn0
          have T := one_at wr (.cells #[.int .i64 n] 3)
          have HT1 := Lib.hid (reads_int1 T.1 (show wr.heap.size < wr.heap.size + 1 by omega))
          clear T
          go_region_law (first
            | (refine step_append_any _ (by rfl) (.const (.slice none 0 0)) (.tmp 22) 26 (by rfl) wr.heap.size 3 i0 _ 1 8 Tryz.underlying26 hi hz0 hz1 hz2 rfl (by omega) (.slice none 0 0) 0 [] (by rfl) ⟨by simp, .inl ⟨rfl, rfl⟩⟩ wr.heap.size (some ⟨g, 0, none⟩) k k (csI (L.take k)) (by rfl) HR1.out.drew (csI_one _) HM1.out HM2.out (Nat.le_refl _) ?_
               intro v1 w1 hown1 hg1 _
               have HO1 := Lib.hid (show w1.ownsRow wr.heap.size 3 1 v1 k (csI (L.take k)) by rw [Nat.zero_add, List.nil_append] at hown1; exact hown1)
               have HB1 := Lib.hid ((Below.refl wr.heap.size wr).drew.grown hg1 (Nat.le_refl _) (by simp [Value.ownBlock]))
               have HX1 := Lib.hid (reads_int1 (w := w1.alloc (.cells #[.int .i64 n] 3)) (one_at w1 (.cells #[.int .i64 n] 3)).1 (show w1.heap.size < w1.heap.size + 1 by omega))
               obtain ⟨b1, c1, rfl⟩ := own_slice HO1.out
               clear hown1 hg1)
            | (refine step_append_any _ (by rfl) (.const (.slice none 0 0)) (.tmp 22) 26 (by rfl) wr.heap.size 3 i0 _ 1 8 Tryz.underlying26 hi hz0 hz1 hz2 rfl (by omega) (.slice none 0 0) 0 [] (by rfl) ⟨by simp, .inl ⟨rfl, rfl⟩⟩ wr.heap.size (some ⟨g, 0, none⟩) k k (csI (L.take k)) (by rfl) (HR1.out.alloc (Nat.le_refl _) _).drew (csI_one _) HM1.out HM2.out (by simp) ?_
               intro v1 w1 hown1 hg1 _
               have HO1 := Lib.hid (show w1.ownsRow wr.heap.size 3 1 v1 k (csI (L.take k)) by rw [Nat.zero_add, List.nil_append] at hown1; exact hown1)
               have HB1 := Lib.hid (((Below.refl wr.heap.size wr).alloc (Nat.le_refl _) (.cells #[.int .i64 n] 3)).drew.grown hg1 (by simp) (by simp [Value.ownBlock]))
               have HX1 := Lib.hid (HT1.out.drew.grown hg1 (by simp) (by simp [Value.ownBlock]))
               obtain ⟨b1, c1, rfl⟩ := own_slice HO1.out
               clear hown1 hg1)
            | (refine step_append_any _ (by rfl) (.tmp 23) (.tmp 25) 26 (by rfl) wr.heap.size 3 i0 _ 1 8 Tryz.underlying26 hi hz0 hz1 hz2 rfl (by omega) _ k (csI (L.take k)) (by rfl) (World.ownsRow.alloc HO1.out _) _ (some ⟨w1.heap.size, 0, none⟩) 1 1 [.int .i64 n] (by rfl) HX1.out (one_int _) HM3.out HM4.out (by have := HB1.out.size; simp; omega) ?_
               intro v2 w2 hown2 hg2 _
               have HO2 := Lib.hid hown2
               have HB2 := Lib.hid ((HB1.out.alloc HB1.out.size (.cells #[.int .i64 n] 3)).grown hg2 (by have := HB1.out.size; simp; omega) (fun q hq => (HO1.out.lt q hq).1))
               obtain ⟨b2, c2, rfl⟩ := own_slice hown2
               clear hown2 hg2)
            | (refine step_append_any _ (by rfl) (.tmp 23) (.tmp 25) 26 (by rfl) wr.heap.size 3 i0 _ 1 8 Tryz.underlying26 hi hz0 hz1 hz2 rfl (by omega) _ k (csI (L.take k)) (by rfl) HO1.out _ (some ⟨wr.heap.size, 0, none⟩) 1 1 [.int .i64 n] (by rfl) HX1.out (one_int _) HM3.out HM4.out HB1.out.size ?_
               intro v2 w2 hown2 hg2 _
               have HO2 := Lib.hid hown2
               have HB2 := Lib.hid (HB1.out.grown hg2 HB1.out.size (fun q hq => (HO1.out.lt q hq).1))
               obtain ⟨b2, c2, rfl⟩ := own_slice hown2
               clear hown2 hg2)
            | (refine step_append_any _ (by rfl) (.tmp 26) (.tmp 29) 26 (by rfl) wr.heap.size 3 i0 _ 1 8 Tryz.underlying26 hi hz0 hz1 hz2 rfl (by omega) _ (k + 1) (csI (L.take k) ++ [.int .i64 n]) (by rfl) HO2.out wr.heap.size _ 0 _ [] (by rfl) ⟨rfl, fun h => by omega⟩ (fun u hu => by cases hu) HM3.out HM4.out HB2.out.size ?_
               intro v3 w3 hown3 hg3 _
               have HO3 := Lib.hid hown3
               have HB3 := Lib.hid (HB2.out.grown hg3 HB2.out.size (fun q hq => (HO2.out.lt q hq).1))
               obtain ⟨b3, c3, rfl⟩ := own_slice hown3
               clear hown3 hg3))
          all_goals go_wp2_with fail
          all_goals go_ret
          all_goals exact ⟨_, rfl, ins_own0 HO3.out HK.out HK0.out HB.out.size, HB.out.trans (HB3.out.mono HB.out.size)⟩
        · clear HC HA HOW HCAP hn0
          -- SLOW
          have T := one_at wr (.cells #[.int .i64 n] 3)
          have HT1 := Lib.hid (reads_int1 T.1 (show wr.heap.size < wr.heap.size + 1 by omega))
          clear T
          go_region_law (first
            | (refine step_append_any _ (by rfl) (.const (.slice none 0 0)) (.tmp 22) 26 (by rfl) wr.heap.size 3 i0 _ 1 8 Tryz.underlying26 hi hz0 hz1 hz2 rfl (by omega) (.slice none 0 0) 0 [] (by rfl) ⟨by simp, .inl ⟨rfl, rfl⟩⟩ wr.heap.size (some ⟨g, 0, none⟩) k cap (csI (L.take k)) (by rfl) HR1.out.drew (csI_one _) HM1.out HM2.out (Nat.le_refl _) ?_
               intro v1 w1 hown1 hg1 _
               have HO1 := Lib.hid (show w1.ownsRow wr.heap.size 3 1 v1 k (csI (L.take k)) by rw [Nat.zero_add, List.nil_append] at hown1; exact hown1)
               have HB1 := Lib.hid ((Below.refl wr.heap.size wr).drew.grown hg1 (Nat.le_refl _) (by simp [Value.ownBlock]))
               have HX1 := Lib.hid (reads_int1 (w := w1.alloc (.cells #[.int .i64 n] 3)) (one_at w1 (.cells #[.int .i64 n] 3)).1 (show w1.heap.size < w1.heap.size + 1 by omega))
               obtain ⟨b1, c1, rfl⟩ := own_slice HO1.out
               clear hown1 hg1)
            | (refine step_append_any _ (by rfl) (.const (.slice none 0 0)) (.tmp 22) 26 (by rfl) wr.heap.size 3 i0 _ 1 8 Tryz.underlying26 hi hz0 hz1 hz2 rfl (by omega) (.slice none 0 0) 0 [] (by rfl) ⟨by simp, .inl ⟨rfl, rfl⟩⟩ wr.heap.size (some ⟨g, 0, none⟩) k cap (csI (L.take k)) (by rfl) (HR1.out.alloc (Nat.le_refl _) _).drew (csI_one _) HM1.out HM2.out (by simp) ?_
               intro v1 w1 hown1 hg1 _
               have HO1 := Lib.hid (show w1.ownsRow wr.heap.size 3 1 v1 k (csI (L.take k)) by rw [Nat.zero_add, List.nil_append] at hown1; exact hown1)
               have HB1 := Lib.hid (((Below.refl wr.heap.size wr).alloc (Nat.le_refl _) (.cells #[.int .i64 n] 3)).drew.grown hg1 (by simp) (by simp [Value.ownBlock]))
               have HX1 := Lib.hid (HT1.out.drew.grown hg1 (by simp) (by simp [Value.ownBlock]))
               obtain ⟨b1, c1, rfl⟩ := own_slice HO1.out
               clear hown1 hg1)
            | (refine step_append_any _ (by rfl) (.tmp 23) (.tmp 25) 26 (by rfl) wr.heap.size 3 i0 _ 1 8 Tryz.underlying26 hi hz0 hz1 hz2 rfl (by omega) _ k (csI (L.take k)) (by rfl) (World.ownsRow.alloc HO1.out _) _ (some ⟨w1.heap.size, 0, none⟩) 1 1 [.int .i64 n] (by rfl) HX1.out (one_int _) HM3.out HM4.out (by have := HB1.out.size; simp; omega) ?_
               intro v2 w2 hown2 hg2 _
               have HO2 := Lib.hid hown2
               have HB2 := Lib.hid ((HB1.out.alloc HB1.out.size (.cells #[.int .i64 n] 3)).grown hg2 (by have := HB1.out.size; simp; omega) (fun q hq => (HO1.out.lt q hq).1))
               obtain ⟨b2, c2, rfl⟩ := own_slice hown2
               clear hown2 hg2)
            | (refine step_append_any _ (by rfl) (.tmp 23) (.tmp 25) 26 (by rfl) wr.heap.size 3 i0 _ 1 8 Tryz.underlying26 hi hz0 hz1 hz2 rfl (by omega) _ k (csI (L.take k)) (by rfl) HO1.out _ (some ⟨wr.heap.size, 0, none⟩) 1 1 [.int .i64 n] (by rfl) HX1.out (one_int _) HM3.out HM4.out HB1.out.size ?_
               intro v2 w2 hown2 hg2 _
               have HO2 := Lib.hid hown2
               have HB2 := Lib.hid (HB1.out.grown hg2 HB1.out.size (fun q hq => (HO1.out.lt q hq).1))
               obtain ⟨b2, c2, rfl⟩ := own_slice hown2
               clear hown2 hg2)
            | (refine step_append_any _ (by rfl) (.tmp 26) (.tmp 29) 26 (by rfl) wr.heap.size 3 i0 _ 1 8 Tryz.underlying26 hi hz0 hz1 hz2 rfl (by omega) _ (k + 1) (csI (L.take k) ++ [.int .i64 n]) (by rfl) HO2.out wr.heap.size _ (L.length - k) _ (csI (L.drop k)) (by rfl) (HR0.out _ _) (csI_one _) HM5.out HM6.out HB2.out.size ?_
               intro v3 w3 hown3 hg3 _
               have HO3 := Lib.hid hown3
               have HB3 := Lib.hid (HB2.out.grown hg3 HB2.out.size (fun q hq => (HO2.out.lt q hq).1))
               obtain ⟨b3, c3, rfl⟩ := own_slice hown3
               clear hown3 hg3))
          all_goals go_wp2_with fail
          all_goals go_ret
          all_goals exact ⟨_, rfl, ins_own HO3.out HK.out HB.out.size, HB.out.trans (HB3.out.mono HB.out.size)⟩
          -- END

end Go.Proofs.YtlmpmjhanpkcnaaGreat
