/-
  script's writer: a line of numbers.
-/
import Derived.Test.YtohgkfnbjfhniaaDoorBu
import Derived.Deep.RegionWith
import Derived.Lib.ItoaLen
namespace Go.Proofs.YtohgkfnbjfhniaaDoor
open Go.RowKit Sp

def numT (ns : List Int) : List UInt8 := ns.flatMap fun n => 32 :: Lib.itoa n
def badN (ns : List Int) : Bool := ns.any fun n => decide (n < 0) || decide (1099511627776 < n)

theorem BW.flag {w : World} {B tb L : Nat} {bs : List UInt8} {bad : Bool} (h : BW w B tb L bs bad) : w.cell? ⟨tb, 2, none⟩ = some (.bool bad) ∧ w.frozen? ⟨tb, 2, none⟩ = false := by
  obtain ⟨p, v, h1, h2, _⟩ := h
  have c := block_cell h2 2
  exact ⟨by simpa using c, block_frozen h2 2⟩

theorem BW.setBad {w : World} {B tb L : Nat} {bs : List UInt8} {bad : Bool} (h : BW w B tb L bs bad) (b : Bool) : BW (w.setCell ⟨tb, 2, none⟩ (.bool b)) B tb L bs b := by
  obtain ⟨p, v, h1, h2, h3, h4, h5, h6⟩ := h
  have fx := Fr.setCell (Fr.refl (fun k => k = tb) w) (p := ⟨tb, 2, none⟩) rfl (.bool b)
  exact ⟨p, v, h1, by rw [block_set h2]; rfl, Fr.own h3 fx (fun k e q => by have := (h3.lt k e).1; omega), h4, h5, h6⟩

theorem BW.tb {w : World} {B tb L : Nat} {bs : List UInt8} {bad : Bool} (h : BW w B tb L bs bad) : L ≠ tb ∧ tb < B ∧ tb < w.heap.size := by
  obtain ⟨p, v, h1, h2, h3, h4, h5, h6⟩ := h
  exact ⟨h6, h4, (Array.getElem?_eq_some_iff.1 h2).1⟩

theorem itoa_full (v : Int) (h0 : -9223372036854775808 ≤ v) (h1 : v ≤ 9223372036854775807) (w : World) (g : GW w) :
    Calls Tryd.prog 52 #[.int .i64 v] w fun e w' => ∃ it : ByteArray, e = .returned (.string it) ∧ Hid (it.toList = Lib.itoa v) ∧ (it.size : Int) ≤ 21 ∧ Below w.heap.size w w' := by
  refine (Tryd.strconv_Itoa v h0 h1 w g.tab).mono ?_
  rintro e w' ⟨rfl, k, os, rfl⟩
  have hl := Lib.itoa_length_le v h0 h1
  exact ⟨⟨(Lib.itoa v).toArray⟩, rfl, Lib.hid (toList_mk _), by simp [ByteArray.size]; omega, Lib.below_grow _ _ (Nat.le_refl _) _ _⟩

theorem GW.fr {w w' : World} {S : Nat → Prop} (h : GW w) (h9 : 9 ≤ w.heap.size) (f : Fr S w w') (hS : ∀ k, S k → 9 ≤ k) : GW w' :=
  GW.below (B := 9) h ⟨f.os, f.tape, f.output, f.size, fun i hi => f.block i (by omega) (fun q => by have := hS i q; omega)⟩ (Nat.le_refl _)

theorem numT_snoc (ns : List Int) (n : Int) : numT (ns ++ [n]) = numT ns ++ (32 :: Lib.itoa n) := by simp [numT]
theorem badN_snoc (ns : List Int) (n : Int) : badN (ns ++ [n]) = (badN ns || (decide (n < 0) || decide (1099511627776 < n))) := by simp [badN]

theorem numT_length : ∀ (ns : List Int), (∀ n ∈ ns, -9223372036854775808 ≤ n ∧ n ≤ 9223372036854775807) → (numT ns).length ≤ 22 * ns.length
  | [], _ => by simp [numT]
  | n :: r, h => by
    have ih := numT_length r (fun m hm => h m (by simp [hm]))
    have := Lib.itoa_length_le n (h n (by simp)).1 (h n (by simp)).2
    have e : numT (n :: r) = (32 :: Lib.itoa n) ++ numT r := rfl
    rw [e]; simp; omega

set_option maxHeartbeats 4000000 in
set_option maxRecDepth 100000 in
theorem line_w (B tb L : Nat) (bs : List UInt8) (bad : Bool) (name : ByteArray) (ns : List Int) (N cap : Nat) (hN : ns.length = N) (hN3 : N ≤ 1000) (w : World) (g : GW w) (h9 : 9 ≤ tb) (h : BW w B tb L bs bad) (hB : B ≤ w.heap.size) (hL : L < w.heap.size)
    (hn : name.size ≤ 1000) (hl : bs.length ≤ 900000000000) (hr : ∀ n ∈ ns, -9223372036854775808 ≤ n ∧ n ≤ 9223372036854775807) (hc : ∀ j, (hj : j < ns.length) → w.cell? ⟨L, j, none⟩ = some (.int .i64 ns[j])) :
    Calls Tryd.prog 37 #[.pointer (some ⟨tb, 0, none⟩), .string name, .slice (some ⟨L, 0, none⟩) N cap] w fun e w' => e = .returned (.tuple #[]) ∧ BW w' B tb L (bs ++ name.toList ++ numT ns ++ [10]) (bad || badN ns) ∧ Fr (fun k => k = tb ∨ B ≤ k) w w' := by
  have HG := Lib.hid g
  have HC := Lib.hid hc
  have HR := Lib.hid hr
  have HNN := Lib.hid hN
  obtain ⟨hLt, htB, htl⟩ := h.tb
  have h9w : 9 ≤ w.heap.size := by omega
  have hS : ∀ k, (k = tb ∨ B ≤ k) → 9 ≤ k := fun k q => by omega
  clear g hc hr
  go_enter Tryd.func37, Tryd.ntmps37
  go_wp2_with fail
  refine (write_string B tb L bs bad name w h hB hL (by omega)).mono ?_
  rintro e w1 ⟨rfl, hb1, hL1, f1⟩
  have HB1 := Lib.hid hb1
  have HL1 := Lib.hid hL1
  have HF1 := Lib.hid f1
  have hs1 := f1.size
  clear hb1 hL1 f1 h
  go_wp2_with fail
  go_loopw [15] (fun i wr => ∃ k : Nat, k ≤ N ∧ i = .int .i64 k ∧ Hid (BW wr B tb L (bs ++ name.toList ++ numT (ns.take k)) (bad || badN (ns.take k))) ∧ Hid (wr.heap[L]? = w.heap[L]?) ∧ Hid (Fr (fun k => k = tb ∨ B ≤ k) w wr)) (fun i _ => N - (intOf i).toNat)
  case atStart => exact ⟨0, by omega, rfl, Lib.hid (by simpa [numT, badN] using HB1.out), HL1, HF1⟩
  case round =>
    obtain ⟨k, hk, rfl, HBW, HLK, HF⟩ := hrel
    have hsz := HF.out.size
    by_cases hlt : k < N
    · have hkn : k < ns.length := by rw [HNN.out]; exact hlt
      have hc0 := HC.out k hkn
      obtain ⟨n, hnk⟩ : ∃ n, ns[k] = n := ⟨_, rfl⟩
      rw [hnk] at hc0
      have hck : wr.cell? ⟨L, k, none⟩ = some (.int .i64 n) := by rw [World.cell?_of_block (w := w) (a := ⟨L, k, none⟩) HLK.out]; exact hc0
      have hrn := HR.out n (by rw [← hnk]; exact List.getElem_mem _)
      have htake : ns.take (k + 1) = ns.take k ++ [n] := by rw [List.take_succ_eq_append_getElem hkn, hnk]
      have HTK := Lib.hid htake
      have hlen : (numT (ns.take k)).length ≤ 22 * N := by
        have := numT_length (ns.take k) (fun m hm => HR.out m (List.mem_of_mem_take hm))
        rw [List.length_take] at this; omega
      clear hc0 hnk htake
      obtain ⟨cb, fb⟩ := HBW.out.flag
      obtain ⟨bd, hbd⟩ : ∃ b, (bad || badN (ns.take k)) = b := ⟨_, rfl⟩
      rw [hbd] at cb
      have HBD := Lib.hid hbd
      have q1 : (k : Int) < (N : Int) := by omega
      have q2 : (0 : Int) ≤ (k : Int) := by omega
      have q3 : IntKind.i64.wrap ((k : Int) + 1) = (k : Int) + 1 := IntWalk.i64_in _ (by omega)
      clear hbd
      obtain ⟨r, hrr⟩ : ∃ r : Bool, (bd || (decide (n < 0) || decide (1099511627776 < n))) = r := ⟨_, rfl⟩
      have HRR := Lib.hid hrr
      have HBN := Lib.hid (HBW.out.setBad r)
      have HFN := Lib.hid (Fr.setCell HF.out (p := ⟨tb, 2, none⟩) (.inl rfl) (.bool r))
      have HLN := Lib.hid (show (wr.setCell ⟨tb, 2, none⟩ (.bool r)).heap[L]? = w.heap[L]? from (Below.heap_setCell _ _ _ _ hLt).trans HLK.out)
      have hcase : (bd = true ∧ r = true) ∨ (bd = false ∧ n < 0 ∧ r = true) ∨ (bd = false ∧ ¬ n < 0 ∧ 1099511627776 < n ∧ r = true) ∨ (bd = false ∧ ¬ n < 0 ∧ ¬ 1099511627776 < n ∧ r = false) := by
        rw [← hrr]
        cases bd
        · by_cases a1 : n < 0
          · right; left; simp [a1]
          · by_cases a2 : 1099511627776 < n
            · right; right; left; simp [a1, a2]
            · right; right; right; simp [a1, a2]
        · left; simp
      clear hrr
      rcases hcase with ⟨e1, e2⟩ | ⟨e1, e3, e2⟩ | ⟨e1, e3, e4, e2⟩ | ⟨e1, e3, e4, e2⟩
      all_goals
        subst e1 e2
        go_wp2_with fail
        go_region_with (first
          | (go_at_call 52; refine (itoa_full n hrn.1 hrn.2 _ (HG.out.fr h9w (Fr.drew HFN.out) hS)).mono ?_; rintro e w5 ⟨it, rfl, HIT, hit, hb5⟩
             have BW5 := Lib.hid ((HBN.out.fr (Below.drew (Below.refl _ _))).fr hb5)
             have HF5 := Lib.hid ((Fr.drew HFN.out).trans ((Fr.of_below hb5).mono (fun k q => Or.inr (Nat.le_trans hB (Nat.le_trans (Fr.drew HFN.out).size q)))))
             have HL5 := Lib.hid ((hb5.block L (Nat.lt_of_lt_of_le hL (Fr.drew HFN.out).size)).trans HLN.out)
             clear hb5)
          | (go_at_call 36; refine (write_string B tb L _ _ _ w5 BW5.out (Nat.le_trans hB HF5.out.size) (Nat.lt_of_lt_of_le hL HF5.out.size) (by
               rw [List.length_append, List.length_append, size_toList, ByteArray.size_append]
               have h2 : (⟨#[32]⟩ : ByteArray).size = 1 := rfl
               omega)).mono ?_; rintro e w6 ⟨rfl, hb6, hL6, f6⟩
             have BW6 := Lib.hid hb6
             have HF6 := Lib.hid (HF5.out.trans (f6.mono (fun k q => q)))
             have HL6 := Lib.hid (hL6.trans HL5.out)
             clear hb6 hL6 f6))
        all_goals
          go_wp2_with fail
          go_roundw
          case rel => exact ⟨k + 1, by omega, by go_num, Lib.hid (by
            have h := BW6.out
            rw [HTK.out, numT_snoc, badN_snoc, ← Bool.or_assoc, HBD.out, HRR.out]
            have e : ((⟨#[32]⟩ : ByteArray) ++ it).toList = 32 :: Lib.itoa n := by
              rw [← HIT.out, Lib.toList_data, Lib.toList_data, ByteArray.data_append]; simp
            rw [e] at h
            simpa only [List.append_assoc] using h), HL6, HF6⟩
          case measure => simp [intOf]; omega
    · obtain rfl : k = N := by omega
      have hl10 : (bs ++ name.toList ++ numT (ns.take k)).length + 1 ≤ 1000000000000 := by
        have := numT_length (ns.take k) (fun m hm => HR.out m (List.mem_of_mem_take hm))
        rw [List.length_take] at this
        rw [List.length_append, List.length_append, size_toList]; omega
      have HTA := Lib.hid (show ns.take k = ns from List.take_of_length_le (by rw [HNN.out]; exact Nat.le_refl _))
      go_wp2_with fail
      refine (write_byte B tb L _ _ wr HBW.out (Nat.le_trans hB hsz) (Nat.lt_of_lt_of_le hL hsz) hl10).mono ?_
      rintro e w7 ⟨rfl, hb7, hL7, f7⟩
      have HB7 := Lib.hid hb7
      have HF7 := Lib.hid (HF.out.trans f7)
      clear hb7 hL7 f7
      go_wp2_with fail
      go_end0
      have h7 := HB7.out
      rw [HTA.out] at h7
      exact ⟨rfl, h7, HF7.out⟩

end Go.Proofs.YtohgkfnbjfhniaaDoor
