/-
  Chapter 25's own digits.
-/
import Derived.Test.YtohgkfnbjfhniaaDoorPn
namespace Go.Proofs.YtohgkfnbjfhniaaDoor
open Go.RowKit Sp

set_option maxRecDepth 100000 in
set_option maxHeartbeats 4000000 in
theorem refHex_any (s : ByteArray) (hs : s.size ≤ 1000000000) (w : World) : Calls Tryd.prog 14 #[.string s] w fun e w' => e = .returned (.string ⟨(hexP s.toList).toArray⟩) ∧ Below w.heap.size w w' := by
  obtain ⟨i0, hi, hz0, hz1, hz2⟩ := info_parts info5
  by_cases h0 : s.toList = []
  · have q1 : (s.toList == []) = true := by simpa using h0
    have q2 : s.toList.isEmpty = true := by simpa using h0
    have HE := Lib.hid h0
    clear h0
    go_enter Tryd.func14, Tryd.ntmps14
    go_wp2_with fail
    go_ret
    exact ⟨by rw [HE.out]; rfl, Below.refl _ _⟩
  · have q1 : (s.toList == []) = false := by simpa using h0
    have q2 : s.toList.isEmpty = false := by simpa using h0
    have HE := Lib.hid h0
    clear h0
    go_enter Tryd.func14, Tryd.ntmps14
    go_wp2_with fail
    go_loopw [3, 4] (fun o i wr => ∃ (k : Nat) (out : List UInt8), k ≤ s.size ∧ i = .int .i64 k ∧ Hid (out = (s.toList.take k).flatMap fun b => [digitsH.getD (b.toNat / 16) 0, digitsH.getD (b.toNat % 16) 0]) ∧ Hid (out.length = 2 * k) ∧ Hid (wr.ownsRow w.heap.size 5 1 o out.length (cs8 out)) ∧ Hid (Below w.heap.size w wr)) (fun _ i _ => s.size - (intOf i).toNat)
    case atStart => exact ⟨0, [], by omega, rfl, Lib.hid (by simp), Lib.hid (by simp), Lib.hid (World.ownsRow_nil _ _ _ _), Lib.hid (Below.refl _ _)⟩
    case round =>
      obtain ⟨k, out, hk, rfl, HO, HL, HW, HB⟩ := hrel
      have hlen : out.length ≤ 2000000000 := by rw [HL.out]; omega
      by_cases hlt : k < s.size
      · obtain ⟨p, hp⟩ : ∃ p, s[k] = p := ⟨_, rfl⟩
        have HP := Lib.hid hp
        clear hp
        have q5 : (k : Int) < (s.size : Int) := by omega
        have q6 : (0 : Int) ≤ (k : Int) := by omega
        have q66 : IntKind.i64.wrap ((k : Int) + 1) = (k : Int) + 1 := IntWalk.i64_in _ (by omega)
        have hp2 : s[k].toNat < 256 := s[k].toNat_lt
        obtain ⟨x, hx⟩ : ∃ x : Nat, s[k].toNat / 16 = x := ⟨_, rfl⟩
        obtain ⟨y, hy⟩ : ∃ y : Nat, s[k].toNat % 16 = y := ⟨_, rfl⟩
        have x1 : (x : Int) < 16 := by omega
        have y1 : (y : Int) < 16 := by omega
        have x0 : (0 : Int) ≤ (x : Int) := by omega
        have y0 : (0 : Int) ≤ (y : Int) := by omega
        have qx : IntKind.u8.wrap ((s[k].toNat : Int) / 16) = (x : Int) := by
          rw [← hx]; simp [IntKind.wrap, IntKind.bits, IntKind.signed]; omega
        have qy : ((s[k].toNat : Int)).tmod 16 = (y : Int) := by
          rw [Int.tmod_eq_emod_of_nonneg (by omega)]; omega
        have HX := Lib.hid hx
        have HY := Lib.hid hy
        clear hx hy
        go_wp2_with fail
        go_region_law (first
          | (refine step_append_lies _ rfl (.tmp 13) (.tmp 24) 36 rfl w.heap.size 5 i0 (.int .u8 0) 1 1 Tryd.underlying36 hi hz0 hz1 hz2 rfl (by omega) u3 _ _ rfl ((HW.out.alloc _).drew) _ 2 2 _ rfl rfl (cell_two_drew _ _ (by first | rfl | (simp; done)) _ _ _) (u8_two _ _) (by omega) (by unfold maxLen; omega) (by omega) (by have := HB.out.size; simp; omega) _ rfl ?_; intro gg cap w4 hown4 hgrow4 hat4 hlt4
             have O4 := Lib.hid hown4
             have F4 := Lib.hid ((Fr.drew (Fr.alloc (Fr.refl (fun i => u3.ownBlock = some i) wr) _)).grown hgrow4 (fun k e _ => e))
             clear hown4 hgrow4 hat4 hlt4))
        all_goals
          go_wp2_with fail
          have hnew : [Value.int IntKind.u8 ((⟨#[48, 49, 50, 51, 52, 53, 54, 55, 56, 57, 97, 98, 99, 100, 101, 102]⟩ : ByteArray)[x]'(by simp [ByteArray.size]; omega)).toNat, Value.int IntKind.u8 ((⟨#[48, 49, 50, 51, 52, 53, 54, 55, 56, 57, 97, 98, 99, 100, 101, 102]⟩ : ByteArray)[y]'(by simp [ByteArray.size]; omega)).toNat] = cs8 [digitsH.getD x 0, digitsH.getD y 0] := by
            have h : ∀ z : Nat, (hz : z < 16) → (⟨#[48, 49, 50, 51, 52, 53, 54, 55, 56, 57, 97, 98, 99, 100, 101, 102]⟩ : ByteArray)[z]'(by simp [ByteArray.size]; omega) = digitsH.getD z 0 := by decide
            rw [h x (by omega), h y (by omega)]; rfl
          have o4 := O4.out
          rw [hnew, ← cs8_append] at o4
          have hk' : out ++ [digitsH.getD x 0, digitsH.getD y 0] = (s.toList.take (k + 1)).flatMap fun b => [digitsH.getD (b.toNat / 16) 0, digitsH.getD (b.toNat % 16) 0] := by
            obtain ⟨h', hg⟩ := get_toList hlt
            rw [List.take_succ_eq_append_getElem h', List.flatMap_append, ← HO.out, hg]
            simp [HX.out, HY.out]
          have hl' : (out ++ [digitsH.getD x 0, digitsH.getD y 0]).length = out.length + 2 := by simp
          go_roundw
          case rel => exact ⟨k + 1, _, by omega, by go_num, Lib.hid hk', Lib.hid (by rw [hl', HL.out]; omega), Lib.hid (by rw [hl']; exact o4), Lib.hid (Fr.below HB.out F4.out (fun i q => (HW.out.lt i q).1) HB.out.size)⟩
          case measure => simp [intOf]; omega
      · obtain rfl : k = s.size := by omega
        have hout := HO.out
        rw [List.take_of_length_le (by rw [size_toList]; omega)] at hout
        have HQ := Lib.hid (show hexP s.toList = out by unfold hexP; rw [if_neg HE.out, hout])
        have hcv := conv_own HW.out
        clear hout
        go_wp2_with fail
        go_ret
        exact ⟨by rw [HQ.out]; rfl, HB.out⟩

/-- How a number's text comes. -/
def DecOut (u : Nat) (e : Ending) : Prop := ∃ it : ByteArray, e = .returned (.string it) ∧ it.toList = Lib.decDigits u

theorem dec_size {it : ByteArray} {u : Nat} (h : it.toList = Lib.decDigits u) (hu : u ≤ 1099511627776) : (it.size : Int) ≤ 21 := by
  have h1 := Lib.itoa_length_le (u : Int) (by omega) (by omega)
  unfold Lib.itoa at h1
  rw [if_neg (by omega), show ((u : Int)).toNat = u from rfl, ← h, size_toList] at h1
  omega

set_option maxHeartbeats 2000000 in
theorem decimal_any : ∀ (u : Nat), u ≤ 1099511627776 → ∀ w : World, Calls Tryd.prog 54 #[.int .i64 (u : Int)] w fun e w' => DecOut u e ∧ w' = w := by
  intro u
  induction u using Nat.strongRecOn with
  | _ u ih =>
    intro hu w
    by_cases h : u < 10
    · have q1 : (u : Int) < 10 := by omega
      have q2 : (0 : Int) ≤ (u : Int) := by omega
      have q3 : IntKind.i64.wrap ((u : Int) + 1) = (u : Int) + 1 := IntWalk.i64_in _ (by omega)
      have q4 : (u : Int) + 1 ≤ 10 := by omega
      have q5 : (u : Int) ≤ (u : Int) + 1 := by omega
      have HD := Lib.hid (show ∀ v < 10, ((⟨#[48, 49, 50, 51, 52, 53, 54, 55, 56, 57]⟩ : ByteArray).extract v (v + 1)).toList = [UInt8.ofNat (48 + v)] by
        intro v hv
        rw [Lib.toList_data]
        revert v; decide)
      have HU := Lib.hid (show Lib.decDigits u = [UInt8.ofNat (48 + u)] by rw [Lib.decDigits, dif_pos h])
      go_enter Tryd.func54, Tryd.ntmps54
      go_wp2_with fail
      go_ret
      exact ⟨⟨_, rfl, by rw [HU.out]; exact HD.out u h⟩, rfl⟩
    · have q1 : ¬ (u : Int) < 10 := by omega
      have q2 : IntKind.i64.wrap ((u : Int) / 10) = ((u / 10 : Nat) : Int) := (IntWalk.i64_in _ (by omega)).trans (by omega)
      have q3 : ((u : Int)).tmod 10 = ((u % 10 : Nat) : Int) := by rw [Int.tmod_eq_emod_of_nonneg (by omega)]; omega
      have HU := Lib.hid (show Lib.decDigits u = Lib.decDigits (u / 10) ++ Lib.decDigits (u % 10) by
        rw [Lib.decDigits, dif_neg h]; congr 1; rw [Lib.decDigits, dif_pos (by omega)])
      go_enter Tryd.func54, Tryd.ntmps54
      go_wp2_with fail
      refine (ih (u / 10) (by omega) (by omega) _).mono ?_
      rintro e w1 ⟨⟨i1, rfl, h1⟩, rfl⟩
      have z1 := dec_size h1 (by omega)
      have H1 := Lib.hid h1
      clear h1
      go_wp2_with fail
      refine (ih (u % 10) (by omega) (by omega) _).mono ?_
      rintro e w2 ⟨⟨i2, rfl, h2⟩, rfl⟩
      have z2 := dec_size h2 (by omega)
      have H2 := Lib.hid h2
      clear h2
      go_wp2_with fail
      go_ret
      exact ⟨⟨i1 ++ i2, rfl, by rw [HU.out, ← H1.out, ← H2.out, Lib.toList_data, Lib.toList_data, Lib.toList_data, ByteArray.data_append]; simp⟩, rfl⟩

end Go.Proofs.YtohgkfnbjfhniaaDoor
