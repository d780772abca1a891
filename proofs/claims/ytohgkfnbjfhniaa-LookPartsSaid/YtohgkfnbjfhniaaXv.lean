/-
  Were all handles met: look.handles' closure, and the searches over it.
-/
import Derived.Test.YtohgkfnbjfhniaaXu
namespace Go.Proofs.Ytohgkfnbjfhniaa
open Go.RowKit Go.Maps

set_option maxHeartbeats 4000000 in
set_option maxRecDepth 100000 in
theorem unmet_any (p b : Nat) (S : List Int) (a : Int) (w : World) (hp : w.heap[p]? = some (.cells #[.map (some b)] 81 (0, 0))) (hs : SetAt intFam w b S) (ha : In64 a) :
    Calls Try.prog 39 #[.int .i64 a, .pointer (some ⟨p, 0, none⟩)] w fun e w' => e = .returned (.bool (!decide (a ∈ S))) ∧ w' = w := by
  obtain ⟨c, hc⟩ : ∃ c : Bool, decide (a ∈ S) = c := ⟨_, rfl⟩
  have HC := Lib.hid hc
  have HIN := Lib.hid (show a ∈ S ↔ c = true by rw [← hc]; simp)
  have HS := Lib.hid hs
  have HA := Lib.hid ha
  have c0 := cell_of hp 0
  simp at c0
  rw [hc]
  clear hc hs hp ha
  go_enter Try.func39, Try.ntmps39
  go_wp2_with (at_lookup; refine wpList_look_set rfl (.tmp 4) (.tmp 5) 81 rfl K3 Try.underlying81 rfl HS.out a HA.out rfl c HIN.out ?_)
  go_ret
  exact ⟨rfl, rfl⟩

set_option maxHeartbeats 4000000 in
set_option maxRecDepth 100000 in
theorem index_met (p b : Nat) (S : List Int) (l : List Int) (lv : Value) (w : World) (h : Is w lv l) (hp : w.heap[p]? = some (.cells #[.map (some b)] 81 (0, 0))) (hs : SetAt intFam w b S) :
    Calls Try.prog 54 #[lv, .func (.func 39) #[] #[.pointer (some ⟨p, 0, none⟩)]] w fun e w' => IdxEnd (l.all fun x => decide (x ∈ S)) e ∧ w' = w := by
  obtain ⟨hl, hu, a, cap, rfl, _, _, hx⟩ := h
  have HX := Lib.hid hx
  have HU := Lib.hid hu
  have HP := Lib.hid hp
  have HS := Lib.hid hs
  have HLL := Lib.hid hl
  clear hx hu hp hs hl
  go_enter Try.func54, Try.ntmps54
  go_wp2_with fail
  go_loop [8] (fun i => ∃ (k : Nat), k ≤ l.length ∧ i = .int .i64 k ∧ Hid ((l.take k).all (fun x => decide (x ∈ S)) = true)) (fun i => l.length - (intOf i).toNat)
  case atStart => exact ⟨0, by omega, rfl, Lib.hid (by simp)⟩
  case round =>
    obtain ⟨j, hj, rfl, HR⟩ := hrel
    by_cases hlt' : j < l.length
    · have q4 : (j : Int) < (l.length : Int) := by omega
      have q5 : (0 : Int) ≤ (j : Int) := by omega
      obtain ⟨g, o, rfl, k0⟩ := HX.out j hlt'
      have hx := HU.out _ (List.getElem_mem hlt')
      have HRT := Lib.hid (fun hp : decide (l[j] ∈ S) = true => all_take (p := fun x => decide (x ∈ S)) hlt' HR.out hp)
      have HRN := Lib.hid (fun hf : decide (l[j] ∈ S) = false => all_false (p := fun x => decide (x ∈ S)) (List.getElem_mem hlt') hf)
      have Q5 := Lib.hid (show -9223372036854775808 ≤ (j : Int) + 1 ∧ (j : Int) + 1 ≤ 9223372036854775807 by have := HLL.out; unfold maxLen at this; omega)
      have QJ := Lib.hid (show j + 1 ≤ l.length ∧ l.length - (j + 1) < l.length - j by omega)
      obtain ⟨x, hxx⟩ : ∃ x, l[j]'hlt' = x := ⟨_, rfl⟩
      rw [hxx] at k0 hx HRT HRN
      have HXB := Lib.hid hx
      clear hxx hx
      go_wp2_with fail
      have HC := unmet_any p b S x w HP.out HS.out HXB.out
      with_reducible refine HC.mono ?_
      clear HC
      rintro e w5 ⟨rfl, rfl⟩
      cases hr : decide (x ∈ S) with
      | true =>
        have HRT := Lib.hid (HRT.out hr)
        clear HRN hr
        have p5 : IntKind.i64.wrap ((j : Int) + 1) = (j : Int) + 1 := IntWalk.i64_in _ Q5.out
        go_wp2_with fail
        go_round
        case rel => exact ⟨j + 1, QJ.out.1, by go_num, HRT⟩
        case measure => clear p5; have := QJ.out; simp [intOf]; omega
      | false =>
        have HRF := Lib.hid (HRN.out hr)
        clear HRN hr HRT
        go_wp2_with fail
        go_ret
        exact ⟨⟨j, rfl, .inr ⟨q5, HRF.out⟩⟩, rfl⟩
    · obtain rfl : j = l.length := by omega
      have q4 : ¬ ((l.length : Nat) : Int) < (l.length : Int) := by omega
      have HRE := Lib.hid (show (l.all fun x => decide (x ∈ S)) = true by have h := HR.out; rwa [List.take_length] at h)
      go_wp2_with fail
      go_ret
      exact ⟨⟨-1, rfl, .inl ⟨rfl, HRE.out⟩⟩, rfl⟩

set_option maxHeartbeats 4000000 in
set_option maxRecDepth 100000 in
theorem contains_met (p b : Nat) (S : List Int) (l : List Int) (lv : Value) (w : World) (h : Is w lv l) (hp : w.heap[p]? = some (.cells #[.map (some b)] 81 (0, 0))) (hs : SetAt intFam w b S) :
    Calls Try.prog 38 #[lv, .func (.func 39) #[] #[.pointer (some ⟨p, 0, none⟩)]] w fun e w' => e = .returned (.bool (!(l.all fun x => decide (x ∈ S)))) ∧ w' = w := by
  go_enter Try.func38, Try.ntmps38
  go_wp2_with fail
  refine (index_met p b S l lv w h hp hs).mono ?_
  rintro e w1 ⟨⟨i, rfl, hi⟩, rfl⟩
  rcases hi with ⟨rfl, hr⟩ | ⟨hi, hr⟩
  · have HR := Lib.hid hr
    clear hr
    go_wp2_with fail
    go_ret
    exact ⟨by rw [HR.out]; rfl, rfl⟩
  · have HR := Lib.hid hr
    clear hr
    go_wp2_with fail
    go_ret
    exact ⟨by rw [HR.out]; simp [hi], rfl⟩

end Go.Proofs.Ytohgkfnbjfhniaa
