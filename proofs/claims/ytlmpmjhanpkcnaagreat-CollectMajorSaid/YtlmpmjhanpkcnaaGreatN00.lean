/-
  Words of a dump: tag, load, what fits, what is plain, a head's parts; where a word leads to.
  A head's parts; is an address in a region; where a word leads to.
  Where a word leads to; are regions apart; chapter 8's own words.
  A dump's regions in memory; so many words from an address on.
  May all words stand for terms?
  A dump; its regions.
  A dump as an argument; its regions: mem.Of.
-/
import Derived.Test.YtlmpmjhanpkcnaaGreatRows
import Derived.WalkKit
import Derived.WalkSpells
import Derived.WalkLawsBesides
import Derived.WalkSmall
import Derived.Deep.QuietTactic
import Derived.BigQuiet
import Derived.Lib.Hide
import Derived.IntWalk
import Derived.Below
import Derived.Laws.Bits64b
import Derived.Maps.AppendAt
import Derived.RangeFuncRecord
set_option linter.unusedVariables false
set_option linter.unusedSimpArgs false
namespace Go.Proofs.YtlmpmjhanpkcnaaGreat
open Go.RowKit

def tagW (w : Nat) : Nat := w % 8

/-- A word's load. -/
def loadW (w : Nat) : Int := if w % 8 = 0 then (if w < 9223372036854775808 then (w : Int) else (w : Int) - 18446744073709551616) / 8 else ((w / 8 : Nat) : Int)

def loW (t : Int) : Int := if t = 0 then -1152921504606846976 else 0
def hiW (t : Int) : Int := if t = 1 then 255 else if t = 2 then 63 else if t = 3 then 0 else 1152921504606846975

/-- May a tag have a load? -/
def fitsP (t l : Int) : Bool := decide (0 ≤ t ∧ t ≤ 7) && decide (loW t ≤ l ∧ l ≤ hiW t)

def plainP (w : Nat) : Bool := decide (tagW w ≤ 5) && fitsP (tagW w) (loadW w)

def headP (w : Nat) : Option (Int × Int) := if tagW w = 6 ∧ w / 8 % 8 ≤ 5 ∧ w / 64 ≤ 1048576 then some (((w / 8 % 8 : Nat) : Int), ((w / 64 : Nat) : Int)) else none

theorem and7 (w : Nat) (hw : w < 18446744073709551616) : bits .and .u64 (w : Int) 7 = ((w % 8 : Nat) : Int) := by
  have h := bits_and_u64_nat w 7 hw (by omega)
  have e : w &&& 7 = w % 8 := Nat.and_two_pow_sub_one_eq_mod w 3
  rw [e] at h
  exact h

theorem tag_any (w : Nat) (hw : w < 18446744073709551616) (W : World) : Calls Tryz.prog 82 #[.int .u64 w] W fun e W' => e = .returned (.int .i64 ((tagW w : Nat) : Int)) ∧ W' = W := by
  have h1 := and7 w hw
  have h2 : IntKind.i64.wrap ((w % 8 : Nat) : Int) = ((w % 8 : Nat) : Int) := IntWalk.i64_in _ (by omega)
  go_enter Tryz.func82, Tryz.ntmps82
  go_wp2_with fail
  go_ret
  exact ⟨by unfold tagW; simp, rfl⟩

theorem load_any (w : Nat) (hw : w < 18446744073709551616) (W : World) : Calls Tryz.prog 84 #[.int .u64 w] W fun e W' => e = .returned (.int .i64 (loadW w)) ∧ W' = W := by
  go_enter Tryz.func84, Tryz.ntmps84
  go_wp2_with fail
  refine (tag_any w hw _).mono ?_
  rintro e W1 ⟨rfl, rfl⟩
  by_cases h0 : tagW w = 0
  · have q : (((tagW w : Nat) : Int) == 0) = true := by simp [h0]
    obtain ⟨x, hx⟩ : ∃ x : Int, IntKind.i64.wrap (w : Int) = x := ⟨_, rfl⟩
    have hwx : (if w < 9223372036854775808 then (w : Int) else (w : Int) - 18446744073709551616) = x := by
      rw [← hx, IntKind.wrap_i64]
      split <;> omega
    have HX := Lib.hid (show loadW w = x / 8 by
      unfold loadW
      rw [if_pos (show w % 8 = 0 from h0), hwx])
    clear hwx
    go_wp2_with fail
    go_ret
    exact ⟨by rw [HX.out]; rfl, rfl⟩
  · have q : (((tagW w : Nat) : Int) == 0) = false := by simp [h0]
    have HX := Lib.hid (show loadW w = ((w / 8 : Nat) : Int) by unfold loadW; rw [if_neg (show ¬ w % 8 = 0 from h0)])
    have q2 : IntKind.i64.wrap ((w / 8 : Nat) : Int) = ((w / 8 : Nat) : Int) := IntWalk.i64_in _ (by omega)
    have q3 : IntKind.i64.wrap ((w : Int) / 8) = ((w / 8 : Nat) : Int) := by rw [← q2]; congr 1
    go_wp2_with fail
    go_ret
    exact ⟨by rw [HX.out]; rfl, rfl⟩

set_option maxHeartbeats 4000000 in
theorem fits_any (t l : Int) (W : World) : Calls Tryz.prog 100 #[.int .i64 t, .int .i64 l] W fun e W' => e = .returned (.bool (fitsP t l)) ∧ W' = W := by
  go_enter Tryz.func100, Tryz.ntmps100
  go_wp2_with fail
  all_goals
    go_ret
    refine ⟨?_, rfl⟩
    show Ending.returned (Value.bool _) = Ending.returned (Value.bool _)
    congr 1
    congr 1
    first
      | (simp_all [fitsP, loW, hiW]; done)
      | (simp_all [fitsP, loW, hiW]; omega)

theorem plain_any (w : Nat) (hw : w < 18446744073709551616) (W : World) : Calls Tryz.prog 83 #[.int .u64 w] W fun e W' => e = .returned (.bool (plainP w)) ∧ W' = W := by
  have h8 : tagW w ≤ 7 := by unfold tagW; omega
  go_enter Tryz.func83, Tryz.ntmps83
  go_wp2_with fail
  refine (tag_any w hw _).mono ?_
  rintro e W1 ⟨rfl, rfl⟩
  have q1 : (0 : Int) ≤ ((tagW w : Nat) : Int) := by omega
  by_cases h5 : tagW w ≤ 5
  · have q2 : ((tagW w : Nat) : Int) ≤ 5 := by omega
    go_wp2_with fail
    refine (load_any w hw _).mono ?_
    rintro e W2 ⟨rfl, rfl⟩
    go_wp2_with fail
    refine (fits_any _ _ _).mono ?_
    rintro e W3 ⟨rfl, rfl⟩
    go_wp2_with fail
    go_ret
    exact ⟨by simp [plainP, h5], rfl⟩
  · have q2 : ¬ ((tagW w : Nat) : Int) ≤ 5 := by omega
    go_wp2_with fail
    go_ret
    exact ⟨by simp [plainP, h5], rfl⟩

end Go.Proofs.YtlmpmjhanpkcnaaGreat

namespace Go.Proofs.YtlmpmjhanpkcnaaGreat
open Go.RowKit

theorem and7i (x : Nat) (hx : x < 9223372036854775808) : bits .and .i64 (x : Int) 7 = ((x % 8 : Nat) : Int) := by
  have h1 : (BitVec.ofInt 64 (x : Int)).toNat = x := by
    rw [BitVec.ofInt_natCast, BitVec.toNat_ofNat]; exact Nat.mod_eq_of_lt (by omega)
  have h2 : (BitVec.ofInt 64 7).toNat = 7 := by decide
  show IntKind.i64.wrap ((BitVec.ofInt 64 (x : Int) &&& BitVec.ofInt 64 7).toNat : Int) = _
  rw [BitVec.toNat_and, h1, h2, show x &&& 7 = x % 8 from Nat.and_two_pow_sub_one_eq_mod x 3, IntKind.wrap_i64]
  omega

def HeadEnd (w : Nat) (e : Ending) : Prop := e = .returned (.tuple #[.int .i64 ((headP w).getD (0, 0)).1, .int .i64 ((headP w).getD (0, 0)).2, .bool (headP w).isSome])

theorem parts_any (w : Nat) (hw : w < 18446744073709551616) (W : World) : Calls Tryz.prog 71 #[.int .u64 w] W fun e W' => HeadEnd w e ∧ W' = W := by
  by_cases h6 : tagW w = 6
  · have hl : loadW w = ((w / 8 : Nat) : Int) := by unfold loadW; unfold tagW at h6; rw [if_neg (by omega)]
    have h1 := and7i (w / 8) (by omega)
    have q0 : (((tagW w : Nat) : Int) != 6) = false := by simp [h6]
    have h3 : ((w / 8 : Nat) : Int) / 8 = ((w / 64 : Nat) : Int) := by omega
    obtain ⟨l, hl8⟩ : ∃ l, w / 8 = l := ⟨_, rfl⟩
    obtain ⟨kd, hkd⟩ : ∃ kd, w / 8 % 8 = kd := ⟨_, rfl⟩
    obtain ⟨sz, hsz⟩ : ∃ sz, w / 64 = sz := ⟨_, rfl⟩
    rw [hkd, hl8] at h1
    rw [hl8] at hl
    rw [hl8, hsz] at h3
    have HL := Lib.hid hl
    have hok : (kd ≤ 5 ∧ sz ≤ 1048576) ∨ ¬ (kd ≤ 5 ∧ sz ≤ 1048576) := by omega
    rcases hok with ⟨a1, a2⟩ | hno
    · have HP := Lib.hid (show headP w = some ((kd : Int), (sz : Int)) by unfold headP; rw [hkd, hsz, if_pos ⟨h6, a1, a2⟩])
      have q1 : ¬ (5 : Int) < (kd : Int) := by omega
      have q2 : ¬ (1048576 : Int) < (sz : Int) := by omega
      clear hkd hsz hl8 h6 hl
      go_enter Tryz.func71, Tryz.ntmps71
      go_wp2_with fail
      refine (load_any w hw _).mono ?_
      rintro e W1 ⟨rfl, rfl⟩
      rw [HL.out]
      go_wp2_with fail
      refine (tag_any w hw _).mono ?_
      rintro e W1 ⟨rfl, rfl⟩
      go_wp2_with fail
      go_ret3
      exact ⟨by unfold HeadEnd; rw [HP.out]; rfl, rfl⟩
    · have HP := Lib.hid (show headP w = none by unfold headP; rw [hkd, hsz, if_neg (fun q => hno ⟨q.2.1, q.2.2⟩)])
      have hsp : (5 : Int) < (kd : Int) ∨ (¬ (5 : Int) < (kd : Int) ∧ (1048576 : Int) < (sz : Int)) := by omega
      clear hkd hsz hl8 h6 hl hno
      rcases hsp with q1 | ⟨q1, q2⟩
      all_goals
        go_enter Tryz.func71, Tryz.ntmps71
        go_wp2_with fail
        refine (load_any w hw _).mono ?_
        rintro e W1 ⟨rfl, rfl⟩
        rw [HL.out]
        go_wp2_with fail
        refine (tag_any w hw _).mono ?_
        rintro e W1 ⟨rfl, rfl⟩
        go_wp2_with fail
        go_ret3
        exact ⟨by unfold HeadEnd; rw [HP.out]; rfl, rfl⟩
  · have q0 : (((tagW w : Nat) : Int) != 6) = true := by simp; omega
    have HP := Lib.hid (show headP w = none by unfold headP; rw [if_neg (fun q => h6 q.1)])
    obtain ⟨l, hl⟩ : ∃ l, loadW w = l := ⟨_, rfl⟩
    have HL := Lib.hid hl
    clear hl
    go_enter Tryz.func71, Tryz.ntmps71
    go_wp2_with fail
    refine (load_any w hw _).mono ?_
    rintro e W1 ⟨rfl, rfl⟩
    rw [HL.out]
    go_wp2_with fail
    refine (tag_any w hw _).mono ?_
    rintro e W1 ⟨rfl, rfl⟩
    go_wp2_with fail
    go_ret3
    exact ⟨by unfold HeadEnd; rw [HP.out]; rfl, rfl⟩

/-- Does an address lie in a region? -/
def inP (at_ : Int) (len : Nat) (a : Int) : Bool := decide (0 ≤ at_) && decide (at_ ≤ a) && decide (a - at_ < len)

theorem in_any (at_ a : Int) (wa : Option Addr) (len cap : Nat) (W : World) (h1 : -9223372036854775808 ≤ a ∧ a ≤ 9223372036854775807) : Calls Tryz.prog 48 #[.agg #[.int .i64 at_, .slice wa len cap], .int .i64 a] W fun e W' => e = .returned (.bool (inP at_ len a)) ∧ Below W.heap.size W W' := by
  have B1 := Lib.hid ((Below.refl W.heap.size W).alloc (Nat.le_refl _) (.cells #[.int .i64 at_, .slice wa len cap] 24))
  by_cases g0 : 0 ≤ at_
  · by_cases g1 : at_ ≤ a
    · have q : IntKind.i64.wrap (a - at_) = a - at_ := IntWalk.i64_in _ (by omega)
      go_enter Tryz.func48, Tryz.ntmps48
      go_wp2_with fail
      go_ret
      exact ⟨by simp [inP, g0, g1], B1.out⟩
    · go_enter Tryz.func48, Tryz.ntmps48
      go_wp2_with fail
      go_ret
      exact ⟨by simp [inP, g0]; omega, B1.out⟩
  · go_enter Tryz.func48, Tryz.ntmps48
    go_wp2_with fail
    go_ret
    exact ⟨by simp [inP]; omega, B1.out⟩

end Go.Proofs.YtlmpmjhanpkcnaaGreat

namespace Go.Proofs.YtlmpmjhanpkcnaaGreat
open Go.RowKit

/-- Where a word leads to: an address and a tag. -/
def toP (w : Nat) : Option (Int × Int) := if plainP w = true ∧ (tagW w = 4 ∨ tagW w = 5) then some (loadW w, ((tagW w : Nat) : Int)) else none

def ToEnd (w : Nat) (e : Ending) : Prop := e = .returned (.tuple #[.agg #[.int .i64 ((toP w).getD (0, 0)).1, .int .i64 ((toP w).getD (0, 0)).2], .bool (toP w).isSome])

theorem to_any (w : Nat) (hw : w < 18446744073709551616) (W : World) : Calls Tryz.prog 59 #[.int .u64 w] W fun e W' => ToEnd w e ∧ Below W.heap.size W W' := by
  have h7 : tagW w ≤ 7 := by unfold tagW; omega
  obtain ⟨t, ht⟩ : ∃ t, tagW w = t := ⟨_, rfl⟩
  obtain ⟨l, hl⟩ : ∃ l, loadW w = l := ⟨_, rfl⟩
  obtain ⟨p, hp⟩ : ∃ p, plainP w = p := ⟨_, rfl⟩
  have HT := Lib.hid ht
  have HL := Lib.hid hl
  have HP := Lib.hid hp
  by_cases hok : p = true ∧ (t = 4 ∨ t = 5)
  · have HTO := Lib.hid (show toP w = some (l, (t : Int)) by unfold toP; rw [hp, ht, hl, if_pos hok])
    obtain ⟨rfl, h45⟩ := hok
    clear ht hl hp
    rcases h45 with rfl | rfl
    all_goals
      go_enter Tryz.func59, Tryz.ntmps59
      go_wp2_with fail
      refine (tag_any w hw _).mono ?_
      rintro e W1 ⟨rfl, rfl⟩
      rw [HT.out]
      go_wp2_with fail
      refine (plain_any w hw _).mono ?_
      rintro e W1 ⟨rfl, rfl⟩
      rw [HP.out]
      go_wp2_with fail
      refine (load_any w hw _).mono ?_
      rintro e W1 ⟨rfl, rfl⟩
      rw [HL.out]
      go_wp2_with fail
      refine bodyPost_ret (v := .tuple #[.agg #[.int .i64 l, .int .i64 _], .bool true]) (by simp [results, Tryz.results59, go_sem]; rfl) rfl ⟨?_, (Below.refl _ _).alloc (Nat.le_refl _) _⟩
      unfold ToEnd
      rw [HTO.out]
      rfl
  · have HTO := Lib.hid (show toP w = none by unfold toP; rw [hp, ht, if_neg hok])
    have hsp : p = false ∨ (p = true ∧ t ≠ 4 ∧ t ≠ 5) := by
      cases p
      · exact .inl rfl
      · exact .inr ⟨rfl, fun q => hok ⟨rfl, .inl q⟩, fun q => hok ⟨rfl, .inr q⟩⟩
    clear ht hl hp hok
    rcases hsp with rfl | ⟨rfl, h4, h5⟩
    · go_enter Tryz.func59, Tryz.ntmps59
      go_wp2_with fail
      refine (tag_any w hw _).mono ?_
      rintro e W1 ⟨rfl, rfl⟩
      go_wp2_with fail
      refine (plain_any w hw _).mono ?_
      rintro e W1 ⟨rfl, rfl⟩
      rw [HP.out]
      go_wp2_with fail
      refine bodyPost_ret (v := .tuple #[.agg #[.int .i64 0, .int .i64 0], .bool false]) (by simp [results, Tryz.results59, go_sem]) rfl ⟨?_, (Below.refl _ _).alloc (Nat.le_refl _) _⟩
      unfold ToEnd
      rw [HTO.out]
      rfl
    · have q4 : ((t : Int) != 4) = true := by simp; omega
      have q5 : ((t : Int) != 5) = true := by simp; omega
      go_enter Tryz.func59, Tryz.ntmps59
      go_wp2_with fail
      refine (tag_any w hw _).mono ?_
      rintro e W1 ⟨rfl, rfl⟩
      rw [HT.out]
      go_wp2_with fail
      refine (plain_any w hw _).mono ?_
      rintro e W1 ⟨rfl, rfl⟩
      rw [HP.out]
      go_wp2_with fail
      refine bodyPost_ret (v := .tuple #[.agg #[.int .i64 0, .int .i64 0], .bool false]) (by simp [results, Tryz.results59, go_sem]) rfl ⟨?_, (Below.refl _ _).alloc (Nat.le_refl _) _⟩
      unfold ToEnd
      rw [HTO.out]
      rfl

/-- Have two regions no address in common? -/
def apartP (a1 : Int) (l1 : Nat) (a2 : Int) (l2 : Nat) : Bool := decide (l1 = 0) || decide (l2 = 0) || decide (a1 + l1 ≤ a2) || decide (a2 + l2 ≤ a1)

theorem apart_any (a1 a2 : Int) (p1 p2 : Option Addr) (l1 l2 c1 c2 : Nat) (W : World) (hb : l1 = 0 ∨ l2 = 0 ∨ ((0 ≤ a1 ∧ a1 ≤ 1125899906842624 ∧ l1 ≤ 1000000) ∧ (0 ≤ a2 ∧ a2 ≤ 1125899906842624 ∧ l2 ≤ 1000000))) :
    Calls Tryz.prog 78 #[.agg #[.int .i64 a1, .slice p1 l1 c1], .agg #[.int .i64 a2, .slice p2 l2 c2]] W fun e W' => e = .returned (.bool (apartP a1 l1 a2 l2)) ∧ Below W.heap.size W W' := by
  have B1 := Lib.hid (((Below.refl W.heap.size W).alloc (Nat.le_refl _) (.cells #[.int .i64 a1, .slice p1 l1 c1] 24)).alloc (by simp) (.cells #[.int .i64 a2, .slice p2 l2 c2] 24))
  by_cases g1 : l1 = 0
  · subst g1
    go_enter Tryz.func78, Tryz.ntmps78
    go_wp2_with fail
    go_ret
    exact ⟨by simp [apartP], B1.out⟩
  · have q1 : ((l1 : Int) == 0) = false := by simp; omega
    by_cases g2 : l2 = 0
    · subst g2
      go_enter Tryz.func78, Tryz.ntmps78
      go_wp2_with fail
      go_ret
      exact ⟨by simp [apartP], B1.out⟩
    · have q2 : ((l2 : Int) == 0) = false := by simp; omega
      have q3 : IntKind.i64.wrap (a1 + (l1 : Int)) = a1 + (l1 : Int) := IntWalk.i64_in _ (by omega)
      have q4 : IntKind.i64.wrap (a2 + (l2 : Int)) = a2 + (l2 : Int) := IntWalk.i64_in _ (by omega)
      by_cases g3 : a1 + (l1 : Int) ≤ a2
      · go_enter Tryz.func78, Tryz.ntmps78
        go_wp2_with fail
        go_ret
        exact ⟨by simp [apartP, g3], B1.out⟩
      · go_enter Tryz.func78, Tryz.ntmps78
        go_wp2_with fail
        go_ret
        have e : decide (a1 + (l1 : Int) ≤ a2) = false := decide_eq_false (by omega)
        exact ⟨by simp [apartP, g1, g2, e], B1.out⟩

end Go.Proofs.YtlmpmjhanpkcnaaGreat

namespace Go.Proofs.YtlmpmjhanpkcnaaGreat
open Go.RowKit

/-- A region: where it begins, its words. -/
abbrev Frg := Int × List Nat

/-- Words in memory. -/
def Ws (w : World) (v : Value) (l : List Nat) : Prop :=
  l.length ≤ maxLen ∧ (∀ x ∈ l, x < 18446744073709551616) ∧ ∃ a cap, v = .slice a l.length cap ∧ l.length ≤ cap ∧ cap ≤ maxLen ∧ ∀ j, (hj : j < l.length) → ∃ g o, a = some ⟨g, o, none⟩ ∧ w.cell? ⟨g, o + j, none⟩ = some (.int .u64 l[j])

theorem Ws.below {w w' : World} {v : Value} {l : List Nat} (h : Ws w v l) (hb : Below w.heap.size w w') : Ws w' v l := by
  obtain ⟨h1, h2, a, cap, rfl, h3, h4, hc⟩ := h
  refine ⟨h1, h2, a, cap, rfl, h3, h4, fun j hj => ?_⟩
  obtain ⟨g, o, rfl, k⟩ := hc j hj
  exact ⟨g, o, rfl, (hb.cell (World.block_lt_of_cell? w _ k)).trans k⟩

theorem Ws.nil (w : World) : Ws w (.slice none 0 0) [] :=
  ⟨by simp, (fun x hx => by cases hx), none, 0, rfl, by simp, by unfold maxLen; omega, fun j hj => by simp at hj⟩

theorem Ws.cut {w : World} {g o c : Nat} {l : List Nat} (h : Ws w (.slice (some ⟨g, o, none⟩) l.length c) l) {k n : Nat} (hkn : k + n ≤ l.length) : Ws w (.slice (some ⟨g, o + k, none⟩) n (c - k)) ((l.drop k).take n) := by
  obtain ⟨h1, h2, a, cap, hv, h3, h4, hc⟩ := h
  simp only [Value.slice.injEq, true_and] at hv
  obtain ⟨rfl, rfl⟩ := hv
  have hl : ((l.drop k).take n).length = n := by rw [List.length_take, List.length_drop]; omega
  refine ⟨by omega, fun x hx => h2 x (List.mem_of_mem_drop (List.mem_of_mem_take hx)), some ⟨g, o + k, none⟩, c - k, by rw [hl], by omega, by omega, fun j hj => ⟨g, o + k, rfl, ?_⟩⟩
  rw [hl] at hj
  obtain ⟨g', o', e, q⟩ := hc (k + j) (by omega)
  cases e
  rw [Nat.add_assoc, q]
  simp

/-- Regions in memory. -/
def RsAt (w : World) (v : Value) (m : List Frg) : Prop :=
  m.length ≤ maxLen ∧ ∃ a cap, v = .slice a m.length cap ∧ ∀ j, (hj : j < m.length) → ∃ g o wa wc, a = some ⟨g, o, none⟩ ∧ (-9223372036854775808 ≤ m[j].1 ∧ m[j].1 ≤ 9223372036854775807) ∧ w.cell? ⟨g, o + j * 2, none⟩ = some (.int .i64 m[j].1) ∧
    w.cell? ⟨g, o + j * 2 + 1, none⟩ = some (.slice wa m[j].2.length wc) ∧ Ws w (.slice wa m[j].2.length wc) m[j].2

theorem RsAt.below {w w' : World} {v : Value} {m : List Frg} (h : RsAt w v m) (hb : Below w.heap.size w w') : RsAt w' v m := by
  obtain ⟨h1, a, cap, rfl, hc⟩ := h
  refine ⟨h1, a, cap, rfl, fun j hj => ?_⟩
  obtain ⟨g, o, wa, wc, rfl, hi, k0, k1, hw⟩ := hc j hj
  exact ⟨g, o, wa, wc, rfl, hi, (hb.cell (World.block_lt_of_cell? w _ k0)).trans k0, (hb.cell (World.block_lt_of_cell? w _ k1)).trans k1, hw.below hb⟩

/-- So many words from an address on, of one region. -/
def cutP (f : Frg) (a n : Int) : Option (List Nat) := if n ≤ (f.2.length : Int) - (a - f.1) then some ((f.2.drop (a - f.1).toNat).take n.toNat) else none

def wordsP : List Frg → Int → Int → Option (List Nat)
  | [], _, _ => none
  | f :: r, a, n => if inP f.1 f.2.length a = true then cutP f a n else wordsP r a n

def WordsEnd (w' : World) (r : Option (List Nat)) (e : Ending) : Prop := ∃ v, e = .returned (.tuple #[v, .bool r.isSome]) ∧ Ws w' v (r.getD [])

theorem wordsP_drop {m : List Frg} {j : Nat} (h : j < m.length) (a n : Int) : wordsP (m.drop j) a n = if inP m[j].1 m[j].2.length a = true then cutP m[j] a n else wordsP (m.drop (j + 1)) a n := by
  rw [List.drop_eq_getElem_cons h, wordsP]

set_option maxHeartbeats 4000000 in
set_option maxRecDepth 100000 in
theorem words_any (m : List Frg) (mv : Value) (a n : Int) (w : World) (hm : RsAt w mv m) (ha : -9223372036854775808 ≤ a ∧ a ≤ 9223372036854775807) (hn : 0 ≤ n ∧ n ≤ 2000000) :
    Calls Tryz.prog 85 #[mv, .int .i64 a, .int .i64 n] w fun e w' => WordsEnd w' (wordsP m a n) e ∧ Below w.heap.size w w' := by
  have HM := Lib.hid hm
  obtain ⟨hl, ma, mcap, rfl, hc⟩ := hm
  have HC := Lib.hid hc
  unfold maxLen at hl
  clear hc
  go_enter Tryz.func85, Tryz.ntmps85
  go_wp2_with fail
  go_loopw [13] (fun i wr => ∃ (j : Nat), j ≤ m.length ∧ i = .int .i64 j ∧ Hid (wordsP m a n = wordsP (m.drop j) a n) ∧ Hid (Below w.heap.size w wr)) (fun i _ => m.length - (intOf i).toNat)
  case atStart => exact ⟨0, by omega, rfl, Lib.hid (by simp), Lib.hid (Below.refl _ _)⟩
  case round =>
    obtain ⟨j, hj, rfl, HW, HB⟩ := hrel
    by_cases hlt : j < m.length
    · obtain ⟨g, o, wa, wc, rfl, hi, k0, k1, hw⟩ := HC.out j hlt
      have l0 := (HB.out.cell (World.block_lt_of_cell? w _ k0)).trans k0
      have l1 := (HB.out.cell (World.block_lt_of_cell? w _ k1)).trans k1
      have HD := Lib.hid (wordsP_drop hlt a n)
      obtain ⟨⟨fa, fw⟩, hf⟩ : ∃ f, m[j] = f := ⟨_, rfl⟩
      rw [hf] at l0 l1 HD hi hw
      have HWS := Lib.hid hw
      have q4 : (j : Int) < (m.length : Int) := by omega
      have q5 : (0 : Int) ≤ (j : Int) := by omega
      have q6 : IntKind.i64.wrap ((j : Int) + 1) = (j : Int) + 1 := IntWalk.i64_in _ (by omega)
      clear k0 k1 hf hw
      go_wp2_with fail
      refine (in_any fa a wa fw.length wc _ ha).mono ?_
      rintro e w2 ⟨rfl, hb2⟩
      have e0 := hb2.cell (p := ⟨wr.heap.size, 0, none⟩) (by simp)
      have e1 := hb2.cell (p := ⟨wr.heap.size, 1, none⟩) (by simp)
      simp [go_sem] at e0 e1
      have HB2 := Lib.hid (HB.out.trans (((Below.refl wr.heap.size wr).alloc (Nat.le_refl _) (.cells #[.int .i64 fa, .slice wa fw.length wc] 24)).trans (hb2.mono (by simp)) |>.mono HB.out.size))
      clear hb2
      cases hin : inP fa fw.length a
      · have HN := Lib.hid (show wordsP m a n = wordsP (m.drop (j + 1)) a n by rw [HW.out, HD.out]; simp [hin])
        clear hin
        go_wp2_with fail
        go_roundw
        case rel => exact ⟨j + 1, by omega, by go_num, HN, HB2⟩
        case measure => simp [intOf]; omega
      · have HN := Lib.hid (show wordsP m a n = cutP (fa, fw) a n by rw [HW.out, HD.out]; simp [hin])
        obtain ⟨x1, x2, x3⟩ : 0 ≤ fa ∧ fa ≤ a ∧ a - fa < fw.length := by
          simp [inP] at hin
          omega
        obtain ⟨kk, hkk⟩ : ∃ kk : Nat, a - fa = (kk : Int) := ⟨(a - fa).toNat, by omega⟩
        have hfl := HWS.out.1
        unfold maxLen at hfl
        have q7 : IntKind.i64.wrap (a - fa) = (kk : Int) := by rw [hkk]; exact IntWalk.i64_in _ (by omega)
        have q8 : IntKind.i64.wrap ((fw.length : Int) - (kk : Int)) = (fw.length : Int) - (kk : Int) := IntWalk.i64_in _ (by omega)
        clear hin
        by_cases hbig : (fw.length : Int) - (kk : Int) < n
        · have HR := Lib.hid (show wordsP m a n = none by rw [HN.out]; unfold cutP; rw [hkk, if_neg (by simp only; omega)])
          go_wp2_with fail
          go_ret2
          exact ⟨⟨.slice none 0 0, by rw [HR.out]; rfl, by rw [HR.out]; exact Ws.nil _⟩, HB2.out⟩
        · obtain ⟨nn, rfl⟩ : ∃ nn : Nat, n = (nn : Int) := ⟨n.toNat, by omega⟩
          have q9 : IntKind.i64.wrap ((kk : Int) + (nn : Int)) = (kk : Int) + (nn : Int) := IntWalk.i64_in _ (by omega)
          have HWS2 := HWS.out
          obtain ⟨_, hu, wa', wc', hv, hcc, hcm, hcl⟩ := HWS2
          simp only [Value.slice.injEq, true_and] at hv
          obtain ⟨rfl, rfl⟩ := hv
          obtain ⟨gw, ow, rfl, _⟩ := hcl kk (by omega)
          have r1 : (kk : Int) + (nn : Int) ≤ (wc : Int) := by omega
          have r2 : kk < wc := by omega
          have r3 : ¬ wc = kk := by omega
          have r4 : ¬ wc - kk = 0 := by omega
          have r5 : ((kk : Int) + (nn : Int)).toNat - kk = nn := by omega
          have HCL := Lib.hid hcl
          have HU2 := Lib.hid hu
          have HR := Lib.hid (show wordsP m a nn = some ((fw.drop kk).take nn) by
            rw [HN.out]; unfold cutP; rw [hkk, if_pos (by simp only; omega)]; simp)
          clear hcl hu
          have HCUT := Lib.hid (Ws.cut (HWS.out.below HB2.out) (k := kk) (n := nn) (by omega))
          go_wp2_with fail
          go_ret2
          exact ⟨⟨_, by rw [HR.out]; rfl, by rw [HR.out]; exact HCUT.out⟩, HB2.out⟩
    · obtain rfl : j = m.length := by omega
      have q4 : ¬ ((m.length : Nat) : Int) < (m.length : Int) := by omega
      have HR := Lib.hid (show wordsP m a n = none by rw [HW.out]; simp [wordsP])
      go_wp2_with fail
      go_ret2
      exact ⟨⟨.slice none 0 0, by rw [HR.out]; rfl, by rw [HR.out]; exact Ws.nil _⟩, HB.out⟩

end Go.Proofs.YtlmpmjhanpkcnaaGreat

namespace Go.Proofs.YtlmpmjhanpkcnaaGreat
open Go.RowKit

theorem not_plain (x : Nat) (hx : x < 18446744073709551616) (w : World) : Calls Tryz.prog 108 #[.int .u64 x] w fun e w' => e = .returned (.bool (!plainP x)) ∧ w' = w := by
  go_enter Tryz.func108, Tryz.ntmps108
  go_wp2_with fail
  refine (plain_any x hx _).mono ?_
  rintro e w1 ⟨rfl, rfl⟩
  go_wp2_with fail
  go_ret
  exact ⟨rfl, rfl⟩

def allP (l : List Nat) : Bool := l.all plainP

def IdxEnd (b : Bool) (e : Ending) : Prop := ∃ i : Int, e = .returned (.int .i64 i) ∧ ((i = -1 ∧ b = true) ∨ (0 ≤ i ∧ b = false))

theorem allP_take {l : List Nat} {k : Nat} (h : k < l.length) : allP (l.take (k + 1)) = (allP (l.take k) && plainP l[k]) := by
  unfold allP
  rw [List.take_succ_eq_append_getElem h, List.all_append]
  simp only [List.all_cons, List.all_nil, Bool.and_true]

theorem allP_not {l : List Nat} {k : Nat} (h : k < l.length) (hf : plainP l[k] = false) : allP l = false := by
  unfold allP
  rw [List.all_eq_false]
  exact ⟨l[k], List.getElem_mem h, by simp [hf]⟩

set_option maxHeartbeats 4000000 in
set_option maxRecDepth 100000 in
theorem index_plain (l : List Nat) (lv : Value) (w : World) (h : Ws w lv l) : Calls Tryz.prog 106 #[lv, .func (.func 108) #[] #[]] w fun e w' => IdxEnd (allP l) e ∧ w' = w := by
  obtain ⟨hl, hu, a, cap, rfl, _, _, hc⟩ := h
  have HC := Lib.hid hc
  have HU := Lib.hid hu
  unfold maxLen at hl
  clear hc hu
  go_enter Tryz.func106, Tryz.ntmps106
  go_wp2_with fail
  go_loop [8] (fun i => ∃ (k : Nat), k ≤ l.length ∧ i = .int .i64 k ∧ Hid (allP (l.take k) = true)) (fun i => l.length - (intOf i).toNat)
  case atStart => exact ⟨0, by omega, rfl, Lib.hid (by simp [allP])⟩
  case round =>
    obtain ⟨j, hj, rfl, HR⟩ := hrel
    by_cases hlt' : j < l.length
    · have q4 : (j : Int) < (l.length : Int) := by omega
      have q5 : (0 : Int) ≤ (j : Int) := by omega
      have q6 : IntKind.i64.wrap ((j : Int) + 1) = (j : Int) + 1 := IntWalk.i64_in _ (by omega)
      obtain ⟨g, o, rfl, k0⟩ := HC.out j hlt'
      have hx := HU.out _ (List.getElem_mem hlt')
      have HRT := Lib.hid (allP_take hlt')
      have HRN := Lib.hid (fun hf => allP_not hlt' hf)
      obtain ⟨x, hxx⟩ : ∃ x, l[j] = x := ⟨_, rfl⟩
      rw [hxx] at k0 hx HRT HRN
      clear hxx
      go_wp2_with fail
      refine (not_plain x hx _).mono ?_
      rintro e w5 ⟨rfl, rfl⟩
      cases hr : plainP x with
      | true =>
        rw [hr] at HRT
        clear HRN hr
        go_wp2_with fail
        go_round
        case rel => exact ⟨j + 1, by omega, by go_num, Lib.hid (by rw [HRT.out, HR.out]; rfl)⟩
        case measure => simp [intOf]; omega
      | false =>
        have HRF := Lib.hid (HRN.out hr)
        clear HRN hr HRT
        go_wp2_with fail
        go_ret
        exact ⟨⟨j, rfl, .inr ⟨by omega, HRF.out⟩⟩, rfl⟩
    · obtain rfl : j = l.length := by omega
      have q4 : ¬ ((l.length : Nat) : Int) < (l.length : Int) := by omega
      have HRE := Lib.hid (show allP l = true by have h := HR.out; rwa [List.take_length] at h)
      go_wp2_with fail
      go_ret
      exact ⟨⟨-1, rfl, .inl ⟨rfl, HRE.out⟩⟩, rfl⟩

theorem contains_plain (l : List Nat) (lv : Value) (w : World) (h : Ws w lv l) : Calls Tryz.prog 79 #[lv, .func (.func 108) #[] #[]] w fun e w' => e = .returned (.bool (!allP l)) ∧ w' = w := by
  go_enter Tryz.func79, Tryz.ntmps79
  go_wp2_with fail
  refine (index_plain l lv w h).mono ?_
  rintro e w1 ⟨⟨i, rfl, hi⟩, rfl⟩
  rcases hi with ⟨rfl, hr⟩ | ⟨hi, hr⟩
  · have HR := Lib.hid hr
    clear hr
    go_wp2_with fail
    go_ret
    exact ⟨by rw [HR.out]; rfl, rfl⟩
  · have HR := Lib.hid hr
    clear hr
    go_wp2_with fail
    go_ret
    exact ⟨by rw [HR.out]; simp [hi], rfl⟩

theorem allplain_any (l : List Nat) (lv : Value) (w : World) (h : Ws w lv l) : Calls Tryz.prog 86 #[lv] w fun e w' => e = .returned (.bool (allP l)) ∧ w' = w := by
  go_enter Tryz.func86, Tryz.ntmps86
  go_wp2_with fail
  refine (contains_plain l lv w h).mono ?_
  rintro e w1 ⟨rfl, rfl⟩
  go_wp2_with fail
  go_ret
  exact ⟨by simp, rfl⟩

end Go.Proofs.YtlmpmjhanpkcnaaGreat

namespace Go.Proofs.YtlmpmjhanpkcnaaGreat
open Go.RowKit

theorem info24 : (Tryz.prog.info? 24).map (fun i => (i.zero, i.size, i.bytes)) = some (some (.agg #[.int .i64 0, .slice none 0 0]), 2, 32) := by kernel_rfl

theorem append_types (w : World) (ty : TypeId) (b : Option Addr) (n c : Nat) (x : Value) {i : TypeInfo} (hi : Tryz.prog.info? 24 = some i) : (Builtin.append_ #[55, 25] ty #[.slice b n c, x]).run Tryz.prog w = (Builtin.append_ #[55, 55] ty #[.slice b n c, x]).run Tryz.prog w := by
  simp [Builtin.append_, run_underlying Tryz.underlying55, run_underlying Tryz.underlying25, sizeOf, typeInfo, hi]

theorem own_slice {w : World} {base e size n : Nat} {v : Value} {xs : List Value} (h : w.ownsRow base e size v n xs) : ∃ b c, v = .slice b n c := by
  rcases h.2 with ⟨rfl, rfl⟩ | ⟨g, c, _, rfl, _⟩
  · exact ⟨none, 0, rfl⟩
  · exact ⟨_, c, rfl⟩

theorem run_append_empty {w : World} {base e size n : Nat} {v : Value} {xs : List Value} (hown : w.ownsRow base e size v n xs) (t ty : TypeId) {i : TypeInfo} (ht : Tryz.prog.underlying t = some (.slice e)) (hi : Tryz.prog.info? e = some i) (cap : Nat) :
    (Builtin.append_ #[t, t] ty #[v, .slice none 0 cap]).run Tryz.prog w = .ok v w := by
  rcases hown.2 with ⟨rfl, _⟩ | ⟨g, c, cur, rfl, hbg, hg, hnc, hcm, hcs, htake⟩
  · simp [Builtin.append_, run_underlying ht, sizeOf, typeInfo, hi, Builtin.lenOf, run_firstCells_none]
  · simp [Builtin.append_, run_underlying ht, sizeOf, typeInfo, hi, Builtin.lenOf, run_firstCells_none, hnc, Addr.add_lit, storeCells]

theorem grown_same (w : World) (row : Option Nat) : w.grownBy w row := ⟨rfl, rfl, rfl, Nat.le_refl _, fun _ _ _ => rfl⟩

/-- What a region's two cells hold. -/
def FrAt (w : World) (a b : Value) (f : Frg) : Prop := (-9223372036854775808 ≤ f.1 ∧ f.1 ≤ 9223372036854775807) ∧ a = .int .i64 f.1 ∧ ∃ wa wc, b = .slice wa f.2.length wc ∧ Ws w (.slice wa f.2.length wc) f.2

theorem FrAt.below {w w' : World} {a b : Value} {f : Frg} (h : FrAt w a b f) (hb : Below w.heap.size w w') : FrAt w' a b f := by
  obtain ⟨h1, h2, wa, wc, h3, h4⟩ := h
  exact ⟨h1, h2, wa, wc, h3, h4.below hb⟩

/-- A row's cells hold regions. -/
def Held (w : World) : List Value → List Frg → Prop
  | [], [] => True
  | a :: b :: r, f :: m => FrAt w a b f ∧ Held w r m
  | _, _ => False

theorem Held.len {w : World} : ∀ {xs : List Value} {m : List Frg}, Held w xs m → xs.length = m.length * 2
  | [], [], _ => rfl
  | _ :: _ :: r, _ :: m, h => by have := Held.len h.2; simp only [List.length_cons]; omega
  | [], _ :: _, h => by cases h
  | [_], _, h => by simp [Held] at h
  | _ :: _ :: _, [], h => by cases h

theorem Held.below {w w' : World} (hb : Below w.heap.size w w') : ∀ {xs : List Value} {m : List Frg}, Held w xs m → Held w' xs m
  | [], [], _ => trivial
  | _ :: _ :: _, _ :: _, h => ⟨h.1.below hb, Held.below hb h.2⟩
  | [], _ :: _, h => by cases h
  | [_], _, h => by simp [Held] at h
  | _ :: _ :: _, [], h => by cases h

theorem Held.one {w : World} : ∀ {xs : List Value} {m : List Frg}, Held w xs m → ∀ u ∈ xs, u.oneCell' = true
  | [], [], _ => fun _ h => by cases h
  | _ :: _ :: _, _ :: _, h => fun u hu => by
    obtain ⟨⟨_, rfl, wa, wc, rfl, _⟩, h2⟩ := h
    simp only [List.mem_cons] at hu
    rcases hu with rfl | rfl | hu
    · rfl
    · rfl
    · exact Held.one h2 u hu
  | [], _ :: _, h => by cases h
  | [_], _, h => by simp [Held] at h
  | _ :: _ :: _, [], h => by cases h

theorem Held.at {w : World} : ∀ {xs : List Value} {m : List Frg}, Held w xs m → ∀ j, (hj : j < m.length) → ∃ a b, xs[j * 2]? = some a ∧ xs[j * 2 + 1]? = some b ∧ FrAt w a b m[j]
  | [], [], _ => fun j hj => by simp at hj
  | a :: b :: r, f :: m, h => fun j hj => by
    cases j with
    | zero => exact ⟨a, b, rfl, rfl, h.1⟩
    | succ j =>
      obtain ⟨a', b', k1, k2, k3⟩ := Held.at h.2 j (by simpa using hj)
      refine ⟨a', b', ?_, ?_, by simpa using k3⟩
      · rw [show (j + 1) * 2 = j * 2 + 1 + 1 by omega]; simpa using k1
      · rw [show (j + 1) * 2 + 1 = j * 2 + 1 + 1 + 1 by omega]; simpa using k2
  | [], _ :: _, h => by cases h
  | [_], _, h => by simp [Held] at h
  | _ :: _ :: _, [], h => by cases h

/-- The cells of regions in memory. -/
theorem held_of {w : World} {g o : Nat} : ∀ (m : List Frg) (k : Nat), (∀ j, (hj : j < m.length) → ∃ wa wc, (-9223372036854775808 ≤ m[j].1 ∧ m[j].1 ≤ 9223372036854775807) ∧ w.cell? ⟨g, o + (k + j) * 2, none⟩ = some (.int .i64 m[j].1) ∧
    w.cell? ⟨g, o + (k + j) * 2 + 1, none⟩ = some (.slice wa m[j].2.length wc) ∧ Ws w (.slice wa m[j].2.length wc) m[j].2) →
    ∃ xs, Held w xs m ∧ ∀ j u, xs[j]? = some u → w.cell? ⟨g, o + k * 2 + j, none⟩ = some u
  | [], k, _ => ⟨[], trivial, fun j u h => by simp at h⟩
  | f :: m, k, h => by
    obtain ⟨xs, h1, h2⟩ := held_of (w := w) (g := g) (o := o) m (k + 1) (fun j hj => by
      have := h (j + 1) (by simpa using hj)
      rw [show k + (j + 1) = k + 1 + j by omega] at this
      simpa using this)
    obtain ⟨wa, wc, hi, k0, k1, hw⟩ := h 0 (by simp)
    simp only [Nat.add_zero, List.getElem_cons_zero] at hi k0 k1 hw
    refine ⟨.int .i64 f.1 :: .slice wa f.2.length wc :: xs, ⟨⟨hi, rfl, wa, wc, rfl, hw⟩, h1⟩, fun j u hj => ?_⟩
    match j with
    | 0 => simp only [List.getElem?_cons_zero, Option.some.injEq] at hj; rw [← hj]; exact k0
    | 1 => simp only [List.getElem?_cons_succ, List.getElem?_cons_zero, Option.some.injEq] at hj; rw [← hj]; exact k1
    | j + 2 =>
      simp only [List.getElem?_cons_succ] at hj
      have := h2 j u hj
      rw [show o + k * 2 + (j + 2) = o + (k + 1) * 2 + j by omega]
      exact this

theorem held_append {w : World} : ∀ {xs ys : List Value} {a b : List Frg}, Held w xs a → Held w ys b → Held w (xs ++ ys) (a ++ b)
  | [], _, [], _, _, h => h
  | _ :: _ :: _, _, _ :: _, _, h, k => ⟨h.1, held_append h.2 k⟩
  | [], _, _ :: _, _, h, _ => by cases h
  | [_], _, _, _, h, _ => by simp [Held] at h
  | _ :: _ :: _, _, [], _, h, _ => by cases h

theorem append_rs {W0 w : World} {base n : Nat} {v xv : Value} {xs : List Value} {m : List Frg} (ty : TypeId) (hown : w.ownsRow base 24 2 v n xs) (hm : RsAt W0 xv m) (hbl : Below W0.heap.size W0 w) (hle : n + m.length ≤ 1000000) (hbase : base ≤ w.heap.size) :
    ∃ v' w' ys, (Builtin.append_ #[55, 25] ty #[v, xv]).run Tryz.prog w = .ok v' w' ∧ Held W0 ys m ∧ w'.ownsRow base 24 2 v' (n + m.length) (xs ++ ys) ∧ w.grownBy w' v.ownBlock := by
  obtain ⟨i0, hi, hz0, hz1, hz2⟩ := info_parts info24
  obtain ⟨_, a, cap, rfl, hc⟩ := hm
  obtain ⟨vb, vc, hv⟩ := own_slice hown
  rw [hv, append_types _ _ _ _ _ _ hi, ← hv]
  cases a with
  | none =>
    have : m = [] := by
      cases m with
      | nil => rfl
      | cons x r => obtain ⟨_, _, _, _, q, _⟩ := hc 0 (by simp); cases q
    subst this
    exact ⟨v, w, [], run_append_empty hown 55 ty Tryz.underlying55 hi cap, trivial, by simpa using hown, grown_same _ _⟩
  | some ad =>
    by_cases hmm : m = []
    · subst hmm
      obtain ⟨v', w', h1, h2, h3, _, _⟩ := run_append_own_at (P := Tryz.prog) w base 55 ty 24 i0 (.agg #[.int .i64 0, .slice none 0 0]) 2 32 Tryz.underlying55 hi hz0 hz1 hz2 rfl (by decide) v n xs hown ad 0 cap [] rfl (fun j u hj => by simp at hj) (fun u hu => by cases hu) (by unfold maxLen; simp at hle; omega) (by simp at hle; omega) hbase
      exact ⟨v', w', [], h1, trivial, h2, h3⟩
    · have h0 : 0 < m.length := List.length_pos_iff.2 hmm
      obtain ⟨g, o, _, _, q, _⟩ := hc 0 h0
      cases q
      obtain ⟨ys, hh, hy⟩ := held_of (w := W0) (g := g) (o := o) m 0 (fun j hj => by
        obtain ⟨g', o', wa, wc, q, r1, r2, r3, r4⟩ := hc j hj
        cases q
        exact ⟨wa, wc, r1, by rw [Nat.zero_add]; exact r2, by rw [Nat.zero_add]; exact r3, r4⟩)
      obtain ⟨v', w', h1, h2, h3, _, _⟩ := run_append_own_at (P := Tryz.prog) w base 55 ty 24 i0 (.agg #[.int .i64 0, .slice none 0 0]) 2 32 Tryz.underlying55 hi hz0 hz1 hz2 rfl (by decide) v n xs hown ⟨g, o, none⟩ m.length cap ys hh.len (fun j u hj => by
        rw [Addr.add_lit]
        have := hy j u hj
        rw [Nat.zero_mul, Nat.add_zero] at this
        exact (hbl.cell (World.block_lt_of_cell? W0 _ this)).trans this) hh.one (by unfold maxLen; omega) (by omega) hbase
      exact ⟨v', w', ys, h1, hh, h2, h3⟩

theorem wpList_append_rs {w : World} {ops : Array Oper} {rest : List Oper} {o : Oper} {a : Act} {Q : Exit → Act → World → Prop} (hgd : o.guard = none) (sl x : Operand)
    (ho : o.op = .call { callee := .builtin .append, args := #[sl, x], argTypes := #[55, 25] })
    (base : Nat) (v : Value) (n : Nat) (xs : List Value) (hs : a.eval sl = v) (hown : w.ownsRow base 24 2 v n xs) (xv : Value) (hx : a.eval x = xv) (m : List Frg) (W0 : World) (hm : RsAt W0 xv m) (hbl : Below W0.heap.size W0 w)
    (hle : n + m.length ≤ 1000000) (hbase : base ≤ w.heap.size)
    (h : ∀ v' w' ys, Held W0 ys m → w'.ownsRow base 24 2 v' (n + m.length) (xs ++ ys) → w.grownBy w' v.ownBlock → wpList Tryz.prog ops Q rest (a.put o.dst v') w') : wpList Tryz.prog ops Q (o :: rest) a w := by
  refine wpList_plain hgd fun K hK => ?_
  obtain ⟨v', w', ys, hr, h1, h2, h3⟩ := append_rs o.type hown hm hbl hle hbase
  unfold Oper.wp execOp
  simp only [ho, resolve, invoke, builtin, Sem.run_bind, Sem.run_pure, Result.andThen_ok, List.map_toArray, List.map_cons, List.map_nil, hs, hx, hr]
  exact hK _ _ (h v' w' ys h1 h2 h3)

/-- A row that holds regions is regions in memory. -/
theorem rs_of_own {w : World} {base n : Nat} {v : Value} {xs : List Value} {m : List Frg} (hown : w.ownsRow base 24 2 v n xs) (hn : n = m.length) (hh : Held w xs m) (hpos : 0 < n) : RsAt w v m := by
  subst hn
  rcases hown.2 with ⟨_, h0⟩ | ⟨g, c, cur, rfl, hbg, hg, hnc, hcm, hcs, htake⟩
  · omega
  · refine ⟨by omega, some ⟨g, 0, none⟩, c, rfl, fun j hj => ?_⟩
    obtain ⟨a, b, k1, k2, hi, rfl, wa, wc, rfl, hw⟩ := hh.at j hj
    have hcell : ∀ k u, xs[k]? = some u → w.cell? ⟨g, 0 + k, none⟩ = some u := fun k u hk => by
      rw [← htake] at hk
      have hk' : cur[k]? = some u := by
        rw [List.getElem?_take] at hk
        split at hk
        · simpa using hk
        · cases hk
      simp [World.cell?, hg, hk']
    exact ⟨g, 0, wa, wc, rfl, hi, hcell _ _ k1, by rw [Nat.add_assoc]; exact hcell _ _ k2, hw⟩

end Go.Proofs.YtlmpmjhanpkcnaaGreat

namespace Go.Proofs.YtlmpmjhanpkcnaaGreat
open Go.RowKit

/-- Numbers in memory. -/
def Is (w : World) (v : Value) (l : List Int) : Prop :=
  l.length ≤ maxLen ∧ (∀ x ∈ l, -9223372036854775808 ≤ x ∧ x ≤ 9223372036854775807) ∧ ∃ a cap, v = .slice a l.length cap ∧ l.length ≤ cap ∧ cap ≤ maxLen ∧ ∀ j, (hj : j < l.length) → ∃ g o, a = some ⟨g, o, none⟩ ∧ w.cell? ⟨g, o + j, none⟩ = some (.int .i64 l[j])

theorem Is.below {w w' : World} {v : Value} {l : List Int} (h : Is w v l) (hb : Below w.heap.size w w') : Is w' v l := by
  obtain ⟨h1, h2, a, cap, rfl, h3, h4, hc⟩ := h
  refine ⟨h1, h2, a, cap, rfl, h3, h4, fun j hj => ?_⟩
  obtain ⟨g, o, rfl, k⟩ := hc j hj
  exact ⟨g, o, rfl, (hb.cell (World.block_lt_of_cell? w _ k)).trans k⟩

/-- A dump. -/
structure Dmp where
  young : Frg
  old : Frg
  size : Int
  mark : Int
  frags : List Frg
  roots : List Nat
  handles : List Int

def Dmp.mem (d : Dmp) : List Frg := d.young :: d.old :: d.frags

/-- A dump's nine cells. -/
abbrev dmpV (a b c d : Value) (size mark : Int) (f r h : Value) : Value := .agg #[a, b, c, d, .int .i64 size, .int .i64 mark, f, r, h]

def DmAt (w : World) (v : Value) (d : Dmp) : Prop :=
  ∃ a b a' b' f r h, v = dmpV a b a' b' d.size d.mark f r h ∧ FrAt w a b d.young ∧ FrAt w a' b' d.old ∧ (-9223372036854775808 ≤ d.size ∧ d.size ≤ 9223372036854775807) ∧ (-9223372036854775808 ≤ d.mark ∧ d.mark ≤ 9223372036854775807) ∧
    RsAt w f d.frags ∧ Ws w r d.roots ∧ Is w h d.handles

theorem DmAt.below {w w' : World} {v : Value} {d : Dmp} (h : DmAt w v d) (hb : Below w.heap.size w w') : DmAt w' v d := by
  obtain ⟨a, b, a', b', f, r, h, rfl, h1, h2, h3, h4, h5, h6, h7⟩ := h
  exact ⟨a, b, a', b', f, r, h, rfl, h1.below hb, h2.below hb, h3, h4, h5.below hb, h6.below hb, h7.below hb⟩

theorem own_two (W : World) (o : Obj) (a b c d : Value) : ((W.alloc o).alloc (.cells #[a, b, c, d] 24)).ownsRow W.heap.size 24 2 (.slice (some ⟨W.heap.size + 1, 0, none⟩) 2 2) 2 [a, b, c, d] := by
  refine ⟨rfl, Or.inr ⟨W.heap.size + 1, 2, #[a, b, c, d], rfl, by omega, ?_, by omega, by unfold maxLen; omega, rfl, rfl⟩⟩
  have h : (W.alloc o).heap.size = W.heap.size + 1 := by simp
  rw [← h]
  generalize W.alloc o = W1
  exact World.alloc_heap_new W1 _

set_option maxHeartbeats 4000000 in
set_option maxRecDepth 100000 in
theorem of_any (d : Dmp) (v : Value) (w : World) (hd : DmAt w v d) (hf : d.frags.length ≤ 100000) : Calls Tryz.prog 27 #[v] w fun e w' => ∃ r, e = .returned r ∧ RsAt w' r d.mem ∧ Below w.heap.size w w' := by
  obtain ⟨a, b, a', b', f, r, h, rfl, ⟨hi1, rfl, wa1, wc1, rfl, hw1⟩, ⟨hi2, rfl, wa2, wc2, rfl, hw2⟩, h3, h4, h5, h6, h7⟩ := hd
  have H1 := Lib.hid hw1
  have H2 := Lib.hid hw2
  have H5 := Lib.hid h5
  clear hw1 hw2 h5 h6 h7
  obtain ⟨dy, dol, sz, mk, fr, ro, ha⟩ := d
  simp only at *
  go_enter Tryz.func27, Tryz.ntmps27
  have HBa := Lib.hid (((Below.refl w.heap.size w).alloc (Nat.le_refl _) (.cells #[.int .i64 dy.1, .slice wa1 dy.2.length wc1, .int .i64 dol.1, .slice wa2 dol.2.length wc2, .int .i64 sz, .int .i64 mk, f, r, h] 28)).alloc (by simp) (.cells #[.int .i64 dy.1, .slice wa1 dy.2.length wc1, .int .i64 dol.1, .slice wa2 dol.2.length wc2] 24))
  go_wp2_with (at_builtin; (refine wpList_append_rs rfl (.tmp 7) (.tmp 9) rfl w.heap.size _ 2 [.int .i64 dy.1, .slice wa1 dy.2.length wc1, .int .i64 dol.1, .slice wa2 dol.2.length wc2] rfl (own_two _ _ _ _ _ _) _ rfl fr w H5.out HBa.out (by omega) HBa.out.size ?_; intro v1 w1 ys hh hown hgr; have HB1 := Lib.hid (HBa.out.grown hgr HBa.out.size (fun k hk => by cases hk; exact Nat.le_succ _)); have HO := Lib.hid hown; have HH := Lib.hid hh; clear hh hown hgr))
  go_ret
  refine ⟨_, rfl, ?_, HB1.out⟩
  have HF : Held w1 ([.int .i64 dy.1, .slice wa1 dy.2.length wc1, .int .i64 dol.1, .slice wa2 dol.2.length wc2] ++ ys) ([dy, dol] ++ fr) := by
    refine held_append ⟨⟨hi1, rfl, wa1, wc1, rfl, H1.out.below HB1.out⟩, ⟨hi2, rfl, wa2, wc2, rfl, H2.out.below HB1.out⟩, trivial⟩ (HH.out.below HB1.out)
  exact rs_of_own HO.out (by simp [Dmp.mem]; omega) HF (by omega)

end Go.Proofs.YtlmpmjhanpkcnaaGreat
