/-
  A dump's regions in memory; so many words from an address on.
-/
import Derived.Test.YtohgkfnbjfhniaaWq
namespace Go.Proofs.Ytohgkfnbjfhniaa
open Go.RowKit

/-- A region: where it begins, its words. -/
abbrev Frg := Int × List Nat

/-- Words in memory. -/
def Ws (w : World) (v : Value) (l : List Nat) : Prop :=
  l.length ≤ maxLen ∧ (∀ x ∈ l, x < 18446744073709551616) ∧ ∃ a cap, v = .slice a l.length cap ∧ l.length ≤ cap ∧ cap ≤ maxLen ∧ ∀ j, (hj : j < l.length) → ∃ g o, a = some ⟨g, o, none⟩ ∧ w.cell? ⟨g, o + j, none⟩ = some (.int .u64 l[j])

theorem Ws.below {w w' : World} {v : Value} {l : List Nat} (h : Ws w v l) (hb : Below w.heap.size w w') : Ws w' v l := by
  obtain ⟨h1, h2, a, cap, rfl, h3, h4, hc⟩ := h
  refine ⟨h1, h2, a, cap, rfl, h3, h4, fun j hj => ?_⟩
  obtain ⟨g, o, rfl, k⟩ := hc j hj
  exact ⟨g, o, rfl, (hb.cell (World.block_lt_of_cell? w _ k)).trans k⟩

theorem Ws.nil (w : World) : Ws w (.slice none 0 0) [] :=
  ⟨by simp, (fun x hx => by cases hx), none, 0, rfl, by simp, by unfold maxLen; omega, fun j hj => by simp at hj⟩

theorem Ws.cut {w : World} {g o c : Nat} {l : List Nat} (h : Ws w (.slice (some ⟨g, o, none⟩) l.length c) l) {k n : Nat} (hkn : k + n ≤ l.length) : Ws w (.slice (some ⟨g, o + k, none⟩) n (c - k)) ((l.drop k).take n) := by
  obtain ⟨h1, h2, a, cap, hv, h3, h4, hc⟩ := h
  simp only [Value.slice.injEq, true_and] at hv
  obtain ⟨rfl, rfl⟩ := hv
  have hl : ((l.drop k).take n).length = n := by rw [List.length_take, List.length_drop]; omega
  refine ⟨by omega, fun x hx => h2 x (List.mem_of_mem_drop (List.mem_of_mem_take hx)), some ⟨g, o + k, none⟩, c - k, by rw [hl], by omega, by omega, fun j hj => ⟨g, o + k, rfl, ?_⟩⟩
  rw [hl] at hj
  obtain ⟨g', o', e, q⟩ := hc (k + j) (by omega)
  cases e
  rw [Nat.add_assoc, q]
  simp

/-- Regions in memory. -/
def RsAt (w : World) (v : Value) (m : List Frg) : Prop :=
  m.length ≤ maxLen ∧ ∃ a cap, v = .slice a m.length cap ∧ ∀ j, (hj : j < m.length) → ∃ g o wa wc, a = some ⟨g, o, none⟩ ∧ (-9223372036854775808 ≤ m[j].1 ∧ m[j].1 ≤ 9223372036854775807) ∧ w.cell? ⟨g, o + j * 2, none⟩ = some (.int .i64 m[j].1) ∧
    w.cell? ⟨g, o + j * 2 + 1, none⟩ = some (.slice wa m[j].2.length wc) ∧ Ws w (.slice wa m[j].2.length wc) m[j].2

theorem RsAt.below {w w' : World} {v : Value} {m : List Frg} (h : RsAt w v m) (hb : Below w.heap.size w w') : RsAt w' v m := by
  obtain ⟨h1, a, cap, rfl, hc⟩ := h
  refine ⟨h1, a, cap, rfl, fun j hj => ?_⟩
  obtain ⟨g, o, wa, wc, rfl, hi, k0, k1, hw⟩ := hc j hj
  exact ⟨g, o, wa, wc, rfl, hi, (hb.cell (World.block_lt_of_cell? w _ k0)).trans k0, (hb.cell (World.block_lt_of_cell? w _ k1)).trans k1, hw.below hb⟩

/-- So many words from an address on, of one region. -/
def cutP (f : Frg) (a n : Int) : Option (List Nat) := if n ≤ (f.2.length : Int) - (a - f.1) then some ((f.2.drop (a - f.1).toNat).take n.toNat) else none

def wordsP : List Frg → Int → Int → Option (List Nat)
  | [], _, _ => none
  | f :: r, a, n => if inP f.1 f.2.length a = true then cutP f a n else wordsP r a n

def WordsEnd (w' : World) (r : Option (List Nat)) (e : Ending) : Prop := ∃ v, e = .returned (.tuple #[v, .bool r.isSome]) ∧ Ws w' v (r.getD [])

theorem wordsP_drop {m : List Frg} {j : Nat} (h : j < m.length) (a n : Int) : wordsP (m.drop j) a n = if inP m[j].1 m[j].2.length a = true then cutP m[j] a n else wordsP (m.drop (j + 1)) a n := by
  rw [List.drop_eq_getElem_cons h, wordsP]

set_option maxHeartbeats 4000000 in
set_option maxRecDepth 100000 in
theorem words_any (m : List Frg) (mv : Value) (a n : Int) (w : World) (hm : RsAt w mv m) (ha : -9223372036854775808 ≤ a ∧ a ≤ 9223372036854775807) (hn : 0 ≤ n ∧ n ≤ 2000000) :
    Calls Try.prog 44 #[mv, .int .i64 a, .int .i64 n] w fun e w' => WordsEnd w' (wordsP m a n) e ∧ Below w.heap.size w w' := by
  have HM := Lib.hid hm
  obtain ⟨hl, ma, mcap, rfl, hc⟩ := hm
  have HC := Lib.hid hc
  unfold maxLen at hl
  clear hc
  go_enter Try.func44, Try.ntmps44
  go_wp2_with fail
  go_loopw [13] (fun i wr => ∃ (j : Nat), j ≤ m.length ∧ i = .int .i64 j ∧ Hid (wordsP m a n = wordsP (m.drop j) a n) ∧ Hid (Below w.heap.size w wr)) (fun i _ => m.length - (intOf i).toNat)
  case atStart => exact ⟨0, by omega, rfl, Lib.hid (by simp), Lib.hid (Below.refl _ _)⟩
  case round =>
    obtain ⟨j, hj, rfl, HW, HB⟩ := hrel
    by_cases hlt : j < m.length
    · obtain ⟨g, o, wa, wc, rfl, hi, k0, k1, hw⟩ := HC.out j hlt
      have l0 := (HB.out.cell (World.block_lt_of_cell? w _ k0)).trans k0
      have l1 := (HB.out.cell (World.block_lt_of_cell? w _ k1)).trans k1
      have HD := Lib.hid (wordsP_drop hlt a n)
      obtain ⟨⟨fa, fw⟩, hf⟩ : ∃ f, m[j] = f := ⟨_, rfl⟩
      rw [hf] at l0 l1 HD hi hw
      have HWS := Lib.hid hw
      have q4 : (j : Int) < (m.length : Int) := by omega
      have q5 : (0 : Int) ≤ (j : Int) := by omega
      have q6 : IntKind.i64.wrap ((j : Int) + 1) = (j : Int) + 1 := IntWalk.i64_in _ (by omega)
      clear k0 k1 hf hw
      go_wp2_with fail
      refine (in_any fa a wa fw.length wc _ ha).mono ?_
      rintro e w2 ⟨rfl, hb2⟩
      have e0 := hb2.cell (p := ⟨wr.heap.size, 0, none⟩) (by simp)
      have e1 := hb2.cell (p := ⟨wr.heap.size, 1, none⟩) (by simp)
      simp [go_sem] at e0 e1
      have HB2 := Lib.hid (HB.out.trans (((Below.refl wr.heap.size wr).alloc (Nat.le_refl _) (.cells #[.int .i64 fa, .slice wa fw.length wc] 24)).trans (hb2.mono (by simp)) |>.mono HB.out.size))
      clear hb2
      cases hin : inP fa fw.length a
      · have HN := Lib.hid (show wordsP m a n = wordsP (m.drop (j + 1)) a n by rw [HW.out, HD.out]; simp [hin])
        clear hin
        go_wp2_with fail
        go_roundw
        case rel => exact ⟨j + 1, by omega, by go_num, HN, HB2⟩
        case measure => simp [intOf]; omega
      · have HN := Lib.hid (show wordsP m a n = cutP (fa, fw) a n by rw [HW.out, HD.out]; simp [hin])
        obtain ⟨x1, x2, x3⟩ : 0 ≤ fa ∧ fa ≤ a ∧ a - fa < fw.length := by
          simp [inP] at hin
          omega
        obtain ⟨kk, hkk⟩ : ∃ kk : Nat, a - fa = (kk : Int) := ⟨(a - fa).toNat, by omega⟩
        have hfl := HWS.out.1
        unfold maxLen at hfl
        have q7 : IntKind.i64.wrap (a - fa) = (kk : Int) := by rw [hkk]; exact IntWalk.i64_in _ (by omega)
        have q8 : IntKind.i64.wrap ((fw.length : Int) - (kk : Int)) = (fw.length : Int) - (kk : Int) := IntWalk.i64_in _ (by omega)
        clear hin
        by_cases hbig : (fw.length : Int) - (kk : Int) < n
        · have HR := Lib.hid (show wordsP m a n = none by rw [HN.out]; unfold cutP; rw [hkk, if_neg (by simp only; omega)])
          go_wp2_with fail
          go_ret2
          exact ⟨⟨.slice none 0 0, by rw [HR.out]; rfl, by rw [HR.out]; exact Ws.nil _⟩, HB2.out⟩
        · obtain ⟨nn, rfl⟩ : ∃ nn : Nat, n = (nn : Int) := ⟨n.toNat, by omega⟩
          have q9 : IntKind.i64.wrap ((kk : Int) + (nn : Int)) = (kk : Int) + (nn : Int) := IntWalk.i64_in _ (by omega)
          have HWS2 := HWS.out
          obtain ⟨_, hu, wa', wc', hv, hcc, hcm, hcl⟩ := HWS2
          simp only [Value.slice.injEq, true_and] at hv
          obtain ⟨rfl, rfl⟩ := hv
          obtain ⟨gw, ow, rfl, _⟩ := hcl kk (by omega)
          have r1 : (kk : Int) + (nn : Int) ≤ (wc : Int) := by omega
          have r2 : kk < wc := by omega
          have r3 : ¬ wc = kk := by omega
          have r4 : ¬ wc - kk = 0 := by omega
          have r5 : ((kk : Int) + (nn : Int)).toNat - kk = nn := by omega
          have HCL := Lib.hid hcl
          have HU2 := Lib.hid hu
          have HR := Lib.hid (show wordsP m a nn = some ((fw.drop kk).take nn) by
            rw [HN.out]; unfold cutP; rw [hkk, if_pos (by simp only; omega)]; simp)
          clear hcl hu
          have HCUT := Lib.hid (Ws.cut (HWS.out.below HB2.out) (k := kk) (n := nn) (by omega))
          go_wp2_with fail
          go_ret2
          exact ⟨⟨_, by rw [HR.out]; rfl, by rw [HR.out]; exact HCUT.out⟩, HB2.out⟩
    · obtain rfl : j = m.length := by omega
      have q4 : ¬ ((m.length : Nat) : Int) < (m.length : Int) := by omega
      have HR := Lib.hid (show wordsP m a n = none by rw [HW.out]; simp [wordsP])
      go_wp2_with fail
      go_ret2
      exact ⟨⟨.slice none 0 0, by rw [HR.out]; rfl, by rw [HR.out]; exact Ws.nil _⟩, HB.out⟩

end Go.Proofs.Ytohgkfnbjfhniaa
