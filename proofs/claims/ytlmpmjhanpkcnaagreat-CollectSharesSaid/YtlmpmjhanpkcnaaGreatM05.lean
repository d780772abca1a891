/-
  May the words of a head's object be; what stands at a spot: in full.
  The store's slots; a binary's bytes in the store.
-/
import Derived.Test.YtlmpmjhanpkcnaaGreatM04
set_option linter.unusedVariables false
set_option linter.unusedSimpArgs false
namespace Go.Proofs.YtlmpmjhanpkcnaaGreat
open Go.RowKit

theorem lengthP_le {m : List Frg} {x n : Nat} (h : lengthP m x = some n) : n ≤ 400 := by
  unfold lengthP at h
  cases ht : toP x with
  | none => rw [ht] at h; cases h
  | some s =>
    rw [ht] at h
    simp only [Option.bind_some] at h
    split at h
    · cases hh : headAt m s.1 with
      | none => rw [hh] at h; cases h
      | some o =>
        rw [hh] at h
        simp only [Option.bind_some] at h
        split at h
        · rename_i q
          have := flat3_parts q.2
          simp only [Option.some.injEq] at h; omega
        · split at h
          · rename_i q
            have := flat4_parts q.2
            simp only [Option.some.injEq] at h; omega
          · cases h
    · cases h

set_option maxHeartbeats 4000000 in
set_option maxRecDepth 100000 in
theorem right5 (m : List Frg) (l : List Nat) (mv lv : Value) (w : World) (hm : RsAt w mv m) (h : Ws w lv l) (h1 : 1 ≤ l.length) :
    Calls Tryz.prog 87 #[mv, .int .i64 5, lv] w fun e w' => e = .returned (.bool (rightP m 5 l)) ∧ Below w.heap.size w w' := by
  have HM := Lib.hid hm
  have HW := Lib.hid h
  obtain ⟨g, o, c, rfl, hlc, hcm, hml⟩ := h.open h1
  unfold maxLen at hml
  clear h hm
  by_cases hn : l.length = 4
  · have k1 := HW.out.at (j := 1) (by omega)
    have k2 := HW.out.at (j := 2) (by omega)
    have k3 := HW.out.at (j := 3) (by omega)
    have hx := HW.out.2.1 (l.getD 1 0) (by
      have : l.getD 1 0 = l[1]'(by omega) := by simp [List.getD, List.getElem?_eq_getElem (show 1 < l.length by omega)]
      rw [this]; exact List.getElem_mem _)
    have hz := HW.out.2.1 (l.getD 3 0) (by
      have : l.getD 3 0 = l[3]'(by omega) := by simp [List.getD, List.getElem?_eq_getElem (show 3 < l.length by omega)]
      rw [this]; exact List.getElem_mem _)
    have q1 : ((l.length : Int) != 4) = false := by simp [hn]
    have q2 : (1 : Int) < (l.length : Int) := by omega
    have q3 : (2 : Int) < (l.length : Int) := by omega
    have q4 : (3 : Int) < (l.length : Int) := by omega
    have HE := Lib.hid (show rightP m 5 l = (match lengthP m (l.getD 1 0) with | some n => decide (l.getD 2 0 ≤ n) && decide (l.getD 3 0 ≤ n - l.getD 2 0) | none => false) by
      unfold rightP; rw [if_pos rfl, decide_eq_true hn]; rfl)
    obtain ⟨x, hxe⟩ : ∃ x, l.getD 1 0 = x := ⟨_, rfl⟩
    obtain ⟨y, hye⟩ : ∃ y, l.getD 2 0 = y := ⟨_, rfl⟩
    obtain ⟨z, hze⟩ : ∃ z, l.getD 3 0 = z := ⟨_, rfl⟩
    rw [hxe] at k1 hx HE
    rw [hye] at k2 HE
    rw [hze] at k3 hz HE
    clear hxe hye hze hn
    go_enter Tryz.func87, Tryz.ntmps87
    go_wp2_with fail
    refine (length_any m _ x _ HM.out hx).mono ?_
    rintro e w1 ⟨he, hb⟩
    unfold LenEnd at he
    subst he
    have up := fun {p : Addr} {v : Value} (q : w.cell? p = some v) => (hb.cell (World.block_lt_of_cell? w _ q)).trans q
    have j2 := up k2
    have j3 := up k3
    have HB := Lib.hid hb
    clear hb up
    cases hl : lengthP m x with
    | none =>
      rw [hl] at HE
      have HE := Lib.hid (show rightP m 5 l = false from HE.out)
      clear hl
      go_wp2_with fail
      go_quiet (fail)
      go_wp2_with fail
      go_ret
      exact ⟨by rw [HE.out]; rfl, HB.out.trans ⟨rfl, rfl, rfl, Nat.le_refl _, fun _ _ => rfl⟩⟩
    | some n =>
      rw [hl] at HE
      have HE := Lib.hid (show rightP m 5 l = (decide (y ≤ n) && decide (z ≤ n - y)) from HE.out)
      have hn4 := lengthP_le hl
      have q5 : IntKind.u64.wrap (n : Int) = (n : Int) := by rw [IntKind.wrap_u64]; omega
      clear hl
      by_cases hy : y ≤ n
      · have q6 : (y : Int) ≤ (n : Int) := by omega
        have q7 : decide ((y : Int) ≤ (n : Int)) = true := decide_eq_true q6
        have q8 : IntKind.u64.wrap ((n : Int) - (y : Int)) = (n : Int) - (y : Int) := by rw [IntKind.wrap_u64]; omega
        have q9 : decide (y ≤ n) = true := decide_eq_true hy
        rw [decide_eq_true hy] at HE
        have HY := Lib.hid hy
        go_wp2_with fail
        go_quiet (fail)
        go_wp2_with fail
        go_ret
        exact ⟨by rw [HE.out]; simp; have := HY.out; omega, HB.out.trans ⟨rfl, rfl, rfl, Nat.le_refl _, fun _ _ => rfl⟩⟩
      · have q6 : ¬ (y : Int) ≤ (n : Int) := by omega
        have q7 : decide ((y : Int) ≤ (n : Int)) = false := decide_eq_false q6
        have q9 : decide (y ≤ n) = false := decide_eq_false hy
        rw [decide_eq_false hy] at HE
        go_wp2_with fail
        go_quiet (fail)
        go_wp2_with fail
        go_ret
        exact ⟨by rw [HE.out]; rfl, HB.out.trans ⟨rfl, rfl, rfl, Nat.le_refl _, fun _ _ => rfl⟩⟩
  · have q1 : ((l.length : Int) != 4) = true := by simp; omega
    have HE := Lib.hid (show rightP m 5 l = false by unfold rightP; rw [if_pos rfl, decide_eq_false hn]; rfl)
    clear hn
    go_enter Tryz.func87, Tryz.ntmps87
    go_wp2_with fail
    go_ret
    exact ⟨by rw [HE.out]; rfl, Below.refl _ _⟩

theorem right_any (m : List Frg) (k : Int) (l : List Nat) (mv lv : Value) (w : World) (hk : 0 ≤ k ∧ k ≤ 5) (hm : RsAt w mv m) (h : Ws w lv l) (h1 : 1 ≤ l.length) :
    Calls Tryz.prog 87 #[mv, .int .i64 k, lv] w fun e w' => e = .returned (.bool (rightP m k l)) ∧ Below w.heap.size w w' := by
  have h : k = 0 ∨ k = 1 ∨ k = 2 ∨ k = 3 ∨ k = 4 ∨ k = 5 := by omega
  rcases h with rfl | rfl | rfl | rfl | rfl | rfl
  · exact right0 l mv lv w ‹_› h1
  · exact right1 l mv lv w ‹_› h1
  · exact right2 l mv lv w ‹_› h1
  · exact right3 l mv lv w ‹_› h1
  · exact right4 l mv lv w ‹_› h1
  · exact right5 m l mv lv w hm ‹_› h1

theorem headAt_le {m : List Frg} {a k : Int} {l : List Nat} (h : headAt m a = some (k, l)) : 0 ≤ k ∧ k ≤ 5 ∧ 1 ≤ l.length := by
  unfold headAt at h
  cases h1 : wordsP m a 1 with
  | none => rw [h1] at h; cases h
  | some x =>
    rw [h1] at h
    simp only [Option.bind_some] at h
    cases h2 : headP (x.getD 0 0) with
    | none => rw [h2] at h; cases h
    | some ks =>
      rw [h2] at h
      simp only [Option.bind_some] at h
      have hk := headP_le h2
      cases h3 : wordsP m a (ks.2 + 1) with
      | none => rw [h3] at h; cases h
      | some l' =>
        rw [h3] at h
        simp only [Option.map_some, Option.some.injEq, Prod.mk.injEq] at h
        obtain ⟨rfl, rfl⟩ := h
        have := wordsP_len h3 (by omega)
        omega

theorem object_any (m : List Frg) (mv : Value) (a t : Int) (w : World) (hm : RsAt w mv m) (ha : -9223372036854775808 ≤ a ∧ a ≤ 9223372036854775807) :
    Calls Tryz.prog 60 #[mv, .agg #[.int .i64 a, .int .i64 t]] w fun e w' => ObjEnd w' (objP m a t) e ∧ Below w.heap.size w w' := by
  have e : objP m a t = objR m (rightP m) a t := rfl
  rw [e]
  refine object_of m mv (rightP m) a t w hm ha fun _ k l lv w' hh _ hm' hl h1 => ?_
  have := headAt_le hh
  exact right_any m k l mv lv w' (by omega) hm' hl h1

end Go.Proofs.YtlmpmjhanpkcnaaGreat

namespace Go.Proofs.YtlmpmjhanpkcnaaGreat
open Go.RowKit

/-- A slot: how often it was given, how many name it, its bytes. -/
structure Slt where
  stamp : Int
  count : Int
  bytes : ByteArray

/-- Slots in memory. -/
def SlAt (w : World) (v : Value) (S : List Slt) : Prop :=
  S.length ≤ 1000000 ∧ ∃ a cap, v = .slice a S.length cap ∧ ∀ j, (hj : j < S.length) → ∃ g o, a = some ⟨g, o, none⟩ ∧ (-9223372036854775808 ≤ S[j].stamp ∧ S[j].stamp ≤ 9223372036854775807) ∧ S[j].bytes.size ≤ 1000000 ∧
    w.cell? ⟨g, o + j * 3, none⟩ = some (.int .i64 S[j].stamp) ∧ w.cell? ⟨g, o + j * 3 + 1, none⟩ = some (.int .i64 S[j].count) ∧ w.cell? ⟨g, o + j * 3 + 2, none⟩ = some (.string S[j].bytes)

theorem SlAt.below {w w' : World} {v : Value} {S : List Slt} (h : SlAt w v S) (hb : Below w.heap.size w w') : SlAt w' v S := by
  obtain ⟨h1, a, cap, rfl, hc⟩ := h
  refine ⟨h1, a, cap, rfl, fun j hj => ?_⟩
  obtain ⟨g, o, rfl, h2, h3, k0, k1, k2⟩ := hc j hj
  have up := fun {p : Addr} {v : Value} (q : w.cell? p = some v) => (hb.cell (World.block_lt_of_cell? w _ q)).trans q
  exact ⟨g, o, rfl, h2, h3, up k0, up k1, up k2⟩

/-- The bytes of a head that names a slot. -/
def sharedP (asks : Bool) (S : List Slt) (l : List Nat) : Option ByteArray :=
  if asks = false then some ⟨#[]⟩
  else match S[l.getD 1 0]? with
    | none => none
    | some s => if s.count ≠ 0 ∧ s.stamp = (l.getD 2 0 : Nat) ∧ s.bytes.size = l.getD 3 0 then some s.bytes else none

def StrEnd (r : Option ByteArray) (e : Ending) : Prop := ∃ b : ByteArray, ∃ ok : Bool, e = .returned (.tuple #[.string b, .bool ok]) ∧ ok = r.isSome ∧ b.size ≤ 1000000 ∧ ∀ s, r = some s → s = b

theorem drewN_below {w : World} (n : Nat) : Below w.heap.size w (w.drewN n) := ⟨rfl, rfl, rfl, Nat.le_refl _, fun _ _ => rfl⟩

set_option maxHeartbeats 4000000 in
set_option maxRecDepth 100000 in
theorem shared_any (R : Nat) (m sv lv : Value) (asks : Bool) (left : Int) (S : List Slt) (l : List Nat) (w : World) (h : RdAt w R m sv asks left) (hS : SlAt w sv S) (hl : Ws w lv l) (h4 : l.length = 4) (h1 : l.getD 1 0 ≤ 1073741824) (h2 : l.getD 2 0 ≤ 1073741824) (h3 : l.getD 3 0 ≤ 400) :
    Calls Tryz.prog 132 #[.pointer (some ⟨R, 0, none⟩), lv] w fun e w' => StrEnd (sharedP asks S l) e ∧ Below w.heap.size w w' := by
  obtain ⟨g, o, c, rfl, hlc, hcm, hml⟩ := hl.open (by omega)
  have k1 := hl.at (j := 1) (by omega)
  have k2 := hl.at (j := 2) (by omega)
  have k3 := hl.at (j := 3) (by omega)
  have c1 : w.cell? ⟨R, 1, none⟩ = some sv := by unfold RdAt at h; simp [World.cell?, h]
  have c2 : w.cell? ⟨R, 2, none⟩ = some (.bool asks) := by unfold RdAt at h; simp [World.cell?, h]
  have HL := Lib.hid h4
  have q0 : (1 : Int) < (l.length : Int) := by omega
  have q1 : (2 : Int) < (l.length : Int) := by omega
  have q2 : (3 : Int) < (l.length : Int) := by omega
  obtain ⟨hSl, sa, sc, rfl, hsc⟩ := hS
  have HSC := Lib.hid hsc
  clear hsc h hl h4
  cases asks
  · go_enter Tryz.func132, Tryz.ntmps132
    go_wp2_with fail
    go_ret2
    exact ⟨⟨⟨#[]⟩, true, rfl, rfl, by decide, fun s hs => by simp [sharedP] at hs; exact hs.symm⟩, Below.refl _ _⟩
  · have HP := Lib.hid (show sharedP true S l = match S[l.getD 1 0]? with | none => none | some s => if s.count ≠ 0 ∧ s.stamp = (l.getD 2 0 : Nat) ∧ s.bytes.size = l.getD 3 0 then some s.bytes else none by unfold sharedP; rw [if_neg (by decide)])
    obtain ⟨x, hx⟩ : ∃ x, l.getD 1 0 = x := ⟨_, rfl⟩
    obtain ⟨y, hy⟩ : ∃ y, l.getD 2 0 = y := ⟨_, rfl⟩
    obtain ⟨z, hz⟩ : ∃ z, l.getD 3 0 = z := ⟨_, rfl⟩
    rw [hx, hy, hz] at HP
    rw [hx] at k1 h1
    rw [hy] at k2 h2
    rw [hz] at k3 h3
    have q3 : IntKind.u64.wrap (S.length : Int) = (S.length : Int) := by rw [IntKind.wrap_u64]; omega
    clear hx hy hz
    by_cases hlt : x < S.length
    · have q4 : ¬ S.length ≤ x := by omega
      have q5 : decide (S.length ≤ x) = false := decide_eq_false q4
      have q6 : (x : Int) < (S.length : Int) := by omega
      obtain ⟨gs, os, rfl, hst, hbs, s0, s1, s2⟩ := HSC.out x hlt
      have HG := Lib.hid (show S[x]? = some S[x] from List.getElem?_eq_getElem hlt)
      obtain ⟨⟨st, ct, by_⟩, hse⟩ : ∃ s, S[x] = s := ⟨_, rfl⟩
      rw [hse] at hst hbs s0 s1 s2 HG
      simp only at hst hbs s0 s1 s2
      have HP2 := Lib.hid (show sharedP true S l = if ct ≠ 0 ∧ st = (y : Int) ∧ by_.size = z then some by_ else none by rw [HP.out, HG.out])
      clear hse
      go_enter Tryz.func132, Tryz.ntmps132
      go_wp2_with fail
      go_quiet (fail)
      go_wp2_with fail
      have HBD := Lib.hid (drewN_below (w := w) nq)
      have up := fun {p : Addr} {v : Value} (q : w.cell? p = some v) => (HBD.out.cell (World.block_lt_of_cell? w _ q)).trans q
      have d0 := up s0
      have d1 := up s1
      have d2 := up s2
      have e1 := up k1
      have e2 := up k2
      have e3 := up k3
      have r1 := up c1
      clear up s0 s1 s2 k1 k2 k3 c1 c2
      generalize w.drewN nq = wd at *
      have upa := fun {p : Addr} {v : Value} (q : wd.cell? p = some v) (o : Obj) => (((Below.refl _ wd).alloc (Nat.le_refl _) o).cell (World.block_lt_of_cell? wd _ q)).trans q
      have a0 := upa d0
      have a1 := upa d1
      have a2 := upa d2
      have f1 := upa e1
      have t1 := upa r1
      clear upa
      go_cut [6] from 22 to 30 (fun p wx => p = .pointer (some ⟨wd.heap.size, 0, none⟩) ∧ Hid (wx.heap[wd.heap.size]? = some (.cells #[.int .i64 st, .int .i64 ct, .string by_] 51 (0, 0))) ∧ Hid (Below wd.heap.size wd wx))
      case first =>
        go_region
        all_goals go_wp2_with fail
        all_goals go_meet
        all_goals exact ⟨rfl, Lib.hid (World.alloc_heap_new wd _), Lib.hid (((Below.refl _ _).alloc (Nat.le_refl _) _).drew)⟩
      case rest =>
        obtain ⟨rfl, HX, HBX⟩ := hcut
        have b0 := cell_of HX.out 0
        have b1 := cell_of HX.out 1
        have b2 := cell_of HX.out 2
        simp at b0 b1 b2
        have u2 := (HBX.out.cell (World.block_lt_of_cell? wd _ e2)).trans e2
        have u3 := (HBX.out.cell (World.block_lt_of_cell? wd _ e3)).trans e3
        have HBE := Lib.hid (HBD.out.trans (HBX.out.mono HBD.out.size))
        have q7 : IntKind.i64.wrap (y : Int) = (y : Int) := IntWalk.i64_in _ (by omega)
        have q8 : IntKind.i64.wrap (z : Int) = (z : Int) := IntWalk.i64_in _ (by omega)
        clear a0 a1 a2 f1 t1 d0 d1 d2 e1 e2 e3 r1
        by_cases hc0 : ct = 0
        · have q9 : (ct != 0) = false := by simp [hc0]
          have HN := Lib.hid (show sharedP true S l = none by rw [HP2.out, if_neg (fun q => q.1 hc0)])
          clear hc0
          go_wp2_with fail
          go_quiet (fail)
          go_wp2_with fail
          go_ret2
          exact ⟨⟨by_, false, rfl, by rw [HN.out]; rfl, hbs, fun s hs => by rw [HN.out] at hs; cases hs⟩, HBE.out.trans ⟨rfl, rfl, rfl, Nat.le_refl _, fun _ _ => rfl⟩⟩
        · have q9 : (ct != 0) = true := by simpa using hc0
          by_cases hs0 : st = (y : Int)
          · have q10 : (st == (y : Int)) = true := by simp [hs0]
            have HN := Lib.hid (show sharedP true S l = if by_.size = z then some by_ else none by rw [HP2.out]; simp [hc0, hs0])
            clear hs0 hc0
            go_wp2_with fail
            go_quiet (fail)
            go_wp2_with fail
            go_ret2
            refine ⟨⟨by_, _, rfl, ?_, hbs, fun s hs => ?_⟩, HBE.out.trans ⟨rfl, rfl, rfl, Nat.le_refl _, fun _ _ => rfl⟩⟩
            · rw [HN.out]
              by_cases e : by_.size = z
              · simp [e]
              · rw [if_neg e]; simp; omega
            · rw [HN.out] at hs
              split at hs
              · cases hs; rfl
              · cases hs
          · have q10 : (st == (y : Int)) = false := by simpa using hs0
            have HN := Lib.hid (show sharedP true S l = none by rw [HP2.out, if_neg (fun q => hs0 q.2.1)])
            clear hs0 hc0
            go_wp2_with fail
            go_quiet (fail)
            go_wp2_with fail
            go_ret2
            exact ⟨⟨by_, false, rfl, by rw [HN.out]; rfl, hbs, fun s hs => by rw [HN.out] at hs; cases hs⟩, HBE.out.trans ⟨rfl, rfl, rfl, Nat.le_refl _, fun _ _ => rfl⟩⟩
    · have q4 : S.length ≤ x := by omega
      have q5 : decide (S.length ≤ x) = true := decide_eq_true q4
      have HN := Lib.hid (show sharedP true S l = none by rw [HP.out, List.getElem?_eq_none q4])
      go_enter Tryz.func132, Tryz.ntmps132
      go_wp2_with fail
      go_quiet (fail)
      go_wp2_with fail
      go_ret2
      exact ⟨⟨⟨#[]⟩, false, rfl, by rw [HN.out]; rfl, by decide, fun s hs => by rw [HN.out] at hs; cases hs⟩, drewN_below _⟩

end Go.Proofs.YtlmpmjhanpkcnaaGreat
