/-
  The store's slots; a binary's bytes in the store.
-/
import Derived.Test.YtlmpmjhanpkcnaaGreatN03
set_option linter.unusedVariables false
set_option linter.unusedSimpArgs false
namespace Go.Proofs.YtlmpmjhanpkcnaaGreat
open Go.RowKit

/-- A slot: how often it was given, how many name it, its bytes. -/
structure Slt where
  stamp : Int
  count : Int
  bytes : ByteArray

/-- Slots in memory. -/
def SlAt (w : World) (v : Value) (S : List Slt) : Prop :=
  S.length ≤ 1000000 ∧ ∃ a cap, v = .slice a S.length cap ∧ ∀ j, (hj : j < S.length) → ∃ g o, a = some ⟨g, o, none⟩ ∧ (-9223372036854775808 ≤ S[j].stamp ∧ S[j].stamp ≤ 9223372036854775807) ∧ S[j].bytes.size ≤ 1000000 ∧
    w.cell? ⟨g, o + j * 3, none⟩ = some (.int .i64 S[j].stamp) ∧ w.cell? ⟨g, o + j * 3 + 1, none⟩ = some (.int .i64 S[j].count) ∧ w.cell? ⟨g, o + j * 3 + 2, none⟩ = some (.string S[j].bytes)

theorem SlAt.below {w w' : World} {v : Value} {S : List Slt} (h : SlAt w v S) (hb : Below w.heap.size w w') : SlAt w' v S := by
  obtain ⟨h1, a, cap, rfl, hc⟩ := h
  refine ⟨h1, a, cap, rfl, fun j hj => ?_⟩
  obtain ⟨g, o, rfl, h2, h3, k0, k1, k2⟩ := hc j hj
  have up := fun {p : Addr} {v : Value} (q : w.cell? p = some v) => (hb.cell (World.block_lt_of_cell? w _ q)).trans q
  exact ⟨g, o, rfl, h2, h3, up k0, up k1, up k2⟩

/-- The bytes of a head that names a slot. -/
def sharedP (asks : Bool) (S : List Slt) (l : List Nat) : Option ByteArray :=
  if asks = false then some ⟨#[]⟩
  else match S[l.getD 1 0]? with
    | none => none
    | some s => if s.count ≠ 0 ∧ s.stamp = (l.getD 2 0 : Nat) ∧ s.bytes.size = l.getD 3 0 then some s.bytes else none

def StrEnd (r : Option ByteArray) (e : Ending) : Prop := ∃ b : ByteArray, ∃ ok : Bool, e = .returned (.tuple #[.string b, .bool ok]) ∧ ok = r.isSome ∧ b.size ≤ 1000000 ∧ ∀ s, r = some s → s = b

theorem drewN_below {w : World} (n : Nat) : Below w.heap.size w (w.drewN n) := ⟨rfl, rfl, rfl, Nat.le_refl _, fun _ _ => rfl⟩

set_option maxHeartbeats 4000000 in
set_option maxRecDepth 100000 in
theorem shared_any (R : Nat) (m sv lv : Value) (asks : Bool) (left : Int) (S : List Slt) (l : List Nat) (w : World) (h : RdAt w R m sv asks left) (hS : SlAt w sv S) (hl : Ws w lv l) (h4 : l.length = 4) (h1 : l.getD 1 0 ≤ 1073741824) (h2 : l.getD 2 0 ≤ 1073741824) (h3 : l.getD 3 0 ≤ 400) :
    Calls Tryz.prog 132 #[.pointer (some ⟨R, 0, none⟩), lv] w fun e w' => StrEnd (sharedP asks S l) e ∧ Below w.heap.size w w' := by
  obtain ⟨g, o, c, rfl, hlc, hcm, hml⟩ := hl.open (by omega)
  have k1 := hl.at (j := 1) (by omega)
  have k2 := hl.at (j := 2) (by omega)
  have k3 := hl.at (j := 3) (by omega)
  have c1 : w.cell? ⟨R, 1, none⟩ = some sv := by unfold RdAt at h; simp [World.cell?, h]
  have c2 : w.cell? ⟨R, 2, none⟩ = some (.bool asks) := by unfold RdAt at h; simp [World.cell?, h]
  have HL := Lib.hid h4
  have q0 : (1 : Int) < (l.length : Int) := by omega
  have q1 : (2 : Int) < (l.length : Int) := by omega
  have q2 : (3 : Int) < (l.length : Int) := by omega
  obtain ⟨hSl, sa, sc, rfl, hsc⟩ := hS
  have HSC := Lib.hid hsc
  clear hsc h hl h4
  cases asks
  · go_enter Tryz.func132, Tryz.ntmps132
    go_wp2_with fail
    go_ret2
    exact ⟨⟨⟨#[]⟩, true, rfl, rfl, by decide, fun s hs => by simp [sharedP] at hs; exact hs.symm⟩, Below.refl _ _⟩
  · have HP := Lib.hid (show sharedP true S l = match S[l.getD 1 0]? with | none => none | some s => if s.count ≠ 0 ∧ s.stamp = (l.getD 2 0 : Nat) ∧ s.bytes.size = l.getD 3 0 then some s.bytes else none by unfold sharedP; rw [if_neg (by decide)])
    obtain ⟨x, hx⟩ : ∃ x, l.getD 1 0 = x := ⟨_, rfl⟩
    obtain ⟨y, hy⟩ : ∃ y, l.getD 2 0 = y := ⟨_, rfl⟩
    obtain ⟨z, hz⟩ : ∃ z, l.getD 3 0 = z := ⟨_, rfl⟩
    rw [hx, hy, hz] at HP
    rw [hx] at k1 h1
    rw [hy] at k2 h2
    rw [hz] at k3 h3
    have q3 : IntKind.u64.wrap (S.length : Int) = (S.length : Int) := by rw [IntKind.wrap_u64]; omega
    clear hx hy hz
    by_cases hlt : x < S.length
    · have q4 : ¬ S.length ≤ x := by omega
      have q5 : decide (S.length ≤ x) = false := decide_eq_false q4
      have q6 : (x : Int) < (S.length : Int) := by omega
      obtain ⟨gs, os, rfl, hst, hbs, s0, s1, s2⟩ := HSC.out x hlt
      have HG := Lib.hid (show S[x]? = some S[x] from List.getElem?_eq_getElem hlt)
      obtain ⟨⟨st, ct, by_⟩, hse⟩ : ∃ s, S[x] = s := ⟨_, rfl⟩
      rw [hse] at hst hbs s0 s1 s2 HG
      simp only at hst hbs s0 s1 s2
      have HP2 := Lib.hid (show sharedP true S l = if ct ≠ 0 ∧ st = (y : Int) ∧ by_.size = z then some by_ else none by rw [HP.out, HG.out])
      clear hse
      go_enter Tryz.func132, Tryz.ntmps132
      go_wp2_with fail
      go_quiet (fail)
      go_wp2_with fail
      have HBD := Lib.hid (drewN_below (w := w) nq)
      have up := fun {p : Addr} {v : Value} (q : w.cell? p = some v) => (HBD.out.cell (World.block_lt_of_cell? w _ q)).trans q
      have d0 := up s0
      have d1 := up s1
      have d2 := up s2
      have e1 := up k1
      have e2 := up k2
      have e3 := up k3
      have r1 := up c1
      clear up s0 s1 s2 k1 k2 k3 c1 c2
      generalize w.drewN nq = wd at *
      have upa := fun {p : Addr} {v : Value} (q : wd.cell? p = some v) (o : Obj) => (((Below.refl _ wd).alloc (Nat.le_refl _) o).cell (World.block_lt_of_cell? wd _ q)).trans q
      have a0 := upa d0
      have a1 := upa d1
      have a2 := upa d2
      have f1 := upa e1
      have t1 := upa r1
      clear upa
      go_cut [6] from 22 to 30 (fun p wx => p = .pointer (some ⟨wd.heap.size, 0, none⟩) ∧ Hid (wx.heap[wd.heap.size]? = some (.cells #[.int .i64 st, .int .i64 ct, .string by_] 51 (0, 0))) ∧ Hid (Below wd.heap.size wd wx))
      case first =>
        go_region
        all_goals go_wp2_with fail
        all_goals go_meet
        all_goals exact ⟨rfl, Lib.hid (World.alloc_heap_new wd _), Lib.hid (((Below.refl _ _).alloc (Nat.le_refl _) _).drew)⟩
      case rest =>
        obtain ⟨rfl, HX, HBX⟩ := hcut
        have b0 := cell_of HX.out 0
        have b1 := cell_of HX.out 1
        have b2 := cell_of HX.out 2
        simp at b0 b1 b2
        have u2 := (HBX.out.cell (World.block_lt_of_cell? wd _ e2)).trans e2
        have u3 := (HBX.out.cell (World.block_lt_of_cell? wd _ e3)).trans e3
        have HBE := Lib.hid (HBD.out.trans (HBX.out.mono HBD.out.size))
        have q7 : IntKind.i64.wrap (y : Int) = (y : Int) := IntWalk.i64_in _ (by omega)
        have q8 : IntKind.i64.wrap (z : Int) = (z : Int) := IntWalk.i64_in _ (by omega)
        clear a0 a1 a2 f1 t1 d0 d1 d2 e1 e2 e3 r1
        by_cases hc0 : ct = 0
        · have q9 : (ct != 0) = false := by simp [hc0]
          have HN := Lib.hid (show sharedP true S l = none by rw [HP2.out, if_neg (fun q => q.1 hc0)])
          clear hc0
          go_wp2_with fail
          go_quiet (fail)
          go_wp2_with fail
          go_ret2
          exact ⟨⟨by_, false, rfl, by rw [HN.out]; rfl, hbs, fun s hs => by rw [HN.out] at hs; cases hs⟩, HBE.out.trans ⟨rfl, rfl, rfl, Nat.le_refl _, fun _ _ => rfl⟩⟩
        · have q9 : (ct != 0) = true := by simpa using hc0
          by_cases hs0 : st = (y : Int)
          · have q10 : (st == (y : Int)) = true := by simp [hs0]
            have HN := Lib.hid (show sharedP true S l = if by_.size = z then some by_ else none by rw [HP2.out]; simp [hc0, hs0])
            clear hs0 hc0
            go_wp2_with fail
            go_quiet (fail)
            go_wp2_with fail
            go_ret2
            refine ⟨⟨by_, _, rfl, ?_, hbs, fun s hs => ?_⟩, HBE.out.trans ⟨rfl, rfl, rfl, Nat.le_refl _, fun _ _ => rfl⟩⟩
            · rw [HN.out]
              by_cases e : by_.size = z
              · simp [e]
              · rw [if_neg e]; simp; omega
            · rw [HN.out] at hs
              split at hs
              · cases hs; rfl
              · cases hs
          · have q10 : (st == (y : Int)) = false := by simpa using hs0
            have HN := Lib.hid (show sharedP true S l = none by rw [HP2.out, if_neg (fun q => hs0 q.2.1)])
            clear hs0 hc0
            go_wp2_with fail
            go_quiet (fail)
            go_wp2_with fail
            go_ret2
            exact ⟨⟨by_, false, rfl, by rw [HN.out]; rfl, hbs, fun s hs => by rw [HN.out] at hs; cases hs⟩, HBE.out.trans ⟨rfl, rfl, rfl, Nat.le_refl _, fun _ _ => rfl⟩⟩
    · have q4 : S.length ≤ x := by omega
      have q5 : decide (S.length ≤ x) = true := decide_eq_true q4
      have HN := Lib.hid (show sharedP true S l = none by rw [HP.out, List.getElem?_eq_none q4])
      go_enter Tryz.func132, Tryz.ntmps132
      go_wp2_with fail
      go_quiet (fail)
      go_wp2_with fail
      go_ret2
      exact ⟨⟨⟨#[]⟩, false, rfl, by rw [HN.out]; rfl, by decide, fun s hs => by rw [HN.out] at hs; cases hs⟩, drewN_below _⟩

end Go.Proofs.YtlmpmjhanpkcnaaGreat
