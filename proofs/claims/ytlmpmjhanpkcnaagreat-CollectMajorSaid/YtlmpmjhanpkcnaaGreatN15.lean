/-
  Chapter 12's own look: a head's words.
  Chapter 12's own look: bytes out of words (packed).
-/
import Derived.Test.YtlmpmjhanpkcnaaGreatN14
set_option linter.unusedVariables false
set_option linter.unusedSimpArgs false
namespace Go.Proofs.YtlmpmjhanpkcnaaGreat
open Go.RowKit

/-- A number up to a greatest. -/
def smallN (x most : Nat) : Int := if most < x then -1 else (x : Int)

theorem small12_any (x most : Nat) (hx : x < 18446744073709551616) (hm : most ≤ 1073741824) (W : World) : Calls Tryz.prog 76 #[.int .u64 x, .int .i64 most] W fun e W' => e = .returned (.int .i64 (smallN x most)) ∧ W' = W := by
  have q1 : IntKind.u64.wrap (most : Int) = (most : Int) := by rw [IntKind.wrap_u64]; omega
  by_cases h : most < x
  · have HS := Lib.hid (show smallN x most = -1 by unfold smallN; rw [if_pos h])
    have q2 : (most : Int) < (x : Int) := by omega
    go_enter Tryz.func76, Tryz.ntmps76
    go_wp2_with fail
    go_ret
    exact ⟨by rw [HS.out]; rfl, rfl⟩
  · have HS := Lib.hid (show smallN x most = (x : Int) by unfold smallN; rw [if_neg h])
    have q2 : ¬ (most : Int) < (x : Int) := by omega
    have q3 : IntKind.i64.wrap (x : Int) = (x : Int) := IntWalk.i64_in _ (by omega)
    go_enter Tryz.func76, Tryz.ntmps76
    go_wp2_with fail
    go_ret
    exact ⟨by rw [HS.out]; rfl, rfl⟩

/-- A head's kind, and the words behind it. -/
def boxP (m : List Frg) (w : Nat) : Option (Int × List Nat) :=
  if tagW w = 4 then (match restP m (loadW w) with
    | [] => none
    | h :: t => (headP h).bind fun k => if k.2.toNat ≤ t.length then some (k.1, t.take k.2.toNat) else none)
  else none

def BoxEnd (w' : World) (r : Option (Int × List Nat)) (e : Ending) : Prop := ∃ v, e = .returned (.tuple #[.int .i64 (r.getD (0, [])).1, v, .bool r.isSome]) ∧ Ws w' v (r.getD (0, [])).2

theorem boxEnd_none (w' : World) {r : Option (Int × List Nat)} (h : r = none) : BoxEnd w' r (.returned (.tuple #[.int .i64 0, .slice none 0 0, .bool false])) := by
  subst h; exact ⟨_, rfl, Ws.nil _⟩

theorem Ws.here {w : World} {a : Option Addr} {n c : Nat} {h : Nat} {t : List Nat} (hw : Ws w (.slice a n c) (h :: t)) : ∃ g o, a = some ⟨g, o, none⟩ ∧ n = t.length + 1 ∧ t.length + 1 ≤ c ∧ c ≤ maxLen ∧ w.cell? ⟨g, o, none⟩ = some (.int .u64 h) ∧ h < 18446744073709551616 ∧ Ws w (.slice (some ⟨g, o, none⟩) (t.length + 1) c) (h :: t) := by
  obtain ⟨hl, hu, a', c', hv, h1, h2, h3⟩ := id hw
  simp only [Value.slice.injEq] at hv
  obtain ⟨rfl, rfl, rfl⟩ := hv
  obtain ⟨g, o, rfl, k⟩ := h3 0 (by simp)
  exact ⟨g, o, rfl, rfl, h1, h2, k, hu h (by simp), hw⟩

set_option maxHeartbeats 4000000 in
set_option maxRecDepth 100000 in
theorem box_any (d : Dmp) (S : List Slt) (deep : Bool) (v : Value) (x : Nat) (w : World) (h : LkAt w v d S deep) (hf : d.frags.length ≤ 100000) (hx : x < 18446744073709551616) :
    Calls Tryz.prog 54 #[v, .int .u64 x] w fun e w' => BoxEnd w' (boxP d.mem x) e ∧ Below w.heap.size w w' := by
  have HLK := Lib.hid h
  obtain ⟨c1, c2, c3, c4, c5, c6, c7, s, rfl, hd, hs⟩ := h
  clear hs hd
  obtain ⟨r, hr⟩ : ∃ r, boxP d.mem x = r := ⟨_, rfl⟩
  have HR := Lib.hid hr
  rw [hr]
  clear hr
  obtain ⟨l, hl⟩ : ∃ l, loadW x = l := ⟨_, rfl⟩
  have HL := Lib.hid (show -9223372036854775808 ≤ l ∧ l ≤ 9223372036854775807 by rw [← hl]; exact loadW_in x hx)
  have HLD := Lib.hid (show ∀ W, Calls Tryz.prog 39 #[.int .u64 x] W fun e W' => e = .returned (.int .i64 l) ∧ W' = W from fun W => (load8_any x hx W).mono fun e w' q => ⟨by rw [q.1, hl], q.2.symm⟩)
  have HLE := Lib.hid hl
  clear hl
  go_enter Tryz.func54, Tryz.ntmps54
  go_wp2_with fail
  have HB0 := Lib.hid ((Below.refl w.heap.size w).alloc (Nat.le_refl _) (.cells #[c1, c2, c3, c4, .int .i64 d.size, .int .i64 d.mark, c5, c6, c7, s, .bool deep] 53))
  have hbd : Below w.heap.size w (w.alloc (.cells #[c1, c2, c3, c4, .int .i64 d.size, .int .i64 d.mark, c5, c6, c7, s, .bool deep] 53)).drew := HB0.out.drew
  have X := Lib.hid (show (w.alloc (.cells #[c1, c2, c3, c4, .int .i64 d.size, .int .i64 d.mark, c5, c6, c7, s, .bool deep] 53)).drew.heap[w.heap.size]? = some (.cells #[c1, c2, c3, c4, .int .i64 d.size, .int .i64 d.mark, c5, c6, c7, s, .bool deep] 53 (0, 0)) from World.alloc_heap_new w _)
  refine wp_region_still_tail 3 (by kernel_rfl) (by kernel_rfl) ?_
  simp only [List.take_succ_cons, List.take_zero, List.drop_succ_cons, List.drop_zero]
  change wpStill _ _ (w.alloc (.cells #[c1, c2, c3, c4, .int .i64 d.size, .int .i64 d.mark, c5, c6, c7, s, .bool deep] 53)).drew (fun a' => wpList _ _ _ _ a' (w.alloc (.cells #[c1, c2, c3, c4, .int .i64 d.size, .int .i64 d.mark, c5, c6, c7, s, .bool deep] 53)).drew) _ _
  generalize (w.alloc (.cells #[c1, c2, c3, c4, .int .i64 d.size, .int .i64 d.mark, c5, c6, c7, s, .bool deep] 53)).drew = wd at *
  have e := fun i => cell_of X.out i
  repeat still_step
  still_call (HLD.out _)
  refine wpStill_nil ?_
  go_wp2_with fail
  refine (at_any d S deep _ l _ (HLK.out.below hbd) hf HL.out).mono ?_
  rintro e1 w3 ⟨⟨rv, rfl, hws⟩, hb3⟩
  have HB3 := Lib.hid (hbd.trans (hb3.mono hbd.size))
  clear hb3 e
  obtain ⟨tg, htg⟩ : ∃ tg, tagW x = tg := ⟨_, rfl⟩
  have HTG := Lib.hid (show ∀ W, Calls Tryz.prog 40 #[.int .u64 x] W fun e W' => e = .returned (.int .i64 (tg : Nat)) ∧ W' = W from fun W => (tag8_any x hx W).mono fun e w' q => ⟨by rw [q.1, htg], q.2.symm⟩)
  by_cases h4 : tg = 4
  · subst h4
    obtain ⟨rl, hrl⟩ : ∃ rl, restP d.mem l = rl := ⟨_, rfl⟩
    rw [hrl] at hws
    cases rl with
    | nil =>
      have HN := Lib.hid (show r = none by rw [← HR.out]; unfold boxP; rw [HLE.out, hrl]; simp)
      obtain ⟨_, _, ra, rc, rfl, _⟩ := hws
      clear hrl htg
      go_wp2_with (go_at_call 40; refine (HTG.out _).mono ?_; rintro e w4 ⟨rfl, rfl⟩)
      refine bodyPost_ret (v := .tuple #[.int .i64 0, .slice none 0 0, .bool false]) (by simp [results, Tryz.results54, go_sem]) rfl ⟨boxEnd_none _ HN.out, HB3.out⟩
    | cons h t =>
      have HRR := Lib.hid (show r = (headP h).bind fun k => if k.2.toNat ≤ t.length then some (k.1, t.take k.2.toNat) else none by rw [← HR.out]; unfold boxP; rw [if_pos htg, HLE.out, hrl])
      obtain ⟨_, _, ra, rc, rfl, _⟩ := id hws
      obtain ⟨g, o, rfl, -, hc1, hc2, k0, hh, hws2⟩ := hws.here
      have HWS := Lib.hid hws2
      clear hrl htg hws hws2
      have q1 : (((t.length + 1 : Nat) : Int) == 0) = false := by simp; omega
      have hl9 := HWS.out.1
      unfold maxLen at hl9
      simp only [List.length_cons] at hl9
      have q2 : IntKind.i64.wrap (((t.length + 1 : Nat) : Int) - 1) = (t.length : Int) := by rw [IntWalk.i64_in _ (by omega)]; omega
      obtain ⟨hd8, hhd⟩ : ∃ q, headP h = q := ⟨_, rfl⟩
      have HPA := Lib.hid (show ∀ W, Calls Tryz.prog 41 #[.int .u64 h] W fun e W' => e = .returned (.tuple #[.int .i64 (hd8.getD (0, 0)).1, .int .i64 (hd8.getD (0, 0)).2, .bool hd8.isSome]) ∧ W' = W from fun W => (parts8_any h hh W).mono fun e w' q => ⟨by have := q.1; unfold HeadEnd at this; rw [this, hhd], q.2.symm⟩)
      have HHD := Lib.hid hhd
      rw [hhd] at HRR
      clear hhd
      cases hd8 with
      | none =>
        have HN := Lib.hid (show r = none from HRR.out)
        go_wp2_with (first | (go_at_call 40; refine (HTG.out _).mono ?_; rintro e w4 ⟨rfl, rfl⟩) | (go_at_call 41; refine (HPA.out _).mono ?_; rintro e w4 ⟨rfl, rfl⟩))
        refine bodyPost_ret (v := .tuple #[.int .i64 0, .slice none 0 0, .bool false]) (by simp [results, Tryz.results54, go_sem]) rfl ⟨boxEnd_none _ HN.out, HB3.out⟩
      | some k =>
        obtain ⟨b1, b2, b3, b4⟩ := headP_le HHD.out
        obtain ⟨kk, kn⟩ := k
        simp only at b1 b2 b3 b4
        obtain ⟨n, rfl⟩ : ∃ n : Nat, kn = (n : Int) := ⟨kn.toNat, by omega⟩
        simp only [Option.getD_some, Option.isSome_some] at HPA
        by_cases hn : n ≤ t.length
        · have HN := Lib.hid (show r = some (kk, t.take n) by rw [HRR.out]; simp [hn])
          have q3 : ¬ (t.length : Int) < (n : Int) := by omega
          have q4 : IntKind.i64.wrap (1 + (n : Int)) = 1 + (n : Int) := IntWalk.i64_in _ (by omega)
          have r1 : (1 : Int) + (n : Int) ≤ (rc : Int) := by omega
          have r0 : 1 ≤ rc := by omega
          have r6 : (1 + (n : Int)).toNat - 1 = n := by omega
          by_cases hrc : rc = 1
          · obtain rfl : n = 0 := by omega
            subst hrc
            go_wp2_with (first | (go_at_call 40; refine (HTG.out _).mono ?_; rintro e w4 ⟨rfl, rfl⟩) | (go_at_call 41; refine (HPA.out _).mono ?_; rintro e w4 ⟨rfl, rfl⟩))
            go_quiet (fail)
            go_wp2_with fail
            refine bodyPost_ret (v := .tuple #[.int .i64 kk, .slice (some ⟨g, o, none⟩) 0 0, .bool true]) (by simp [results, Tryz.results54, go_sem]) rfl ⟨?_, HB3.out.trans ((drewN_below _).mono HB3.out.size)⟩
            exact ⟨_, by rw [HN.out]; rfl, by rw [HN.out]; exact Ws.empty _ _ (by unfold maxLen; omega)⟩
          · have r2 : 1 < rc := by omega
            have r3 : ¬ rc = 1 := by omega
            have r4 : ¬ rc - 1 = 0 := by omega
            have HCUT := Lib.hid (HWS.out.cut (k := 1) (n := n) (by simp; omega))
            go_wp2_with (first | (go_at_call 40; refine (HTG.out _).mono ?_; rintro e w4 ⟨rfl, rfl⟩) | (go_at_call 41; refine (HPA.out _).mono ?_; rintro e w4 ⟨rfl, rfl⟩))
            go_quiet (fail)
            go_wp2_with fail
            refine bodyPost_ret (v := .tuple #[.int .i64 kk, .slice (some ⟨g, o + 1, none⟩) n (rc - 1), .bool true]) (by simp [results, Tryz.results54, go_sem]) rfl ⟨?_, HB3.out.trans ((drewN_below _).mono HB3.out.size)⟩
            exact ⟨_, by rw [HN.out]; rfl, by rw [HN.out]; exact HCUT.out.below (drewN_below _)⟩
        · have HN := Lib.hid (show r = none by rw [HRR.out]; simp [hn])
          have q3 : (t.length : Int) < (n : Int) := by omega
          go_wp2_with (first | (go_at_call 40; refine (HTG.out _).mono ?_; rintro e w4 ⟨rfl, rfl⟩) | (go_at_call 41; refine (HPA.out _).mono ?_; rintro e w4 ⟨rfl, rfl⟩))
          refine bodyPost_ret (v := .tuple #[.int .i64 0, .slice none 0 0, .bool false]) (by simp [results, Tryz.results54, go_sem]) rfl ⟨boxEnd_none _ HN.out, HB3.out⟩
  · have HN := Lib.hid (show r = none by rw [← HR.out]; unfold boxP; rw [if_neg (by rw [htg]; exact h4)])
    have q1 : (((tg : Nat) : Int) != 4) = true := by simp; omega
    obtain ⟨_, _, ra, rc, rfl, _⟩ := hws
    clear htg h4
    go_wp2_with (go_at_call 40; refine (HTG.out _).mono ?_; rintro e w4 ⟨rfl, rfl⟩)
    refine bodyPost_ret (v := .tuple #[.int .i64 0, .slice none 0 0, .bool false]) (by simp [results, Tryz.results54, go_sem]) rfl ⟨boxEnd_none _ HN.out, HB3.out⟩

end Go.Proofs.YtlmpmjhanpkcnaaGreat

namespace Go.Proofs.YtlmpmjhanpkcnaaGreat
open Go.RowKit

/-- So many bytes of words. -/
def packedP (l : List Nat) (n : Nat) : Option (List UInt8) :=
  if l.length ≠ (n + 7) / 8 then none
  else if ((bytesOf l).drop n).all (· == 0) then some ((bytesOf l).take n) else none

theorem bytesOf_cons (a : Nat) (r : List Nat) : bytesOf (a :: r) = byteL a ++ bytesOf r := by simp [bytesOf, byteL]

theorem bytesOf_at : ∀ (l : List Nat) (j c : Nat) (hj : j < l.length), c < 8 → (bytesOf l)[8 * j + c]? = some ((l[j] / 256 ^ c % 256).toUInt8)
  | a :: r, 0, c, _, hc => by
    rw [bytesOf_cons, List.getElem?_append_left (by simp [byteL]; omega)]
    simp [byteL, hc]
  | a :: r, j + 1, c, hj, hc => by
    rw [bytesOf_cons, List.getElem?_append_right (by simp [byteL]; omega)]
    have : (byteL a).length = 8 := by simp [byteL]
    rw [this, show 8 * (j + 1) + c - 8 = 8 * j + c by omega, bytesOf_at r j c (by simpa using hj) hc]
    simp

theorem take_step (L : List UInt8) (n p : Nat) (x : UInt8) (hx : L[p]? = some x) : L.take (min n (p + 1)) = if p < n then L.take (min n p) ++ [x] else L.take (min n p) := by
  obtain ⟨hp, hxp⟩ := List.getElem?_eq_some_iff.1 hx
  by_cases h : p < n
  · rw [if_pos h, Nat.min_eq_right (by omega), Nat.min_eq_right (by omega), List.take_succ_eq_append_getElem hp, hxp]
  · rw [if_neg h, Nat.min_eq_left (by omega), Nat.min_eq_left (by omega)]

theorem zero_step (L : List UInt8) (n p : Nat) (x : UInt8) (hx : L[p]? = some x) (h : ((L.take p).drop n).all (· == 0) = true) (h2 : p < n ∨ x = 0) : ((L.take (p + 1)).drop n).all (· == 0) = true := by
  obtain ⟨hp, hxp⟩ := List.getElem?_eq_some_iff.1 hx
  rw [List.take_succ_eq_append_getElem hp, hxp, List.drop_append]
  rw [List.all_append, h, Bool.true_and]
  rcases h2 with h2 | rfl
  · have : (L.take p).length = p := by rw [List.length_take]; omega
    rw [this]
    cases hq : n - p with
    | zero => omega
    | succ k => simp
  · cases (n - (L.take p).length) with
    | zero => rfl
    | succ k => simp

theorem zero_not (L : List UInt8) (n p : Nat) (x : UInt8) (hx : L[p]? = some x) (h1 : n ≤ p) (h2 : x ≠ 0) : (L.drop n).all (· == 0) = false := by
  rw [Bool.eq_false_iff]
  intro e
  rw [List.all_eq_true] at e
  have : x ∈ L.drop n := by
    refine List.mem_of_getElem? (i := p - n) ?_
    rw [List.getElem?_drop, show n + (p - n) = p by omega]; exact hx
  exact h2 (by simpa using e x this)

theorem cs8_one (A : List UInt8) (x c : Nat) : cs8 (A ++ [(x / 256 ^ c % 256).toUInt8]) = cs8 A ++ [.int .u8 ((x : Int) / 2 ^ (8 * c) % 256)] := by
  rw [cs8_append]
  simp only [cs8, List.map_cons, List.map_nil]
  rw [byte_cell]

theorem u8_ne (b : UInt8) (hb : b ≠ 0) : (((b.toNat : Nat) : Int) != 0) = true := by
  simp; intro e; exact hb (UInt8.toNat_inj.1 (by simpa using e))

def PkSt (L : List UInt8) (n : Nat) (w wr : World) (p : Nat) (o : Value) : Prop :=
  wr.ownsRow w.heap.size 5 1 o (min n p) (cs8 (L.take (min n p))) ∧ ((L.take p).drop n).all (· == 0) = true ∧ Below w.heap.size w wr

set_option maxHeartbeats 4000000 in
set_option maxRecDepth 100000 in
theorem packed_any (l : List Nat) (n : Nat) (lv : Value) (w : World) (h : Ws w lv l) (hn : n ≤ 1000) :
    Calls Tryz.prog 77 #[lv, .int .i64 n] w fun e w' => BytesEnd (packedP l n) e ∧ Below w.heap.size w w' := by
  obtain ⟨i0, hi, hz0, hz1, hz2⟩ := info_parts info5
  obtain ⟨hml, hu, a, cap, rfl, hlc, hcm, hc⟩ := h
  have HC := Lib.hid hc
  unfold maxLen at hml
  clear hc hu
  have q1 : IntKind.i64.wrap ((n : Int) + 7) = (n : Int) + 7 := IntWalk.i64_in _ (by omega)
  obtain ⟨r, hr⟩ : ∃ r, packedP l n = r := ⟨_, rfl⟩
  have HR := Lib.hid hr
  rw [hr]
  clear hr
  obtain ⟨L, hL⟩ : ∃ L, bytesOf l = L := ⟨_, rfl⟩
  have HL := Lib.hid hL
  clear hL
  by_cases hlen : l.length = (n + 7) / 8
  · have q2 : ((l.length : Int) != ((n : Int) + 7) / 8) = false := by simp; omega
    have HR2 := Lib.hid (show r = if (L.drop n).all (· == 0) then some (L.take n) else none by rw [← HR.out]; unfold packedP; rw [if_neg (by omega), HL.out])
    have hml2 : l.length ≤ 200 := by omega
    have HLL := Lib.hid (show L.length = 8 * l.length by rw [← HL.out, bytesOf_length])
    have HNL := Lib.hid (show n ≤ 8 * l.length by omega)
    clear hlen
    go_enter Tryz.func77, Tryz.ntmps77
    go_wp2_with fail
    go_loopw [6, 7] (fun o i wr => ∃ (j : Nat), j ≤ l.length ∧ i = .int .i64 j ∧ Hid (PkSt L n w wr (8 * j) o)) (fun _ i _ => l.length - (intOf i).toNat)
    case atStart => exact ⟨0, by omega, rfl, Lib.hid ⟨by simp; exact World.ownsRow_nil _ _ _ _, by simp, Below.refl _ _⟩⟩
    case round =>
      obtain ⟨j, hj, rfl, HS⟩ := hrel
      by_cases hlt : j < l.length
      · obtain ⟨g, o, rfl, k0⟩ := HC.out j hlt
        have HAT := Lib.hid (fun c => bytesOf_at l j c hlt)
        obtain ⟨x, hx⟩ : ∃ x, l[j] = x := ⟨_, rfl⟩
        rw [hx] at k0
        rw [HL.out] at HAT
        have HX := Lib.hid hx
        clear hx
        have K0 := Lib.hid k0
        have q4 : (j : Int) < (l.length : Int) := by omega
        have q5 : (0 : Int) ≤ (j : Int) := by omega
        clear k0
        go_wp2_with fail
        go_loopw [6, 8] (fun o i wr2 => ∃ (c : Nat), c ≤ 8 ∧ i = .int .i64 c ∧ Hid (PkSt L n w wr2 (8 * j + c) o)) (fun _ i _ => 8 - (intOf i).toNat)
        case atStart => exact ⟨0, by omega, rfl, by simpa using HS⟩
        case round =>
          obtain ⟨c, hc8, rfl, HS2⟩ := hrel
          by_cases hlc8 : c < 8
          · obtain ⟨hown, hz, hbel⟩ := HS2.out
            have k1 := (hbel.cell (World.block_lt_of_cell? _ _ K0.out)).trans K0.out
            have HAC := Lib.hid (show L[8 * j + c]? = some ((x / 256 ^ c % 256).toUInt8) by have := HAT.out c hlc8; simp only [HX.out] at this; exact this)
            have HZ := Lib.hid hz
            have HB := Lib.hid hbel
            have hsz := hbel.size
            have p3 : (c : Int) < 8 := by omega
            have p4 : IntKind.i64.wrap (8 * (c : Int)) = 8 * (c : Int) := IntWalk.i64_in _ (by omega)
            have p5 : IntKind.i64.wrap ((c : Int) + 1) = (c : Int) + 1 := IntWalk.i64_in _ (by omega)
            have p6 : (0 : Int) ≤ 8 * (c : Int) := by omega
            obtain ⟨oa, oc, hov⟩ := own_slice hown
            subst hov
            clear hz hbel
            by_cases hpn : 8 * j + c < n
            · have p7 : ((min n (8 * j + c) : Nat) : Int) < (n : Int) := by omega
              have hmm : min n (8 * j + c) ≤ 1000 := by omega
              have HST := Lib.hid (show L.take (min n (8 * j + (c + 1))) = L.take (min n (8 * j + c)) ++ [(x / 256 ^ c % 256).toUInt8] by have := take_step L n (8 * j + c) _ HAC.out; rw [if_pos hpn] at this; exact this)
              have HMN := Lib.hid (show min n (8 * j + (c + 1)) = min n (8 * j + c) + 1 by omega)
              have HZZ := Lib.hid (zero_step L n (8 * j + c) _ HAC.out HZ.out (.inl hpn))
              generalize min n (8 * j + c) = mp at *
              go_wp2_with (at_builtin; refine wpList_append_own_at _ rfl (.tmp 38) (.tmp 40) 149 rfl w.heap.size 5 i0 (.int .u8 0) 1 1 Tryz.underlying149 hi hz0 hz1 hz2 rfl (by decide) _ _ _ rfl (World.ownsRow.alloc hown _) _ 1 1 [.int .u8 ((x : Int) / 2 ^ (8 * c) % 256)] rfl rfl (fun j u hj => by
                match j with
                | 0 => simp at hj; subst hj; simp [Addr.add_lit]
                | j + 1 => simp at hj) (fun u hu => by simp at hu; subst hu; rfl) (by unfold maxLen; omega) (by omega) (by simp; omega) ?_; intro v1 w1 hown3 hgrow3 _ hloc3)
              go_roundw
              case rel => exact ⟨c + 1, by omega, by go_num, Lib.hid ⟨by rw [HST.out, HMN.out, cs8_one]; exact hown3, HZZ.out, ((HB.out.alloc hsz _).grown hgrow3 (by simp; omega) (fun k e => (hown.lt k e).1))⟩⟩
              case measure => simp [intOf]; omega
            · have p7 : ¬ ((min n (8 * j + c) : Nat) : Int) < (n : Int) := by omega
              have HST := Lib.hid (show L.take (min n (8 * j + (c + 1))) = L.take (min n (8 * j + c)) by have := take_step L n (8 * j + c) _ HAC.out; rw [if_neg hpn] at this; exact this)
              have HMN := Lib.hid (show min n (8 * j + (c + 1)) = min n (8 * j + c) by omega)
              have HBC := Lib.hid (byte_cell x c)
              by_cases hx0 : (x / 256 ^ c % 256).toUInt8 = 0
              · have p8 : ((x : Int) / 2 ^ (8 * c) % 256 != 0) = false := by rw [← HBC.out, hx0]; rfl
                have HZZ := Lib.hid (zero_step L n (8 * j + c) _ HAC.out HZ.out (.inr hx0))
                have HOW := Lib.hid hown
                clear hx0 hown
                generalize min n (8 * j + c) = mp at *
                go_wp2_with fail
                go_roundw
                case rel => exact ⟨c + 1, by omega, by go_num, Lib.hid ⟨by rw [HST.out, HMN.out]; exact HOW.out, HZZ.out, HB.out⟩⟩
                case measure => simp [intOf]; omega
              · have p8 : ((x : Int) / 2 ^ (8 * c) % 256 != 0) = true := by
                  rw [← HBC.out]
                  exact u8_ne _ hx0
                have HN := Lib.hid (show r = none by rw [HR2.out, if_neg (by rw [zero_not L n _ _ HAC.out (by omega) hx0]; decide)])
                clear hx0 hown
                generalize min n (8 * j + c) = mp at *
                go_wp2_with fail
                go_ret2
                exact ⟨⟨⟨#[]⟩, by rw [HN.out]; rfl, by rw [HN.out]; simp [Lib.toList_data]⟩, HB.out⟩
          · obtain rfl : c = 8 := by omega
            have p3 : ¬ ((8 : Nat) : Int) < 8 := by omega
            have p5 : IntKind.i64.wrap ((j : Int) + 1) = (j : Int) + 1 := IntWalk.i64_in _ (by omega)
            go_wp2_with fail
            go_roundw
            case rel => exact ⟨j + 1, by omega, by go_num, by rw [show 8 * (j + 1) = 8 * j + 8 by omega]; exact HS2⟩
            case measure => simp [intOf]; omega
      · obtain rfl : j = l.length := by omega
        have q4 : ¬ ((l.length : Nat) : Int) < (l.length : Int) := by omega
        obtain ⟨hown, hz, hbel⟩ := HS.out
        have HN := Lib.hid (show r = some (L.take n) by rw [HR2.out, if_pos (by have h := hz; rwa [List.take_of_length_le (by rw [HLL.out]; omega)] at h)])
        have HB := Lib.hid hbel
        rw [show min n (8 * l.length) = n from Nat.min_eq_left HNL.out] at hown
        have HLT := Lib.hid (show (L.take n).length = n by rw [List.length_take, HLL.out]; have := HNL.out; omega)
        have HOW := Lib.hid hown
        clear hz hbel hown
        rcases HOW.out.2 with ⟨rfl, h0⟩ | ⟨g5, cap5, cur5, rfl, _, _, hnc, hcm5, _, _⟩
        · have hcf := conv_none wr
          subst h0
          go_wp2_with fail
          go_ret2
          exact ⟨⟨_, by rw [HN.out]; rfl, by rw [HN.out]; simp [Lib.toList_data]⟩, HB.out⟩
        · have hcf : (convert 149 9 (.slice (some ⟨g5, 0, none⟩) n cap5)).run Tryz.prog wr = .ok (.string ⟨(L.take n).toArray⟩) wr := by
            have hh := HOW.out
            have e1 := HLT.out
            have := conv_first (n := n) (l := L.take n) (g := g5) (cap := cap5) (w := wr) (base := w.heap.size) (by rw [e1]; exact hh) (by omega)
            rwa [List.take_take, Nat.min_self] at this
          go_wp2_with fail
          go_ret2
          exact ⟨⟨_, by rw [HN.out]; rfl, by rw [HN.out]; simp [Lib.toList_data]⟩, HB.out⟩
  · have q2 : ((l.length : Int) != ((n : Int) + 7) / 8) = true := by simp; omega
    have HN := Lib.hid (show r = none by rw [← HR.out]; unfold packedP; rw [if_pos hlen])
    go_enter Tryz.func77, Tryz.ntmps77
    go_wp2_with fail
    go_ret2
    exact ⟨⟨⟨#[]⟩, by rw [HN.out]; rfl, by rw [HN.out]; simp [Lib.toList_data]⟩, Below.refl _ _⟩

end Go.Proofs.YtlmpmjhanpkcnaaGreat
