/-
  Chapter 12's own look: the bytes of a head.
-/
import Derived.Test.YtlmpmjhanpkcnaaGreatN15
set_option linter.unusedVariables false
set_option linter.unusedSimpArgs false
namespace Go.Proofs.YtlmpmjhanpkcnaaGreat
open Go.RowKit

/-- The bytes of a head's words. -/
def bytes12 (deep : Bool) (S : List Slt) (k : Int) (t : List Nat) : Option (ByteArray × Nat) :=
  if k = 3 ∧ 1 ≤ t.length then (if 64 < t.getD 0 0 then none else (packedP (t.drop 1) (t.getD 0 0)).map fun b => (⟨b.toArray⟩, t.getD 0 0))
  else if k = 4 ∧ t.length = 3 then
    if 1073741824 < t.getD 0 0 ∨ 1073741824 < t.getD 1 0 ∨ 400 < t.getD 2 0 then none
    else if deep = false then some (⟨#[]⟩, t.getD 2 0)
    else match S[t.getD 0 0]? with
      | none => none
      | some s => if s.count ≠ 0 ∧ s.stamp = (t.getD 1 0 : Nat) ∧ s.bytes.size = t.getD 2 0 then some (s.bytes, t.getD 2 0) else none
  else none

def B12End (r : Option (ByteArray × Nat)) (e : Ending) : Prop := ∃ (s : ByteArray) (n : Nat) (ok : Bool), e = .returned (.tuple #[.string s, .int .i64 n, .bool ok]) ∧ ok = r.isSome ∧ n ≤ 400 ∧ s.size ≤ 1000000 ∧ ∀ p, r = some p → p = (s, n)

theorem b12_none {r : Option (ByteArray × Nat)} (h : r = none) : B12End r (.returned (.tuple #[.string ⟨#[]⟩, .int .i64 0, .bool false])) := by
  subst h; exact ⟨⟨#[]⟩, 0, false, rfl, rfl, by omega, by decide, fun p hp => by cases hp⟩

theorem smallN_le {x most : Nat} (h : x ≤ most) : smallN x most = (x : Int) := by unfold smallN; rw [if_neg (by omega)]
theorem smallN_gt {x most : Nat} (h : most < x) : smallN x most = -1 := by unfold smallN; rw [if_pos h]

theorem small_le (x most : Nat) (hx : x < 18446744073709551616) (hm : most ≤ 1073741824) (h : x ≤ most) (W : World) : Calls Tryz.prog 76 #[.int .u64 x, .int .i64 most] W fun e W' => e = .returned (.int .i64 x) ∧ W' = W :=
  (small12_any x most hx hm W).mono fun e w q => ⟨by rw [q.1, smallN_le h], q.2⟩
theorem small_gt (x most : Nat) (hx : x < 18446744073709551616) (hm : most ≤ 1073741824) (h : most < x) (W : World) : Calls Tryz.prog 76 #[.int .u64 x, .int .i64 most] W fun e W' => e = .returned (.int .i64 (-1)) ∧ W' = W :=
  (small12_any x most hx hm W).mono fun e w q => ⟨by rw [q.1, smallN_gt h], q.2⟩

set_option maxHeartbeats 4000000 in
set_option maxRecDepth 100000 in
theorem bytes12_3 (d : Dmp) (S : List Slt) (deep : Bool) (v tv : Value) (t : List Nat) (w : World) (h : LkAt w v d S deep) (ht : Ws w tv t) :
    Calls Tryz.prog 55 #[v, .int .i64 3, tv] w fun e w' => B12End (bytes12 deep S 3 t) e ∧ Below w.heap.size w w' := by
  obtain ⟨c1, c2, c3, c4, c5, c6, c7, s, rfl, hd, hs⟩ := h
  clear hs hd
  have HB0 := Lib.hid ((Below.refl w.heap.size w).alloc (Nat.le_refl _) (.cells #[c1, c2, c3, c4, .int .i64 d.size, .int .i64 d.mark, c5, c6, c7, s, .bool deep] 53))
  cases t with
  | nil =>
    obtain ⟨_, _, ra, rc, rfl, _⟩ := ht
    have HN := Lib.hid (show bytes12 deep S 3 [] = none by simp [bytes12])
    rw [HN.out]
    go_enter Tryz.func55, Tryz.ntmps55
    go_wp2_with fail
    refine bodyPost_ret (v := .tuple #[.string ⟨#[]⟩, .int .i64 0, .bool false]) (by simp [results, Tryz.results55, go_sem]) rfl ⟨b12_none rfl, HB0.out⟩
  | cons x t =>
    obtain ⟨_, _, ra, rc, rfl, _⟩ := id ht
    obtain ⟨g, o, rfl, -, hc1, hc2, k0, hx, hws2⟩ := ht.here
    have HWS := Lib.hid hws2
    have hl9 := HWS.out.1
    unfold maxLen at hl9
    simp only [List.length_cons] at hl9
    have HR := Lib.hid (show bytes12 deep S 3 (x :: t) = if 64 < x then none else (packedP t x).map fun b => (⟨b.toArray⟩, x) by simp [bytes12])
    obtain ⟨r, hr⟩ : ∃ r, bytes12 deep S 3 (x :: t) = r := ⟨_, rfl⟩
    rw [hr] at HR ⊢
    have q1 : (0 : Int) < ((t.length + 1 : Nat) : Int) := by omega
    have q2 : (1 : Int) ≤ ((t.length + 1 : Nat) : Int) := by omega
    have r0 : 1 ≤ rc := by omega
    have up := fun (o : Obj) => (((Below.refl _ w).alloc (Nat.le_refl _) o).cell (World.block_lt_of_cell? w _ k0)).trans k0
    clear ht hws2 hr k0
    by_cases h64 : 64 < x
    · have HN := Lib.hid (show r = none by rw [HR.out, if_pos h64])
      have HSM := Lib.hid (small_gt x 64 hx (by omega) h64)
      go_enter Tryz.func55, Tryz.ntmps55
      go_wp2_with (go_at_call 76; refine (HSM.out _).mono ?_; rintro e w4 ⟨rfl, rfl⟩)
      refine bodyPost_ret (v := .tuple #[.string ⟨#[]⟩, .int .i64 0, .bool false]) (by simp [results, Tryz.results55, go_sem]) rfl ⟨b12_none HN.out, HB0.out⟩
    · have hx64 : x ≤ 64 := by omega
      have HSM := Lib.hid (small_le x 64 hx (by omega) hx64)
      have HRR := Lib.hid (show r = (packedP t x).map fun b => (⟨b.toArray⟩, x) by rw [HR.out, if_neg h64])
      have q3 : ¬ (x : Int) < 0 := by omega
      have HEND : ∀ e, BytesEnd (packedP t x) e → ∃ (b : ByteArray), e = .returned (.tuple #[.string b, .bool (packedP t x).isSome]) ∧ B12End r (.returned (.tuple #[.string b, .int .i64 (x : Int), .bool (packedP t x).isSome])) := by
        rintro e ⟨b, rfl, hb⟩
        refine ⟨b, rfl, b, x, _, rfl, ?_, by omega, ?_, ?_⟩
        · rw [HRR.out]; simp
        · cases hp : packedP t x with
          | none =>
            rw [hp] at hb
            have : b.data.toList = [] := by rw [← Lib.toList_data]; simpa using hb
            have : b.size = 0 := by simp [ByteArray.size, ← Array.length_toList, this]
            omega
          | some l =>
            rw [hp] at hb
            have h2 : b.data.toList = l := by rw [← Lib.toList_data]; simpa using hb
            have h3 : b.size = l.length := by simp [ByteArray.size, ← Array.length_toList, h2]
            unfold packedP at hp
            split at hp
            · cases hp
            · split at hp
              · cases hp
                rw [h3, List.length_take]; omega
              · cases hp
        · intro p hp
          rw [HRR.out] at hp
          cases hq : packedP t x with
          | none => rw [hq] at hp; cases hp
          | some l =>
            rw [hq] at hp hb
            cases hp
            have h2 : b.data.toList = l := by rw [← Lib.toList_data]; simpa using hb
            congr 1
            rw [← h2]
      have HE := Lib.hid HEND
      clear HEND h64
      go_enter Tryz.func55, Tryz.ntmps55
      by_cases hrc : rc = 1
      · subst hrc
        have HNil := Lib.hid (show t = [] from List.eq_nil_of_length_eq_zero (by omega))
        have HT0 := Lib.hid (show t.length = 0 by omega)
        have q7 : IntKind.i64.wrap (((t.length + 1 : Nat) : Int) - 1) = ((0 : Nat) : Int) := by rw [IntWalk.i64_in _ (by omega)]; omega
        have q8 : t.length + 1 = 1 := by omega
        rw [q8]
        go_wp2_with (first | (go_at_call 76; refine (HSM.out _).mono ?_; rintro e w4 ⟨rfl, rfl⟩) | (go_at_call 77; refine (packed_any t x _ _ (by rw [HNil.out]; exact Ws.empty _ _ (by unfold maxLen; omega)) (by omega)).mono ?_; rintro e w5 ⟨he, hb5⟩; obtain ⟨b, rfl, HB12⟩ := HE.out _ he; have HX5 := Lib.hid (HB0.out.trans (hb5.mono HB0.out.size)); have HX6 := Lib.hid HB12; clear HB12 hb5 he))
        refine bodyPost_ret (v := .tuple #[.string b, .int .i64 x, .bool (packedP t x).isSome]) (by simp [results, Tryz.results55, go_sem]) rfl ⟨HX6.out, HX5.out⟩
      · have r2 : 1 < rc := by omega
        have r3 : ¬ rc = 1 := by omega
        have r4 : ¬ rc - 1 = 0 := by omega
        have HCUT := Lib.hid (show Ws w (.slice (some ⟨g, o + 1, none⟩) t.length (rc - 1)) t by
          have := HWS.out.cut (k := 1) (n := t.length) (by simp; omega)
          simpa using this)
        go_wp2_with (first | (go_at_call 76; refine (HSM.out _).mono ?_; rintro e w4 ⟨rfl, rfl⟩) | (go_at_call 77; refine (packed_any t x _ _ (HCUT.out.below HB0.out) (by omega)).mono ?_; rintro e w5 ⟨he, hb5⟩; obtain ⟨b, rfl, HB12⟩ := HE.out _ he; have HX5 := Lib.hid (HB0.out.trans (hb5.mono HB0.out.size)); have HX6 := Lib.hid HB12; clear HB12 hb5 he))
        refine bodyPost_ret (v := .tuple #[.string b, .int .i64 x, .bool (packedP t x).isSome]) (by simp [results, Tryz.results55, go_sem]) rfl ⟨HX6.out, HX5.out⟩

set_option maxHeartbeats 4000000 in
set_option maxRecDepth 100000 in
theorem bytes12_other (d : Dmp) (S : List Slt) (deep : Bool) (v tv : Value) (k : Int) (t : List Nat) (w : World) (h : LkAt w v d S deep) (ht : Ws w tv t) (h3 : k ≠ 3) (h4 : k ≠ 4) :
    Calls Tryz.prog 55 #[v, .int .i64 k, tv] w fun e w' => B12End (bytes12 deep S k t) e ∧ Below w.heap.size w w' := by
  obtain ⟨c1, c2, c3, c4, c5, c6, c7, s, rfl, hd, hs⟩ := h
  clear hs hd
  have HB0 := Lib.hid ((Below.refl w.heap.size w).alloc (Nat.le_refl _) (.cells #[c1, c2, c3, c4, .int .i64 d.size, .int .i64 d.mark, c5, c6, c7, s, .bool deep] 53))
  have HN := Lib.hid (show bytes12 deep S k t = none by simp [bytes12, h3, h4])
  rw [HN.out]
  have q1 : (k == 3) = false := by simpa using h3
  have q2 : (k == 4) = false := by simpa using h4
  obtain ⟨_, _, ra, rc, rfl, _⟩ := ht
  clear h3 h4
  go_enter Tryz.func55, Tryz.ntmps55
  go_wp2_with fail
  refine bodyPost_ret (v := .tuple #[.string ⟨#[]⟩, .int .i64 0, .bool false]) (by simp [results, Tryz.results55, go_sem]) rfl ⟨b12_none rfl, HB0.out⟩

theorem three_of {t : List Nat} (h : t.length = 3) : ∃ x y z, t = [x, y, z] := by
  match t, h with
  | [x, y, z], _ => exact ⟨x, y, z, rfl⟩

set_option maxHeartbeats 4000000 in
set_option maxRecDepth 100000 in
theorem bytes12_4 (d : Dmp) (S : List Slt) (deep : Bool) (v tv : Value) (t : List Nat) (w : World) (h : LkAt w v d S deep) (ht : Ws w tv t) :
    Calls Tryz.prog 55 #[v, .int .i64 4, tv] w fun e w' => B12End (bytes12 deep S 4 t) e ∧ Below w.heap.size w w' := by
  obtain ⟨c1, c2, c3, c4, c5, c6, c7, s, rfl, hd, hs⟩ := h
  clear hd
  have HB0 := Lib.hid ((Below.refl w.heap.size w).alloc (Nat.le_refl _) (.cells #[c1, c2, c3, c4, .int .i64 d.size, .int .i64 d.mark, c5, c6, c7, s, .bool deep] 53))
  by_cases hl3 : t.length = 3
  · obtain ⟨x, y, z, rfl⟩ := three_of hl3
    obtain ⟨g, o, c, rfl, hlc, hcm, hml⟩ := ht.open (by simp)
    have k0 := ht.at (j := 0) (by simp)
    have k1 := ht.at (j := 1) (by simp)
    have k2 := ht.at (j := 2) (by simp)
    simp only [List.getD_cons_zero, List.getD_cons_succ, Nat.add_zero] at k0 k1 k2
    have hx := ht.2.1 x (by simp)
    have hy := ht.2.1 y (by simp)
    have hz := ht.2.1 z (by simp)
    obtain ⟨r, hr⟩ : ∃ r, bytes12 deep S 4 [x, y, z] = r := ⟨_, rfl⟩
    have HR := Lib.hid hr
    rw [hr]
    clear hr ht hl3
    simp only [List.length_cons, List.length_nil] at hlc hml ⊢
    obtain ⟨hSl, sa, sc, rfl, hsc⟩ := hs
    have HSC := Lib.hid hsc
    clear hsc
    have up := fun {p : Addr} {v : Value} (q : w.cell? p = some v) (o : Obj) => (((Below.refl _ w).alloc (Nat.le_refl _) o).cell (World.block_lt_of_cell? w _ q)).trans q
    have a0 := up k0
    have a1 := up k1
    have a2 := up k2
    clear up k0 k1 k2
    have sx : ∃ X : Int, (∀ W, Calls Tryz.prog 76 #[.int .u64 x, .int .i64 1073741824] W fun e W' => e = .returned (.int .i64 X) ∧ W' = W) ∧ ((X = -1 ∧ 1073741824 < x) ∨ (X = (x : Int) ∧ x ≤ 1073741824)) := by
      by_cases q : 1073741824 < x
      · exact ⟨-1, fun W => small_gt x 1073741824 hx (by omega) q W, .inl ⟨rfl, q⟩⟩
      · exact ⟨x, fun W => small_le x 1073741824 hx (by omega) (by omega) W, .inr ⟨rfl, by omega⟩⟩
    have sy : ∃ X : Int, (∀ W, Calls Tryz.prog 76 #[.int .u64 y, .int .i64 1073741824] W fun e W' => e = .returned (.int .i64 X) ∧ W' = W) ∧ ((X = -1 ∧ 1073741824 < y) ∨ (X = (y : Int) ∧ y ≤ 1073741824)) := by
      by_cases q : 1073741824 < y
      · exact ⟨-1, fun W => small_gt y 1073741824 hy (by omega) q W, .inl ⟨rfl, q⟩⟩
      · exact ⟨y, fun W => small_le y 1073741824 hy (by omega) (by omega) W, .inr ⟨rfl, by omega⟩⟩
    have sz : ∃ X : Int, (∀ W, Calls Tryz.prog 76 #[.int .u64 z, .int .i64 400] W fun e W' => e = .returned (.int .i64 X) ∧ W' = W) ∧ ((X = -1 ∧ 400 < z) ∨ (X = (z : Int) ∧ z ≤ 400)) := by
      by_cases q : 400 < z
      · exact ⟨-1, fun W => small_gt z 400 hz (by omega) q W, .inl ⟨rfl, q⟩⟩
      · exact ⟨z, fun W => small_le z 400 hz (by omega) (by omega) W, .inr ⟨rfl, by omega⟩⟩
    obtain ⟨X, cx, ox⟩ := sx
    obtain ⟨Y, cy, oy⟩ := sy
    obtain ⟨Z, cz, oz⟩ := sz
    have CX := Lib.hid cx
    have CY := Lib.hid cy
    have CZ := Lib.hid cz
    clear cx cy cz
    by_cases hbad : X < 0 ∨ Y < 0 ∨ Z < 0
    · have HN := Lib.hid (show r = none by
        rw [← HR.out]; simp only [bytes12, List.length_cons, List.length_nil, List.getD_cons_zero, List.getD_cons_succ]
        rw [if_neg (by simp), if_pos (by simp), if_pos (by omega)])
      clear ox oy oz
      by_cases hX : X < 0
      · go_enter Tryz.func55, Tryz.ntmps55
        go_wp2_with fail
        go_quiet ((first | (go_at_call 76; with_reducible exact Calls.quiet_of_same (CX.out _)) | (go_at_call 76; with_reducible exact Calls.quiet_of_same (CY.out _)) | (go_at_call 76; with_reducible exact Calls.quiet_of_same (CZ.out _))))
        go_wp2_with fail
        refine bodyPost_ret (v := .tuple #[.string ⟨#[]⟩, .int .i64 0, .bool false]) (by simp [results, Tryz.results55, go_sem]) rfl ⟨b12_none HN.out, HB0.out.trans ((drewN_below _).mono HB0.out.size)⟩
      · by_cases hY : Y < 0
        · go_enter Tryz.func55, Tryz.ntmps55
          go_wp2_with fail
          go_quiet ((first | (go_at_call 76; with_reducible exact Calls.quiet_of_same (CX.out _)) | (go_at_call 76; with_reducible exact Calls.quiet_of_same (CY.out _)) | (go_at_call 76; with_reducible exact Calls.quiet_of_same (CZ.out _))))
          go_wp2_with fail
          refine bodyPost_ret (v := .tuple #[.string ⟨#[]⟩, .int .i64 0, .bool false]) (by simp [results, Tryz.results55, go_sem]) rfl ⟨b12_none HN.out, HB0.out.trans ((drewN_below _).mono HB0.out.size)⟩
        · have hZ : Z < 0 := by omega
          go_enter Tryz.func55, Tryz.ntmps55
          go_wp2_with fail
          go_quiet ((first | (go_at_call 76; with_reducible exact Calls.quiet_of_same (CX.out _)) | (go_at_call 76; with_reducible exact Calls.quiet_of_same (CY.out _)) | (go_at_call 76; with_reducible exact Calls.quiet_of_same (CZ.out _))))
          go_wp2_with fail
          refine bodyPost_ret (v := .tuple #[.string ⟨#[]⟩, .int .i64 0, .bool false]) (by simp [results, Tryz.results55, go_sem]) rfl ⟨b12_none HN.out, HB0.out.trans ((drewN_below _).mono HB0.out.size)⟩
    · obtain ⟨rfl, hx2⟩ : X = (x : Int) ∧ x ≤ 1073741824 := by omega
      obtain ⟨rfl, hy2⟩ : Y = (y : Int) ∧ y ≤ 1073741824 := by omega
      obtain ⟨rfl, hz2⟩ : Z = (z : Int) ∧ z ≤ 400 := by omega
      clear ox oy oz hbad hx hy hz
      have HP := Lib.hid (show r = if deep = false then some (⟨#[]⟩, z) else match S[x]? with | none => none | some s => if s.count ≠ 0 ∧ s.stamp = (y : Nat) ∧ s.bytes.size = z then some (s.bytes, z) else none by
        rw [← HR.out]; simp only [bytes12, List.length_cons, List.length_nil, List.getD_cons_zero, List.getD_cons_succ]
        rw [if_neg (by simp), if_pos (by simp), if_neg (by omega)])
      have n1 : ¬ (x : Int) < 0 := by omega
      have n2 : ¬ (y : Int) < 0 := by omega
      have n3 : ¬ (z : Int) < 0 := by omega
      cases deep
      · have HN := Lib.hid (show r = some (⟨#[]⟩, z) by rw [HP.out, if_pos rfl])
        go_enter Tryz.func55, Tryz.ntmps55
        go_wp2_with fail
        go_quiet ((first | (go_at_call 76; with_reducible exact Calls.quiet_of_same (CX.out _)) | (go_at_call 76; with_reducible exact Calls.quiet_of_same (CY.out _)) | (go_at_call 76; with_reducible exact Calls.quiet_of_same (CZ.out _))))
        go_wp2_with fail
        refine bodyPost_ret (v := .tuple #[.string ⟨#[]⟩, .int .i64 z, .bool true]) (by simp [results, Tryz.results55, go_sem]) rfl ⟨?_, HB0.out.trans ((drewN_below _).mono HB0.out.size)⟩
        exact ⟨⟨#[]⟩, z, true, rfl, by rw [HN.out]; rfl, by omega, by decide, fun p hp => by rw [HN.out] at hp; cases hp; rfl⟩
      · have HP2 := Lib.hid (show r = match S[x]? with | none => none | some s => if s.count ≠ 0 ∧ s.stamp = (y : Nat) ∧ s.bytes.size = z then some (s.bytes, z) else none by rw [HP.out, if_neg (by decide)])
        by_cases hlt : x < S.length
        · obtain ⟨gs, os, rfl, hst, hbs, s0, s1, s2⟩ := HSC.out x hlt
          have HG := Lib.hid (show S[x]? = some S[x] from List.getElem?_eq_getElem hlt)
          obtain ⟨⟨st, ct, by_⟩, hse⟩ : ∃ s, S[x] = s := ⟨_, rfl⟩
          rw [hse] at hst hbs s0 s1 s2 HG
          simp only at hst hbs s0 s1 s2
          have HP3 := Lib.hid (show r = if ct ≠ 0 ∧ st = (y : Int) ∧ by_.size = z then some (by_, z) else none by rw [HP2.out, HG.out])
          have q4 : ¬ (S.length : Int) ≤ (x : Int) := by omega
          have q6 : (x : Int) < (S.length : Int) := by omega
          have q7 : ¬ S.length ≤ x := by omega
          have up := fun {p : Addr} {v : Value} (q : w.cell? p = some v) (o : Obj) => (((Below.refl _ w).alloc (Nat.le_refl _) o).cell (World.block_lt_of_cell? w _ q)).trans q
          have b0 := up s0
          have b1 := up s1
          have b2 := up s2
          clear up s0 s1 s2 hse
          by_cases hc0 : ct = 0
          · have q9 : (ct == 0) = true := by simp [hc0]
            have HN := Lib.hid (show r = none by rw [HP3.out, if_neg (fun q => q.1 hc0)])
            clear hc0
            go_enter Tryz.func55, Tryz.ntmps55
            go_wp2_with fail
            go_quiet ((first | (go_at_call 76; with_reducible exact Calls.quiet_of_same (CX.out _)) | (go_at_call 76; with_reducible exact Calls.quiet_of_same (CY.out _)) | (go_at_call 76; with_reducible exact Calls.quiet_of_same (CZ.out _))))
            go_wp2_with fail
            refine bodyPost_ret (v := .tuple #[.string ⟨#[]⟩, .int .i64 0, .bool false]) (by simp [results, Tryz.results55, go_sem]) rfl ⟨b12_none HN.out, HB0.out.trans ((drewN_below _).mono HB0.out.size)⟩
          · have q9 : (ct == 0) = false := by simpa using hc0
            by_cases hs0 : st = (y : Int)
            · have q10 : (st != (y : Int)) = false := by simp [hs0]
              by_cases hz0 : by_.size = z
              · have q11 : ((by_.size : Int) != (z : Int)) = false := by simp [hz0]
                have HN := Lib.hid (show r = some (by_, z) by rw [HP3.out, if_pos ⟨hc0, hs0, hz0⟩])
                clear hs0 hc0 hz0
                go_enter Tryz.func55, Tryz.ntmps55
                go_wp2_with fail
                go_quiet ((first | (go_at_call 76; with_reducible exact Calls.quiet_of_same (CX.out _)) | (go_at_call 76; with_reducible exact Calls.quiet_of_same (CY.out _)) | (go_at_call 76; with_reducible exact Calls.quiet_of_same (CZ.out _))))
                go_wp2_with fail
                refine bodyPost_ret (v := .tuple #[.string by_, .int .i64 z, .bool true]) (by simp [results, Tryz.results55, go_sem]) rfl ⟨?_, HB0.out.trans ((drewN_below _).mono HB0.out.size)⟩
                exact ⟨by_, z, true, rfl, by rw [HN.out]; rfl, by omega, hbs, fun p hp => by rw [HN.out] at hp; cases hp; rfl⟩
              · have q11 : ((by_.size : Int) != (z : Int)) = true := by simp; omega
                have HN := Lib.hid (show r = none by rw [HP3.out, if_neg (fun q => hz0 q.2.2)])
                clear hs0 hc0 hz0
                go_enter Tryz.func55, Tryz.ntmps55
                go_wp2_with fail
                go_quiet ((first | (go_at_call 76; with_reducible exact Calls.quiet_of_same (CX.out _)) | (go_at_call 76; with_reducible exact Calls.quiet_of_same (CY.out _)) | (go_at_call 76; with_reducible exact Calls.quiet_of_same (CZ.out _))))
                go_wp2_with fail
                refine bodyPost_ret (v := .tuple #[.string ⟨#[]⟩, .int .i64 0, .bool false]) (by simp [results, Tryz.results55, go_sem]) rfl ⟨b12_none HN.out, HB0.out.trans ((drewN_below _).mono HB0.out.size)⟩
            · have q10 : (st != (y : Int)) = true := by simpa using hs0
              have HN := Lib.hid (show r = none by rw [HP3.out, if_neg (fun q => hs0 q.2.1)])
              clear hs0 hc0
              go_enter Tryz.func55, Tryz.ntmps55
              go_wp2_with fail
              go_quiet ((first | (go_at_call 76; with_reducible exact Calls.quiet_of_same (CX.out _)) | (go_at_call 76; with_reducible exact Calls.quiet_of_same (CY.out _)) | (go_at_call 76; with_reducible exact Calls.quiet_of_same (CZ.out _))))
              go_wp2_with fail
              refine bodyPost_ret (v := .tuple #[.string ⟨#[]⟩, .int .i64 0, .bool false]) (by simp [results, Tryz.results55, go_sem]) rfl ⟨b12_none HN.out, HB0.out.trans ((drewN_below _).mono HB0.out.size)⟩
        · have q4 : (S.length : Int) ≤ (x : Int) := by omega
          have q5 : S.length ≤ x := by omega
          have HN := Lib.hid (show r = none by rw [HP2.out, List.getElem?_eq_none q5])
          go_enter Tryz.func55, Tryz.ntmps55
          go_wp2_with fail
          go_quiet ((first | (go_at_call 76; with_reducible exact Calls.quiet_of_same (CX.out _)) | (go_at_call 76; with_reducible exact Calls.quiet_of_same (CY.out _)) | (go_at_call 76; with_reducible exact Calls.quiet_of_same (CZ.out _))))
          go_wp2_with fail
          refine bodyPost_ret (v := .tuple #[.string ⟨#[]⟩, .int .i64 0, .bool false]) (by simp [results, Tryz.results55, go_sem]) rfl ⟨b12_none HN.out, HB0.out.trans ((drewN_below _).mono HB0.out.size)⟩
  · have HN := Lib.hid (show bytes12 deep S 4 t = none by simp [bytes12, hl3])
    rw [HN.out]
    have q1 : ((t.length : Int) == 3) = false := by simp; omega
    obtain ⟨_, _, ra, rc, rfl, _⟩ := ht
    clear hl3 hs
    go_enter Tryz.func55, Tryz.ntmps55
    go_wp2_with fail
    refine bodyPost_ret (v := .tuple #[.string ⟨#[]⟩, .int .i64 0, .bool false]) (by simp [results, Tryz.results55, go_sem]) rfl ⟨b12_none rfl, HB0.out⟩

end Go.Proofs.YtlmpmjhanpkcnaaGreat
