/-
  Chapter 12's own look: a part of bytes (sub).
  A term is the same as itself: SameLimbs, SameNum, SameTerms, SameTerm.
-/
import Derived.Test.YtlmpmjhanpkcnaaGreatN16
import Derived.Test.YtlmpmjhanpkcnaaGreatN13
set_option linter.unusedVariables false
set_option linter.unusedSimpArgs false
namespace Go.Proofs.YtlmpmjhanpkcnaaGreat
open Go.RowKit

theorem bytes12_any (d : Dmp) (S : List Slt) (deep : Bool) (v tv : Value) (k : Int) (t : List Nat) (w : World) (h : LkAt w v d S deep) (ht : Ws w tv t) :
    Calls Tryz.prog 55 #[v, .int .i64 k, tv] w fun e w' => B12End (bytes12 deep S k t) e ∧ Below w.heap.size w w' := by
  by_cases h3 : k = 3
  · subst h3; exact bytes12_3 d S deep v tv t w h ht
  · by_cases h4 : k = 4
    · subst h4; exact bytes12_4 d S deep v tv t w h ht
    · exact bytes12_other d S deep v tv k t w h ht h3 h4

theorem packedP_len {t : List Nat} {n : Nat} {b : List UInt8} (h : packedP t n = some b) : b.length = n := by
  unfold packedP at h
  split at h
  · cases h
  · rename_i q
    split at h
    · cases h
      rw [List.length_take, bytesOf_length]; omega
    · cases h

theorem bytes12_len {deep : Bool} {S : List Slt} {k : Int} {t : List Nat} {s : ByteArray} {n : Nat} (h : bytes12 deep S k t = some (s, n)) : (deep = false ∧ k = 4) ∨ s.size = n := by
  unfold bytes12 at h
  split at h
  · split at h
    · cases h
    · right
      cases hp : packedP (t.drop 1) (t.getD 0 0) with
      | none => rw [hp] at h; cases h
      | some b =>
        rw [hp] at h
        cases h
        have := packedP_len hp
        simpa [ByteArray.size] using this
  · split at h
    · rename_i q
      split at h
      · cases h
      · split at h
        · rename_i q2; exact .inl ⟨q2, q.1⟩
        · cases hs : S[t.getD 0 0]? with
          | none => rw [hs] at h; cases h
          | some x =>
            rw [hs] at h
            simp only at h
            split at h
            · rename_i q3; cases h; exact .inr q3.2.2
            · cases h
    · cases h

/-- A part's bytes. -/
def sub12 (deep : Bool) (S : List Slt) (m : List Frg) (t : List Nat) : Option ByteArray :=
  if t.length ≠ 3 then none
  else (boxP m (t.getD 0 0)).bind fun o =>
    if 400 < t.getD 1 0 ∨ 400 < t.getD 2 0 then none
    else (bytes12 deep S o.1 o.2).bind fun p =>
      if (p.2 : Int) - (t.getD 1 0 : Nat) < (t.getD 2 0 : Nat) then none
      else if deep = false ∧ o.1 = 4 then some ⟨#[]⟩
      else some (p.1.extract (t.getD 1 0) (t.getD 1 0 + t.getD 2 0))

theorem str_none {r : Option ByteArray} (h : r = none) : StrEnd r (.returned (.tuple #[.string ⟨#[]⟩, .bool false])) := by
  subst h; exact ⟨⟨#[]⟩, false, rfl, rfl, by decide, fun s hs => by cases hs⟩

theorem small_or (x most : Nat) (hx : x < 18446744073709551616) (hm : most ≤ 1073741824) : ∃ X : Int, (∀ W, Calls Tryz.prog 76 #[.int .u64 x, .int .i64 most] W fun e W' => e = .returned (.int .i64 X) ∧ W' = W) ∧ ((X = -1 ∧ most < x) ∨ (X = (x : Int) ∧ x ≤ most)) := by
  by_cases q : most < x
  · exact ⟨-1, fun W => small_gt x most hx hm q W, .inl ⟨rfl, q⟩⟩
  · exact ⟨x, fun W => small_le x most hx hm (by omega) W, .inr ⟨rfl, by omega⟩⟩

set_option maxHeartbeats 4000000 in
set_option maxRecDepth 100000 in
theorem sub12_any (d : Dmp) (S : List Slt) (deep : Bool) (v tv : Value) (t : List Nat) (w : World) (h : LkAt w v d S deep) (ht : Ws w tv t) (hf : d.frags.length ≤ 100000) :
    Calls Tryz.prog 120 #[v, tv] w fun e w' => StrEnd (sub12 deep S d.mem t) e ∧ Below w.heap.size w w' := by
  have HLK := Lib.hid h
  obtain ⟨c1, c2, c3, c4, c5, c6, c7, s, rfl, hd, hs⟩ := h
  clear hd hs
  have HB0 := Lib.hid ((Below.refl w.heap.size w).alloc (Nat.le_refl _) (.cells #[c1, c2, c3, c4, .int .i64 d.size, .int .i64 d.mark, c5, c6, c7, s, .bool deep] 53))
  by_cases hl3 : t.length = 3
  · obtain ⟨x, y, z, rfl⟩ := three_of hl3
    obtain ⟨g, o, c, rfl, hlc, hcm, hml⟩ := ht.open (by simp)
    have k0 := ht.at (j := 0) (by simp)
    have k1 := ht.at (j := 1) (by simp)
    have k2 := ht.at (j := 2) (by simp)
    simp only [List.getD_cons_zero, List.getD_cons_succ, Nat.add_zero] at k0 k1 k2
    have hx := ht.2.1 x (by simp)
    have hy := ht.2.1 y (by simp)
    have hz := ht.2.1 z (by simp)
    obtain ⟨r, hr⟩ : ∃ r, sub12 deep S d.mem [x, y, z] = r := ⟨_, rfl⟩
    have HR := Lib.hid (show r = (boxP d.mem x).bind fun o =>
        if 400 < y ∨ 400 < z then none
        else (bytes12 deep S o.1 o.2).bind fun p =>
          if (p.2 : Int) - (y : Nat) < (z : Nat) then none
          else if deep = false ∧ o.1 = 4 then some ⟨#[]⟩
          else some (p.1.extract y (y + z)) by
      rw [← hr]; unfold sub12; rw [if_neg (by simp)]; rfl)
    rw [hr]
    clear hr ht hl3
    simp only [List.length_cons, List.length_nil] at hlc hml ⊢
    obtain ⟨Y, cy, oy⟩ := small_or y 400 hy (by omega)
    obtain ⟨Z, cz, oz⟩ := small_or z 400 hz (by omega)
    have CY := Lib.hid cy
    have CZ := Lib.hid cz
    have hY : Y ≤ 400 ∧ -1 ≤ Y := by omega
    have hZ : Z ≤ 400 ∧ -1 ≤ Z := by omega
    have HOY := Lib.hid oy
    have HOZ := Lib.hid oz
    clear cy cz oy oz
    obtain ⟨bx, hbx⟩ : ∃ bx, boxP d.mem x = bx := ⟨_, rfl⟩
    rw [hbx] at HR
    have HBOX := Lib.hid (show ∀ W, Below w.heap.size w W → Calls Tryz.prog 54 #[.agg #[c1, c2, c3, c4, .int .i64 d.size, .int .i64 d.mark, c5, c6, c7, s, .bool deep], .int .u64 x] W fun e w' => BoxEnd w' bx e ∧ Below W.heap.size W w' from
      fun W hb => by rw [← hbx]; exact box_any d S deep _ x W (HLK.out.below hb) hf hx)
    clear hbx
    have K1 := Lib.hid k1
    have K2 := Lib.hid k2
    go_enter Tryz.func120, Tryz.ntmps120
    go_wp2_with fail
    have hbd : Below w.heap.size w (w.alloc (.cells #[c1, c2, c3, c4, .int .i64 d.size, .int .i64 d.mark, c5, c6, c7, s, .bool deep] 53)).drew := HB0.out.drew
    have e0 : (w.alloc (.cells #[c1, c2, c3, c4, .int .i64 d.size, .int .i64 d.mark, c5, c6, c7, s, .bool deep] 53)).cell? ⟨w.heap.size, 0, none⟩ = some c1 := by simp
    have e1 : (w.alloc (.cells #[c1, c2, c3, c4, .int .i64 d.size, .int .i64 d.mark, c5, c6, c7, s, .bool deep] 53)).cell? ⟨w.heap.size, 1, none⟩ = some c2 := by simp
    have e2 : (w.alloc (.cells #[c1, c2, c3, c4, .int .i64 d.size, .int .i64 d.mark, c5, c6, c7, s, .bool deep] 53)).cell? ⟨w.heap.size, 2, none⟩ = some c3 := by simp
    have e3 : (w.alloc (.cells #[c1, c2, c3, c4, .int .i64 d.size, .int .i64 d.mark, c5, c6, c7, s, .bool deep] 53)).cell? ⟨w.heap.size, 3, none⟩ = some c4 := by simp
    have e4 : (w.alloc (.cells #[c1, c2, c3, c4, .int .i64 d.size, .int .i64 d.mark, c5, c6, c7, s, .bool deep] 53)).cell? ⟨w.heap.size, 4, none⟩ = some (.int .i64 d.size) := by simp
    have e5 : (w.alloc (.cells #[c1, c2, c3, c4, .int .i64 d.size, .int .i64 d.mark, c5, c6, c7, s, .bool deep] 53)).cell? ⟨w.heap.size, 5, none⟩ = some (.int .i64 d.mark) := by simp
    have e6 : (w.alloc (.cells #[c1, c2, c3, c4, .int .i64 d.size, .int .i64 d.mark, c5, c6, c7, s, .bool deep] 53)).cell? ⟨w.heap.size, 6, none⟩ = some c5 := by simp
    have e7 : (w.alloc (.cells #[c1, c2, c3, c4, .int .i64 d.size, .int .i64 d.mark, c5, c6, c7, s, .bool deep] 53)).cell? ⟨w.heap.size, 7, none⟩ = some c6 := by simp
    have e8 : (w.alloc (.cells #[c1, c2, c3, c4, .int .i64 d.size, .int .i64 d.mark, c5, c6, c7, s, .bool deep] 53)).cell? ⟨w.heap.size, 8, none⟩ = some c7 := by simp
    have e9 : (w.alloc (.cells #[c1, c2, c3, c4, .int .i64 d.size, .int .i64 d.mark, c5, c6, c7, s, .bool deep] 53)).cell? ⟨w.heap.size, 9, none⟩ = some s := by simp
    have e10 : (w.alloc (.cells #[c1, c2, c3, c4, .int .i64 d.size, .int .i64 d.mark, c5, c6, c7, s, .bool deep] 53)).cell? ⟨w.heap.size, 10, none⟩ = some (.bool deep) := by simp
    have a0 := (HB0.out.cell (World.block_lt_of_cell? w _ k0)).trans k0
    have hgw : g < w.heap.size := World.block_lt_of_cell? w _ k0
    clear k0 k1 k2
    have HW := Lib.hid (show Below w.heap.size w (w.alloc (.cells #[c1, c2, c3, c4, .int .i64 d.size, .int .i64 d.mark, c5, c6, c7, s, .bool deep] 53)) ∧ w.heap.size + 1 = (w.alloc (.cells #[c1, c2, c3, c4, .int .i64 d.size, .int .i64 d.mark, c5, c6, c7, s, .bool deep] 53)).heap.size from ⟨HB0.out, by simp⟩)
    generalize w.alloc (.cells #[c1, c2, c3, c4, .int .i64 d.size, .int .i64 d.mark, c5, c6, c7, s, .bool deep] 53) = wd at *
    go_cut [6, 7, 8] from 14 to 25 (fun kv bv ov wx => kv = .int .i64 (bx.getD (0, [])).1 ∧ ov = .bool bx.isSome ∧ Hid (Ws wx bv (bx.getD (0, [])).2) ∧ Hid (Below wd.heap.size wd wx))
    case first =>
      go_region_held3 (fun w' => w'.cell? ⟨w.heap.size, 0, none⟩ = some c1 ∧ w'.cell? ⟨w.heap.size, 1, none⟩ = some c2 ∧ w'.cell? ⟨w.heap.size, 2, none⟩ = some c3 ∧ w'.cell? ⟨w.heap.size, 3, none⟩ = some c4 ∧ w'.cell? ⟨w.heap.size, 4, none⟩ = some (.int .i64 d.size) ∧ w'.cell? ⟨w.heap.size, 5, none⟩ = some (.int .i64 d.mark) ∧ w'.cell? ⟨w.heap.size, 6, none⟩ = some c5 ∧ w'.cell? ⟨w.heap.size, 7, none⟩ = some c6 ∧ w'.cell? ⟨w.heap.size, 8, none⟩ = some c7 ∧ w'.cell? ⟨w.heap.size, 9, none⟩ = some s ∧ w'.cell? ⟨w.heap.size, 10, none⟩ = some (.bool deep) ∧ w'.cell? ⟨g, o, none⟩ = some (.int .u64 x)) (first | exact ⟨e0, e1, e2, e3, e4, e5, e6, e7, e8, e9, e10, a0⟩ | exact ⟨d0, d1, d2, d3, d4, d5, d6, d7, d8, d9, d10, d11⟩ | go_keep)
        ((go_at_call 54; refine (HBOX.out _ HW.out.1.drew).mono ?_; rintro e1 w3 ⟨⟨bv, rfl, hws⟩, hb3⟩
          have K := fun i => hb3.cell (p := ⟨w.heap.size, i, none⟩) (by have := HW.out.2; simp; omega)
          have d0 := (K 0).trans e0
          have d1 := (K 1).trans e1
          have d2 := (K 2).trans e2
          have d3 := (K 3).trans e3
          have d4 := (K 4).trans e4
          have d5 := (K 5).trans e5
          have d6 := (K 6).trans e6
          have d7 := (K 7).trans e7
          have d8 := (K 8).trans e8
          have d9 := (K 9).trans e9
          have d10 := (K 10).trans e10
          have d11 := (hb3.cell (p := ⟨g, o, none⟩) (by have := HW.out.2; simp; omega)).trans a0
          have HWS := Lib.hid hws
          have HB3 := Lib.hid hb3
          clear K hws hb3))
      all_goals go_wp2_with fail
      all_goals go_meet
      all_goals exact ⟨rfl, rfl, HWS, Lib.hid ((Below.refl wd.heap.size wd).drew.trans HB3.out)⟩
    case rest =>
      obtain ⟨rfl, rfl, HWS, HBC⟩ := hcut
      have HBW := Lib.hid (HW.out.1.trans (HBC.out.mono HW.out.1.size))
      have k1 := (HBW.out.cell (World.block_lt_of_cell? w _ K1.out)).trans K1.out
      have k2 := (HBW.out.cell (World.block_lt_of_cell? w _ K2.out)).trans K2.out
      have K := Lib.hid (fun i => HBC.out.cell (p := ⟨w.heap.size, i, none⟩) (by have := HW.out.2; simp; omega))
      have c0 := (K.out 0).trans e0
      have cc1 := (K.out 1).trans e1
      have cc2 := (K.out 2).trans e2
      have cc3 := (K.out 3).trans e3
      have cc4 := (K.out 4).trans e4
      have cc5 := (K.out 5).trans e5
      have cc6 := (K.out 6).trans e6
      have cc7 := (K.out 7).trans e7
      have cc8 := (K.out 8).trans e8
      have cc9 := (K.out 9).trans e9
      have cc10 := (K.out 10).trans e10
      clear e0 e1 e2 e3 e4 e5 e6 e7 e8 e9 e10 a0
      cases bx with
      | none =>
        have HN := Lib.hid (show r = none from HR.out)
        obtain ⟨_, _, ra, rc, rfl, _⟩ := HWS.out
        simp only [Option.getD_none, Option.isSome_none]
        go_wp2_with fail
        go_quiet ((first | (go_at_call 76; with_reducible exact Calls.quiet_of_same (CY.out _)) | (go_at_call 76; with_reducible exact Calls.quiet_of_same (CZ.out _))))
        go_wp2_with fail
        refine bodyPost_ret (v := .tuple #[.string ⟨#[]⟩, .bool false]) (by simp [results, Tryz.results120, go_sem]) rfl ⟨str_none HN.out, HBW.out.trans ((drewN_below _).mono HBW.out.size)⟩
      | some bp =>
        obtain ⟨k, l⟩ := bp
        simp only [Option.getD_some, Option.isSome_some] at HWS ⊢
        have HR2 := Lib.hid (show r = if 400 < y ∨ 400 < z then none else (bytes12 deep S k l).bind fun p => if (p.2 : Int) - (y : Nat) < (z : Nat) then none else if deep = false ∧ k = 4 then some ⟨#[]⟩ else some (p.1.extract y (y + z)) from HR.out)
        obtain ⟨_, _, ra, rc, rfl, _⟩ := id HWS.out
        by_cases hY0 : Y < 0
        · have HN := Lib.hid (show r = none by have := HOY.out; rw [HR2.out, if_pos (by omega)])
          go_wp2_with fail
          go_quiet ((first | (go_at_call 76; with_reducible exact Calls.quiet_of_same (CY.out _)) | (go_at_call 76; with_reducible exact Calls.quiet_of_same (CZ.out _))))
          go_wp2_with fail
          refine bodyPost_ret (v := .tuple #[.string ⟨#[]⟩, .bool false]) (by simp [results, Tryz.results120, go_sem]) rfl ⟨str_none HN.out, HBW.out.trans ((drewN_below _).mono HBW.out.size)⟩
        · by_cases hZ0 : Z < 0
          · have HN := Lib.hid (show r = none by have := HOZ.out; rw [HR2.out, if_pos (by omega)])
            go_wp2_with fail
            go_quiet ((first | (go_at_call 76; with_reducible exact Calls.quiet_of_same (CY.out _)) | (go_at_call 76; with_reducible exact Calls.quiet_of_same (CZ.out _))))
            go_wp2_with fail
            refine bodyPost_ret (v := .tuple #[.string ⟨#[]⟩, .bool false]) (by simp [results, Tryz.results120, go_sem]) rfl ⟨str_none HN.out, HBW.out.trans ((drewN_below _).mono HBW.out.size)⟩
          · obtain ⟨rfl, hy2⟩ : Y = (y : Int) ∧ y ≤ 400 := by have := HOY.out; omega
            obtain ⟨rfl, hz2⟩ : Z = (z : Int) ∧ z ≤ 400 := by have := HOZ.out; omega
            have HR3 := Lib.hid (show r = (bytes12 deep S k l).bind fun p => if (p.2 : Int) - (y : Nat) < (z : Nat) then none else if deep = false ∧ k = 4 then some ⟨#[]⟩ else some (p.1.extract y (y + z)) by rw [HR2.out, if_neg (by omega)])
            clear hY hZ HOY HOZ hx hy hz
            go_wp2_with fail
            go_quiet ((first | (go_at_call 76; with_reducible exact Calls.quiet_of_same (CY.out _)) | (go_at_call 76; with_reducible exact Calls.quiet_of_same (CZ.out _))))
            go_wp2_with fail
            refine (bytes12_any d S deep _ _ k l _ (HLK.out.below (HBW.out.trans ((drewN_below _).mono HBW.out.size))) (HWS.out.below (drewN_below _))).mono ?_
            rintro e2 w4 ⟨⟨bs, n, ok, rfl, hok, hn4, hsz, hp⟩, hb4⟩
            have HB4 := Lib.hid ((HBW.out.trans ((drewN_below nq).mono HBW.out.size)).trans (hb4.mono (by have := HBW.out.size; simpa using this)))
            have c10' := (hb4.cell (p := ⟨w.heap.size, 10, none⟩) (by have := HW.out.2; have := HBC.out.size; simp; omega)).trans cc10
            obtain ⟨br, hbr⟩ : ∃ br, bytes12 deep S k l = br := ⟨_, rfl⟩
            rw [hbr] at HR3 hok hp
            have HBR := Lib.hid hbr
            have HP := Lib.hid hp
            clear hbr hb4 k1 k2 c0 cc1 cc2 cc3 cc4 cc5 cc6 cc7 cc8 cc9 cc10 hp
            cases br with
            | none =>
              have HN := Lib.hid (show r = none from HR3.out)
              subst hok
              simp only [Option.isSome_none]
              go_wp2_with fail
              refine bodyPost_ret (v := .tuple #[.string ⟨#[]⟩, .bool false]) (by simp [results, Tryz.results120, go_sem]) rfl ⟨str_none HN.out, HB4.out⟩
            | some p =>
              obtain rfl := HP.out p rfl
              subst hok
              simp only [Option.isSome_some]
              have q1 : IntKind.i64.wrap ((n : Int) - (y : Int)) = (n : Int) - (y : Int) := IntWalk.i64_in _ (by omega)
              by_cases hlt : (n : Int) - (y : Int) < (z : Int)
              · have HN := Lib.hid (show r = none by rw [HR3.out]; simp only [Option.bind_some]; rw [if_pos hlt])
                go_wp2_with fail
                refine bodyPost_ret (v := .tuple #[.string ⟨#[]⟩, .bool false]) (by simp [results, Tryz.results120, go_sem]) rfl ⟨str_none HN.out, HB4.out⟩
              · have HR4 := Lib.hid (show r = if deep = false ∧ k = 4 then some ⟨#[]⟩ else some (bs.extract y (y + z)) by rw [HR3.out]; simp only [Option.bind_some]; rw [if_neg hlt])
                have HLN := Lib.hid (bytes12_len HBR.out)
                by_cases hd4 : deep = false ∧ k = 4
                · obtain ⟨rfl, rfl⟩ := hd4
                  have HN := Lib.hid (show r = some ⟨#[]⟩ by rw [HR4.out]; rfl)
                  go_wp2_with fail
                  refine bodyPost_ret (v := .tuple #[.string ⟨#[]⟩, .bool true]) (by simp [results, Tryz.results120, go_sem]) rfl ⟨?_, HB4.out⟩
                  exact ⟨⟨#[]⟩, true, rfl, by rw [HN.out]; rfl, by decide, fun s hs => by rw [HN.out] at hs; cases hs; rfl⟩
                · have HN := Lib.hid (show r = some (bs.extract y (y + z)) by rw [HR4.out, if_neg hd4])
                  have hbn : bs.size = n := by
                    rcases HLN.out with q | q
                    · exact absurd q hd4
                    · exact q
                  have q5 : y + z ≤ bs.size := by omega
                  have q6 : (y : Int) + (z : Int) ≤ (bs.size : Int) := by omega
                  have q8 : ((y : Int) + (z : Int)).toNat = y + z := by omega
                  have q9 : (0 : Int) ≤ (y : Int) + (z : Int) := by omega
                  have q10 : (y : Int) ≤ (y : Int) + (z : Int) := by omega
                  have q11 : y ≤ bs.size := by omega
                  have q7 : IntKind.i64.wrap ((y : Int) + (z : Int)) = (y : Int) + (z : Int) := IntWalk.i64_in _ (by omega)
                  have HEX := Lib.hid (show (bs.extract y (y + z)).size ≤ 1000000 by rw [ByteArray.size_extract]; exact Nat.le_trans (Nat.sub_le _ _) (by omega))
                  have HND := Lib.hid hd4
                  clear hbn
                  cases deep
                  · have q12 : (k == 4) = false := by
                      have := HND.out
                      simp at this
                      simpa using this
                    clear hd4
                    go_wp2_with fail
                    refine bodyPost_ret (v := .tuple #[.string (bs.extract y (y + z)), .bool true]) (by simp [results, Tryz.results120, go_sem]) rfl ⟨?_, HB4.out⟩
                    exact ⟨_, true, rfl, by rw [HN.out]; rfl, HEX.out, fun s hs => by rw [HN.out] at hs; cases hs; rfl⟩
                  · clear hd4
                    go_wp2_with fail
                    refine bodyPost_ret (v := .tuple #[.string (bs.extract y (y + z)), .bool true]) (by simp [results, Tryz.results120, go_sem]) rfl ⟨?_, HB4.out⟩
                    exact ⟨_, true, rfl, by rw [HN.out]; rfl, HEX.out, fun s hs => by rw [HN.out] at hs; cases hs; rfl⟩
  · have HN := Lib.hid (show sub12 deep S d.mem t = none by simp [sub12, hl3])
    rw [HN.out]
    have q1 : ((t.length : Int) != 3) = true := by simp; omega
    obtain ⟨_, _, ra, rc, rfl, _⟩ := ht
    clear hl3
    go_enter Tryz.func120, Tryz.ntmps120
    go_wp2_with fail
    refine bodyPost_ret (v := .tuple #[.string ⟨#[]⟩, .bool false]) (by simp [results, Tryz.results120, go_sem]) rfl ⟨str_none rfl, HB0.out⟩

end Go.Proofs.YtlmpmjhanpkcnaaGreat

namespace Go.Proofs.YtlmpmjhanpkcnaaGreat
open Go.RowKit

/-- By a term's parts. -/
theorem Tm.ind {P : Tm → Prop} (h : ∀ k n neg mag bits bytes args, (∀ t ∈ args, P t) → P (.mk k n neg mag bits bytes args)) : ∀ t, P t
  | .mk k n neg mag bits bytes args => h k n neg mag bits bytes args (fun t _ => Tm.ind h t)
termination_by t => SizeOf.sizeOf t
decreasing_by
  rename_i ht
  have := List.sizeOf_lt_of_mem ht
  simp
  omega

theorem TmAt.lower {P : Nat → Prop} {w w' : World} {v : Value} {t : Tm} (h : TmAt P w v t) (hb : Below w.heap.size w w') : TmAt P w' v t := h.lift (fun k _ hk => hb.block k hk)

theorem MsP.below {P : Nat → Prop} {w w' : World} {v : Value} {l : List Nat} (h : MsP P w v l) (hb : Below w.heap.size w w') : MsP P w' v l := h.lift (fun k _ hk => hb.block k hk)

def TrueEnd (w w' : World) (e : Ending) : Prop := e = .returned (.bool true) ∧ Below w.heap.size w w'

set_option maxHeartbeats 2000000 in
theorem limbs_same (P P' : Nat → Prop) (m : List Nat) (v v' : Value) (w : World) (h : MsP P w v m) (h' : MsP P' w v' m) (hl : m.length ≤ maxLen) : Calls Tryz.prog 99 #[v, v'] w fun e w' => TrueEnd w w' e := by
  obtain ⟨a, c, rfl, hc⟩ := h
  obtain ⟨a', c', rfl, hc'⟩ := h'
  have HC := Lib.hid hc
  have HC' := Lib.hid hc'
  unfold maxLen at hl
  clear hc hc'
  go_enter Tryz.func99, Tryz.ntmps99
  go_wp2_with fail
  go_loopw [5] (fun i wr => ∃ (k : Nat), k ≤ m.length ∧ i = .int .i64 k ∧ Hid (Below w.heap.size w wr)) (fun i _ => m.length - (intOf i).toNat)
  case atStart => exact ⟨0, by omega, rfl, Lib.hid (Below.refl _ _)⟩
  case round =>
    obtain ⟨k, hk, rfl, HB⟩ := hrel
    by_cases hlt : k < m.length
    · have q1 : (k : Int) < (m.length : Int) := by omega
      have q0 : (0 : Int) ≤ (k : Int) := by omega
      obtain ⟨g, o, rfl, -, k0⟩ := HC.out k hlt
      obtain ⟨g', o', rfl, -, k1⟩ := HC'.out k hlt
      have k0 := (HB.out.cell (World.block_lt_of_cell? w _ k0)).trans k0
      have k1 := (HB.out.cell (World.block_lt_of_cell? w _ k1)).trans k1
      obtain ⟨x, hx⟩ : ∃ x, m[k]'hlt = x := ⟨_, rfl⟩
      rw [hx] at k0 k1
      clear hx
      have q2 : ((x : Int) != (x : Int)) = false := by simp
      have QK := Lib.hid (show k + 1 ≤ m.length ∧ m.length - (k + 1) < m.length - k by omega)
      go_upto_region 6 with fail
      go_quiet (fail)
      have q5 : IntKind.i64.wrap ((k : Int) + 1) = (k : Int) + 1 := IntWalk.i64_in _ (by omega)
      go_wp2_with fail
      go_roundw
      case rel => exact ⟨k + 1, QK.out.1, by go_num, Lib.hid (HB.out.trans ((drewN_below _).mono HB.out.size))⟩
      case measure => clear q5; have := QK.out.2; simp [intOf]; omega
    · obtain rfl : k = m.length := by omega
      have q1 : ¬ (m.length : Int) < (m.length : Int) := by omega
      go_wp2_with fail
      go_ret
      exact ⟨rfl, HB.out⟩

theorem two_at' (w : World) (o o' : Obj) : ((w.alloc o).alloc o').heap[w.heap.size]? = some o ∧ ((w.alloc o).alloc o').heap[w.heap.size + 1]? = some o' ∧ Below w.heap.size w ((w.alloc o).alloc o') := by
  have T := two_at w o o'
  exact ⟨T.1, T.2.1, T.2.2.2⟩

set_option maxHeartbeats 2000000 in
theorem num_same (P P' : Nat → Prop) (neg : Bool) (m : List Nat) (v v' : Value) (w : World) (h : MsP P w v m) (h' : MsP P' w v' m) (hl : m.length ≤ maxLen) : Calls Tryz.prog 68 #[.agg #[.bool neg, v], .agg #[.bool neg, v']] w fun e w' => TrueEnd w w' e := by
  have HM := Lib.hid h
  have HM' := Lib.hid h'
  have HL := Lib.hid hl
  obtain ⟨a, c, rfl, -⟩ := h
  obtain ⟨a', c', rfl, -⟩ := h'
  clear hl
  have T := two_at' w (.cells #[.bool neg, .slice a m.length c] 78) (.cells #[.bool neg, .slice a' m.length c'] 78)
  go_enter Tryz.func68, Tryz.ntmps68
  go_upto_region 1 with fail
  generalize (w.alloc (.cells #[.bool neg, .slice a m.length c] 78)).alloc (.cells #[.bool neg, .slice a' m.length c'] 78) = W at *
  have A0 := Lib.hid T.1
  have A1 := Lib.hid T.2.1
  have AB := Lib.hid T.2.2
  clear T
  have c0 := cell_of A0.out 0
  have c1 := cell_of A0.out 1
  have d0 := cell_of A1.out 0
  have d1 := cell_of A1.out 1
  simp at c0 c1 d0 d1
  have q : (neg == neg) = true := by simp
  go_wp2_with fail
  refine (limbs_same P P' m _ _ W (HM.out.below AB.out) (HM'.out.below AB.out) HL.out).mono ?_
  rintro e w2 ⟨rfl, hb⟩
  have HB := Lib.hid (AB.out.trans (hb.mono AB.out.size))
  clear hb c0 c1 d0 d1
  go_wp2_with fail
  go_ret
  exact ⟨rfl, HB.out⟩

/-- A term's value is the same as another one's. -/
def SameOK (t : Tm) : Prop := ∀ (P P' : Nat → Prop) (v v' : Value) (w : World), TmAt P w v t → TmAt P' w v' t → Calls Tryz.prog 37 #[v, v'] w fun e w' => TrueEnd w w' e

set_option maxHeartbeats 4000000 in
set_option maxRecDepth 100000 in
theorem terms_same (P P' : Nat → Prop) (args : List Tm) (a a' : Option Addr) (c c' : Nat) (w : World) (cells cells' : Nat → Array Value)
    (hc : ∀ j, j < args.length → ∃ g o, a = some ⟨g, o, none⟩ ∧ P g ∧ ∀ i, i < 7 → w.cell? ⟨g, o + j * 7 + i, none⟩ = (cells j)[i]?) (ht : ∀ j, (hj : j < args.length) → TmAt P w (.agg (cells j)) args[j])
    (hc' : ∀ j, j < args.length → ∃ g o, a' = some ⟨g, o, none⟩ ∧ P' g ∧ ∀ i, i < 7 → w.cell? ⟨g, o + j * 7 + i, none⟩ = (cells' j)[i]?) (ht' : ∀ j, (hj : j < args.length) → TmAt P' w (.agg (cells' j)) args[j])
    (hl : args.length ≤ maxLen) (ih : ∀ t ∈ args, SameOK t) : Calls Tryz.prog 69 #[.slice a args.length c, .slice a' args.length c'] w fun e w' => TrueEnd w w' e := by
  have HC := Lib.hid hc
  have HT := Lib.hid ht
  have HC' := Lib.hid hc'
  have HT' := Lib.hid ht'
  have IH := Lib.hid ih
  unfold maxLen at hl
  clear hc ht hc' ht' ih
  go_enter Tryz.func69, Tryz.ntmps69
  go_wp2_with fail
  go_loopw [5] (fun i wr => ∃ (k : Nat), k ≤ args.length ∧ i = .int .i64 k ∧ Hid (Below w.heap.size w wr)) (fun i _ => args.length - (intOf i).toNat)
  case atStart => exact ⟨0, by omega, rfl, Lib.hid (Below.refl _ _)⟩
  case round =>
    obtain ⟨k, hk, rfl, HB⟩ := hrel
    by_cases hlt : k < args.length
    · have q1 : (k : Int) < (args.length : Int) := by omega
      have q0 : (0 : Int) ≤ (k : Int) := by omega
      obtain ⟨g, o, rfl, -, k0⟩ := HC.out k hlt
      obtain ⟨g', o', rfl, -, k1⟩ := HC'.out k hlt
      have h1 := HT.out k hlt
      have h1' := HT'.out k hlt
      have HI := Lib.hid (IH.out _ (List.getElem_mem hlt))
      obtain ⟨t, htt⟩ : ∃ t, args[k]'hlt = t := ⟨_, rfl⟩
      rw [htt] at h1 h1' HI
      clear htt
      obtain ⟨e0, e1, e2, e3, e4, e5, e6, e7, e8, e9, e10, hcv⟩ := h1.shape
      obtain ⟨d0, d1, d2, d3, d4, d5, d6, d7, d8, d9, d10, hcv'⟩ := h1'.shape
      simp only [Value.agg.injEq] at hcv hcv'
      rw [hcv] at k0 h1
      rw [hcv'] at k1 h1'
      have HV := Lib.hid h1
      have HV' := Lib.hid h1'
      have up := fun {p : Addr} {v : Value} (q : w.cell? p = some v) => (HB.out.cell (World.block_lt_of_cell? w _ q)).trans q
      have x0 := up (k0 0 (by omega))
      have x1 := up (k0 1 (by omega))
      have x2 := up (k0 2 (by omega))
      have x3 := up (k0 3 (by omega))
      have x4 := up (k0 4 (by omega))
      have x5 := up (k0 5 (by omega))
      have x6 := up (k0 6 (by omega))
      have y0 := up (k1 0 (by omega))
      have y1 := up (k1 1 (by omega))
      have y2 := up (k1 2 (by omega))
      have y3 := up (k1 3 (by omega))
      have y4 := up (k1 4 (by omega))
      have y5 := up (k1 5 (by omega))
      have y6 := up (k1 6 (by omega))
      have DB := Lib.hid (show Below wr.heap.size wr wr.drew from (Below.refl _ _).drew)
      clear k0 k1 h1 h1' hcv hcv' up
      have QK := Lib.hid (show k + 1 ≤ args.length ∧ args.length - (k + 1) < args.length - k by omega)
      go_upto_region 6 with fail
      refine wp_region_still_tail 8 (by kernel_rfl) (by kernel_rfl) ?_
      simp only [List.take_succ_cons, List.take_zero, List.drop_succ_cons, List.drop_zero]
      change wpStill _ _ wr.drew (fun a' => wpList _ _ _ _ a' wr.drew) _ _
      have x0 : wr.drew.cell? _ = _ := x0
      have x1 : wr.drew.cell? _ = _ := x1
      have x2 : wr.drew.cell? _ = _ := x2
      have x3 : wr.drew.cell? _ = _ := x3
      have x4 : wr.drew.cell? _ = _ := x4
      have x5 : wr.drew.cell? _ = _ := x5
      have x6 : wr.drew.cell? _ = _ := x6
      have y0 : wr.drew.cell? _ = _ := y0
      have y1 : wr.drew.cell? _ = _ := y1
      have y2 : wr.drew.cell? _ = _ := y2
      have y3 : wr.drew.cell? _ = _ := y3
      have y4 : wr.drew.cell? _ = _ := y4
      have y5 : wr.drew.cell? _ = _ := y5
      have y6 : wr.drew.cell? _ = _ := y6
      generalize wr.drew = wd at *
      simp at x0 x1 x2 x3 x4 x5 x6 y0 y1 y2 y3 y4 y5 y6
      have HBD := Lib.hid (HB.out.trans (DB.out.mono HB.out.size))
      repeat still_step
      refine wpStill_nil ?_
      go_wp2_with fail
      have HC := HI.out P P' _ _ wd (HV.out.lower HBD.out) (HV'.out.lower HBD.out)
      with_reducible refine HC.mono ?_
      clear HC
      rintro e w6 ⟨rfl, hb6⟩
      have HB6 := Lib.hid (HBD.out.trans (hb6.mono HBD.out.size))
      clear hb6 x0 x1 x2 x3 x4 x5 x6 y0 y1 y2 y3 y4 y5 y6
      have q5 : IntKind.i64.wrap ((k : Int) + 1) = (k : Int) + 1 := IntWalk.i64_in _ (by omega)
      go_wp2_with fail
      go_roundw
      case rel => exact ⟨k + 1, QK.out.1, by go_num, HB6⟩
      case measure => clear q5; have := QK.out.2; simp [intOf]; omega
    · obtain rfl : k = args.length := by omega
      have q1 : ¬ (args.length : Int) < (args.length : Int) := by omega
      go_wp2_with fail
      go_ret
      exact ⟨rfl, HB.out⟩

theorem cells_low {P : Nat → Prop} {args : List Tm} {a : Option Addr} {w w' : World} {cells : Nat → Array Value}
    (hc : ∀ j, j < args.length → ∃ g o, a = some ⟨g, o, none⟩ ∧ P g ∧ ∀ i, i < 7 → w.cell? ⟨g, o + j * 7 + i, none⟩ = (cells j)[i]?) (ht : ∀ j, (hj : j < args.length) → TmAt P w (.agg (cells j)) args[j]) (hb : Below w.heap.size w w') :
    ∀ j, j < args.length → ∃ g o, a = some ⟨g, o, none⟩ ∧ P g ∧ ∀ i, i < 7 → w'.cell? ⟨g, o + j * 7 + i, none⟩ = (cells j)[i]? := by
  intro j hj
  obtain ⟨g, o, e, hp, k⟩ := hc j hj
  refine ⟨g, o, e, hp, fun i hi => ?_⟩
  obtain ⟨u, hu⟩ := (ht j hj).seven i hi
  have h1 := k i hi
  rw [hu] at h1 ⊢
  exact (hb.cell (World.block_lt_of_cell? w _ h1)).trans h1

set_option maxHeartbeats 4000000 in
set_option maxRecDepth 100000 in
theorem same_any : ∀ t : Tm, SameOK t := by
  refine Tm.ind fun k n neg mag bits bytes args ih => ?_
  intro P P' v v' w h h'
  cases h with
  | @mk _ _ _ _ _ _ _ mv a cap cells hk hn hm hml hu hbt hs hal hc ht =>
    cases h' with
    | @mk _ _ _ _ _ _ _ mv' a' cap' cells' _ _ hm' _ _ _ _ _ hc' ht' =>
      have HM := Lib.hid hm
      have HM' := Lib.hid hm'
      have HML := Lib.hid hml
      have HAL := Lib.hid hal
      have HC := Lib.hid hc
      have HT := Lib.hid ht
      have HC' := Lib.hid hc'
      have HT' := Lib.hid ht'
      have IH := Lib.hid ih
      obtain ⟨ma, mc, rfl, -⟩ := hm
      obtain ⟨ma', mc', rfl, -⟩ := hm'
      clear hml hal hc ht hc' ht' ih hk hn hu hbt hs
      have T := two_at' w (.cells #[.int .i64 k, .int .i64 n, .bool neg, .slice ma mag.length mc, .int .u64 bits, .string bytes, .slice a args.length cap] 81) (.cells #[.int .i64 k, .int .i64 n, .bool neg, .slice ma' mag.length mc', .int .u64 bits, .string bytes, .slice a' args.length cap'] 81)
      go_enter Tryz.func37, Tryz.ntmps37
      go_upto_region 1 with fail
      generalize (w.alloc (.cells #[.int .i64 k, .int .i64 n, .bool neg, .slice ma mag.length mc, .int .u64 bits, .string bytes, .slice a args.length cap] 81)).alloc (.cells #[.int .i64 k, .int .i64 n, .bool neg, .slice ma' mag.length mc', .int .u64 bits, .string bytes, .slice a' args.length cap'] 81) = W at *
      have A0 := Lib.hid T.1
      have A1 := Lib.hid T.2.1
      have AB := Lib.hid T.2.2
      clear T
      have c := fun i => cell_of A0.out i
      have d := fun i => cell_of A1.out i
      have q1 : (k == k) = true := by simp
      have q2 : (n == n) = true := by simp
      go_wp2_with fail
      clear c d q1 q2
      refine (num_same P P' neg mag _ _ W (HM.out.below AB.out) (HM'.out.below AB.out) HML.out).mono ?_
      rintro e w2 ⟨rfl, hb⟩
      have B0 := Lib.hid ((hb.block _ (lt_of_block A0.out)).trans A0.out)
      have B1 := Lib.hid ((hb.block _ (lt_of_block A1.out)).trans A1.out)
      have BB := Lib.hid (AB.out.trans (hb.mono AB.out.size))
      have c := fun i => cell_of B0.out i
      have d := fun i => cell_of B1.out i
      have q1 : ((bits : Int) == (bits : Int)) = true := by simp
      clear hb
      go_wp2_with fail
      clear c d q1
      have HX := terms_same P P' args a a' cap cap' w2 cells cells' (cells_low HC.out HT.out BB.out) (fun j hj => (HT.out j hj).lower BB.out) (cells_low HC'.out HT'.out BB.out) (fun j hj => (HT'.out j hj).lower BB.out) HAL.out IH.out
      with_reducible refine HX.mono ?_
      clear HX
      rintro e w3 ⟨rfl, hb⟩
      have CB := Lib.hid (BB.out.trans (hb.mono BB.out.size))
      clear hb
      go_wp2_with fail
      go_ret
      exact ⟨rfl, CB.out⟩

/-! ### A word that is moved -/

end Go.Proofs.YtlmpmjhanpkcnaaGreat
