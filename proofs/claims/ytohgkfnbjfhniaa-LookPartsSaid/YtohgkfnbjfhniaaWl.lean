/-
  What stands at a spot: Object, whatever may say of a head's words.
-/
import Derived.Test.YtohgkfnbjfhniaaWi
namespace Go.Proofs.Ytohgkfnbjfhniaa
open Go.RowKit

/-- What stands at a spot, when R says which heads' words may be. -/
def objR (m : List Frg) (R : Int → List Nat → Bool) (a t : Int) : Option (Int × List Nat) :=
  if t = 5 then (wordsP m a 2).bind fun l => if allP l = true then some (-1, l) else none
  else (headAt m a).bind fun o => if R o.1 o.2 = true then some o else none

theorem Ws.set {w : World} {v : Value} {l : List Nat} {b i : Nat} {x : Int} {p : Option Addr} {q r : Nat} {t : TypeId} (h : Ws w v l) (hb : w.heap[b]? = some (.cells #[.int .i64 x, .slice p q r] t (0, 0))) (u : Value) : Ws (w.setCell ⟨b, i, none⟩ u) v l := by
  obtain ⟨h1, h2, a, cap, rfl, h3, h4, hc⟩ := h
  refine ⟨h1, h2, a, cap, rfl, h3, h4, fun j hj => ?_⟩
  obtain ⟨g, o, rfl, k⟩ := hc j hj
  refine ⟨g, o, rfl, ?_⟩
  by_cases e : g = b
  · exfalso
    subst e
    rw [cell_of hb] at k
    match o + j, k with
    | 0, k => simp at k
    | 1, k => simp at k
    | n + 2, k => simp at k
  · rw [World.cell?_of_block (w := w) (Below.heap_setCell _ _ _ _ (by simpa using e))]; exact k

/-- An object stored into the result's block. -/
theorem obj_store {w : World} {l : List Nat} {b n c B : Nat} {x k : Int} {p va : Option Addr} {q r : Nat} {t : TypeId} (hb : w.heap[b]? = some (.cells #[.int .i64 x, .slice p q r] t (0, 0))) (hw : Ws w (.slice va n c) l) (hB : B ≤ b) :
    Ws ((w.setCell ⟨b, 0, none⟩ (.int .i64 k)).setCell ⟨b, 1, none⟩ (.slice va n c)) (.slice va n c) l ∧ Below B w ((w.setCell ⟨b, 0, none⟩ (.int .i64 k)).setCell ⟨b, 1, none⟩ (.slice va n c)) := by
  have h1 := set_of hb 0 (.int .i64 k)
  exact ⟨(hw.set hb _).set (x := k) (p := p) (q := q) (r := r) (t := t) h1 _, ((Below.refl B w).setCell (p := ⟨b, 0, none⟩) hB _).setCell (p := ⟨b, 1, none⟩) hB _⟩

theorem words_none {m : List Frg} {a : Int} (h : wordsP m a 1 = none) : headAt m a = none := by unfold headAt; rw [h]; rfl

set_option maxHeartbeats 8000000 in
set_option maxRecDepth 100000 in
theorem object_of (m : List Frg) (mv : Value) (R : Int → List Nat → Bool) (a t : Int) (w : World) (hm : RsAt w mv m) (ha : -9223372036854775808 ≤ a ∧ a ≤ 9223372036854775807)
    (hR : t ≠ 5 → ∀ k l lv w', headAt m a = some (k, l) → Below w.heap.size w w' → RsAt w' mv m → Ws w' lv l → 1 ≤ l.length → Calls Try.prog 46 #[mv, .int .i64 k, lv] w' fun e w'' => e = .returned (.bool (R k l)) ∧ Below w'.heap.size w' w'') :
    Calls Try.prog 27 #[mv, .agg #[.int .i64 a, .int .i64 t]] w fun e w' => ObjEnd w' (objR m R a t) e ∧ Below w.heap.size w w' := by
  have HM := Lib.hid hm
  have HR := Lib.hid hR
  obtain ⟨-, ma, mc, rfl, -⟩ := hm
  clear hR
  obtain ⟨w0, hw0⟩ : ∃ w0, (w.alloc (.cells #[.int .i64 a, .int .i64 t] 68)).alloc (.cells #[.int .i64 0, .slice none 0 0] 70) = w0 := ⟨_, rfl⟩
  have T := two_at w (.cells #[.int .i64 a, .int .i64 t] 68) (.cells #[.int .i64 0, .slice none 0 0] 70)
  rw [hw0] at T
  have HBX := Lib.hid T.1
  have HOB := Lib.hid T.2.1
  have HSZ := Lib.hid T.2.2.1
  have HBL := Lib.hid T.2.2.2
  have HW0 := Lib.hid hw0
  clear T hw0
  by_cases h5 : t = 5
  · subst h5
    have HO := Lib.hid (show objR m R a 5 = (wordsP m a 2).bind fun l => if allP l = true then some (-1, l) else none by unfold objR; rw [if_pos rfl])
    go_enter Try.func27, Try.ntmps27
    go_wp2_with fail
    rw [HW0.out]
    refine (words_any m _ a 2 w0 (HM.out.below HBL.out) ha (by omega)).mono ?_
    rintro e w1 ⟨⟨v1, rfl, hv1⟩, hb1⟩
    have HB1 := Lib.hid (HBL.out.trans (hb1.mono HBL.out.size))
    have HOB1 := Lib.hid ((hb1.block (w.heap.size + 1) (by have := HSZ.out; omega)).trans HOB.out)
    have c0 := cell_of HOB1.out 0
    have c1 := cell_of HOB1.out 1
    have z0 := free_of HOB1.out 0
    have z1 := free_of HOB1.out 1
    simp at c0 c1
    have HV1 := Lib.hid hv1
    clear hb1 hv1
    cases hwp : wordsP m a 2 with
    | none =>
      rw [hwp] at HV1
      obtain ⟨_, _, va, vc, rfl, _⟩ := HV1.out
      have HE := Lib.hid (show objR m R a 5 = none by rw [HO.out, hwp]; rfl)
      clear hwp
      go_wp2_with fail
      have S := obj_store (k := -1) HOB1.out HV1.out (Nat.le_succ w.heap.size)
      refine bodyPost_ret (v := .tuple #[.agg #[.int .i64 (-1), .slice va 0 vc], .bool false]) (by simp [results, Try.results27, go_sem, c0, c1]) rfl ⟨⟨_, _, _, _, rfl, S.1, by rw [HE.out]; rfl, fun o ho => by rw [HE.out] at ho; cases ho⟩, HB1.out.trans S.2⟩
    | some l =>
      rw [hwp] at HV1
      obtain ⟨_, _, va, vc, rfl, _⟩ := HV1.out
      have HE := Lib.hid (show objR m R a 5 = if allP l = true then some (-1, l) else none by rw [HO.out, hwp]; rfl)
      clear hwp
      go_wp2_with fail
      refine (allplain_any l _ _ HV1.out).mono ?_
      rintro e w2 ⟨rfl, rfl⟩
      go_wp2_with fail
      have S := obj_store (k := -1) HOB1.out HV1.out (Nat.le_succ w.heap.size)
      refine bodyPost_ret (v := .tuple #[.agg #[.int .i64 (-1), .slice va l.length vc], .bool (allP l)]) (by simp [results, Try.results27, go_sem, c0, c1]) rfl ⟨⟨_, _, _, _, rfl, S.1, ?_, fun o ho => ?_⟩, HB1.out.trans S.2⟩
      · rw [HE.out]; cases allP l <;> rfl
      · rw [HE.out] at ho
        split at ho
        · cases ho; rfl
        · cases ho
  · have q5 : (t == 5) = false := by simpa using h5
    have HO := Lib.hid (show objR m R a t = (headAt m a).bind fun o => if R o.1 o.2 = true then some o else none by unfold objR; rw [if_neg h5])
    have H5 := Lib.hid h5
    clear h5
    go_enter Try.func27, Try.ntmps27
    go_wp2_with fail
    rw [HW0.out]
    refine (words_any m _ a 1 w0 (HM.out.below HBL.out) ha (by omega)).mono ?_
    rintro e w1 ⟨⟨v1, rfl, hv1⟩, hb1⟩
    have HB1 := Lib.hid (HBL.out.trans (hb1.mono HBL.out.size))
    have HS1 := Lib.hid (Nat.le_trans (Nat.le_of_eq HSZ.out) hb1.size)
    have HOB1 := Lib.hid ((hb1.block (w.heap.size + 1) (by have := HSZ.out; omega)).trans HOB.out)
    have HBX1 := Lib.hid ((hb1.block w.heap.size (by have := HSZ.out; omega)).trans HBX.out)
    have HV1 := Lib.hid hv1
    clear hb1 hv1
    cases hwp : wordsP m a 1 with
    | none =>
      rw [hwp] at HV1
      obtain ⟨_, _, va, vc, rfl, _⟩ := HV1.out
      have HE := Lib.hid (show objR m R a t = none by rw [HO.out, words_none hwp]; rfl)
      have c0 := cell_of HOB1.out 0
      have c1 := cell_of HOB1.out 1
      have z0 := free_of HOB1.out 0
      have z1 := free_of HOB1.out 1
      simp at c0 c1
      clear hwp
      go_wp2_with fail
      have S := obj_store (k := 0) HOB1.out (Ws.nil _) (Nat.le_succ w.heap.size)
      refine bodyPost_ret (v := .tuple #[.agg #[.int .i64 0, .slice none 0 0], .bool false]) (by simp [results, Try.results27, go_sem, c0, c1]) rfl ⟨⟨_, _, _, _, rfl, S.1, by rw [HE.out]; rfl, fun o ho => by rw [HE.out] at ho; cases ho⟩, HB1.out.trans S.2⟩
    | some h =>
      rw [hwp] at HV1
      have HV1 := Lib.hid (show Ws w1 v1 h from HV1.out)
      have hlen := wordsP_len hwp (by omega)
      obtain ⟨g1, o1, vc, hv, hvc, hvm, _⟩ := HV1.out.open (show 0 < h.length by omega)
      subst hv
      have k0 := HV1.out.at (j := 0) (show 0 < h.length by omega)
      rw [Nat.add_zero] at k0
      have hx := HV1.out.2.1 (h.getD 0 0) (by
        have : h.getD 0 0 = h[0]'(by omega) := by simp [List.getD, List.getElem?_eq_getElem (show 0 < h.length by omega)]
        rw [this]; exact List.getElem_mem _)
      obtain ⟨x, hxx⟩ : ∃ x, h.getD 0 0 = x := ⟨_, rfl⟩
      rw [hxx] at k0 hx
      have HH := Lib.hid (show headAt m a = (headP x).bind fun k => (wordsP m a (k.2 + 1)).map fun l => (k.1, l) by unfold headAt; rw [hwp]; simp only [Option.bind_some]; rw [hxx])
      have HLEN := Lib.hid hlen
      have q1 : (0 : Int) < (h.length : Int) := by omega
      clear hxx hlen hwp
      go_wp2_with fail
      refine (parts_any x hx _).mono ?_
      rintro e w2 ⟨he, rfl⟩
      unfold HeadEnd at he
      subst he
      cases hhp : headP x with
      | none =>
        have HE := Lib.hid (show objR m R a t = none by rw [HO.out, HH.out, hhp]; rfl)
        have c0 := cell_of HOB1.out 0
        have c1 := cell_of HOB1.out 1
        have z0 := free_of HOB1.out 0
        have z1 := free_of HOB1.out 1
        simp at c0 c1
        clear hhp
        go_wp2_with fail
        have S := obj_store (k := 0) HOB1.out (Ws.nil _) (Nat.le_succ w.heap.size)
        refine bodyPost_ret (v := .tuple #[.agg #[.int .i64 0, .slice none 0 0], .bool false]) (by simp [results, Try.results27, go_sem, c0, c1]) rfl ⟨⟨_, _, _, _, rfl, S.1, by rw [HE.out]; rfl, fun o ho => by rw [HE.out] at ho; cases ho⟩, HB1.out.trans S.2⟩
      | some ks =>
        obtain ⟨kd, sz⟩ := ks
        have hkb := headP_le hhp
        simp only at hkb
        have HH2 := Lib.hid (show headAt m a = (wordsP m a (sz + 1)).map fun l => (kd, l) by rw [HH.out, hhp]; rfl)
        have q2 : IntKind.i64.wrap (sz + 1) = sz + 1 := IntWalk.i64_in _ (by omega)
        have b0 := cell_of HBX1.out 0
        simp at b0
        clear hhp
        go_wp2_with fail
        refine (words_any m _ a (sz + 1) _ (HM.out.below HB1.out) ha (by omega)).mono ?_
        rintro e w3 ⟨⟨v3, rfl, hv3⟩, hb3⟩
        have HB3 := Lib.hid (HB1.out.trans (hb3.mono HB1.out.size))
        have HS3 := Lib.hid (Nat.le_trans HS1.out hb3.size)
        have HOB3 := Lib.hid ((hb3.block (w.heap.size + 1) (by have := HS1.out; omega)).trans HOB1.out)
        have HV3 := Lib.hid hv3
        clear hb3 hv3 b0
        cases hwp : wordsP m a (sz + 1) with
        | none =>
          rw [hwp] at HV3
          obtain ⟨_, _, va3, vc3, rfl, _⟩ := HV3.out
          have HE := Lib.hid (show objR m R a t = none by rw [HO.out, HH2.out, hwp]; rfl)
          have c0 := cell_of HOB3.out 0
          have c1 := cell_of HOB3.out 1
          have z0 := free_of HOB3.out 0
          have z1 := free_of HOB3.out 1
          simp at c0 c1
          clear hwp
          go_wp2_with fail
          have S := obj_store (k := 0) HOB3.out (Ws.nil _) (Nat.le_succ w.heap.size)
          refine bodyPost_ret (v := .tuple #[.agg #[.int .i64 0, .slice none 0 0], .bool false]) (by simp [results, Try.results27, go_sem, c0, c1]) rfl ⟨⟨_, _, _, _, rfl, S.1, by rw [HE.out]; rfl, fun o ho => by rw [HE.out] at ho; cases ho⟩, HB3.out.trans S.2⟩
        | some l =>
          rw [hwp] at HV3
          have HV3 := Lib.hid (show Ws w3 v3 l from HV3.out)
          have hlen3 := wordsP_len hwp (by omega)
          have hl1 : 1 ≤ l.length := by omega
          obtain ⟨_, _, va3, vc3, hv3, _⟩ := HV3.out
          have hv3 : v3 = .slice va3 l.length vc3 := hv3
          subst hv3
          have HHA := Lib.hid (show headAt m a = some (kd, l) by rw [HH2.out, hwp]; rfl)
          have HE := Lib.hid (show objR m R a t = if R kd l = true then some (kd, l) else none by rw [HO.out, HHA.out]; rfl)
          clear hwp hlen3
          go_wp2_with fail
          refine (HR.out H5.out kd l _ _ HHA.out HB3.out (HM.out.below HB3.out) HV3.out hl1).mono ?_
          rintro e w4 ⟨rfl, hb4⟩
          have HB4 := Lib.hid (HB3.out.trans (hb4.mono HB3.out.size))
          have HOB4 := Lib.hid ((hb4.block (w.heap.size + 1) (by have := HS3.out; omega)).trans HOB3.out)
          have HV4 := Lib.hid (HV3.out.below hb4)
          have c0 := cell_of HOB4.out 0
          have c1 := cell_of HOB4.out 1
          have z0 := free_of HOB4.out 0
          have z1 := free_of HOB4.out 1
          simp at c0 c1
          clear hb4
          cases hr : R kd l
          · have HE2 := Lib.hid (show objR m R a t = none by rw [HE.out, hr]; rfl)
            go_wp2_with fail
            have S := obj_store (k := 0) HOB4.out (Ws.nil _) (Nat.le_succ w.heap.size)
            refine bodyPost_ret (v := .tuple #[.agg #[.int .i64 0, .slice none 0 0], .bool false]) (by simp [results, Try.results27, go_sem, c0, c1]) rfl ⟨⟨_, _, _, _, rfl, S.1, by rw [HE2.out]; rfl, fun o ho => by rw [HE2.out] at ho; cases ho⟩, HB4.out.trans S.2⟩
          · have HE2 := Lib.hid (show objR m R a t = some (kd, l) by rw [HE.out, hr]; rfl)
            go_wp2_with fail
            have S := obj_store (k := kd) HOB4.out HV4.out (Nat.le_succ w.heap.size)
            refine bodyPost_ret (v := .tuple #[.agg #[.int .i64 kd, .slice va3 l.length vc3], .bool true]) (by simp [results, Try.results27, go_sem, c0, c1]) rfl ⟨⟨_, _, _, _, rfl, S.1, by rw [HE2.out]; rfl, fun o ho => by rw [HE2.out] at ho; cases ho; rfl⟩, HB4.out.trans S.2⟩

end Go.Proofs.Ytohgkfnbjfhniaa
