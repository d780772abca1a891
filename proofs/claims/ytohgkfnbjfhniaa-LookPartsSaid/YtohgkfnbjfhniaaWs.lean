/-
  How many bytes a word leads to; may the words of a part be; what stands at a spot, in full.
-/
import Derived.Test.YtohgkfnbjfhniaaWl
namespace Go.Proofs.Ytohgkfnbjfhniaa
open Go.RowKit

def LenEnd (r : Option Nat) (e : Ending) : Prop := e = .returned (.tuple #[.int .i64 ((r.getD 0 : Nat) : Int), .bool r.isSome])

theorem headP_tag {w : Nat} {k : Int × Int} (h : headP w = some k) : tagW w = 6 := by
  unfold headP at h
  split at h
  · rename_i q; exact q.1
  · cases h

theorem flat3_parts {l : List Nat} (h : rightFlat 3 l = true) : 2 ≤ l.length ∧ l.getD 1 0 ≤ 64 := by
  unfold rightFlat at h
  rw [if_neg (by decide), if_neg (by decide), if_neg (by decide), if_pos rfl, Bool.and_eq_true, decide_eq_true_eq] at h
  refine ⟨h.1, ?_⟩
  have h2 := h.2
  unfold bytesW at h2
  split at h2
  · cases h2
  · omega

theorem flat4_parts {l : List Nat} (h : rightFlat 4 l = true) : l.length = 4 ∧ l.getD 1 0 ≤ 1073741824 ∧ l.getD 2 0 ≤ 1073741824 ∧ l.getD 3 0 ≤ 400 := by
  unfold rightFlat at h
  rw [if_neg (by decide), if_neg (by decide), if_neg (by decide), if_neg (by decide), if_pos rfl, Bool.and_eq_true, Bool.and_eq_true, decide_eq_true_eq, decide_eq_true_eq, decide_eq_true_eq] at h
  omega

set_option maxHeartbeats 8000000 in
set_option maxRecDepth 100000 in
theorem length_any (m : List Frg) (mv : Value) (x : Nat) (w : World) (hm : RsAt w mv m) (hx : x < 18446744073709551616) :
    Calls Try.prog 62 #[mv, .int .u64 x] w fun e w' => LenEnd (lengthP m x) e ∧ Below w.heap.size w w' := by
  have HM := Lib.hid hm
  obtain ⟨-, ma, mc, rfl, -⟩ := hm
  go_enter Try.func62, Try.ntmps62
  go_wp2_with fail
  refine (to_any x hx _).mono ?_
  rintro e w1 ⟨he, hb1⟩
  unfold ToEnd at he
  subst he
  have HB1 := Lib.hid hb1
  have HSW := Lib.hid hb1.size
  cases ht : toP x with
  | none =>
    have HE := Lib.hid (show lengthP m x = none by unfold lengthP; rw [ht]; rfl)
    clear ht hb1
    go_wp2_with fail
    go_ret2
    exact ⟨by unfold LenEnd; rw [HE.out]; rfl, HB1.out.alloc HSW.out _⟩
  | some s =>
    obtain ⟨a, t⟩ := s
    have HB2 := Lib.hid (hb1.alloc hb1.size (.cells #[.int .i64 a, .int .i64 t] 68))
    have HBX := Lib.hid (World.alloc_heap_new w1 (.cells #[.int .i64 a, .int .i64 t] 68))
    obtain ⟨w2, hw2⟩ : ∃ w2, w1.alloc (.cells #[.int .i64 a, .int .i64 t] 68) = w2 := ⟨_, rfl⟩
    rw [hw2] at HB2 HBX
    have HSZ := Lib.hid (show w1.heap.size + 1 = w2.heap.size by rw [← hw2]; simp)
    have HW2 := Lib.hid hw2
    have HT := Lib.hid ht
    clear ht hb1 hw2
    by_cases h4 : t = 4
    · subst h4
      have ha := loadW_in x hx
      have HL := Lib.hid (show lengthP m x = (headAt m a).bind fun o => if o.1 = 3 ∧ rightFlat 3 o.2 = true then some (o.2.getD 1 0) else if o.1 = 4 ∧ rightFlat 4 o.2 = true then some (o.2.getD 3 0) else none by
        unfold lengthP; rw [HT.out]; rfl)
      have haa : loadW x = a := by
        have h := HT.out
        unfold toP at h
        split at h
        · simp only [Option.some.injEq, Prod.mk.injEq] at h; exact h.1
        · cases h
      rw [haa] at ha
      clear haa
      go_wp2_with fail
      rw [HW2.out]
      refine (words_any m _ a 1 w2 (HM.out.below HB2.out) ha (by omega)).mono ?_
      rintro e w3 ⟨⟨v1, rfl, hv1⟩, hb3⟩
      have HB3 := Lib.hid (HB2.out.trans (hb3.mono HB2.out.size))
      have HBX3 := Lib.hid ((hb3.block w1.heap.size (by have := HSZ.out; omega)).trans HBX.out)
      have HV1 := Lib.hid hv1
      clear hb3 hv1
      cases hwp : wordsP m a 1 with
      | none =>
        rw [hwp] at HV1
        obtain ⟨_, _, va, vc, rfl, _⟩ := HV1.out
        have HE := Lib.hid (show lengthP m x = none by rw [HL.out, words_none hwp]; rfl)
        clear hwp
        go_wp2_with fail
        go_ret2
        exact ⟨by unfold LenEnd; rw [HE.out]; rfl, HB3.out⟩
      | some h =>
        rw [hwp] at HV1
        have HV1 := Lib.hid (show Ws w3 v1 h from HV1.out)
        have hlen := wordsP_len hwp (by omega)
        obtain ⟨g1, o1, vc, hv, hvc, hvm, _⟩ := HV1.out.open (show 0 < h.length by omega)
        subst hv
        have k0 := HV1.out.at (j := 0) (show 0 < h.length by omega)
        rw [Nat.add_zero] at k0
        have hy := HV1.out.2.1 (h.getD 0 0) (by
          have : h.getD 0 0 = h[0]'(by omega) := by simp [List.getD, List.getElem?_eq_getElem (show 0 < h.length by omega)]
          rw [this]; exact List.getElem_mem _)
        obtain ⟨y, hyy⟩ : ∃ y, h.getD 0 0 = y := ⟨_, rfl⟩
        rw [hyy] at k0 hy
        have HH := Lib.hid (show headAt m a = (headP y).bind fun k => (wordsP m a (k.2 + 1)).map fun l => (k.1, l) by unfold headAt; rw [hwp]; simp only [Option.bind_some]; rw [hyy])
        have q1 : (0 : Int) < (h.length : Int) := by omega
        clear hyy hlen hwp
        go_wp2_with fail
        refine (parts_any y hy _).mono ?_
        rintro e w4 ⟨he, rfl⟩
        unfold HeadEnd at he
        subst he
        cases hhp : headP y with
        | none =>
          have HE := Lib.hid (show lengthP m x = none by rw [HL.out, HH.out, hhp]; rfl)
          clear hhp
          go_wp2_with fail
          refine (tag_any y hy _).mono ?_
          rintro e w5 ⟨rfl, rfl⟩
          by_cases ht6 : tagW y = 6
          all_goals
            first
              | (have q6 : (((tagW y : Nat) : Int) != 6) = false := by simp [ht6]; done)
              | (have q6 : (((tagW y : Nat) : Int) != 6) = true := by simp; omega)
            clear ht6
            go_wp2_with fail
            go_ret2
            exact ⟨by unfold LenEnd; rw [HE.out]; rfl, HB3.out⟩
        | some ks =>
          obtain ⟨kd, sz⟩ := ks
          have hkb := headP_le hhp
          have ht6 := headP_tag hhp
          simp only at hkb
          have HH2 := Lib.hid (show headAt m a = (wordsP m a (sz + 1)).map fun l => (kd, l) by rw [HH.out, hhp]; rfl)
          have q6 : (((tagW y : Nat) : Int) != 6) = false := by simp [ht6]
          clear hhp ht6
          go_wp2_with fail
          refine (tag_any y hy _).mono ?_
          rintro e w5 ⟨rfl, rfl⟩
          have hk : kd = 3 ∨ kd = 4 ∨ (kd ≠ 3 ∧ kd ≠ 4) := by omega
          clear hkb
          rcases hk with hk | hk | ⟨hk3, hk4⟩
          · subst hk
            have HLE := Lib.hid (show ∀ l, headAt m a = some (3, l) → lengthP m x = if rightFlat 3 l = true then some (l.getD 1 0) else none from fun l q => by
              rw [HL.out, q]; simp)
            have HOB := Lib.hid (object_of m _ rightFlat a 4 _ (HM.out.below HB3.out) ha (fun _ k l lv w' hh _ _ hl h1 => by
              have e : k = 3 := by
                rw [HH2.out] at hh
                cases hq : wordsP m a (sz + 1) with
                | none => rw [hq] at hh; cases hh
                | some l' => rw [hq] at hh; simp only [Option.map_some, Option.some.injEq, Prod.mk.injEq] at hh; exact hh.1.symm
              subst e
              exact right3 l _ _ _ hl h1))
            have b0 := cell_of HBX3.out 0
            have b1 := cell_of HBX3.out 1
            simp at b0 b1
            go_wp2_with fail
            refine HOB.out.mono ?_
            rintro e w6 ⟨⟨k, v, l, ok, rfl, hws, hok, hsome⟩, hb6⟩
            have hws2 := hws
            obtain ⟨-, -, va, vc, rfl, -⟩ := hws2
            have HB6 := Lib.hid (HB3.out.trans (hb6.mono HB3.out.size))
            have HWS := Lib.hid hws
            clear hb6 hws b0 b1
            have ho5 : objR m rightFlat a 4 = (headAt m a).bind fun o => if rightFlat o.1 o.2 = true then some o else none := by unfold objR; rw [if_neg (by decide)]
            cases hho : objR m rightFlat a 4 with
            | none =>
              have HE := Lib.hid (show lengthP m x = none by
                rw [hho] at ho5
                cases hq : headAt m a with
                | none => rw [HL.out, hq]; rfl
                | some o =>
                  obtain ⟨k', l'⟩ := o
                  have e : k' = 3 := by
                    rw [HH2.out] at hq
                    cases hq2 : wordsP m a (sz + 1) with
                    | none => rw [hq2] at hq; cases hq
                    | some l' => rw [hq2] at hq; simp only [Option.map_some, Option.some.injEq, Prod.mk.injEq] at hq; exact hq.1.symm
                  subst e
                  rw [HLE.out l' hq]
                  rw [hq] at ho5
                  simp only [Option.bind_some] at ho5
                  split at ho5
                  · cases ho5
                  · rename_i hf; rw [if_neg hf])
              rw [hho] at hok
              subst hok
              clear hho ho5 hsome
              go_wp2_with fail
              go_ret2
              exact ⟨by unfold LenEnd; rw [HE.out]; rfl, HB6.out.alloc HB6.out.size _⟩
            | some o =>
              have e0 := hsome o hho
              subst e0
              rw [hho] at ho5 hok
              subst hok
              have hf : k = 3 ∧ rightFlat 3 l = true ∧ headAt m a = some (3, l) := by
                cases hq : headAt m a with
                | none => rw [hq] at ho5; cases ho5
                | some o =>
                  obtain ⟨k', l'⟩ := o
                  have e : k' = 3 := by
                    rw [HH2.out] at hq
                    cases hq2 : wordsP m a (sz + 1) with
                    | none => rw [hq2] at hq; cases hq
                    | some l' => rw [hq2] at hq; simp only [Option.map_some, Option.some.injEq, Prod.mk.injEq] at hq; exact hq.1.symm
                  subst e
                  rw [hq] at ho5
                  simp only [Option.bind_some] at ho5
                  split at ho5
                  · rename_i hf; simp only [Option.some.injEq, Prod.mk.injEq] at ho5; obtain ⟨rfl, rfl⟩ := ho5; exact ⟨rfl, hf, rfl⟩
                  · cases ho5
              obtain ⟨rfl, hf1, hf2⟩ := hf
              have HE := Lib.hid (show lengthP m x = some (l.getD 1 0) by rw [HLE.out l hf2, if_pos hf1])
              have hp := flat3_parts hf1
              obtain ⟨g5, o5, c5, hv5, -, -, -⟩ := HWS.out.open (show 0 < l.length by omega)
              simp only [Value.slice.injEq, true_and] at hv5
              obtain ⟨rfl, rfl⟩ := hv5
              have kx := HWS.out.at (j := 1) (by omega)
              obtain ⟨z, hz⟩ : ∃ z, l.getD 1 0 = z := ⟨_, rfl⟩
              rw [hz] at kx hp
              have q8 : (1 : Int) < (l.length : Int) := by omega
              have hzb : z ≤ 400 := by omega
              have ky := fun o => (((Below.refl _ w6).alloc (Nat.le_refl _) o).cell (World.block_lt_of_cell? w6 _ kx)).trans kx
              have q9 : IntKind.i64.wrap (z : Int) = (z : Int) := IntWalk.i64_in _ (by omega)
              have HZ := Lib.hid hz
              clear hz hp hf1 hf2 hho ho5 hsome
              go_wp2_with fail
              go_ret2
              exact ⟨by unfold LenEnd; rw [HE.out, HZ.out]; rfl, HB6.out.alloc HB6.out.size _⟩
          · subst hk
            have HLE := Lib.hid (show ∀ l, headAt m a = some (4, l) → lengthP m x = if rightFlat 4 l = true then some (l.getD 3 0) else none from fun l q => by
              rw [HL.out, q]; simp)
            have HOB := Lib.hid (object_of m _ rightFlat a 4 _ (HM.out.below HB3.out) ha (fun _ k l lv w' hh _ _ hl h1 => by
              have e : k = 4 := by
                rw [HH2.out] at hh
                cases hq : wordsP m a (sz + 1) with
                | none => rw [hq] at hh; cases hh
                | some l' => rw [hq] at hh; simp only [Option.map_some, Option.some.injEq, Prod.mk.injEq] at hh; exact hh.1.symm
              subst e
              exact right4 l _ _ _ hl h1))
            have b0 := cell_of HBX3.out 0
            have b1 := cell_of HBX3.out 1
            simp at b0 b1
            go_wp2_with fail
            refine HOB.out.mono ?_
            rintro e w6 ⟨⟨k, v, l, ok, rfl, hws, hok, hsome⟩, hb6⟩
            have hws2 := hws
            obtain ⟨-, -, va, vc, rfl, -⟩ := hws2
            have HB6 := Lib.hid (HB3.out.trans (hb6.mono HB3.out.size))
            have HWS := Lib.hid hws
            clear hb6 hws b0 b1
            have ho5 : objR m rightFlat a 4 = (headAt m a).bind fun o => if rightFlat o.1 o.2 = true then some o else none := by unfold objR; rw [if_neg (by decide)]
            cases hho : objR m rightFlat a 4 with
            | none =>
              have HE := Lib.hid (show lengthP m x = none by
                rw [hho] at ho5
                cases hq : headAt m a with
                | none => rw [HL.out, hq]; rfl
                | some o =>
                  obtain ⟨k', l'⟩ := o
                  have e : k' = 4 := by
                    rw [HH2.out] at hq
                    cases hq2 : wordsP m a (sz + 1) with
                    | none => rw [hq2] at hq; cases hq
                    | some l' => rw [hq2] at hq; simp only [Option.map_some, Option.some.injEq, Prod.mk.injEq] at hq; exact hq.1.symm
                  subst e
                  rw [HLE.out l' hq]
                  rw [hq] at ho5
                  simp only [Option.bind_some] at ho5
                  split at ho5
                  · cases ho5
                  · rename_i hf; rw [if_neg hf])
              rw [hho] at hok
              subst hok
              clear hho ho5 hsome
              go_wp2_with fail
              go_ret2
              exact ⟨by unfold LenEnd; rw [HE.out]; rfl, HB6.out.alloc HB6.out.size _⟩
            | some o =>
              have e0 := hsome o hho
              subst e0
              rw [hho] at ho5 hok
              subst hok
              have hf : k = 4 ∧ rightFlat 4 l = true ∧ headAt m a = some (4, l) := by
                cases hq : headAt m a with
                | none => rw [hq] at ho5; cases ho5
                | some o =>
                  obtain ⟨k', l'⟩ := o
                  have e : k' = 4 := by
                    rw [HH2.out] at hq
                    cases hq2 : wordsP m a (sz + 1) with
                    | none => rw [hq2] at hq; cases hq
                    | some l' => rw [hq2] at hq; simp only [Option.map_some, Option.some.injEq, Prod.mk.injEq] at hq; exact hq.1.symm
                  subst e
                  rw [hq] at ho5
                  simp only [Option.bind_some] at ho5
                  split at ho5
                  · rename_i hf; simp only [Option.some.injEq, Prod.mk.injEq] at ho5; obtain ⟨rfl, rfl⟩ := ho5; exact ⟨rfl, hf, rfl⟩
                  · cases ho5
              obtain ⟨rfl, hf1, hf2⟩ := hf
              have HE := Lib.hid (show lengthP m x = some (l.getD 3 0) by rw [HLE.out l hf2, if_pos hf1])
              have hp := flat4_parts hf1
              obtain ⟨g5, o5, c5, hv5, -, -, -⟩ := HWS.out.open (show 0 < l.length by omega)
              simp only [Value.slice.injEq, true_and] at hv5
              obtain ⟨rfl, rfl⟩ := hv5
              have kx := HWS.out.at (j := 3) (by omega)
              obtain ⟨z, hz⟩ : ∃ z, l.getD 3 0 = z := ⟨_, rfl⟩
              rw [hz] at kx hp
              have q8 : (3 : Int) < (l.length : Int) := by omega
              have hzb : z ≤ 400 := by omega
              have ky := fun o => (((Below.refl _ w6).alloc (Nat.le_refl _) o).cell (World.block_lt_of_cell? w6 _ kx)).trans kx
              have q9 : IntKind.i64.wrap (z : Int) = (z : Int) := IntWalk.i64_in _ (by omega)
              have HZ := Lib.hid hz
              clear hz hp hf1 hf2 hho ho5 hsome
              go_wp2_with fail
              go_ret2
              exact ⟨by unfold LenEnd; rw [HE.out, HZ.out]; rfl, HB6.out.alloc HB6.out.size _⟩
          · have q7 : (kd != 3) = true := by simpa using hk3
            have q8 : (kd != 4) = true := by simpa using hk4
            have HE := Lib.hid (show lengthP m x = none by
              rw [HL.out, HH2.out]
              cases wordsP m a (sz + 1) with
              | none => rfl
              | some l => simp [hk3, hk4])
            clear hk3 hk4
            go_wp2_with fail
            go_ret2
            exact ⟨by unfold LenEnd; rw [HE.out]; rfl, HB3.out⟩
    · have q4 : (t == 4) = false := by simpa using h4
      have q5 : (t != 4) = true := by simpa using h4
      have HE := Lib.hid (show lengthP m x = none by unfold lengthP; rw [HT.out]; simp [h4])
      clear h4
      go_wp2_with fail
      go_ret2
      exact ⟨by unfold LenEnd; rw [HE.out]; rfl, HB1.out.alloc HSW.out _⟩

end Go.Proofs.Ytohgkfnbjfhniaa
