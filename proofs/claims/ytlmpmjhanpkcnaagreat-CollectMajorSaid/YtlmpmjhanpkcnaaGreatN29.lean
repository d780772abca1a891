/-
  Collect, plain: what the program reads of a word, chapter 12's own reader reads, and the other way round.
  Collect, plain: behind a collection each word stands for the same term.
  Collect: the same words, numbers, regions; dumps that are the same.
  Collect: Major.
-/
import Derived.Test.YtlmpmjhanpkcnaaGreatN28
import Derived.Test.YtlmpmjhanpkcnaaGreatN17
set_option linter.unusedVariables false
set_option linter.unusedSimpArgs false
namespace Go.Proofs.YtlmpmjhanpkcnaaGreat
open Go.RowKit

theorem box_obj {asks : Bool} {S : List Slt} {m : List Frg} (hm : LowM m) (x : Nat) (h4 : tagW x = 4) (g : Nat → Nat → Option (Tm × Nat)) (left : Nat) :
    boxT g asks S m left x = (headAt m (loadW x)).bind fun o =>
      if o.1 = 0 then (if 9 < o.2.length then none else (seqP g left (o.2.drop 1)).map fun r => (.mk 6 0 false [] 0 ⟨#[]⟩ r.1, r.2))
      else if o.1 = 1 then (if rightFlat 1 o.2 = true then some (.mk 2 0 (bigNeg o.2) (bigMag o.2) 0 ⟨#[]⟩ [], left) else none)
      else if o.1 = 2 then (if rightFlat 2 o.2 = true then some (.mk 3 0 false [] (o.2.getD 1 0) ⟨#[]⟩ [], left) else none)
      else if o.1 = 3 then (if rightFlat 3 o.2 = true then (bytesB o.2).map fun b => (.mk 9 0 false [] 0 b [], left) else none)
      else if o.1 = 4 then (if rightFlat 4 o.2 = true then (sharedP asks S o.2).map fun b => (.mk 9 0 false [] 0 b [], left) else none)
      else (if rightP m 5 o.2 = true then (partP asks S m o.2).map fun b => (.mk 9 0 false [] 0 b [], left) else none) := by
  unfold boxT
  rw [box_head m x h4]
  cases hh : headAt m (loadW x) with
  | none => rfl
  | some o =>
    obtain ⟨k, l⟩ := o
    have hk := headAt_le hh
    simp only [Option.map_some, Option.bind_some]
    by_cases h0 : k = 0
    · rw [if_pos h0, if_pos h0, List.length_drop]
      by_cases h9 : 9 < l.length
      · rw [if_pos h9, if_pos (by omega)]
      · rw [if_neg h9, if_neg (by omega)]
    · rw [if_neg h0, if_neg h0]
      by_cases h1 : k = 1
      · rw [if_pos h1, if_pos h1, big12_eq]
        split <;> rfl
      · rw [if_neg h1, if_neg h1]
        by_cases h2 : k = 2
        · rw [if_pos h2, if_pos h2]
          have e := flt_eq l
          by_cases hr : rightFlat 2 l = true
          · rw [if_pos hr] at e ⊢
            split at e
            · cases e
            · rename_i q
              rw [if_neg q]
              split at e
              · rename_i q2
                rw [if_pos q2]
                simp only [Option.some.injEq] at e
                rw [e]
              · cases e
          · rw [if_neg hr] at e ⊢
            split at e
            · rename_i q; rw [if_pos q]
            · rename_i q
              rw [if_neg q]
              split at e
              · cases e
              · rename_i q2; rw [if_neg q2]
        · rw [if_neg h2, if_neg h2]
          by_cases h5 : k = 5
          · subst h5
            rw [if_pos rfl, if_neg (by decide), if_neg (by decide), sub_eq asks S m hm l (fun h => right5_le h)]
            split <;> rfl
          · rw [if_neg h5]
            by_cases h3 : k = 3
            · subst h3
              rw [if_pos rfl, bytes12_3eq asks S l hk.2.2]
              split
              · cases bytesB l <;> rfl
              · rfl
            · rw [if_neg h3]
              have h4' : k = 4 := by omega
              subst h4'
              rw [if_pos rfl, bytes12_4eq]
              split
              · cases sharedP asks S l <;> rfl
              · rfl

theorem obj_head {m : List Frg} {a : Int} : objP m a 4 = (headAt m a).bind fun o => if rightP m o.1 o.2 = true then some o else none := by
  unfold objP
  rw [if_neg (by decide)]

theorem step12 {asks : Bool} {S : List Slt} {m : List Frg} (hm : LowM m) {f : Nat} (ih : G12 (termP asks S m f) (refT asks S m f)) : G12 (termP asks S m (f + 1)) (refT asks S m (f + 1)) := by
  intro left x t l' he
  have hp : plainP x = true := by
    cases h : plainP x with
    | true => rfl
    | false => rw [termP, if_pos (Or.inl h)] at he; cases he
  have hl : left ≠ 0 := by
    intro h; rw [termP, if_pos (Or.inr h)] at he; cases he
  by_cases h3 : tagW x ≤ 3
  · obtain ⟨t', e1, e2, e3⟩ := term_leaf (asks := asks) (S := S) (m := m) (f := f) hp hl h3
    rw [e2] at he
    simp only [Option.some.injEq, Prod.mk.injEq] at he
    obtain ⟨rfl, rfl⟩ := he
    obtain ⟨k1, k2, k3⟩ := leaf_right hp e1
    refine ⟨by omega, k1, by omega, fun left2 hl2 => ?_⟩
    obtain ⟨t2, e1', -, e3'⟩ := term_leaf (asks := asks) (S := S) (m := m) (f := f) (left := left2) hp (by omega) h3
    rw [e1] at e1'
    cases e1'
    rw [e3', k3]
  · have hq := plain_parts hp
    obtain ⟨d1, -⟩ := term_deep (asks := asks) (S := S) (m := m) (f := f) hp hl (by omega)
    rw [d1] at he
    by_cases h5 : tagW x = 5
    · rw [h5] at he
      have e5 : objP m (loadW x) ((5 : Nat) : Int) = (wordsP m (loadW x) 2).bind fun l => if allP l = true then some (-1, l) else none := by
        unfold objP; rw [if_pos (show ((5 : Nat) : Int) = 5 from rfl)]
      rw [e5, words_rest m _ 2 (by decide)] at he
      by_cases h2 : (2 : Int) ≤ ((restP m (loadW x)).length : Int)
      · rw [if_pos h2] at he
        simp only [Option.bind_some] at he
        have e2 : ((2 : Int).toNat) = 2 := rfl
        rw [e2] at he
        have hlen : ((restP m (loadW x)).take 2).length = 2 := by rw [List.length_take]; omega
        generalize hws : (restP m (loadW x)).take 2 = ws at he hlen
        split at he
        · simp only [Option.bind_some] at he
          have e6 : objT (termP asks S m f) asks S m (left - 1) (-1, ws) = (seqP (termP asks S m f) (left - 1) ws).map fun r => (.mk 8 0 false [] 0 ⟨#[]⟩ r.1, r.2) := by
            unfold objT
            simp only
            rw [if_neg (by decide), if_neg (by decide), if_neg (by decide), if_neg (by decide), if_neg (by decide), lead_two hlen]
            rfl
          rw [e6] at he
          cases hs : seqP (termP asks S m f) (left - 1) ws with
          | none => rw [hs] at he; cases he
          | some r =>
            obtain ⟨ts, l2⟩ := r
            rw [hs] at he
            simp only [Option.map_some, Option.some.injEq, Prod.mk.injEq] at he
            obtain ⟨rfl, rfl⟩ := he
            obtain ⟨k1, k2, k3, k4, k5⟩ := seq12 ih ws _ _ _ hs
            have hw : (Tm.mk 8 0 false [] 0 ⟨#[]⟩ ts).wt = 1 + wts ts := by simp [Tm.wt]
            have hn : (Tm.mk 8 0 false [] 0 ⟨#[]⟩ ts).nd = 1 + nds ts := by simp [Tm.nd]
            rw [hw, hn]
            refine ⟨by omega, ?_, by omega, fun left2 hl2 => ?_⟩
            · simp [Tm.right, SheadP, bareP, k2]; omega
            · obtain ⟨-, d2⟩ := term_deep (asks := asks) (S := S) (m := m) (f := f) (left := left2) hp (by omega) (by omega)
              rw [d2, if_pos h5, if_neg (by omega), hws, k5 (left2 - 1) (by omega)]
              simp only [Option.map_some, Option.some.injEq, Prod.mk.injEq, true_and]
              omega
        · cases he
      · rw [if_neg h2] at he
        cases he
    · have h4 : tagW x = 4 := by omega
      rw [h4] at he
      have e4 : objP m (loadW x) ((4 : Nat) : Int) = (headAt m (loadW x)).bind fun o => if rightP m o.1 o.2 = true then some o else none := obj_head
      rw [e4] at he
      have D2 := fun (left2 : Nat) (h : left2 ≠ 0) => ((term_deep (asks := asks) (S := S) (m := m) (f := f) (left := left2) hp h (by omega)).2).trans ((if_neg h5).trans (box_obj (asks := asks) (S := S) hm x h4 (refT asks S m f) (left2 - 1)))
      cases hh : headAt m (loadW x) with
      | none => rw [hh] at he; cases he
      | some o =>
        obtain ⟨k, l⟩ := o
        have hk := headAt_le hh
        rw [hh] at he D2
        simp only [Option.bind_some] at he D2
        split at he
        · rename_i hr
          simp only [Option.bind_some] at he
          unfold objT at he
          simp only at he
          by_cases h0 : k = 0
          · subst h0
            rw [if_neg (by decide), if_neg (by decide), if_neg (by decide), if_neg (by decide), if_neg (by decide), if_neg (by decide), lead_tup hk.2.2] at he
            cases hs : seqP (termP asks S m f) (left - 1) (l.drop 1) with
            | none => rw [hs] at he; cases he
            | some r =>
              obtain ⟨ts, l2⟩ := r
              rw [hs] at he
              simp only [Option.map_some, Option.some.injEq, Prod.mk.injEq] at he
              obtain ⟨rfl, rfl⟩ := he
              obtain ⟨k1, k2, k3, k4, k5⟩ := seq12 ih _ _ _ _ hs
              have hw : (Tm.mk 6 0 false [] 0 ⟨#[]⟩ ts).wt = 1 + wts ts := by simp [Tm.wt]
              have hn : (Tm.mk 6 0 false [] 0 ⟨#[]⟩ ts).nd = 1 + nds ts := by simp [Tm.nd]
              have h9 : l.length ≤ 9 := by
                unfold rightP at hr
                rw [if_neg (by decide)] at hr
                simp [rightFlat] at hr
                exact hr.1
              rw [hw, hn]
              refine ⟨by omega, ?_, by omega, fun left2 hl2 => ?_⟩
              · simp [Tm.right, SheadP, bareP, k2]; rw [k3, List.length_drop]; omega
              · rw [D2 left2 (by omega), if_pos rfl, if_neg (by omega), k5 (left2 - 1) (by omega)]
                simp only [Option.map_some, Option.some.injEq, Prod.mk.injEq, true_and]
                omega
          · by_cases h1 : k = 1
            · subst h1
              rw [if_pos rfl] at he
              have hf : rightFlat 1 l = true := by unfold rightP at hr; rw [if_neg (by decide)] at hr; exact hr
              split at he
              · rename_i q
                simp only [Option.some.injEq, Prod.mk.injEq] at he
                obtain ⟨rfl, rfl⟩ := he
                obtain ⟨b1, b2, b3, b4⟩ := bigTm_right l
                rw [b4] at b1 b2 b3
                have hb : (numMayP (bigNeg l) (bigMag l) && !smallP (bigNeg l) (bigMag l)) = true := by
                  simp [rightFlat, bigP] at hf
                  simp [hf.2.1.2, hf.2.2]
                refine ⟨by omega, by rw [b1, hb], by omega, fun left2 hl2 => ?_⟩
                rw [D2 left2 (by omega), if_neg (by decide), if_pos rfl, if_pos hf, b3]
              · cases he
            · by_cases h2 : k = 2
              · subst h2
                rw [if_neg (by decide), if_pos rfl] at he
                have hf : rightFlat 2 l = true := by unfold rightP at hr; rw [if_neg (by decide)] at hr; exact hr
                simp only [Option.some.injEq, Prod.mk.injEq] at he
                obtain ⟨rfl, rfl⟩ := he
                have hw : (Tm.mk 3 0 false [] (l.getD 1 0) ⟨#[]⟩ []).wt = 1 := by simp [Tm.wt]
                have hn : (Tm.mk 3 0 false [] (l.getD 1 0) ⟨#[]⟩ []).nd = 1 := by simp [Tm.nd, nds]
                have hb : realP (l.getD 1 0) = true := by
                  simp only [rightFlat] at hf
                  simp at hf
                  simpa using hf.2
                rw [hw, hn]
                refine ⟨by omega, ?_, by omega, fun left2 hl2 => ?_⟩
                · simp only [Tm.right, SheadP, bareP, rights]
                  simp
                  simpa using hb
                · rw [D2 left2 (by omega), if_neg (by decide), if_neg (by decide), if_pos rfl, if_pos hf]
              · have K : ∀ (ob : Option ByteArray), (ob.bind (binT (left - 1)) = some (t, l')) → (∀ left2, left2 ≠ 0 → refT asks S m (f + 1) left2 x = ob.map fun b => (.mk 9 0 false [] 0 b [], left2 - 1)) →
                    t.wt + l' = left ∧ t.right = true ∧ t.nd ≤ t.wt ∧ ∀ left2, t.nd ≤ left2 → refT asks S m (f + 1) left2 x = some (t, left2 - t.nd) := by
                  intro ob h1 h2
                  cases ob with
                  | none => cases h1
                  | some b =>
                    simp only [Option.bind_some] at h1
                    obtain ⟨q1, q2, q3, q4, q5⟩ := bin_of h1
                    refine ⟨by omega, q3, by omega, fun left2 hl2 => ?_⟩
                    rw [h2 left2 (by omega), q4, Option.map_some, ← q1]
                by_cases h3' : k = 3
                · subst h3'
                  have hf : rightFlat 3 l = true := by unfold rightP at hr; rw [if_neg (by decide)] at hr; exact hr
                  rw [if_neg (by decide), if_neg (by decide), if_pos rfl] at he
                  refine K _ he fun left2 h => ?_
                  rw [D2 left2 h, if_neg (by decide), if_neg (by decide), if_neg (by decide), if_pos rfl, if_pos hf]
                · by_cases h4' : k = 4
                  · subst h4'
                    have hf : rightFlat 4 l = true := by unfold rightP at hr; rw [if_neg (by decide)] at hr; exact hr
                    rw [if_neg (by decide), if_neg (by decide), if_neg (by decide), if_pos rfl] at he
                    refine K _ he fun left2 h => ?_
                    rw [D2 left2 h, if_neg (by decide), if_neg (by decide), if_neg (by decide), if_neg (by decide), if_pos rfl, if_pos hf]
                  · have h5' : k = 5 := by omega
                    subst h5'
                    rw [if_neg (by decide), if_neg (by decide), if_neg (by decide), if_neg (by decide), if_pos rfl] at he
                    refine K _ he fun left2 h => ?_
                    rw [D2 left2 h, if_neg (by decide), if_neg (by decide), if_neg (by decide), if_neg (by decide), if_neg (by decide), if_pos hr]
        · cases he

theorem both12 {asks : Bool} {S : List Slt} {m : List Frg} (hm : LowM m) : ∀ f, G12 (termP asks S m f) (refT asks S m f)
  | 0 => fun left x t l' he => by cases he
  | f + 1 => step12 hm (both12 hm f)

theorem step21 {asks : Bool} {S : List Slt} {m : List Frg} (hm : LowM m) {f : Nat} (ih : G21 (refT asks S m f) (termP asks S m f)) : G21 (refT asks S m (f + 1)) (termP asks S m (f + 1)) := by
  intro left x t l' he
  have hp : plainP x = true := by
    cases h : plainP x with
    | true => rfl
    | false => rw [refT_step] at he; unfold readT at he; rw [if_pos (Or.inr h)] at he; cases he
  have hl : left ≠ 0 := by
    intro h; rw [refT_step] at he; unfold readT at he; rw [if_pos (Or.inl h)] at he; cases he
  refine ⟨hp, fun htr left2 hl2 => ?_⟩
  by_cases h3 : tagW x ≤ 3
  · obtain ⟨t', e1, e2, e3⟩ := term_leaf (asks := asks) (S := S) (m := m) (f := f) hp hl h3
    rw [e3] at he
    simp only [Option.some.injEq, Prod.mk.injEq] at he
    obtain ⟨rfl, rfl⟩ := he
    obtain ⟨k1, k2, k3⟩ := leaf_right hp e1
    obtain ⟨t2, e1', e2', -⟩ := term_leaf (asks := asks) (S := S) (m := m) (f := f) (left := left2) hp (by omega) h3
    rw [e1] at e1'
    cases e1'
    rw [e2', k2]
  · have hq := plain_parts hp
    have hw1 := Tm.wt_pos t
    obtain ⟨-, d2⟩ := term_deep (asks := asks) (S := S) (m := m) (f := f) hp hl (by omega)
    obtain ⟨d1, -⟩ := term_deep (asks := asks) (S := S) (m := m) (f := f) (left := left2) hp (by omega) (by omega)
    rw [d2] at he
    rw [d1]
    by_cases h5 : tagW x = 5
    · rw [if_pos h5] at he
      rw [h5]
      have e5 : objP m (loadW x) ((5 : Nat) : Int) = (wordsP m (loadW x) 2).bind fun l => if allP l = true then some (-1, l) else none := by
        unfold objP; rw [if_pos (show ((5 : Nat) : Int) = 5 from rfl)]
      rw [e5, words_rest m _ 2 (by decide)]
      split at he
      · cases he
      · rename_i h2
        rw [if_pos (by omega)]
        simp only [Option.bind_some]
        have e2 : ((2 : Int).toNat) = 2 := rfl
        rw [e2]
        have hlen : ((restP m (loadW x)).take 2).length = 2 := by rw [List.length_take]; omega
        generalize hws : (restP m (loadW x)).take 2 = ws at he hlen ⊢
        cases hs : seqP (refT asks S m f) (left - 1) ws with
        | none => rw [hs] at he; cases he
        | some r =>
          obtain ⟨ts, l2⟩ := r
          rw [hs] at he
          simp only [Option.map_some, Option.some.injEq, Prod.mk.injEq] at he
          obtain ⟨rfl, rfl⟩ := he
          obtain ⟨k1, k2, k3⟩ := seq21 ih ws _ _ _ hs
          have hw : (Tm.mk 8 0 false [] 0 ⟨#[]⟩ ts).wt = 1 + wts ts := by simp [Tm.wt]
          have hr : rights ts = true := by
            simp only [Tm.right, Bool.and_eq_true] at htr
            exact htr.2
          rw [if_pos k1]
          simp only [Option.bind_some]
          unfold objT
          simp only
          rw [if_neg (by decide), if_neg (by decide), if_neg (by decide), if_neg (by decide), if_neg (by decide), lead_two hlen, k3 hr (left2 - 1) (by omega), hw]
          simp only [Option.map_some, if_true, Option.some.injEq, Prod.mk.injEq, true_and]
          omega
    · have h4 : tagW x = 4 := by omega
      rw [if_neg h5, box_obj hm x h4] at he
      rw [h4]
      have e4 : objP m (loadW x) ((4 : Nat) : Int) = (headAt m (loadW x)).bind fun o => if rightP m o.1 o.2 = true then some o else none := obj_head
      rw [e4]
      cases hh : headAt m (loadW x) with
      | none => rw [hh] at he; cases he
      | some o =>
        obtain ⟨k, l⟩ := o
        have hk := headAt_le hh
        rw [hh] at he
        simp only [Option.bind_some] at he ⊢
        have R : ∀ j, k = j → j ≠ 5 → rightFlat j l = true → rightP m k l = true := fun j h hj hf => by unfold rightP; rw [h, if_neg hj]; exact hf
        by_cases h0 : k = 0
        · rw [if_pos h0] at he
          split at he
          · cases he
          · rename_i h9
            cases hs : seqP (refT asks S m f) (left - 1) (l.drop 1) with
            | none => rw [hs] at he; cases he
            | some r =>
              obtain ⟨ts, l2⟩ := r
              rw [hs] at he
              simp only [Option.map_some, Option.some.injEq, Prod.mk.injEq] at he
              obtain ⟨rfl, rfl⟩ := he
              obtain ⟨k1, k2, k3⟩ := seq21 ih _ _ _ _ hs
              have hw : (Tm.mk 6 0 false [] 0 ⟨#[]⟩ ts).wt = 1 + wts ts := by simp [Tm.wt]
              have hr : rights ts = true := by
                simp only [Tm.right, Bool.and_eq_true] at htr
                exact htr.2
              rw [if_pos (R 0 h0 (by decide) (by unfold rightFlat; rw [if_pos rfl, k1, decide_eq_true (by omega)]; rfl))]
              subst h0
              simp only [Option.bind_some]
              unfold objT
              simp only
              rw [if_neg (by decide), if_neg (by decide), if_neg (by decide), if_neg (by decide), if_neg (by decide), lead_tup hk.2.2, k3 hr (left2 - 1) (by omega), hw]
              rw [if_neg (by decide)]
              simp only [Option.map_some, Option.some.injEq, Prod.mk.injEq, true_and]
              omega
        · rw [if_neg h0] at he
          by_cases h1 : k = 1
          · rw [if_pos h1] at he
            split at he
            · rename_i hf
              simp only [Option.some.injEq, Prod.mk.injEq] at he
              obtain ⟨rfl, rfl⟩ := he
              obtain ⟨-, b2, -, b4⟩ := bigTm_right l
              rw [b4] at b2
              rw [if_pos (R 1 h1 (by decide) hf)]
              subst h1
              simp only [Option.bind_some]
              unfold objT
              simp only
              rw [if_pos trivial, if_pos (by omega), b2]
              simp only [Option.some.injEq, Prod.mk.injEq, true_and]
              omega
            · cases he
          · rw [if_neg h1] at he
            by_cases h2 : k = 2
            · rw [if_pos h2] at he
              split at he
              · rename_i hf
                simp only [Option.some.injEq, Prod.mk.injEq] at he
                obtain ⟨rfl, rfl⟩ := he
                have hw : (Tm.mk 3 0 false [] (l.getD 1 0) ⟨#[]⟩ []).wt = 1 := by simp [Tm.wt]
                rw [if_pos (R 2 h2 (by decide) hf)]
                subst h2
                simp only [Option.bind_some]
                unfold objT
                simp only
                rw [if_neg (by decide), if_pos trivial, hw]
              · cases he
            · rw [if_neg h2] at he
              have K : ∀ (ob : Option ByteArray), (ob.map fun b => (Tm.mk 9 0 false [] 0 b [], left - 1)) = some (t, l') → ob.bind (binT (left2 - 1)) = some (t, left2 - t.wt) := by
                intro ob h
                cases ob with
                | none => cases h
                | some b =>
                  simp only [Option.map_some, Option.some.injEq, Prod.mk.injEq] at h
                  obtain ⟨rfl, -⟩ := h
                  exact (bin_to htr hl2).2
              by_cases h3' : k = 3
              · rw [if_pos h3'] at he
                split at he
                · rename_i hf
                  rw [if_pos (R 3 h3' (by decide) hf)]
                  subst h3'
                  simp only [Option.bind_some]
                  unfold objT
                  simp only
                  rw [if_neg (by decide), if_neg (by decide), if_pos trivial]
                  exact K _ he
                · cases he
              · rw [if_neg h3'] at he
                by_cases h4' : k = 4
                · rw [if_pos h4'] at he
                  split at he
                  · rename_i hf
                    rw [if_pos (R 4 h4' (by decide) hf)]
                    subst h4'
                    simp only [Option.bind_some]
                    unfold objT
                    simp only
                    rw [if_neg (by decide), if_neg (by decide), if_neg (by decide), if_pos trivial]
                    exact K _ he
                  · cases he
                · rw [if_neg h4'] at he
                  have h5' : k = 5 := by omega
                  split at he
                  · rename_i hf
                    subst h5'
                    rw [if_pos hf]
                    simp only [Option.bind_some]
                    unfold objT
                    simp only
                    rw [if_neg (by decide), if_neg (by decide), if_neg (by decide), if_neg (by decide), if_pos trivial]
                    exact K _ he
                  · cases he

theorem both21 {asks : Bool} {S : List Slt} {m : List Frg} (hm : LowM m) : ∀ f, G21 (refT asks S m f) (termP asks S m f)
  | 0 => fun left x t l' he => by cases he
  | f + 1 => step21 hm (both21 hm f)

/-- Chapter 12's own reader and the program's say the same of any word. -/
theorem read_same {asks : Bool} {S : List Slt} {m : List Frg} (hm : LowM m) (x : Nat) : refRead asks S m x = readP asks S m x := by
  unfold refRead readP
  cases ht : termP asks S m 301 300 x with
  | some p =>
    obtain ⟨t, l'⟩ := p
    obtain ⟨h1, h2, h3, h4⟩ := both12 hm 301 300 x t l' ht
    rw [h4 300 (by omega)]
    simp only [Option.bind_some, Option.map_some]
    rw [if_pos]
    unfold Tm.may
    rw [h2, decide_eq_true (by omega)]
    rfl
  | none =>
    cases hr : refT asks S m 301 300 x with
    | none => rfl
    | some p =>
      obtain ⟨t, l'⟩ := p
      simp only [Option.bind_some, Option.map_none]
      split
      · rename_i q
        unfold Tm.may at q
        simp only [Bool.and_eq_true, decide_eq_true_eq] at q
        have := (both21 hm 301 300 x t l' hr).2 q.2 300 q.1
        rw [ht] at this
        cases this
      · rfl

theorem roots_same {asks : Bool} {S : List Slt} {d : Dmp} (hm : LowM d.mem) : refRoots asks S d = rootsP asks S d := by
  unfold refRoots rootsP refReads readsP
  congr 1
  funext x
  rw [read_same hm]

end Go.Proofs.YtlmpmjhanpkcnaaGreat

namespace Go.Proofs.YtlmpmjhanpkcnaaGreat
open Go.RowKit Go.Maps

theorem img_len (W : List (Spt × Nat)) (k : Int) (l : List Nat) (lim : Nat) : (imgP W k l lim).length = l.length := by unfold imgP; simp

/-- An object's words, moved. -/
def imgO (W : List (Spt × Nat)) (k : Int) (l : List Nat) : List Nat := imgP W k l (leadsP k l.length).2.toNat

theorem imgO_len (W : List (Spt × Nat)) (k : Int) (l : List Nat) : (imgO W k l).length = l.length := img_len _ _ _ _

theorem imgO_at {W : List (Spt × Nat)} {k : Int} {l : List Nat} {t : Nat} (ht : t < l.length) : (imgO W k l)[t]? = some (if (leadsP k l.length).1.toNat ≤ t ∧ t < (leadsP k l.length).2.toNat then phi W l[t] else l[t]) := img_at ht

theorem imgO_same {W : List (Spt × Nat)} {k : Int} {l : List Nat} (h : k = 1 ∨ k = 2 ∨ k = 3 ∨ k = 4) : imgO W k l = l := by
  have e : leadsP k l.length = (0, 0) := by unfold leadsP; rw [if_neg (by omega), if_neg (by omega), if_neg (by omega)]
  apply List.ext_getElem?
  intro t
  by_cases ht : t < l.length
  · rw [imgO_at ht, if_neg (by rw [e]; simp), List.getElem?_eq_getElem ht]
  · rw [List.getElem?_eq_none (by rw [imgO_len]; omega), List.getElem?_eq_none (by omega)]

theorem imgO_cons {W : List (Spt × Nat)} {l : List Nat} (h : l.length = 2) : imgO W (-1) l = l.map (phi W) := by
  have e : leadsP (-1) l.length = (0, 2) := by unfold leadsP; rw [if_pos rfl]
  apply List.ext_getElem?
  intro t
  by_cases ht : t < l.length
  · rw [imgO_at ht, if_pos (by rw [e]; simp; omega), List.getElem?_map, List.getElem?_eq_getElem ht]; rfl
  · rw [List.getElem?_eq_none (by rw [imgO_len]; omega), List.getElem?_eq_none (by rw [List.length_map]; omega)]

theorem imgO_tup {W : List (Spt × Nat)} {l : List Nat} : (imgO W 0 l).drop 1 = (l.drop 1).map (phi W) := by
  have e : leadsP 0 l.length = (1, (l.length : Int)) := by unfold leadsP; rw [if_neg (by decide), if_pos rfl]
  apply List.ext_getElem?
  intro t
  rw [List.getElem?_drop, List.getElem?_map, List.getElem?_drop]
  by_cases ht : 1 + t < l.length
  · rw [imgO_at ht, if_pos (by rw [e]; simp; omega), List.getElem?_eq_getElem ht]; rfl
  · rw [List.getElem?_eq_none (by rw [imgO_len]; omega), List.getElem?_eq_none (by omega)]; rfl

theorem imgO_head {W : List (Spt × Nat)} {k : Int} {l : List Nat} (hk : 0 ≤ k) : (imgO W k l)[0]? = l[0]? := by
  by_cases ht : 0 < l.length
  · rw [imgO_at ht, List.getElem?_eq_getElem ht, if_neg]
    intro q
    unfold leadsP at q
    rw [if_neg (by omega)] at q
    split at q
    · simp at q
    · split at q
      · simp at q
      · simp at q
  · rw [List.getElem?_eq_none (by rw [imgO_len]; omega), List.getElem?_eq_none (by omega)]

theorem imgO_five {W : List (Spt × Nat)} {l : List Nat} (h : l.length = 4) : (imgO W 5 l).getD 1 0 = phi W (l.getD 1 0) ∧ (imgO W 5 l).getD 2 0 = l.getD 2 0 ∧ (imgO W 5 l).getD 3 0 = l.getD 3 0 := by
  have e : leadsP 5 l.length = (1, 2) := by unfold leadsP; rw [if_neg (by decide), if_neg (by decide), if_pos rfl]
  refine ⟨?_, ?_, ?_⟩
  · rw [List.getD_eq_getElem?_getD, imgO_at (by omega), if_pos (by rw [e]; simp), List.getD_eq_getElem?_getD, List.getElem?_eq_getElem (by omega)]; rfl
  · rw [List.getD_eq_getElem?_getD, imgO_at (by omega), if_neg (by rw [e]; simp), List.getD_eq_getElem?_getD, List.getElem?_eq_getElem (by omega)]
  · rw [List.getD_eq_getElem?_getD, imgO_at (by omega), if_neg (by rw [e]; simp), List.getD_eq_getElem?_getD, List.getElem?_eq_getElem (by omega)]

/-- Memory behind a collection. -/
def memW (a : Nat) (st : Mv) : List Frg := [((a : Int), st.words), (0, [])]

theorem rest_memW {a : Nat} {st : Mv} {n : Nat} (hn : n < st.words.length) : restP (memW a st) (((a + n : Nat) : Int)) = st.words.drop n := by
  unfold memW
  rw [restP, if_pos]
  · have : (((a + n : Nat) : Int) - (a : Int)).toNat = n := by omega
    simp only [this]
  · simp [inP]
    omega

theorem seg_eq {L I : List Nat} {n : Nat} (hn : n + I.length ≤ L.length) (h : ∀ t, t < I.length → L[n + t]? = I[t]?) : (L.drop n).take I.length = I := by
  apply List.ext_getElem?
  intro t
  rw [List.getElem?_take]
  by_cases ht : t < I.length
  · rw [if_pos ht, List.getElem?_drop, h t ht]
  · rw [if_neg ht, List.getElem?_eq_none (by omega)]

/-- All objects' words, in the whole. -/
structure Home (m : List Frg) (a : Nat) (st : Mv) : Prop where
  went : ∀ s ∈ st.keys, Went m a st s
  tag : ∀ s ∈ st.keys, s.2 = 4 ∨ s.2 = 5
  low : a + st.words.length ≤ 1125899907842624

theorem Home.to {m : List Frg} {a : Nat} {st : Mv} (h : Home m a st) {s : Spt} {n : Nat} (hs : s ∈ st.keys) (hn : n ≤ st.words.length) : toP ((a + n) * 8 + s.2.toNat) = some (((a + n : Nat) : Int), s.2) := by
  have := h.low
  rcases h.tag s hs with e | e
  · rw [e]; exact toP_mk (t := 4) (.inl rfl) (by omega)
  · rw [e]; exact toP_mk (t := 5) (.inr rfl) (by omega)

theorem Home.plain {m : List Frg} {a : Nat} {st : Mv} (h : Home m a st) {x : Nat} (hp : plainP x = true) (hk : ∀ s, toP x = some s → s ∈ st.keys) : plainP (phi st.went x) = true := by
  cases ht : toP x with
  | none => rw [phi_none ht]; exact hp
  | some s =>
    obtain ⟨n, k, l, ho, hw, hr, -⟩ := (h.went s (hk s ht)).at_
    rw [phi_some ht hw]
    exact (toP_eq (h.to (hk s ht) (by omega))).1

theorem allP_map {m : List Frg} {a : Nat} {st : Mv} (h : Home m a st) {L : List Nat} (hp : allP L = true) (hk : ∀ x ∈ L, ∀ s, toP x = some s → s ∈ st.keys) : allP (L.map (phi st.went)) = true := by
  unfold allP at *
  rw [List.all_eq_true] at *
  intro y hy
  obtain ⟨x, hx, rfl⟩ := List.mem_map.1 hy
  exact h.plain (hp x hx) (hk x hx)

theorem headAt_parts {m : List Frg} {a k : Int} {l : List Nat} (h : headAt m a = some (k, l)) : ∃ x t sz, l = x :: t ∧ headP x = some (k, sz) ∧ t.length = sz.toNat := by
  rw [headAt_rest] at h
  cases hr : restP m a with
  | nil => rw [hr] at h; cases h
  | cons x t =>
    rw [hr] at h
    simp only at h
    obtain ⟨q, hq, h⟩ := Option.bind_eq_some_iff.1 h
    split at h
    · rename_i hle
      simp only [Option.some.injEq, Prod.mk.injEq] at h
      obtain ⟨rfl, rfl⟩ := h
      exact ⟨x, _, q.2, rfl, hq, by rw [List.length_take]; omega⟩
    · cases h

theorem Home.head {m : List Frg} {a : Nat} {st : Mv} {n : Nat} {b k : Int} {l : List Nat} (hh : headAt m b = some (k, l)) (hr : n + l.length ≤ st.words.length) (hc : ∀ t, t < l.length → st.words[n + t]? = (imgO st.went k l)[t]?) :
    headAt (memW a st) ((a + n : Nat) : Int) = some (k, imgO st.went k l) := by
  obtain ⟨x, t, sz, rfl, hx, ht⟩ := headAt_parts hh
  have hk := (headAt_le hh).1
  have hseg := seg_eq (L := st.words) (I := imgO st.went k (x :: t)) (n := n) (by rw [imgO_len]; exact hr) (fun j hj => hc j (by rw [imgO_len] at hj; exact hj))
  rw [imgO_len] at hseg
  have h0 : (imgO st.went k (x :: t))[0]? = some x := by rw [imgO_head hk]; rfl
  have hlen : (x :: t).length = sz.toNat + 1 := by simp [ht]
  rw [headAt_rest, rest_memW (by simp only [List.length_cons] at hr; omega)]
  cases hd : st.words.drop n with
  | nil =>
    have := congrArg List.length hd
    rw [List.length_drop] at this
    simp only [List.length_cons, List.length_nil] at hr this
    omega
  | cons y r =>
    have hl2 := congrArg List.length hd
    rw [List.length_drop] at hl2
    simp only [List.length_cons] at hl2 hr
    rw [hd, hlen, List.take_succ_cons] at hseg
    have ey : y = x := by
      rw [← hseg] at h0
      simpa using h0
    subst ey
    simp only
    rw [hx]
    simp only [Option.bind_some]
    rw [if_pos (by omega), hseg]

theorem Home.obj {m : List Frg} {a : Nat} {st : Mv} (h : Home m a st) {s : Spt} (hs : s ∈ st.keys) : ∃ n k l, objP m s.1 s.2 = some (k, l) ∧ wentAt st.went s = some ((a + n) * 8 + s.2.toNat) ∧ n + l.length ≤ st.words.length ∧
    objP (memW a st) ((a + n : Nat) : Int) s.2 = some (k, imgO st.went k l) ∧ ∀ x ∈ leadW k l, ∀ s', toP x = some s' → s' ∈ st.keys := by
  obtain ⟨n, k, l, ho, hw, hr, hc, hl⟩ := (h.went s hs).at_
  refine ⟨n, k, l, ho, hw, hr, ?_, hl⟩
  have hc : ∀ t, t < l.length → st.words[n + t]? = (imgO st.went k l)[t]? := hc
  have hseg := seg_eq (L := st.words) (I := imgO st.went k l) (n := n) (by rw [imgO_len]; exact hr) (fun j hj => hc j (by rw [imgO_len] at hj; exact hj))
  rw [imgO_len] at hseg
  rcases h.tag s hs with e | e
  · -- a box
    rw [e] at ho ⊢
    rw [obj_head] at ho ⊢
    obtain ⟨o, hh, ho⟩ := Option.bind_eq_some_iff.1 ho
    split at ho
    · rename_i hright
      cases ho
      rw [Home.head hh hr hc]
      simp only [Option.bind_some]
      rw [if_pos]
      have hk := headAt_le hh
      by_cases h14 : k = 1 ∨ k = 2 ∨ k = 3 ∨ k = 4
      · rw [imgO_same h14]
        unfold rightP at hright ⊢
        rw [if_neg (by omega)] at hright ⊢
        exact hright
      · by_cases h0 : k = 0
        · subst h0
          unfold rightP at hright ⊢
          rw [if_neg (show ¬ (0 : Int) = 5 by decide)] at hright ⊢
          have e1 : ∀ L : List Nat, rightFlat 0 L = (decide (L.length ≤ 9) && allP (L.drop 1)) := fun L => by simp [rightFlat]
          rw [e1] at hright ⊢
          simp only [Bool.and_eq_true, decide_eq_true_eq] at hright ⊢
          rw [imgO_len, imgO_tup]
          refine ⟨hright.1, allP_map h hright.2 fun x hx s' hs' => hl x ?_ s' hs'⟩
          rw [lead_tup hk.2.2]
          exact hx
        · have h5 : k = 5 := by omega
          subst h5
          have h4 : l.length = 4 := by
            unfold rightP at hright
            rw [if_pos rfl, Bool.and_eq_true, decide_eq_true_eq] at hright
            exact hright.1
          obtain ⟨g1, g2, g3⟩ := imgO_five (W := st.went) h4
          have hle : lengthP (memW a st) ((imgO st.went 5 l).getD 1 0) = lengthP m (l.getD 1 0) := by
            rw [g1]
            have hlead : ∀ s', toP (l.getD 1 0) = some s' → s' ∈ st.keys := fun s' hs' => hl _ (by
              unfold leadW leadsP
              match l, h4 with
              | [_, y, _, _], _ => simp) s' hs'
            cases hlm : lengthP m (l.getD 1 0) with
            | none => rw [right5_eq h4 hlm] at hright; cases hright
            | some q =>
              unfold lengthP at hlm
              cases hto : toP (l.getD 1 0) with
              | none => rw [hto] at hlm; cases hlm
              | some s1 =>
                rw [hto] at hlm
                simp only [Option.bind_some] at hlm
                split at hlm
                · rename_i e4
                  have hs1 := hlead s1 hto
                  obtain ⟨n1, k1, l1, ho1, hw1, hr1, hc1, -⟩ := (h.went s1 hs1).at_
                  have hc1 : ∀ t, t < l1.length → st.words[n1 + t]? = (imgO st.went k1 l1)[t]? := hc1
                  rw [e4, obj_head] at ho1
                  obtain ⟨o1, hh1, ho1⟩ := Option.bind_eq_some_iff.1 ho1
                  split at ho1
                  · cases ho1
                    rw [hh1] at hlm
                    simp only [Option.bind_some] at hlm
                    have hk1 : k1 = 3 ∨ k1 = 4 := by
                      split at hlm
                      · rename_i q; exact .inl q.1
                      · split at hlm
                        · rename_i q; exact .inr q.1
                        · cases hlm
                    rw [phi_some hto hw1]
                    unfold lengthP
                    rw [h.to hs1 (by omega)]
                    simp only [Option.bind_some]
                    rw [if_pos e4, Home.head hh1 hr1 hc1, imgO_same (by omega)]
                    exact hlm
                  · cases ho1
                · cases hlm
          have R : ∀ (M : List Frg) (L : List Nat), rightP M 5 L = (decide (L.length = 4) && lenOk L (lengthP M (L.getD 1 0))) := fun M L => by
            unfold rightP
            rw [if_pos rfl]
            cases lengthP M (L.getD 1 0) <;> rfl
          rw [R, hle, imgO_len]
          rw [R] at hright
          have : lenOk (imgO st.went 5 l) (lengthP m (l.getD 1 0)) = lenOk l (lengthP m (l.getD 1 0)) := by
            cases lengthP m (l.getD 1 0) with
            | none => rfl
            | some q => simp only [lenOk]; rw [g2, g3]
          rw [this]
          exact hright
    · cases ho
  · -- a pair
    rw [e] at ho ⊢
    unfold objP at ho ⊢
    rw [if_pos rfl] at ho ⊢
    obtain ⟨l0, hw0, ho⟩ := Option.bind_eq_some_iff.1 ho
    split at ho
    · rename_i hall
      cases ho
      have h2 : l.length = 2 := by
        rw [words_rest m _ 2 (by decide)] at hw0
        split at hw0
        · cases hw0; rw [List.length_take]; simp; omega
        · cases hw0
      rw [words_rest _ _ 2 (by decide), rest_memW (by omega), if_pos (by rw [List.length_drop]; omega)]
      rw [h2] at hseg
      simp only [Option.bind_some]
      rw [show (2 : Int).toNat = 2 from rfl, hseg, imgO_cons h2, if_pos]
      exact allP_map h hall fun x hx s' hs' => hl x (by rw [lead_two h2]; exact hx) s' hs'
    · cases ho

theorem seqP_phi {g g' : Nat → Nat → Option (Tm × Nat)} {W : List (Spt × Nat)} : ∀ (L : List Nat) (left : Nat), (∀ x ∈ L, ∀ left, g' left (phi W x) = g left x) → seqP g' left (L.map (phi W)) = seqP g left L
  | [], left, _ => rfl
  | x :: r, left, h => by
    simp only [List.map_cons, seqP]
    rw [h x List.mem_cons_self]
    cases g left x with
    | none => rfl
    | some p =>
      simp only [Option.bind_some]
      rw [seqP_phi r p.2 fun y hy => h y (List.mem_cons_of_mem _ hy)]

theorem Home.part {m : List Frg} {a : Nat} {st : Mv} (h : Home m a st) (asks : Bool) (S : List Slt) {l : List Nat} (h4 : l.length = 4) (hr5 : rightP m 5 l = true) (hl : ∀ s', toP (l.getD 1 0) = some s' → s' ∈ st.keys) : partP asks S (memW a st) (imgO st.went 5 l) = partP asks S m l := by
  obtain ⟨g1, g2, g3⟩ := imgO_five (W := st.went) h4
  unfold partP
  rw [g1, g2, g3]
  cases hto : toP (l.getD 1 0) with
  | none => rw [phi_none hto, hto]
  | some s1 =>
    have hs1 := hl s1 hto
    obtain ⟨n1, k1, l1, ho1, hw1, hr1, ho1', -⟩ := h.obj hs1
    obtain ⟨k2, l2, ho2, hk2⟩ := part_lead hr5 hto (by rw [ho1]; rfl)
    rw [ho1] at ho2
    cases ho2
    rw [phi_some hto hw1, h.to hs1 (by omega)]
    simp only
    rw [ho1', ho1, imgO_same (by omega)]

theorem objT_seq {g : Nat → Nat → Option (Tm × Nat)} {asks : Bool} {S : List Slt} {m : List Frg} {left : Nat} {k : Int} {l : List Nat} (h : k = -1 ∨ k = 0) : objT g asks S m left (k, l) = (seqP g left (leadW k l)).map fun r => (.mk (if k = -1 then 8 else 6) 0 false [] 0 ⟨#[]⟩ r.1, r.2) := by
  unfold objT
  simp only
  rw [if_neg (by omega), if_neg (by omega), if_neg (by omega), if_neg (by omega), if_neg (by omega)]

theorem objT_flat {g g' : Nat → Nat → Option (Tm × Nat)} {asks : Bool} {S : List Slt} {m m' : List Frg} {left : Nat} {k : Int} {l : List Nat} (h : k = 1 ∨ k = 2 ∨ k = 3 ∨ k = 4) : objT g' asks S m' left (k, l) = objT g asks S m left (k, l) := by
  unfold objT
  simp only
  rcases h with rfl | rfl | rfl | rfl
  · rw [if_pos rfl, if_pos rfl]
  · rw [if_neg (by decide), if_pos rfl, if_neg (by decide), if_pos rfl]
  · rw [if_neg (by decide), if_neg (by decide), if_pos rfl, if_neg (by decide), if_neg (by decide), if_pos rfl]
  · rw [if_neg (by decide), if_neg (by decide), if_neg (by decide), if_pos rfl, if_neg (by decide), if_neg (by decide), if_neg (by decide), if_pos rfl]

theorem objT_five {g : Nat → Nat → Option (Tm × Nat)} {asks : Bool} {S : List Slt} {m : List Frg} {left : Nat} {l : List Nat} : objT g asks S m left (5, l) = (partP asks S m l).bind (binT left) := by
  unfold objT
  simp only
  rw [if_neg (by decide), if_neg (by decide), if_neg (by decide), if_neg (by decide), if_pos trivial]

theorem Home.objT {m : List Frg} {a : Nat} {st : Mv} (h : Home m a st) (asks : Bool) (S : List Slt) {g g' : Nat → Nat → Option (Tm × Nat)} (hg : ∀ left x, (∀ s, toP x = some s → s ∈ st.keys) → g' left (phi st.went x) = g left x)
    {left : Nat} {k : Int} {l : List Nat} (hok : ObjOK m k l) (hle : ∀ x ∈ leadW k l, ∀ s', toP x = some s' → s' ∈ st.keys) :
    Proofs.YtlmpmjhanpkcnaaGreat.objT g' asks S (memW a st) left (k, imgO st.went k l) = Proofs.YtlmpmjhanpkcnaaGreat.objT g asks S m left (k, l) := by
  have hseq : ∀ L : List Nat, (∀ x ∈ L, x ∈ leadW k l) → seqP g' left (L.map (phi st.went)) = seqP g left L :=
    fun L hL => seqP_phi L _ fun y hy left' => hg left' y fun s' hs' => hle y (hL y hy) s' hs'
  rcases hok with (⟨rfl, h2⟩ | ⟨rfl, h2⟩) | ⟨rfl, -⟩ | ⟨rfl, -⟩ | ⟨rfl, -⟩ | ⟨rfl, -⟩ | ⟨rfl, hr5⟩
  · have hi2 : (imgO st.went (-1) l).length = 2 := by rw [imgO_len]; exact h2
    rw [objT_seq (.inl rfl), objT_seq (.inl rfl), lead_two hi2, lead_two h2, imgO_cons h2, hseq l (fun x hx => by rw [lead_two h2]; exact hx)]
  · have hi2 : 1 ≤ (imgO st.went 0 l).length := by rw [imgO_len]; exact h2.1
    rw [objT_seq (.inr rfl), objT_seq (.inr rfl), lead_tup hi2, lead_tup h2.1, imgO_tup, hseq (l.drop 1) (fun x hx => by rw [lead_tup h2.1]; exact hx)]
  · rw [imgO_same (.inl rfl)]; exact objT_flat (by omega)
  · rw [imgO_same (.inr (.inl rfl))]; exact objT_flat (by omega)
  · rw [imgO_same (.inr (.inr (.inl rfl)))]; exact objT_flat (by omega)
  · rw [imgO_same (.inr (.inr (.inr rfl)))]; exact objT_flat (by omega)
  · have h4 : l.length = 4 := by
      unfold rightP at hr5
      rw [if_pos rfl, Bool.and_eq_true, decide_eq_true_eq] at hr5
      exact hr5.1
    rw [objT_five, objT_five, h.part asks S h4 hr5 fun s' hs' => hle _ (by
      unfold leadW leadsP
      match l, h4 with
      | [_, y, _, _], _ => simp) s' hs']

theorem Home.step {m : List Frg} {a : Nat} {st : Mv} (h : Home m a st) (asks : Bool) (S : List Slt) {f : Nat} (ih : ∀ left x, (∀ s, toP x = some s → s ∈ st.keys) → termP asks S (memW a st) f left (phi st.went x) = termP asks S m f left x)
    (left x : Nat) (hk : ∀ s, toP x = some s → s ∈ st.keys) : termP asks S (memW a st) (f + 1) left (phi st.went x) = termP asks S m (f + 1) left x := by
  by_cases hl : left = 0
  · rw [termP, if_pos (Or.inr hl), termP, if_pos (Or.inr hl)]
  · cases ht : toP x with
    | none =>
      rw [phi_none ht]
      cases hp : plainP x with
      | false => rw [termP, if_pos (Or.inl hp), termP, if_pos (Or.inl hp)]
      | true =>
        have h3 : tagW x ≤ 3 := by
          have := (plain_parts hp).1
          unfold toP at ht
          split at ht
          · cases ht
          · rename_i q
            by_cases h45 : tagW x = 4 ∨ tagW x = 5
            · exact absurd ⟨hp, h45⟩ q
            · omega
        obtain ⟨t1, e1, e2, -⟩ := term_leaf (asks := asks) (S := S) (m := m) (f := f) hp hl h3
        obtain ⟨t2, e1', e2', -⟩ := term_leaf (asks := asks) (S := S) (m := memW a st) (f := f) hp hl h3
        rw [e1] at e1'
        cases e1'
        rw [e2, e2']
    | some s =>
      have hs := hk s ht
      obtain ⟨n, k, l, ho, hw, hr, ho', hle⟩ := h.obj hs
      obtain ⟨hp, htg, es⟩ := toP_eq ht
      have hto' := h.to hs (n := n) (by omega)
      rw [← phi_some ht hw] at hto'
      obtain ⟨hp', htg', es'⟩ := toP_eq hto'
      have e1 : ((a + n : Nat) : Int) = loadW (phi st.went x) := congrArg Prod.fst es'
      have e2 : s.2 = ((tagW (phi st.went x) : Nat) : Int) := congrArg Prod.snd es'
      have e3 : s.1 = loadW x := congrArg Prod.fst es
      have e4 : s.2 = ((tagW x : Nat) : Int) := congrArg Prod.snd es
      rw [(term_deep (asks := asks) (S := S) (m := memW a st) (f := f) hp' hl (by omega)).1, (term_deep (asks := asks) (S := S) (m := m) (f := f) hp hl (by omega)).1, ← e1, ← e2, ho', ← e3, ← e4, ho]
      simp only [Option.bind_some]
      exact h.objT asks S ih (objP_ok ho) hle

theorem Home.term {m : List Frg} {a : Nat} {st : Mv} (h : Home m a st) (asks : Bool) (S : List Slt) (f : Nat) : ∀ (left x : Nat), (∀ s, toP x = some s → s ∈ st.keys) → termP asks S (memW a st) f left (phi st.went x) = termP asks S m f left x := by
  induction f with
  | zero => intro left x _; rfl
  | succ f ih => exact h.step asks S ih

theorem Home.read {m : List Frg} {a : Nat} {st : Mv} (h : Home m a st) (asks : Bool) (S : List Slt) {x : Nat} (hk : ∀ s, toP x = some s → s ∈ st.keys) : readP asks S (memW a st) (phi st.went x) = readP asks S m x := by
  unfold readP
  rw [h.term asks S 301 300 x hk]

end Go.Proofs.YtlmpmjhanpkcnaaGreat

namespace Go.Proofs.YtlmpmjhanpkcnaaGreat
open Go.RowKit

set_option maxHeartbeats 2000000 in
theorem sameW_eq (x y : List Nat) (n : Nat) (hx : x.length = n) (hy : y.length = n) (a b : Option Addr) (c d : Nat) (w : World) (hn : n ≤ maxLen)
    (hc : ∀ j, (hj : j < x.length) → ∃ g o, a = some ⟨g, o, none⟩ ∧ w.cell? ⟨g, o + j, none⟩ = some (.int .u64 x[j])) (hd : ∀ j, (hj : j < y.length) → ∃ g o, b = some ⟨g, o, none⟩ ∧ w.cell? ⟨g, o + j, none⟩ = some (.int .u64 y[j])) :
    Calls Tryz.prog 35 #[.slice a n c, .slice b n d] w fun e w' => e = .returned (.bool (decide (x = y))) ∧ Below w.heap.size w w' := by
  have HC := Lib.hid hc
  have HD := Lib.hid hd
  have HX := Lib.hid hx
  have HY := Lib.hid hy
  unfold maxLen at hn
  clear hc hd hx hy
  have q2 : ((n : Int) != (n : Int)) = false := by simp
  go_enter Tryz.func35, Tryz.ntmps35
  go_wp2_with fail
  go_loopw [5] (fun i wr => ∃ (k : Nat), k ≤ n ∧ i = .int .i64 k ∧ Hid (x.take k = y.take k) ∧ Hid (Below w.heap.size w wr)) (fun i _ => n - (intOf i).toNat)
  case atStart => exact ⟨0, by omega, rfl, Lib.hid (by simp), Lib.hid (Below.refl _ _)⟩
  case round =>
    obtain ⟨k, hk, rfl, HT, HB⟩ := hrel
    by_cases hlt : k < n
    · have q1 : (k : Int) < (n : Int) := by omega
      have q0 : (0 : Int) ≤ (k : Int) := by omega
      have kx : k < x.length := by have := HX.out; omega
      have ky : k < y.length := by have := HY.out; omega
      obtain ⟨g, o, rfl, k0⟩ := HC.out k kx
      obtain ⟨g', o', rfl, k1⟩ := HD.out k ky
      have k0 := (HB.out.cell (World.block_lt_of_cell? w _ k0)).trans k0
      have k1 := (HB.out.cell (World.block_lt_of_cell? w _ k1)).trans k1
      obtain ⟨p, hp⟩ : ∃ p, x[k]'kx = p := ⟨_, rfl⟩
      obtain ⟨r, hr⟩ : ∃ r, y[k]'ky = r := ⟨_, rfl⟩
      rw [hp] at k0
      rw [hr] at k1
      have HP := Lib.hid hp
      have HR := Lib.hid hr
      clear hp hr
      have QK := Lib.hid (show k + 1 ≤ n ∧ n - (k + 1) < n - k by omega)
      by_cases he : p = r
      · have HE := Lib.hid he
        clear he
        have q3 : ((p : Int) != (r : Int)) = false := by simp [HE.out]
        go_upto_region 6 with fail
        go_quiet (fail)
        have q5 : IntKind.i64.wrap ((k : Int) + 1) = (k : Int) + 1 := IntWalk.i64_in _ (by omega)
        go_wp2_with fail
        go_roundw
        case rel => exact ⟨k + 1, QK.out.1, by go_num, Lib.hid (by rw [List.take_succ_eq_append_getElem kx, List.take_succ_eq_append_getElem ky, HT.out, HP.out, HR.out, HE.out]), Lib.hid (HB.out.trans ((drewN_below _).mono HB.out.size))⟩
        case measure => clear q5; have := QK.out.2; simp [intOf]; omega
      · have HE := Lib.hid he
        have q3 : ((p : Int) != (r : Int)) = true := by rw [bne_iff_ne]; omega
        clear he
        go_upto_region 6 with fail
        go_quiet (fail)
        go_wp2_with fail
        go_ret
        refine ⟨?_, HB.out.trans ((drewN_below _).mono HB.out.size)⟩
        rw [decide_eq_false (show ¬ x = y from fun h => by subst h; exact HE.out (HP.out.symm.trans HR.out))]
        rfl
    · obtain rfl : k = n := by omega
      have q1 : ¬ (k : Int) < (k : Int) := by omega
      go_wp2_with fail
      go_ret
      refine ⟨?_, HB.out⟩
      have h := HT.out
      rw [List.take_of_length_le (by have := HX.out; omega), List.take_of_length_le (by have := HY.out; omega)] at h
      rw [decide_eq_true h]
      rfl

set_option maxHeartbeats 2000000 in
theorem sameW_any (x y : List Nat) (xv yv : Value) (w : World) (hx : Ws w xv x) (hy : Ws w yv y) : Calls Tryz.prog 35 #[xv, yv] w fun e w' => e = .returned (.bool (decide (x = y))) ∧ Below w.heap.size w w' := by
  obtain ⟨hl, -, a, c, rfl, -, -, hc⟩ := hx
  obtain ⟨hl', -, b, d, rfl, -, -, hd⟩ := hy
  by_cases h : y.length = x.length
  · rw [h]
    exact sameW_eq x y x.length rfl h a b c d w hl hc hd
  · have HN := Lib.hid h
    have q2 : ((x.length : Int) != (y.length : Int)) = true := by simp [bne_iff_ne]; omega
    clear h hl hl' hc hd
    go_enter Tryz.func35, Tryz.ntmps35
    go_wp2_with fail
    go_ret
    refine ⟨?_, Below.refl _ _⟩
    rw [decide_eq_false (show ¬ x = y from fun h => HN.out (by rw [h]))]
    rfl

set_option maxHeartbeats 2000000 in
theorem sameI_eq (x y : List Int) (n : Nat) (hx : x.length = n) (hy : y.length = n) (a b : Option Addr) (c d : Nat) (w : World) (hn : n ≤ maxLen)
    (hc : ∀ j, (hj : j < x.length) → ∃ g o, a = some ⟨g, o, none⟩ ∧ w.cell? ⟨g, o + j, none⟩ = some (.int .i64 x[j])) (hd : ∀ j, (hj : j < y.length) → ∃ g o, b = some ⟨g, o, none⟩ ∧ w.cell? ⟨g, o + j, none⟩ = some (.int .i64 y[j])) :
    Calls Tryz.prog 16 #[.slice a n c, .slice b n d] w fun e w' => e = .returned (.bool (decide (x = y))) ∧ Below w.heap.size w w' := by
  have HC := Lib.hid hc
  have HD := Lib.hid hd
  have HX := Lib.hid hx
  have HY := Lib.hid hy
  unfold maxLen at hn
  clear hc hd hx hy
  have q2 : ((n : Int) != (n : Int)) = false := by simp
  go_enter Tryz.func16, Tryz.ntmps16
  go_wp2_with fail
  go_loopw [5] (fun i wr => ∃ (k : Nat), k ≤ n ∧ i = .int .i64 k ∧ Hid (x.take k = y.take k) ∧ Hid (Below w.heap.size w wr)) (fun i _ => n - (intOf i).toNat)
  case atStart => exact ⟨0, by omega, rfl, Lib.hid (by simp), Lib.hid (Below.refl _ _)⟩
  case round =>
    obtain ⟨k, hk, rfl, HT, HB⟩ := hrel
    by_cases hlt : k < n
    · have q1 : (k : Int) < (n : Int) := by omega
      have q0 : (0 : Int) ≤ (k : Int) := by omega
      have kx : k < x.length := by have := HX.out; omega
      have ky : k < y.length := by have := HY.out; omega
      obtain ⟨g, o, rfl, k0⟩ := HC.out k kx
      obtain ⟨g', o', rfl, k1⟩ := HD.out k ky
      have k0 := (HB.out.cell (World.block_lt_of_cell? w _ k0)).trans k0
      have k1 := (HB.out.cell (World.block_lt_of_cell? w _ k1)).trans k1
      obtain ⟨p, hp⟩ : ∃ p, x[k]'kx = p := ⟨_, rfl⟩
      obtain ⟨r, hr⟩ : ∃ r, y[k]'ky = r := ⟨_, rfl⟩
      rw [hp] at k0
      rw [hr] at k1
      have HP := Lib.hid hp
      have HR := Lib.hid hr
      clear hp hr
      have QK := Lib.hid (show k + 1 ≤ n ∧ n - (k + 1) < n - k by omega)
      by_cases he : p = r
      · have HE := Lib.hid he
        clear he
        have q3 : ((p : Int) != (r : Int)) = false := by simp [HE.out]
        go_upto_region 6 with fail
        go_quiet (fail)
        have q5 : IntKind.i64.wrap ((k : Int) + 1) = (k : Int) + 1 := IntWalk.i64_in _ (by omega)
        go_wp2_with fail
        go_roundw
        case rel => exact ⟨k + 1, QK.out.1, by go_num, Lib.hid (by rw [List.take_succ_eq_append_getElem kx, List.take_succ_eq_append_getElem ky, HT.out, HP.out, HR.out, HE.out]), Lib.hid (HB.out.trans ((drewN_below _).mono HB.out.size))⟩
        case measure => clear q5; have := QK.out.2; simp [intOf]; omega
      · have HE := Lib.hid he
        have q3 : ((p : Int) != (r : Int)) = true := by rw [bne_iff_ne]; omega
        clear he
        go_upto_region 6 with fail
        go_quiet (fail)
        go_wp2_with fail
        go_ret
        refine ⟨?_, HB.out.trans ((drewN_below _).mono HB.out.size)⟩
        rw [decide_eq_false (show ¬ x = y from fun h => by subst h; exact HE.out (HP.out.symm.trans HR.out))]
        rfl
    · obtain rfl : k = n := by omega
      have q1 : ¬ (k : Int) < (k : Int) := by omega
      go_wp2_with fail
      go_ret
      refine ⟨?_, HB.out⟩
      have h := HT.out
      rw [List.take_of_length_le (by have := HX.out; omega), List.take_of_length_le (by have := HY.out; omega)] at h
      rw [decide_eq_true h]
      rfl

set_option maxHeartbeats 2000000 in
theorem sameI_any (x y : List Int) (xv yv : Value) (w : World) (hx : Is w xv x) (hy : Is w yv y) : Calls Tryz.prog 16 #[xv, yv] w fun e w' => e = .returned (.bool (decide (x = y))) ∧ Below w.heap.size w w' := by
  obtain ⟨hl, -, a, c, rfl, -, -, hc⟩ := hx
  obtain ⟨hl', -, b, d, rfl, -, -, hd⟩ := hy
  by_cases h : y.length = x.length
  · rw [h]
    exact sameI_eq x y x.length rfl h a b c d w hl hc hd
  · have HN := Lib.hid h
    have q2 : ((x.length : Int) != (y.length : Int)) = true := by simp [bne_iff_ne]; omega
    clear h hl hl' hc hd
    go_enter Tryz.func16, Tryz.ntmps16
    go_wp2_with fail
    go_ret
    refine ⟨?_, Below.refl _ _⟩
    rw [decide_eq_false (show ¬ x = y from fun h => HN.out (by rw [h]))]
    rfl

set_option maxHeartbeats 4000000 in
theorem sameF_any (f g : Frg) (a b a' b' : Value) (w : World) (hf : FrAt w a b f) (hg : FrAt w a' b' g) : Calls Tryz.prog 34 #[.agg #[a, b], .agg #[a', b']] w fun e w' => e = .returned (.bool (decide (f = g))) ∧ Below w.heap.size w w' := by
  obtain ⟨h1, rfl, wa, wc, rfl, hw⟩ := hf
  obtain ⟨h1', rfl, wa', wc', rfl, hw'⟩ := hg
  obtain ⟨x, l⟩ := f
  obtain ⟨y, m⟩ := g
  simp only at hw hw' h1 h1' ⊢
  have HW := Lib.hid hw
  have HW' := Lib.hid hw'
  have T := two_at' w (.cells #[.int .i64 x, .slice wa l.length wc] 24) (.cells #[.int .i64 y, .slice wa' m.length wc'] 24)
  clear hw hw'
  by_cases he : x = y
  · subst he
    have q : (x == x) = true := by simp
    go_enter Tryz.func34, Tryz.ntmps34
    go_upto_region 1 with fail
    generalize (w.alloc (.cells #[.int .i64 x, .slice wa l.length wc] 24)).alloc (.cells #[.int .i64 x, .slice wa' m.length wc'] 24) = W at *
    have A0 := Lib.hid T.1
    have A1 := Lib.hid T.2.1
    have AB := Lib.hid T.2.2
    clear T
    have c0 := cell_of A0.out 0
    have c1 := cell_of A0.out 1
    have d0 := cell_of A1.out 0
    have d1 := cell_of A1.out 1
    simp at c0 c1 d0 d1
    go_wp2_with fail
    refine (sameW_any l m _ _ W (HW.out.below AB.out) (HW'.out.below AB.out)).mono ?_
    rintro e w2 ⟨rfl, hb⟩
    have HB := Lib.hid (AB.out.trans (hb.mono AB.out.size))
    clear hb c0 c1 d0 d1
    obtain ⟨u, hu⟩ : ∃ u, decide (l = m) = u := ⟨_, rfl⟩
    rw [hu]
    have HU := Lib.hid (show decide ((x, l) = (x, m)) = u by rw [← hu]; simp)
    clear hu
    cases u
    all_goals go_wp2_with fail
    all_goals go_ret
    all_goals exact ⟨by rw [HU.out]; rfl, HB.out⟩
  · have HE := Lib.hid he
    have q : (x == y) = false := by simpa using he
    clear he
    go_enter Tryz.func34, Tryz.ntmps34
    go_upto_region 1 with fail
    generalize (w.alloc (.cells #[.int .i64 x, .slice wa l.length wc] 24)).alloc (.cells #[.int .i64 y, .slice wa' m.length wc'] 24) = W at *
    have A0 := Lib.hid T.1
    have A1 := Lib.hid T.2.1
    have AB := Lib.hid T.2.2
    clear T
    have c0 := cell_of A0.out 0
    have c1 := cell_of A0.out 1
    have d0 := cell_of A1.out 0
    have d1 := cell_of A1.out 1
    simp at c0 c1 d0 d1
    go_wp2_with fail
    go_ret
    refine ⟨?_, AB.out⟩
    rw [decide_eq_false (show ¬ ((x, l) : Frg) = (y, m) from fun h => by simp only [Prod.mk.injEq] at h; exact HE.out h.1)]
    rfl

end Go.Proofs.YtlmpmjhanpkcnaaGreat

namespace Go.Proofs.YtlmpmjhanpkcnaaGreat
open Go.RowKit Go.Maps

theorem MvSt.keepRow {W0 w w' : World} {Y F a B e size n : Nat} {mv v : Value} {xs : List Value} {caps : Array Value} {K : List (Nat × Obj)} {st : Mv} (hY : Y < W0.heap.size) (h : MvSt W0 Y mv F caps K a st w) (hb : Below w.heap.size w w') (ho : w'.ownsRow B e size v n xs) (hB : w.heap.size ≤ B) : MvSt W0 Y mv F caps (Kout v w' K) a st w' := by
  rcases ho.2 with ⟨e, _⟩ | ⟨g, cap, cur, e, hg, hh, _⟩
  · rw [Kout_none (by rw [e]; rfl)]; exact h.lift hY hb
  · rw [Kout_some (by rw [e]; rfl) hh]; exact h.keep hY hb hh (by omega)

abbrev set9 (W : World) (b : Nat) (c0 c1 c2 c3 c4 c5 c6 c7 c8 : Value) : World := ((set7 W b c0 c1 c2 c3 c4 c5 c6).setCell ⟨b, 7, none⟩ c7).setCell ⟨b, 8, none⟩ c8

theorem set9_heap {W : World} {b : Nat} {a0 a1 a2 a3 a4 a5 a6 a7 a8 : Value} {t : TypeId} (h : W.heap[b]? = some (.cells #[a0, a1, a2, a3, a4, a5, a6, a7, a8] t (0, 0))) (c0 c1 c2 c3 c4 c5 c6 c7 c8 : Value) :
    (set9 W b c0 c1 c2 c3 c4 c5 c6 c7 c8).heap[b]? = some (.cells #[c0, c1, c2, c3, c4, c5, c6, c7, c8] t (0, 0)) := by
  have h0 := set_of h 0 c0
  rw [show (#[a0, a1, a2, a3, a4, a5, a6, a7, a8] : Array Value).setIfInBounds 0 c0 = #[c0, a1, a2, a3, a4, a5, a6, a7, a8] from rfl] at h0
  have h1 := set_of h0 1 c1
  rw [show (#[c0, a1, a2, a3, a4, a5, a6, a7, a8] : Array Value).setIfInBounds 1 c1 = #[c0, c1, a2, a3, a4, a5, a6, a7, a8] from rfl] at h1
  have h2 := set_of h1 2 c2
  rw [show (#[c0, c1, a2, a3, a4, a5, a6, a7, a8] : Array Value).setIfInBounds 2 c2 = #[c0, c1, c2, a3, a4, a5, a6, a7, a8] from rfl] at h2
  have h3 := set_of h2 3 c3
  rw [show (#[c0, c1, c2, a3, a4, a5, a6, a7, a8] : Array Value).setIfInBounds 3 c3 = #[c0, c1, c2, c3, a4, a5, a6, a7, a8] from rfl] at h3
  have h4 := set_of h3 4 c4
  rw [show (#[c0, c1, c2, c3, a4, a5, a6, a7, a8] : Array Value).setIfInBounds 4 c4 = #[c0, c1, c2, c3, c4, a5, a6, a7, a8] from rfl] at h4
  have h5 := set_of h4 5 c5
  rw [show (#[c0, c1, c2, c3, c4, a5, a6, a7, a8] : Array Value).setIfInBounds 5 c5 = #[c0, c1, c2, c3, c4, c5, a6, a7, a8] from rfl] at h5
  have h6 := set_of h5 6 c6
  rw [show (#[c0, c1, c2, c3, c4, c5, a6, a7, a8] : Array Value).setIfInBounds 6 c6 = #[c0, c1, c2, c3, c4, c5, c6, a7, a8] from rfl] at h6
  have h7 := set_of h6 7 c7
  rw [show (#[c0, c1, c2, c3, c4, c5, c6, a7, a8] : Array Value).setIfInBounds 7 c7 = #[c0, c1, c2, c3, c4, c5, c6, c7, a8] from rfl] at h7
  have h8 := set_of h7 8 c8
  rw [show (#[c0, c1, c2, c3, c4, c5, c6, c7, a8] : Array Value).setIfInBounds 8 c8 = #[c0, c1, c2, c3, c4, c5, c6, c7, c8] from rfl] at h8
  exact h8

theorem set9_below {B : Nat} {w W : World} {b : Nat} (h : Below B w W) (hB : B ≤ b) (c0 c1 c2 c3 c4 c5 c6 c7 c8 : Value) : Below B w (set9 W b c0 c1 c2 c3 c4 c5 c6 c7 c8) :=
  ((set7_below h hB c0 c1 c2 c3 c4 c5 c6).setCell hB _).setCell hB _

theorem own_set9 {w : World} {base b e size n : Nat} {v : Value} {xs : List Value} (h : w.ownsRow base e size v n xs) (hg : b < base) (c0 c1 c2 c3 c4 c5 c6 c7 c8 : Value) : (set9 w b c0 c1 c2 c3 c4 c5 c6 c7 c8).ownsRow base e size v n xs :=
  own_set (own_set (own_set (own_set (own_set (own_set (own_set (own_set (own_set h hg c0) hg c1) hg c2) hg c3) hg c4) hg c5) hg c6) hg c7) hg c8

theorem own_low {w : World} {base base' e size n : Nat} {v : Value} {xs : List Value} (h : w.ownsRow base e size v n xs) (hb : base' ≤ base) : w.ownsRow base' e size v n xs := by
  refine ⟨h.1, ?_⟩
  rcases h.2 with q | ⟨g, cap, cur, e1, e2, r⟩
  · exact .inl q
  · exact .inr ⟨g, cap, cur, e1, Nat.le_trans hb e2, r⟩

theorem mv_start (W0 : World) (Y F a : Nat) (mv : Value) (caps : Array Value) (h : W0.heap[Y]? = some (.cells #[.int .i64 a, .slice none 0 0] 59 (0, 0))) :
    MvSt W0 Y mv F caps [] a ⟨[], []⟩ ((W0.alloc (.map #[] 0)).alloc (.cells #[mv, .map (some W0.heap.size), .func (.func F) #[] caps, .slice none 0 0] 67)) := by
  have T := two_at W0 (.map #[] 0) (.cells #[mv, .map (some W0.heap.size), .func (.func F) #[] caps, .slice none 0 0] 67)
  obtain ⟨t1, t2, t3, t4⟩ := T
  refine ⟨grown_below t4, by omega, ⟨.slice none 0 0, .slice none 0 0, (t4.block Y (lt_of_block h)).trans h, World.ownsRow_nil _ _ _ _, t2, World.ownsRow_nil _ _ _ _, (fun b e => by cases e), fun p hp => by cases hp⟩, ?_⟩
  refine (MapAt.made W0).block ?_
  rw [t1, World.alloc_heap_new]

def majorSt (d : Dmp) (a : Nat) (l : List Spt) : Mv := scanP d.mem a (l.length + 1) 0 (movesP d.mem a d.roots ⟨[], []⟩).2

/-- A dump behind a collection. -/
def majorD (d : Dmp) (a : Nat) (l : List Spt) : Dmp :=
  { young := ((a : Int), (majorSt d a l).words), old := (0, []), size := ((majorSt d a l).words.length : Int), mark := ((majorSt d a l).words.length : Int), frags := [], roots := (movesP d.mem a d.roots ⟨[], []⟩).1, handles := sortI (hsM d.mem (majorSt d a l).went l) }

theorem gone_at {m : List Frg} {a : Nat} {R : List Spt} {st : Mv} (h : MInv m a R st) (hR : R.length ≤ 10000) (ha : a ≤ 1125899906842624) {s : Spt} (hs : s ∈ st.keys) : ∃ n, n ≤ 1125899907842624 ∧ wentAt st.went s = some (n * 8 + s.2.toNat) := by
  obtain ⟨i, hi, rfl⟩ := List.getElem_of_mem hs
  have hk : st.keys.length = st.went.length := List.length_map _
  have hi' : i < st.went.length := by omega
  have e := h.at hi'
  have hr := h.room hi'
  have hw := h.words
  have hg : st.keys[i] = st.went[i].1 := by simp [Mv.keys]
  rw [hg]
  exact ⟨_, by omega, e⟩

def MajorOut (w w' : World) (d : Dmp) (a : Nat) (l : List Spt) (dv : Value) : Prop :=
  ∃ yv rv hv, dv = dmpV (.int .i64 (a : Int)) yv (.int .i64 0) (.slice none 0 0) (majorD d a l).size (majorD d a l).mark (.slice none 0 0) rv hv ∧ w'.ownsRow w.heap.size 47 1 yv (majorD d a l).young.2.length (csW (majorD d a l).young.2) ∧
    w'.ownsRow w.heap.size 47 1 rv (majorD d a l).roots.length (csW (majorD d a l).roots) ∧ w'.ownsRow w.heap.size 3 1 hv (majorD d a l).handles.length (csI (majorD d a l).handles)

def zeroD : Value := dmpV (.int .i64 0) (.slice none 0 0) (.int .i64 0) (.slice none 0 0) 0 0 (.slice none 0 0) (.slice none 0 0) (.slice none 0 0)

def MajorEnd (w w' : World) (d : Dmp) (a : Int) (e : Ending) : Prop :=
  (saneP d a = false → e = .returned (.tuple #[zeroD, .bool false])) ∧ (saneP d a = true → ∃ l dv, ReachL d.mem d.roots l ∧ e = .returned (.tuple #[dv, .bool true]) ∧ MajorOut w w' d a.toNat l dv) ∧ Below w.heap.size w w'

set_option maxHeartbeats 16000000 in
set_option maxRecDepth 100000 in
theorem major_any (d : Dmp) (v : Value) (a : Int) (w : World) (hd : DmAt w v d) (hf : d.frags.length ≤ 100000) (hN : wordsN d.mem ≤ 5000) (hrl : d.roots.length ≤ 1000) :
    Calls Tryz.prog 12 #[v, .int .i64 a] w fun e w' => MajorEnd w w' d a e := by
  have HD := Lib.hid hd
  obtain ⟨c0, c1, c2, c3, c6, c7, c8, rfl, -, -, -, -, -, hrt, -⟩ := hd
  have HRT := Lib.hid hrt
  clear hrt
  obtain ⟨sn, hsn⟩ : ∃ sn, saneP d a = sn := ⟨_, rfl⟩
  have HSN := Lib.hid hsn
  clear hsn
  have T := two_at w (.cells #[c0, c1, c2, c3, .int .i64 d.size, .int .i64 d.mark, c6, c7, c8] 28) (.cells #[.int .i64 0, .slice none 0 0, .int .i64 0, .slice none 0 0, .int .i64 0, .int .i64 0, .slice none 0 0, .slice none 0 0, .slice none 0 0] 28)
  obtain ⟨t1, t2, t3, t4⟩ := T
  have c00 := cell_of t1 0
  have hmm := @run_makeMap Tryz.prog
  go_enter Tryz.func12, Tryz.ntmps12
  go_wp2_with fail
  generalize (w.alloc (.cells #[c0, c1, c2, c3, .int .i64 d.size, .int .i64 d.mark, c6, c7, c8] 28)).alloc _ = W at *
  refine (sane_any d _ a W (HD.out.below t4) hf hN).mono ?_
  rw [HSN.out]
  rintro e w2 ⟨rfl, hb2⟩
  have X2 := Lib.hid ((hb2.block _ (lt_of_block t1)).trans t1)
  have X4 := Lib.hid ((hb2.block _ (lt_of_block t2)).trans t2)
  have HB := Lib.hid (t4.trans (hb2.mono (by omega)))
  have HS := Lib.hid (show w.heap.size + 2 ≤ w2.heap.size by have := hb2.size; omega)
  clear t1 t2 t3 t4 hb2 c00
  cases sn with
  | false =>
    have y0 := cell_of X4.out 0
    have z0 := free_of X4.out 0
    have y1 := cell_of X4.out 1
    have z1 := free_of X4.out 1
    have y2 := cell_of X4.out 2
    have z2 := free_of X4.out 2
    have y3 := cell_of X4.out 3
    have z3 := free_of X4.out 3
    have y4 := cell_of X4.out 4
    have z4 := free_of X4.out 4
    have y5 := cell_of X4.out 5
    have z5 := free_of X4.out 5
    have y6 := cell_of X4.out 6
    have z6 := free_of X4.out 6
    have y7 := cell_of X4.out 7
    have z7 := free_of X4.out 7
    have y8 := cell_of X4.out 8
    have z8 := free_of X4.out 8
    simp at y0 y1 y2 y3 y4 y5 y6 y7 y8
    go_wp2_with fail
    have HH := set9_heap X4.out (.int .i64 0) (.slice none 0 0) (.int .i64 0) (.slice none 0 0) (.int .i64 0) (.int .i64 0) (.slice none 0 0) (.slice none 0 0) (.slice none 0 0)
    have HBB := Lib.hid (set9_below HB.out (show w.heap.size ≤ w.heap.size + 1 by omega) (.int .i64 0) (.slice none 0 0) (.int .i64 0) (.slice none 0 0) (.int .i64 0) (.int .i64 0) (.slice none 0 0) (.slice none 0 0) (.slice none 0 0))
    clear y0 y1 y2 y3 y4 y5 y6 y7 y8 z0 z1 z2 z3 z4 z5 z6 z7 z8
    unfold set9 set7 at HH HBB
    generalize World.setCell _ ⟨w.heap.size + 1, 8, none⟩ (.slice none 0 0) = V at *
    have y0 := cell_of HH 0
    have y1 := cell_of HH 1
    have y2 := cell_of HH 2
    have y3 := cell_of HH 3
    have y4 := cell_of HH 4
    have y5 := cell_of HH 5
    have y6 := cell_of HH 6
    have y7 := cell_of HH 7
    have y8 := cell_of HH 8
    simp at y0 y1 y2 y3 y4 y5 y6 y7 y8
    exact bodyPost_ret (v := .tuple #[zeroD, .bool false]) (by simp [results, Tryz.results12, go_sem, y0, y1, y2, y3, y4, y5, y6, y7, y8, zeroD]) rfl ⟨fun _ => rfl, (fun q => by cases HSN.out.symm.trans q), HBB.out⟩
  | true =>
    have hsane := HSN.out
    unfold saneP at hsane
    simp only [Bool.and_eq_true, decide_eq_true_eq] at hsane
    obtain ⟨⟨⟨hrg, hro⟩, ha1⟩, ha2⟩ := hsane
    have HRO := Lib.hid (rd_roots hro)
    clear hrg hro
    obtain ⟨an, rfl⟩ : ∃ an : Nat, a = (an : Int) := ⟨a.toNat, by omega⟩
    have y0 := cell_of X2.out 0
    have y1 := cell_of X2.out 1
    have y2 := cell_of X2.out 2
    have y3 := cell_of X2.out 3
    have y4 := cell_of X2.out 4
    have y5 := cell_of X2.out 5
    have y6 := cell_of X2.out 6
    have y7 := cell_of X2.out 7
    have y8 := cell_of X2.out 8
    simp at y0 y1 y2 y3 y4 y5 y6 y7 y8
    go_wp2_with fail
    refine (of_any d _ w2 (HD.out.below HB.out) hf).mono ?_
    rintro e w3 ⟨mv, rfl, hmv, hb3⟩
    obtain ⟨_, ma, mc, rfl, _⟩ := id hmv
    have X3 := Lib.hid ((hb3.block _ (lt_of_block X2.out)).trans X2.out)
    have Z3 := Lib.hid ((hb3.block _ (lt_of_block X4.out)).trans X4.out)
    have HB3 := Lib.hid (HB.out.trans (hb3.mono (by have := HS.out; omega)))
    have HS3 := Lib.hid (show w.heap.size + 2 ≤ w3.heap.size by have := hb3.size; have := HS.out; omega)
    have HM := Lib.hid hmv
    clear hmv hb3 y0 y1 y2 y3 y4 y5 y6 y7 y8 X2 X4 HB HS
    have y7 := cell_of X3.out 7
    simp at y7
    go_upto_region 6 with fail
    have T := two_at w3 (.cells #[.int .i64 (an : Int), .slice none 0 0] 59) (.cells #[.pointer (some ⟨w3.heap.size, 0, none⟩)] 57)
    obtain ⟨t1, t2, t3, t4⟩ := T
    obtain ⟨Y, hYe⟩ : ∃ Y, w3.heap.size = Y := ⟨_, rfl⟩
    rw [hYe] at t1 t2 t3 t4 ⊢
    have hW3 : w3.heap.size = Y := hYe
    generalize (w3.alloc (.cells #[.int .i64 (an : Int), .slice none 0 0] 59)).alloc (.cells #[.pointer (some ⟨Y, 0, none⟩)] 57) = W0 at *
    have HE := Lib.hid (show MvEnv w3 W0 Y d.mem (.slice ma d.mem.length mc) 28 #[.pointer (some ⟨Y + 1, 0, none⟩)] from
      ⟨HM.out, by omega, by omega, by rw [hW3]; exact t4, enter_major, fun s W _ hW => goes_major s (Y + 1) Y W ((hW.block (Y + 1) (by omega) (by simp)).trans t2)⟩)
    have HS0 := Lib.hid (mv_start W0 Y 28 an (.slice ma d.mem.length mc) #[.pointer (some ⟨Y + 1, 0, none⟩)] t1)
    have HYW := Lib.hid (show Y < W0.heap.size ∧ w.heap.size + 2 ≤ Y from ⟨by omega, by have := HS3.out; omega⟩)
    have e1 : Y + 1 + 1 = W0.heap.size := by omega
    have T7 := Lib.hid t2
    have HB0 := Lib.hid (HB3.out.trans (t4.mono (by have := HS3.out; omega)))
    have X0 := Lib.hid ((t4.block _ (by have := HS3.out; omega)).trans X3.out)
    have Z0 := Lib.hid ((t4.block _ (by have := HS3.out; omega)).trans Z3.out)
    rw [e1]
    clear t1 t2 t3 t4 y7 X3 Z3
    generalize (W0.alloc (Obj.map #[] 0)).alloc (Obj.cells #[.slice ma d.mem.length mc, .map (some W0.heap.size), .func (.func 28) #[] #[.pointer (some ⟨Y + 1, 0, none⟩)], .slice none 0 0] 67) = w4 at *
    have y7 := cell_of ((HS0.out.base.block _ (by have := HYW.out; omega) (by have := HYW.out; simp; omega)).trans X0.out) 7
    simp at y7
    have HBL := Lib.hid (show ∀ V, W0.grownBy V (some Y) → Below w.heap.size w V from fun V hV => HB3.out.trans ((HE.out.below hV).mono (by have := HS3.out; omega)))
    go_wp2_with fail
    refine (reached_own d.mem d.roots _ c7 w4 (HE.out.mem HS0.out.base) (HRT.out.below (HBL.out w4 HS0.out.base)) hN hrl).mono ?_
    rintro e w5 ⟨sv, l, rfl, hown5, hL, hok, hll, hb5⟩
    have HS5 := Lib.hid (HS0.out.keepRow HYW.out.1 hb5 hown5 (by omega))
    have HL := Lib.hid hL
    have HC := Lib.hid (closed_of HRO.out hL)
    have HOK := Lib.hid hok
    have HO5 := Lib.hid hown5
    obtain ⟨sa5, sc5, rfl⟩ := own_slice hown5
    clear hb5 hok hL hown5 y7
    have y7 := cell_of ((HS5.out.base.block _ (by have := HYW.out; omega) (by have := HYW.out; simp; omega)).trans X0.out) 7
    simp at y7
    go_wp2_with fail
    refine (moved_any w3 W0 Y d.mem _ 28 _ _ an l ⟨[], []⟩ c7 d.roots w5 HE.out HS5.out (MInv.start _ _ _) (by omega) HC.out.1 HOK.out (by omega) (HRT.out.below HB3.out) hrl HC.out.2).mono ?_
    rintro e w6 ⟨rv, rfl, hro, hms, hkn⟩
    have H6 := Lib.hid hms
    have HR6 := Lib.hid hro
    have HKN := Lib.hid hkn
    obtain ⟨ra6, rc6, rfl⟩ := own_slice hro
    clear hms hro hkn y7 HS5
    go_upto_region 8 with fail
    have X7 := Lib.hid (World.alloc_heap_new w6 (.cells #[.int .i64 0, .slice none 0 0, .int .i64 0, .slice none 0 0, .int .i64 0, .int .i64 0, .slice none 0 0, .slice ra6 (movesP d.mem an d.roots ⟨[], []⟩).1.length rc6, .slice none 0 0] 28))
    have B7 := Lib.hid ((Below.refl w6.heap.size w6).alloc (Nat.le_refl _) (.cells #[.int .i64 0, .slice none 0 0, .int .i64 0, .slice none 0 0, .int .i64 0, .int .i64 0, .slice none 0 0, .slice ra6 (movesP d.mem an d.roots ⟨[], []⟩).1.length rc6, .slice none 0 0] 28))
    generalize w6.alloc (.cells #[.int .i64 0, .slice none 0 0, .int .i64 0, .slice none 0 0, .int .i64 0, .int .i64 0, .slice none 0 0, .slice ra6 (movesP d.mem an d.roots ⟨[], []⟩).1.length rc6, .slice none 0 0] 28) = w7 at *
    have H7 := Lib.hid (H6.out.lift HYW.out.1 B7.out)
    have t0 := cell_of ((H7.out.base.block (Y + 1) (by have := HYW.out; omega) (by simp)).trans T7.out) 0
    obtain ⟨yv, qv, hmid⟩ := H6.out.mid
    have M6 := Lib.hid hmid
    have s0 := cell_of ((B7.out.block Y (lt_of_block hmid.r1)).trans hmid.r1) 0
    have s1 := cell_of ((B7.out.block Y (lt_of_block hmid.r1)).trans hmid.r1) 1
    obtain ⟨ya, yc, rfl⟩ := own_slice hmid.r2
    have y0 := cell_of X7.out 0
    have z0 := free_of X7.out 0
    have y1 := cell_of X7.out 1
    have z1 := free_of X7.out 1
    simp at t0 s0 s1 y0 y1
    clear hmid
    go_upto_region 9 with fail
    have X8 := Lib.hid (set_of (set_of X7.out 0 (.int .i64 (an : Int))) 1 (.slice ya (majorSt d an l).words.length yc))
    have B8 := Lib.hid ((B7.out.setCell (p := ⟨w6.heap.size, 0, none⟩) (Nat.le_refl _) (.int .i64 (an : Int))).setCell (p := ⟨w6.heap.size, 1, none⟩) (Nat.le_refl _) (.slice ya (majorSt d an l).words.length yc))
    have hst : scanP d.mem an (l.length + 1) 0 (movesP d.mem an d.roots ⟨[], []⟩).2 = majorSt d an l := rfl
    rw [hst] at H6 H7 M6 s1 ⊢
    have X8 := Lib.hid (show ((w7.setCell ⟨w6.heap.size, 0, none⟩ (.int .i64 (an : Int))).setCell ⟨w6.heap.size, 1, none⟩ (.slice ya (majorSt d an l).words.length yc)).heap[w6.heap.size]? = some (.cells #[.int .i64 (an : Int), .slice ya (majorSt d an l).words.length yc, .int .i64 0, .slice none 0 0, .int .i64 0, .int .i64 0, .slice none 0 0, .slice ra6 (movesP d.mem an d.roots ⟨[], []⟩).1.length rc6, .slice none 0 0] 28 (0, 0)) from X8.out)
    clear y0 y1 z0 z1 s0 s1 t0 X7 H7
    generalize (w7.setCell ⟨w6.heap.size, 0, none⟩ (.int .i64 (an : Int))).setCell ⟨w6.heap.size, 1, none⟩ (.slice ya (majorSt d an l).words.length yc) = w8 at *
    have H8 := Lib.hid (H6.out.lift HYW.out.1 B8.out)
    have t0 := cell_of ((H8.out.base.block (Y + 1) (by have := HYW.out; omega) (by simp)).trans T7.out) 0
    have s1 := cell_of ((B8.out.block Y (lt_of_block M6.out.r1)).trans M6.out.r1) 1
    have y4 := cell_of X8.out 4
    have y5 := cell_of X8.out 5
    have z4 := free_of X8.out 4
    have z5 := free_of X8.out 5
    simp at t0 s1 y4 y5
    go_region
    have X9 := Lib.hid (show ((w8.setCell ⟨w6.heap.size, 4, none⟩ (.int .i64 ((majorSt d an l).words.length : Int))).setCell ⟨w6.heap.size, 5, none⟩ (.int .i64 ((majorSt d an l).words.length : Int))).drew.heap[w6.heap.size]? = some (.cells #[.int .i64 (an : Int), .slice ya (majorSt d an l).words.length yc, .int .i64 0, .slice none 0 0, .int .i64 ((majorSt d an l).words.length : Int), .int .i64 ((majorSt d an l).words.length : Int), .slice none 0 0, .slice ra6 (movesP d.mem an d.roots ⟨[], []⟩).1.length rc6, .slice none 0 0] 28 (0, 0)) from set_of (set_of X8.out 4 _) 5 _)
    have B9 := Lib.hid (((B8.out.setCell (p := ⟨w6.heap.size, 4, none⟩) (Nat.le_refl _) (.int .i64 ((majorSt d an l).words.length : Int))).setCell (p := ⟨w6.heap.size, 5, none⟩) (Nat.le_refl _) (.int .i64 ((majorSt d an l).words.length : Int))).drew)
    clear y4 y5 z4 z5 s1 t0 X8 H8
    generalize ((w8.setCell ⟨w6.heap.size, 4, none⟩ (.int .i64 ((majorSt d an l).words.length : Int))).setCell ⟨w6.heap.size, 5, none⟩ (.int .i64 ((majorSt d an l).words.length : Int))).drew = w9 at *
    have H9 := Lib.hid (H6.out.keep HYW.out.1 B9.out X9.out (Nat.le_refl _))
    have HAG := Lib.hid (all_gone (a := an) (R := l) HM.out.bnd (by omega) (by omega) HC.out.1 HRT.out.2.1 HC.out.2)
    have HSPT := Lib.hid (show ∀ w', W0.grownBy w' (some Y) → (∀ p ∈ (w6.heap.size, Obj.cells #[.int .i64 (an : Int), .slice ya (majorSt d an l).words.length yc, .int .i64 0, .slice none 0 0, .int .i64 ((majorSt d an l).words.length : Int), .int .i64 ((majorSt d an l).words.length : Int), .slice none 0 0, .slice ra6 (movesP d.mem an d.roots ⟨[], []⟩).1.length rc6, .slice none 0 0] 28 (0, 0)) :: Kout (.slice ra6 (movesP d.mem an d.roots ⟨[], []⟩).1.length rc6) w6 (Kout (.slice sa5 l.length sc5) w5 []), w'.heap[p.1]? = some p.2) → SpAt w' (.slice sa5 l.length sc5) l from fun w' _ hw => SpAt.of_own (own_stays HO5.out (K := []) (fun p hp => hw p (List.mem_cons_of_mem _ (Kout_sub p hp)))).1 (by omega))
    have HGO := Lib.hid (show ∀ s ∈ l, (s.2 = 4 ∨ s.2 = 5) ∧ In64 s.1 ∧ (objP d.mem s.1 s.2).isSome = true ∧ ∃ n, n ≤ 1125899907842624 ∧ wentAt (majorSt d an l).went s = some (n * 8 + s.2.toNat) from fun s hs => ⟨(HOK.out s hs).1, (HOK.out s hs).2, ((HL.out.2 s).1 hs).ok, gone_at HAG.out.1.inv (by omega) (by omega) (HAG.out.2.2.2 s ((HL.out.2 s).1 hs))⟩)
    go_wp2_with fail
    refine (handlesM_any w3 W0 Y d.mem _ 28 _ _ an (majorSt d an l) _ l w9 HE.out H9.out HSPT.out HGO.out (by omega)).mono ?_
    rintro e w10 ⟨hv, rfl, hbw10, hown10, hms10, hkn10⟩
    have HO10 := Lib.hid hown10
    have H10 := Lib.hid hms10
    have HK10 := Lib.hid hkn10
    obtain ⟨ha10, hc10, rfl⟩ := own_slice hown10
    have X10 := Lib.hid (hms10.kept (Kout_sub _ List.mem_cons_self))
    have y8 := cell_of X10.out 8
    have z8 := free_of X10.out 8
    simp at y8
    clear hown10 hms10 hkn10 HSPT
    have HB10 := Lib.hid hbw10
    clear hbw10
    go_upto_region 11 with fail
    have hlen : (hsM d.mem (majorSt d an l).went l).length ≤ 1000000 := by have := hsM_le d.mem (majorSt d an l).went l; omega
    have X11 := Lib.hid (set_of X10.out 8 (.slice ha10 (hsM d.mem (majorSt d an l).went l).length hc10))
    have B11 := Lib.hid ((B9.out.trans (HB10.out.mono B9.out.size)).setCell (p := ⟨w6.heap.size, 8, none⟩) (Nat.le_refl _) (.slice ha10 (hsM d.mem (majorSt d an l).went l).length hc10))
    have O11 := Lib.hid (own_set HO10.out (g := w6.heap.size) (i := 8) (by exact lt_of_block X9.out) (.slice ha10 (hsM d.mem (majorSt d an l).went l).length hc10))
    generalize w10.setCell ⟨w6.heap.size, 8, none⟩ (.slice ha10 (hsM d.mem (majorSt d an l).went l).length hc10) = w11 at *
    have y8 := cell_of X11.out 8
    simp at y8
    clear z8
    go_wp2_with fail
    refine (sort_any _ _ _ w11 O11.out hlen).mono ?_
    rintro e w12 ⟨rfl, hso, hgr⟩
    have B12 := Lib.hid (B11.out.grown hgr (by have := B11.out.size; have := B9.out.size; omega) (fun k hk => by have := (O11.out.lt k hk).1; have := B9.out.size; omega))
    have X12 := Lib.hid ((hgr.block w6.heap.size (lt_of_block X11.out) (fun e => by have := (O11.out.lt _ e.symm).1; have := lt_of_block X9.out; omega)).trans X11.out)
    have OH := Lib.hid hso
    have OY := Lib.hid (own_lift M6.out.r2 B12.out)
    have OR := Lib.hid (own_lift HR6.out B12.out)
    clear hso hgr y8
    have X12 := Lib.hid (show w12.heap[w6.heap.size]? = some (.cells #[.int .i64 (an : Int), .slice ya (majorSt d an l).words.length yc, .int .i64 0, .slice none 0 0, .int .i64 ((majorSt d an l).words.length : Int), .int .i64 ((majorSt d an l).words.length : Int), .slice none 0 0, .slice ra6 (movesP d.mem an d.roots ⟨[], []⟩).1.length rc6, .slice ha10 (hsM d.mem (majorSt d an l).went l).length hc10] 28 (0, 0)) from X12.out)
    have Z12 := Lib.hid ((B12.out.block _ (by have := H6.out.base.size; have := HYW.out; omega)).trans ((H6.out.base.block _ (by have := HYW.out; omega) (by have := HYW.out; simp; omega)).trans Z0.out))
    have HBF := Lib.hid ((HBL.out w6 H6.out.base).trans (B12.out.mono (by have := H6.out.base.size; have := HYW.out; omega)))
    have HSF := Lib.hid (show w.heap.size ≤ w6.heap.size ∧ w.heap.size ≤ W0.heap.size by have := H6.out.base.size; have := HYW.out; omega)
    have x0 := cell_of X12.out 0
    have x1 := cell_of X12.out 1
    have x2 := cell_of X12.out 2
    have x3 := cell_of X12.out 3
    have x4 := cell_of X12.out 4
    have x5 := cell_of X12.out 5
    have x6 := cell_of X12.out 6
    have x7 := cell_of X12.out 7
    have x8 := cell_of X12.out 8
    have y0 := cell_of Z12.out 0
    have z0 := free_of Z12.out 0
    have y1 := cell_of Z12.out 1
    have z1 := free_of Z12.out 1
    have y2 := cell_of Z12.out 2
    have z2 := free_of Z12.out 2
    have y3 := cell_of Z12.out 3
    have z3 := free_of Z12.out 3
    have y4 := cell_of Z12.out 4
    have z4 := free_of Z12.out 4
    have y5 := cell_of Z12.out 5
    have z5 := free_of Z12.out 5
    have y6 := cell_of Z12.out 6
    have z6 := free_of Z12.out 6
    have y7 := cell_of Z12.out 7
    have z7 := free_of Z12.out 7
    have y8 := cell_of Z12.out 8
    have z8 := free_of Z12.out 8
    simp at x0 x1 x2 x3 x4 x5 x6 x7 x8 y0 y1 y2 y3 y4 y5 y6 y7 y8
    go_wp2_with fail
    have HH := set9_heap Z12.out (.int .i64 (an : Int)) (.slice ya (majorSt d an l).words.length yc) (.int .i64 0) (.slice none 0 0) (.int .i64 ((majorSt d an l).words.length : Int)) (.int .i64 ((majorSt d an l).words.length : Int)) (.slice none 0 0) (.slice ra6 (movesP d.mem an d.roots ⟨[], []⟩).1.length rc6) (.slice ha10 (hsM d.mem (majorSt d an l).went l).length hc10)
    have HBB := Lib.hid (set9_below HBF.out (show w.heap.size ≤ w.heap.size + 1 by omega) (.int .i64 (an : Int)) (.slice ya (majorSt d an l).words.length yc) (.int .i64 0) (.slice none 0 0) (.int .i64 ((majorSt d an l).words.length : Int)) (.int .i64 ((majorSt d an l).words.length : Int)) (.slice none 0 0) (.slice ra6 (movesP d.mem an d.roots ⟨[], []⟩).1.length rc6) (.slice ha10 (hsM d.mem (majorSt d an l).went l).length hc10))
    have OY2 := Lib.hid (own_low (own_set9 OY.out (b := w.heap.size + 1) (by have := HYW.out; omega) (.int .i64 (an : Int)) (.slice ya (majorSt d an l).words.length yc) (.int .i64 0) (.slice none 0 0) (.int .i64 ((majorSt d an l).words.length : Int)) (.int .i64 ((majorSt d an l).words.length : Int)) (.slice none 0 0) (.slice ra6 (movesP d.mem an d.roots ⟨[], []⟩).1.length rc6) (.slice ha10 (hsM d.mem (majorSt d an l).went l).length hc10)) (base' := w.heap.size) (by have := HSF.out; omega))
    have OR2 := Lib.hid (own_low (own_set9 OR.out (b := w.heap.size + 1) (by have := HYW.out; omega) (.int .i64 (an : Int)) (.slice ya (majorSt d an l).words.length yc) (.int .i64 0) (.slice none 0 0) (.int .i64 ((majorSt d an l).words.length : Int)) (.int .i64 ((majorSt d an l).words.length : Int)) (.slice none 0 0) (.slice ra6 (movesP d.mem an d.roots ⟨[], []⟩).1.length rc6) (.slice ha10 (hsM d.mem (majorSt d an l).went l).length hc10)) (base' := w.heap.size) (by have := HSF.out; omega))
    have OH2 := Lib.hid (own_low (own_set9 OH.out (b := w.heap.size + 1) (by have := HYW.out; have := B9.out.size; have := H6.out.base.size; omega) (.int .i64 (an : Int)) (.slice ya (majorSt d an l).words.length yc) (.int .i64 0) (.slice none 0 0) (.int .i64 ((majorSt d an l).words.length : Int)) (.int .i64 ((majorSt d an l).words.length : Int)) (.slice none 0 0) (.slice ra6 (movesP d.mem an d.roots ⟨[], []⟩).1.length rc6) (.slice ha10 (hsM d.mem (majorSt d an l).went l).length hc10)) (base' := w.heap.size) (by have := HSF.out; have := B9.out.size; omega))
    clear y0 y1 y2 y3 y4 y5 y6 y7 y8 z0 z1 z2 z3 z4 z5 z6 z7 z8 x0 x1 x2 x3 x4 x5 x6 x7 x8
    unfold set9 set7 at HH HBB OY2 OR2 OH2
    generalize World.setCell _ ⟨w.heap.size + 1, 8, none⟩ (.slice ha10 (hsM d.mem (majorSt d an l).went l).length hc10) = V at *
    have y0 := cell_of HH 0
    have y1 := cell_of HH 1
    have y2 := cell_of HH 2
    have y3 := cell_of HH 3
    have y4 := cell_of HH 4
    have y5 := cell_of HH 5
    have y6 := cell_of HH 6
    have y7 := cell_of HH 7
    have y8 := cell_of HH 8
    simp at y0 y1 y2 y3 y4 y5 y6 y7 y8
    have hsl : (sortI (hsM d.mem (majorSt d an l).went l)).length = (hsM d.mem (majorSt d an l).went l).length := by unfold sortI; exact List.length_mergeSort _
    have HOUT := Lib.hid (show MajorOut w V d an l (dmpV (.int .i64 (an : Int)) (.slice ya (majorSt d an l).words.length yc) (.int .i64 0) (.slice none 0 0) ((majorSt d an l).words.length : Int) ((majorSt d an l).words.length : Int) (.slice none 0 0) (.slice ra6 (movesP d.mem an d.roots ⟨[], []⟩).1.length rc6) (.slice ha10 (hsM d.mem (majorSt d an l).went l).length hc10)) from
      ⟨_, _, _, rfl, OY2.out, OR2.out, by show V.ownsRow _ _ _ _ (sortI (hsM d.mem (majorSt d an l).went l)).length _; rw [hsl]; exact OH2.out⟩)
    refine bodyPost_ret (v := .tuple #[dmpV (.int .i64 (an : Int)) (.slice ya (majorSt d an l).words.length yc) (.int .i64 0) (.slice none 0 0) ((majorSt d an l).words.length : Int) ((majorSt d an l).words.length : Int) (.slice none 0 0) (.slice ra6 (movesP d.mem an d.roots ⟨[], []⟩).1.length rc6) (.slice ha10 (hsM d.mem (majorSt d an l).went l).length hc10), .bool true]) (by simp [results, Tryz.results12, go_sem, y0, y1, y2, y3, y4, y5, y6, y7, y8]) rfl ⟨(fun q => by cases HSN.out.symm.trans q), fun _ => ⟨l, _, HL.out, rfl, by rw [Int.toNat_natCast]; exact HOUT.out⟩, HBB.out⟩

end Go.Proofs.YtlmpmjhanpkcnaaGreat
