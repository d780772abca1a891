/-
  The term that a word stands for: the reader's term.
-/
import Derived.Test.YtlmpmjhanpkcnaaGreatN07
set_option linter.unusedVariables false
set_option linter.unusedSimpArgs false
namespace Go.Proofs.YtlmpmjhanpkcnaaGreat
open Go.RowKit

theorem obj_any (g : Nat → Nat → Option (Tm × Nat)) (L R : Nat) (mv sv lv : Value) (asks : Bool) (left : Nat) (k : Int) (S : List Slt) (m : List Frg) (l : List Nat) (w0 w : World)
    (hg : ∀ (left x : Nat) (w : World), left ≤ L → x < 18446744073709551616 → RdAt w R mv sv asks left → Below w0.heap.size w0 w → Calls Tryz.prog 107 #[.pointer (some ⟨R, 0, none⟩), .int .u64 x] w fun e w' => TermEnd w w' R mv sv asks (g left x) e)
    (hgl : ∀ left x p, g left x = some p → p.2 ≤ left) (hR : w0.heap.size ≤ R) (hb : Below w0.heap.size w0 w) (hm : RsAt w0 mv m) (hS : SlAt w0 sv S) (h : RdAt w R mv sv asks left) (hl : Ws w lv l) (hk : ObjOK m k l) (hL : left ≤ L) (hL2 : left ≤ 10000) :
    Calls Tryz.prog 126 #[.pointer (some ⟨R, 0, none⟩), .agg #[.int .i64 k, lv]] w fun e w' => TermEnd w w' R mv sv asks (objT g asks S m left (k, l)) e := by
  have hms : (∃ a n c, mv = .slice a n c) ∧ ∃ a n c, sv = .slice a n c := by
    obtain ⟨_, a, c, e, _⟩ := hm
    obtain ⟨_, a', c', e', _⟩ := hS
    exact ⟨⟨a, _, c, e⟩, a', _, c', e'⟩
  rcases hk with hk | ⟨rfl, h2, h6⟩ | ⟨rfl, h2⟩ | hk | hk | hk
  · exact obj_args g L R mv sv lv asks left k S m l w0 w hg hgl hR hb h hl hk hL hms
  · exact obj_big g R mv sv lv asks left S m l w h hl hL2 h2 h6
  · exact obj_float g R mv sv lv asks left S m l w h hl h2
  · exact obj_bin g R mv sv lv asks left k S m l w h (hm.below hb) (hS.below hb) hl hL2 (.inl hk)
  · exact obj_bin g R mv sv lv asks left k S m l w h (hm.below hb) (hS.below hb) hl hL2 (.inr (.inl hk))
  · exact obj_bin g R mv sv lv asks left k S m l w h (hm.below hb) (hS.below hb) hl hL2 (.inr (.inr hk))

def stepP (g : Nat → Nat → Option (Tm × Nat)) (asks : Bool) (S : List Slt) (m : List Frg) (left w : Nat) : Option (Tm × Nat) :=
  if plainP w = false ∨ left = 0 then none
  else if tagW w = 0 then some (.mk 1 (loadW w) false [] 0 ⟨#[]⟩ [], left - 1)
  else if tagW w = 1 then some (.mk 4 (loadW w) false [] 0 ⟨#[]⟩ [], left - 1)
  else if tagW w = 2 then some (.mk 5 (loadW w) false [] 0 ⟨#[]⟩ [], left - 1)
  else if tagW w = 3 then some (.mk 7 0 false [] 0 ⟨#[]⟩ [], left - 1)
  else (objP m (loadW w) (tagW w)).bind (objT g asks S m (left - 1))

theorem termP_step (asks : Bool) (S : List Slt) (m : List Frg) (f left w : Nat) : termP asks S m (f + 1) left w = stepP (termP asks S m f) asks S m left w := rfl

theorem objT_le {g : Nat → Nat → Option (Tm × Nat)} (hg : ∀ left x p, g left x = some p → p.2 ≤ left) {asks : Bool} {S : List Slt} {m : List Frg} {left : Nat} {o : Int × List Nat} {p : Tm × Nat} (h : objT g asks S m left o = some p) : p.2 ≤ left := by
  unfold objT at h
  have hb : ∀ {s : Option ByteArray}, s.bind (binT left) = some p → p.2 ≤ left := fun {s} h => by
    cases s with
    | none => cases h
    | some b => obtain ⟨rfl, _⟩ := binT_some h; simp only; omega
  split at h
  · split at h
    · cases h; simp only; omega
    · cases h
  · split at h
    · cases h; exact Nat.le_refl _
    · split at h
      · exact hb h
      · split at h
        · exact hb h
        · split at h
          · exact hb h
          · cases hs : seqP g left (leadW o.1 o.2) with
            | none => rw [hs] at h; cases h
            | some r =>
              rw [hs] at h
              cases h
              exact (seqP_le hg _ _ _ hs).1

theorem stepP_le {g : Nat → Nat → Option (Tm × Nat)} (hg : ∀ left x p, g left x = some p → p.2 ≤ left) {asks : Bool} {S : List Slt} {m : List Frg} (left x : Nat) (p : Tm × Nat) (h : stepP g asks S m left x = some p) : p.2 ≤ left := by
  unfold stepP at h
  split at h
  · cases h
  · split at h
    · cases h; simp only; omega
    · split at h
      · cases h; simp only; omega
      · split at h
        · cases h; simp only; omega
        · split at h
          · cases h; simp only; omega
          · cases ho : objP m (loadW x) (tagW x) with
            | none => rw [ho] at h; cases h
            | some o =>
              rw [ho] at h
              have := objT_le hg h
              omega

theorem termP_le (asks : Bool) (S : List Slt) (m : List Frg) : ∀ (f left x : Nat) (p : Tm × Nat), termP asks S m f left x = some p → p.2 ≤ left
  | 0, _, _, _, h => by cases h
  | f + 1, left, x, p, h => by
    rw [termP_step] at h
    exact stepP_le (termP_le asks S m f) left x p h

/-- A term stored into a block, and answered. -/
theorem answer_at {w W : World} {b R : Nat} {mv sv : Value} {asks : Bool} {left' : Int} {tk tn : Int} {tneg : Bool} {tm : Value} {tbits : Int} {tbytes : ByteArray} {ta : Value} {t : Tm} {r : Option (Tm × Nat)} (hb : w.heap.size ≤ b)
    (ht : TmAt (fun k => b < k) W (.agg #[.int .i64 tk, .int .i64 tn, .bool tneg, tm, .int .u64 tbits, .string tbytes, ta]) t) (hr : RdAt W R mv sv asks left') (hR : R < w.heap.size) (hg : w.grownBy W (some R)) (hp : ∀ p, r = some p → p.1 = t ∧ left' = (p.2 : Nat)) :
    TermEnd w (set7 W b (.int .i64 tk) (.int .i64 tn) (.bool tneg) tm (.int .u64 tbits) (.string tbytes) ta) R mv sv asks r (.returned (.tuple #[.agg #[.int .i64 tk, .int .i64 tn, .bool tneg, tm, .int .u64 tbits, .string tbytes, ta], .bool r.isSome])) := by
  have BS := set7_below (Below.refl w.heap.size W) hb (.int .i64 tk) (.int .i64 tn) (.bool tneg) tm (.int .u64 tbits) (.string tbytes) ta
  exact ⟨_, t, left', rfl, (ht.lift (fun k hk _ => set7_off _ _ _ _ _ _ _ _ _ (by omega))).mono (fun k hk _ => by omega), hr.at BS hR, grown_then hg BS, hp⟩

theorem In64.load {x : Nat} (hx : x < 18446744073709551616) : In64 (loadW x) := loadW_in x hx

set_option maxHeartbeats 8000000 in
set_option maxRecDepth 100000 in
theorem term_step (g : Nat → Nat → Option (Tm × Nat)) (R : Nat) (mv sv : Value) (asks : Bool) (left x : Nat) (S : List Slt) (m : List Frg) (w0 w : World)
    (hg : ∀ (left' x : Nat) (w : World), left' < left → x < 18446744073709551616 → RdAt w R mv sv asks left' → Below w0.heap.size w0 w → Calls Tryz.prog 107 #[.pointer (some ⟨R, 0, none⟩), .int .u64 x] w fun e w' => TermEnd w w' R mv sv asks (g left' x) e)
    (hgl : ∀ left x p, g left x = some p → p.2 ≤ left) (hR : w0.heap.size ≤ R) (hb : Below w0.heap.size w0 w) (hm : RsAt w0 mv m) (hS : SlAt w0 sv S) (h : RdAt w R mv sv asks left) (hx : x < 18446744073709551616) (hL : left ≤ 10000) :
    Calls Tryz.prog 107 #[.pointer (some ⟨R, 0, none⟩), .int .u64 x] w fun e w' => TermEnd w w' R mv sv asks (stepP g asks S m left x) e := by
  have hRlt := h.shape
  have HG := Lib.hid hg
  have HGL := Lib.hid hgl
  have HB := Lib.hid hb
  have HM := Lib.hid hm
  have HS := Lib.hid hS
  have HIN := Lib.hid (In64.load hx)
  obtain ⟨r, hr⟩ : ∃ r, stepP g asks S m left x = r := ⟨_, rfl⟩
  have HE := Lib.hid hr
  rw [hr]
  obtain ⟨tg, htg⟩ : ∃ tg, tagW x = tg := ⟨_, rfl⟩
  obtain ⟨ld, hld⟩ : ∃ ld, loadW x = ld := ⟨_, rfl⟩
  obtain ⟨pl, hpl⟩ : ∃ pl, plainP x = pl := ⟨_, rfl⟩
  have HTG := Lib.hid htg
  have HLD := Lib.hid hld
  have HPL := Lib.hid hpl
  -- the block of the answer
  have X0 := World.alloc_heap_new w (.cells #[.int .i64 0, .int .i64 0, .bool false, .slice none 0 0, .int .u64 0, .string ⟨#[]⟩, .slice none 0 0] 81)
  have XB := (Below.refl w.heap.size w).alloc (Nat.le_refl _) (.cells #[.int .i64 0, .int .i64 0, .bool false, .slice none 0 0, .int .u64 0, .string ⟨#[]⟩, .slice none 0 0] 81)
  have XS : w.heap.size + 1 = (w.alloc (.cells #[.int .i64 0, .int .i64 0, .bool false, .slice none 0 0, .int .u64 0, .string ⟨#[]⟩, .slice none 0 0] 81)).heap.size := by simp
  have HRD := Lib.hid (h.below XB)
  clear hg hgl hb hm hS hr htg hld hpl h
  go_enter Tryz.func107, Tryz.ntmps107
  go_wp2_with fail
  generalize w.alloc (.cells #[.int .i64 0, .int .i64 0, .bool false, .slice none 0 0, .int .u64 0, .string ⟨#[]⟩, .slice none 0 0] 81) = W at *
  have HX0 := Lib.hid X0
  have HXB := Lib.hid XB
  have HXS := Lib.hid XS
  clear X0 XB XS
  refine (plain_any x hx _).mono ?_
  rintro e W' ⟨rfl, rfl⟩
  rw [HPL.out]
  cases pl with
  | false =>
    have HN := Lib.hid (show r = none by rw [← HE.out]; unfold stepP; rw [if_pos (Or.inl HPL.out)])
    have a1 := fun i => cell_of HX0.out i
    have f1 := fun i => free_of HX0.out i
    go_wp2_with fail
    have A := answer_at (b := w.heap.size) (r := r) (Nat.le_refl _) (TmAt.zero W') HRD.out hRlt (grown_below HXB.out) (fun p hp => by rw [HN.out] at hp; cases hp)
    refine bodyPost_ret (v := .tuple #[.agg #[.int .i64 0, .int .i64 0, .bool false, .slice none 0 0, .int .u64 0, .string ⟨#[]⟩, .slice none 0 0], .bool r.isSome]) (by rw [HN.out]; simp [results, Tryz.results107, go_sem, a1, f1]) rfl A
  | true =>
    go_wp2_with fail
    refine (weighs_any R mv sv asks left 1 W' HRD.out (by omega) (by omega)).mono ?_
    rintro e w2 ⟨rfl, hr2, hg2⟩
    have HR2 := Lib.hid hr2
    have HG2 := Lib.hid (grown_trans (grown_below HXB.out) hg2)
    have HX2 := Lib.hid ((hg2.block w.heap.size (by have := HXS.out; omega) (by simp; omega)).trans HX0.out)
    have HS2 := Lib.hid (show w.heap.size + 1 ≤ w2.heap.size by have := HXS.out; have := hg2.size; omega)
    have a1 := fun i => cell_of HX2.out i
    have f1 := fun i => free_of HX2.out i
    clear hr2 hg2
    by_cases h0 : left = 0
    · have HN := Lib.hid (show r = none by rw [← HE.out]; unfold stepP; rw [if_pos (Or.inr h0)])
      have q1 : decide ((0 : Int) ≤ (left : Int) - 1) = false := decide_eq_false (by omega)
      have q2 : ¬ (0 : Int) ≤ (left : Int) - 1 := by omega
      have q3 : ¬ (1 : Int) ≤ (left : Int) := by omega
      have q4 : decide ((1 : Int) ≤ (left : Int)) = false := decide_eq_false (by omega)
      clear h0
      go_wp2_with fail
      have A := answer_at (b := w.heap.size) (r := r) (Nat.le_refl _) (TmAt.zero w2) HR2.out hRlt HG2.out (fun p hp => by rw [HN.out] at hp; cases hp)
      refine bodyPost_ret (v := .tuple #[.agg #[.int .i64 0, .int .i64 0, .bool false, .slice none 0 0, .int .u64 0, .string ⟨#[]⟩, .slice none 0 0], .bool r.isSome]) (by rw [HN.out]; simp [results, Tryz.results107, go_sem, a1, f1]) rfl A
    · have q1 : decide ((0 : Int) ≤ (left : Int) - 1) = true := decide_eq_true (by omega)
      have q2 : (0 : Int) ≤ (left : Int) - 1 := by omega
      have q3 : (1 : Int) ≤ (left : Int) := by omega
      have q4 : decide ((1 : Int) ≤ (left : Int)) = true := decide_eq_true (by omega)
      have HLN := Lib.hid (show ((left - 1 : Nat) : Int) = (left : Int) - 1 by omega)
      have H0 := Lib.hid h0
      clear h0
      go_wp2_with fail
      refine (tag_any x hx _).mono ?_
      rintro e w3 ⟨rfl, rfl⟩
      rw [HTG.out]
      rw [HLD.out] at HIN
      have h6 : tg = 0 ∨ tg = 1 ∨ tg = 2 ∨ tg = 3 ∨ (tg = 4 ∨ tg = 5) := by
        have h := HPL.out
        unfold plainP at h
        rw [Bool.and_eq_true, decide_eq_true_eq, HTG.out] at h
        omega
      rcases h6 with rfl | rfl | rfl | rfl | h45
      · have HN := Lib.hid (show r = some (.mk 1 ld false [] 0 ⟨#[]⟩ [], left - 1) by
          rw [← HE.out]; unfold stepP
          rw [if_neg (fun q => by rcases q with q | q; rw [HPL.out] at q; cases q; exact H0.out q), HTG.out]
          simp only [HLD.out]
          rfl)
        go_wp2_with fail
        refine (load_any x hx _).mono ?_
        rintro e w4 ⟨rfl, rfl⟩
        rw [HLD.out]
        go_wp2_with fail
        have A := answer_at (b := w.heap.size) (r := r) (Nat.le_refl _) (TmAt.leaf (P := fun b => w.heap.size < b) (k := 1) (n := ld) (neg := false) (mag := []) (mv := .slice none 0 0) (bits := 0) (bytes := ⟨#[]⟩) (a := none) (cap := 0) (by constructor <;> decide) HIN.out (MsP.nil _) (by simp) (fun y hy => by cases hy) (by decide) (by unfold maxLen; decide)) HR2.out hRlt HG2.out (fun p hp => by rw [HN.out] at hp; cases hp; exact ⟨rfl, HLN.out.symm⟩)
        refine bodyPost_ret (v := .tuple #[.agg #[.int .i64 1, .int .i64 ld, .bool false, .slice none 0 0, .int .u64 0, .string ⟨#[]⟩, .slice none 0 0], .bool r.isSome]) (by rw [HN.out]; simp [results, Tryz.results107, go_sem, a1, f1]) rfl A
      · have HN := Lib.hid (show r = some (.mk 4 ld false [] 0 ⟨#[]⟩ [], left - 1) by
          rw [← HE.out]; unfold stepP
          rw [if_neg (fun q => by rcases q with q | q; rw [HPL.out] at q; cases q; exact H0.out q), HTG.out]
          simp only [HLD.out]
          rfl)
        go_wp2_with fail
        refine (load_any x hx _).mono ?_
        rintro e w4 ⟨rfl, rfl⟩
        rw [HLD.out]
        go_wp2_with fail
        have A := answer_at (b := w.heap.size) (r := r) (Nat.le_refl _) (TmAt.leaf (P := fun b => w.heap.size < b) (k := 4) (n := ld) (neg := false) (mag := []) (mv := .slice none 0 0) (bits := 0) (bytes := ⟨#[]⟩) (a := none) (cap := 0) (by constructor <;> decide) HIN.out (MsP.nil _) (by simp) (fun y hy => by cases hy) (by decide) (by unfold maxLen; decide)) HR2.out hRlt HG2.out (fun p hp => by rw [HN.out] at hp; cases hp; exact ⟨rfl, HLN.out.symm⟩)
        refine bodyPost_ret (v := .tuple #[.agg #[.int .i64 4, .int .i64 ld, .bool false, .slice none 0 0, .int .u64 0, .string ⟨#[]⟩, .slice none 0 0], .bool r.isSome]) (by rw [HN.out]; simp [results, Tryz.results107, go_sem, a1, f1]) rfl A
      · have HN := Lib.hid (show r = some (.mk 5 ld false [] 0 ⟨#[]⟩ [], left - 1) by
          rw [← HE.out]; unfold stepP
          rw [if_neg (fun q => by rcases q with q | q; rw [HPL.out] at q; cases q; exact H0.out q), HTG.out]
          simp only [HLD.out]
          rfl)
        go_wp2_with fail
        refine (load_any x hx _).mono ?_
        rintro e w4 ⟨rfl, rfl⟩
        rw [HLD.out]
        go_wp2_with fail
        have A := answer_at (b := w.heap.size) (r := r) (Nat.le_refl _) (TmAt.leaf (P := fun b => w.heap.size < b) (k := 5) (n := ld) (neg := false) (mag := []) (mv := .slice none 0 0) (bits := 0) (bytes := ⟨#[]⟩) (a := none) (cap := 0) (by constructor <;> decide) HIN.out (MsP.nil _) (by simp) (fun y hy => by cases hy) (by decide) (by unfold maxLen; decide)) HR2.out hRlt HG2.out (fun p hp => by rw [HN.out] at hp; cases hp; exact ⟨rfl, HLN.out.symm⟩)
        refine bodyPost_ret (v := .tuple #[.agg #[.int .i64 5, .int .i64 ld, .bool false, .slice none 0 0, .int .u64 0, .string ⟨#[]⟩, .slice none 0 0], .bool r.isSome]) (by rw [HN.out]; simp [results, Tryz.results107, go_sem, a1, f1]) rfl A
      · have HN := Lib.hid (show r = some (.mk 7 0 false [] 0 ⟨#[]⟩ [], left - 1) by
          rw [← HE.out]; unfold stepP
          rw [if_neg (fun q => by rcases q with q | q; rw [HPL.out] at q; cases q; exact H0.out q), HTG.out]
          simp only [HLD.out]
          rfl)
        go_wp2_with fail
        have A := answer_at (b := w.heap.size) (r := r) (Nat.le_refl _) (TmAt.leaf (P := fun b => w.heap.size < b) (k := 7) (n := 0) (neg := false) (mag := []) (mv := .slice none 0 0) (bits := 0) (bytes := ⟨#[]⟩) (a := none) (cap := 0) (by constructor <;> decide) (by constructor <;> decide) (MsP.nil _) (by simp) (fun y hy => by cases hy) (by decide) (by unfold maxLen; decide)) HR2.out hRlt HG2.out (fun p hp => by rw [HN.out] at hp; cases hp; exact ⟨rfl, HLN.out.symm⟩)
        refine bodyPost_ret (v := .tuple #[.agg #[.int .i64 7, .int .i64 0, .bool false, .slice none 0 0, .int .u64 0, .string ⟨#[]⟩, .slice none 0 0], .bool r.isSome]) (by rw [HN.out]; simp [results, Tryz.results107, go_sem, a1, f1]) rfl A
      · have HTO := Lib.hid (show toP x = some (ld, (tg : Int)) by
          unfold toP; rw [if_pos ⟨HPL.out, by rw [HTG.out]; exact h45⟩, HLD.out, HTG.out])
        have HEO := Lib.hid (show r = (objP m ld tg).bind (objT g asks S m (left - 1)) by
          rw [← HE.out]; unfold stepP
          rw [if_neg (fun q => by rcases q with q | q; rw [HPL.out] at q; cases q; exact H0.out q), HTG.out, if_neg (by omega), if_neg (by omega), if_neg (by omega), if_neg (by omega), HLD.out])
        have HR3 := Lib.hid (show RdAt w3 R mv sv asks ((left - 1 : Nat) : Int) by rw [HLN.out]; exact HR2.out)
        have hne : (tg : Int) ≠ 0 ∧ (tg : Int) ≠ 1 ∧ (tg : Int) ≠ 2 ∧ (tg : Int) ≠ 3 := by omega
        have r0 : ((tg : Int) == 0) = false := by simpa using hne.1
        have r1 : ((tg : Int) == 1) = false := by simpa using hne.2.1
        have r2 : ((tg : Int) == 2) = false := by simpa using hne.2.2.1
        have r3 : ((tg : Int) == 3) = false := by simpa using hne.2.2.2
        obtain ⟨ti, hti⟩ : ∃ ti : Int, (tg : Int) = ti := ⟨_, rfl⟩
        rw [hti] at HTO HEO r0 r1 r2 r3 ⊢
        clear hne h45 hti
        go_wp2_with fail
        refine (to_any x hx _).mono ?_
        rintro e w4 ⟨he, hb4⟩
        unfold ToEnd at he
        rw [HTO.out] at he
        subst he
        go_upto_region 13 with fail
        have HB4 := Lib.hid (hb4.alloc hb4.size (.cells #[.int .i64 ld, .int .i64 ti] 63))
        have HBX := Lib.hid (World.alloc_heap_new w4 (.cells #[.int .i64 ld, .int .i64 ti] 63))
        have hsz : w4.heap.size < (w4.alloc (.cells #[.int .i64 ld, .int .i64 ti] 63)).heap.size := by simp
        have h34 := hb4.size
        clear hb4 a1 f1
        generalize w4.alloc (.cells #[.int .i64 ld, .int .i64 ti] 63) = V at *
        have VR := Lib.hid (HR3.out.below HB4.out)
        have V0 := Lib.hid ((HB4.out.block w.heap.size (by have := HS2.out; omega)).trans HX2.out)
        have VS := Lib.hid (show w.heap.size + 1 ≤ V.heap.size by have := HS2.out; omega)
        have VG := Lib.hid (grown_then HG2.out (HB4.out.mono (by have := HS2.out; omega)))
        have VB := Lib.hid (HB.out.trans (grown_low VG.out hR HB.out.size))
        have VM := Lib.hid (HM.out.below VB.out)
        have HC := Lib.hid (fun (U : World) (hb : Below V.heap.size V U) => object_any m _ ld ti U (VM.out.below hb) HIN.out)
        have hmv := HM.out
        obtain ⟨-, ma, mc, rfl, -⟩ := hmv
        have c0 : V.cell? ⟨R, 0, none⟩ = some (.slice ma m.length mc) := by have h := VR.out; unfold RdAt at h; simp [World.cell?, h]
        have b0 := cell_of HBX.out 0
        have b1 := cell_of HBX.out 1
        simp at b0 b1
        have upa := fun {p : Addr} {v : Value} (q : V.cell? p = some v) (o : Obj) => (((Below.refl _ V).alloc (Nat.le_refl _) o).cell (World.block_lt_of_cell? V _ q)).trans q
        have c0a := upa c0
        have b0a := upa b0
        have b1a := upa b1
        clear upa hsz h34
        go_cut [8, 9] from 44 to 52 (fun p u wx => ∃ nb k v l ok, p = .pointer (some ⟨nb, 0, none⟩) ∧ u = .bool ok ∧ Hid (wx.heap[nb]? = some (.cells #[.int .i64 k, v] 107 (0, 0))) ∧ Hid (Ws wx v l) ∧ Hid (ok = (objP m ld ti).isSome) ∧ Hid (∀ o, objP m ld ti = some o → o = (k, l)) ∧ Hid (V.heap.size ≤ nb) ∧ Hid (Below V.heap.size V wx))
        case first =>
          first
            | (go_region_with ((go_at_call 60
                                first
                                  | ((with_reducible refine (HC.out _ ((Below.refl _ V).alloc (Nat.le_refl _) _).drew).mono ?_)
                                     rintro e w6 ⟨⟨k', v, l', ok, rfl, hws, hok, hs⟩, hb6⟩
                                     obtain ⟨-, -, va, vc, rfl, -⟩ := id hws
                                     have HB6 := Lib.hid hb6
                                     have HWS := Lib.hid hws
                                     have HOK := Lib.hid hok
                                     have HSO := Lib.hid hs
                                     have f0 := cell_of (held_new hb6) 0
                                     have f1 := cell_of (held_new hb6) 1
                                     have f2 := free_of (held_new hb6) 0
                                     have f3 := free_of (held_new hb6) 1
                                     simp at f0 f1
                                     clear hb6 hws hs hok)
                                  | ((with_reducible refine (HC.out _ (Below.refl _ _).drew).mono ?_)
                                     rintro e w6 ⟨⟨k', v, l', ok, rfl, hws, hok, hs⟩, hb6⟩
                                     obtain ⟨-, -, va, vc, rfl, -⟩ := id hws
                                     have HB6 := Lib.hid hb6
                                     have HWS := Lib.hid hws
                                     have HOK := Lib.hid hok
                                     have HSO := Lib.hid hs
                                     clear hb6 hws hs hok))))
            | fail
          all_goals go_wp2_with fail
          all_goals go_meet
          all_goals
            first
              | exact ⟨_, _, _, _, _, rfl, rfl, Lib.hid (made_behind HB6.out HWS.out).1, Lib.hid (made_behind HB6.out HWS.out).2.1, HOK, HSO, Lib.hid HB6.out.size, Lib.hid (made_behind HB6.out HWS.out).2.2⟩
              | exact ⟨_, _, _, _, _, rfl, rfl, Lib.hid (made_ahead HB6.out HWS.out).1, Lib.hid (made_ahead HB6.out HWS.out).2.1, HOK, HSO, Lib.hid (Nat.le_refl _), Lib.hid (made_ahead HB6.out HWS.out).2.2⟩
        case rest =>
          obtain ⟨nb, k, v, l, ok, rfl, rfl, Z0, ZW, ZO, ZS, ZN, ZB⟩ := hcut
          have YR := Lib.hid (VR.out.below ZB.out)
          have Y0 := Lib.hid ((ZB.out.block w.heap.size (by have := VS.out; omega)).trans V0.out)
          have YS := Lib.hid (Nat.le_trans VS.out ZB.out.size)
          have YG := Lib.hid (grown_then VG.out (ZB.out.mono (by have := VS.out; omega)))
          have YB := Lib.hid (VB.out.trans (ZB.out.mono VB.out.size))
          clear c0 c0a b0 b0a b1 b1a
          cases hob : objP m ld ti with
          | none =>
            obtain rfl : ok = false := by have h := ZO.out; rw [hob] at h; exact h
            have HN := Lib.hid (show r = none by rw [HEO.out, hob]; rfl)
            have a1 := fun i => cell_of Y0.out i
            have f1 := fun i => free_of Y0.out i
            clear hob
            go_wp2_with fail
            have A := answer_at (b := w.heap.size) (r := r) (Nat.le_refl _) (TmAt.zero wc) YR.out hRlt YG.out (fun p hp => by rw [HN.out] at hp; cases hp)
            refine bodyPost_ret (v := .tuple #[.agg #[.int .i64 0, .int .i64 0, .bool false, .slice none 0 0, .int .u64 0, .string ⟨#[]⟩, .slice none 0 0], .bool r.isSome]) (by rw [HN.out]; simp [results, Tryz.results107, go_sem, a1, f1]) rfl A
          | some o =>
            obtain rfl : ok = true := by have h := ZO.out; rw [hob] at h; exact h
            obtain rfl : o = (k, l) := ZS.out _ hob
            have HN := Lib.hid (show r = objT g asks S m (left - 1) (k, l) by rw [HEO.out, hob]; rfl)
            have HOK := Lib.hid (objP_ok hob)
            have hwv := ZW.out
            obtain ⟨-, -, va, vc, rfl, -⟩ := hwv
            have b0 := cell_of Z0.out 0
            have b1 := cell_of Z0.out 1
            simp at b0 b1
            have h0 := H0.out
            have HOA := Lib.hid (obj_any g (left - 1) R _ sv _ asks (left - 1) k S m l w0 wc (fun left' x w hle => HG.out left' x w (by omega)) HGL.out hR YB.out HM.out HS.out YR.out ZW.out HOK.out (Nat.le_refl _) (by omega))
            clear hob h0
            go_wp2_with fail
            refine HOA.out.mono ?_
            rintro e w7 ⟨tv, t, lf', rfl, ht, hrd, hgr, hp⟩
            obtain ⟨tk, tn, tneg, tma, tml, tmc, tbits, tbytes, ta, tlen, tcap, rfl⟩ := ht.shape
            have U0 := Lib.hid ((hgr.block w.heap.size (by have := YS.out; omega) (by simp; omega)).trans Y0.out)
            have UT := Lib.hid (ht.mono (Q := fun b => w.heap.size < b) (fun b hb _ => by have := YS.out; omega))
            have UR := Lib.hid hrd
            have UG := Lib.hid (grown_trans YG.out hgr)
            have HP := Lib.hid hp
            rw [← HN.out] at HP ⊢
            have a1 := fun i => cell_of U0.out i
            have f1 := fun i => free_of U0.out i
            clear ht hrd hgr hp b0 b1
            go_wp2_with fail
            have A := answer_at (b := w.heap.size) (r := r) (Nat.le_refl _) UT.out UR.out hRlt UG.out HP.out
            refine bodyPost_ret (v := .tuple #[.agg #[.int .i64 tk, .int .i64 tn, .bool tneg, .slice tma tml tmc, .int .u64 tbits, .string tbytes, .slice ta tlen tcap], .bool r.isSome]) (by simp [results, Tryz.results107, go_sem, a1, f1]) rfl A

/-- The term that a word stands for, by how heavy it may be. -/
theorem term_any (R : Nat) (mv sv : Value) (asks : Bool) (S : List Slt) (m : List Frg) (w0 : World) (hR : w0.heap.size ≤ R) (hm : RsAt w0 mv m) (hS : SlAt w0 sv S) : ∀ (f left x : Nat) (w : World), left ≤ f → f ≤ 10000 → x < 18446744073709551616 → RdAt w R mv sv asks left → Below w0.heap.size w0 w →
    Calls Tryz.prog 107 #[.pointer (some ⟨R, 0, none⟩), .int .u64 x] w fun e w' => TermEnd w w' R mv sv asks (termP asks S m (f + 1) left x) e
  | 0, left, x, w, hlf, hf, hx, h, hb => by
    rw [termP_step]
    exact term_step _ R mv sv asks left x S m w0 w (fun left' x w hlt => absurd hlt (by omega)) (termP_le asks S m 0) hR hb hm hS h hx (by omega)
  | f + 1, left, x, w, hlf, hf, hx, h, hb => by
    rw [termP_step]
    exact term_step _ R mv sv asks left x S m w0 w (fun left' x w hlt hx hr hb' => term_any R mv sv asks S m w0 hR hm hS f left' x w (by omega) (by omega) hx hr hb') (termP_le asks S m (f + 1)) hR hb hm hS h hx (by omega)

end Go.Proofs.YtlmpmjhanpkcnaaGreat
