/-
  Chapter 12's own look: a word's term (read).
  Chapter 12's own look: a word's term, the walk.
  Chapter 12's own look: Read.
  Chapter 12's own look: Read, the walks.
-/
import Derived.Test.YtlmpmjhanpkcnaaGreatN21
set_option linter.unusedVariables false
set_option linter.unusedSimpArgs false
namespace Go.Proofs.YtlmpmjhanpkcnaaGreat
open Go.RowKit

/-- A word's term, where the parts' terms are known. -/
def readT (g : Nat → Nat → Option (Tm × Nat)) (deep : Bool) (S : List Slt) (m : List Frg) (left w : Nat) : Option (Tm × Nat) :=
  if left = 0 ∨ plainP w = false then none
  else if tagW w = 0 then some (.mk 1 (loadW w) false [] 0 ⟨#[]⟩ [], left - 1)
  else if tagW w = 1 then some (.mk 4 (loadW w) false [] 0 ⟨#[]⟩ [], left - 1)
  else if tagW w = 2 then some (.mk 5 (loadW w) false [] 0 ⟨#[]⟩ [], left - 1)
  else if tagW w = 3 then some (.mk 7 0 false [] 0 ⟨#[]⟩ [], left - 1)
  else if tagW w = 5 then (if (restP m (loadW w)).length < 2 then none else (seqP g (left - 1) ((restP m (loadW w)).take 2)).map fun r => (.mk 8 0 false [] 0 ⟨#[]⟩ r.1, r.2))
  else boxT g deep S m (left - 1) w

def refT (deep : Bool) (S : List Slt) (m : List Frg) : Nat → Nat → Nat → Option (Tm × Nat)
  | 0, _, _ => none
  | f + 1, left, w => readT (refT deep S m f) deep S m left w

theorem refT_step (deep : Bool) (S : List Slt) (m : List Frg) (f left w : Nat) : refT deep S m (f + 1) left w = readT (refT deep S m f) deep S m left w := rfl

theorem boxT_le {g : Nat → Nat → Option (Tm × Nat)} (hg : ∀ left x p, g left x = some p → p.2 ≤ left) {deep : Bool} {S : List Slt} {m : List Frg} {left w : Nat} {p : Tm × Nat} (h : boxT g deep S m left w = some p) : p.2 ≤ left := by
  unfold boxT at h
  cases hb : boxP m w with
  | none => rw [hb] at h; cases h
  | some o =>
    rw [hb] at h
    simp only [Option.bind_some] at h
    split at h
    · split at h
      · cases h
      · cases hs : seqP g left o.2 with
        | none => rw [hs] at h; cases h
        | some q => rw [hs] at h; cases h; exact (seqP_le hg _ _ _ hs).1
    · split at h
      · cases hs : big12 o.2 with
        | none => rw [hs] at h; cases h
        | some q => rw [hs] at h; cases h; exact Nat.le_refl _
      · split at h
        · split at h
          · cases h
          · split at h
            · cases h; exact Nat.le_refl _
            · cases h
        · split at h
          · cases hs : sub12 deep S m o.2 with
            | none => rw [hs] at h; cases h
            | some q => rw [hs] at h; cases h; exact Nat.le_refl _
          · cases hs : bytes12 deep S o.1 o.2 with
            | none => rw [hs] at h; cases h
            | some q => rw [hs] at h; cases h; exact Nat.le_refl _

theorem readT_le {g : Nat → Nat → Option (Tm × Nat)} (hg : ∀ left x p, g left x = some p → p.2 ≤ left) {deep : Bool} {S : List Slt} {m : List Frg} (left w : Nat) (p : Tm × Nat) (h : readT g deep S m left w = some p) : p.2 ≤ left := by
  unfold readT at h
  split at h
  · cases h
  · repeat' split at h
    all_goals first
      | (cases h; exact Nat.sub_le _ _)
      | skip
    · cases h
    · cases hs : seqP g (left - 1) ((restP m (loadW w)).take 2) with
      | none => rw [hs] at h; cases h
      | some q => rw [hs] at h; cases h; exact Nat.le_trans (seqP_le hg _ _ _ hs).1 (Nat.sub_le _ _)
    · exact Nat.le_trans (boxT_le hg h) (Nat.sub_le _ _)

theorem refT_le (deep : Bool) (S : List Slt) (m : List Frg) : ∀ (f left w : Nat) (p : Tm × Nat), refT deep S m f left w = some p → p.2 ≤ left
  | 0, _, _, _, h => by cases h
  | f + 1, left, w, p, h => readT_le (refT_le deep S m f) left w p h

def AllCut (wr wx : World) (R : Nat) (r : Option (List Tm × Nat)) (av ok : Value) : Prop :=
  ∃ (ts : List Tm) (left' : Int), ok = .bool r.isSome ∧ (∃ a n c, av = .slice a n c) ∧ (∀ k, In64 k → TmAt (fun b => wr.heap.size ≤ b) wx (.agg #[.int .i64 k, .int .i64 0, .bool false, .slice none 0 0, .int .u64 0, .string ⟨#[]⟩, av]) (.mk k 0 false [] 0 ⟨#[]⟩ ts)) ∧
    LfAt wx R left' ∧ wr.grownBy wx (some R) ∧ (∀ p, r = some p → p.1 = ts ∧ left' = (p.2 : Nat))

/-- How many parts may come yet, one less. -/
theorem left_set {w wa : World} {R : Nat} {left : Int} (h : LfAt wa R left) (hg : w.grownBy wa (some R)) (l' : Int) :
    LfAt (wa.setCell ⟨R, 0, none⟩ (.int .i64 l')) R l' ∧ w.grownBy (wa.setCell ⟨R, 0, none⟩ (.int .i64 l')) (some R) ∧ (∀ b, b ≠ R → (wa.setCell ⟨R, 0, none⟩ (.int .i64 l')).heap[b]? = wa.heap[b]?) := by
  have hoff : ∀ b, b ≠ R → (wa.setCell ⟨R, 0, none⟩ (.int .i64 l')).heap[b]? = wa.heap[b]? := fun b hb => Below.heap_setCell _ _ _ _ hb
  refine ⟨?_, ?_, hoff⟩
  · unfold LfAt at *
    rw [set_of h]; rfl
  · refine grown_trans hg ⟨rfl, rfl, rfl, by simp [World.setCell], fun b _ hne => hoff b (fun q => hne (by rw [q]))⟩

end Go.Proofs.YtlmpmjhanpkcnaaGreat

namespace Go.Proofs.YtlmpmjhanpkcnaaGreat
open Go.RowKit

set_option maxHeartbeats 16000000 in
set_option maxRecDepth 100000 in
theorem read12_step (g : Nat → Nat → Option (Tm × Nat)) (R : Nat) (d : Dmp) (S : List Slt) (c0 c1 c2 c3 c4 c5 c6 c7 c8 c9 : Value) (deep : Bool) (left x : Nat) (w0 w : World)
    (hg : ∀ (left' x : Nat) (w : World), left' < left → x < 18446744073709551616 → LfAt w R left' → Below w0.heap.size w0 w → Calls Tryz.prog 74 #[.agg (lkV c0 c1 c2 c3 c4 c5 c6 c7 c8 c9 deep), .int .u64 x, .pointer (some ⟨R, 0, none⟩)] w fun e w' => RefEnd w w' R (g left' x) e)
    (hgl : ∀ left x p, g left x = some p → p.2 ≤ left) (hR : w0.heap.size ≤ R) (hlk : LkAt w0 (.agg (lkV c0 c1 c2 c3 c4 c5 c6 c7 c8 c9 deep)) d S deep) (hf : d.frags.length ≤ 100000) (hb : Below w0.heap.size w0 w) (h : LfAt w R left) (hx : x < 18446744073709551616) (hL : left ≤ 10000) :
    Calls Tryz.prog 74 #[.agg (lkV c0 c1 c2 c3 c4 c5 c6 c7 c8 c9 deep), .int .u64 x, .pointer (some ⟨R, 0, none⟩)] w fun e w' => RefEnd w w' R (readT g deep S d.mem left x) e := by
  have hRlt : R < w.heap.size := lt_of_block h
  have HG := Lib.hid hg
  have HGL := Lib.hid hgl
  have HB := Lib.hid hb
  have HRD := Lib.hid h
  have HLK := Lib.hid hlk
  clear hg hgl hb h hlk
  obtain ⟨r, hr⟩ : ∃ r, readT g deep S d.mem left x = r := ⟨_, rfl⟩
  have HR := Lib.hid hr
  rw [hr]
  clear hr
  go_enter Tryz.func74, Tryz.ntmps74
  go_upto_region 1 with fail
  have T := two_at w (.cells (lkV c0 c1 c2 c3 c4 c5 c6 c7 c8 c9 deep) 53) (.cells #[.int .i64 0, .int .i64 0, .bool false, .slice none 0 0, .int .u64 0, .string ⟨#[]⟩, .slice none 0 0] 81)
  generalize (w.alloc (.cells (lkV c0 c1 c2 c3 c4 c5 c6 c7 c8 c9 deep) 53)).alloc (.cells #[.int .i64 0, .int .i64 0, .bool false, .slice none 0 0, .int .u64 0, .string ⟨#[]⟩, .slice none 0 0] 81) = wa at *
  have WR := Lib.hid (HRD.out.below T.2.2.2)
  have WG := Lib.hid (grown_below (R := R) T.2.2.2)
  have W0 := Lib.hid T.1
  have W1 := Lib.hid T.2.1
  have WS := Lib.hid (show w.heap.size + 2 ≤ wa.heap.size from Nat.le_of_eq T.2.2.1)
  clear T
  have r0 : wa.cell? ⟨R, 0, none⟩ = some (.int .i64 left) := cell_of WR.out 0
  have rz : wa.frozen? ⟨R, 0, none⟩ = false := free_of WR.out 0
  have q0 : IntKind.i64.wrap ((left : Int) - 1) = (left : Int) - 1 := IntWalk.i64_in _ (by omega)
  go_upto_region 2 with fail
  have YL := left_set WR.out WG.out ((left : Int) - 1)
  have YR := Lib.hid YL.1
  have YG := Lib.hid YL.2.1
  have Y0 := Lib.hid ((YL.2.2 w.heap.size (by omega)).trans W0.out)
  have Y1 := Lib.hid ((YL.2.2 (w.heap.size + 1) (by omega)).trans W1.out)
  have YS := Lib.hid (show w.heap.size + 2 ≤ (wa.setCell ⟨R, 0, none⟩ (.int .i64 ((left : Int) - 1))).heap.size by have := WS.out; simpa [World.setCell] using this)
  clear YL r0 rz W0 W1 WS WR WG
  generalize wa.setCell ⟨R, 0, none⟩ (.int .i64 ((left : Int) - 1)) = wb at *
  have HBW := Lib.hid (HB.out.trans (grown_low YG.out hR HB.out.size))
  have r1 : wb.cell? ⟨R, 0, none⟩ = some (.int .i64 ((left : Int) - 1)) := cell_of YR.out 0
  have z0 := free_of Y1.out 0
  have y0 := cell_of Y1.out 0
  have z1 := free_of Y1.out 1
  have y1 := cell_of Y1.out 1
  have z2 := free_of Y1.out 2
  have y2 := cell_of Y1.out 2
  have z3 := free_of Y1.out 3
  have y3 := cell_of Y1.out 3
  have z4 := free_of Y1.out 4
  have y4 := cell_of Y1.out 4
  have z5 := free_of Y1.out 5
  have y5 := cell_of Y1.out 5
  have z6 := free_of Y1.out 6
  have y6 := cell_of Y1.out 6
  simp at y0 y1 y2 y3 y4 y5 y6
  cases left with
  | zero =>
    have HN := Lib.hid (show r = none by rw [← HR.out]; unfold readT; rw [if_pos (.inl rfl)])
    simp only [Int.ofNat_zero, Int.zero_sub] at r1 YR
    go_wp2_with fail
    exact bodyPost_ret (v := .tuple #[.agg #[.int .i64 0, .int .i64 0, .bool false, .slice none 0 0, .int .u64 0, .string ⟨#[]⟩, .slice none 0 0], .bool false]) (by simp [results, Tryz.results74, go_sem, y0, y1, y2, y3, y4, y5, y6]) rfl (ref_none HN.out (by omega) (by omega) YR.out YG.out)
  | succ n =>
    have q1 : ¬ (((n + 1 : Nat) : Int) - 1 < 0) := by omega
    have e1 : ((n + 1 : Nat) : Int) - 1 = (n : Int) := by omega
    rw [e1] at r1 YR q1
    have q1b : decide ((n : Int) < 0) = false := decide_eq_false (by omega)
    clear e1 q0
    obtain ⟨pl, hpl⟩ : ∃ pl, plainP x = pl := ⟨_, rfl⟩
    have HPL := Lib.hid hpl
    clear hpl
    obtain ⟨l, hl⟩ : ∃ l, loadW x = l := ⟨_, rfl⟩
    have HLX := Lib.hid hl
    have HL64 := Lib.hid (show In64 l by rw [← hl]; exact In64.load hx)
    have HLD := Lib.hid (show ∀ W, Calls Tryz.prog 39 #[.int .u64 x] W fun e W' => e = .returned (.int .i64 l) ∧ W = W' from fun W => (load8_any x hx W).mono fun e w' q => ⟨by rw [q.1, hl], q.2⟩)
    obtain ⟨tg, htg⟩ : ∃ tg, tagW x = tg := ⟨_, rfl⟩
    have HTX := Lib.hid htg
    have HTG := Lib.hid (show ∀ W, Calls Tryz.prog 40 #[.int .u64 x] W fun e W' => e = .returned (.int .i64 (tg : Nat)) ∧ W = W' from fun W => (tag8_any x hx W).mono fun e w' q => ⟨by rw [q.1, htg], q.2⟩)
    clear hl htg
    cases pl
    · have HN := Lib.hid (show r = none by rw [← HR.out]; unfold readT; rw [if_pos (.inr HPL.out)])
      go_wp2_with (first | (go_at_call 101; refine (plain8_any x hx _).mono ?_; rintro e wq ⟨rfl, rfl⟩; rw [HPL.out]) | (go_at_call 39; refine (HLD.out _).mono ?_; rintro e wq ⟨rfl, rfl⟩) | (go_at_call 40; refine (HTG.out _).mono ?_; rintro e wq ⟨rfl, rfl⟩))
      exact bodyPost_ret (v := .tuple #[.agg #[.int .i64 0, .int .i64 0, .bool false, .slice none 0 0, .int .u64 0, .string ⟨#[]⟩, .slice none 0 0], .bool false]) (by simp [results, Tryz.results74, go_sem, y0, y1, y2, y3, y4, y5, y6]) rfl (ref_none HN.out (by omega) (by omega) YR.out YG.out)
    · have HR2 := Lib.hid (show r = if tg = 0 then some (.mk 1 l false [] 0 ⟨#[]⟩ [], n)
        else if tg = 1 then some (.mk 4 l false [] 0 ⟨#[]⟩ [], n)
        else if tg = 2 then some (.mk 5 l false [] 0 ⟨#[]⟩ [], n)
        else if tg = 3 then some (.mk 7 0 false [] 0 ⟨#[]⟩ [], n)
        else if tg = 5 then (if (restP d.mem l).length < 2 then none else (seqP g n ((restP d.mem l).take 2)).map fun r => (.mk 8 0 false [] 0 ⟨#[]⟩ r.1, r.2))
        else boxT g deep S d.mem n x by
          rw [← HR.out]; unfold readT; rw [if_neg (by rw [HPL.out]; simp), HLX.out, HTX.out]; rfl)
      by_cases h0 : tg = 0
      · have HN := Lib.hid (show r = some (.mk 1 l false [] 0 ⟨#[]⟩ [], n) by rw [HR2.out, if_pos h0])
        subst h0
        go_wp2_with (first | (go_at_call 101; refine (plain8_any x hx _).mono ?_; rintro e wq ⟨rfl, rfl⟩; rw [HPL.out]) | (go_at_call 39; refine (HLD.out _).mono ?_; rintro e wq ⟨rfl, rfl⟩) | (go_at_call 40; refine (HTG.out _).mono ?_; rintro e wq ⟨rfl, rfl⟩))
        refine bodyPost_ret (v := .tuple #[.agg #[.int .i64 1, .int .i64 l, .bool false, .slice none 0 0, .int .u64 0, .string ⟨#[]⟩, .slice none 0 0], .bool true]) (by simp [results, Tryz.results74, go_sem, y0, y1, y2, y3, y4, y5, y6]) rfl ?_
        refine ref_at' (by rw [HN.out]; rfl) (by omega) (by omega) (TmAt.leaf ⟨by decide, by decide⟩ HL64.out (MsP.nil _) (by unfold maxLen; simp) (by simp) (by decide) (by unfold maxLen; decide)) YR.out YG.out (fun p hp => ?_)
        rw [HN.out] at hp; cases hp; exact ⟨rfl, rfl⟩
      · have p0 : (((tg : Nat) : Int) == 0) = false := by simp; omega
        by_cases h1 : tg = 1
        · have HN := Lib.hid (show r = some (.mk 4 l false [] 0 ⟨#[]⟩ [], n) by rw [HR2.out, if_neg h0, if_pos h1])
          subst h1
          clear h0
          go_wp2_with (first | (go_at_call 101; refine (plain8_any x hx _).mono ?_; rintro e wq ⟨rfl, rfl⟩; rw [HPL.out]) | (go_at_call 39; refine (HLD.out _).mono ?_; rintro e wq ⟨rfl, rfl⟩) | (go_at_call 40; refine (HTG.out _).mono ?_; rintro e wq ⟨rfl, rfl⟩))
          refine bodyPost_ret (v := .tuple #[.agg #[.int .i64 4, .int .i64 l, .bool false, .slice none 0 0, .int .u64 0, .string ⟨#[]⟩, .slice none 0 0], .bool true]) (by simp [results, Tryz.results74, go_sem, y0, y1, y2, y3, y4, y5, y6]) rfl ?_
          refine ref_at' (by rw [HN.out]; rfl) (by omega) (by omega) (TmAt.leaf ⟨by decide, by decide⟩ HL64.out (MsP.nil _) (by unfold maxLen; simp) (by simp) (by decide) (by unfold maxLen; decide)) YR.out YG.out (fun p hp => ?_)
          rw [HN.out] at hp; cases hp; exact ⟨rfl, rfl⟩
        · have p1 : (((tg : Nat) : Int) == 1) = false := by simp; omega
          by_cases h2 : tg = 2
          · have HN := Lib.hid (show r = some (.mk 5 l false [] 0 ⟨#[]⟩ [], n) by rw [HR2.out, if_neg h0, if_neg h1, if_pos h2])
            subst h2
            clear h0 h1
            go_wp2_with (first | (go_at_call 101; refine (plain8_any x hx _).mono ?_; rintro e wq ⟨rfl, rfl⟩; rw [HPL.out]) | (go_at_call 39; refine (HLD.out _).mono ?_; rintro e wq ⟨rfl, rfl⟩) | (go_at_call 40; refine (HTG.out _).mono ?_; rintro e wq ⟨rfl, rfl⟩))
            refine bodyPost_ret (v := .tuple #[.agg #[.int .i64 5, .int .i64 l, .bool false, .slice none 0 0, .int .u64 0, .string ⟨#[]⟩, .slice none 0 0], .bool true]) (by simp [results, Tryz.results74, go_sem, y0, y1, y2, y3, y4, y5, y6]) rfl ?_
            refine ref_at' (by rw [HN.out]; rfl) (by omega) (by omega) (TmAt.leaf ⟨by decide, by decide⟩ HL64.out (MsP.nil _) (by unfold maxLen; simp) (by simp) (by decide) (by unfold maxLen; decide)) YR.out YG.out (fun p hp => ?_)
            rw [HN.out] at hp; cases hp; exact ⟨rfl, rfl⟩
          · have p2 : (((tg : Nat) : Int) == 2) = false := by simp; omega
            by_cases h3 : tg = 3
            · have HN := Lib.hid (show r = some (.mk 7 0 false [] 0 ⟨#[]⟩ [], n) by rw [HR2.out, if_neg h0, if_neg h1, if_neg h2, if_pos h3])
              subst h3
              clear h0 h1 h2
              go_wp2_with (first | (go_at_call 101; refine (plain8_any x hx _).mono ?_; rintro e wq ⟨rfl, rfl⟩; rw [HPL.out]) | (go_at_call 39; refine (HLD.out _).mono ?_; rintro e wq ⟨rfl, rfl⟩) | (go_at_call 40; refine (HTG.out _).mono ?_; rintro e wq ⟨rfl, rfl⟩))
              refine bodyPost_ret (v := .tuple #[.agg #[.int .i64 7, .int .i64 0, .bool false, .slice none 0 0, .int .u64 0, .string ⟨#[]⟩, .slice none 0 0], .bool true]) (by simp [results, Tryz.results74, go_sem, y0, y1, y2, y3, y4, y5, y6]) rfl ?_
              refine ref_at' (by rw [HN.out]; rfl) (by omega) (by omega) (TmAt.leaf ⟨by decide, by decide⟩ ⟨by decide, by decide⟩ (MsP.nil _) (by unfold maxLen; simp) (by simp) (by decide) (by unfold maxLen; decide)) YR.out YG.out (fun p hp => ?_)
              rw [HN.out] at hp; cases hp; exact ⟨rfl, rfl⟩
            · have p3 : (((tg : Nat) : Int) == 3) = false := by simp; omega
              have HB2 := HBW
              by_cases h5 : tg = 5
              · have HN := Lib.hid (show r = if (restP d.mem l).length < 2 then none else (seqP g n ((restP d.mem l).take 2)).map fun r => (.mk 8 0 false [] 0 ⟨#[]⟩ r.1, r.2) by rw [HR2.out, if_neg h0, if_neg h1, if_neg h2, if_neg h3, if_pos h5])
                subst h5
                clear h0 h1 h2 h3 p0 p1 p2 p3
                have x0 := cell_of Y0.out 0
                have x1 := cell_of Y0.out 1
                have x2 := cell_of Y0.out 2
                have x3 := cell_of Y0.out 3
                have x4 := cell_of Y0.out 4
                have x5 := cell_of Y0.out 5
                have x6 := cell_of Y0.out 6
                have x7 := cell_of Y0.out 7
                have x8 := cell_of Y0.out 8
                have x9 := cell_of Y0.out 9
                have x10 := cell_of Y0.out 10
                simp at x0 x1 x2 x3 x4 x5 x6 x7 x8 x9 x10
                go_wp2_with (first | (go_at_call 101; refine (plain8_any x hx _).mono ?_; rintro e wq ⟨rfl, rfl⟩; rw [HPL.out]) | (go_at_call 39; refine (HLD.out _).mono ?_; rintro e wq ⟨rfl, rfl⟩) | (go_at_call 40; refine (HTG.out _).mono ?_; rintro e wq ⟨rfl, rfl⟩))
                refine (at_any d S deep _ l _ (HLK.out.below HBW.out) hf HL64.out).mono ?_
                rintro e w3 ⟨⟨bv, rfl, hws⟩, hb3⟩
                have HWS := Lib.hid hws
                have HB3 := Lib.hid (HBW.out.trans (hb3.mono HBW.out.size))
                have Y03 := Lib.hid ((hb3.block _ (by have := YS.out; omega)).trans Y0.out)
                have Y13 := Lib.hid ((hb3.block _ (by have := YS.out; omega)).trans Y1.out)
                have YS3 := Lib.hid (Nat.le_trans YS.out hb3.size)
                have YR3 := Lib.hid (YR.out.below hb3)
                have YG3 := Lib.hid (grown_then YG.out (hb3.mono (by have := YS.out; omega)))
                clear hb3 hws Y0 Y1 YS YR YG r1 y0 y1 y2 y3 y4 y5 y6 z0 z1 z2 z3 z4 z5 z6 x0 x1 x2 x3 x4 x5 x6 x7 x8 x9 x10 HBW HB2
                obtain ⟨rl, hrl⟩ : ∃ rl, restP d.mem l = rl := ⟨_, rfl⟩
                rw [hrl] at HN HWS
                clear hrl
                have z0 := free_of Y13.out 0
                have y0 := cell_of Y13.out 0
                have z1 := free_of Y13.out 1
                have y1 := cell_of Y13.out 1
                have z2 := free_of Y13.out 2
                have y2 := cell_of Y13.out 2
                have z3 := free_of Y13.out 3
                have y3 := cell_of Y13.out 3
                have z4 := free_of Y13.out 4
                have y4 := cell_of Y13.out 4
                have z5 := free_of Y13.out 5
                have y5 := cell_of Y13.out 5
                have z6 := free_of Y13.out 6
                have y6 := cell_of Y13.out 6
                simp at y0 y1 y2 y3 y4 y5 y6
                obtain ⟨_, _, ra, rc, rfl, hrc, hrm, _⟩ := id HWS.out
                by_cases h2 : rl.length < 2
                · have HN := Lib.hid (show r = none by rw [HN.out, if_pos h2])
                  have q2 : (rl.length : Int) < 2 := by omega
                  go_wp2_with fail
                  exact bodyPost_ret (v := .tuple #[.agg #[.int .i64 0, .int .i64 0, .bool false, .slice none 0 0, .int .u64 0, .string ⟨#[]⟩, .slice none 0 0], .bool false]) (by simp [results, Tryz.results74, go_sem, y0, y1, y2, y3, y4, y5, y6]) rfl (ref_none HN.out (by omega) (by omega) YR3.out YG3.out)
                · have HN := Lib.hid (show r = (seqP g n (rl.take 2)).map fun r => (.mk 8 0 false [] 0 ⟨#[]⟩ r.1, r.2) by rw [HN.out, if_neg h2])
                  have q2 : ¬ (rl.length : Int) < 2 := by omega
                  obtain ⟨gw, ow, rc', hv, hrc2, hrm2, hml2⟩ := HWS.out.open (by omega)
                  simp only [Value.slice.injEq, true_and] at hv
                  obtain ⟨rfl, rfl⟩ := hv
                  have HCUT := Lib.hid (show Ws w3 (.slice (some ⟨gw, ow, none⟩) 2 rc) (rl.take 2) by
                    have := HWS.out.cut (k := 0) (n := 2) (by omega)
                    simpa using this)
                  have q3 : (2 : Int) ≤ (rc : Int) := by omega
                  have q4 : 2 ≤ rc := by omega
                  have x0 := cell_of Y03.out 0
                  have x1 := cell_of Y03.out 1
                  have x2 := cell_of Y03.out 2
                  have x3 := cell_of Y03.out 3
                  have x4 := cell_of Y03.out 4
                  have x5 := cell_of Y03.out 5
                  have x6 := cell_of Y03.out 6
                  have x7 := cell_of Y03.out 7
                  have x8 := cell_of Y03.out 8
                  have x9 := cell_of Y03.out 9
                  have x10 := cell_of Y03.out 10
                  simp at x0 x1 x2 x3 x4 x5 x6 x7 x8 x9 x10
                  have HALL := Lib.hid (show Calls Tryz.prog 102 #[.agg (lkV c0 c1 c2 c3 c4 c5 c6 c7 c8 c9 deep), .slice (some ⟨gw, ow, none⟩) 2 rc, .pointer (some ⟨R, 0, none⟩)] w3.drew fun e w' => AllEnd w3.drew w' R (seqP g n (rl.take 2)) e from
                    all12_any g n R c0 c1 c2 c3 c4 c5 c6 c7 c8 c9 deep _ n (rl.take 2) w0 w3.drew (fun left' x w hlt => HG.out left' x w (by omega)) HGL.out hR HB3.out.drew YR3.out (HCUT.out.below (Below.refl _ _).drew) (by rw [List.length_take]; omega) (Nat.le_refl _))
                  obtain ⟨rr, hrr⟩ : ∃ rr, seqP g n (rl.take 2) = rr := ⟨_, rfl⟩
                  rw [hrr] at HALL HN
                  clear hrr
                  have hRw : R < w3.heap.size := YR3.out.lt
                  go_upto_region 18 with fail
                  go_cut [10, 11] from 55 to 62 (fun av ok wx => AllCut w3 wx R rr av ok)
                  case first =>
                    go_region_held3 (fun w' => w'.cell? ⟨w.heap.size, 0, none⟩ = some c0 ∧ w'.cell? ⟨w.heap.size, 1, none⟩ = some c1 ∧ w'.cell? ⟨w.heap.size, 2, none⟩ = some c2 ∧ w'.cell? ⟨w.heap.size, 3, none⟩ = some c3 ∧ w'.cell? ⟨w.heap.size, 4, none⟩ = some c4 ∧ w'.cell? ⟨w.heap.size, 5, none⟩ = some c5 ∧ w'.cell? ⟨w.heap.size, 6, none⟩ = some c6 ∧ w'.cell? ⟨w.heap.size, 7, none⟩ = some c7 ∧ w'.cell? ⟨w.heap.size, 8, none⟩ = some c8 ∧ w'.cell? ⟨w.heap.size, 9, none⟩ = some c9 ∧ w'.cell? ⟨w.heap.size, 10, none⟩ = some (.bool deep)) (first | with_reducible exact ⟨d0, d1, d2, d3, d4, d5, d6, d7, d8, d9, d10⟩ | exact ⟨x0, x1, x2, x3, x4, x5, x6, x7, x8, x9, x10⟩ | go_keep) (first
                      | (go_at_call 102; (with_reducible refine HALL.out.mono ?_); rintro e w5 ⟨av, ts, lf, rfl, ⟨aa, an, ac, rfl⟩, ht, hlf, hgr, hp⟩
                         have Y05 := Lib.hid ((hgr.block w.heap.size (by have := YS3.out; simp; omega) (by simp; omega)).trans Y03.out)
                         have d0 := cell_of Y05.out 0
                         have d1 := cell_of Y05.out 1
                         have d2 := cell_of Y05.out 2
                         have d3 := cell_of Y05.out 3
                         have d4 := cell_of Y05.out 4
                         have d5 := cell_of Y05.out 5
                         have d6 := cell_of Y05.out 6
                         have d7 := cell_of Y05.out 7
                         have d8 := cell_of Y05.out 8
                         have d9 := cell_of Y05.out 9
                         have d10 := cell_of Y05.out 10
                         have F9 := Lib.hid (show AllCut w3 w5 R rr (.slice aa an ac) (.bool rr.isSome) from ⟨ts, lf, rfl, ⟨_, _, _, rfl⟩, ht, hlf, grown_trans grown_drew hgr, hp⟩)
                         clear ht hlf hgr hp))
                    all_goals go_wp2_with fail
                    all_goals go_meet
                    all_goals exact F9.out
                  case rest =>
                    obtain ⟨ts, lf, rfl, ⟨aa, an, ac, rfl⟩, ht, hlf, hgr, hp⟩ := hcut
                    have G1 := Lib.hid ((hgr.block (w.heap.size + 1) (by have := YS3.out; omega) (by simp; omega)).trans Y13.out)
                    have GG := Lib.hid (grown_trans YG3.out hgr)
                    have GT := Lib.hid (ht 8 ⟨by decide, by decide⟩)
                    have GR := Lib.hid hlf
                    have HP := Lib.hid hp
                    clear ht hlf hgr hp x0 x1 x2 x3 x4 x5 x6 x7 x8 x9 x10 y0 y1 y2 y3 y4 y5 y6 z0 z1 z2 z3 z4 z5 z6
                    have z0 := free_of G1.out 0
                    have y0 := cell_of G1.out 0
                    have z1 := free_of G1.out 1
                    have y1 := cell_of G1.out 1
                    have z2 := free_of G1.out 2
                    have y2 := cell_of G1.out 2
                    have z3 := free_of G1.out 3
                    have y3 := cell_of G1.out 3
                    have z4 := free_of G1.out 4
                    have y4 := cell_of G1.out 4
                    have z5 := free_of G1.out 5
                    have y5 := cell_of G1.out 5
                    have z6 := free_of G1.out 6
                    have y6 := cell_of G1.out 6
                    simp at y0 y1 y2 y3 y4 y5 y6
                    obtain ⟨ok, hok⟩ : ∃ ok, rr.isSome = ok := ⟨_, rfl⟩
                    have HOK := Lib.hid (show ok = r.isSome by rw [HN.out, ← hok]; simp)
                    rw [hok]
                    clear hok
                    go_wp2_with fail
                    refine bodyPost_ret (v := .tuple #[.agg #[.int .i64 8, .int .i64 0, .bool false, .slice none 0 0, .int .u64 0, .string ⟨#[]⟩, .slice aa an ac], .bool ok]) (by simp [results, Tryz.results74, go_sem, y0, y1, y2, y3, y4, y5, y6]) rfl ?_
                    refine ref_at' HOK.out (by omega) (by omega) (GT.out.mono (fun b hb _ => by have := YS3.out; omega)) GR.out GG.out (fun p hp => ?_)
                    rw [HN.out] at hp
                    cases rr with
                    | none => cases hp
                    | some q =>
                      cases hp
                      have := HP.out q rfl
                      exact ⟨by dsimp only; rw [this.1], this.2⟩
              · have HN := Lib.hid (show r = boxT g deep S d.mem n x by rw [HR2.out, if_neg h0, if_neg h1, if_neg h2, if_neg h3, if_neg h5])
                have p5 : (((tg : Nat) : Int) == 5) = false := by simp; omega
                clear h0 h1 h2 h3 h5
                have x0 := cell_of Y0.out 0
                have x1 := cell_of Y0.out 1
                have x2 := cell_of Y0.out 2
                have x3 := cell_of Y0.out 3
                have x4 := cell_of Y0.out 4
                have x5 := cell_of Y0.out 5
                have x6 := cell_of Y0.out 6
                have x7 := cell_of Y0.out 7
                have x8 := cell_of Y0.out 8
                have x9 := cell_of Y0.out 9
                have x10 := cell_of Y0.out 10
                simp at x0 x1 x2 x3 x4 x5 x6 x7 x8 x9 x10
                go_wp2_with (first | (go_at_call 101; refine (plain8_any x hx _).mono ?_; rintro e wq ⟨rfl, rfl⟩; rw [HPL.out]) | (go_at_call 39; refine (HLD.out _).mono ?_; rintro e wq ⟨rfl, rfl⟩) | (go_at_call 40; refine (HTG.out _).mono ?_; rintro e wq ⟨rfl, rfl⟩))
                refine (boxed12_any g n R d S c0 c1 c2 c3 c4 c5 c6 c7 c8 c9 deep n x w0 _ (fun left' x w hlt => HG.out left' x w (by omega)) HGL.out hR HLK.out hf HBW.out YR.out hx (Nat.le_refl _)).mono ?_
                rintro e w5 ⟨tv, t, lf, rfl, ht, hlf, hgr, hp⟩
                obtain ⟨tk, tn, tneg, tma, tml, tmc, tbits, tbytes, ta, tlen, tcap, rfl⟩ := ht.shape
                have G1 := Lib.hid ((hgr.block (w.heap.size + 1) (by have := YS.out; omega) (by simp; omega)).trans Y1.out)
                have GG := Lib.hid (grown_trans YG.out hgr)
                have GT := Lib.hid ht
                have GR := Lib.hid hlf
                have HP := Lib.hid hp
                clear ht hlf hgr hp x0 x1 x2 x3 x4 x5 x6 x7 x8 x9 x10 y0 y1 y2 y3 y4 y5 y6 z0 z1 z2 z3 z4 z5 z6 r1
                have z0 := free_of G1.out 0
                have y0 := cell_of G1.out 0
                have z1 := free_of G1.out 1
                have y1 := cell_of G1.out 1
                have z2 := free_of G1.out 2
                have y2 := cell_of G1.out 2
                have z3 := free_of G1.out 3
                have y3 := cell_of G1.out 3
                have z4 := free_of G1.out 4
                have y4 := cell_of G1.out 4
                have z5 := free_of G1.out 5
                have y5 := cell_of G1.out 5
                have z6 := free_of G1.out 6
                have y6 := cell_of G1.out 6
                simp at y0 y1 y2 y3 y4 y5 y6
                obtain ⟨ok, hok⟩ : ∃ ok, (boxT g deep S d.mem n x).isSome = ok := ⟨_, rfl⟩
                have HOK := Lib.hid (show ok = r.isSome by rw [HN.out, ← hok])
                rw [hok]
                clear hok
                go_wp2_with fail
                refine bodyPost_ret (v := .tuple #[.agg #[.int .i64 tk, .int .i64 tn, .bool tneg, .slice tma tml tmc, .int .u64 tbits, .string tbytes, .slice ta tlen tcap], .bool ok]) (by simp [results, Tryz.results74, go_sem, y0, y1, y2, y3, y4, y5, y6]) rfl ?_
                refine ref_at' HOK.out (by omega) (by omega) (GT.out.mono (fun b hb _ => by have := YS.out; omega)) GR.out GG.out (fun p hp => ?_)
                rw [HN.out] at hp
                exact HP.out p hp

end Go.Proofs.YtlmpmjhanpkcnaaGreat

namespace Go.Proofs.YtlmpmjhanpkcnaaGreat
open Go.RowKit

theorem read12_any (R : Nat) (d : Dmp) (S : List Slt) (c0 c1 c2 c3 c4 c5 c6 c7 c8 c9 : Value) (deep : Bool) (w0 : World) (hR : w0.heap.size ≤ R) (hlk : LkAt w0 (.agg (lkV c0 c1 c2 c3 c4 c5 c6 c7 c8 c9 deep)) d S deep) (hf : d.frags.length ≤ 100000) :
    ∀ (f left x : Nat) (w : World), left ≤ f → f ≤ 10000 → x < 18446744073709551616 → LfAt w R left → Below w0.heap.size w0 w →
    Calls Tryz.prog 74 #[.agg (lkV c0 c1 c2 c3 c4 c5 c6 c7 c8 c9 deep), .int .u64 x, .pointer (some ⟨R, 0, none⟩)] w fun e w' => RefEnd w w' R (refT deep S d.mem (f + 1) left x) e
  | 0, left, x, w, hlf, hf0, hx, h, hb => by
    rw [refT_step]
    exact read12_step _ R d S c0 c1 c2 c3 c4 c5 c6 c7 c8 c9 deep left x w0 w (fun left' x w hlt => absurd hlt (by omega)) (refT_le deep S d.mem 0) hR hlk hf hb h hx (by omega)
  | f + 1, left, x, w, hlf, hf0, hx, h, hb => by
    rw [refT_step]
    exact read12_step _ R d S c0 c1 c2 c3 c4 c5 c6 c7 c8 c9 deep left x w0 w (fun left' x w hlt hx h hb => read12_any R d S c0 c1 c2 c3 c4 c5 c6 c7 c8 c9 deep w0 hR hlk hf f left' x w (by omega) (by omega) hx h hb) (refT_le deep S d.mem (f + 1)) hR hlk hf hb h hx (by omega)

theorem small_leaf {k n : Int} {neg : Bool} {mag : List Nat} {bits : Nat} {bytes : ByteArray} (h1 : mag.length ≤ 40) (h2 : bytes.size ≤ 1000) : (Tm.mk k n neg mag bits bytes []).small = true := by
  unfold Tm.small smalls; simp [h1, h2]

theorem small_args {k n : Int} {args : List Tm} (h : smalls args = true) : (Tm.mk k n false [] 0 ⟨#[]⟩ args).small = true := by
  have h2 : (⟨#[]⟩ : ByteArray).size ≤ 1000 := by decide
  unfold Tm.small; simp [h, h2]

theorem seqP_small {g : Nat → Nat → Option (Tm × Nat)} (hg : ∀ left x p, g left x = some p → p.1.small = true) : ∀ (xs : List Nat) (left : Nat) (p : List Tm × Nat), seqP g left xs = some p → smalls p.1 = true
  | [], left, p, h => by cases h; rfl
  | x :: r, left, p, h => by
    simp only [seqP] at h
    cases h1 : g left x with
    | none => rw [h1] at h; cases h
    | some a =>
      rw [h1] at h
      simp only [Option.bind_some] at h
      cases h2 : seqP g a.2 r with
      | none => rw [h2] at h; cases h
      | some b =>
        rw [h2] at h
        cases h
        simp only [smalls, Bool.and_eq_true]
        exact ⟨hg _ _ _ h1, seqP_small hg r _ _ h2⟩

theorem bytes12_small {deep : Bool} {S : List Slt} {k : Int} {t : List Nat} {p : ByteArray × Nat} (h : bytes12 deep S k t = some p) : p.1.size ≤ 400 := by
  unfold bytes12 at h
  split at h
  · split at h
    · cases h
    · cases hp : packedP (t.drop 1) (t.getD 0 0) with
      | none => rw [hp] at h; cases h
      | some b =>
        rw [hp] at h
        cases h
        have := packedP_len hp
        simp [ByteArray.size]
        omega
  · split at h
    · split at h
      · cases h
      · split at h
        · cases h; exact (by decide : (⟨#[]⟩ : ByteArray).size ≤ 400)
        · cases hs : S[t.getD 0 0]? with
          | none => rw [hs] at h; cases h
          | some x =>
            rw [hs] at h
            simp only at h
            split at h
            · rename_i q1 q2 q3; cases h; simp only; omega
            · cases h
    · cases h

theorem sub12_small {deep : Bool} {S : List Slt} {m : List Frg} {t : List Nat} {s : ByteArray} (h : sub12 deep S m t = some s) : s.size ≤ 400 := by
  unfold sub12 at h
  split at h
  · cases h
  · cases hb : boxP m (t.getD 0 0) with
    | none => rw [hb] at h; cases h
    | some o =>
      rw [hb] at h
      simp only [Option.bind_some] at h
      split at h
      · cases h
      · cases hq : bytes12 deep S o.1 o.2 with
        | none => rw [hq] at h; cases h
        | some p =>
          rw [hq] at h
          simp only [Option.bind_some] at h
          have := bytes12_small hq
          split at h
          · cases h
          · split at h
            · cases h; decide
            · cases h
              rw [ByteArray.size_extract]
              omega

theorem big12_small {ws : List Nat} {t : Tm} (h : big12 ws = some t) : t.small = true := by
  unfold big12 at h
  split at h
  · cases h
  · rename_i q
    split at h
    · cases h
      unfold bigTm
      refine small_leaf ?_ (by decide)
      have := trimP_length (limbsP (ws.drop 1))
      rw [limbsP_length, List.length_drop] at this
      omega
    · cases h

theorem refT_small (deep : Bool) (S : List Slt) (m : List Frg) : ∀ (f left w : Nat) (p : Tm × Nat), refT deep S m f left w = some p → p.1.small = true
  | 0, _, _, _, h => by cases h
  | f + 1, left, w, p, h => by
    have ih := refT_small deep S m f
    rw [refT_step] at h
    unfold readT at h
    have e0 : (⟨#[]⟩ : ByteArray).size ≤ 1000 := by decide
    split at h
    · cases h
    · repeat' split at h
      all_goals first
        | (cases h; exact small_leaf (by simp) e0)
        | skip
      · cases h
      · cases hs : seqP (refT deep S m f) (left - 1) ((restP m (loadW w)).take 2) with
        | none => rw [hs] at h; cases h
        | some q => rw [hs] at h; cases h; exact small_args (seqP_small ih _ _ _ hs)
      · unfold boxT at h
        cases hb : boxP m w with
        | none => rw [hb] at h; cases h
        | some o =>
          rw [hb] at h
          simp only [Option.bind_some] at h
          split at h
          · split at h
            · cases h
            · cases hs : seqP (refT deep S m f) (left - 1) o.2 with
              | none => rw [hs] at h; cases h
              | some q => rw [hs] at h; cases h; exact small_args (seqP_small ih _ _ _ hs)
          · split at h
            · cases hs : big12 o.2 with
              | none => rw [hs] at h; cases h
              | some q => rw [hs] at h; cases h; exact big12_small hs
            · split at h
              · split at h
                · cases h
                · split at h
                  · cases h; exact small_leaf (by simp) e0
                  · cases h
              · split at h
                · cases hs : sub12 deep S m o.2 with
                  | none => rw [hs] at h; cases h
                  | some q => rw [hs] at h; cases h; exact small_leaf (by simp) (by have := sub12_small hs; omega)
                · cases hs : bytes12 deep S o.1 o.2 with
                  | none => rw [hs] at h; cases h
                  | some q => rw [hs] at h; cases h; exact small_leaf (by simp) (by have := bytes12_small hs; omega)

/-- A word's term by chapter 12's own look. -/
def refRead (deep : Bool) (S : List Slt) (m : List Frg) (x : Nat) : Option Tm :=
  (refT deep S m 301 300 x).bind fun p => if p.1.may = true then some p.1 else none

end Go.Proofs.YtlmpmjhanpkcnaaGreat

namespace Go.Proofs.YtlmpmjhanpkcnaaGreat
open Go.RowKit

set_option maxHeartbeats 16000000 in
set_option maxRecDepth 100000 in
theorem lookRead12_any (d : Dmp) (S : List Slt) (deep : Bool) (v : Value) (x : Nat) (w : World) (h : LkAt w v d S deep) (hf : d.frags.length ≤ 100000) (hx : x < 18446744073709551616) :
    Calls Tryz.prog 51 #[v, .int .u64 x] w fun e w' => ReadEnd w w' (refRead deep S d.mem x) e := by
  have HLK := Lib.hid h
  obtain ⟨c0, c1, c2, c3, c6, c7, c8, c9, rfl, hd, hs⟩ := h
  clear hd hs
  obtain ⟨r, hr⟩ : ∃ r, refRead deep S d.mem x = r := ⟨_, rfl⟩
  have HR := Lib.hid hr
  rw [hr]
  clear hr
  go_enter Tryz.func51, Tryz.ntmps51
  go_upto_region 2 with fail
  have T := two_at w (.cells #[c0, c1, c2, c3, .int .i64 d.size, .int .i64 d.mark, c6, c7, c8, c9, .bool deep] 53) (.cells #[.int .i64 0, .int .i64 0, .bool false, .slice none 0 0, .int .u64 0, .string ⟨#[]⟩, .slice none 0 0] 81)
  generalize (w.alloc (.cells #[c0, c1, c2, c3, .int .i64 d.size, .int .i64 d.mark, c6, c7, c8, c9, .bool deep] 53)).alloc (.cells #[.int .i64 0, .int .i64 0, .bool false, .slice none 0 0, .int .u64 0, .string ⟨#[]⟩, .slice none 0 0] 81) = wa at *
  have hws : wa.heap.size = w.heap.size + 2 := by have := T.2.2.1; omega
  have Y0 := Lib.hid ((Below.heap_alloc wa (.cells #[.int .i64 300] 3) w.heap.size (by omega)).trans T.1)
  have Y1 := Lib.hid ((Below.heap_alloc wa (.cells #[.int .i64 300] 3) (w.heap.size + 1) (by omega)).trans T.2.1)
  have Y2 := Lib.hid (show LfAt (wa.alloc (.cells #[.int .i64 300] 3)) (w.heap.size + 2) ((300 : Nat) : Int) by unfold LfAt; rw [← hws]; exact World.alloc_heap_new wa _)
  have YS := Lib.hid (show (wa.alloc (.cells #[.int .i64 300] 3)).heap.size = w.heap.size + 3 by simp; omega)
  have YB := Lib.hid (T.2.2.2.alloc (by omega) (.cells #[.int .i64 300] 3))
  clear T
  generalize wa.alloc (.cells #[.int .i64 300] 3) = wb at *
  have x0 := cell_of Y0.out 0
  have x1 := cell_of Y0.out 1
  have x2 := cell_of Y0.out 2
  have x3 := cell_of Y0.out 3
  have x4 := cell_of Y0.out 4
  have x5 := cell_of Y0.out 5
  have x6 := cell_of Y0.out 6
  have x7 := cell_of Y0.out 7
  have x8 := cell_of Y0.out 8
  have x9 := cell_of Y0.out 9
  have x10 := cell_of Y0.out 10
  simp at x0 x1 x2 x3 x4 x5 x6 x7 x8 x9 x10
  go_wp2_with fail
  refine (read12_any (w.heap.size + 2) d S c0 c1 c2 c3 _ _ c6 c7 c8 c9 deep w (by omega) HLK.out hf 300 300 x wb (by omega) (by omega) hx Y2.out YB.out).mono ?_
  rintro e w3 ⟨tv, t, lf, rfl, ht, hlf, hgr, hp⟩
  obtain ⟨tk, tn, tneg, tma, tml, tmc, tbits, tbytes, ta, tlen, tcap, rfl⟩ := ht.shape
  have G1 := Lib.hid ((hgr.block (w.heap.size + 1) (by have := YS.out; omega) (by simp)).trans Y1.out)
  have GB := Lib.hid (YB.out.trans (grown_low hgr (by omega) YB.out.size))
  have GS := Lib.hid (show w.heap.size + 3 ≤ w3.heap.size by have := hgr.size; have := YS.out; omega)
  have GT := Lib.hid (ht.mono (Q := fun k => w.heap.size + 1 < k) (fun b hb _ => by have := YS.out; omega))
  have HP := Lib.hid hp
  clear ht hlf hgr hp x0 x1 x2 x3 x4 x5 x6 x7 x8 x9 x10
  obtain ⟨q, hq⟩ : ∃ q, refT deep S d.mem 301 300 x = q := ⟨_, rfl⟩
  rw [show (300 : Nat) + 1 = 301 from rfl, hq] at HP
  rw [show (300 : Nat) + 1 = 301 from rfl, hq]
  have HQ := Lib.hid hq
  -- the variable behind the call
  obtain ⟨o7, ho7⟩ : ∃ o7 : Obj, Obj.cells #[.int .i64 tk, .int .i64 tn, .bool tneg, .slice tma tml tmc, .int .u64 tbits, .string tbytes, .slice ta tlen tcap] 81 = o7 := ⟨_, rfl⟩
  have V7 := Lib.hid (show (w3.alloc o7).heap[w3.heap.size]? = some (.cells #[.int .i64 tk, .int .i64 tn, .bool tneg, .slice tma tml tmc, .int .u64 tbits, .string tbytes, .slice ta tlen tcap] 81 (0, 0)) by rw [← ho7]; exact World.alloc_heap_new w3 _)
  have V1 := Lib.hid ((Below.heap_alloc w3 o7 (w.heap.size + 1) (by have := GS.out; omega)).trans G1.out)
  have VB := Lib.hid (GB.out.alloc GB.out.size o7)
  have VS := Lib.hid (show w.heap.size + 3 ≤ (w3.alloc o7).heap.size by have := GS.out; simp; omega)
  have VT := Lib.hid (GT.out.lift (w' := w3.alloc o7) (fun b _ hk => Below.heap_alloc _ _ _ hk))
  have HO7 := Lib.hid ho7
  clear hq ho7
  obtain ⟨ok, hok⟩ : ∃ ok, q.isSome = ok := ⟨_, rfl⟩
  have HOK := Lib.hid hok
  rw [hok]
  clear hok
  go_upto_region 3 with fail
  rw [HO7.out]
  generalize w3.alloc o7 = w4 at *
  cases q with
  | none =>
    have HN := Lib.hid (show r = none by rw [← HR.out]; unfold refRead; rw [HQ.out]; rfl)
    obtain rfl : ok = false := HOK.out.symm
    have z0 := free_of V1.out 0
    have y0 := cell_of V1.out 0
    have z1 := free_of V1.out 1
    have y1 := cell_of V1.out 1
    have z2 := free_of V1.out 2
    have y2 := cell_of V1.out 2
    have z3 := free_of V1.out 3
    have y3 := cell_of V1.out 3
    have z4 := free_of V1.out 4
    have y4 := cell_of V1.out 4
    have z5 := free_of V1.out 5
    have y5 := cell_of V1.out 5
    have z6 := free_of V1.out 6
    have y6 := cell_of V1.out 6
    simp at y0 y1 y2 y3 y4 y5 y6
    go_wp2_with fail
    refine bodyPost_ret (v := .tuple #[.agg #[.int .i64 0, .int .i64 0, .bool false, .slice none 0 0, .int .u64 0, .string ⟨#[]⟩, .slice none 0 0], .bool false]) (by simp [results, Tryz.results51, go_sem, y0, y1, y2, y3, y4, y5, y6]) rfl ?_
    have A := read_at (b := w.heap.size + 1) (r := r) (by omega) (TmAt.zero _) VB.out (fun p hp => by rw [HN.out] at hp; cases hp)
    rw [HN.out] at A ⊢
    exact A
  | some q =>
    obtain ⟨t', lf'⟩ := q
    obtain ⟨rfl, -⟩ := HP.out _ rfl
    obtain rfl : ok = true := HOK.out.symm
    have HN := Lib.hid (show r = if t'.may = true then some t' else none by rw [← HR.out]; unfold refRead; rw [HQ.out]; rfl)
    have HSM := Lib.hid (show t'.small = true from refT_small _ _ _ _ _ _ _ HQ.out)
    have e0 := cell_of V7.out 0
    have e1 := cell_of V7.out 1
    have e2 := cell_of V7.out 2
    have e3 := cell_of V7.out 3
    have e4 := cell_of V7.out 4
    have e5 := cell_of V7.out 5
    have e6 := cell_of V7.out 6
    simp at e0 e1 e2 e3 e4 e5 e6
    have HMAY := Lib.hid (show ∀ W : World, Below w4.heap.size w4 W → Calls Tryz.prog 75 #[.agg #[.int .i64 tk, .int .i64 tn, .bool tneg, .slice tma tml tmc, .int .u64 tbits, .string tbytes, .slice ta tlen tcap]] W fun e w' => e = .returned (.bool t'.may) ∧ Below W.heap.size W w' from
      fun W hW => refMay_any t' _ W (VT.out.lower hW).sc HSM.out)
    obtain ⟨mb, hmb⟩ : ∃ mb, t'.may = mb := ⟨_, rfl⟩
    rw [hmb] at HN HMAY
    clear hmb
    go_wp2_with (go_at_call 75; refine (HMAY.out _ (Below.refl _ _)).mono ?_; rintro e w5 ⟨rfl, hb5⟩
                 have U1 := Lib.hid ((hb5.block _ (by have := VS.out; omega)).trans V1.out)
                 have U7 := Lib.hid ((hb5.block _ (lt_of_block V7.out)).trans V7.out)
                 have UT := Lib.hid (VT.out.lower hb5)
                 have UB := Lib.hid (VB.out.trans (hb5.mono VB.out.size))
                 clear hb5 e0 e1 e2 e3 e4 e5 e6
                 have z0 := free_of U1.out 0
                 have y0 := cell_of U1.out 0
                 have z1 := free_of U1.out 1
                 have y1 := cell_of U1.out 1
                 have z2 := free_of U1.out 2
                 have y2 := cell_of U1.out 2
                 have z3 := free_of U1.out 3
                 have y3 := cell_of U1.out 3
                 have z4 := free_of U1.out 4
                 have y4 := cell_of U1.out 4
                 have z5 := free_of U1.out 5
                 have y5 := cell_of U1.out 5
                 have z6 := free_of U1.out 6
                 have y6 := cell_of U1.out 6
                 simp at y0 y1 y2 y3 y4 y5 y6
                 have e0 := cell_of U7.out 0
                 have e1 := cell_of U7.out 1
                 have e2 := cell_of U7.out 2
                 have e3 := cell_of U7.out 3
                 have e4 := cell_of U7.out 4
                 have e5 := cell_of U7.out 5
                 have e6 := cell_of U7.out 6
                 simp at e0 e1 e2 e3 e4 e5 e6
                 cases mb)
    · have HN2 := Lib.hid (show r = none by rw [HN.out]; rfl)
      refine bodyPost_ret (v := .tuple #[.agg #[.int .i64 0, .int .i64 0, .bool false, .slice none 0 0, .int .u64 0, .string ⟨#[]⟩, .slice none 0 0], .bool false]) (by simp [results, Tryz.results51, go_sem, y0, y1, y2, y3, y4, y5, y6]) rfl ?_
      have A := read_at (b := w.heap.size + 1) (r := r) (by omega) (TmAt.zero _) UB.out (fun p hp => by rw [HN2.out] at hp; cases hp)
      rw [HN2.out] at A ⊢
      exact A
    · have HN2 := Lib.hid (show r = some t' by rw [HN.out]; rfl)
      refine bodyPost_ret (v := .tuple #[.agg #[.int .i64 tk, .int .i64 tn, .bool tneg, .slice tma tml tmc, .int .u64 tbits, .string tbytes, .slice ta tlen tcap], .bool true]) (by simp [results, Tryz.results51, go_sem, y0, y1, y2, y3, y4, y5, y6]) rfl ?_
      have A := read_at (b := w.heap.size + 1) (r := r) (by omega) UT.out UB.out (fun p hp => by rw [HN2.out] at hp; cases hp; rfl)
      rw [HN2.out] at A ⊢
      exact A

end Go.Proofs.YtlmpmjhanpkcnaaGreat
