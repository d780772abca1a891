/-
  A dump whose one region stands elsewhere: what it stands for, in plain words.
-/
import Derived.Test.YtohgkfnbjfhniaaYa
namespace Go.Proofs.Ytohgkfnbjfhniaa
open Go.RowKit

/-- A pointer, so much further. -/
def mvW (b x : Nat) : Nat := if (tagW x = 4 ∨ tagW x = 5) ∧ loadW x ≤ 1125899906842624 then x + b * 8 else x

theorem mv_tag (b x : Nat) : tagW (mvW b x) = tagW x := by
  unfold mvW tagW
  split <;> omega

theorem mv_same {b x : Nat} (h : ¬ (tagW x = 4 ∨ tagW x = 5)) : mvW b x = x := by
  unfold mvW; rw [if_neg (fun q => h q.1)]

theorem mv_far {b x : Nat} (h : 1125899906842624 < loadW x) : mvW b x = x := by
  unfold mvW; rw [if_neg (fun q => by omega)]

theorem mv_load {b x : Nat} (ht : tagW x = 4 ∨ tagW x = 5) (h : loadW x ≤ 1125899906842624) : loadW (mvW b x) = loadW x + b := by
  unfold mvW
  rw [if_pos ⟨ht, h⟩]
  unfold tagW at ht
  unfold loadW
  rw [if_neg (by omega), if_neg (by omega)]
  omega

theorem mv_lt {b x : Nat} (hb : b ≤ 1000) (hx : x < 18446744073709551616) : mvW b x < 18446744073709551616 := by
  unfold mvW
  split
  · rename_i h
    have ht := h.1
    have hl := h.2
    unfold tagW at ht
    unfold loadW at hl
    rw [if_neg (by omega)] at hl
    omega
  · exact hx

theorem mv_plain {b x : Nat} (hb : b ≤ 1000) : plainP (mvW b x) = plainP x := by
  by_cases ht : tagW x = 4 ∨ tagW x = 5
  · by_cases hl : loadW x ≤ 1125899906842624
    · unfold plainP
      rw [mv_tag, mv_load ht hl]
      have h0 : 0 ≤ loadW x := by
        unfold tagW at ht
        unfold loadW
        rw [if_neg (by omega)]
        omega
      have e : ∀ z : Int, 0 ≤ z → z ≤ 1125899906843624 → fitsP ((tagW x : Nat) : Int) z = true := by
        intro z hz hz2
        unfold fitsP loW hiW
        rcases ht with ht | ht <;> (rw [ht]; simp; omega)
      rw [e _ (by omega) (by omega), e _ h0 (by omega)]
    · rw [mv_far (by omega)]
  · rw [mv_same ht]

theorem mv_all {b : Nat} (hb : b ≤ 1000) (l : List Nat) : allP (l.map (mvW b)) = allP l := by
  unfold allP
  rw [List.all_map]
  congr 1
  funext x
  exact mv_plain hb

theorem mv_head (b x : Nat) : headP (mvW b x) = headP x := by
  by_cases h : tagW x = 4 ∨ tagW x = 5
  · unfold headP
    rw [if_neg (by rw [mv_tag]; omega), if_neg (by omega)]
  · rw [mv_same h]

/-- One region, and an old one of no words. -/
structure OneD (d : Dmp) : Prop where
  old : d.old.2 = []
  frags : d.frags = []
  handles : d.handles = []
  low : 0 ≤ d.young.1
  high : d.young.1 ≤ 1099511627776
  len : d.young.2.length ≤ 60
  heads : ∀ x ∈ d.young.2, ∀ k, headP x = some k → k.1 = 0

def movD (b : Nat) (d : Dmp) : Dmp := { d with young := (d.young.1 + b, d.young.2.map (mvW b)), roots := d.roots.map (mvW b) }

section
variable {d : Dmp} {b : Nat}

theorem one_words (h : d.old.2 = []) (hf : d.frags = []) (a n : Int) : wordsP d.mem a n = if inP d.young.1 d.young.2.length a = true then cutP d.young a n else none := by
  have hm : d.mem = [d.young, d.old] := by unfold Dmp.mem; rw [hf]
  rw [hm]
  unfold wordsP
  split
  · rfl
  · unfold wordsP
    rw [if_neg (by rw [h]; unfold inP; simp)]
    rfl

theorem cut_mv (f : Frg) (b : Nat) (a n : Int) : cutP (f.1 + b, f.2.map (mvW b)) (a + b) n = (cutP f a n).map (List.map (mvW b)) := by
  unfold cutP
  simp only [List.length_map]
  rw [show a + (b : Int) - (f.1 + b) = a - f.1 by omega]
  split
  · simp [List.map_take, List.map_drop]
  · rfl

theorem words_mv (h : OneD d) (a n : Int) : wordsP (movD b d).mem (a + b) n = (wordsP d.mem a n).map (List.map (mvW b)) := by
  rw [one_words (d := movD b d) h.old h.frags, one_words h.old h.frags]
  have e : inP (movD b d).young.1 (movD b d).young.2.length (a + b) = inP d.young.1 d.young.2.length a := by
    have := h.low
    unfold inP movD
    simp only [List.length_map]
    congr 1
    · congr 1
      · rw [decide_eq_decide]; omega
      · rw [decide_eq_decide]; omega
    · rw [decide_eq_decide]; omega
  rw [e]
  split
  · exact cut_mv d.young b a n
  · rfl

theorem cut_mem {f : Frg} {a n : Int} {l : List Nat} (h : cutP f a n = some l) : ∀ x ∈ l, x ∈ f.2 := by
  unfold cutP at h
  split at h
  · cases h; exact fun x hx => List.mem_of_mem_drop (List.mem_of_mem_take hx)
  · cases h

theorem words_mem (h : OneD d) {a n : Int} {l : List Nat} (hw : wordsP d.mem a n = some l) : ∀ x ∈ l, x ∈ d.young.2 := by
  rw [one_words h.old h.frags] at hw
  split at hw
  · exact cut_mem hw
  · cases hw

theorem words_one {m : List Frg} {a : Int} : ∀ {l : List Nat}, wordsP m a 1 = some l → l.length = 1 := by
  induction m with
  | nil => intro l h; cases h
  | cons f r ih =>
    intro l h
    unfold wordsP at h
    split at h
    · rename_i hin
      unfold cutP at h
      split at h
      · rename_i hn
        cases h
        unfold inP at hin
        simp only [Bool.and_eq_true, decide_eq_true_eq] at hin
        rw [List.length_take, List.length_drop]
        omega
      · cases h
    · exact ih h

theorem head_kind (h : OneD d) {a : Int} {o : Int × List Nat} (ho : headAt d.mem a = some o) : o.1 = 0 := by
  unfold headAt at ho
  obtain ⟨l, h1, h2⟩ := Option.bind_eq_some_iff.1 ho
  obtain ⟨k, h3, h4⟩ := Option.bind_eq_some_iff.1 h2
  obtain ⟨l2, h5, h6⟩ := Option.map_eq_some_iff.1 h4
  cases h6
  have hl := words_one h1
  have hx : l.getD 0 0 ∈ l := by
    match l, hl with
    | [x], _ => simp
  exact h.heads _ (words_mem h h1 _ hx) _ h3

theorem headAt_mv (h : OneD d) (a : Int) : headAt (movD b d).mem (a + b) = (headAt d.mem a).map fun o => (o.1, o.2.map (mvW b)) := by
  unfold headAt
  rw [words_mv h]
  cases h1 : wordsP d.mem a 1 with
  | none => rfl
  | some l =>
    have hl := words_one h1
    match l, hl with
    | [x], _ =>
      simp only [Option.map_some, Option.bind_some, List.map_cons, List.getD_cons_zero, mv_head]
      cases headP x with
      | none => rfl
      | some k =>
        simp only [Option.bind_some, words_mv h]
        cases wordsP d.mem a (k.2 + 1) <;> rfl

theorem obj_mv (h : OneD d) (hb : b ≤ 1000) (a t : Int) : objP (movD b d).mem (a + b) t = (objP d.mem a t).map fun o => (o.1, o.2.map (mvW b)) := by
  unfold objP
  split
  · rw [words_mv h]
    cases wordsP d.mem a 2 with
    | none => rfl
    | some l =>
      simp only [Option.map_some, Option.bind_some, mv_all hb]
      split <;> rfl
  · rw [headAt_mv h]
    cases hh : headAt d.mem a with
    | none => rfl
    | some o =>
      have hk := head_kind h hh
      obtain ⟨k, l⟩ := o
      simp only at hk
      subst hk
      simp only [Option.map_some, Option.bind_some]
      have e : rightP (movD b d).mem 0 (l.map (mvW b)) = rightP d.mem 0 l := by
        unfold rightP rightFlat
        simp only [List.length_map, ← List.map_drop, mv_all hb]
        rfl
      rw [e]
      split <;> rfl

theorem obj_kind (h : OneD d) {a t : Int} {o : Int × List Nat} (ho : objP d.mem a t = some o) : o.1 = 0 ∨ o.1 = -1 := by
  unfold objP at ho
  split at ho
  · obtain ⟨l, _, h2⟩ := Option.bind_eq_some_iff.1 ho
    split at h2
    · cases h2; exact Or.inr rfl
    · cases h2
  · obtain ⟨o', h1, h2⟩ := Option.bind_eq_some_iff.1 ho
    split at h2
    · cases h2; exact Or.inl (head_kind h h1)
    · cases h2

theorem obj_far (h : OneD d) {a t : Int} (ha : 1125899906840000 < a) : objP d.mem a t = none := by
  have hw : ∀ n, wordsP d.mem a n = none := by
    intro n
    rw [one_words h.old h.frags, if_neg]
    have := h.high
    have := h.len
    unfold inP
    simp
    omega
  unfold objP headAt
  rw [hw, hw]
  split <;> rfl

theorem obj_far' (h : OneD d) (hb : b ≤ 1000) {a t : Int} (ha : 1125899906842624 < a) : objP (movD b d).mem a t = none := by
  have e := obj_mv (b := b) h hb (a - b) t
  rw [Int.sub_add_cancel] at e
  rw [e, obj_far h (by omega)]
  rfl

theorem lead_mv (k : Int) (l : List Nat) : leadW k (l.map (mvW b)) = (leadW k l).map (mvW b) := by
  unfold leadW
  simp [List.map_take, List.map_drop]

theorem seq_mv {g g' : Nat → Nat → Option (Tm × Nat)} (hg : ∀ left x, g' left (mvW b x) = g left x) : ∀ (xs : List Nat) (left : Nat), seqP g' left (xs.map (mvW b)) = seqP g left xs
  | [], _ => rfl
  | x :: r, left => by
    simp only [List.map_cons, seqP, hg]
    cases g left x with
    | none => rfl
    | some a => simp only [Option.bind_some, seq_mv hg r]

theorem objT_mv {g g' : Nat → Nat → Option (Tm × Nat)} (hg : ∀ left x, g' left (mvW b x) = g left x) (asks : Bool) (S : List Slt) (m m' : List Frg) (left : Nat) {k : Int} (l : List Nat) (hk : k = 0 ∨ k = -1) :
    objT g' asks S m' left (k, l.map (mvW b)) = objT g asks S m left (k, l) := by
  rcases hk with rfl | rfl <;> simp [objT, lead_mv, seq_mv hg]

theorem termP_ptr {asks : Bool} {S : List Slt} {m : List Frg} {f left x : Nat} (hp : ¬ (plainP x = false ∨ left = 0)) (ht : tagW x = 4 ∨ tagW x = 5) :
    termP asks S m (f + 1) left x = (objP m (loadW x) (tagW x)).bind (objT (termP asks S m f) asks S m (left - 1)) := by
  rw [termP, if_neg hp, if_neg (by omega), if_neg (by omega), if_neg (by omega), if_neg (by omega)]

theorem plain_tag {x : Nat} (h : plainP x = true) : tagW x ≤ 5 := by
  unfold plainP at h
  simp only [Bool.and_eq_true, decide_eq_true_eq] at h
  exact h.1

theorem termP_flat {asks : Bool} {S S' : List Slt} {m m' : List Frg} {f f' left x : Nat} (ht : ¬ (tagW x = 4 ∨ tagW x = 5)) : termP asks S m (f + 1) left x = termP asks S' m' (f' + 1) left x := by
  rw [termP, termP]
  split
  · rfl
  · rename_i hp
    have hp' : plainP x = true := by
      cases hq : plainP x with
      | true => rfl
      | false => exact absurd (Or.inl hq) hp
    have := plain_tag hp'
    have h4 : tagW x = 0 ∨ tagW x = 1 ∨ tagW x = 2 ∨ tagW x = 3 := by omega
    rcases h4 with q | q | q | q
    · rw [if_pos q, if_pos q]
    · rw [if_neg (by omega), if_pos q, if_neg (by omega), if_pos q]
    · rw [if_neg (by omega), if_neg (by omega), if_pos q, if_neg (by omega), if_neg (by omega), if_pos q]
    · rw [if_neg (by omega), if_neg (by omega), if_neg (by omega), if_pos q, if_neg (by omega), if_neg (by omega), if_neg (by omega), if_pos q]

theorem bind_mv (h : OneD d) (hb : b ≤ 1000) {α : Type} (a t : Int) (F G : Int × List Nat → Option α) (hFG : ∀ k l, (k = 0 ∨ k = -1) → F (k, l.map (mvW b)) = G (k, l)) : (objP (movD b d).mem (a + b) t).bind F = (objP d.mem a t).bind G := by
  rw [obj_mv h hb]
  cases ho : objP d.mem a t with
  | none => rfl
  | some o =>
    obtain ⟨k, l⟩ := o
    exact hFG k l (obj_kind h ho)

theorem near_mv (h : OneD d) (hb : b ≤ 1000) (asks : Bool) (S : List Slt) (f left x : Nat) (ih : ∀ (left x : Nat), termP asks S (movD b d).mem f left (mvW b x) = termP asks S d.mem f left x) (hp : ¬ (plainP x = false ∨ left = 0)) (ht : tagW x = 4 ∨ tagW x = 5) (hl : loadW x ≤ 1125899906842624) :
    termP asks S (movD b d).mem (f + 1) left (mvW b x) = termP asks S d.mem (f + 1) left x := by
  have e1 := termP_ptr (asks := asks) (S := S) (m := d.mem) (f := f) hp ht
  have e2 := termP_ptr (asks := asks) (S := S) (m := (movD b d).mem) (f := f) (left := left) (x := mvW b x) (by rw [mv_plain hb]; exact hp) (by rw [mv_tag]; exact ht)
  rw [e1, e2, mv_tag, mv_load ht hl]
  exact bind_mv h hb _ _ _ _ fun k l hk => objT_mv ih asks S d.mem (movD b d).mem (left - 1) l hk

theorem far_mv (h : OneD d) (hb : b ≤ 1000) (asks : Bool) (S : List Slt) (f left x : Nat) (hp : ¬ (plainP x = false ∨ left = 0)) (ht : tagW x = 4 ∨ tagW x = 5) (hl : 1125899906842624 < loadW x) (hl2 : 1125899906840000 < loadW x) :
    termP asks S (movD b d).mem (f + 1) left (mvW b x) = termP asks S d.mem (f + 1) left x := by
  have e1 := termP_ptr (asks := asks) (S := S) (m := d.mem) (f := f) hp ht
  have e2 := termP_ptr (asks := asks) (S := S) (m := (movD b d).mem) (f := f) hp ht
  rw [mv_far hl, e1, e2, obj_far' h hb hl, obj_far h hl2, Option.bind_none, Option.bind_none]

theorem term_mv (h : OneD d) (hb : b ≤ 1000) (asks : Bool) (S : List Slt) (f : Nat) : ∀ (left x : Nat), termP asks S (movD b d).mem f left (mvW b x) = termP asks S d.mem f left x := by
  induction f with
  | zero => intro left x; rw [termP, termP]
  | succ f ih =>
    intro left x
    by_cases ht : tagW x = 4 ∨ tagW x = 5
    · by_cases hp : plainP x = false ∨ left = 0
      · rw [termP, termP, mv_plain hb, if_pos hp, if_pos hp]
      · rcases Int.lt_or_le 1125899906842624 (loadW x) with hl | hl
        · exact far_mv h hb asks S f left x hp ht hl (Int.lt_trans (by decide) hl)
        · exact near_mv h hb asks S f left x ih hp ht hl
    · rw [mv_same ht]
      exact termP_flat ht

theorem read_mv (h : OneD d) (hb : b ≤ 1000) (asks : Bool) (S : List Slt) (x : Nat) : readP asks S (movD b d).mem (mvW b x) = readP asks S d.mem x := by
  unfold readP; rw [term_mv h hb]

/-- A spot, so much further. -/
def shS (b : Nat) (s : Spt) : Spt := (s.1 + b, s.2)

theorem shS_inj {s t : Spt} (h : shS b s = shS b t) : s = t := by
  obtain ⟨a, c⟩ := s
  obtain ⟨a', c'⟩ := t
  simp only [shS, Prod.mk.injEq] at h
  rw [Prod.mk.injEq]
  omega

theorem to_near {x : Nat} {s : Spt} (ht : toP x = some s) (hb : b ≤ 1000) (hl : s.1 ≤ 1125899906842624) : toP (mvW b x) = some (shS b s) := by
  unfold toP at ht ⊢
  split at ht
  · rename_i hc
    cases ht
    simp only at hl
    rw [mv_plain hb, mv_tag, if_pos hc, mv_load hc.2 hl]
    rfl
  · cases ht

theorem to_back {x : Nat} {s' : Spt} (hb : b ≤ 1000) (ht : toP (mvW b x) = some s') : ∃ s, toP x = some s ∧ (s.1 ≤ 1125899906842624 ∧ s' = shS b s ∨ 1125899906842624 < s.1 ∧ s' = s) := by
  unfold toP at ht
  rw [mv_plain hb, mv_tag] at ht
  split at ht
  · rename_i hc
    cases ht
    refine ⟨(loadW x, ((tagW x : Nat) : Int)), by unfold toP; rw [if_pos hc], ?_⟩
    by_cases hl : loadW x ≤ 1125899906842624
    · exact Or.inl ⟨hl, by rw [mv_load hc.2 hl]; rfl⟩
    · exact Or.inr ⟨by simp only; omega, by rw [mv_far (by omega)]⟩
  · cases ht

theorem obj_some (h : OneD d) {a t : Int} (ho : (objP d.mem a t).isSome = true) : a ≤ 1125899906842624 := by
  rcases Int.lt_or_le 1125899906842624 a with q | q
  · rw [obj_far h (by omega)] at ho; cases ho
  · exact q

theorem obj_mvS (h : OneD d) (hb : b ≤ 1000) (s : Spt) : objP (movD b d).mem (shS b s).1 (shS b s).2 = (objP d.mem s.1 s.2).map fun o => (o.1, o.2.map (mvW b)) := obj_mv h hb s.1 s.2

theorem reach_mv (h : OneD d) (hb : b ≤ 1000) {s : Spt} (hr : Reach d.mem d.roots s) : Reach (movD b d).mem (movD b d).roots (shS b s) := by
  induction hr with
  | @root x s hx ht ho =>
    exact .root (x := mvW b x) (List.mem_map.2 ⟨x, hx, rfl⟩) (to_near ht hb (obj_some h ho)) (by rw [obj_mvS h hb, Option.isSome_map]; exact ho)
  | @step s s' o x _ ho hx ht ho' ih =>
    exact .step (x := mvW b x) ih (o := (o.1, o.2.map (mvW b))) (by rw [obj_mvS h hb, ho]; rfl) (by rw [lead_mv]; exact List.mem_map.2 ⟨x, hx, rfl⟩) (to_near ht hb (obj_some h ho')) (by rw [obj_mvS h hb, Option.isSome_map]; exact ho')

theorem reach_back (h : OneD d) (hb : b ≤ 1000) {s' : Spt} (hr : Reach (movD b d).mem (movD b d).roots s') : ∃ s, Reach d.mem d.roots s ∧ s' = shS b s := by
  induction hr with
  | @root x' s' hx ht ho =>
    obtain ⟨x, hx2, rfl⟩ := List.mem_map.1 (show x' ∈ d.roots.map (mvW b) from hx)
    obtain ⟨s, hs, ⟨hl, rfl⟩ | ⟨hl, rfl⟩⟩ := to_back hb ht
    · rw [obj_mvS h hb, Option.isSome_map] at ho
      exact ⟨s, .root hx2 hs ho, rfl⟩
    · rw [obj_far' h hb hl] at ho; cases ho
  | @step t s' o' x' _ ho hx ht ho' ih =>
    obtain ⟨s, hs, rfl⟩ := ih
    rw [obj_mvS h hb] at ho
    obtain ⟨o, hod, rfl⟩ := Option.map_eq_some_iff.1 ho
    rw [lead_mv] at hx
    obtain ⟨x, hx2, rfl⟩ := List.mem_map.1 hx
    obtain ⟨s2, hs2, ⟨hl, rfl⟩ | ⟨hl, rfl⟩⟩ := to_back hb ht
    · rw [obj_mvS h hb, Option.isSome_map] at ho'
      exact ⟨s2, .step hs hod hx2 hs2 ho', rfl⟩
    · rw [obj_far' h hb hl] at ho'; cases ho'

theorem objW_mv (h : OneD d) (hb : b ≤ 1000) (s : Spt) : objW (movD b d).mem (shS b s) = objW d.mem s := by
  unfold objW
  rw [obj_mvS h hb]
  cases objP d.mem s.1 s.2 with
  | none => rfl
  | some o => simp

theorem live_mv (h : OneD d) (hb : b ≤ 1000) : liveP (movD b d).mem (movD b d).roots = liveP d.mem d.roots := by
  obtain ⟨l, hl⟩ := reachL_ex d.mem d.roots
  have hl' : ReachL (movD b d).mem (movD b d).roots (l.map (shS b)) := by
    refine ⟨?_, fun s => ⟨fun hs => ?_, fun hs => ?_⟩⟩
    · exact List.pairwise_map.2 (hl.1.imp fun hne e => hne (shS_inj e))
    · obtain ⟨s, hs2, rfl⟩ := List.mem_map.1 hs
      exact reach_mv h hb ((hl.2 s).1 hs2)
    · obtain ⟨s, hs2, rfl⟩ := reach_back h hb hs
      exact List.mem_map.2 ⟨s, (hl.2 s).2 hs2, rfl⟩
  rw [liveP_of hl', liveP_of hl]
  unfold sumP
  rw [List.map_map]
  congr 1
  exact List.map_congr_left fun s _ => objW_mv h hb s

theorem why_mv (h : OneD d) (hb : b ≤ 1000) (hw : WhyP d []) : WhyP (movD b d) [] := by
  have hm : d.mem = [d.young, d.old] := by unfold Dmp.mem; rw [h.frags]
  have hm' : (movD b d).mem = [(movD b d).young, d.old] := by unfold Dmp.mem; rw [show (movD b d).frags = [] from h.frags]; rfl
  refine ⟨?_, ?_, hw.2.2.1, ?_, ?_⟩
  · have h1 := hw.1
    unfold regionsP at h1 ⊢
    rw [Bool.and_eq_true] at h1 ⊢
    refine ⟨?_, ?_⟩
    · rw [hm']
      have e1 : okA (movD b d).young = true := by
        have := h.low; have := h.high
        unfold okA movD
        simp
        right
        omega
      have e2 : okA d.old = true := by unfold okA; rw [h.old]; rfl
      have e3 : apF d.old (movD b d).young = true := by unfold apF apartP; rw [h.old]; rfl
      simp [regL, e1, e2, e3]
    · have h2 := h1.2
      unfold marksP movD at *
      simpa using h2
  · have h2 := hw.2.1
    unfold rootsP readsP at h2 ⊢
    rw [List.all_eq_true] at h2 ⊢
    intro x' hx'
    obtain ⟨x, hx, rfl⟩ := List.mem_map.1 (show x' ∈ d.roots.map (mvW b) from hx')
    rw [read_mv h hb]
    exact h2 x hx
  · rw [show (movD b d).handles = [] from h.handles]; rfl
  · intro s' hs' hh
    obtain ⟨s, hs, rfl⟩ := reach_back h hb hs'
    unfold isH at hh
    rw [obj_mvS h hb] at hh
    cases ho : objP d.mem s.1 s.2 with
    | none => rw [ho] at hh; cases hh
    | some o =>
      have hk := obj_kind h ho
      rw [ho] at hh
      simp at hh
      omega

end
end Go.Proofs.Ytohgkfnbjfhniaa
