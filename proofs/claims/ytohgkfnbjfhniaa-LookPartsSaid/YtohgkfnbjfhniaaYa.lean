/-
  Plain facts of LookRoots: what is read is of a kind; other roots.
-/
import Derived.Test.YtohgkfnbjfhniaaXx
namespace Go.Proofs.Ytohgkfnbjfhniaa
open Go.RowKit

def Tm.k : Tm → Int | .mk k _ _ _ _ _ _ => k

theorem binT_kind {left : Nat} {b : ByteArray} {r : Tm × Nat} (h : binT left b = some r) : r.1.k ≠ 0 := by
  unfold binT at h
  split at h
  · cases h; simp [Tm.k]
  · cases h

theorem objT_kind {g : Nat → Nat → Option (Tm × Nat)} {asks : Bool} {S : List Slt} {m : List Frg} {left : Nat} {o : Int × List Nat} {r : Tm × Nat} (h : objT g asks S m left o = some r) : r.1.k ≠ 0 := by
  unfold objT at h
  split at h
  · split at h
    · cases h; simp [Tm.k]
    · cases h
  · split at h
    · cases h; simp [Tm.k]
    · split at h
      · obtain ⟨b, _, hb⟩ := Option.bind_eq_some_iff.1 h; exact binT_kind hb
      · split at h
        · obtain ⟨b, _, hb⟩ := Option.bind_eq_some_iff.1 h; exact binT_kind hb
        · split at h
          · obtain ⟨b, _, hb⟩ := Option.bind_eq_some_iff.1 h; exact binT_kind hb
          · obtain ⟨b, _, hb⟩ := Option.map_eq_some_iff.1 h
            cases hb
            simp only [Tm.k]
            split <;> decide

theorem termP_kind {asks : Bool} {S : List Slt} {m : List Frg} {f left x : Nat} {r : Tm × Nat} (h : termP asks S m f left x = some r) : r.1.k ≠ 0 := by
  cases f with
  | zero => cases h
  | succ f =>
    rw [termP] at h
    split at h
    · cases h
    · split at h
      · cases h; simp [Tm.k]
      · split at h
        · cases h; simp [Tm.k]
        · split at h
          · cases h; simp [Tm.k]
          · split at h
            · cases h; simp [Tm.k]
            · obtain ⟨o, _, ho⟩ := Option.bind_eq_some_iff.1 h
              exact objT_kind ho

theorem readP_kind {asks : Bool} {S : List Slt} {m : List Frg} {x : Nat} {t : Tm} (h : readP asks S m x = some t) : t.k ≠ 0 := by
  unfold readP at h
  obtain ⟨r, hr, rfl⟩ := Option.map_eq_some_iff.1 h
  exact termP_kind hr

/-- A dump with other roots. -/
def Dmp.roots' (d : Dmp) (r : List Nat) : Dmp := { d with roots := r }

theorem reach_nil {m : List Frg} {s : Spt} (h : Reach m [] s) : False := by
  induction h with
  | root hx _ _ => cases hx
  | step _ _ _ _ _ ih => exact ih

theorem reachL_nil {m : List Frg} {l : List Spt} (h : ReachL m [] l) : l = [] := by
  cases l with
  | nil => rfl
  | cons s r => exact (reach_nil ((h.2 s).1 (by simp))).elim

theorem whyP_roots {d : Dmp} {S : List Slt} {r : List Nat} (h : WhyP d S) (hr : ∀ x ∈ r, x ∈ d.roots) : WhyP (d.roots' r) S := by
  refine ⟨h.1, ?_, h.2.2.1, h.2.2.2.1, fun s hs hh => h.2.2.2.2 s (Reach.mono hr hs) hh⟩
  have h2 := h.2.1
  unfold rootsP readsP at h2 ⊢
  rw [List.all_eq_true] at h2 ⊢
  exact fun x hx => h2 x (hr x hx)

theorem pick_ex {α : Type} (P : α → Prop) : ∀ L : List α, ∃ l : List α, l.Nodup ∧ ∀ s, s ∈ l ↔ s ∈ L ∧ P s
  | [] => ⟨[], List.nodup_nil, fun s => ⟨(fun h => by cases h), fun h => by cases h.1⟩⟩
  | a :: r => by
    obtain ⟨l, h1, h2⟩ := pick_ex P r
    by_cases h : P a ∧ a ∉ l
    · refine ⟨a :: l, List.nodup_cons.2 ⟨h.2, h1⟩, fun s => ?_⟩
      rw [List.mem_cons, List.mem_cons, h2]
      constructor
      · rintro (rfl | q)
        · exact ⟨Or.inl rfl, h.1⟩
        · exact ⟨Or.inr q.1, q.2⟩
      · rintro ⟨rfl | q, hp⟩
        · exact Or.inl rfl
        · exact Or.inr ⟨q, hp⟩
    · refine ⟨l, h1, fun s => ?_⟩
      rw [List.mem_cons, h2]
      constructor
      · exact fun q => ⟨Or.inr q.1, q.2⟩
      · rintro ⟨rfl | q, hp⟩
        · have : s ∈ l := Classical.byContradiction fun hn => h ⟨hp, hn⟩
          exact (h2 s).1 this
        · exact ⟨q, hp⟩

theorem Reach.tag {m : List Frg} {r : List Nat} {s : Spt} (h : Reach m r s) : s.2 = 4 ∨ s.2 = 5 := by
  cases h with
  | root _ ht _ => exact toP_tag ht
  | step _ _ _ ht _ => exact toP_tag ht

theorem reachL_ex (m : List Frg) (r : List Nat) : ∃ l, ReachL m r l := by
  obtain ⟨l, h1, h2⟩ := pick_ex (Reach m r) (allS m)
  exact ⟨l, h1, fun s => (h2 s).trans ⟨fun q => q.2, fun q => ⟨objP_in q.ok q.tag, q⟩⟩⟩

/-- How many words are reached. -/
noncomputable def liveP (m : List Frg) (r : List Nat) : Nat := sumP (objW m) (Classical.epsilon (ReachL m r))

theorem liveP_of {m : List Frg} {r : List Nat} {l : List Spt} (h : ReachL m r l) : liveP m r = sumP (objW m) l :=
  ReachL.sum_eq _ (Classical.epsilon_spec ⟨l, h⟩) h (fun _ => Iff.rfl)

theorem liveP_le (m : List Frg) (r : List Nat) : liveP m r ≤ 20 * wordsN m := by
  obtain ⟨l, h⟩ := reachL_ex m r
  rw [liveP_of h]
  have h1 := sumP_le (m := m) l
  have h2 := nodup_sub h.1 (fun s hs => objP_in ((h.2 s).1 hs).ok ((h.2 s).1 hs).tag)
  rw [allS_length] at h2
  omega

theorem live_fn (d : Dmp) (v : Value) (w : World) (hd : DmAt w v d) (hok : DmOk d) :
    Calls Try.prog 12 #[v] w fun e w' => e = .returned (.int .i64 ((liveP d.mem d.roots : Nat) : Int)) ∧ Below w.heap.size w w' :=
  (live_any d v w hd hok.frags hok.words hok.roots).mono fun e w' ⟨l, he, hl, hb⟩ => ⟨by rw [he, liveP_of hl], hb⟩

theorem live_iff {m m' : List Frg} {r r' : List Nat} (h : ∀ s, Reach m r s ↔ Reach m' r' s) (hw : ∀ s, objW m s = objW m' s) : liveP m r = liveP m' r' := by
  obtain ⟨l, hl⟩ := reachL_ex m r
  have hl' : ReachL m' r' l := ⟨hl.1, fun s => (hl.2 s).trans (h s)⟩
  rw [liveP_of hl, liveP_of hl', show objW m = objW m' from funext hw]

theorem live_twice (m : List Frg) (r : List Nat) : liveP m (r ++ r) = liveP m r :=
  live_iff (fun _ => ⟨Reach.mono (fun x hx => by simpa using hx), Reach.mono (fun x hx => by simp [hx])⟩) (fun _ => rfl)

theorem live_some {m : List Frg} {r r' : List Nat} (hr : ∀ x ∈ r', x ∈ r) : liveP m r' ≤ liveP m r := by
  obtain ⟨l, h⟩ := reachL_ex m r
  obtain ⟨l', h'⟩ := reachL_ex m r'
  rw [liveP_of h, liveP_of h']
  exact sum_sub _ h'.1 (fun s hs => (h.2 s).2 (Reach.mono hr ((h'.2 s).1 hs)))

theorem live_none (m : List Frg) : liveP m [] = 0 := by
  obtain ⟨l, h⟩ := reachL_ex m []
  rw [liveP_of h, reachL_nil h]; rfl

/-- How small a dump is that is no great one. -/
structure DmSmall (d : Dmp) : Prop where
  frags : d.frags.length ≤ 6
  words : ∀ f ∈ d.frags, f.2.length ≤ 60
  young : d.young.2.length ≤ 60
  old : d.old.2.length ≤ 60
  roots : d.roots.length ≤ 100
  handles : d.handles.length ≤ 60

theorem wordsN_le {k : Nat} : ∀ {m : List Frg}, (∀ f ∈ m, f.2.length ≤ k) → wordsN m ≤ k * m.length
  | [], _ => by simp [wordsN]
  | f :: r, h => by
    have ih := wordsN_le (m := r) (fun g hg => h g (by simp [hg]))
    have h1 := h f (by simp)
    simp only [wordsN, List.map_cons, List.sum_cons, List.length_cons] at ih ⊢
    rw [Nat.mul_add]; omega

theorem DmSmall.words' {d : Dmp} (h : DmSmall d) : wordsN d.mem ≤ 480 := by
  have h1 := wordsN_le h.words
  have h2 := h.frags
  have h3 := h.young
  have h4 := h.old
  have : wordsN d.mem = d.young.2.length + (d.old.2.length + wordsN d.frags) := by simp [Dmp.mem, wordsN]
  rw [this]
  have : 60 * d.frags.length ≤ 360 := by omega
  omega

theorem DmSmall.ok {d : Dmp} (h : DmSmall d) : DmOk d := ⟨by have := h.frags; omega, by have := h.words'; omega, by have := h.roots; omega, by have := h.handles; omega⟩

theorem DmSmall.ok' {d : Dmp} (h : DmSmall d) {r : List Nat} (hr : r.length ≤ 1000) : DmOk (d.roots' r) := ⟨h.ok.frags, h.ok.words, hr, h.ok.handles⟩

end Go.Proofs.Ytohgkfnbjfhniaa
