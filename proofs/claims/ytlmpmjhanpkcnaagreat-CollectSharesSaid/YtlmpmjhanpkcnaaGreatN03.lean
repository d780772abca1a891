/-
  Collect: chapter 12's own walk, in plain words and in memory.
-/
import Derived.Test.YtlmpmjhanpkcnaaGreatN01
import Derived.Test.YtlmpmjhanpkcnaaGreatN02
set_option linter.unusedVariables false
set_option linter.unusedSimpArgs false
namespace Go.Proofs.YtlmpmjhanpkcnaaGreat
open Go.RowKit

structure Mt where
  at_ : List Nat
  words : Nat
  hs : List Int

def walkP (m : List Frg) : Nat → Mt → Nat → Mt
  | 0, s, _ => s
  | f + 1, s, x =>
    if tagW x ≠ 4 ∧ tagW x ≠ 5 then s
    else if x ∈ s.at_ then s
    else if tagW x = 5 then
      (if (restP m (loadW x)).length < 2 then s
       else walkP m f (walkP m f ⟨s.at_ ++ [x], s.words + 2, s.hs⟩ ((restP m (loadW x)).getD 0 0)) ((restP m (loadW x)).getD 1 0))
    else match boxP m x with
      | none => s
      | some o =>
        if o.1 = 0 then o.2.foldl (walkP m f) ⟨s.at_ ++ [x], s.words + 1 + o.2.length, s.hs⟩
        else if o.1 = 5 ∧ 0 < o.2.length then walkP m f ⟨s.at_ ++ [x], s.words + 1 + o.2.length, s.hs⟩ (o.2.getD 0 0)
        else if o.1 = 4 then ⟨s.at_ ++ [x], s.words + 1 + o.2.length, insP s.hs (loadW x)⟩
        else ⟨s.at_ ++ [x], s.words + 1 + o.2.length, s.hs⟩

/-- What has been met: pointers to where there are words. -/
structure MtOk (m : List Frg) (s : Mt) : Prop where
  nod : s.at_.Nodup
  ptr : ∀ x ∈ s.at_, x < 18446744073709551616 ∧ (tagW x = 4 ∨ tagW x = 5) ∧ restP m (loadW x) ≠ []
  wle : s.words ≤ s.at_.length * 6000
  hle : s.hs.length ≤ s.at_.length

theorem rest_in : ∀ {m : List Frg} {a : Int}, restP m a ≠ [] → ∃ f ∈ m, ∃ j : Nat, j < f.2.length ∧ a = f.1 + j
  | [], _, h => by simp [restP] at h
  | f :: r, a, h => by
    simp only [restP] at h
    by_cases hi : inP f.1 f.2.length a = true
    · have := inP_parts hi
      exact ⟨f, List.mem_cons_self, (a - f.1).toNat, by omega, by omega⟩
    · rw [if_neg hi] at h
      obtain ⟨g, hg, q⟩ := rest_in h
      exact ⟨g, List.mem_cons_of_mem _ hg, q⟩

theorem rest_spot {m : List Frg} {x : Nat} (ht : tagW x = 4 ∨ tagW x = 5) (h : restP m (loadW x) ≠ []) : (loadW x, ((tagW x : Nat) : Int)) ∈ allS m := by
  obtain ⟨f, hf, j, hj, e⟩ := rest_in h
  unfold allS
  refine List.mem_flatMap.2 ⟨f, hf, List.mem_flatMap.2 ⟨j, by simpa using hj, ?_⟩⟩
  rw [e]
  rcases ht with q | q <;> rw [q] <;> simp

theorem spot_inj {x y : Nat} (hx : tagW x = 4 ∨ tagW x = 5) (hy : tagW y = 4 ∨ tagW y = 5) (h : (loadW x, ((tagW x : Nat) : Int)) = (loadW y, ((tagW y : Nat) : Int))) : x = y := by
  simp only [Prod.mk.injEq] at h
  obtain ⟨h1, h2⟩ := h
  unfold loadW tagW at *
  rw [if_neg (by omega), if_neg (by omega)] at h1
  omega

theorem nodup_map {α β : Type} {f : α → β} : ∀ {L : List α}, L.Nodup → (∀ x ∈ L, ∀ y ∈ L, f x = f y → x = y) → (L.map f).Nodup
  | [], _, _ => List.nodup_nil
  | a :: r, h, hi => by
    obtain ⟨h1, h2⟩ := List.nodup_cons.1 h
    rw [List.map_cons, List.nodup_cons]
    refine ⟨fun q => ?_, nodup_map h2 fun x hx y hy => hi x (List.mem_cons_of_mem _ hx) y (List.mem_cons_of_mem _ hy)⟩
    obtain ⟨b, hb, e⟩ := List.mem_map.1 q
    exact h1 (hi b (List.mem_cons_of_mem _ hb) a List.mem_cons_self e ▸ hb)

theorem MtOk.count {m : List Frg} {s : Mt} (h : MtOk m s) : s.at_.length ≤ 2 * wordsN m := by
  have h1 : (s.at_.map fun x => (loadW x, ((tagW x : Nat) : Int))).Nodup := nodup_map h.nod fun x hx y hy e => spot_inj (h.ptr x hx).2.1 (h.ptr y hy).2.1 e
  have h2 := nodup_sub h1 (L := allS m) fun p hp => by
    obtain ⟨x, hx, rfl⟩ := List.mem_map.1 hp
    exact rest_spot (h.ptr x hx).2.1 (h.ptr x hx).2.2
  rw [List.length_map, allS_length] at h2
  exact h2

theorem rest_len : ∀ (m : List Frg) (a : Int), (restP m a).length ≤ wordsN m
  | [], _ => by simp [restP]
  | f :: r, a => by
    simp only [restP]
    have := rest_len r a
    have e : wordsN (f :: r) = f.2.length + wordsN r := by simp [wordsN]
    rw [e]
    split
    · rw [List.length_drop]; omega
    · omega

theorem box_len {m : List Frg} {x : Nat} {o : Int × List Nat} (h : boxP m x = some o) : restP m (loadW x) ≠ [] ∧ o.2.length ≤ wordsN m ∧ ∀ y ∈ o.2, y ∈ restP m (loadW x) := by
  unfold boxP at h
  split at h
  · have hl := rest_len m (loadW x)
    cases hr : restP m (loadW x) with
    | nil => rw [hr] at h; cases h
    | cons a t =>
      rw [hr] at h hl
      simp only at h
      obtain ⟨q, hq, h⟩ := Option.bind_eq_some_iff.1 h
      split at h
      · cases h
        simp only [List.length_cons] at hl
        refine ⟨by simp, by simp only [List.length_take]; omega, fun y hy => List.mem_cons_of_mem _ (List.mem_of_mem_take hy)⟩
      · cases h
  · cases h

theorem rest_bnd : ∀ {m : List Frg} {a : Int}, MemB m → ∀ x ∈ restP m a, x < 18446744073709551616
  | [], _, _, x, hx => by simp [restP] at hx
  | f :: r, a, hm, x, hx => by
    simp only [restP] at hx
    split at hx
    · exact hm f List.mem_cons_self x (List.mem_of_mem_drop hx)
    · exact rest_bnd (fun g hg => hm g (List.mem_cons_of_mem _ hg)) x hx

theorem MtOk.push {m : List Frg} (hN : wordsN m ≤ 5000) {s : Mt} (h : MtOk m s) {x : Nat} (hx : x < 18446744073709551616) (ht : tagW x = 4 ∨ tagW x = 5) (hr : restP m (loadW x) ≠ []) (hn : x ∉ s.at_) {n : Nat} (hnl : n ≤ 5001) {hs : List Int} (hh : hs.length ≤ s.hs.length + 1) : MtOk m ⟨s.at_ ++ [x], s.words + n, hs⟩ := by
  refine ⟨?_, fun y hy => ?_, ?_, ?_⟩
  · show (s.at_ ++ [x]).Nodup
    rw [List.nodup_append]
    exact ⟨h.nod, by simp, fun p hp q hq => by simp at hq; subst hq; intro e; subst e; exact hn hp⟩
  · rcases List.mem_append.1 hy with q | q
    · exact h.ptr y q
    · simp at q; subst q; exact ⟨hx, ht, hr⟩
  · have := h.wle
    show s.words + n ≤ (s.at_ ++ [x]).length * 6000
    simp; omega
  · have := h.hle
    show hs.length ≤ (s.at_ ++ [x]).length
    simp; omega

theorem insP_len (L : List Int) (n : Int) : (insP L n).length = L.length + 1 := by
  unfold insP
  have := congrArg List.length (List.takeWhile_append_dropWhile (p := fun x => decide (x < n)) (l := L))
  simp only [List.length_append, List.length_cons] at this ⊢
  omega

theorem fold_ok {m : List Frg} {f : Nat} (ih : ∀ s x, MtOk m s → x < 18446744073709551616 → MtOk m (walkP m f s x) ∧ s.at_.length ≤ (walkP m f s x).at_.length) : ∀ (L : List Nat) (s : Mt), MtOk m s → (∀ x ∈ L, x < 18446744073709551616) → MtOk m (L.foldl (walkP m f) s) ∧ s.at_.length ≤ (L.foldl (walkP m f) s).at_.length
  | [], s, h, _ => ⟨h, Nat.le_refl _⟩
  | x :: r, s, h, hb => by
    obtain ⟨a, b⟩ := ih s x h (hb x List.mem_cons_self)
    obtain ⟨c, d⟩ := fold_ok ih r _ a fun y hy => hb y (List.mem_cons_of_mem _ hy)
    exact ⟨c, Nat.le_trans b d⟩

theorem getD_mem {l : List Nat} {i : Nat} (h : i < l.length) : l.getD i 0 ∈ l := by
  rw [List.getD_eq_getElem?_getD, List.getElem?_eq_getElem h]
  exact List.getElem_mem h

theorem walk_ok {m : List Frg} (hm : MemB m) (hN : wordsN m ≤ 5000) : ∀ (f : Nat) (s : Mt) (x : Nat), MtOk m s → x < 18446744073709551616 → MtOk m (walkP m f s x) ∧ s.at_.length ≤ (walkP m f s x).at_.length
  | 0, s, x, h, _ => ⟨h, Nat.le_refl _⟩
  | f + 1, s, x, h, hx => by
    rw [walkP]
    split
    · exact ⟨h, Nat.le_refl _⟩
    · rename_i ht
      split
      · exact ⟨h, Nat.le_refl _⟩
      · rename_i hn
        split
        · split
          · exact ⟨h, Nat.le_refl _⟩
          · rename_i h5 h2
            have hb := rest_bnd (a := loadW x) hm
            have hp := h.push hN hx (.inr h5) (by intro e; rw [e] at h2; simp at h2) hn (n := 2) (by omega) (hs := s.hs) (by omega)
            obtain ⟨a, b⟩ := walk_ok hm hN f _ _ hp (hb _ (getD_mem (i := 0) (by omega)))
            obtain ⟨c, d⟩ := walk_ok hm hN f _ _ a (hb _ (getD_mem (i := 1) (by omega)))
            refine ⟨c, ?_⟩
            simp only [List.length_append, List.length_cons, List.length_nil] at b
            omega
        · rename_i h5
          split
          · exact ⟨h, Nat.le_refl _⟩
          · rename_i o ho
            obtain ⟨hr, hl, hmem⟩ := box_len ho
            have hb := rest_bnd (a := loadW x) hm
            have hp := fun (hs : List Int) (hh : hs.length ≤ s.hs.length + 1) => h.push hN hx (by omega) hr hn (n := 1 + o.2.length) (by omega) hh
            have ew : s.words + (1 + o.2.length) = s.words + 1 + o.2.length := by omega
            rw [ew] at hp
            have hll : s.at_.length ≤ (s.at_ ++ [x]).length := by simp
            split
            · obtain ⟨c, d⟩ := fold_ok (walk_ok hm hN f) o.2 _ (hp s.hs (by omega)) fun y hy => hb y (hmem y hy)
              exact ⟨c, Nat.le_trans hll d⟩
            · split
              · rename_i q
                obtain ⟨c, d⟩ := walk_ok hm hN f _ _ (hp s.hs (by omega)) (hb _ (hmem _ (getD_mem q.2)))
                exact ⟨c, Nat.le_trans hll d⟩
              · split
                · exact ⟨hp _ (by rw [insP_len]; omega), hll⟩
                · exact ⟨hp _ (by omega), hll⟩

/-! ### In memory -/

structure MtAt (R : Nat) (K : List (Nat × Obj)) (s : Mt) (w : World) (av hv : Value) : Prop where
  blk : w.heap[R]? = some (.cells #[av, .int .i64 s.words, hv] 39 (0, 0))
  oa : w.ownsRow (R + 1) 47 1 av s.at_.length (csW s.at_)
  oh : w.ownsRow (R + 1) 3 1 hv s.hs.length (csI s.hs)
  ne : ∀ b, av.ownBlock = some b → hv.ownBlock ≠ some b
  kp : ∀ p ∈ K, w.heap[p.1]? = some p.2 ∧ R < p.1 ∧ av.ownBlock ≠ some p.1 ∧ hv.ownBlock ≠ some p.1

theorem MtAt.lift {R : Nat} {K : List (Nat × Obj)} {s : Mt} {w w' : World} {av hv : Value} (h : MtAt R K s w av hv) (hb : Below w.heap.size w w') : MtAt R K s w' av hv :=
  ⟨(hb.block _ (lt_of_block h.blk)).trans h.blk, own_lift h.oa hb, own_lift h.oh hb, h.ne, fun p hp => ⟨(hb.block _ (lt_of_block (h.kp p hp).1)).trans (h.kp p hp).1, (h.kp p hp).2⟩⟩

theorem MtAt.keep {R : Nat} {K : List (Nat × Obj)} {s : Mt} {w w' : World} {av hv : Value} (h : MtAt R K s w av hv) (hb : Below w.heap.size w w') {b : Nat} {o : Obj} (hk : w'.heap[b]? = some o) (hn : w.heap.size ≤ b) : MtAt R ((b, o) :: K) s w' av hv := by
  have h' := h.lift hb
  refine ⟨h'.blk, h'.oa, h'.oh, h'.ne, fun p hp => ?_⟩
  rcases List.mem_cons.1 hp with rfl | hp
  · have := lt_of_block h.blk
    exact ⟨hk, by simp only; omega, fun e => by have := (h.oa.lt _ e).2; simp only at this; omega, fun e => by have := (h.oh.lt _ e).2; simp only at this; omega⟩
  · exact h'.kp p hp

theorem MtAt.less {R : Nat} {K K' : List (Nat × Obj)} {s : Mt} {w : World} {av hv : Value} (h : MtAt R K s w av hv) (hk : ∀ p ∈ K', p ∈ K) : MtAt R K' s w av hv := ⟨h.blk, h.oa, h.oh, h.ne, fun p hp => h.kp p (hk p hp)⟩

/-- A store into the block itself. -/
theorem MtAt.store {R : Nat} {K : List (Nat × Obj)} {s s' : Mt} {w : World} {av hv av' hv' : Value} {i : Nat} {u : Value} (h : MtAt R K s w av hv) (he : (#[av, .int .i64 s.words, hv] : Array Value).setIfInBounds i u = #[av', .int .i64 s'.words, hv'])
    (oa : w.ownsRow (R + 1) 47 1 av' s'.at_.length (csW s'.at_)) (oh : w.ownsRow (R + 1) 3 1 hv' s'.hs.length (csI s'.hs)) (ne : ∀ b, av'.ownBlock = some b → hv'.ownBlock ≠ some b) (hk : ∀ p ∈ K, av'.ownBlock ≠ some p.1 ∧ hv'.ownBlock ≠ some p.1) : MtAt R K s' (w.setCell ⟨R, i, none⟩ u) av' hv' := by
  refine ⟨by rw [← he]; exact set_of h.blk i u, own_set oa (by omega) u, own_set oh (by omega) u, ne, fun p hp => ⟨(Below.heap_setCell w ⟨R, i, none⟩ u p.1 (by have := (h.kp p hp).2.1; simp; omega)).trans (h.kp p hp).1, (h.kp p hp).2.1, hk p hp⟩⟩

/-- Behind an append to the pointers. -/
theorem MtAt.pushed {R : Nat} {K : List (Nat × Obj)} {s : Mt} {w w9 : World} {av hv v' : Value} {x : Nat} {o : Obj} (h : MtAt R K s w av hv) (hg : (w.alloc o).grownBy w9 av.ownBlock) (hown : w9.ownsRow (R + 1) 47 1 v' (s.at_.length + 1) (csW s.at_ ++ [.int .u64 x])) (hv' : v'.ownBlock = av.ownBlock ∨ v'.ownBlock = some (w.alloc o).heap.size) :
    w9.heap[R]? = some (.cells #[av, .int .i64 s.words, hv] 39 (0, 0)) ∧ MtAt R K ⟨s.at_ ++ [x], s.words, s.hs⟩ (w9.setCell ⟨R, 0, none⟩ v') v' hv ∧ Below R w (w9.setCell ⟨R, 0, none⟩ v') := by
  have hR := lt_of_block h.blk
  have ha : ∀ b, av.ownBlock = some b → R + 1 ≤ b ∧ b < w.heap.size := fun b e => h.oa.lt b e
  have hh : ∀ b, hv.ownBlock = some b → R + 1 ≤ b ∧ b < w.heap.size := fun b e => h.oh.lt b e
  have hsz : (w.alloc o).heap.size = w.heap.size + 1 := by simp
  have hal : Below w.heap.size w (w.alloc o) := (Below.refl _ _).alloc (Nat.le_refl _) _
  have keepB : ∀ b, b < w.heap.size → av.ownBlock ≠ some b → w9.heap[b]? = w.heap[b]? := fun b hb hne => (hg.block b (by omega) (fun e => hne e.symm)).trans (hal.block b hb)
  have e1 : w9.heap[R]? = some (.cells #[av, .int .i64 s.words, hv] 39 (0, 0)) := (keepB R hR (fun e => by have := (ha R e).1; omega)).trans h.blk
  have oh9 : w9.ownsRow (R + 1) 3 1 hv s.hs.length (csI s.hs) := by
    refine (World.ownsRow.alloc h.oh o).kept hg ?_
    by_cases e : hv.ownBlock = none
    · exact .inl e
    · obtain ⟨b, hb⟩ := Option.ne_none_iff_exists'.1 e
      exact .inr (by rw [hb]; exact fun e => h.ne b e.symm hb)
  have hne' : ∀ b, b < w.heap.size → av.ownBlock ≠ some b → v'.ownBlock ≠ some b := fun b hb hne e => by
    rcases hv' with q | q
    · exact hne (q ▸ e)
    · rw [q] at e; cases e; omega
  have hb9 : Below R w w9 := by
    have : Below R w (w.alloc o) := hal.mono (by omega)
    exact this.grown hg (by omega) (fun k hk => by have := (ha k hk).1; omega)
  refine ⟨e1, ?_, hb9.setCell (p := ⟨R, 0, none⟩) (Nat.le_refl _) v'⟩
  -- the row itself has been taken over: only the block, the other row and what is kept matter
  refine ⟨set_of e1 0 v', ?_, own_set oh9 (by omega) v', fun b hb e => hne' b (hh b e).2 (fun q => h.ne b q e) hb, fun p hp => ⟨(Below.heap_setCell w9 ⟨R, 0, none⟩ v' p.1 (by have := (h.kp p hp).2.1; simp; omega)).trans ((keepB _ (lt_of_block (h.kp p hp).1) (h.kp p hp).2.2.1).trans (h.kp p hp).1), (h.kp p hp).2.1, hne' _ (lt_of_block (h.kp p hp).1) (h.kp p hp).2.2.1, (h.kp p hp).2.2.2⟩⟩
  have e2 : csW (s.at_ ++ [x]) = csW s.at_ ++ [.int .u64 x] := by rw [csW_append]; rfl
  show (w9.setCell ⟨R, 0, none⟩ v').ownsRow (R + 1) 47 1 v' (s.at_ ++ [x]).length (csW (s.at_ ++ [x]))
  rw [e2, List.length_append]
  exact own_set hown (by omega) v'

/-- The words counted. -/
theorem MtAt.counted {R : Nat} {K : List (Nat × Obj)} {s : Mt} {w : World} {av hv : Value} (h : MtAt R K s w av hv) (n : Nat) : MtAt R K ⟨s.at_, n, s.hs⟩ (w.setCell ⟨R, 1, none⟩ (.int .i64 n)) av hv :=
  h.store (s' := ⟨s.at_, n, s.hs⟩) (i := 1) rfl h.oa h.oh h.ne fun p hp => (h.kp p hp).2.2

/-- A handle inserted: a row that was made since. -/
theorem MtAt.handled {R : Nat} {K : List (Nat × Obj)} {s : Mt} {w w' : World} {av hv v' : Value} {hs : List Int} (h : MtAt R K s w av hv) (hb : Below w.heap.size w w') (hown : w'.ownsRow w.heap.size 3 1 v' hs.length (csI hs)) :
    w'.heap[R]? = some (.cells #[av, .int .i64 s.words, hv] 39 (0, 0)) ∧ MtAt R K ⟨s.at_, s.words, hs⟩ (w'.setCell ⟨R, 2, none⟩ v') av v' ∧ Below R w (w'.setCell ⟨R, 2, none⟩ v') := by
  have h' := h.lift hb
  have hR := lt_of_block h.blk
  refine ⟨h'.blk, h'.store (s' := ⟨s.at_, s.words, hs⟩) (i := 2) rfl h'.oa (own_low hown (show R + 1 ≤ w.heap.size from hR)) (fun b e e2 => ?_) (fun p hp => ⟨(h.kp p hp).2.2.1, fun e => ?_⟩), (hb.mono (show R ≤ w.heap.size from Nat.le_of_lt hR)).setCell (p := ⟨R, 2, none⟩) (Nat.le_refl _) v'⟩
  · have h1 := (h.oa.lt b e).2
    have h2 := (hown.lt b e2).1
    omega
  · have h1 := lt_of_block (h.kp p hp).1
    have h2 := (hown.lt _ e).1
    omega

end Go.Proofs.YtlmpmjhanpkcnaaGreat
