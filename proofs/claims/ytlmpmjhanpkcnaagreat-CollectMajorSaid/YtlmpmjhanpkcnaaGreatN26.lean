/-
  Collect: a mover's invariants, and what scanning does, in plain words.
  Collect: scan.
  Collect: moved.
-/
import Derived.Test.YtlmpmjhanpkcnaaGreatN25
set_option linter.unusedVariables false
set_option linter.unusedSimpArgs false
namespace Go.Proofs.YtlmpmjhanpkcnaaGreat
open Go.RowKit Go.Maps

theorem wentAt_none {L : List (Spt × Nat)} {s : Spt} : wentAt L s = none ↔ s ∉ L.map (·.1) := by
  induction L with
  | nil => simp [wentAt]
  | cons a r ih =>
    obtain ⟨u, z⟩ := a
    simp only [wentAt, List.map_cons, List.mem_cons, not_or]
    split
    · rename_i e; subst e; simp
    · rename_i e; rw [ih]; exact ⟨fun h => ⟨fun q => e q.symm, h⟩, fun h => h.2⟩

/-- How many words an object has. -/
def lenO (m : List Frg) (s : Spt) : Nat := ((objP m s.1 s.2).getD (0, [])).2.length

/-- Where objects lie that are copied one behind the other. -/
def layP (m : List Frg) (a : Nat) : Nat → List Spt → List (Spt × Nat)
  | _, [] => []
  | n, s :: r => (s, (a + n) * 8 + s.2.toNat) :: layP m a (n + lenO m s) r

theorem layP_snoc (m : List Frg) (a : Nat) (s : Spt) : ∀ (n : Nat) (Q : List Spt), layP m a n (Q ++ [s]) = layP m a n Q ++ [(s, (a + (n + sumP (lenO m) Q)) * 8 + s.2.toNat)]
  | n, [] => by simp [layP, sumP]
  | n, t :: r => by
    simp only [List.cons_append, layP, layP_snoc m a s _ r, sumP, List.map_cons, List.sum_cons]
    rw [show n + lenO m t + (r.map (lenO m)).sum = n + (lenO m t + (r.map (lenO m)).sum) by omega]

theorem layP_at (m : List Frg) (a : Nat) : ∀ (Q : List Spt) (n i : Nat) (hi : i < Q.length), Q.Nodup → wentAt (layP m a n Q) Q[i] = some ((a + (n + sumP (lenO m) (Q.take i))) * 8 + Q[i].2.toNat)
  | t :: r, n, 0, _, _ => by simp [layP, wentAt, sumP]
  | t :: r, n, i + 1, hi, hn => by
    obtain ⟨h1, h2⟩ := List.nodup_cons.1 hn
    have hi' : i < r.length := by simpa using hi
    have hne : t ≠ r[i] := fun e => h1 (e ▸ List.getElem_mem hi')
    simp only [layP, wentAt, List.getElem_cons_succ, if_neg hne, List.take_succ_cons]
    rw [layP_at m a r (n + lenO m t) i hi' h2]
    simp only [sumP, List.map_cons, List.sum_cons]
    rw [show n + lenO m t + ((r.take i).map (lenO m)).sum = n + (lenO m t + ((r.take i).map (lenO m)).sum) by omega]

/-- A mover's invariant: objects lie one behind the other, each once, and each of them is one of a list's. -/
structure MInv (m : List Frg) (a : Nat) (R : List Spt) (st : Mv) : Prop where
  lay : st.went = layP m a 0 (st.went.map (·.1))
  nod : (st.went.map (·.1)).Nodup
  sub : ∀ s ∈ st.went.map (·.1), s ∈ R
  len : st.words.length = sumP (lenO m) (st.went.map (·.1))

theorem MInv.start (m : List Frg) (a : Nat) (R : List Spt) : MInv m a R ⟨[], []⟩ := ⟨rfl, List.nodup_nil, (fun s h => by cases h), rfl⟩

theorem MInv.move {m : List Frg} {a : Nat} {R : List Spt} {st : Mv} (h : MInv m a R st) {x : Nat} (hx : ∀ s, toP x = some s → s ∈ R) : MInv m a R (moveP m a st x).2 ∧ ∃ t, (moveP m a st x).2.went = st.went ++ t := by
  unfold moveP
  cases ht : toP x with
  | none => exact ⟨h, [], by simp⟩
  | some s =>
    simp only
    cases hw : wentAt st.went s with
    | some y => exact ⟨h, [], by simp⟩
    | none =>
      simp only
      have hs := wentAt_none.1 hw
      refine ⟨⟨?_, ?_, ?_, ?_⟩, _, rfl⟩
      · show st.went ++ [(s, (a + st.words.length) * 8 + s.2.toNat)] = layP m a 0 ((st.went ++ [(s, (a + st.words.length) * 8 + s.2.toNat)]).map (·.1))
        rw [List.map_append, List.map_cons, List.map_nil, layP_snoc, ← h.lay, Nat.zero_add, h.len]
      · rw [List.map_append, List.nodup_append]
        exact ⟨h.nod, by simp, fun p hp q hq => by simp at hq; subst hq; intro e; subst e; exact hs hp⟩
      · intro p hp
        rw [List.map_append] at hp
        rcases List.mem_append.1 hp with q | q
        · exact h.sub _ q
        · simp at q; subst q; exact hx _ ht
      · show (st.words ++ ((objP m s.1 s.2).getD (0, [])).2).length = sumP (lenO m) ((st.went ++ [(s, (a + st.words.length) * 8 + s.2.toNat)]).map (·.1))
        rw [List.map_append, List.length_append, h.len]
        simp [sumP, lenO]

theorem MInv.set {m : List Frg} {a : Nat} {R : List Spt} {st : Mv} (h : MInv m a R st) (i x : Nat) : MInv m a R ⟨st.went, st.words.set i x⟩ := ⟨h.lay, h.nod, h.sub, by rw [List.length_set]; exact h.len⟩

theorem MInv.count {m : List Frg} {a : Nat} {R : List Spt} {st : Mv} (h : MInv m a R st) : st.went.length ≤ R.length := by
  have := nodup_sub h.nod h.sub
  rwa [List.length_map] at this

theorem lenO_le (m : List Frg) (s : Spt) : lenO m s ≤ 10 := by
  unfold lenO
  cases h : objP m s.1 s.2 with
  | none => simp
  | some o => exact objOK_le (objP_ok (k := o.1) (l := o.2) h)

theorem sumP_len_le (m : List Frg) (Q : List Spt) : sumP (lenO m) Q ≤ 10 * Q.length := by
  induction Q with
  | nil => simp [sumP]
  | cons s r ih =>
    have := lenO_le m s
    simp only [sumP, List.map_cons, List.sum_cons, List.length_cons] at ih ⊢
    omega

theorem MInv.words {m : List Frg} {a : Nat} {R : List Spt} {st : Mv} (h : MInv m a R st) : st.words.length ≤ 10 * R.length := by
  have h1 := sumP_len_le m (st.went.map (·.1))
  have h2 := h.count
  rw [List.length_map] at h1
  rw [h.len]; omega

/-- The room of an object that is copied. -/
theorem MInv.room {m : List Frg} {a : Nat} {R : List Spt} {st : Mv} (h : MInv m a R st) {i : Nat} (hi : i < st.went.length) : sumP (lenO m) ((st.went.map (·.1)).take i) + lenO m st.went[i].1 ≤ st.words.length := by
  rw [h.len]
  have hi' : i < (st.went.map (·.1)).length := by simpa using hi
  have e2 := List.take_succ_eq_append_getElem hi'
  have : sumP (lenO m) (st.went.map (·.1)) = sumP (lenO m) ((st.went.map (·.1)).take (i + 1)) + sumP (lenO m) ((st.went.map (·.1)).drop (i + 1)) := by
    simp only [sumP]; rw [← List.sum_append, ← List.map_append, List.take_append_drop]
  rw [this, e2]
  simp only [sumP, List.map_append, List.sum_append, List.map_cons, List.map_nil, List.sum_cons, List.sum_nil, List.getElem_map]
  omega

theorem MInv.at {m : List Frg} {a : Nat} {R : List Spt} {st : Mv} (h : MInv m a R st) {i : Nat} (hi : i < st.went.length) : wentAt st.went st.went[i].1 = some ((a + sumP (lenO m) ((st.went.map (·.1)).take i)) * 8 + st.went[i].1.2.toNat) := by
  have hi' : i < (st.went.map (·.1)).length := by simpa using hi
  have := layP_at m a (st.went.map (·.1)) 0 i hi' h.nod
  rw [← h.lay] at this
  simpa using this

/-! ### Scanning -/

/-- The words of one object, from 'k' on. -/
def scanK (m : List Frg) (a base : Nat) (l : List Nat) : Nat → Nat → Mv → Mv
  | 0, _, st => st
  | n + 1, k, st => scanK m a base l n (k + 1) ⟨(moveP m a st (l.getD k 0)).2.went, (moveP m a st (l.getD k 0)).2.words.set (base + k) (moveP m a st (l.getD k 0)).1⟩

/-- One object. -/
def scanO (m : List Frg) (a : Nat) (st : Mv) (i : Nat) : Mv :=
  match objP m ((st.went.map (·.1)).getD i (0, 0)).1 ((st.went.map (·.1)).getD i (0, 0)).2 with
  | none => st
  | some (k, l) => scanK m a (sumP (lenO m) ((st.went.map (·.1)).take i)) l ((leadsP k l.length).2 - (leadsP k l.length).1).toNat (leadsP k l.length).1.toNat st

/-- All objects, from the i-th on. -/
def scanP (m : List Frg) (a : Nat) : Nat → Nat → Mv → Mv
  | 0, _, st => st
  | n + 1, i, st => if i < st.went.length then scanP m a n (i + 1) (scanO m a st i) else st

/-- Objects of which each leads to objects of the list alone. -/
def Closed (m : List Frg) (R : List Spt) : Prop := ∀ s ∈ R, ∃ k l, objP m s.1 s.2 = some (k, l) ∧ ∀ x ∈ leadW k l, ∀ s', toP x = some s' → s' ∈ R

theorem toP_mk {n t : Nat} (ht : t = 4 ∨ t = 5) (hn : n ≤ 1125899907842624) : toP (n * 8 + t) = some ((n : Int), (t : Int)) := by
  have h1 : (n * 8 + t) % 8 = t := by omega
  have h2 : (n * 8 + t) / 8 = n := by omega
  have h3 : loadW (n * 8 + t) = (n : Int) := by unfold loadW; rw [h1, if_neg (by omega), h2]
  have h4 : plainP (n * 8 + t) = true := by
    unfold plainP fitsP tagW
    rw [h3, h1]
    rcases ht with rfl | rfl <;> simp [loW, hiW] <;> omega
  unfold toP tagW
  rw [if_pos ⟨h4, by rw [h1]; exact ht⟩, h3, h1]

/-! ### A row's store -/

theorem own_storeW {w : World} {base g n cap : Nat} {L : List Nat} (h : w.ownsRow base 47 1 (.slice (some ⟨g, 0, none⟩) n cap) n (csW L)) (hn : L.length = n) {j : Nat} (hj : j < n) (x : Nat) : (w.setCell ⟨g, j, none⟩ (.int .u64 x)).ownsRow base 47 1 (.slice (some ⟨g, 0, none⟩) n cap) n (csW (L.set j x)) := by
  obtain ⟨h1, h2⟩ := h
  refine ⟨by simpa [csW] using h1, ?_⟩
  rcases h2 with ⟨e, _⟩ | ⟨g', cap', cur, he, hb, hg, hnc, hc, hsz, htk⟩
  · cases e
  · cases he
    refine .inr ⟨g, cap, cur.setIfInBounds j (.int .u64 x), rfl, hb, set_of hg j _, hnc, hc, by simpa using hsz, ?_⟩
    rw [Array.toList_setIfInBounds, List.take_set, htk]
    simp [csW, List.map_set]

theorem own_cellW {w : World} {base g n cap : Nat} {L : List Nat} (h : w.ownsRow base 47 1 (.slice (some ⟨g, 0, none⟩) n cap) n (csW L)) {j : Nat} (hj : j < L.length) : w.cell? ⟨g, j, none⟩ = some (.int .u64 L[j]) ∧ w.frozen? ⟨g, j, none⟩ = false := by
  have hc := h.cells rfl j (.int .u64 L[j]) (by simp [csW, hj])
  have e : (⟨g, 0, none⟩ : Addr).add j = ⟨g, j, none⟩ := by unfold Addr.add; split <;> simp_all
  refine ⟨by rw [← e]; exact hc, ?_⟩
  rcases h.2 with ⟨e, _⟩ | ⟨g', cap', cur, he, hb, hg, _⟩
  · cases e
  · cases he
    exact free_of hg j

/-- Behind a store into the words. -/
theorem MvMid.stored {W0 w : World} {Y F a : Nat} {mv : Value} {caps : Array Value} {K : List (Nat × Obj)} {M : List (Spt × Nat)} {Q : List Spt} {L : List Nat} {q : Value} {g n cap : Nat} (hY : Y < W0.heap.size) (h : MvMid W0 Y mv F caps K a M Q L (.slice (some ⟨g, 0, none⟩) n cap) q w) (hn : L.length = n) {j : Nat} (hj : j < n) (x : Nat) :
    MvMid W0 Y mv F caps K a M Q (L.set j x) (.slice (some ⟨g, 0, none⟩) n cap) q (w.setCell ⟨g, j, none⟩ (.int .u64 x)) := by
  obtain ⟨h1, h2, r1, r2, r3, r4, r5, r6, h4⟩ := h
  subst hn
  have hgb := r2.lt g rfl
  have hk : ∀ i, i ≠ g → (w.setCell ⟨g, j, none⟩ (.int .u64 x)).heap[i]? = w.heap[i]? := fun i hi => Below.heap_setCell w ⟨g, j, none⟩ _ i (by simp; exact hi)
  refine ⟨⟨h1.os, h1.tape, h1.output, by simp [World.setCell]; omega, fun i hi hne => (hk i (by omega)).trans (h1.block i hi hne)⟩, by simp [World.setCell]; omega, (hk _ (by omega)).trans r1, by rw [List.length_set]; exact own_storeW r2 rfl hj x, (hk _ (by omega)).trans r3, ?_, r5, (fun p hp => ⟨(hk p.1 (fun e => (r6 p hp).2.2.1 (by rw [e]; rfl))).trans (r6 p hp).1, (r6 p hp).2⟩), h4.block (hk _ (by omega))⟩
  refine r4.kept (row := some g) ⟨rfl, rfl, rfl, by simp [World.setCell], fun k _ hne => hk k (fun e => hne (by rw [e]))⟩ ?_
  cases hv : q.ownBlock with
  | none => exact .inl rfl
  | some k => exact .inr (fun e => r5 g rfl (by rw [hv]; exact e))

end Go.Proofs.YtlmpmjhanpkcnaaGreat

namespace Go.Proofs.YtlmpmjhanpkcnaaGreat
open Go.RowKit Go.Maps

/-- A spot in a variable of its own. -/
def SpCut (wr wx : World) (x t : Int) (p : Value) : Prop := ∃ nb, p = .pointer (some ⟨nb, 0, none⟩) ∧ wx.heap[nb]? = some (.cells #[.int .i64 x, .int .i64 t] 63 (0, 0)) ∧ wr.heap.size ≤ nb ∧ Below wr.heap.size wr wx

theorem spot_behind {W w3 : World} {x t : Int} (h : Below W.drew.heap.size W.drew w3) : SpCut W (w3.alloc (.cells #[.int .i64 x, .int .i64 t] 63)) x t (.pointer (some ⟨w3.heap.size, 0, none⟩)) :=
  ⟨_, rfl, World.alloc_heap_new w3 _, h.size, Below.alloc (Below.trans (Below.drew (Below.refl _ W)) h) h.size _⟩

theorem spot_ahead {W w3 : World} {a b x t : Int} (h : Below (W.alloc (.cells #[.int .i64 a, .int .i64 b] 63)).drew.heap.size (W.alloc (.cells #[.int .i64 a, .int .i64 b] 63)).drew w3) :
    SpCut W ((w3.setCell ⟨W.heap.size, 0, none⟩ (.int .i64 x)).setCell ⟨W.heap.size, 1, none⟩ (.int .i64 t)) x t (.pointer (some ⟨W.heap.size, 0, none⟩)) := by
  refine ⟨_, rfl, set_of (set_of (held_new h) 0 _) 1 _, Nat.le_refl _, ?_⟩
  have h0 : Below W.heap.size W (W.alloc (.cells #[.int .i64 a, .int .i64 b] 63)).drew := ((Below.refl _ W).alloc (Nat.le_refl _) _).drew
  exact ((h0.trans (h.mono h0.size)).setCell (Nat.le_refl _) _).setCell (Nat.le_refl _) _

/-- An object in a variable, with its kind. -/
def ObjKut (Wm wr wx : World) (k : Int) (l : List Nat) (p : Value) : Prop := ∃ nb v, p = .pointer (some ⟨nb, 0, none⟩) ∧ wx.heap[nb]? = some (.cells #[.int .i64 k, v] 107 (0, 0)) ∧ Ws Wm v l ∧ wr.heap.size ≤ nb ∧ Below wr.heap.size wr wx

def ScanEnd (W0 : World) (Y : Nat) (mv : Value) (F : Nat) (caps : Array Value) (K : List (Nat × Obj)) (a : Nat) (st : Mv) (e : Ending) (w' : World) : Prop :=
  e = .returned (.tuple #[]) ∧ MvSt W0 Y mv F caps K a st w'

theorem lead_each {R : List Spt} {kd : Int} {l : List Nat} {fr tt : Nat} (h : leadW kd l = (l.drop fr).take (tt - fr)) (ht : tt ≤ l.length) (hc : ∀ x ∈ leadW kd l, ∀ s', toP x = some s' → s' ∈ R) :
    ∀ k, fr ≤ k → k < tt → ∀ s', toP (l.getD k 0) = some s' → s' ∈ R := by
  intro k h1 h2 s' hs
  refine hc _ ?_ s' hs
  rw [h, List.mem_iff_getElem?]
  refine ⟨k - fr, ?_⟩
  rw [List.getElem?_take, if_pos (by omega), List.getElem?_drop, show fr + (k - fr) = k by omega, List.getD_eq_getElem?_getD, List.getElem?_eq_getElem (by omega)]
  rfl

theorem MInv.grow {m : List Frg} {a : Nat} {R : List Spt} {st s2 : Mv} (h : MInv m a R st) (h2 : MInv m a R s2) (hg : ∃ t, s2.went = st.went ++ t) : st.words.length ≤ s2.words.length := by
  obtain ⟨t, e⟩ := hg
  rw [h.len, h2.len, e]
  simp only [sumP, List.map_append, List.sum_append]
  omega

theorem MvMid.stSet {W0 w : World} {Y F a : Nat} {mv : Value} {caps : Array Value} {K : List (Nat × Obj)} {M : List (Spt × Nat)} {L : List Nat} {v q : Value} (h : MvMid W0 Y mv F caps K a M (M.map (·.1)) L v q w) : MvSt W0 Y mv F caps K a ⟨M, L⟩ w := h.st rfl

theorem own_some {w : World} {base n : Nat} {v : Value} {L : List Nat} (h : w.ownsRow base 47 1 v n (csW L)) (hn : 0 < n) : ∃ g c, v = .slice (some ⟨g, 0, none⟩) n c ∧ n ≤ c := by
  rcases h.2 with ⟨_, e⟩ | ⟨g, c, _, e, _, _, hc, _⟩
  · omega
  · exact ⟨g, c, e, hc⟩

set_option maxHeartbeats 16000000 in
set_option maxRecDepth 100000 in
theorem scan_any (Wm W0 : World) (Y : Nat) (m : List Frg) (mv : Value) (F : Nat) (caps : Array Value) (K : List (Nat × Obj)) (a : Nat) (R : List Spt) (st0 : Mv) (w : World) (E : MvEnv Wm W0 Y m mv F caps) (h : MvSt W0 Y mv F caps K a st0 w)
    (hI : MInv m a R st0) (hR : R.length ≤ 10000) (hC : Closed m R) (hok : ∀ s ∈ R, (s.2 = 4 ∨ s.2 = 5) ∧ In64 s.1) (ha : a ≤ 1125899906842624) :
    Calls Tryz.prog 63 #[.pointer (some ⟨W0.heap.size + 1, 0, none⟩)] w fun e w' => ScanEnd W0 Y mv F caps K a (scanP m a (R.length + 1) 0 st0) e w' := by
  have HE := Lib.hid E
  have HS := Lib.hid h
  have HI := Lib.hid hI
  have HC := Lib.hid hC
  have HOK := Lib.hid hok
  have hYh := E.yh
  obtain ⟨res, hres⟩ : ∃ res, scanP m a (R.length + 1) 0 st0 = res := ⟨_, rfl⟩
  have HRES := Lib.hid hres
  rw [hres]
  clear E h hI hC hok hres
  go_enter Tryz.func63, Tryz.ntmps63
  go_wp2_with fail
  go_loopw [2] (fun u wr => ∃ (i : Nat) (st : Mv), i ≤ st.went.length ∧ u = .int .i64 i ∧ Hid (MvSt W0 Y mv F caps K a st wr) ∧ Hid (MInv m a R st) ∧ Hid (scanP m a (R.length + 1 - i) i st = res)) (fun u _ => R.length + 1 - (intOf u).toNat)
  case atStart => exact ⟨0, st0, Nat.zero_le _, rfl, HS, HI, HRES⟩
  case round =>
    obtain ⟨i, st, hi, rfl, HST, HIV, HRS⟩ := hrel
    have hcnt := HIV.out.count
    obtain ⟨yv, qv, hmid⟩ := HST.out.mid
    have HMID := Lib.hid hmid
    have c0 := cell_of hmid.r3 0
    have c3 := cell_of hmid.r3 3
    simp at c0 c3
    have hsp := SpAt.of_own hmid.r4 (by rw [List.length_map]; omega)
    obtain ⟨-, qa, qc, hqe, hsc⟩ := hsp
    have hql : (st.went.map (·.1)).length = st.went.length := List.length_map _
    rw [hql] at hqe
    subst hqe
    clear hmid
    by_cases hlt : i < st.went.length
    · have p1 : (i : Int) < (st.went.length : Int) := by omega
      have p2 : (0 : Int) ≤ (i : Int) := by omega
      have p5 : IntKind.i64.wrap ((i : Int) + 1) = (i : Int) + 1 := IntWalk.i64_in _ (by omega)
      obtain ⟨gq, oq, rfl, k0, k1⟩ := hsc i (by rw [hql]; exact hlt)
      rw [List.getElem_map] at k0 k1
      have HSL := Lib.hid (show st.went[i].1 ∈ R from HIV.out.sub _ (List.mem_map_of_mem (List.getElem_mem hlt)))
      have HAT := Lib.hid (HIV.out.at hlt)
      have HRM := Lib.hid (HIV.out.room hlt)
      have HGD := Lib.hid (show (st.went.map (·.1)).getD i (0, 0) = st.went[i].1 by simp [List.getD, hlt])
      obtain ⟨⟨sa, stt⟩, hss⟩ : ∃ s, st.went[i].1 = s := ⟨_, rfl⟩
      rw [hss] at k0 k1 HSL HAT HRM HGD
      simp only at k0 k1
      obtain ⟨tn, rfl, htn⟩ : ∃ tn : Nat, stt = (tn : Int) ∧ (tn = 4 ∨ tn = 5) := by
        rcases (HOK.out _ HSL.out).1 with q | q
        · exact ⟨4, q, .inl rfl⟩
        · exact ⟨5, q, .inr rfl⟩
      have hin := (HOK.out _ HSL.out).2
      have HSO := Lib.hid (show SptOk (sa, (tn : Int)) from ⟨hin, by unfold In64; rcases htn with q | q <;> simp only <;> omega⟩)
      obtain ⟨kd, l, ho, hcl⟩ := HC.out _ HSL.out
      have HO := Lib.hid ho
      have HCL := Lib.hid hcl
      obtain ⟨base, hbase⟩ : ∃ base, sumP (lenO m) ((st.went.map (·.1)).take i) = base := ⟨_, rfl⟩
      rw [hbase] at HAT HRM
      have HBASE := Lib.hid hbase
      have HRM2 := Lib.hid (show base + l.length ≤ st.words.length by have h1 := HRM.out; unfold lenO at h1; rw [HO.out] at h1; exact h1)
      have hwl := HIV.out.words
      have hbb : base ≤ 100000 := by have := HRM2.out; omega
      clear hin ho hcl hbase hss hsc HRM
      have X1 := World.alloc_heap_new wr (.cells #[.int .i64 sa, .int .i64 (tn : Int)] 63)
      have B1 := Below.alloc (Below.refl wr.heap.size wr) (Nat.le_refl _) (.cells #[.int .i64 sa, .int .i64 (tn : Int)] 63)
      have H1 := Lib.hid (HST.out.keep hYh B1 X1 (Nat.le_refl _))
      go_upto_region 4 with fail
      obtain ⟨tb, htb⟩ : ∃ tb, wr.heap.size = tb := ⟨_, rfl⟩
      rw [htb] at H1 ⊢
      generalize wr.alloc (.cells #[.int .i64 sa, .int .i64 (tn : Int)] 63) = w4 at *
      clear B1 X1 k0 k1 c0 c3 HMID
      obtain ⟨yv, qv, hmid4⟩ := H1.out.mid
      have HX4 := Lib.hid (show w4.heap[tb]? = some (.cells #[.int .i64 sa, .int .i64 (tn : Int)] 63 (0, 0)) from (hmid4.r6 (tb, _) List.mem_cons_self).1)
      have v0 := cell_of hmid4.r3 0
      have s0 := cell_of HX4.out 0
      have s1 := cell_of HX4.out 1
      simp at v0 s0 s1
      have HMEM := Lib.hid (fun V (hV : Below w4.heap.size w4 V) => HE.out.below ((H1.out.lift hYh hV).base))
      have HO1 := Lib.hid (show Calls Tryz.prog 60 #[mv, .agg #[.int .i64 sa, .int .i64 (tn : Int)]] w4.drew fun e w' => ObjEnd Wm (objP m sa (tn : Int)) e ∧ Below w4.drew.heap.size w4.drew w' from object_at m mv sa (tn : Int) Wm w4.drew HE.out.rs (HMEM.out _ (Below.refl _ _).drew) HSO.out.1)
      have HO2 := Lib.hid (show Calls Tryz.prog 60 #[mv, .agg #[.int .i64 sa, .int .i64 (tn : Int)]] (w4.alloc (.cells #[.int .i64 0, .slice none 0 0] 107)).drew fun e w' => ObjEnd Wm (objP m sa (tn : Int)) e ∧ Below (w4.alloc (.cells #[.int .i64 0, .slice none 0 0] 107)).drew.heap.size (w4.alloc (.cells #[.int .i64 0, .slice none 0 0] 107)).drew w' from object_at m mv sa (tn : Int) Wm _ HE.out.rs (HMEM.out _ ((Below.refl _ _).alloc (Nat.le_refl _) _).drew) HSO.out.1)
      have n1 := World.new_ne _ _ v0
      have n2 := World.new_ne _ _ s0
      have n3 := World.new_ne _ _ s1
      clear hmid4
      go_cut [4, 5] from 29 to 37 (fun p ok wx => ObjKut Wm w4 wx kd l p)
      case first =>
        go_region_held3 (fun w' => w'.cell? ⟨W0.heap.size + 1, 0, none⟩ = some mv ∧ w'.cell? ⟨tb, 0, none⟩ = some (.int .i64 sa) ∧ w'.cell? ⟨tb, 1, none⟩ = some (.int .i64 (tn : Int))) (first | exact ⟨v0, s0, s1⟩ | with_reducible exact ⟨d0, d1, d2⟩ | go_keep) (first
          | (go_at_call 60; (with_reducible refine HO2.out.mono ?_); rintro e w6 ⟨⟨k', v', l', ok, rfl, hws, hok, hp⟩, hb6⟩
             obtain ⟨rfl, rfl⟩ : kd = k' ∧ l = l' := by have := hp _ HO.out; cases this; exact ⟨rfl, rfl⟩
             obtain ⟨_, _, la, lc, rfl, _⟩ := id hws
             have hb7 : Below w4.heap.size w4 w6 := ((Below.refl w4.heap.size w4).alloc (Nat.le_refl _) _).drew.trans (hb6.mono (by simp))
             have d0 := (hb7.cell (World.block_lt_of_cell? _ _ v0)).trans v0
             have d1 := (hb7.cell (World.block_lt_of_cell? _ _ s0)).trans s0
             have d2 := (hb7.cell (World.block_lt_of_cell? _ _ s1)).trans s1
             have hh := held_new hb6
             have y0 := cell_of hh 0
             have y1 := cell_of hh 1
             have z0 := free_of hh 0
             have z1 := free_of hh 1
             simp at y0 y1
             have F9 := Lib.hid (show ObjKut Wm w4 ((w6.setCell ⟨w4.heap.size, 0, none⟩ (.int .i64 kd)).setCell ⟨w4.heap.size, 1, none⟩ (.slice la l.length lc)) kd l (.pointer (some ⟨w4.heap.size, 0, none⟩)) from ⟨_, _, rfl, (made_ahead hb6 (hws.below (HMEM.out _ hb7))).1, hws, Nat.le_refl _, (made_ahead hb6 (hws.below (HMEM.out _ hb7))).2.2⟩)
             clear hws hb6 hp hok hh)
          | (go_at_call 60; (with_reducible refine HO1.out.mono ?_); rintro e w6 ⟨⟨k', v', l', ok, rfl, hws, hok, hp⟩, hb6⟩
             obtain ⟨rfl, rfl⟩ : kd = k' ∧ l = l' := by have := hp _ HO.out; cases this; exact ⟨rfl, rfl⟩
             obtain ⟨_, _, la, lc, rfl, _⟩ := id hws
             have hb7 : Below w4.heap.size w4 w6 := (Below.refl w4.heap.size w4).drew.trans hb6
             have d0 := (hb7.cell (World.block_lt_of_cell? _ _ v0)).trans v0
             have d1 := (hb7.cell (World.block_lt_of_cell? _ _ s0)).trans s0
             have d2 := (hb7.cell (World.block_lt_of_cell? _ _ s1)).trans s1
             have hsz := hb7.size
             have F9 := Lib.hid (show ObjKut Wm w4 (w6.alloc (.cells #[.int .i64 kd, .slice la l.length lc] 107)) kd l (.pointer (some ⟨w6.heap.size, 0, none⟩)) from ⟨_, _, rfl, (made_behind hb6 (hws.below (HMEM.out _ hb7))).1, hws, hb7.size, (made_behind hb6 (hws.below (HMEM.out _ hb7))).2.2⟩)
             clear hws hb6 hp hok))
        all_goals go_wp2_with fail
        all_goals go_meet
        all_goals exact F9.out
      case rest =>
        obtain ⟨nb, ov, rfl, hnb, hws, hnw, hb5⟩ := hcut
        have H2 := Lib.hid (H1.out.keep hYh hb5 hnb hnw)
        have HWS := Lib.hid hws
        clear hb5 v0 s0 s1 n1 n2 n3 HO1 HO2 HMEM hnb hws hnw HX4 H1
        obtain ⟨fr, tt, hlp, hft, htl, hlw, h8, hw1⟩ := lead_nat (objP_ok HO.out)
        have hl10 := objOK_le (objP_ok HO.out)
        have HGK := Lib.hid (lead_each hlw htl HCL.out)
        clear hlw
        obtain ⟨_, _, la, lc, hov, _⟩ := id HWS.out
        subst hov
        have HLP := Lib.hid hlp
        have y0 := cell_of (H2.out.kept List.mem_cons_self) 0
        have y1 := cell_of (H2.out.kept List.mem_cons_self) 1
        simp at y0 y1
        clear hlp
        go_wp2_with fail
        refine (leads_any kd la l.length lc _).mono ?_
        rintro e w5 ⟨rfl, hb5⟩
        rw [HLP.out]
        have H3 := Lib.hid (H2.out.lift hYh hb5)
        clear hb5 y0 y1 H2
        obtain ⟨yv, qv, hmid5⟩ := H3.out.mid
        have HX5 := Lib.hid (show w5.heap[tb]? = some (.cells #[.int .i64 sa, .int .i64 (tn : Int)] 63 (0, 0)) from (hmid5.r6 (tb, _) (List.mem_cons_of_mem _ List.mem_cons_self)).1)
        have v1 := cell_of hmid5.r3 1
        have s0 := cell_of HX5.out 0
        have s1 := cell_of HX5.out 1
        simp at v1 s0 s1
        have hyb : (a + base) * 8 + tn < 18446744073709551616 := by omega
        have HLK := Lib.hid (fun V (hV : Below w5.heap.size w5 V) => ((H3.out.lift hYh hV).map.look1 (s := (sa, (tn : Int))) HSO.out))
        have HTO := Lib.hid (show ∀ V, Calls Tryz.prog 59 #[.int .u64 (((a + base) * 8 + tn : Nat) : Int)] V fun e w' => e = .returned (.tuple #[.agg #[.int .i64 ((a + base : Nat) : Int), .int .i64 (tn : Int)], .bool true]) ∧ Below V.heap.size V w' from fun V => (to_any ((a + base) * 8 + tn) hyb V).mono fun e w' q => ⟨by have := q.1; unfold ToEnd at this; rw [toP_mk htn (by omega)] at this; exact this, q.2⟩)
        have SK := Lib.hid (show ∀ V, Below w5.heap.size w5 V → V.cell? ⟨W0.heap.size + 1, 1, none⟩ = some (.map (some W0.heap.size)) ∧ V.cell? ⟨tb, 0, none⟩ = some (.int .i64 sa) ∧ V.cell? ⟨tb, 1, none⟩ = some (.int .i64 (tn : Int)) ∧ (Instr.lookup 61 (.map (some W0.heap.size)) (spotV (sa, (tn : Int))) false).run Tryz.prog V = .ok (.int .u64 (((a + base) * 8 + tn : Nat) : Int)) V from fun V hV =>
          ⟨(hV.cell (World.block_lt_of_cell? _ _ v1)).trans v1, (hV.cell (World.block_lt_of_cell? _ _ s0)).trans s0, (hV.cell (World.block_lt_of_cell? _ _ s1)).trans s1, by have := HLK.out V hV; rw [HAT.out] at this; simpa using this⟩)
        clear hmid5 HLK v1 s0 s1
        generalize hab : a + base = ab at *
        generalize hyy : ab * 8 + tn = y at *
        have G0 := Lib.hid (SK.out w5 (Below.refl _ _))
        have G1 := Lib.hid (SK.out w5.drew (Below.refl _ _).drew)
        have G2 := Lib.hid (SK.out (w5.alloc (.cells #[.int .i64 0, .int .i64 0] 63)) ((Below.refl _ _).alloc (Nat.le_refl _) _))
        have G3 := Lib.hid (SK.out (w5.alloc (.cells #[.int .i64 0, .int .i64 0] 63)).drew ((Below.refl _ _).alloc (Nat.le_refl _) _).drew)
        go_upto_region 6 with fail
        go_cut [8, 9] from 43 to 52 (fun p ok wx => SpCut w5 wx (ab : Int) (tn : Int) p)
        case first =>
          go_region_held3 (fun w' => w'.cell? ⟨W0.heap.size + 1, 1, none⟩ = some (.map (some W0.heap.size)) ∧ w'.cell? ⟨tb, 0, none⟩ = some (.int .i64 sa) ∧ w'.cell? ⟨tb, 1, none⟩ = some (.int .i64 (tn : Int)) ∧ (Instr.lookup 61 (.map (some W0.heap.size)) (spotV (sa, (tn : Int))) false).run Tryz.prog w' = .ok (.int .u64 (y : Nat)) w') (first | with_reducible exact G0.out | with_reducible exact G1.out | with_reducible exact G2.out | with_reducible exact G3.out | with_reducible exact G6.out | with_reducible exact G7.out | with_reducible exact G8.out | go_keep) (first
            | (go_at_call 59; (with_reducible refine (HTO.out _).mono ?_); rintro e w6 ⟨rfl, hb6⟩
               have hb7 : Below w5.heap.size w5 w6 := ((Below.refl w5.heap.size w5).alloc (Nat.le_refl _) _).drew.trans (hb6.mono (by simp))
               have hh := held_new hb6
               have y0 := cell_of hh 0
               have y1 := cell_of hh 1
               have z0 := free_of hh 0
               have z1 := free_of hh 1
               simp at y0 y1
               have F9 := Lib.hid (show SpCut w5 ((w6.setCell ⟨w5.heap.size, 0, none⟩ (.int .i64 (ab : Int))).setCell ⟨w5.heap.size, 1, none⟩ (.int .i64 (tn : Int))) (ab : Int) (tn : Int) (.pointer (some ⟨w5.heap.size, 0, none⟩)) from spot_ahead hb6)
               have G6 := Lib.hid (SK.out w6 hb7)
               have G7 := Lib.hid (SK.out (w6.setCell ⟨w5.heap.size, 0, none⟩ (.int .i64 (ab : Int))) (hb7.setCell (Nat.le_refl _) _))
               have G8 := Lib.hid (SK.out ((w6.setCell ⟨w5.heap.size, 0, none⟩ (.int .i64 (ab : Int))).setCell ⟨w5.heap.size, 1, none⟩ (.int .i64 (tn : Int))) ((hb7.setCell (Nat.le_refl _) _).setCell (Nat.le_refl _) _))
               clear hb6 hh)
            | (go_at_call 59; (with_reducible refine (HTO.out _).mono ?_); rintro e w6 ⟨rfl, hb6⟩
               have hb7 : Below w5.heap.size w5 w6 := (Below.refl w5.heap.size w5).drew.trans hb6
               have hsz := hb7.size
               have G6 := Lib.hid (SK.out w6 hb7)
               have G7 := Lib.hid (SK.out (w6.alloc (.cells #[.int .i64 0, .int .i64 0] 63)) (hb7.alloc hb7.size _))
               have G8 := Lib.hid (SK.out (w6.alloc (.cells #[.int .i64 (ab : Int), .int .i64 (tn : Int)] 63)) (hb7.alloc hb7.size _))
               have F9 := Lib.hid (show SpCut w5 (w6.alloc (.cells #[.int .i64 (ab : Int), .int .i64 (tn : Int)] 63)) (ab : Int) (tn : Int) (.pointer (some ⟨w6.heap.size, 0, none⟩)) from spot_behind hb6)
               clear hb6))
          all_goals go_wp2_with fail
          all_goals go_meet
          all_goals exact F9.out
        case rest =>
          obtain ⟨xb, rfl, hxb, hxn, hbx⟩ := hcut
          have H4 := Lib.hid (H3.out.keep hYh hbx hxb hxn)
          clear hbx hxb hxn G0 G1 G2 G3 SK HTO HX5 H3
          obtain ⟨K', hK⟩ : ∃ K', (xb, Obj.cells #[.int .i64 (ab : Int), .int .i64 (tn : Int)] 63 (0, 0)) :: (nb, Obj.cells #[.int .i64 kd, .slice la l.length lc] 107 (0, 0)) :: (tb, Obj.cells #[.int .i64 sa, .int .i64 (tn : Int)] 63 (0, 0)) :: K = K' := ⟨_, rfl⟩
          have HK1 := Lib.hid (show (xb, Obj.cells #[.int .i64 (ab : Int), .int .i64 (tn : Int)] 63 (0, 0)) ∈ K' by rw [← hK]; simp)
          have HK2 := Lib.hid (show (nb, Obj.cells #[.int .i64 kd, .slice la l.length lc] 107 (0, 0)) ∈ K' by rw [← hK]; simp)
          have HK3 := Lib.hid (show (tb, Obj.cells #[.int .i64 sa, .int .i64 (tn : Int)] 63 (0, 0)) ∈ K' by rw [← hK]; simp)
          have HK4 := Lib.hid (show ∀ p ∈ K, p ∈ K' by rw [← hK]; intro p hp; simp [hp])
          have H4 := Lib.hid (show MvSt W0 Y mv F caps K' a st wc by rw [← hK]; exact H4.out)
          clear hK
          have HSC := Lib.hid (show scanO m a st i = scanK m a base l (tt - fr) fr st by
            unfold scanO
            rw [HGD.out, HO.out]
            simp only [HLP.out, HBASE.out]
            congr 1 <;> omega)
          obtain ⟨st', hst'⟩ : ∃ st', scanO m a st i = st' := ⟨_, rfl⟩
          rw [hst'] at HSC
          have HNX := Lib.hid (show scanP m a (R.length + 1 - (i + 1)) (i + 1) st' = res by
            have := HRS.out
            rw [show R.length + 1 - i = (R.length + 1 - (i + 1)) + 1 by omega] at this
            unfold scanP at this
            rw [if_pos hlt, hst'] at this
            exact this)
          clear hst'
          obtain ⟨wo, hwo⟩ : ∃ wo : World, wo = wr := ⟨_, rfl⟩
          go_wp2_with fail
          go_loopw [10] (fun u wr2 => ∃ (k : Nat) (s2 : Mv), fr ≤ k ∧ k ≤ tt ∧ u = .int .i64 k ∧ Hid (MvSt W0 Y mv F caps K' a s2 wr2) ∧ Hid (MInv m a R s2) ∧ Hid (∃ t, s2.went = st.went ++ t) ∧ Hid (scanK m a base l (tt - k) k s2 = st')) (fun u _ => tt - (intOf u).toNat)
          case atStart => exact ⟨fr, st, Nat.le_refl _, hft, rfl, H4, HIV, Lib.hid ⟨[], by simp⟩, Lib.hid HSC.out.symm⟩
          case round =>
            obtain ⟨k, s2, hk1, hk2, rfl, L1, L2, L3, L4⟩ := hrel
            by_cases hkt : k < tt
            · have r1 : (k : Int) < (tt : Int) := by omega
              have r2 : (0 : Int) ≤ (k : Int) := by omega
              have r3 : (k : Int) < (l.length : Int) := by omega
              have r5 : IntKind.i64.wrap ((k : Int) + 1) = (k : Int) + 1 := IntWalk.i64_in _ (by omega)
              have hkl : k < l.length := by omega
              obtain ⟨hlm, hu, la', lc', he, hlcc, -, hx⟩ := HWS.out
              simp only [Value.slice.injEq, true_and] at he
              obtain ⟨rfl, rfl⟩ := he
              obtain ⟨g6, o6, rfl, kw⟩ := hx k hkl
              have kw1 := ((HE.out.below L1.out.base).cell (World.block_lt_of_cell? _ _ kw)).trans kw
              have hxu := hu _ (List.getElem_mem hkl)
              have HLK := Lib.hid (show l.getD k 0 = l[k] by simp [List.getD, hkl])
              have HGR := Lib.hid (HGK.out k hk1 hkt)
              obtain ⟨x, hxx⟩ : ∃ x, l[k] = x := ⟨_, rfl⟩
              rw [HLK.out, hxx] at HGR
              rw [hxx] at kw1 hxu HLK
              have b1 := cell_of (L1.out.kept HK2.out) 1
              simp at b1
              have hcn := L2.out.count
              have hwn := L2.out.words
              clear hx hu kw hxx
              go_wp2_with fail
              refine (move_any Wm W0 Y m mv F caps K' a s2 x wr HE.out L1.out hxu (fun s hs => by obtain ⟨k', l', ho', _⟩ := HC.out s (HGR.out s hs); rw [ho']; rfl) ha (by omega) (by omega)).mono ?_
              rintro e w6 ⟨rfl, hms⟩
              obtain ⟨mi, mg⟩ := L2.out.move HGR.out
              have M2 := Lib.hid mi
              have M3 := Lib.hid (show ∃ t, (moveP m a s2 x).2.went = st.went ++ t by obtain ⟨t, e⟩ := L3.out; obtain ⟨t2, e2⟩ := mg; exact ⟨t ++ t2, by rw [e2, e, List.append_assoc]⟩)
              have M4 := Lib.hid (show scanK m a base l (tt - (k + 1)) (k + 1) ⟨(moveP m a s2 x).2.went, (moveP m a s2 x).2.words.set (base + k) (moveP m a s2 x).1⟩ = st' by
                have := L4.out
                rw [show tt - k = (tt - (k + 1)) + 1 by omega] at this
                unfold scanK at this
                rw [HLK.out] at this
                exact this)
              have hgw := HIV.out.grow mi M3.out
              have hzl : base + k < (moveP m a s2 x).2.words.length := by have := HRM2.out; omega
              have hml := mi.words
              clear mi mg kw1 b1
              generalize moveP m a s2 x = mr at *
              obtain ⟨y2, s3⟩ := mr
              simp only at hzl hms hml M2 M3 M4
              have HMS := Lib.hid hms
              clear hms
              have HM1 := Lib.hid (HE.out.goes (sa, (tn : Int)) w6.drew HSO.out (grown_then HMS.out.base (Below.drew (Below.refl _ _))))
              have HCF := HE.out.enter
              obtain ⟨yv, qv, hmid6⟩ := HMS.out.mid
              have v2 : w6.drew.cell? ⟨W0.heap.size + 1, 2, none⟩ = some (.func (.func F) #[] caps) := cell_of (show w6.drew.heap[W0.heap.size + 1]? = _ from hmid6.r3) 2
              have s0 : w6.drew.cell? ⟨tb, 0, none⟩ = some (.int .i64 sa) := cell_of (show w6.drew.heap[tb]? = _ from HMS.out.kept HK3.out) 0
              have s1 : w6.drew.cell? ⟨tb, 1, none⟩ = some (.int .i64 (tn : Int)) := cell_of (show w6.drew.heap[tb]? = _ from HMS.out.kept HK3.out) 1
              clear hmid6
              go_upto_region 11 with fail
              refine wp_region_still_tail 5 (by kernel_rfl) (by kernel_rfl) ?_
              simp only [List.take_succ_cons, List.take_zero, List.drop_succ_cons, List.drop_zero]
              change wpStill _ _ w6.drew (fun a' => wpList _ _ _ _ a' w6.drew) _ _
              have HMD := Lib.hid (HMS.out.lift hYh ((Below.refl w6.heap.size w6).drew))
              clear HMS
              generalize w6.drew = we at *
              repeat still_step
              refine wpStill_nil ?_
              go_wp2_with fail
              refine (HM1.out).mono ?_
              rintro e w8 ⟨rfl, hb8⟩
              have HM8 := Lib.hid (HMD.out.lift hYh hb8)
              clear hb8 HMD HM1 HCF v2 s0 s1
              obtain ⟨yv, qv, hmid8⟩ := HM8.out.mid
              obtain ⟨gw, cw, rfl, hcw⟩ := own_some hmid8.r2 (by omega)
              have HMID := Lib.hid hmid8
              have y0 := cell_of hmid8.r1 0
              have y1 := cell_of hmid8.r1 1
              have x0 := cell_of (HM8.out.kept HK1.out) 0
              obtain ⟨z, hz⟩ : ∃ z, base + k = z := ⟨_, rfl⟩
              rw [hz] at hzl M4
              obtain ⟨kz, fz⟩ := own_cellW hmid8.r2 hzl
              have q1 : IntKind.i64.wrap ((ab : Int) - (a : Int)) = (base : Int) := by rw [IntWalk.i64_in _ (by omega)]; omega
              have q2 : IntKind.i64.wrap ((base : Int) + (k : Int)) = (z : Int) := by rw [IntWalk.i64_in _ (by omega)]; omega
              have q3 : (0 : Int) ≤ (z : Int) := by omega
              have q4 : (z : Int) < (s3.words.length : Int) := by omega
              simp at y0 y1 x0
              clear hmid8
              go_upto_region 12 with fail
              go_region
              have HFIN := Lib.hid ((HMID.out.lift hYh ((Below.refl w8.heap.size w8).drew)).stored hYh rfl hzl y2).stSet
              have M5 := Lib.hid (M2.out.set z y2)
              go_wp2_with fail
              go_roundw
              case rel => exact ⟨k + 1, _, by omega, by omega, by go_num, HFIN, M5, M3, M4⟩
              case measure => simp [intOf]; omega
            · obtain rfl : k = tt := by omega
              have r1 : ¬ (k : Int) < (k : Int) := by omega
              have HFI := Lib.hid (show s2 = st' by have := L4.out; rw [Nat.sub_self] at this; exact this)
              have HGW := Lib.hid (show i + 1 ≤ s2.went.length by obtain ⟨t, e⟩ := L3.out; rw [e, List.length_append]; omega)
              go_wp2_with fail
              go_roundw
              case rel => exact ⟨i + 1, s2, HGW.out, by go_num, Lib.hid (L1.out.less HK4.out), L2, Lib.hid (by rw [HFI.out]; exact HNX.out)⟩
              case measure => simp [intOf]; omega
    · have p1 : ¬ (i : Int) < (st.went.length : Int) := by omega
      have HFI := Lib.hid (show st = res by
        have h := HRS.out
        cases hr : R.length + 1 - i with
        | zero => rw [hr] at h; exact h
        | succ n => rw [hr] at h; unfold scanP at h; rw [if_neg hlt] at h; exact h)
      go_wp2_with fail
      go_end0
      exact ⟨rfl, by rw [← HFI.out]; exact HST.out⟩

end Go.Proofs.YtlmpmjhanpkcnaaGreat

namespace Go.Proofs.YtlmpmjhanpkcnaaGreat
open Go.RowKit Go.Maps

/-- A row's block among those that are kept. -/
def Kout (v : Value) (w : World) (K : List (Nat × Obj)) : List (Nat × Obj) := match v.ownBlock with
  | none => K
  | some b => match w.heap[b]? with | some o => (b, o) :: K | none => K

theorem Kout_none {v : Value} {w : World} {K : List (Nat × Obj)} (h : v.ownBlock = none) : Kout v w K = K := by unfold Kout; rw [h]
theorem Kout_some {v : Value} {w : World} {K : List (Nat × Obj)} {b : Nat} {o : Obj} (h : v.ownBlock = some b) (ho : w.heap[b]? = some o) : Kout v w K = (b, o) :: K := by unfold Kout; rw [h]; simp only; rw [ho]

theorem Kout_sub {v : Value} {w : World} {K : List (Nat × Obj)} : ∀ p ∈ K, p ∈ Kout v w K := by
  intro p hp
  unfold Kout
  split
  · exact hp
  · split
    · exact List.mem_cons_of_mem _ hp
    · exact hp

/-- A row that is kept. -/
theorem own_stays {w w' : World} {base e size n : Nat} {v : Value} {xs : List Value} {K : List (Nat × Obj)} (h : w.ownsRow base e size v n xs) (hk : ∀ p ∈ Kout v w K, w'.heap[p.1]? = some p.2) : w'.ownsRow base e size v n xs ∧ Kout v w' K = Kout v w K := by
  refine ⟨⟨h.1, ?_⟩, ?_⟩
  · rcases h.2 with e | ⟨g, cap, cur, e, hb, hg, r⟩
    · exact .inl e
    · have := hk (g, _) (by rw [Kout_some (by rw [e]; rfl) hg]; exact List.mem_cons_self)
      exact .inr ⟨g, cap, cur, e, hb, this, r⟩
  · rcases h.2 with ⟨e, _⟩ | ⟨g, cap, cur, e, hb, hg, r⟩
    · rw [Kout_none (by rw [e]; rfl), Kout_none (by rw [e]; rfl)]
    · have := hk (g, _) (by rw [Kout_some (by rw [e]; rfl) hg]; exact List.mem_cons_self)
      rw [Kout_some (by rw [e]; rfl) hg, Kout_some (by rw [e]; rfl) this]

/-- Behind an append to a row that is kept. -/
theorem MvSt.append {W0 w w1 w9 : World} {Y F a B e size n n9 : Nat} {mv : Value} {caps : Array Value} {K : List (Nat × Obj)} {st : Mv} {v v9 : Value} {xs xs9 : List Value} (hY : Y < W0.heap.size) (h : MvSt W0 Y mv F caps (Kout v w K) a st w)
    (hown : w.ownsRow B e size v n xs) (hB : W0.heap.size + 2 ≤ B) (hK : ∀ p ∈ K, v.ownBlock ≠ some p.1) (h1 : Below w.heap.size w w1) (hg : w1.grownBy w9 v.ownBlock) (hown9 : w9.ownsRow B e size v9 n9 xs9) (hq : v9.ownBlock = v.ownBlock ∨ v9.ownBlock = some w1.heap.size) :
    MvSt W0 Y mv F caps (Kout v9 w9 K) a st w9 ∧ ∀ p ∈ K, v9.ownBlock ≠ some p.1 := by
  have hL := h.lift hY h1
  obtain ⟨g1, g2, ⟨v', q', s1, s2, s3, s4, s5, s6⟩, g4⟩ := hL
  have hvB : ∀ b, v.ownBlock = some b → B ≤ b := fun b e => (hown.lt b e).1
  have hne : ∀ i, i < B → some i ≠ v.ownBlock := fun i hi e => by have := hvB i e.symm; omega
  have hvk : ∀ b, v.ownBlock = some b → v'.ownBlock ≠ some b ∧ q'.ownBlock ≠ some b := by
    intro b e
    have hb := (hown.lt b e).2
    obtain ⟨o, ho⟩ : ∃ o, w.heap[b]? = some o := ⟨_, Array.getElem?_eq_getElem hb⟩
    exact (s6 (b, o) (by rw [Kout_some e ho]; exact List.mem_cons_self)).2.2
  have r2' := s2.kept hg (by
    by_cases e : v'.ownBlock = none
    · exact .inl e
    · exact .inr (fun q => by obtain ⟨b, hb⟩ := Option.ne_none_iff_exists'.1 e; exact (hvk b (by first | rw [← q, hb] | rw [q, hb])).1 hb))
  have r4' := s4.kept hg (by
    by_cases e : q'.ownBlock = none
    · exact .inl e
    · exact .inr (fun q => by obtain ⟨b, hb⟩ := Option.ne_none_iff_exists'.1 e; exact (hvk b (by first | rw [← q, hb] | rw [q, hb])).2 hb))
  have hsz := hg.size
  have k6 : ∀ p ∈ K, w9.heap[p.1]? = some p.2 ∧ W0.heap.size + 2 ≤ p.1 ∧ v'.ownBlock ≠ some p.1 ∧ q'.ownBlock ≠ some p.1 := by
    intro p hp
    have s := s6 p (Kout_sub p hp)
    exact ⟨(hg.block p.1 (lt_of_block s.1) (fun e => hK p hp e.symm)).trans s.1, s.2⟩
  refine ⟨?_, fun p hp e => ?_⟩
  rotate_left
  · rcases hq with hq | hq
    · exact hK p hp (by rw [← hq]; exact e)
    · rw [hq] at e
      have := lt_of_block (s6 p (Kout_sub p hp)).1
      simp at e
      omega
  refine ⟨⟨hg.os.trans g1.os, hg.tape.trans g1.tape, hg.output.trans g1.output, Nat.le_trans g1.size hg.size, fun i hi hn => (hg.block i (by have := g1.size; omega) (hne i (by omega))).trans (g1.block i hi hn)⟩, by omega,
    ⟨v', q', (hg.block Y (by omega) (hne Y (by omega))).trans s1, r2', (hg.block _ (by omega) (hne _ (by omega))).trans s3, r4', s5, fun p hp => ?_⟩, g4.block (hg.block _ (by omega) (hne _ (by omega)))⟩
  cases e9 : v9.ownBlock with
  | none => rw [Kout_none e9] at hp; exact k6 p hp
  | some b =>
    have hb := hown9.lt b e9
    obtain ⟨o, ho⟩ : ∃ o, w9.heap[b]? = some o := ⟨_, Array.getElem?_eq_getElem hb.2⟩
    rw [Kout_some e9 ho] at hp
    rcases List.mem_cons.1 hp with rfl | hp
    · refine ⟨ho, by simp only; omega, ?_⟩
      rcases hq with hq | hq
      · exact hvk b (by rw [← hq]; exact e9)
      · rw [hq] at e9
        cases e9
        exact ⟨fun e => by have := (s2.lt _ e).2; simp only at this; omega, fun e => by have := (s4.lt _ e).2; simp only at this; omega⟩
    · exact k6 p hp

/-- Roots behind a collection. -/
def movesP (m : List Frg) (a : Nat) : List Nat → Mv → List Nat × Mv
  | [], st => ([], st)
  | x :: r, st => ((moveP m a st x).1 :: (movesP m a r (moveP m a st x).2).1, (movesP m a r (moveP m a st x).2).2)

theorem movesP_snoc (m : List Frg) (a : Nat) (x : Nat) : ∀ (L : List Nat) (st : Mv), movesP m a (L ++ [x]) st = ((movesP m a L st).1 ++ [(moveP m a (movesP m a L st).2 x).1], (moveP m a (movesP m a L st).2 x).2)
  | [], st => rfl
  | y :: r, st => by simp only [List.cons_append, movesP, movesP_snoc m a x r]

def MovedEnd (W0 : World) (Y : Nat) (mv : Value) (F : Nat) (caps : Array Value) (K : List (Nat × Obj)) (a : Nat) (out : List Nat) (st : Mv) (e : Ending) (w' : World) : Prop :=
  ∃ v, e = .returned v ∧ w'.ownsRow (W0.heap.size + 2) 47 1 v out.length (csW out) ∧ MvSt W0 Y mv F caps (Kout v w' K) a st w' ∧ ∀ p ∈ K, v.ownBlock ≠ some p.1

set_option maxHeartbeats 16000000 in
set_option maxRecDepth 100000 in
theorem moved_any (Wm W0 : World) (Y : Nat) (m : List Frg) (mv : Value) (F : Nat) (caps : Array Value) (K : List (Nat × Obj)) (a : Nat) (R : List Spt) (st0 : Mv) (rv : Value) (roots : List Nat) (w : World) (E : MvEnv Wm W0 Y m mv F caps) (h : MvSt W0 Y mv F caps K a st0 w)
    (hI : MInv m a R st0) (hR : R.length ≤ 10000) (hC : Closed m R) (hok : ∀ s ∈ R, (s.2 = 4 ∨ s.2 = 5) ∧ In64 s.1) (ha : a ≤ 1125899906842624) (hr : Ws Wm rv roots) (hrl : roots.length ≤ 1000) (hin : ∀ x ∈ roots, ∀ s, toP x = some s → s ∈ R) :
    Calls Tryz.prog 30 #[.pointer (some ⟨W0.heap.size + 1, 0, none⟩), rv] w fun e w' => MovedEnd W0 Y mv F caps K a (movesP m a roots st0).1 (scanP m a (R.length + 1) 0 (movesP m a roots st0).2) e w' := by
  have HE := Lib.hid E
  have HS := Lib.hid h
  have HI := Lib.hid hI
  have HC := Lib.hid hC
  have HOK := Lib.hid hok
  have HIN := Lib.hid hin
  have hYh := E.yh
  have hsz := h.sz
  have HKB := Lib.hid (show ∀ p ∈ K, p.1 < w.heap.size from fun p hp => lt_of_block (h.kept hp))
  obtain ⟨-, hru, ra, rc, rfl, hrc, hrm, hrx⟩ := hr
  have HRU := Lib.hid hru
  have HRX := Lib.hid hrx
  obtain ⟨i0, hi, hz0, hz1, hz2⟩ := info_parts info37
  clear E h hI hC hok hru hrx hin
  go_enter Tryz.func30, Tryz.ntmps30
  go_wp2_with fail
  go_loopw [5, 10] (fun o i wr => ∃ (k : Nat) (out : List Nat) (st : Mv), k ≤ roots.length ∧ i = .int .i64 k ∧ Hid (movesP m a (roots.take k) st0 = (out, st)) ∧ Hid (wr.ownsRow (W0.heap.size + 2) 47 1 o out.length (csW out)) ∧ Hid (MvSt W0 Y mv F caps (Kout o wr K) a st wr) ∧ Hid (MInv m a R st) ∧ Hid (out.length = k) ∧ Hid (∀ p ∈ K, o.ownBlock ≠ some p.1)) (fun _ i _ => roots.length - (intOf i).toNat)
  case atStart => exact ⟨0, [], st0, by omega, rfl, Lib.hid rfl, Lib.hid (World.ownsRow_nil _ _ _ _), Lib.hid HS.out, HI, Lib.hid rfl, Lib.hid (fun p _ e => by cases e)⟩
  case round =>
    obtain ⟨k, out, st, hk, rfl, L1, L2, L3, L4, L5, L6⟩ := hrel
    by_cases hlt : k < roots.length
    · obtain ⟨g, o, rfl, kw⟩ := HRX.out k hlt
      have kw1 := ((HE.out.below L3.out.base).cell (World.block_lt_of_cell? _ _ kw)).trans kw
      have hxu := HRU.out _ (List.getElem_mem hlt)
      have HXR := Lib.hid (HIN.out _ (List.getElem_mem hlt))
      have HTK := Lib.hid (List.take_succ_eq_append_getElem hlt)
      obtain ⟨x, hxx⟩ : ∃ x, roots[k] = x := ⟨_, rfl⟩
      rw [hxx] at kw1 hxu HXR HTK
      have p1 : (k : Int) < (roots.length : Int) := by omega
      have p2 : (0 : Int) ≤ (k : Int) := by omega
      have p5 : IntKind.i64.wrap ((k : Int) + 1) = (k : Int) + 1 := IntWalk.i64_in _ (by omega)
      have hcn := L4.out.count
      have hwn := L4.out.words
      have hol := L5.out
      clear kw hxx
      go_wp2_with fail
      refine (move_any Wm W0 Y m mv F caps _ a st x wr HE.out L3.out hxu (fun s hs => by obtain ⟨k', l', ho', _⟩ := HC.out s (HXR.out s hs); rw [ho']; rfl) ha (by omega) (by omega)).mono ?_
      rintro e w6 ⟨rfl, hms⟩
      have M1 := Lib.hid (show movesP m a (roots.take (k + 1)) st0 = (out ++ [(moveP m a st x).1], (moveP m a st x).2) by rw [HTK.out, movesP_snoc, L1.out])
      have M4 := Lib.hid (L4.out.move HXR.out).1
      generalize moveP m a st x = mr at *
      obtain ⟨y, s2⟩ := mr
      simp only at hms M1 M4
      obtain ⟨ho6, hk6⟩ := own_stays L2.out (fun p hp => hms.kept hp)
      rw [← hk6] at hms
      have O6 := Lib.hid ho6
      have S6 := Lib.hid hms
      have hs6 := hms.sz
      have B7 := Lib.hid ((Below.refl w6.heap.size w6).alloc (Nat.le_refl _) (.cells #[.int .u64 y] 47))
      clear ho6 hk6 hms kw1
      go_wp2_with (at_builtin; refine wpList_append_own_at _ rfl (.tmp 14) (.tmp 18) 22 rfl (W0.heap.size + 2) 47 i0 _ 1 8 Tryz.underlying22 hi hz0 hz1 hz2 rfl (by decide) _ out.length (csW out) rfl (World.ownsRow.alloc O6.out _) _ 1 1 [.int .u64 y] rfl rfl (fun i u hi => by
            match i with
            | 0 => simp at hi; subst hi; simp [Addr.add_lit]
            | i + 1 => simp at hi) (fun u hu => by simp at hu; subst hu; rfl) (by unfold maxLen; omega) (by omega) (by simp; omega) ?_; intro v9 w9 hown9 hgrow9 _ hloc9
                   have O9 := Lib.hid (show w9.ownsRow (W0.heap.size + 2) 47 1 v9 (out ++ [y]).length (csW (out ++ [y])) by rw [csW_snoc, List.length_append]; exact hown9)
                   have AP := Lib.hid (S6.out.append hYh O6.out (Nat.le_refl _) L6.out B7.out hgrow9 hown9 hloc9)
                   clear hown9 hgrow9 hloc9)
      go_roundw
      case rel => exact ⟨k + 1, out ++ [y], s2, by omega, by go_num, M1, O9, Lib.hid AP.out.1, M4, Lib.hid (by rw [List.length_append, hol]; rfl), Lib.hid AP.out.2⟩
      case measure => simp [intOf]; omega
    · obtain rfl : k = roots.length := by omega
      have p1 : ¬ (roots.length : Int) < (roots.length : Int) := by omega
      have HFI := Lib.hid (show movesP m a roots st0 = (out, st) by have := L1.out; rwa [List.take_length] at this)
      go_wp2_with fail
      refine (scan_any Wm W0 Y m mv F caps _ a R st wr HE.out L3.out L4.out hR HC.out HOK.out ha).mono ?_
      rintro e w6 ⟨rfl, hms⟩
      obtain ⟨ho6, hk6⟩ := own_stays L2.out (fun p hp => hms.kept hp)
      rw [← hk6] at hms
      have O6 := Lib.hid ho6
      have S6 := Lib.hid hms
      clear ho6 hk6 hms
      go_wp2_with fail
      go_ret
      refine ⟨_, rfl, ?_, ?_, L6.out⟩
      · rw [HFI.out]; exact O6.out
      · rw [HFI.out]; exact S6.out

end Go.Proofs.YtlmpmjhanpkcnaaGreat
