/-
  Collect, plain: what stands where an object went.
  Collect, plain: behind a collection each object's words are its own, moved.
  Collect, plain: behind a collection each word stands for the same term.
-/
import Derived.Test.YtlmpmjhanpkcnaaGreatM31
import Derived.Test.YtlmpmjhanpkcnaaGreatM26
set_option linter.unusedVariables false
set_option linter.unusedSimpArgs false
namespace Go.Proofs.YtlmpmjhanpkcnaaGreat
open Go.RowKit Go.Maps

/-- A word that leads to where its object went, once all have gone. -/
def phi (W : List (Spt × Nat)) (x : Nat) : Nat := match toP x with
  | none => x
  | some s => (wentAt W s).getD x

theorem phi_none {W : List (Spt × Nat)} {x : Nat} (h : toP x = none) : phi W x = x := by unfold phi; rw [h]
theorem phi_some {W : List (Spt × Nat)} {x y : Nat} {s : Spt} (h : toP x = some s) (hw : wentAt W s = some y) : phi W x = y := by unfold phi; rw [h]; simp only; rw [hw]; rfl

theorem wentAt_append {W T : List (Spt × Nat)} {s : Spt} {y : Nat} (h : wentAt W s = some y) : wentAt (W ++ T) s = some y := by
  induction W with
  | nil => cases h
  | cons p r ih =>
    obtain ⟨u, z⟩ := p
    simp only [List.cons_append, wentAt] at h ⊢
    split
    · rename_i e; rw [if_pos e] at h; exact h
    · rename_i e; rw [if_neg e] at h; exact ih h

theorem wentAt_key {W : List (Spt × Nat)} {s : Spt} (h : s ∈ W.map (·.1)) : ∃ y, wentAt W s = some y := by
  cases hw : wentAt W s with
  | some y => exact ⟨y, rfl⟩
  | none => exact absurd h (wentAt_none.1 hw)

theorem phi_grew {st st' : Mv} (h : Grew st st') {x : Nat} (hk : ∀ s, toP x = some s → s ∈ st.keys) : phi st'.went x = phi st.went x := by
  obtain ⟨t, e⟩ := h
  cases ht : toP x with
  | none => rw [phi_none ht, phi_none ht]
  | some s =>
    obtain ⟨y, hy⟩ := wentAt_key (hk s ht)
    rw [phi_some ht hy, phi_some ht (by rw [e]; exact wentAt_append hy)]

theorem move_phi {m : List Frg} {a : Nat} {st : Mv} (x : Nat) : (moveP m a st x).1 = phi (moveP m a st x).2.went x := by
  cases ht : toP x with
  | none => rw [moveP_none ht, phi_none ht]
  | some s =>
    cases hw : wentAt st.went s with
    | some y => rw [moveP_old ht hw, phi_some ht hw]
    | none =>
      unfold moveP
      rw [ht]
      simp only
      rw [hw]
      simp only
      rw [phi_some (y := (a + st.words.length) * 8 + s.2.toNat) ht]
      rw [wentAt_snoc, hw]
      simp

/-- Where an object's words begin. -/
def Mv.base (m : List Frg) (st : Mv) (j : Nat) : Nat := sumP (lenO m) (st.keys.take j)

theorem Grew.base {m : List Frg} {a b : Mv} (h : Grew a b) {j : Nat} (hj : j ≤ a.keys.length) : b.base m j = a.base m j := by
  obtain ⟨t, e⟩ := h
  have e2 : b.keys = a.keys ++ t.map (·.1) := by unfold Mv.keys; rw [e, List.map_append]
  unfold Mv.base
  rw [e2, List.take_append_of_le_length hj]

theorem base_step {m : List Frg} {st : Mv} {j : Nat} (hj : j < st.keys.length) : st.base m (j + 1) = st.base m j + lenO m st.keys[j] := by
  unfold Mv.base
  rw [List.take_succ_eq_append_getElem hj]
  simp only [sumP, List.map_append, List.sum_append, List.map_cons, List.map_nil, List.sum_cons, List.sum_nil, Nat.add_zero]

theorem base_mono {m : List Frg} {st : Mv} : ∀ {i j : Nat}, i ≤ j → st.base m i ≤ st.base m j := by
  intro i j h
  unfold Mv.base
  have : st.keys.take j = (st.keys.take j).take i ++ (st.keys.take j).drop i := (List.take_append_drop i _).symm
  rw [List.take_take, Nat.min_eq_left h] at this
  rw [this]
  simp only [sumP, List.map_append, List.sum_append]
  omega

theorem base_room {m : List Frg} {a : Nat} {R : List Spt} {st : Mv} (h : MInv m a R st) {j : Nat} (hj : j < st.keys.length) : st.base m j + lenO m st.keys[j] ≤ st.words.length := by
  rw [← base_step hj, h.len]
  have h1 := base_mono (m := m) (st := st) (show j + 1 ≤ st.keys.length by omega)
  have h2 : st.base m st.keys.length = sumP (lenO m) st.keys := by unfold Mv.base; rw [List.take_length]
  rw [h2] at h1
  exact h1

theorem base_apart {m : List Frg} {st : Mv} {i j t u : Nat} (hi : i < st.keys.length) (hj : j < st.keys.length) (ht : t < lenO m st.keys[i]) (hu : u < lenO m st.keys[j]) (h : st.base m i + t = st.base m j + u) : i = j ∧ t = u := by
  have e : i = j := by
    rcases Nat.lt_trichotomy i j with q | q | q
    · have h1 := base_mono (m := m) (st := st) (show i + 1 ≤ j by omega)
      rw [base_step hi] at h1
      omega
    · exact q
    · have h1 := base_mono (m := m) (st := st) (show j + 1 ≤ i by omega)
      rw [base_step hj] at h1
      omega
  subst e
  exact ⟨rfl, by omega⟩

/-- The words of an object, of which those up to a place have been moved. -/
def imgP (W : List (Spt × Nat)) (k : Int) (l : List Nat) (lim : Nat) : List Nat := l.mapIdx fun t x => if (leadsP k l.length).1.toNat ≤ t ∧ t < lim then phi W x else x

def Cont (m : List Frg) (st : Mv) (j lim : Nat) : Prop := ∀ (hj : j < st.keys.length) (k : Int) (l : List Nat), objP m st.keys[j].1 st.keys[j].2 = some (k, l) →
  (∀ t, t < l.length → st.words[st.base m j + t]? = (imgP st.went k l lim)[t]?) ∧ ∀ t, (leadsP k l.length).1.toNat ≤ t → t < lim → t < l.length → ∀ s, toP (l.getD t 0) = some s → s ∈ st.keys

theorem img_at {W : List (Spt × Nat)} {k : Int} {l : List Nat} {lim t : Nat} (ht : t < l.length) : (imgP W k l lim)[t]? = some (if (leadsP k l.length).1.toNat ≤ t ∧ t < lim then phi W l[t] else l[t]) := by
  unfold imgP
  rw [List.getElem?_mapIdx, List.getElem?_eq_getElem ht]
  rfl

theorem len_obj {m : List Frg} {s : Spt} {k : Int} {l : List Nat} (h : objP m s.1 s.2 = some (k, l)) : lenO m s = l.length := by unfold lenO; rw [h]; rfl

theorem Cont.move {m : List Frg} {a : Nat} {R : List Spt} {st : Mv} (hI : MInv m a R st) {x : Nat} (hx : ∀ s, toP x = some s → s ∈ R) {j lim : Nat} (h : j < st.keys.length → Cont m st j lim) (hnew : ¬ j < st.keys.length → lim = 0) : Cont m (moveP m a st x).2 j lim := by
  have hm := hI.move hx
  have hg : Grew st (moveP m a st x).2 := hm.2
  intro hj k l ho
  by_cases hjo : j < st.keys.length
  · obtain ⟨hb, hk⟩ := hg.at hjo
    rw [hk] at ho
    obtain ⟨c1, c2⟩ := h hjo hjo k l ho
    rw [hg.base (by omega)]
    refine ⟨fun t ht => ?_, fun t h1 h2 h3 s hs => hg.keys (c2 t h1 h2 h3 s hs)⟩
    have hroom := base_room hI hjo
    rw [len_obj ho] at hroom
    have hw : (moveP m a st x).2.words[st.base m j + t]? = st.words[st.base m j + t]? := by
      unfold moveP
      cases toP x with
      | none => rfl
      | some s =>
        simp only
        cases wentAt st.went s with
        | some y => rfl
        | none => simp only; rw [List.getElem?_append_left (by omega)]
    rw [hw, c1 t ht, img_at ht, img_at ht]
    split
    · rename_i q
      rw [phi_grew hg]
      intro s hs
      exact c2 t q.1 q.2 ht s (by rw [List.getD_eq_getElem?_getD, List.getElem?_eq_getElem ht]; exact hs)
    · rfl
  · have hl := hnew hjo
    subst hl
    -- the object that was just copied
    refine ⟨fun t ht => ?_, fun t h1 h2 => by omega⟩
    rw [img_at ht, if_neg (by omega)]
    cases htp : toP x with
    | none => rw [moveP_none htp] at hj; exact absurd hj hjo
    | some s =>
      cases hw : wentAt st.went s with
      | some y => rw [moveP_old htp hw] at hj; exact absurd hj hjo
      | none =>
        have e : (moveP m a st x).2 = ⟨st.went ++ [(s, (a + st.words.length) * 8 + s.2.toNat)], st.words ++ ((objP m s.1 s.2).getD (0, [])).2⟩ := by unfold moveP; rw [htp]; simp only; rw [hw]
        have ek : (moveP m a st x).2.keys = st.keys ++ [s] := by rw [e]; simp [Mv.keys]
        have hj2 : j = st.keys.length := by rw [ek, List.length_append] at hj; simp at hj; omega
        have es : (moveP m a st x).2.keys[j] = s := by
          simp only [ek]
          subst hj2
          simp
        rw [es] at ho
        have hb : (moveP m a st x).2.base m j = st.words.length := by
          unfold Mv.base
          rw [ek, hj2, List.take_append_of_le_length (Nat.le_refl _), List.take_length, hI.len]
          rfl
        rw [hb, e]
        simp only
        rw [ho, List.getElem?_append_right (by omega)]
        simp only [Option.getD_some]
        rw [show st.words.length + t - st.words.length = t by omega, List.getElem?_eq_getElem ht]

theorem Cont.set {m : List Frg} {st : Mv} {i k : Nat} {w : Nat} {j lim : Nat} (hi : i < st.keys.length) (hk : k < lenO m st.keys[i]) (hne : j ≠ i) (h : Cont m st j lim) : Cont m ⟨st.went, st.words.set (st.base m i + k) w⟩ j lim := by
  intro hj kd l ho
  obtain ⟨c1, c2⟩ := h hj kd l ho
  refine ⟨fun t ht => ?_, c2⟩
  have : (⟨st.went, st.words.set (st.base m i + k) w⟩ : Mv).base m j = st.base m j := rfl
  rw [this]
  show (st.words.set (st.base m i + k) w)[st.base m j + t]? = _
  rw [List.getElem?_set_ne]
  · exact c1 t ht
  · intro e
    exact hne (base_apart hj hi (by rw [len_obj ho]; exact ht) hk e.symm).1

theorem Cont.setHere {m : List Frg} {a : Nat} {R : List Spt} {st : Mv} (hI : MInv m a R st) {i k : Nat} (hi : i < st.keys.length) {kd : Int} {l : List Nat} (ho : objP m st.keys[i].1 st.keys[i].2 = some (kd, l)) (hk : k < l.length) (hfr : (leadsP kd l.length).1.toNat ≤ k)
    (h : Cont m st i k) (hx : ∀ s, toP (l.getD k 0) = some s → s ∈ st.keys) : Cont m ⟨st.went, st.words.set (st.base m i + k) (phi st.went (l.getD k 0))⟩ i (k + 1) := by
  intro hj kd' l' ho'
  have e : (kd', l') = (kd, l) := by
    have : some (kd', l') = some (kd, l) := by rw [← ho']; exact ho
    exact Option.some.inj this
  cases e
  obtain ⟨c1, c2⟩ := h hi kd l ho
  have hroom := base_room hI hi
  rw [len_obj ho] at hroom
  refine ⟨fun t ht => ?_, fun t h1 h2 h3 s hs => ?_⟩
  · show (st.words.set (st.base m i + k) (phi st.went (l.getD k 0)))[st.base m i + t]? = _
    rw [img_at ht]
    by_cases e : t = k
    · subst e
      rw [List.getElem?_set_self (by omega), if_pos ⟨hfr, by omega⟩, List.getD_eq_getElem?_getD, List.getElem?_eq_getElem ht]
      rfl
    · rw [List.getElem?_set_ne (by omega), c1 t ht, img_at ht]
      by_cases q : (leadsP kd l.length).1.toNat ≤ t ∧ t < k
      · rw [if_pos q, if_pos ⟨q.1, by omega⟩]
      · rw [if_neg q, if_neg (by omega)]
  · by_cases e : t = k
    · subst e; exact hx s hs
    · exact c2 t h1 (by omega) h3 s hs

end Go.Proofs.YtlmpmjhanpkcnaaGreat

namespace Go.Proofs.YtlmpmjhanpkcnaaGreat
open Go.RowKit Go.Maps

theorem key_at {st : Mv} {i : Nat} {s : Spt} (h : st.keys[i]? = some s) : ∃ hi : i < st.keys.length, st.keys[i] = s := List.getElem?_eq_some_iff.1 h

theorem Grew.key {a b : Mv} (h : Grew a b) {i : Nat} {s : Spt} (hs : a.keys[i]? = some s) : b.keys[i]? = some s := by
  obtain ⟨hi, e⟩ := key_at hs
  obtain ⟨hb, e2⟩ := h.at hi
  rw [List.getElem?_eq_getElem hb, e2, e]

theorem scanK_cont {m : List Frg} {a : Nat} {R : List Spt} {i : Nat} {s : Spt} {kd : Int} {l : List Nat} (ho : objP m s.1 s.2 = some (kd, l)) (L : Nat → Nat) (hL : ∀ j, i < j → L j = 0) :
    ∀ (n k : Nat) (st : Mv), MInv m a R st → st.keys[i]? = some s → (leadsP kd l.length).1.toNat ≤ k → k + n ≤ l.length → (∀ j, j ≠ i → Cont m st j (L j)) → Cont m st i k → (∀ t, k ≤ t → t < k + n → ∀ s', toP (l.getD t 0) = some s' → s' ∈ R) →
      MInv m a R (scanK m a (st.base m i) l n k st) ∧ Grew st (scanK m a (st.base m i) l n k st) ∧ (∀ j, j ≠ i → Cont m (scanK m a (st.base m i) l n k st) j (L j)) ∧ Cont m (scanK m a (st.base m i) l n k st) i (k + n)
  | 0, k, st, hI, hs, hfr, hn, hc, hci, hg => ⟨hI, Grew.refl _, hc, hci⟩
  | n + 1, k, st, hI, hs, hfr, hn, hc, hci, hg => by
    have hgk := hg k (Nat.le_refl _) (by omega)
    obtain ⟨hI1, hG1⟩ := hI.move hgk
    have hG1 : Grew st (moveP m a st (l.getD k 0)).2 := hG1
    obtain ⟨hi, es⟩ := key_at hs
    have hs1 := hG1.key hs
    obtain ⟨hi1, es1⟩ := key_at hs1
    have hb : (moveP m a st (l.getD k 0)).2.base m i = st.base m i := hG1.base (by omega)
    have ho1 : objP m (moveP m a st (l.getD k 0)).2.keys[i].1 (moveP m a st (l.getD k 0)).2.keys[i].2 = some (kd, l) := by rw [es1]; exact ho
    have hin : ∀ s', toP (l.getD k 0) = some s' → s' ∈ (moveP m a st (l.getD k 0)).2.keys := by
      intro s' hs'
      have : (moveP m a st (l.getD k 0)).2.keys = (moveP m a st (l.getD k 0)).2.went.map (·.1) := rfl
      cases hw : wentAt st.went s' with
      | some y => rw [moveP_old hs' hw]; exact List.mem_map_of_mem (f := (·.1)) (wentAt_mem hw)
      | none =>
        unfold moveP
        rw [hs']
        simp only
        rw [hw]
        simp [Mv.keys]
    have c1 : ∀ j, j ≠ i → Cont m (moveP m a st (l.getD k 0)).2 j (L j) := fun j hj => Cont.move hI hgk (fun _ => hc j hj) (fun q => hL j (by omega))
    have ci : Cont m (moveP m a st (l.getD k 0)).2 i k := Cont.move hI hgk (fun _ => hci) (fun q => absurd hi q)
    have e : scanK m a (st.base m i) l (n + 1) k st = scanK m a (st.base m i) l n (k + 1) ⟨(moveP m a st (l.getD k 0)).2.went, (moveP m a st (l.getD k 0)).2.words.set ((moveP m a st (l.getD k 0)).2.base m i + k) (phi (moveP m a st (l.getD k 0)).2.went (l.getD k 0))⟩ := by
      rw [hb, ← move_phi]
      rfl
    have hb2 : st.base m i = (⟨(moveP m a st (l.getD k 0)).2.went, (moveP m a st (l.getD k 0)).2.words.set ((moveP m a st (l.getD k 0)).2.base m i + k) (phi (moveP m a st (l.getD k 0)).2.went (l.getD k 0))⟩ : Mv).base m i := hb.symm
    rw [e]
    have hlk : k < lenO m (moveP m a st (l.getD k 0)).2.keys[i] := by rw [len_obj ho1]; omega
    have IH := scanK_cont ho L hL n (k + 1) ⟨(moveP m a st (l.getD k 0)).2.went, (moveP m a st (l.getD k 0)).2.words.set ((moveP m a st (l.getD k 0)).2.base m i + k) (phi (moveP m a st (l.getD k 0)).2.went (l.getD k 0))⟩ (hI1.set _ _) hs1 (by omega) (by omega)
      (fun j hj => Cont.set hi1 hlk hj (c1 j hj)) (Cont.setHere hI1 hi1 ho1 (by omega) hfr ci hin) (fun t h1 h2 => hg t (by omega) (by omega))
    rw [← hb2] at IH
    obtain ⟨q1, q2, q3, q4⟩ := IH
    refine ⟨q1, hG1.trans q2, q3, ?_⟩
    rw [show k + (n + 1) = k + 1 + n by omega]
    exact q4

/-- Up to where an object's words lead. -/
def limO (m : List Frg) (s : Spt) : Nat := match objP m s.1 s.2 with
  | some (k, l) => (leadsP k l.length).2.toNat
  | none => 0

/-- All objects ahead of the i-th have been scanned. -/
def Scd (m : List Frg) (st : Mv) (i : Nat) : Prop := ∀ j, Cont m st j (if j < i then limO m (st.keys.getD j (0, 0)) else 0)

theorem getD_at {st : Mv} {i : Nat} {s : Spt} (h : st.keys[i]? = some s) : st.keys.getD i (0, 0) = s := by rw [List.getD_eq_getElem?_getD, h]; rfl

theorem Cont.start {m : List Frg} {st : Mv} {j k : Nat} {s : Spt} {kd : Int} {l : List Nat} (hs : st.keys[j]? = some s) (ho : objP m s.1 s.2 = some (kd, l)) (hk : k ≤ (leadsP kd l.length).1.toNat) (h : Cont m st j 0) : Cont m st j k := by
  intro hj k' l' ho'
  obtain ⟨_, e⟩ := key_at hs
  have e2 : (k', l') = (kd, l) := by
    have : some (k', l') = some (kd, l) := by rw [← ho', e]; exact ho
    exact Option.some.inj this
  cases e2
  obtain ⟨c1, c2⟩ := h hj kd l ho'
  refine ⟨fun t ht => ?_, fun t h1 h2 => by omega⟩
  rw [c1 t ht, img_at ht, img_at ht, if_neg (by omega), if_neg (by omega)]

theorem scanO_cont {m : List Frg} {a : Nat} {R : List Spt} {st : Mv} (hC : Closed m R) (hI : MInv m a R st) {i : Nat} (hi : i < st.keys.length) (h : Scd m st i) : MInv m a R (scanO m a st i) ∧ Grew st (scanO m a st i) ∧ Scd m (scanO m a st i) (i + 1) := by
  have hs : st.keys[i]? = some st.keys[i] := List.getElem?_eq_getElem hi
  generalize st.keys[i] = s at hs
  obtain ⟨_, es⟩ := key_at hs
  have hR : s ∈ R := by rw [← es]; exact hI.sub _ (List.getElem_mem hi)
  obtain ⟨k, l, ho, hl⟩ := hC _ hR
  obtain ⟨fr, tt, h1, h2, h3, h4, h5⟩ := lead_get (objP_ok ho)
  have e : scanO m a st i = scanK m a (st.base m i) l (tt - fr) fr st := by
    unfold scanO
    rw [show (st.went.map (·.1)).getD i (0, 0) = s from getD_at hs, ho]
    simp only [h1]
    show scanK m a (st.base m i) l _ _ st = _
    congr 1 <;> omega
  have hfr : (leadsP k l.length).1.toNat = fr := by rw [h1]; simp
  have htt : (leadsP k l.length).2.toNat = tt := by rw [h1]; simp
  have Q := scanK_cont (m := m) (a := a) (R := R) ho (fun j => if j < i then limO m (st.keys.getD j (0, 0)) else 0) (fun j hj => if_neg (by omega)) (tt - fr) fr st hI hs (by omega) (by omega) (fun j hj => h j)
    (Cont.start hs ho (by omega) (by have := h i; rw [if_neg (by omega)] at this; exact this)) (fun t ht1 ht2 s' hs' => hl _ (h4 t ht1 (by omega)) s' hs')
  rw [← e] at Q
  obtain ⟨q1, q2, q3, q4⟩ := Q
  refine ⟨q1, q2, fun j => ?_⟩
  by_cases hj : j = i
  · subst hj
    rw [if_pos (by omega), getD_at (q2.key hs)]
    have : limO m s = fr + (tt - fr) := by unfold limO; rw [ho]; simp only [htt]; omega
    rw [this]
    exact q4
  · have := q3 j hj
    by_cases hlt : j < i
    · rw [if_pos hlt] at this
      rw [if_pos (by omega)]
      have hk : st.keys[j]? = some st.keys[j] := List.getElem?_eq_getElem (by omega)
      rw [getD_at (q2.key hk)]
      rw [getD_at hk] at this
      exact this
    · rw [if_neg hlt] at this
      rw [if_neg (by omega)]
      exact this

theorem scanP_cont {m : List Frg} {a : Nat} {R : List Spt} (hC : Closed m R) : ∀ (n i : Nat) (st : Mv), R.length + 1 ≤ n + i → MInv m a R st → i ≤ st.keys.length → Scd m st i →
      MInv m a R (scanP m a n i st) ∧ Grew st (scanP m a n i st) ∧ Scd m (scanP m a n i st) (scanP m a n i st).keys.length
  | 0, i, st, hn, hI, hi, h => by
    have hc := hI.count
    have hk : st.keys.length = st.went.length := List.length_map _
    omega
  | n + 1, i, st, hn, hI, hi, h => by
    have hk : st.keys.length = st.went.length := List.length_map _
    rw [scanP]
    by_cases hlt : i < st.went.length
    · rw [if_pos hlt]
      obtain ⟨p1, p2, p3⟩ := scanO_cont hC hI (i := i) (by omega) h
      obtain ⟨_, e⟩ := p2.at (i := i) (by omega)
      obtain ⟨q1, q2, q3⟩ := scanP_cont hC n (i + 1) _ (by omega) p1 (by omega) p3
      exact ⟨q1, p2.trans q2, q3⟩
    · rw [if_neg hlt]
      have : i = st.keys.length := by omega
      subst this
      exact ⟨hI, Grew.refl _, h⟩

theorem movesP_cont {m : List Frg} {a : Nat} {R : List Spt} : ∀ (roots : List Nat) (st : Mv), MInv m a R st → Scd m st 0 → (∀ x ∈ roots, ∀ s, toP x = some s → s ∈ R) →
      MInv m a R (movesP m a roots st).2 ∧ Grew st (movesP m a roots st).2 ∧ Scd m (movesP m a roots st).2 0 ∧ (movesP m a roots st).1 = roots.map (phi (movesP m a roots st).2.went) ∧ ∀ x ∈ roots, ∀ s, toP x = some s → s ∈ (movesP m a roots st).2.keys
  | [], st, hI, h, _ => ⟨hI, Grew.refl _, h, rfl, fun x hx => by cases hx⟩
  | y :: r, st, hI, h, hg => by
    have hy := hg y List.mem_cons_self
    obtain ⟨p1, p2⟩ := hI.move hy
    have p2 : Grew st (moveP m a st y).2 := p2
    have hin : ∀ s, toP y = some s → s ∈ (moveP m a st y).2.keys := by
      intro s' hs'
      cases hw : wentAt st.went s' with
      | some z => rw [moveP_old hs' hw]; exact List.mem_map_of_mem (f := (·.1)) (wentAt_mem hw)
      | none =>
        unfold moveP
        rw [hs']
        simp only
        rw [hw]
        simp [Mv.keys]
    have h1 : Scd m (moveP m a st y).2 0 := fun j => by
      have := h j
      rw [if_neg (by omega)] at this ⊢
      exact Cont.move hI hy (fun _ => this) (fun _ => rfl)
    obtain ⟨q1, q2, q3, q4, q5⟩ := movesP_cont r _ p1 h1 (fun x hx => hg x (List.mem_cons_of_mem _ hx))
    rw [movesP]
    refine ⟨q1, p2.trans q2, q3, ?_, fun x hx s hs => ?_⟩
    · simp only [List.map_cons]
      rw [← q4, move_phi, phi_grew q2 hin]
    · rcases List.mem_cons.1 hx with rfl | hx
      · exact q2.keys (hin s hs)
      · exact q5 x hx s hs

/-- Where an object went: its words there are its own, moved. -/
structure Went (m : List Frg) (a : Nat) (st : Mv) (s : Spt) : Prop where
  at_ : ∃ n k l, objP m s.1 s.2 = some (k, l) ∧ wentAt st.went s = some ((a + n) * 8 + s.2.toNat) ∧ n + l.length ≤ st.words.length ∧ (∀ t, t < l.length → st.words[n + t]? = (imgP st.went k l (leadsP k l.length).2.toNat)[t]?) ∧ ∀ x ∈ leadW k l, ∀ s', toP x = some s' → s' ∈ st.keys

theorem scd_nil (m : List Frg) : Scd m ⟨[], []⟩ 0 := fun j hj => by cases hj

theorem all_went {m : List Frg} {a : Nat} {R : List Spt} {roots : List Nat} (hC : Closed m R) (hg : ∀ x ∈ roots, ∀ s, toP x = some s → s ∈ R) :
    (∀ s ∈ (scanP m a (R.length + 1) 0 (movesP m a roots ⟨[], []⟩).2).keys, Went m a (scanP m a (R.length + 1) 0 (movesP m a roots ⟨[], []⟩).2) s) ∧
    (movesP m a roots ⟨[], []⟩).1 = roots.map (phi (scanP m a (R.length + 1) 0 (movesP m a roots ⟨[], []⟩).2).went) ∧ MInv m a R (scanP m a (R.length + 1) 0 (movesP m a roots ⟨[], []⟩).2) ∧ ∀ x ∈ roots, ∀ s, toP x = some s → s ∈ (scanP m a (R.length + 1) 0 (movesP m a roots ⟨[], []⟩).2).keys := by
  obtain ⟨p1, p2, p3, p4, p5⟩ := movesP_cont roots ⟨[], []⟩ (MInv.start m a R) (scd_nil m) hg
  obtain ⟨q1, q2, q3⟩ := scanP_cont hC (R.length + 1) 0 _ (by omega) p1 (Nat.zero_le _) p3
  refine ⟨fun s hs => ?_, ?_, q1, fun x hx s hs => q2.keys (p5 x hx s hs)⟩
  · obtain ⟨j, hj, rfl⟩ := List.getElem_of_mem hs
    obtain ⟨k, l, ho, hl⟩ := hC _ (q1.sub _ hs)
    have hc := q3 j
    rw [if_pos hj, getD_at (List.getElem?_eq_getElem hj)] at hc
    obtain ⟨c1, c2⟩ := hc hj k l ho
    have hlim : limO m (scanP m a (R.length + 1) 0 (movesP m a roots ⟨[], []⟩).2).keys[j] = (leadsP k l.length).2.toNat := by unfold limO; rw [ho]
    rw [hlim] at c1 c2
    have hroom := base_room q1 hj
    rw [len_obj ho] at hroom
    have hj' : j < (scanP m a (R.length + 1) 0 (movesP m a roots ⟨[], []⟩).2).went.length := by unfold Mv.keys at hj; simpa using hj
    have hat := q1.at (i := j) hj'
    have ek : (scanP m a (R.length + 1) 0 (movesP m a roots ⟨[], []⟩).2).keys[j] = (scanP m a (R.length + 1) 0 (movesP m a roots ⟨[], []⟩).2).went[j].1 := by simp [Mv.keys]
    rw [← ek] at hat
    refine ⟨_, k, l, ho, hat, hroom, c1, fun x hx s' hs' => ?_⟩
    obtain ⟨fr, tt, h1, h2, h3, h4, h5⟩ := lead_get (objP_ok ho)
    obtain ⟨t, ht1, ht2, rfl⟩ := h5 x hx
    exact c2 t (by rw [h1]; simpa using ht1) (by rw [h1]; simpa using ht2) (by omega) s' hs'
  · rw [p4]
    apply List.map_congr_left
    intro x hx
    exact (phi_grew q2 (fun s hs => p5 x hx s hs)).symm

end Go.Proofs.YtlmpmjhanpkcnaaGreat

namespace Go.Proofs.YtlmpmjhanpkcnaaGreat
open Go.RowKit Go.Maps

theorem img_len (W : List (Spt × Nat)) (k : Int) (l : List Nat) (lim : Nat) : (imgP W k l lim).length = l.length := by unfold imgP; simp

/-- An object's words, moved. -/
def imgO (W : List (Spt × Nat)) (k : Int) (l : List Nat) : List Nat := imgP W k l (leadsP k l.length).2.toNat

theorem imgO_len (W : List (Spt × Nat)) (k : Int) (l : List Nat) : (imgO W k l).length = l.length := img_len _ _ _ _

theorem imgO_at {W : List (Spt × Nat)} {k : Int} {l : List Nat} {t : Nat} (ht : t < l.length) : (imgO W k l)[t]? = some (if (leadsP k l.length).1.toNat ≤ t ∧ t < (leadsP k l.length).2.toNat then phi W l[t] else l[t]) := img_at ht

theorem imgO_same {W : List (Spt × Nat)} {k : Int} {l : List Nat} (h : k = 1 ∨ k = 2 ∨ k = 3 ∨ k = 4) : imgO W k l = l := by
  have e : leadsP k l.length = (0, 0) := by unfold leadsP; rw [if_neg (by omega), if_neg (by omega), if_neg (by omega)]
  apply List.ext_getElem?
  intro t
  by_cases ht : t < l.length
  · rw [imgO_at ht, if_neg (by rw [e]; simp), List.getElem?_eq_getElem ht]
  · rw [List.getElem?_eq_none (by rw [imgO_len]; omega), List.getElem?_eq_none (by omega)]

theorem imgO_cons {W : List (Spt × Nat)} {l : List Nat} (h : l.length = 2) : imgO W (-1) l = l.map (phi W) := by
  have e : leadsP (-1) l.length = (0, 2) := by unfold leadsP; rw [if_pos rfl]
  apply List.ext_getElem?
  intro t
  by_cases ht : t < l.length
  · rw [imgO_at ht, if_pos (by rw [e]; simp; omega), List.getElem?_map, List.getElem?_eq_getElem ht]; rfl
  · rw [List.getElem?_eq_none (by rw [imgO_len]; omega), List.getElem?_eq_none (by rw [List.length_map]; omega)]

theorem imgO_tup {W : List (Spt × Nat)} {l : List Nat} : (imgO W 0 l).drop 1 = (l.drop 1).map (phi W) := by
  have e : leadsP 0 l.length = (1, (l.length : Int)) := by unfold leadsP; rw [if_neg (by decide), if_pos rfl]
  apply List.ext_getElem?
  intro t
  rw [List.getElem?_drop, List.getElem?_map, List.getElem?_drop]
  by_cases ht : 1 + t < l.length
  · rw [imgO_at ht, if_pos (by rw [e]; simp; omega), List.getElem?_eq_getElem ht]; rfl
  · rw [List.getElem?_eq_none (by rw [imgO_len]; omega), List.getElem?_eq_none (by omega)]; rfl

theorem imgO_head {W : List (Spt × Nat)} {k : Int} {l : List Nat} (hk : 0 ≤ k) : (imgO W k l)[0]? = l[0]? := by
  by_cases ht : 0 < l.length
  · rw [imgO_at ht, List.getElem?_eq_getElem ht, if_neg]
    intro q
    unfold leadsP at q
    rw [if_neg (by omega)] at q
    split at q
    · simp at q
    · split at q
      · simp at q
      · simp at q
  · rw [List.getElem?_eq_none (by rw [imgO_len]; omega), List.getElem?_eq_none (by omega)]

theorem imgO_five {W : List (Spt × Nat)} {l : List Nat} (h : l.length = 4) : (imgO W 5 l).getD 1 0 = phi W (l.getD 1 0) ∧ (imgO W 5 l).getD 2 0 = l.getD 2 0 ∧ (imgO W 5 l).getD 3 0 = l.getD 3 0 := by
  have e : leadsP 5 l.length = (1, 2) := by unfold leadsP; rw [if_neg (by decide), if_neg (by decide), if_pos rfl]
  refine ⟨?_, ?_, ?_⟩
  · rw [List.getD_eq_getElem?_getD, imgO_at (by omega), if_pos (by rw [e]; simp), List.getD_eq_getElem?_getD, List.getElem?_eq_getElem (by omega)]; rfl
  · rw [List.getD_eq_getElem?_getD, imgO_at (by omega), if_neg (by rw [e]; simp), List.getD_eq_getElem?_getD, List.getElem?_eq_getElem (by omega)]
  · rw [List.getD_eq_getElem?_getD, imgO_at (by omega), if_neg (by rw [e]; simp), List.getD_eq_getElem?_getD, List.getElem?_eq_getElem (by omega)]

/-- Memory behind a collection. -/
def memW (a : Nat) (st : Mv) : List Frg := [((a : Int), st.words), (0, [])]

theorem rest_memW {a : Nat} {st : Mv} {n : Nat} (hn : n < st.words.length) : restP (memW a st) (((a + n : Nat) : Int)) = st.words.drop n := by
  unfold memW
  rw [restP, if_pos]
  · have : (((a + n : Nat) : Int) - (a : Int)).toNat = n := by omega
    simp only [this]
  · simp [inP]
    omega

theorem seg_eq {L I : List Nat} {n : Nat} (hn : n + I.length ≤ L.length) (h : ∀ t, t < I.length → L[n + t]? = I[t]?) : (L.drop n).take I.length = I := by
  apply List.ext_getElem?
  intro t
  rw [List.getElem?_take]
  by_cases ht : t < I.length
  · rw [if_pos ht, List.getElem?_drop, h t ht]
  · rw [if_neg ht, List.getElem?_eq_none (by omega)]

/-- All objects' words, in the whole. -/
structure Home (m : List Frg) (a : Nat) (st : Mv) : Prop where
  went : ∀ s ∈ st.keys, Went m a st s
  tag : ∀ s ∈ st.keys, s.2 = 4 ∨ s.2 = 5
  low : a + st.words.length ≤ 1125899907842624

theorem Home.to {m : List Frg} {a : Nat} {st : Mv} (h : Home m a st) {s : Spt} {n : Nat} (hs : s ∈ st.keys) (hn : n ≤ st.words.length) : toP ((a + n) * 8 + s.2.toNat) = some (((a + n : Nat) : Int), s.2) := by
  have := h.low
  rcases h.tag s hs with e | e
  · rw [e]; exact toP_mk (t := 4) (.inl rfl) (by omega)
  · rw [e]; exact toP_mk (t := 5) (.inr rfl) (by omega)

theorem Home.plain {m : List Frg} {a : Nat} {st : Mv} (h : Home m a st) {x : Nat} (hp : plainP x = true) (hk : ∀ s, toP x = some s → s ∈ st.keys) : plainP (phi st.went x) = true := by
  cases ht : toP x with
  | none => rw [phi_none ht]; exact hp
  | some s =>
    obtain ⟨n, k, l, ho, hw, hr, -⟩ := (h.went s (hk s ht)).at_
    rw [phi_some ht hw]
    exact (toP_eq (h.to (hk s ht) (by omega))).1

theorem allP_map {m : List Frg} {a : Nat} {st : Mv} (h : Home m a st) {L : List Nat} (hp : allP L = true) (hk : ∀ x ∈ L, ∀ s, toP x = some s → s ∈ st.keys) : allP (L.map (phi st.went)) = true := by
  unfold allP at *
  rw [List.all_eq_true] at *
  intro y hy
  obtain ⟨x, hx, rfl⟩ := List.mem_map.1 hy
  exact h.plain (hp x hx) (hk x hx)

theorem headAt_parts {m : List Frg} {a k : Int} {l : List Nat} (h : headAt m a = some (k, l)) : ∃ x t sz, l = x :: t ∧ headP x = some (k, sz) ∧ t.length = sz.toNat := by
  rw [headAt_rest] at h
  cases hr : restP m a with
  | nil => rw [hr] at h; cases h
  | cons x t =>
    rw [hr] at h
    simp only at h
    obtain ⟨q, hq, h⟩ := Option.bind_eq_some_iff.1 h
    split at h
    · rename_i hle
      simp only [Option.some.injEq, Prod.mk.injEq] at h
      obtain ⟨rfl, rfl⟩ := h
      exact ⟨x, _, q.2, rfl, hq, by rw [List.length_take]; omega⟩
    · cases h

theorem Home.head {m : List Frg} {a : Nat} {st : Mv} {n : Nat} {b k : Int} {l : List Nat} (hh : headAt m b = some (k, l)) (hr : n + l.length ≤ st.words.length) (hc : ∀ t, t < l.length → st.words[n + t]? = (imgO st.went k l)[t]?) :
    headAt (memW a st) ((a + n : Nat) : Int) = some (k, imgO st.went k l) := by
  obtain ⟨x, t, sz, rfl, hx, ht⟩ := headAt_parts hh
  have hk := (headAt_le hh).1
  have hseg := seg_eq (L := st.words) (I := imgO st.went k (x :: t)) (n := n) (by rw [imgO_len]; exact hr) (fun j hj => hc j (by rw [imgO_len] at hj; exact hj))
  rw [imgO_len] at hseg
  have h0 : (imgO st.went k (x :: t))[0]? = some x := by rw [imgO_head hk]; rfl
  have hlen : (x :: t).length = sz.toNat + 1 := by simp [ht]
  rw [headAt_rest, rest_memW (by simp only [List.length_cons] at hr; omega)]
  cases hd : st.words.drop n with
  | nil =>
    have := congrArg List.length hd
    rw [List.length_drop] at this
    simp only [List.length_cons, List.length_nil] at hr this
    omega
  | cons y r =>
    have hl2 := congrArg List.length hd
    rw [List.length_drop] at hl2
    simp only [List.length_cons] at hl2 hr
    rw [hd, hlen, List.take_succ_cons] at hseg
    have ey : y = x := by
      rw [← hseg] at h0
      simpa using h0
    subst ey
    simp only
    rw [hx]
    simp only [Option.bind_some]
    rw [if_pos (by omega), hseg]

theorem Home.obj {m : List Frg} {a : Nat} {st : Mv} (h : Home m a st) {s : Spt} (hs : s ∈ st.keys) : ∃ n k l, objP m s.1 s.2 = some (k, l) ∧ wentAt st.went s = some ((a + n) * 8 + s.2.toNat) ∧ n + l.length ≤ st.words.length ∧
    objP (memW a st) ((a + n : Nat) : Int) s.2 = some (k, imgO st.went k l) ∧ ∀ x ∈ leadW k l, ∀ s', toP x = some s' → s' ∈ st.keys := by
  obtain ⟨n, k, l, ho, hw, hr, hc, hl⟩ := (h.went s hs).at_
  refine ⟨n, k, l, ho, hw, hr, ?_, hl⟩
  have hc : ∀ t, t < l.length → st.words[n + t]? = (imgO st.went k l)[t]? := hc
  have hseg := seg_eq (L := st.words) (I := imgO st.went k l) (n := n) (by rw [imgO_len]; exact hr) (fun j hj => hc j (by rw [imgO_len] at hj; exact hj))
  rw [imgO_len] at hseg
  rcases h.tag s hs with e | e
  · -- a box
    rw [e] at ho ⊢
    rw [obj_head] at ho ⊢
    obtain ⟨o, hh, ho⟩ := Option.bind_eq_some_iff.1 ho
    split at ho
    · rename_i hright
      cases ho
      rw [Home.head hh hr hc]
      simp only [Option.bind_some]
      rw [if_pos]
      have hk := headAt_le hh
      by_cases h14 : k = 1 ∨ k = 2 ∨ k = 3 ∨ k = 4
      · rw [imgO_same h14]
        unfold rightP at hright ⊢
        rw [if_neg (by omega)] at hright ⊢
        exact hright
      · by_cases h0 : k = 0
        · subst h0
          unfold rightP at hright ⊢
          rw [if_neg (show ¬ (0 : Int) = 5 by decide)] at hright ⊢
          have e1 : ∀ L : List Nat, rightFlat 0 L = (decide (L.length ≤ 9) && allP (L.drop 1)) := fun L => by simp [rightFlat]
          rw [e1] at hright ⊢
          simp only [Bool.and_eq_true, decide_eq_true_eq] at hright ⊢
          rw [imgO_len, imgO_tup]
          refine ⟨hright.1, allP_map h hright.2 fun x hx s' hs' => hl x ?_ s' hs'⟩
          rw [lead_tup hk.2.2]
          exact hx
        · have h5 : k = 5 := by omega
          subst h5
          have h4 : l.length = 4 := by
            unfold rightP at hright
            rw [if_pos rfl, Bool.and_eq_true, decide_eq_true_eq] at hright
            exact hright.1
          obtain ⟨g1, g2, g3⟩ := imgO_five (W := st.went) h4
          have hle : lengthP (memW a st) ((imgO st.went 5 l).getD 1 0) = lengthP m (l.getD 1 0) := by
            rw [g1]
            have hlead : ∀ s', toP (l.getD 1 0) = some s' → s' ∈ st.keys := fun s' hs' => hl _ (by
              unfold leadW leadsP
              match l, h4 with
              | [_, y, _, _], _ => simp) s' hs'
            cases hlm : lengthP m (l.getD 1 0) with
            | none => rw [right5_eq h4 hlm] at hright; cases hright
            | some q =>
              unfold lengthP at hlm
              cases hto : toP (l.getD 1 0) with
              | none => rw [hto] at hlm; cases hlm
              | some s1 =>
                rw [hto] at hlm
                simp only [Option.bind_some] at hlm
                split at hlm
                · rename_i e4
                  have hs1 := hlead s1 hto
                  obtain ⟨n1, k1, l1, ho1, hw1, hr1, hc1, -⟩ := (h.went s1 hs1).at_
                  have hc1 : ∀ t, t < l1.length → st.words[n1 + t]? = (imgO st.went k1 l1)[t]? := hc1
                  rw [e4, obj_head] at ho1
                  obtain ⟨o1, hh1, ho1⟩ := Option.bind_eq_some_iff.1 ho1
                  split at ho1
                  · cases ho1
                    rw [hh1] at hlm
                    simp only [Option.bind_some] at hlm
                    have hk1 : k1 = 3 ∨ k1 = 4 := by
                      split at hlm
                      · rename_i q; exact .inl q.1
                      · split at hlm
                        · rename_i q; exact .inr q.1
                        · cases hlm
                    rw [phi_some hto hw1]
                    unfold lengthP
                    rw [h.to hs1 (by omega)]
                    simp only [Option.bind_some]
                    rw [if_pos e4, Home.head hh1 hr1 hc1, imgO_same (by omega)]
                    exact hlm
                  · cases ho1
                · cases hlm
          have R : ∀ (M : List Frg) (L : List Nat), rightP M 5 L = (decide (L.length = 4) && lenOk L (lengthP M (L.getD 1 0))) := fun M L => by
            unfold rightP
            rw [if_pos rfl]
            cases lengthP M (L.getD 1 0) <;> rfl
          rw [R, hle, imgO_len]
          rw [R] at hright
          have : lenOk (imgO st.went 5 l) (lengthP m (l.getD 1 0)) = lenOk l (lengthP m (l.getD 1 0)) := by
            cases lengthP m (l.getD 1 0) with
            | none => rfl
            | some q => simp only [lenOk]; rw [g2, g3]
          rw [this]
          exact hright
    · cases ho
  · -- a pair
    rw [e] at ho ⊢
    unfold objP at ho ⊢
    rw [if_pos rfl] at ho ⊢
    obtain ⟨l0, hw0, ho⟩ := Option.bind_eq_some_iff.1 ho
    split at ho
    · rename_i hall
      cases ho
      have h2 : l.length = 2 := by
        rw [words_rest m _ 2 (by decide)] at hw0
        split at hw0
        · cases hw0; rw [List.length_take]; simp; omega
        · cases hw0
      rw [words_rest _ _ 2 (by decide), rest_memW (by omega), if_pos (by rw [List.length_drop]; omega)]
      rw [h2] at hseg
      simp only [Option.bind_some]
      rw [show (2 : Int).toNat = 2 from rfl, hseg, imgO_cons h2, if_pos]
      exact allP_map h hall fun x hx s' hs' => hl x (by rw [lead_two h2]; exact hx) s' hs'
    · cases ho

theorem seqP_phi {g g' : Nat → Nat → Option (Tm × Nat)} {W : List (Spt × Nat)} : ∀ (L : List Nat) (left : Nat), (∀ x ∈ L, ∀ left, g' left (phi W x) = g left x) → seqP g' left (L.map (phi W)) = seqP g left L
  | [], left, _ => rfl
  | x :: r, left, h => by
    simp only [List.map_cons, seqP]
    rw [h x List.mem_cons_self]
    cases g left x with
    | none => rfl
    | some p =>
      simp only [Option.bind_some]
      rw [seqP_phi r p.2 fun y hy => h y (List.mem_cons_of_mem _ hy)]

theorem Home.part {m : List Frg} {a : Nat} {st : Mv} (h : Home m a st) (asks : Bool) (S : List Slt) {l : List Nat} (h4 : l.length = 4) (hr5 : rightP m 5 l = true) (hl : ∀ s', toP (l.getD 1 0) = some s' → s' ∈ st.keys) : partP asks S (memW a st) (imgO st.went 5 l) = partP asks S m l := by
  obtain ⟨g1, g2, g3⟩ := imgO_five (W := st.went) h4
  unfold partP
  rw [g1, g2, g3]
  cases hto : toP (l.getD 1 0) with
  | none => rw [phi_none hto, hto]
  | some s1 =>
    have hs1 := hl s1 hto
    obtain ⟨n1, k1, l1, ho1, hw1, hr1, ho1', -⟩ := h.obj hs1
    obtain ⟨k2, l2, ho2, hk2⟩ := part_lead hr5 hto (by rw [ho1]; rfl)
    rw [ho1] at ho2
    cases ho2
    rw [phi_some hto hw1, h.to hs1 (by omega)]
    simp only
    rw [ho1', ho1, imgO_same (by omega)]

theorem objT_seq {g : Nat → Nat → Option (Tm × Nat)} {asks : Bool} {S : List Slt} {m : List Frg} {left : Nat} {k : Int} {l : List Nat} (h : k = -1 ∨ k = 0) : objT g asks S m left (k, l) = (seqP g left (leadW k l)).map fun r => (.mk (if k = -1 then 8 else 6) 0 false [] 0 ⟨#[]⟩ r.1, r.2) := by
  unfold objT
  simp only
  rw [if_neg (by omega), if_neg (by omega), if_neg (by omega), if_neg (by omega), if_neg (by omega)]

theorem objT_flat {g g' : Nat → Nat → Option (Tm × Nat)} {asks : Bool} {S : List Slt} {m m' : List Frg} {left : Nat} {k : Int} {l : List Nat} (h : k = 1 ∨ k = 2 ∨ k = 3 ∨ k = 4) : objT g' asks S m' left (k, l) = objT g asks S m left (k, l) := by
  unfold objT
  simp only
  rcases h with rfl | rfl | rfl | rfl
  · rw [if_pos rfl, if_pos rfl]
  · rw [if_neg (by decide), if_pos rfl, if_neg (by decide), if_pos rfl]
  · rw [if_neg (by decide), if_neg (by decide), if_pos rfl, if_neg (by decide), if_neg (by decide), if_pos rfl]
  · rw [if_neg (by decide), if_neg (by decide), if_neg (by decide), if_pos rfl, if_neg (by decide), if_neg (by decide), if_neg (by decide), if_pos rfl]

theorem objT_five {g : Nat → Nat → Option (Tm × Nat)} {asks : Bool} {S : List Slt} {m : List Frg} {left : Nat} {l : List Nat} : objT g asks S m left (5, l) = (partP asks S m l).bind (binT left) := by
  unfold objT
  simp only
  rw [if_neg (by decide), if_neg (by decide), if_neg (by decide), if_neg (by decide), if_pos trivial]

theorem Home.objT {m : List Frg} {a : Nat} {st : Mv} (h : Home m a st) (asks : Bool) (S : List Slt) {g g' : Nat → Nat → Option (Tm × Nat)} (hg : ∀ left x, (∀ s, toP x = some s → s ∈ st.keys) → g' left (phi st.went x) = g left x)
    {left : Nat} {k : Int} {l : List Nat} (hok : ObjOK m k l) (hle : ∀ x ∈ leadW k l, ∀ s', toP x = some s' → s' ∈ st.keys) :
    Proofs.YtlmpmjhanpkcnaaGreat.objT g' asks S (memW a st) left (k, imgO st.went k l) = Proofs.YtlmpmjhanpkcnaaGreat.objT g asks S m left (k, l) := by
  have hseq : ∀ L : List Nat, (∀ x ∈ L, x ∈ leadW k l) → seqP g' left (L.map (phi st.went)) = seqP g left L :=
    fun L hL => seqP_phi L _ fun y hy left' => hg left' y fun s' hs' => hle y (hL y hy) s' hs'
  rcases hok with (⟨rfl, h2⟩ | ⟨rfl, h2⟩) | ⟨rfl, -⟩ | ⟨rfl, -⟩ | ⟨rfl, -⟩ | ⟨rfl, -⟩ | ⟨rfl, hr5⟩
  · have hi2 : (imgO st.went (-1) l).length = 2 := by rw [imgO_len]; exact h2
    rw [objT_seq (.inl rfl), objT_seq (.inl rfl), lead_two hi2, lead_two h2, imgO_cons h2, hseq l (fun x hx => by rw [lead_two h2]; exact hx)]
  · have hi2 : 1 ≤ (imgO st.went 0 l).length := by rw [imgO_len]; exact h2.1
    rw [objT_seq (.inr rfl), objT_seq (.inr rfl), lead_tup hi2, lead_tup h2.1, imgO_tup, hseq (l.drop 1) (fun x hx => by rw [lead_tup h2.1]; exact hx)]
  · rw [imgO_same (.inl rfl)]; exact objT_flat (by omega)
  · rw [imgO_same (.inr (.inl rfl))]; exact objT_flat (by omega)
  · rw [imgO_same (.inr (.inr (.inl rfl)))]; exact objT_flat (by omega)
  · rw [imgO_same (.inr (.inr (.inr rfl)))]; exact objT_flat (by omega)
  · have h4 : l.length = 4 := by
      unfold rightP at hr5
      rw [if_pos rfl, Bool.and_eq_true, decide_eq_true_eq] at hr5
      exact hr5.1
    rw [objT_five, objT_five, h.part asks S h4 hr5 fun s' hs' => hle _ (by
      unfold leadW leadsP
      match l, h4 with
      | [_, y, _, _], _ => simp) s' hs']

theorem Home.step {m : List Frg} {a : Nat} {st : Mv} (h : Home m a st) (asks : Bool) (S : List Slt) {f : Nat} (ih : ∀ left x, (∀ s, toP x = some s → s ∈ st.keys) → termP asks S (memW a st) f left (phi st.went x) = termP asks S m f left x)
    (left x : Nat) (hk : ∀ s, toP x = some s → s ∈ st.keys) : termP asks S (memW a st) (f + 1) left (phi st.went x) = termP asks S m (f + 1) left x := by
  by_cases hl : left = 0
  · rw [termP, if_pos (Or.inr hl), termP, if_pos (Or.inr hl)]
  · cases ht : toP x with
    | none =>
      rw [phi_none ht]
      cases hp : plainP x with
      | false => rw [termP, if_pos (Or.inl hp), termP, if_pos (Or.inl hp)]
      | true =>
        have h3 : tagW x ≤ 3 := by
          have := (plain_parts hp).1
          unfold toP at ht
          split at ht
          · cases ht
          · rename_i q
            by_cases h45 : tagW x = 4 ∨ tagW x = 5
            · exact absurd ⟨hp, h45⟩ q
            · omega
        obtain ⟨t1, e1, e2, -⟩ := term_leaf (asks := asks) (S := S) (m := m) (f := f) hp hl h3
        obtain ⟨t2, e1', e2', -⟩ := term_leaf (asks := asks) (S := S) (m := memW a st) (f := f) hp hl h3
        rw [e1] at e1'
        cases e1'
        rw [e2, e2']
    | some s =>
      have hs := hk s ht
      obtain ⟨n, k, l, ho, hw, hr, ho', hle⟩ := h.obj hs
      obtain ⟨hp, htg, es⟩ := toP_eq ht
      have hto' := h.to hs (n := n) (by omega)
      rw [← phi_some ht hw] at hto'
      obtain ⟨hp', htg', es'⟩ := toP_eq hto'
      have e1 : ((a + n : Nat) : Int) = loadW (phi st.went x) := congrArg Prod.fst es'
      have e2 : s.2 = ((tagW (phi st.went x) : Nat) : Int) := congrArg Prod.snd es'
      have e3 : s.1 = loadW x := congrArg Prod.fst es
      have e4 : s.2 = ((tagW x : Nat) : Int) := congrArg Prod.snd es
      rw [(term_deep (asks := asks) (S := S) (m := memW a st) (f := f) hp' hl (by omega)).1, (term_deep (asks := asks) (S := S) (m := m) (f := f) hp hl (by omega)).1, ← e1, ← e2, ho', ← e3, ← e4, ho]
      simp only [Option.bind_some]
      exact h.objT asks S ih (objP_ok ho) hle

theorem Home.term {m : List Frg} {a : Nat} {st : Mv} (h : Home m a st) (asks : Bool) (S : List Slt) (f : Nat) : ∀ (left x : Nat), (∀ s, toP x = some s → s ∈ st.keys) → termP asks S (memW a st) f left (phi st.went x) = termP asks S m f left x := by
  induction f with
  | zero => intro left x _; rfl
  | succ f ih => exact h.step asks S ih

theorem Home.read {m : List Frg} {a : Nat} {st : Mv} (h : Home m a st) (asks : Bool) (S : List Slt) {x : Nat} (hk : ∀ s, toP x = some s → s ∈ st.keys) : readP asks S (memW a st) (phi st.went x) = readP asks S m x := by
  unfold readP
  rw [h.term asks S 301 300 x hk]

end Go.Proofs.YtlmpmjhanpkcnaaGreat
