/-
  Collect, plain: a dump collected wholly stands for the same terms; its regions are right.
  CollectShares, plain: a pair of itself, again and again.
  CollectShares, plain: what becomes of the pairs.
-/
import Derived.Test.YtlmpmjhanpkcnaaGreatN07
set_option linter.unusedVariables false
set_option linter.unusedSimpArgs false
namespace Go.Proofs.YtlmpmjhanpkcnaaGreat
open Go.RowKit Go.Maps

theorem major_home {d : Dmp} {a : Nat} {l : List Spt} (ha : a ≤ 1125899906842624) (hl : ReachL d.mem d.roots l) (hlen : l.length ≤ 10000) (hrd : ∀ x ∈ d.roots, Rd d.mem x) :
    Home d.mem a (majorSt d a l) ∧ (majorD d a l).roots = d.roots.map (phi (majorSt d a l).went) ∧ ∀ x ∈ d.roots, ∀ s, toP x = some s → s ∈ (majorSt d a l).keys := by
  obtain ⟨hC, hg⟩ := closed_of hrd hl
  obtain ⟨h1, h2, h3, h4⟩ := all_went (a := a) hC hg
  refine ⟨⟨h1, fun s hs => ?_, ?_⟩, h2, h4⟩
  · exact ((hl.2 s).1 (h3.sub s hs)).tag
  · have := h3.words
    show a + (scanP d.mem a (l.length + 1) 0 (movesP d.mem a d.roots ⟨[], []⟩).2).words.length ≤ 1125899907842624
    omega

theorem memW_low {a : Nat} {st : Mv} (h : a + st.words.length ≤ 1125899907842624) : LowM (memW a st) := by
  intro f hf x hx
  unfold memW at hf
  rcases List.mem_cons.1 hf with rfl | hf
  · have := inP_parts hx
    simp only at this
    omega
  · rcases List.mem_cons.1 hf with rfl | hf
    · have := inP_parts hx
      simp at this
      omega
    · cases hf

theorem major_mem (d : Dmp) (a : Nat) (l : List Spt) : (majorD d a l).mem = memW a (majorSt d a l) := rfl

theorem major_alike {d : Dmp} {a : Nat} {l : List Spt} {S : List Slt} (ha : a ≤ 1125899906842624) (hl : ReachL d.mem d.roots l) (hlen : l.length ≤ 10000) (hlow : LowM d.mem) (hrd : ∀ x ∈ d.roots, Rd d.mem x) (hr : refRoots true S d = true) : Alike d (majorD d a l) S := by
  obtain ⟨hh, h2, h3⟩ := major_home ha hl hlen hrd
  refine ⟨by rw [h2, List.length_map], fun j hj => ?_⟩
  have hx : d.roots.getD j 0 ∈ d.roots := getD_mem hj
  have e : (majorD d a l).roots.getD j 0 = phi (majorSt d a l).went (d.roots.getD j 0) := by
    rw [h2, List.getD_eq_getElem?_getD, List.getElem?_map, List.getD_eq_getElem?_getD, List.getElem?_eq_getElem hj]
    rfl
  unfold refRoots refReads at hr
  rw [List.all_eq_true] at hr
  obtain ⟨t, ht⟩ := Option.isSome_iff_exists.1 (hr _ hx)
  refine ⟨t, ht, ?_⟩
  rw [e, major_mem, read_same (memW_low hh.low), hh.read true S (h3 _ hx), ← read_same hlow]
  exact ht

theorem alike_roots {d e : Dmp} {S : List Slt} (h : Alike d e S) : refRoots true S e = true := by
  unfold refRoots refReads
  rw [List.all_eq_true]
  intro x hx
  obtain ⟨j, hj, rfl⟩ := List.getElem_of_mem hx
  obtain ⟨t, -, ht⟩ := h.2 j (by rw [← h.1]; exact hj)
  rw [List.getD_eq_getElem?_getD, List.getElem?_eq_getElem hj] at ht
  simp only [Option.getD_some] at ht
  rw [ht]
  rfl

theorem regions_major {d : Dmp} {a : Nat} {l : List Spt} (ha : a ≤ 1125899906842624) : regionsP (majorD d a l) = true := by
  unfold regionsP
  rw [major_mem]
  have h1 : regL [] (memW a (majorSt d a l)) = true := by
    unfold memW regL regL regL
    simp [okA, apF, apartP]
    omega
  have h2 : marksP (majorD d a l) = true := by
    unfold marksP majorD
    simp
  rw [h1, h2]
  rfl

end Go.Proofs.YtlmpmjhanpkcnaaGreat

namespace Go.Proofs.YtlmpmjhanpkcnaaGreat
open Go.RowKit Go.Maps

/-- The words, and the word that leads to the last pair. -/
def shW : Nat → List Nat × Nat
  | 0 => ([], 3)
  | i + 1 => ((shW i).1 ++ [(shW i).2, (shW i).2], (20 + (shW i).1.length) * 8 + 5)

def shD (n : Nat) : Dmp := ⟨(20, (shW n).1), (0, []), ((shW n).1.length : Int), 0, [], [(shW n).2, (shW n).2, 3], []⟩

def shL (n : Nat) : List Spt := (List.range n).map fun (i : Nat) => ((20 + 2 * (i : Int), 5) : Spt)

def inL (L : List Spt) (x : Nat) : Bool := match toP x with
  | none => true
  | some s => L.any fun t => decide (t.1 = s.1) && decide (t.2 = s.2)

/-- What is reached lies in the list. -/
def shIn (n : Nat) : Bool := (shD n).roots.all (inL (shL n)) && (shL n).all fun s => match objP (shD n).mem s.1 s.2 with
  | some o => decide (o.1 = -1) && (leadW o.1 o.2).all (inL (shL n))
  | none => false

/-- The list is reached, each out of the next. -/
def shAll (n : Nat) : Bool := (decide (toP (shW n).2 = some (20 + 2 * ((n - 1 : Nat) : Int), 5))) && (List.range (n - 1)).all fun (i : Nat) => match objP (shD n).mem (20 + 2 * ((i + 1 : Nat) : Int)) 5 with
  | some o => (leadW o.1 o.2).any fun x => decide (toP x = some (20 + 2 * (i : Int), 5))
  | none => false

def shSt (n : Nat) : Mv := majorSt (shD n) 500 (shL n)

def shE (n : Nat) : Dmp := ⟨(500, (shSt n).words), (0, []), ((shSt n).words.length : Int), ((shSt n).words.length : Int), [], (movesP (shD n).mem 500 (shD n).roots ⟨[], []⟩).1, []⟩

def shEnd (n : Nat) : Bool := decide ((shSt n).words.length = 2 * n) && decide ((shE n).roots.length = 3) && decide ((shE n).roots.getD 0 0 = (shE n).roots.getD 1 0) && decide ((shE n).roots.getD 2 0 = 3) && decide ((metP (shE n).mem (shE n).roots).hs = []) && decide ((shW n).1.length = 2 * n)
  && (shSt n).words.all (fun x => decide (x < 18446744073709551616)) && (shE n).roots.all (fun x => decide (x < 18446744073709551616)) && (shW n).1.all (fun x => decide (x < 18446744073709551616)) && decide ((shW n).2 < 18446744073709551616)

def shOk (n : Nat) : Bool := saneP (shD n) 500 && refRoots true [] (shD n) && shIn n && shAll n && shEnd n

set_option maxRecDepth 1000000 in
theorem sh1 : shOk 1 = true := by kernel_rfl
set_option maxRecDepth 1000000 in
theorem sh2 : shOk 2 = true := by kernel_rfl
set_option maxRecDepth 1000000 in
theorem sh3 : shOk 3 = true := by kernel_rfl
set_option maxRecDepth 1000000 in
theorem sh4 : shOk 4 = true := by kernel_rfl
set_option maxRecDepth 1000000 in
theorem sh5 : shOk 5 = true := by kernel_rfl
set_option maxRecDepth 1000000 in
theorem sh6 : shOk 6 = true := by kernel_rfl
set_option maxRecDepth 1000000 in
theorem sh7 : shOk 7 = true := by kernel_rfl

end Go.Proofs.YtlmpmjhanpkcnaaGreat

namespace Go.Proofs.YtlmpmjhanpkcnaaGreat
open Go.RowKit Go.Maps

structure ShFacts (n : Nat) : Prop where
  sane : saneP (shD n) 500 = true
  reads : refRoots true [] (shD n) = true
  inn : shIn n = true
  all : shAll n = true
  len : (shSt n).words.length = 2 * n
  r3 : (shE n).roots.length = 3
  r01 : (shE n).roots.getD 0 0 = (shE n).roots.getD 1 0
  r2 : (shE n).roots.getD 2 0 = 3
  hs : (metP (shE n).mem (shE n).roots).hs = []
  wl : (shW n).1.length = 2 * n
  b1 : ∀ x ∈ (shSt n).words, x < 18446744073709551616
  b2 : ∀ x ∈ (shE n).roots, x < 18446744073709551616
  b3 : ∀ x ∈ (shW n).1, x < 18446744073709551616
  b4 : (shW n).2 < 18446744073709551616

theorem sh_of {n : Nat} (h : shOk n = true) : ShFacts n := by
  unfold shOk shEnd at h
  simp only [Bool.and_eq_true, decide_eq_true_eq, List.all_eq_true] at h
  obtain ⟨⟨⟨⟨h1, h2⟩, h3⟩, h4⟩, ⟨⟨⟨⟨⟨⟨⟨⟨⟨h5, h6⟩, h7⟩, h8⟩, h9⟩, h10⟩, h11⟩, h12⟩, h13⟩, h14⟩⟩ := h
  exact ⟨h1, h2, h3, h4, h5, h6, h7, h8, h9, h10, h11, h12, h13, h14⟩

theorem sh_facts {n : Nat} (h1 : 1 ≤ n) (h2 : n ≤ 7) : ShFacts n := by
  have : n = 1 ∨ n = 2 ∨ n = 3 ∨ n = 4 ∨ n = 5 ∨ n = 6 ∨ n = 7 := by omega
  rcases this with rfl | rfl | rfl | rfl | rfl | rfl | rfl
  · exact sh_of sh1
  · exact sh_of sh2
  · exact sh_of sh3
  · exact sh_of sh4
  · exact sh_of sh5
  · exact sh_of sh6
  · exact sh_of sh7

theorem inL_mem {L : List Spt} {x : Nat} {s : Spt} (h : inL L x = true) (ht : toP x = some s) : s ∈ L := by
  unfold inL at h
  rw [ht] at h
  simp only [List.any_eq_true, Bool.and_eq_true, decide_eq_true_eq] at h
  obtain ⟨t, ht, e1, e2⟩ := h
  have : t = s := Prod.ext e1 e2
  exact this ▸ ht

theorem sh_obj {n : Nat} (h : shIn n = true) {s : Spt} (hs : s ∈ shL n) : ∃ l, objP (shD n).mem s.1 s.2 = some (-1, l) ∧ ∀ x ∈ leadW (-1) l, inL (shL n) x = true := by
  unfold shIn at h
  rw [Bool.and_eq_true] at h
  have := List.all_eq_true.1 h.2 s hs
  cases ho : objP (shD n).mem s.1 s.2 with
  | none => rw [ho] at this; cases this
  | some o =>
    rw [ho] at this
    simp only [Bool.and_eq_true, decide_eq_true_eq] at this
    obtain ⟨k, l⟩ := o
    obtain ⟨e, ha⟩ := this
    simp only at e ha
    subst e
    exact ⟨l, rfl, List.all_eq_true.1 ha⟩

theorem sh_reach {n : Nat} (h : shIn n = true) {s : Spt} (hr : Reach (shD n).mem (shD n).roots s) : s ∈ shL n := by
  induction hr with
  | root hx ht _ =>
    unfold shIn at h
    rw [Bool.and_eq_true] at h
    exact inL_mem (List.all_eq_true.1 h.1 _ hx) ht
  | step _ ho hx ht _ ih =>
    obtain ⟨l, e, ha⟩ := sh_obj h ih
    rw [ho] at e
    cases e
    exact inL_mem (ha _ hx) ht

theorem shL_at {n i : Nat} (h : i < n) : ((20 + 2 * (i : Int), 5) : Spt) ∈ shL n := List.mem_map.2 ⟨i, List.mem_range.2 h, rfl⟩

theorem sh_down {n : Nat} (h1 : 1 ≤ n) (hi : shIn n = true) (ha : shAll n = true) : ∀ j, j < n → Reach (shD n).mem (shD n).roots (20 + 2 * ((n - 1 - j : Nat) : Int), 5)
  | 0, _ => by
    rw [Nat.sub_zero]
    unfold shAll at ha
    rw [Bool.and_eq_true, decide_eq_true_eq] at ha
    refine .root (x := (shW n).2) (by simp [shD]) ha.1 ?_
    obtain ⟨l, e, _⟩ := sh_obj hi (shL_at (n := n) (i := n - 1) (by omega))
    rw [e]; rfl
  | j + 1, hj => by
    have ih := sh_down h1 hi ha j (by omega)
    have e1 : n - 1 - j = n - 1 - (j + 1) + 1 := by omega
    rw [e1] at ih
    have hb := ha
    unfold shAll at hb
    rw [Bool.and_eq_true] at hb
    have := List.all_eq_true.1 hb.2 (n - 1 - (j + 1)) (List.mem_range.2 (by omega))
    obtain ⟨l, e, _⟩ := sh_obj hi (shL_at (n := n) (i := n - 1 - (j + 1) + 1) (by omega))
    simp only at e
    rw [e] at this
    simp only [List.any_eq_true, decide_eq_true_eq] at this
    obtain ⟨x, hx, ht⟩ := this
    obtain ⟨l2, e2, _⟩ := sh_obj hi (shL_at (n := n) (i := n - 1 - (j + 1)) (by omega))
    exact .step ih e hx ht (by rw [e2]; rfl)

theorem sh_len {n : Nat} (h1 : 1 ≤ n) (hf : ShFacts n) {l : List Spt} (hl : ReachL (shD n).mem (shD n).roots l) : l.length = n := by
  have e : (shL n).length = n := by simp [shL]
  have hn : (shL n).Nodup := nodup_map List.nodup_range fun x _ y _ h => by simp only [Prod.mk.injEq] at h; omega
  have a1 := nodup_sub hl.1 (L := shL n) fun s hs => sh_reach hf.inn ((hl.2 s).1 hs)
  have a2 := nodup_sub hn (L := l) fun s hs => by
    obtain ⟨i, hi, rfl⟩ := List.mem_map.1 hs
    have hi := List.mem_range.1 hi
    have := sh_down h1 hf.inn hf.all (n - 1 - i) (by omega)
    rw [show n - 1 - (n - 1 - i) = i by omega] at this
    exact (hl.2 _).2 this
  omega

theorem sh_hs {n : Nat} (hf : ShFacts n) {l : List Spt} (hl : ReachL (shD n).mem (shD n).roots l) (W : List (Spt × Nat)) : hsM (shD n).mem W l = [] := by
  unfold hsM
  rw [List.filterMap_eq_nil_iff]
  intro s hs
  obtain ⟨ll, e, _⟩ := sh_obj hf.inn (sh_reach hf.inn ((hl.2 s).1 hs))
  rw [e]
  rfl

theorem majorSt_len {d : Dmp} {a : Nat} {l l' : List Spt} (h : l.length = l'.length) : majorSt d a l = majorSt d a l' := by unfold majorSt; rw [h]

theorem sh_major {n : Nat} (h1 : 1 ≤ n) (hf : ShFacts n) {l : List Spt} (hl : ReachL (shD n).mem (shD n).roots l) : majorD (shD n) 500 l = shE n := by
  have e : majorSt (shD n) 500 l = shSt n := majorSt_len (by rw [sh_len h1 hf hl]; simp [shL])
  unfold majorD
  rw [e, sh_hs hf hl, sort_nil]
  rfl

theorem sh_rd {n : Nat} (hf : ShFacts n) : regionsP (shD n) = true ∧ ∀ x ∈ (shD n).roots, Rd (shD n).mem x := by
  have h := hf.sane
  unfold saneP at h
  simp only [Bool.and_eq_true, decide_eq_true_eq] at h
  exact ⟨h.1.1.1, rd_roots h.1.1.2⟩

theorem sh_words {n : Nat} (h2 : n ≤ 7) (hf : ShFacts n) : wordsN (shD n).mem ≤ 5000 := by
  have : wordsN (shD n).mem = (shW n).1.length := by simp [wordsN, Dmp.mem, shD]
  rw [this, hf.wl]
  omega

theorem sh_alike {n : Nat} (h1 : 1 ≤ n) (h2 : n ≤ 7) (hf : ShFacts n) : Alike (shD n) (shE n) [] := by
  obtain ⟨l, hl⟩ := reachL_ex (shD n).mem (shD n).roots
  rw [← sh_major h1 hf hl]
  obtain ⟨hr, hd⟩ := sh_rd hf
  exact major_alike (by omega) hl (by rw [sh_len h1 hf hl]; omega) (lowM_of hr (sh_words h2 hf)) hd hf.reads

theorem sh_regions {n : Nat} (h1 : 1 ≤ n) (hf : ShFacts n) : regionsP (shE n) = true := by
  obtain ⟨l, hl⟩ := reachL_ex (shD n).mem (shD n).roots
  rw [← sh_major h1 hf hl]
  exact regions_major (by omega)

end Go.Proofs.YtlmpmjhanpkcnaaGreat
