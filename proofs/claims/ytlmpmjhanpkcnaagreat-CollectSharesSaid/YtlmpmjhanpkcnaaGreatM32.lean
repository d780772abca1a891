/-
  Collect: Major.
  Collect: the elders where nothing has outlived a collection.
-/
import Derived.Test.YtlmpmjhanpkcnaaGreatM31
set_option linter.unusedVariables false
set_option linter.unusedSimpArgs false
namespace Go.Proofs.YtlmpmjhanpkcnaaGreat
open Go.RowKit Go.Maps

theorem MvSt.keepRow {W0 w w' : World} {Y F a B e size n : Nat} {mv v : Value} {xs : List Value} {caps : Array Value} {K : List (Nat × Obj)} {st : Mv} (hY : Y < W0.heap.size) (h : MvSt W0 Y mv F caps K a st w) (hb : Below w.heap.size w w') (ho : w'.ownsRow B e size v n xs) (hB : w.heap.size ≤ B) : MvSt W0 Y mv F caps (Kout v w' K) a st w' := by
  rcases ho.2 with ⟨e, _⟩ | ⟨g, cap, cur, e, hg, hh, _⟩
  · rw [Kout_none (by rw [e]; rfl)]; exact h.lift hY hb
  · rw [Kout_some (by rw [e]; rfl) hh]; exact h.keep hY hb hh (by omega)

abbrev set9 (W : World) (b : Nat) (c0 c1 c2 c3 c4 c5 c6 c7 c8 : Value) : World := ((set7 W b c0 c1 c2 c3 c4 c5 c6).setCell ⟨b, 7, none⟩ c7).setCell ⟨b, 8, none⟩ c8

theorem set9_heap {W : World} {b : Nat} {a0 a1 a2 a3 a4 a5 a6 a7 a8 : Value} {t : TypeId} (h : W.heap[b]? = some (.cells #[a0, a1, a2, a3, a4, a5, a6, a7, a8] t (0, 0))) (c0 c1 c2 c3 c4 c5 c6 c7 c8 : Value) :
    (set9 W b c0 c1 c2 c3 c4 c5 c6 c7 c8).heap[b]? = some (.cells #[c0, c1, c2, c3, c4, c5, c6, c7, c8] t (0, 0)) := by
  have h0 := set_of h 0 c0
  rw [show (#[a0, a1, a2, a3, a4, a5, a6, a7, a8] : Array Value).setIfInBounds 0 c0 = #[c0, a1, a2, a3, a4, a5, a6, a7, a8] from rfl] at h0
  have h1 := set_of h0 1 c1
  rw [show (#[c0, a1, a2, a3, a4, a5, a6, a7, a8] : Array Value).setIfInBounds 1 c1 = #[c0, c1, a2, a3, a4, a5, a6, a7, a8] from rfl] at h1
  have h2 := set_of h1 2 c2
  rw [show (#[c0, c1, a2, a3, a4, a5, a6, a7, a8] : Array Value).setIfInBounds 2 c2 = #[c0, c1, c2, a3, a4, a5, a6, a7, a8] from rfl] at h2
  have h3 := set_of h2 3 c3
  rw [show (#[c0, c1, c2, a3, a4, a5, a6, a7, a8] : Array Value).setIfInBounds 3 c3 = #[c0, c1, c2, c3, a4, a5, a6, a7, a8] from rfl] at h3
  have h4 := set_of h3 4 c4
  rw [show (#[c0, c1, c2, c3, a4, a5, a6, a7, a8] : Array Value).setIfInBounds 4 c4 = #[c0, c1, c2, c3, c4, a5, a6, a7, a8] from rfl] at h4
  have h5 := set_of h4 5 c5
  rw [show (#[c0, c1, c2, c3, c4, a5, a6, a7, a8] : Array Value).setIfInBounds 5 c5 = #[c0, c1, c2, c3, c4, c5, a6, a7, a8] from rfl] at h5
  have h6 := set_of h5 6 c6
  rw [show (#[c0, c1, c2, c3, c4, c5, a6, a7, a8] : Array Value).setIfInBounds 6 c6 = #[c0, c1, c2, c3, c4, c5, c6, a7, a8] from rfl] at h6
  have h7 := set_of h6 7 c7
  rw [show (#[c0, c1, c2, c3, c4, c5, c6, a7, a8] : Array Value).setIfInBounds 7 c7 = #[c0, c1, c2, c3, c4, c5, c6, c7, a8] from rfl] at h7
  have h8 := set_of h7 8 c8
  rw [show (#[c0, c1, c2, c3, c4, c5, c6, c7, a8] : Array Value).setIfInBounds 8 c8 = #[c0, c1, c2, c3, c4, c5, c6, c7, c8] from rfl] at h8
  exact h8

theorem set9_below {B : Nat} {w W : World} {b : Nat} (h : Below B w W) (hB : B ≤ b) (c0 c1 c2 c3 c4 c5 c6 c7 c8 : Value) : Below B w (set9 W b c0 c1 c2 c3 c4 c5 c6 c7 c8) :=
  ((set7_below h hB c0 c1 c2 c3 c4 c5 c6).setCell hB _).setCell hB _

theorem own_set9 {w : World} {base b e size n : Nat} {v : Value} {xs : List Value} (h : w.ownsRow base e size v n xs) (hg : b < base) (c0 c1 c2 c3 c4 c5 c6 c7 c8 : Value) : (set9 w b c0 c1 c2 c3 c4 c5 c6 c7 c8).ownsRow base e size v n xs :=
  own_set (own_set (own_set (own_set (own_set (own_set (own_set (own_set (own_set h hg c0) hg c1) hg c2) hg c3) hg c4) hg c5) hg c6) hg c7) hg c8

theorem own_low {w : World} {base base' e size n : Nat} {v : Value} {xs : List Value} (h : w.ownsRow base e size v n xs) (hb : base' ≤ base) : w.ownsRow base' e size v n xs := by
  refine ⟨h.1, ?_⟩
  rcases h.2 with q | ⟨g, cap, cur, e1, e2, r⟩
  · exact .inl q
  · exact .inr ⟨g, cap, cur, e1, Nat.le_trans hb e2, r⟩

theorem mv_start (W0 : World) (Y F a : Nat) (mv : Value) (caps : Array Value) (h : W0.heap[Y]? = some (.cells #[.int .i64 a, .slice none 0 0] 59 (0, 0))) :
    MvSt W0 Y mv F caps [] a ⟨[], []⟩ ((W0.alloc (.map #[] 0)).alloc (.cells #[mv, .map (some W0.heap.size), .func (.func F) #[] caps, .slice none 0 0] 67)) := by
  have T := two_at W0 (.map #[] 0) (.cells #[mv, .map (some W0.heap.size), .func (.func F) #[] caps, .slice none 0 0] 67)
  obtain ⟨t1, t2, t3, t4⟩ := T
  refine ⟨grown_below t4, by omega, ⟨.slice none 0 0, .slice none 0 0, (t4.block Y (lt_of_block h)).trans h, World.ownsRow_nil _ _ _ _, t2, World.ownsRow_nil _ _ _ _, (fun b e => by cases e), fun p hp => by cases hp⟩, ?_⟩
  refine (MapAt.made W0).block ?_
  rw [t1, World.alloc_heap_new]

def majorSt (d : Dmp) (a : Nat) (l : List Spt) : Mv := scanP d.mem a (l.length + 1) 0 (movesP d.mem a d.roots ⟨[], []⟩).2

/-- A dump behind a collection. -/
def majorD (d : Dmp) (a : Nat) (l : List Spt) : Dmp :=
  { young := ((a : Int), (majorSt d a l).words), old := (0, []), size := ((majorSt d a l).words.length : Int), mark := ((majorSt d a l).words.length : Int), frags := [], roots := (movesP d.mem a d.roots ⟨[], []⟩).1, handles := sortI (hsM d.mem (majorSt d a l).went l) }

theorem gone_at {m : List Frg} {a : Nat} {R : List Spt} {st : Mv} (h : MInv m a R st) (hR : R.length ≤ 10000) (ha : a ≤ 1125899906842624) {s : Spt} (hs : s ∈ st.keys) : ∃ n, n ≤ 1125899907842624 ∧ wentAt st.went s = some (n * 8 + s.2.toNat) := by
  obtain ⟨i, hi, rfl⟩ := List.getElem_of_mem hs
  have hk : st.keys.length = st.went.length := List.length_map _
  have hi' : i < st.went.length := by omega
  have e := h.at hi'
  have hr := h.room hi'
  have hw := h.words
  have hg : st.keys[i] = st.went[i].1 := by simp [Mv.keys]
  rw [hg]
  exact ⟨_, by omega, e⟩

def MajorOut (w w' : World) (d : Dmp) (a : Nat) (l : List Spt) (dv : Value) : Prop :=
  ∃ yv rv hv, dv = dmpV (.int .i64 (a : Int)) yv (.int .i64 0) (.slice none 0 0) (majorD d a l).size (majorD d a l).mark (.slice none 0 0) rv hv ∧ w'.ownsRow w.heap.size 47 1 yv (majorD d a l).young.2.length (csW (majorD d a l).young.2) ∧
    w'.ownsRow w.heap.size 47 1 rv (majorD d a l).roots.length (csW (majorD d a l).roots) ∧ w'.ownsRow w.heap.size 3 1 hv (majorD d a l).handles.length (csI (majorD d a l).handles)

def zeroD : Value := dmpV (.int .i64 0) (.slice none 0 0) (.int .i64 0) (.slice none 0 0) 0 0 (.slice none 0 0) (.slice none 0 0) (.slice none 0 0)

def MajorEnd (w w' : World) (d : Dmp) (a : Int) (e : Ending) : Prop :=
  (saneP d a = false → e = .returned (.tuple #[zeroD, .bool false])) ∧ (saneP d a = true → ∃ l dv, ReachL d.mem d.roots l ∧ e = .returned (.tuple #[dv, .bool true]) ∧ MajorOut w w' d a.toNat l dv) ∧ Below w.heap.size w w'

set_option maxHeartbeats 16000000 in
set_option maxRecDepth 100000 in
theorem major_any (d : Dmp) (v : Value) (a : Int) (w : World) (hd : DmAt w v d) (hf : d.frags.length ≤ 100000) (hN : wordsN d.mem ≤ 5000) (hrl : d.roots.length ≤ 1000) :
    Calls Tryz.prog 12 #[v, .int .i64 a] w fun e w' => MajorEnd w w' d a e := by
  have HD := Lib.hid hd
  obtain ⟨c0, c1, c2, c3, c6, c7, c8, rfl, -, -, -, -, -, hrt, -⟩ := hd
  have HRT := Lib.hid hrt
  clear hrt
  obtain ⟨sn, hsn⟩ : ∃ sn, saneP d a = sn := ⟨_, rfl⟩
  have HSN := Lib.hid hsn
  clear hsn
  have T := two_at w (.cells #[c0, c1, c2, c3, .int .i64 d.size, .int .i64 d.mark, c6, c7, c8] 28) (.cells #[.int .i64 0, .slice none 0 0, .int .i64 0, .slice none 0 0, .int .i64 0, .int .i64 0, .slice none 0 0, .slice none 0 0, .slice none 0 0] 28)
  obtain ⟨t1, t2, t3, t4⟩ := T
  have c00 := cell_of t1 0
  have hmm := @run_makeMap Tryz.prog
  go_enter Tryz.func12, Tryz.ntmps12
  go_wp2_with fail
  generalize (w.alloc (.cells #[c0, c1, c2, c3, .int .i64 d.size, .int .i64 d.mark, c6, c7, c8] 28)).alloc _ = W at *
  refine (sane_any d _ a W (HD.out.below t4) hf hN).mono ?_
  rw [HSN.out]
  rintro e w2 ⟨rfl, hb2⟩
  have X2 := Lib.hid ((hb2.block _ (lt_of_block t1)).trans t1)
  have X4 := Lib.hid ((hb2.block _ (lt_of_block t2)).trans t2)
  have HB := Lib.hid (t4.trans (hb2.mono (by omega)))
  have HS := Lib.hid (show w.heap.size + 2 ≤ w2.heap.size by have := hb2.size; omega)
  clear t1 t2 t3 t4 hb2 c00
  cases sn with
  | false =>
    have y0 := cell_of X4.out 0
    have z0 := free_of X4.out 0
    have y1 := cell_of X4.out 1
    have z1 := free_of X4.out 1
    have y2 := cell_of X4.out 2
    have z2 := free_of X4.out 2
    have y3 := cell_of X4.out 3
    have z3 := free_of X4.out 3
    have y4 := cell_of X4.out 4
    have z4 := free_of X4.out 4
    have y5 := cell_of X4.out 5
    have z5 := free_of X4.out 5
    have y6 := cell_of X4.out 6
    have z6 := free_of X4.out 6
    have y7 := cell_of X4.out 7
    have z7 := free_of X4.out 7
    have y8 := cell_of X4.out 8
    have z8 := free_of X4.out 8
    simp at y0 y1 y2 y3 y4 y5 y6 y7 y8
    go_wp2_with fail
    have HH := set9_heap X4.out (.int .i64 0) (.slice none 0 0) (.int .i64 0) (.slice none 0 0) (.int .i64 0) (.int .i64 0) (.slice none 0 0) (.slice none 0 0) (.slice none 0 0)
    have HBB := Lib.hid (set9_below HB.out (show w.heap.size ≤ w.heap.size + 1 by omega) (.int .i64 0) (.slice none 0 0) (.int .i64 0) (.slice none 0 0) (.int .i64 0) (.int .i64 0) (.slice none 0 0) (.slice none 0 0) (.slice none 0 0))
    clear y0 y1 y2 y3 y4 y5 y6 y7 y8 z0 z1 z2 z3 z4 z5 z6 z7 z8
    unfold set9 set7 at HH HBB
    generalize World.setCell _ ⟨w.heap.size + 1, 8, none⟩ (.slice none 0 0) = V at *
    have y0 := cell_of HH 0
    have y1 := cell_of HH 1
    have y2 := cell_of HH 2
    have y3 := cell_of HH 3
    have y4 := cell_of HH 4
    have y5 := cell_of HH 5
    have y6 := cell_of HH 6
    have y7 := cell_of HH 7
    have y8 := cell_of HH 8
    simp at y0 y1 y2 y3 y4 y5 y6 y7 y8
    exact bodyPost_ret (v := .tuple #[zeroD, .bool false]) (by simp [results, Tryz.results12, go_sem, y0, y1, y2, y3, y4, y5, y6, y7, y8, zeroD]) rfl ⟨fun _ => rfl, (fun q => by cases HSN.out.symm.trans q), HBB.out⟩
  | true =>
    have hsane := HSN.out
    unfold saneP at hsane
    simp only [Bool.and_eq_true, decide_eq_true_eq] at hsane
    obtain ⟨⟨⟨hrg, hro⟩, ha1⟩, ha2⟩ := hsane
    have HRO := Lib.hid (rd_roots hro)
    clear hrg hro
    obtain ⟨an, rfl⟩ : ∃ an : Nat, a = (an : Int) := ⟨a.toNat, by omega⟩
    have y0 := cell_of X2.out 0
    have y1 := cell_of X2.out 1
    have y2 := cell_of X2.out 2
    have y3 := cell_of X2.out 3
    have y4 := cell_of X2.out 4
    have y5 := cell_of X2.out 5
    have y6 := cell_of X2.out 6
    have y7 := cell_of X2.out 7
    have y8 := cell_of X2.out 8
    simp at y0 y1 y2 y3 y4 y5 y6 y7 y8
    go_wp2_with fail
    refine (of_any d _ w2 (HD.out.below HB.out) hf).mono ?_
    rintro e w3 ⟨mv, rfl, hmv, hb3⟩
    obtain ⟨_, ma, mc, rfl, _⟩ := id hmv
    have X3 := Lib.hid ((hb3.block _ (lt_of_block X2.out)).trans X2.out)
    have Z3 := Lib.hid ((hb3.block _ (lt_of_block X4.out)).trans X4.out)
    have HB3 := Lib.hid (HB.out.trans (hb3.mono (by have := HS.out; omega)))
    have HS3 := Lib.hid (show w.heap.size + 2 ≤ w3.heap.size by have := hb3.size; have := HS.out; omega)
    have HM := Lib.hid hmv
    clear hmv hb3 y0 y1 y2 y3 y4 y5 y6 y7 y8 X2 X4 HB HS
    have y7 := cell_of X3.out 7
    simp at y7
    go_upto_region 6 with fail
    have T := two_at w3 (.cells #[.int .i64 (an : Int), .slice none 0 0] 59) (.cells #[.pointer (some ⟨w3.heap.size, 0, none⟩)] 57)
    obtain ⟨t1, t2, t3, t4⟩ := T
    obtain ⟨Y, hYe⟩ : ∃ Y, w3.heap.size = Y := ⟨_, rfl⟩
    rw [hYe] at t1 t2 t3 t4 ⊢
    have hW3 : w3.heap.size = Y := hYe
    generalize (w3.alloc (.cells #[.int .i64 (an : Int), .slice none 0 0] 59)).alloc (.cells #[.pointer (some ⟨Y, 0, none⟩)] 57) = W0 at *
    have HE := Lib.hid (show MvEnv w3 W0 Y d.mem (.slice ma d.mem.length mc) 28 #[.pointer (some ⟨Y + 1, 0, none⟩)] from
      ⟨HM.out, by omega, by omega, by rw [hW3]; exact t4, enter_major, fun s W _ hW => goes_major s (Y + 1) Y W ((hW.block (Y + 1) (by omega) (by simp)).trans t2)⟩)
    have HS0 := Lib.hid (mv_start W0 Y 28 an (.slice ma d.mem.length mc) #[.pointer (some ⟨Y + 1, 0, none⟩)] t1)
    have HYW := Lib.hid (show Y < W0.heap.size ∧ w.heap.size + 2 ≤ Y from ⟨by omega, by have := HS3.out; omega⟩)
    have e1 : Y + 1 + 1 = W0.heap.size := by omega
    have T7 := Lib.hid t2
    have HB0 := Lib.hid (HB3.out.trans (t4.mono (by have := HS3.out; omega)))
    have X0 := Lib.hid ((t4.block _ (by have := HS3.out; omega)).trans X3.out)
    have Z0 := Lib.hid ((t4.block _ (by have := HS3.out; omega)).trans Z3.out)
    rw [e1]
    clear t1 t2 t3 t4 y7 X3 Z3
    generalize (W0.alloc (Obj.map #[] 0)).alloc (Obj.cells #[.slice ma d.mem.length mc, .map (some W0.heap.size), .func (.func 28) #[] #[.pointer (some ⟨Y + 1, 0, none⟩)], .slice none 0 0] 67) = w4 at *
    have y7 := cell_of ((HS0.out.base.block _ (by have := HYW.out; omega) (by have := HYW.out; simp; omega)).trans X0.out) 7
    simp at y7
    have HBL := Lib.hid (show ∀ V, W0.grownBy V (some Y) → Below w.heap.size w V from fun V hV => HB3.out.trans ((HE.out.below hV).mono (by have := HS3.out; omega)))
    go_wp2_with fail
    refine (reached_own d.mem d.roots _ c7 w4 (HE.out.mem HS0.out.base) (HRT.out.below (HBL.out w4 HS0.out.base)) hN hrl).mono ?_
    rintro e w5 ⟨sv, l, rfl, hown5, hL, hok, hll, hb5⟩
    have HS5 := Lib.hid (HS0.out.keepRow HYW.out.1 hb5 hown5 (by omega))
    have HL := Lib.hid hL
    have HC := Lib.hid (closed_of HRO.out hL)
    have HOK := Lib.hid hok
    have HO5 := Lib.hid hown5
    obtain ⟨sa5, sc5, rfl⟩ := own_slice hown5
    clear hb5 hok hL hown5 y7
    have y7 := cell_of ((HS5.out.base.block _ (by have := HYW.out; omega) (by have := HYW.out; simp; omega)).trans X0.out) 7
    simp at y7
    go_wp2_with fail
    refine (moved_any w3 W0 Y d.mem _ 28 _ _ an l ⟨[], []⟩ c7 d.roots w5 HE.out HS5.out (MInv.start _ _ _) (by omega) HC.out.1 HOK.out (by omega) (HRT.out.below HB3.out) hrl HC.out.2).mono ?_
    rintro e w6 ⟨rv, rfl, hro, hms, hkn⟩
    have H6 := Lib.hid hms
    have HR6 := Lib.hid hro
    have HKN := Lib.hid hkn
    obtain ⟨ra6, rc6, rfl⟩ := own_slice hro
    clear hms hro hkn y7 HS5
    go_upto_region 8 with fail
    have X7 := Lib.hid (World.alloc_heap_new w6 (.cells #[.int .i64 0, .slice none 0 0, .int .i64 0, .slice none 0 0, .int .i64 0, .int .i64 0, .slice none 0 0, .slice ra6 (movesP d.mem an d.roots ⟨[], []⟩).1.length rc6, .slice none 0 0] 28))
    have B7 := Lib.hid ((Below.refl w6.heap.size w6).alloc (Nat.le_refl _) (.cells #[.int .i64 0, .slice none 0 0, .int .i64 0, .slice none 0 0, .int .i64 0, .int .i64 0, .slice none 0 0, .slice ra6 (movesP d.mem an d.roots ⟨[], []⟩).1.length rc6, .slice none 0 0] 28))
    generalize w6.alloc (.cells #[.int .i64 0, .slice none 0 0, .int .i64 0, .slice none 0 0, .int .i64 0, .int .i64 0, .slice none 0 0, .slice ra6 (movesP d.mem an d.roots ⟨[], []⟩).1.length rc6, .slice none 0 0] 28) = w7 at *
    have H7 := Lib.hid (H6.out.lift HYW.out.1 B7.out)
    have t0 := cell_of ((H7.out.base.block (Y + 1) (by have := HYW.out; omega) (by simp)).trans T7.out) 0
    obtain ⟨yv, qv, hmid⟩ := H6.out.mid
    have M6 := Lib.hid hmid
    have s0 := cell_of ((B7.out.block Y (lt_of_block hmid.r1)).trans hmid.r1) 0
    have s1 := cell_of ((B7.out.block Y (lt_of_block hmid.r1)).trans hmid.r1) 1
    obtain ⟨ya, yc, rfl⟩ := own_slice hmid.r2
    have y0 := cell_of X7.out 0
    have z0 := free_of X7.out 0
    have y1 := cell_of X7.out 1
    have z1 := free_of X7.out 1
    simp at t0 s0 s1 y0 y1
    clear hmid
    go_upto_region 9 with fail
    have X8 := Lib.hid (set_of (set_of X7.out 0 (.int .i64 (an : Int))) 1 (.slice ya (majorSt d an l).words.length yc))
    have B8 := Lib.hid ((B7.out.setCell (p := ⟨w6.heap.size, 0, none⟩) (Nat.le_refl _) (.int .i64 (an : Int))).setCell (p := ⟨w6.heap.size, 1, none⟩) (Nat.le_refl _) (.slice ya (majorSt d an l).words.length yc))
    have hst : scanP d.mem an (l.length + 1) 0 (movesP d.mem an d.roots ⟨[], []⟩).2 = majorSt d an l := rfl
    rw [hst] at H6 H7 M6 s1 ⊢
    have X8 := Lib.hid (show ((w7.setCell ⟨w6.heap.size, 0, none⟩ (.int .i64 (an : Int))).setCell ⟨w6.heap.size, 1, none⟩ (.slice ya (majorSt d an l).words.length yc)).heap[w6.heap.size]? = some (.cells #[.int .i64 (an : Int), .slice ya (majorSt d an l).words.length yc, .int .i64 0, .slice none 0 0, .int .i64 0, .int .i64 0, .slice none 0 0, .slice ra6 (movesP d.mem an d.roots ⟨[], []⟩).1.length rc6, .slice none 0 0] 28 (0, 0)) from X8.out)
    clear y0 y1 z0 z1 s0 s1 t0 X7 H7
    generalize (w7.setCell ⟨w6.heap.size, 0, none⟩ (.int .i64 (an : Int))).setCell ⟨w6.heap.size, 1, none⟩ (.slice ya (majorSt d an l).words.length yc) = w8 at *
    have H8 := Lib.hid (H6.out.lift HYW.out.1 B8.out)
    have t0 := cell_of ((H8.out.base.block (Y + 1) (by have := HYW.out; omega) (by simp)).trans T7.out) 0
    have s1 := cell_of ((B8.out.block Y (lt_of_block M6.out.r1)).trans M6.out.r1) 1
    have y4 := cell_of X8.out 4
    have y5 := cell_of X8.out 5
    have z4 := free_of X8.out 4
    have z5 := free_of X8.out 5
    simp at t0 s1 y4 y5
    go_region
    have X9 := Lib.hid (show ((w8.setCell ⟨w6.heap.size, 4, none⟩ (.int .i64 ((majorSt d an l).words.length : Int))).setCell ⟨w6.heap.size, 5, none⟩ (.int .i64 ((majorSt d an l).words.length : Int))).drew.heap[w6.heap.size]? = some (.cells #[.int .i64 (an : Int), .slice ya (majorSt d an l).words.length yc, .int .i64 0, .slice none 0 0, .int .i64 ((majorSt d an l).words.length : Int), .int .i64 ((majorSt d an l).words.length : Int), .slice none 0 0, .slice ra6 (movesP d.mem an d.roots ⟨[], []⟩).1.length rc6, .slice none 0 0] 28 (0, 0)) from set_of (set_of X8.out 4 _) 5 _)
    have B9 := Lib.hid (((B8.out.setCell (p := ⟨w6.heap.size, 4, none⟩) (Nat.le_refl _) (.int .i64 ((majorSt d an l).words.length : Int))).setCell (p := ⟨w6.heap.size, 5, none⟩) (Nat.le_refl _) (.int .i64 ((majorSt d an l).words.length : Int))).drew)
    clear y4 y5 z4 z5 s1 t0 X8 H8
    generalize ((w8.setCell ⟨w6.heap.size, 4, none⟩ (.int .i64 ((majorSt d an l).words.length : Int))).setCell ⟨w6.heap.size, 5, none⟩ (.int .i64 ((majorSt d an l).words.length : Int))).drew = w9 at *
    have H9 := Lib.hid (H6.out.keep HYW.out.1 B9.out X9.out (Nat.le_refl _))
    have HAG := Lib.hid (all_gone (a := an) (R := l) HM.out.bnd (by omega) (by omega) HC.out.1 HRT.out.2.1 HC.out.2)
    have HSPT := Lib.hid (show ∀ w', W0.grownBy w' (some Y) → (∀ p ∈ (w6.heap.size, Obj.cells #[.int .i64 (an : Int), .slice ya (majorSt d an l).words.length yc, .int .i64 0, .slice none 0 0, .int .i64 ((majorSt d an l).words.length : Int), .int .i64 ((majorSt d an l).words.length : Int), .slice none 0 0, .slice ra6 (movesP d.mem an d.roots ⟨[], []⟩).1.length rc6, .slice none 0 0] 28 (0, 0)) :: Kout (.slice ra6 (movesP d.mem an d.roots ⟨[], []⟩).1.length rc6) w6 (Kout (.slice sa5 l.length sc5) w5 []), w'.heap[p.1]? = some p.2) → SpAt w' (.slice sa5 l.length sc5) l from fun w' _ hw => SpAt.of_own (own_stays HO5.out (K := []) (fun p hp => hw p (List.mem_cons_of_mem _ (Kout_sub p hp)))).1 (by omega))
    have HGO := Lib.hid (show ∀ s ∈ l, (s.2 = 4 ∨ s.2 = 5) ∧ In64 s.1 ∧ (objP d.mem s.1 s.2).isSome = true ∧ ∃ n, n ≤ 1125899907842624 ∧ wentAt (majorSt d an l).went s = some (n * 8 + s.2.toNat) from fun s hs => ⟨(HOK.out s hs).1, (HOK.out s hs).2, ((HL.out.2 s).1 hs).ok, gone_at HAG.out.1.inv (by omega) (by omega) (HAG.out.2.2.2 s ((HL.out.2 s).1 hs))⟩)
    go_wp2_with fail
    refine (handlesM_any w3 W0 Y d.mem _ 28 _ _ an (majorSt d an l) _ l w9 HE.out H9.out HSPT.out HGO.out (by omega)).mono ?_
    rintro e w10 ⟨hv, rfl, hbw10, hown10, hms10, hkn10⟩
    have HO10 := Lib.hid hown10
    have H10 := Lib.hid hms10
    have HK10 := Lib.hid hkn10
    obtain ⟨ha10, hc10, rfl⟩ := own_slice hown10
    have X10 := Lib.hid (hms10.kept (Kout_sub _ List.mem_cons_self))
    have y8 := cell_of X10.out 8
    have z8 := free_of X10.out 8
    simp at y8
    clear hown10 hms10 hkn10 HSPT
    have HB10 := Lib.hid hbw10
    clear hbw10
    go_upto_region 11 with fail
    have hlen : (hsM d.mem (majorSt d an l).went l).length ≤ 1000000 := by have := hsM_le d.mem (majorSt d an l).went l; omega
    have X11 := Lib.hid (set_of X10.out 8 (.slice ha10 (hsM d.mem (majorSt d an l).went l).length hc10))
    have B11 := Lib.hid ((B9.out.trans (HB10.out.mono B9.out.size)).setCell (p := ⟨w6.heap.size, 8, none⟩) (Nat.le_refl _) (.slice ha10 (hsM d.mem (majorSt d an l).went l).length hc10))
    have O11 := Lib.hid (own_set HO10.out (g := w6.heap.size) (i := 8) (by exact lt_of_block X9.out) (.slice ha10 (hsM d.mem (majorSt d an l).went l).length hc10))
    generalize w10.setCell ⟨w6.heap.size, 8, none⟩ (.slice ha10 (hsM d.mem (majorSt d an l).went l).length hc10) = w11 at *
    have y8 := cell_of X11.out 8
    simp at y8
    clear z8
    go_wp2_with fail
    refine (sort_any _ _ _ w11 O11.out hlen).mono ?_
    rintro e w12 ⟨rfl, hso, hgr⟩
    have B12 := Lib.hid (B11.out.grown hgr (by have := B11.out.size; have := B9.out.size; omega) (fun k hk => by have := (O11.out.lt k hk).1; have := B9.out.size; omega))
    have X12 := Lib.hid ((hgr.block w6.heap.size (lt_of_block X11.out) (fun e => by have := (O11.out.lt _ e.symm).1; have := lt_of_block X9.out; omega)).trans X11.out)
    have OH := Lib.hid hso
    have OY := Lib.hid (own_lift M6.out.r2 B12.out)
    have OR := Lib.hid (own_lift HR6.out B12.out)
    clear hso hgr y8
    have X12 := Lib.hid (show w12.heap[w6.heap.size]? = some (.cells #[.int .i64 (an : Int), .slice ya (majorSt d an l).words.length yc, .int .i64 0, .slice none 0 0, .int .i64 ((majorSt d an l).words.length : Int), .int .i64 ((majorSt d an l).words.length : Int), .slice none 0 0, .slice ra6 (movesP d.mem an d.roots ⟨[], []⟩).1.length rc6, .slice ha10 (hsM d.mem (majorSt d an l).went l).length hc10] 28 (0, 0)) from X12.out)
    have Z12 := Lib.hid ((B12.out.block _ (by have := H6.out.base.size; have := HYW.out; omega)).trans ((H6.out.base.block _ (by have := HYW.out; omega) (by have := HYW.out; simp; omega)).trans Z0.out))
    have HBF := Lib.hid ((HBL.out w6 H6.out.base).trans (B12.out.mono (by have := H6.out.base.size; have := HYW.out; omega)))
    have HSF := Lib.hid (show w.heap.size ≤ w6.heap.size ∧ w.heap.size ≤ W0.heap.size by have := H6.out.base.size; have := HYW.out; omega)
    have x0 := cell_of X12.out 0
    have x1 := cell_of X12.out 1
    have x2 := cell_of X12.out 2
    have x3 := cell_of X12.out 3
    have x4 := cell_of X12.out 4
    have x5 := cell_of X12.out 5
    have x6 := cell_of X12.out 6
    have x7 := cell_of X12.out 7
    have x8 := cell_of X12.out 8
    have y0 := cell_of Z12.out 0
    have z0 := free_of Z12.out 0
    have y1 := cell_of Z12.out 1
    have z1 := free_of Z12.out 1
    have y2 := cell_of Z12.out 2
    have z2 := free_of Z12.out 2
    have y3 := cell_of Z12.out 3
    have z3 := free_of Z12.out 3
    have y4 := cell_of Z12.out 4
    have z4 := free_of Z12.out 4
    have y5 := cell_of Z12.out 5
    have z5 := free_of Z12.out 5
    have y6 := cell_of Z12.out 6
    have z6 := free_of Z12.out 6
    have y7 := cell_of Z12.out 7
    have z7 := free_of Z12.out 7
    have y8 := cell_of Z12.out 8
    have z8 := free_of Z12.out 8
    simp at x0 x1 x2 x3 x4 x5 x6 x7 x8 y0 y1 y2 y3 y4 y5 y6 y7 y8
    go_wp2_with fail
    have HH := set9_heap Z12.out (.int .i64 (an : Int)) (.slice ya (majorSt d an l).words.length yc) (.int .i64 0) (.slice none 0 0) (.int .i64 ((majorSt d an l).words.length : Int)) (.int .i64 ((majorSt d an l).words.length : Int)) (.slice none 0 0) (.slice ra6 (movesP d.mem an d.roots ⟨[], []⟩).1.length rc6) (.slice ha10 (hsM d.mem (majorSt d an l).went l).length hc10)
    have HBB := Lib.hid (set9_below HBF.out (show w.heap.size ≤ w.heap.size + 1 by omega) (.int .i64 (an : Int)) (.slice ya (majorSt d an l).words.length yc) (.int .i64 0) (.slice none 0 0) (.int .i64 ((majorSt d an l).words.length : Int)) (.int .i64 ((majorSt d an l).words.length : Int)) (.slice none 0 0) (.slice ra6 (movesP d.mem an d.roots ⟨[], []⟩).1.length rc6) (.slice ha10 (hsM d.mem (majorSt d an l).went l).length hc10))
    have OY2 := Lib.hid (own_low (own_set9 OY.out (b := w.heap.size + 1) (by have := HYW.out; omega) (.int .i64 (an : Int)) (.slice ya (majorSt d an l).words.length yc) (.int .i64 0) (.slice none 0 0) (.int .i64 ((majorSt d an l).words.length : Int)) (.int .i64 ((majorSt d an l).words.length : Int)) (.slice none 0 0) (.slice ra6 (movesP d.mem an d.roots ⟨[], []⟩).1.length rc6) (.slice ha10 (hsM d.mem (majorSt d an l).went l).length hc10)) (base' := w.heap.size) (by have := HSF.out; omega))
    have OR2 := Lib.hid (own_low (own_set9 OR.out (b := w.heap.size + 1) (by have := HYW.out; omega) (.int .i64 (an : Int)) (.slice ya (majorSt d an l).words.length yc) (.int .i64 0) (.slice none 0 0) (.int .i64 ((majorSt d an l).words.length : Int)) (.int .i64 ((majorSt d an l).words.length : Int)) (.slice none 0 0) (.slice ra6 (movesP d.mem an d.roots ⟨[], []⟩).1.length rc6) (.slice ha10 (hsM d.mem (majorSt d an l).went l).length hc10)) (base' := w.heap.size) (by have := HSF.out; omega))
    have OH2 := Lib.hid (own_low (own_set9 OH.out (b := w.heap.size + 1) (by have := HYW.out; have := B9.out.size; have := H6.out.base.size; omega) (.int .i64 (an : Int)) (.slice ya (majorSt d an l).words.length yc) (.int .i64 0) (.slice none 0 0) (.int .i64 ((majorSt d an l).words.length : Int)) (.int .i64 ((majorSt d an l).words.length : Int)) (.slice none 0 0) (.slice ra6 (movesP d.mem an d.roots ⟨[], []⟩).1.length rc6) (.slice ha10 (hsM d.mem (majorSt d an l).went l).length hc10)) (base' := w.heap.size) (by have := HSF.out; have := B9.out.size; omega))
    clear y0 y1 y2 y3 y4 y5 y6 y7 y8 z0 z1 z2 z3 z4 z5 z6 z7 z8 x0 x1 x2 x3 x4 x5 x6 x7 x8
    unfold set9 set7 at HH HBB OY2 OR2 OH2
    generalize World.setCell _ ⟨w.heap.size + 1, 8, none⟩ (.slice ha10 (hsM d.mem (majorSt d an l).went l).length hc10) = V at *
    have y0 := cell_of HH 0
    have y1 := cell_of HH 1
    have y2 := cell_of HH 2
    have y3 := cell_of HH 3
    have y4 := cell_of HH 4
    have y5 := cell_of HH 5
    have y6 := cell_of HH 6
    have y7 := cell_of HH 7
    have y8 := cell_of HH 8
    simp at y0 y1 y2 y3 y4 y5 y6 y7 y8
    have hsl : (sortI (hsM d.mem (majorSt d an l).went l)).length = (hsM d.mem (majorSt d an l).went l).length := by unfold sortI; exact List.length_mergeSort _
    have HOUT := Lib.hid (show MajorOut w V d an l (dmpV (.int .i64 (an : Int)) (.slice ya (majorSt d an l).words.length yc) (.int .i64 0) (.slice none 0 0) ((majorSt d an l).words.length : Int) ((majorSt d an l).words.length : Int) (.slice none 0 0) (.slice ra6 (movesP d.mem an d.roots ⟨[], []⟩).1.length rc6) (.slice ha10 (hsM d.mem (majorSt d an l).went l).length hc10)) from
      ⟨_, _, _, rfl, OY2.out, OR2.out, by show V.ownsRow _ _ _ _ (sortI (hsM d.mem (majorSt d an l).went l)).length _; rw [hsl]; exact OH2.out⟩)
    refine bodyPost_ret (v := .tuple #[dmpV (.int .i64 (an : Int)) (.slice ya (majorSt d an l).words.length yc) (.int .i64 0) (.slice none 0 0) ((majorSt d an l).words.length : Int) ((majorSt d an l).words.length : Int) (.slice none 0 0) (.slice ra6 (movesP d.mem an d.roots ⟨[], []⟩).1.length rc6) (.slice ha10 (hsM d.mem (majorSt d an l).went l).length hc10), .bool true]) (by simp [results, Tryz.results12, go_sem, y0, y1, y2, y3, y4, y5, y6, y7, y8]) rfl ⟨(fun q => by cases HSN.out.symm.trans q), fun _ => ⟨l, _, HL.out, rfl, by rw [Int.toNat_natCast]; exact HOUT.out⟩, HBB.out⟩

end Go.Proofs.YtlmpmjhanpkcnaaGreat

namespace Go.Proofs.YtlmpmjhanpkcnaaGreat
open Go.RowKit Go.Maps

theorem inP_none (x a : Int) : inP x 0 a = false := by
  unfold inP
  by_cases h : x ≤ a
  · have : ¬ (a - x < ((0 : Nat) : Int)) := by omega
    simp [this]
  · simp [h]

def ElderEnd (w w' : World) (e : Ending) : Prop := ∃ b, e = .returned (.map (some b)) ∧ SetAt spotFam w' b [] ∧ w.heap.size ≤ b ∧ Below w.heap.size w w'

set_option maxHeartbeats 16000000 in
set_option maxRecDepth 100000 in
theorem elder_any (d : Dmp) (v mv sv : Value) (m : List Frg) (l : List Spt) (w : World) (hd : DmAt w v d) (hmk : d.mark = 0) (hol : d.old.2 = []) (hm : RsAt w mv m) (hN : wordsN m ≤ 5000) (hs : SpAt w sv l) (hok : ∀ s ∈ l, In64 s.1) :
    Calls Tryz.prog 45 #[v, mv, sv] w fun e w' => ElderEnd w w' e := by
  have HM := Lib.hid hm
  have HSP := Lib.hid hs
  have HOK := Lib.hid hok
  obtain ⟨c0, c1, c2, c3, c6, c7, c8, rfl, ⟨hy1, rfl, ya, yc, rfl, hyw⟩, ⟨ho1, rfl, oa, oc, rfl, -⟩, -, -, -, -, -⟩ := hd
  rw [hmk]
  have ho0 : d.old.2.length = 0 := by rw [hol]; rfl
  rw [ho0]
  clear hol
  obtain ⟨hll, sa, sc, rfl, -⟩ := hs
  have hmm := @run_makeMap Tryz.prog
  have T := one_at w (.cells #[.int .i64 d.young.1, .slice ya d.young.2.length yc, .int .i64 d.old.1, .slice oa 0 oc, .int .i64 d.size, .int .i64 0, c6, c7, c8] 28)
  clear hm hok hyw
  go_enter Tryz.func45, Tryz.ntmps45
  go_wp2_with fail
  generalize w.alloc (.cells #[.int .i64 d.young.1, .slice ya d.young.2.length yc, .int .i64 d.old.1, .slice oa 0 oc, .int .i64 d.size, .int .i64 0, c6, c7, c8] 28) = W at *
  obtain ⟨t1, t2, t3⟩ := T
  have X1 := Lib.hid t1
  have B1 := Lib.hid t3
  have y0 := cell_of t1 0
  have y1 := cell_of t1 1
  have y5 := cell_of t1 5
  simp at y0 y1 y5
  have n0 := World.new_ne _ _ y0
  have n1 := World.new_ne _ _ y1
  have n5 := World.new_ne _ _ y5
  have A := fun o => (Below.refl W.heap.size W).alloc (Nat.le_refl _) o
  have a0 := fun o => ((A o).cell (World.block_lt_of_cell? W _ y0)).trans y0
  have a1 := fun o => ((A o).cell (World.block_lt_of_cell? W _ y1)).trans y1
  have a5 := fun o => ((A o).cell (World.block_lt_of_cell? W _ y5)).trans y5
  clear t1 t3 A
  go_region
  have T := one_at W (.cells #[.int .i64 d.young.1, .slice ya 0 yc] 24)
  obtain ⟨t1, t2', t3⟩ := T
  have X7 := Lib.hid (show (W.alloc (.cells #[.int .i64 d.young.1, .slice ya 0 yc] 24)).drew.heap[W.heap.size]? = some (.cells #[.int .i64 d.young.1, .slice ya 0 yc] 24 (0, 0)) from t1)
  have B7 := Lib.hid (B1.out.trans ((t3.drew).mono B1.out.size))
  clear t1 t2' t3 n0 n1 n5 y0 y1 y5 a0 a1 a5
  obtain ⟨tb, htb⟩ : ∃ tb, W.heap.size = tb := ⟨_, rfl⟩
  rw [htb] at X7 ⊢
  generalize (W.alloc (.cells #[.int .i64 d.young.1, .slice ya 0 yc] 24)).drew = W2 at *
  go_wp2_with fail
  go_loopw [8, 28] (fun o i wr => ∃ (k : Nat), k ≤ l.length ∧ i = .int .i64 k ∧ o = .slice none 0 0 ∧ Hid (wr.heap[tb]? = some (.cells #[.int .i64 d.young.1, .slice ya 0 yc] 24 (0, 0))) ∧ Hid (Below w.heap.size w wr)) (fun _ i _ => l.length - (intOf i).toNat)
  case atStart => exact ⟨0, Nat.zero_le _, rfl, rfl, X7, B7⟩
  case round =>
    obtain ⟨k, hk, rfl, rfl, L1, L2⟩ := hrel
    by_cases hlt : k < l.length
    · obtain ⟨-, a', c', he, hsc⟩ := HSP.out.below L2.out
      simp only [Value.slice.injEq, true_and] at he
      obtain ⟨rfl, rfl⟩ := he
      obtain ⟨gq, oq, rfl, k0, k1⟩ := hsc k hlt
      have p1 : (k : Int) < (l.length : Int) := by omega
      have p2 : (0 : Int) ≤ (k : Int) := by omega
      have p5 : IntKind.i64.wrap ((k : Int) + 1) = (k : Int) + 1 := IntWalk.i64_in _ (by omega)
      have hin := HOK.out _ (List.getElem_mem hlt)
      obtain ⟨⟨a, t⟩, hss⟩ : ∃ s, l[k] = s := ⟨_, rfl⟩
      rw [hss] at k0 k1 hin
      simp only at k0 k1 hin
      have T := one_at wr (.cells #[.int .i64 a, .int .i64 t] 63)
      obtain ⟨t1, t2', t3⟩ := T
      have e0 := cell_of ((t3.block tb (lt_of_block L1.out)).trans L1.out) 0
      have e1 := cell_of ((t3.block tb (lt_of_block L1.out)).trans L1.out) 1
      have s0 : (wr.alloc (.cells #[.int .i64 a, .int .i64 t] 63)).cell? ⟨wr.heap.size, 0, none⟩ = some (.int .i64 a) := cell_of t1 0
      simp at e0 e1
      have M1 := Lib.hid ((t3.block tb (lt_of_block L1.out)).trans L1.out)
      have M2 := Lib.hid (L2.out.trans (t3.mono L2.out.size))
      clear t1 t2' t3 hss hsc
      go_upto_region 6 with fail
      generalize wr.alloc (.cells #[.int .i64 a, .int .i64 t] 63) = W3 at *
      go_wp2_with fail
      refine (in_any d.young.1 a ya 0 yc _ hin).mono ?_
      rw [inP_none]
      rintro e w4 ⟨rfl, hb4⟩
      have N1 := Lib.hid ((hb4.block tb (lt_of_block M1.out)).trans M1.out)
      have N2 := Lib.hid (M2.out.trans (hb4.mono M2.out.size))
      clear hb4
      go_wp2_with fail
      go_roundw
      case rel => exact ⟨k + 1, by omega, by go_num, rfl, N1, N2⟩
      case measure => simp [intOf]; omega
    · obtain rfl : k = l.length := by omega
      have p1 : ¬ (l.length : Int) < (l.length : Int) := by omega
      have T := one_at wr (.map #[] 0)
      have hset := SetAt.made spotFam wr
      have B3 := Lib.hid (L2.out.trans (T.2.2.mono L2.out.size))
      have HSET := Lib.hid hset
      have HRS := Lib.hid L2.out.size
      clear T hset
      go_upto_region 11 with fail
      generalize wr.alloc (.map #[] 0) = W3 at *
      go_wp2_with fail
      refine (reached_any m [] _ _ W3 (HM.out.below B3.out) ⟨by unfold maxLen; simp, (fun x hx => by cases hx), none, 0, rfl, by simp, by unfold maxLen; simp, fun j hj => by simp at hj⟩ hN (by simp)).mono ?_
      rintro e w5 ⟨rv, l2, rfl, hsp2, hrl, -, -, hb5⟩
      obtain rfl := reachL_nil hrl
      obtain ⟨-, _, _, rfl, -⟩ := hsp2
      have HS5 := Lib.hid (HSET.out.block (hb5.block _ HSET.out.lt))
      have B5 := Lib.hid (B3.out.trans (hb5.mono B3.out.size))
      clear hb5 hrl
      go_wp2_with fail
      go_loopw [54] (fun i wr5 => i = .int .i64 0 ∧ w5 = wr5) (fun _ _ => 0)
      case atStart => exact ⟨rfl, rfl⟩
      case round =>
        obtain ⟨rfl, rfl⟩ := hrel
        go_wp2_with fail
        go_ret
        exact ⟨_, rfl, HS5.out, HRS.out, B5.out⟩

end Go.Proofs.YtlmpmjhanpkcnaaGreat
