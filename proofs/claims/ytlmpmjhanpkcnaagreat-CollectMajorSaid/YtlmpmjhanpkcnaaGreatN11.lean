/-
  How many words are reached: look.Live.
  DERIVED: THE SHELF's CONTRACTS AT THIS DUMP, IN PLAIN WORDS (tools/lay-plain.mjs out of 'TryShelf.lean', which tools/lay-shelf.mjs wrote): THE SAME DECLARATIONS UNDER THE SAME NAMES: 'import', 'namespace', 'open', 'def', 'theorem' AND NOTHING ELSE: no command of the shelf's: FOR A HAND-IN. Each laying: the table of numbers ('.._ren') and one theorem, a field a fact of the dump's own or the kernel's comparison; each contract: ONE APPLICATION.
  The handles that are reached: look.Handles.
  Are a dump's regions right: mem.Regions.
-/
import Derived.Test.YtlmpmjhanpkcnaaGreatN10
import Derived.Test.YtlmpmjhanpkcnaaGreatProg
import Derived.Shelf.Sort.Plain
import Derived.Shelf.Slices.In.SortNone
import Derived.Lib.SortBridge
import Derived.Sort.OwnSortedInts
set_option linter.unusedVariables false
set_option linter.unusedSimpArgs false
namespace Go.Proofs.YtlmpmjhanpkcnaaGreat
open Go.RowKit Go.Maps

/-- How many words stand at a spot. -/
def objW (m : List Frg) (s : Spt) : Nat := match objP m s.1 s.2 with
  | some o => o.2.length
  | none => 0

theorem objOK_le {m : List Frg} {k : Int} {l : List Nat} (h : ObjOK m k l) : l.length ≤ 10 := by
  rcases h with (⟨rfl, h1⟩ | ⟨rfl, h1, h2⟩) | ⟨rfl, h1, h2⟩ | ⟨rfl, h1⟩ | ⟨rfl, h1, h2, h3⟩ | ⟨rfl, h1⟩ | ⟨rfl, h1⟩
  · omega
  · omega
  · omega
  · omega
  · unfold bytesW at h3
    split at h3
    · cases h3
    · rename_i q; omega
  · have := flat4_parts h1; omega
  · have := right5_parts h1; omega

theorem sumP_le {m : List Frg} : ∀ (l : List Spt), sumP (objW m) l ≤ 10 * l.length
  | [] => Nat.zero_le _
  | s :: r => by
    have ih := sumP_le (m := m) r
    have h : objW m s ≤ 10 := by
      unfold objW
      cases ho : objP m s.1 s.2 with
      | none => simp
      | some o => obtain ⟨k, l⟩ := o; exact objOK_le (objP_ok ho)
    simp only [sumP, List.map_cons, List.sum_cons, List.length_cons] at ih ⊢
    omega

theorem one_at (w : World) (o : Obj) : (w.alloc o).heap[w.heap.size]? = some o ∧ w.heap.size + 1 = (w.alloc o).heap.size ∧ Below w.heap.size w (w.alloc o) :=
  ⟨World.alloc_heap_new w o, by simp, (Below.refl _ _).alloc (Nat.le_refl _) _⟩

end Go.Proofs.YtlmpmjhanpkcnaaGreat

namespace Go.Proofs
open Go.Shelf
def Tryz.lays189_ren : Go.Shelf.Ren := ⟨fun | 189 => 32 | 125 => 65 | 257 => 64 | 128 => 97 | 129 => 98 | 294 => 88 | 295 => 89 | 296 => 90 | 297 => 91 | 298 => 92 | 299 => 93 | 216 => 94 | 300 => 95 | 301 => 96 | 328 => 113 | 329 => 114 | 330 => 115 | 331 => 116 | 332 => 117 | 215 => 118 | 343 => 130 | n => n, fun | 28 => 26 | 3 => 3 | 46 => 48 | 0 => 0 | 51 => 144 | 53 => 47 | 4 => 4 | 183 => 136 | 182 => 135 | 131 => 141 | 5 => 5 | 9 => 9 | 218 => 158 | 222 => 122 | 228 => 168 | 229 => 111 | n => n, fun | n => n⟩
theorem Tryz.lays189 : Go.Proofs.Lays.n189 Tryz.prog Tryz.lays189_ren := {
  mixed := by kernel_rfl
  f125 := Tryz.func65.trans (congrArg some (by kernel_rfl))
  f128 := Tryz.func97.trans (congrArg some (by kernel_rfl))
  f129 := Tryz.func98.trans (congrArg some (by kernel_rfl))
  f189 := Tryz.func32.trans (congrArg some (by kernel_rfl))
  f215 := Tryz.func118.trans (congrArg some (by kernel_rfl))
  f216 := Tryz.func94.trans (congrArg some (by kernel_rfl))
  f257 := Tryz.func64.trans (congrArg some (by kernel_rfl))
  f294 := Tryz.func88.trans (congrArg some (by kernel_rfl))
  f295 := Tryz.func89.trans (congrArg some (by kernel_rfl))
  f296 := Tryz.func90.trans (congrArg some (by kernel_rfl))
  f297 := Tryz.func91.trans (congrArg some (by kernel_rfl))
  f298 := Tryz.func92.trans (congrArg some (by kernel_rfl))
  f299 := Tryz.func93.trans (congrArg some (by kernel_rfl))
  f300 := Tryz.func95.trans (congrArg some (by kernel_rfl))
  f301 := Tryz.func96.trans (congrArg some (by kernel_rfl))
  f328 := Tryz.func113.trans (congrArg some (by kernel_rfl))
  f329 := Tryz.func114.trans (congrArg some (by kernel_rfl))
  f330 := Tryz.func115.trans (congrArg some (by kernel_rfl))
  f331 := Tryz.func116.trans (congrArg some (by kernel_rfl))
  f332 := Tryz.func117.trans (congrArg some (by kernel_rfl))
  f343 := Tryz.func130.trans (congrArg some (by kernel_rfl))
  t0 := Tryz.underlying0
  a0 := Tryz.isAgg0
  z0 := Tryz.sizeOf0
  v0 := Tryz.zeroValue0
  t3 := Tryz.underlying3
  a3 := Tryz.isAgg3
  z3 := Tryz.sizeOf3
  v3 := Tryz.zeroValue3
  t4 := Tryz.underlying4
  a4 := Tryz.isAgg4
  z4 := Tryz.sizeOf4
  v4 := Tryz.zeroValue4
  t5 := Tryz.underlying5
  a5 := Tryz.isAgg5
  z5 := Tryz.sizeOf5
  v5 := Tryz.zeroValue5
  t9 := Tryz.underlying9
  a9 := Tryz.isAgg9
  z9 := Tryz.sizeOf9
  v9 := Tryz.zeroValue9
  t28 := Tryz.underlying26
  a28 := Tryz.isAgg26
  z28 := Tryz.sizeOf26
  v28 := Tryz.zeroValue26
  t46 := Tryz.underlying48
  a46 := Tryz.isAgg48
  z46 := Tryz.sizeOf48
  v46 := Tryz.zeroValue48
  t51 := Tryz.underlying144
  a51 := Tryz.isAgg144
  z51 := Tryz.sizeOf144
  v51 := Tryz.zeroValue144
  t53 := Tryz.underlying47
  a53 := Tryz.isAgg47
  z53 := Tryz.sizeOf47
  v53 := Tryz.zeroValue47
  t131 := Tryz.underlying141
  a131 := Tryz.isAgg141
  z131 := Tryz.sizeOf141
  v131 := Tryz.zeroValue141
  t182 := Tryz.underlying135
  a182 := Tryz.isAgg135
  z182 := Tryz.sizeOf135
  v182 := Tryz.zeroValue135
  t183 := Tryz.underlying136
  a183 := Tryz.isAgg136
  z183 := Tryz.sizeOf136
  v183 := Tryz.zeroValue136
  t218 := Tryz.underlying158
  a218 := Tryz.isAgg158
  z218 := Tryz.sizeOf158
  v218 := Tryz.zeroValue158
  t222 := Tryz.underlying122
  a222 := Tryz.isAgg122
  z222 := Tryz.sizeOf122
  v222 := Tryz.zeroValue122
  t228 := Tryz.underlying168
  a228 := Tryz.isAgg168
  z228 := Tryz.sizeOf168
  v228 := Tryz.zeroValue168
  t229 := Tryz.underlying111
  a229 := Tryz.isAgg111
  z229 := Tryz.sizeOf111
  v229 := Tryz.zeroValue111 }
end Go.Proofs

namespace Go.Proofs.YtlmpmjhanpkcnaaGreat
open Go.RowKit Go.Maps Go.Shelf Go.Sort

theorem info3 : (Tryz.prog.info? 3).map (fun i => (i.zero, i.size, i.bytes)) = some (some (.int .i64 0), 1, 8) := by kernel_rfl

/-- Integers as cells. -/
def csI (l : List Int) : List Value := l.map (Value.int .i64)

theorem csI_snoc (l : List Int) (a : Int) : csI (l ++ [a]) = csI l ++ [.int .i64 a] := by simp [csI]

def sortI (l : List Int) : List Int := l.mergeSort fun x y => decide (x ≤ y)

theorem sort_any (base : Nat) (v : Value) (hs : List Int) (w : World) (h : w.ownsRow base 3 1 v hs.length (csI hs)) (hl : hs.length ≤ 1000000) :
    Calls Tryz.prog 32 #[v] w fun e w' => e = .returned (.tuple #[]) ∧ w'.ownsRow base 3 1 v hs.length (csI (sortI hs)) ∧ w.grownBy w' v.ownBlock := by
  rcases h.2 with ⟨rfl, h0⟩ | ⟨g, cap, cur, rfl, hbg, hg, hnc, hcm, hcs, htake⟩
  · have e : hs = [] := List.eq_nil_of_length_eq_zero h0
    subst e
    refine (Any.slices_Sort_int_none Tryz.lays189 none 0 w).mono ?_
    rintro e w' ⟨rfl, rfl⟩
    exact ⟨rfl, by have : sortI [] = [] := by simp [sortI]
                   rw [this]; exact h, ⟨rfl, rfl, rfl, Nat.le_refl _, fun k _ _ => rfl⟩⟩
  · have hH : Holds (Value.int .i64) w g 0 hs.toArray := holds_of_blockI hg (by rw [Nat.mul_one] at htake; exact htake)
    refine (Any.slices_Sort_int Tryz.lays189 g 0 cap hs w hH (Array.getElem?_eq_some_iff.1 hg).1 (by omega)).mono ?_
    rintro e w' ⟨rfl, n, os, rfl⟩
    exact ⟨rfl, ownsRow_sortedI (by simp) hbg hg hnc hcm hcs, grownBy_sortedI _⟩

theorem Is.of_own {w : World} {base : Nat} {v : Value} {l : List Int} (h : w.ownsRow base 3 1 v l.length (csI l)) (hl : l.length ≤ 1000000) (hb : ∀ x ∈ l, In64 x) : Is w v l := by
  refine ⟨by unfold maxLen; omega, hb, ?_⟩
  rcases h.2 with ⟨rfl, h0⟩ | ⟨g, cap, cur, rfl, hbg, hg, hnc, hcm, hcs, htake⟩
  · exact ⟨none, 0, by rw [h0], by omega, by unfold maxLen; omega, fun j hj => by omega⟩
  · refine ⟨some ⟨g, 0, none⟩, cap, rfl, hnc, hcm, fun j hj => ⟨g, 0, rfl, ?_⟩⟩
    have hk : (csI l)[j]? = some (.int .i64 l[j]) := by simp [csI, List.getElem?_eq_getElem hj]
    rw [← htake, List.getElem?_take] at hk
    have hk' : cur[j]? = some (.int .i64 l[j]) := by
      split at hk
      · simpa using hk
      · cases hk
    simp [World.cell?, hg, hk']

/-- Is it a handle? -/
def isH (m : List Frg) (s : Spt) : Bool := match objP m s.1 s.2 with
  | some o => decide (o.1 = 4)
  | none => false

end Go.Proofs.YtlmpmjhanpkcnaaGreat

namespace Go.Proofs.YtlmpmjhanpkcnaaGreat
open Go.RowKit Go.Maps

def CapOk (v : Value) (n : Nat) : Prop := ∃ a c, v = .slice a n c ∧ n ≤ c ∧ c ≤ maxLen

set_option maxHeartbeats 4000000 in
set_option maxRecDepth 100000 in
theorem of_cap (d : Dmp) (v : Value) (w : World) (hd : DmAt w v d) (hf : d.frags.length ≤ 100000) : Calls Tryz.prog 27 #[v] w fun e w' => ∃ r, e = .returned r ∧ RsAt w' r d.mem ∧ CapOk r d.mem.length ∧ Below w.heap.size w w' := by
  obtain ⟨a, b, a', b', f, r, h, rfl, ⟨hi1, rfl, wa1, wc1, rfl, hw1⟩, ⟨hi2, rfl, wa2, wc2, rfl, hw2⟩, h3, h4, h5, h6, h7⟩ := hd
  have H1 := Lib.hid hw1
  have H2 := Lib.hid hw2
  have H5 := Lib.hid h5
  clear hw1 hw2 h5 h6 h7
  obtain ⟨dy, dol, sz, mk, fr, ro, ha⟩ := d
  simp only at *
  go_enter Tryz.func27, Tryz.ntmps27
  have HBa := Lib.hid (((Below.refl w.heap.size w).alloc (Nat.le_refl _) (.cells #[.int .i64 dy.1, .slice wa1 dy.2.length wc1, .int .i64 dol.1, .slice wa2 dol.2.length wc2, .int .i64 sz, .int .i64 mk, f, r, h] 28)).alloc (by simp) (.cells #[.int .i64 dy.1, .slice wa1 dy.2.length wc1, .int .i64 dol.1, .slice wa2 dol.2.length wc2] 24))
  go_wp2_with (at_builtin; (refine wpList_append_rs rfl (.tmp 7) (.tmp 9) rfl w.heap.size _ 2 [.int .i64 dy.1, .slice wa1 dy.2.length wc1, .int .i64 dol.1, .slice wa2 dol.2.length wc2] rfl (own_two _ _ _ _ _ _) _ rfl fr w H5.out HBa.out (by omega) HBa.out.size ?_; intro v1 w1 ys hh hown hgr; have HB1 := Lib.hid (HBa.out.grown hgr HBa.out.size (fun k hk => by cases hk; exact Nat.le_succ _)); have HO := Lib.hid hown; have HH := Lib.hid hh; clear hh hown hgr))
  go_ret
  have HF : Held w1 ([.int .i64 dy.1, .slice wa1 dy.2.length wc1, .int .i64 dol.1, .slice wa2 dol.2.length wc2] ++ ys) ([dy, dol] ++ fr) := by
    refine held_append ⟨⟨hi1, rfl, wa1, wc1, rfl, H1.out.below HB1.out⟩, ⟨hi2, rfl, wa2, wc2, rfl, H2.out.below HB1.out⟩, trivial⟩ (HH.out.below HB1.out)
  refine ⟨_, rfl, rs_of_own HO.out (by simp [Dmp.mem]; omega) HF (by omega), ?_, HB1.out⟩
  rcases HO.out.2 with ⟨_, h0⟩ | ⟨g, c, cur, hv, hbg, hg, hnc, hcm, hcs, htake⟩
  · omega
  · have e : (Dmp.mem ⟨dy, dol, sz, mk, fr, ro, ha⟩).length = 2 + fr.length := by simp [Dmp.mem]; omega
    rw [e]
    exact ⟨_, c, hv, hnc, hcm⟩

/-- May a region begin where it does? -/
def okA (f : Frg) : Bool := decide (f.2.length = 0) || (decide (0 ≤ f.1) && decide (f.1 ≤ 1125899906842624))

theorem okA_false {a : Int} {l : List Nat} (h : okA (a, l) = false) : 0 < l.length ∧ (a < 0 ∨ 1125899906842624 < a) := by
  unfold okA at h
  simp only [Bool.or_eq_false_iff, Bool.and_eq_false_iff, decide_eq_false_iff_not] at h
  omega

theorem okA_true {a : Int} {l : List Nat} (h : okA (a, l) = true) : l.length = 0 ∨ 0 ≤ a ∧ a ≤ 1125899906842624 := by
  unfold okA at h
  simp only [Bool.or_eq_true, Bool.and_eq_true, decide_eq_true_eq] at h
  omega

def apF (f g : Frg) : Bool := apartP f.1 f.2.length g.1 g.2.length

def regL (dn : List Frg) : List Frg → Bool
  | [] => true
  | f :: r => okA f && dn.all (apF f) && regL (dn ++ [f]) r

def marksP (d : Dmp) : Bool := decide ((d.young.2.length : Int) ≤ d.size) && decide (0 ≤ d.mark) && decide (d.mark ≤ (d.young.2.length : Int))

def regionsP (d : Dmp) : Bool := regL [] d.mem && marksP d

theorem regL_step {m : List Frg} {j : Nat} (h : j < m.length) : regL (m.take j) (m.drop j) = (okA m[j] && (m.take j).all (apF m[j]) && regL (m.take (j + 1)) (m.drop (j + 1))) := by
  rw [List.drop_eq_getElem_cons h, regL, List.take_succ_eq_append_getElem h]

theorem wordsN_mem {m : List Frg} {f : Frg} (h : f ∈ m) : f.2.length ≤ wordsN m := by
  induction m with
  | nil => cases h
  | cons g r ih =>
    simp only [wordsN, List.map_cons, List.sum_cons]
    rcases List.mem_cons.1 h with rfl | h
    · omega
    · have := ih h; simp only [wordsN] at this; omega

theorem all_false {α : Type} {l : List α} {p : α → Bool} {x : α} (h : x ∈ l) (hp : p x = false) : l.all p = false := by
  rw [List.all_eq_false]; exact ⟨x, h, by simp [hp]⟩

theorem all_take {α : Type} {l : List α} {p : α → Bool} {k : Nat} (h : k < l.length) (ha : (l.take k).all p = true) (hp : p l[k] = true) : (l.take (k + 1)).all p = true := by
  rw [List.take_succ_eq_append_getElem h, List.all_append, ha]; simp [hp]

set_option maxHeartbeats 8000000 in
set_option maxRecDepth 100000 in
theorem regions_any (d : Dmp) (v : Value) (w : World) (hd : DmAt w v d) (hf : d.frags.length ≤ 100000) (hN : wordsN d.mem ≤ 5000) :
    Calls Tryz.prog 56 #[v] w fun e w' => e = .returned (.bool (regionsP d)) ∧ Below w.heap.size w w' := by
  have HD := Lib.hid hd
  obtain ⟨a, b, a', b', f, r, h, rfl, ⟨-, rfl, wa1, wc1, rfl, -⟩, ⟨-, rfl, wa2, wc2, rfl, -⟩, -, -, ⟨-, fa, fc, rfl, -⟩, ⟨-, -, ra, rc, rfl, -⟩, ⟨-, -, ha, hc, rfl, -⟩⟩ := hd
  have T := one_at w (.cells #[.int .i64 d.young.1, .slice wa1 d.young.2.length wc1, .int .i64 d.old.1, .slice wa2 d.old.2.length wc2, .int .i64 d.size, .int .i64 d.mark, .slice fa d.frags.length fc, .slice ra d.roots.length rc, .slice ha d.handles.length hc] 28)
  go_enter Tryz.func56, Tryz.ntmps56
  go_wp2_with fail
  generalize w.alloc (.cells #[.int .i64 d.young.1, .slice wa1 d.young.2.length wc1, .int .i64 d.old.1, .slice wa2 d.old.2.length wc2, .int .i64 d.size, .int .i64 d.mark, .slice fa d.frags.length fc, .slice ra d.roots.length rc, .slice ha d.handles.length hc] 28) = W at *
  have X0 := Lib.hid T.1
  have XS := Lib.hid T.2.1
  have XB := Lib.hid T.2.2
  clear T
  have HML := Lib.hid (show d.mem.length ≤ 100002 by simp [Dmp.mem]; omega)
  refine (of_cap d _ W (HD.out.below XB.out) hf).mono ?_
  rintro e w2 ⟨mv, rfl, hm, ⟨ma, mc, rfl, hcc, hcm⟩, hb2⟩
  have Y0 := Lib.hid ((hb2.block w.heap.size (by have := XS.out; omega)).trans X0.out)
  have YB := Lib.hid (XB.out.trans (hb2.mono XB.out.size))
  have YW := Lib.hid (show w.heap.size < w2.heap.size by have := XS.out; have := hb2.size; omega)
  have HCC := Lib.hid hcc
  have HCM := Lib.hid hcm
  have HNN := Lib.hid hN
  obtain ⟨-, ma', mc', he, hmc⟩ := hm
  simp only [Value.slice.injEq, true_and] at he
  obtain ⟨rfl, rfl⟩ := he
  have HMC := Lib.hid hmc
  obtain ⟨m, hmm⟩ : ∃ m, m = d.mem := ⟨_, rfl⟩
  have HMM := Lib.hid hmm
  rw [← hmm] at HMC HCC HML HNN ⊢
  clear hb2 hmc hmm hN hcc hcm
  go_wp2_with fail
  go_loopw [12] (fun i wr => ∃ (k : Nat), k ≤ m.length ∧ i = .int .i64 k ∧ Hid (regL [] m = regL (m.take k) (m.drop k)) ∧ Hid (∀ g ∈ m.take k, okA g = true) ∧ Hid (Below w2.heap.size w2 wr)) (fun i _ => m.length - (intOf i).toNat)
  case atStart => exact ⟨0, by omega, rfl, Lib.hid (by simp), Lib.hid (fun g hg => by simp at hg), Lib.hid (Below.refl _ _)⟩
  case round =>
    obtain ⟨k, hk, rfl, HR, HA, HB⟩ := hrel
    by_cases hlt : k < m.length
    · have p1 : (k : Int) < (m.length : Int) := by omega
      have p2 : (0 : Int) ≤ (k : Int) := by omega
      have Q5 := Lib.hid (show -9223372036854775808 ≤ (k : Int) + 1 ∧ (k : Int) + 1 ≤ 9223372036854775807 by have := HML.out; omega)
      have QK := Lib.hid (show k + 1 ≤ m.length by omega)
      have QM := Lib.hid (show m.length - (k + 1) < m.length - k by omega)
      obtain ⟨gr, og, wa, wc, rfl, hi, k0, k1, -⟩ := HMC.out k hlt
      have k0 := (HB.out.cell (World.block_lt_of_cell? w2 _ k0)).trans k0
      have k1 := (HB.out.cell (World.block_lt_of_cell? w2 _ k1)).trans k1
      have HSTEP := Lib.hid (regL_step hlt)
      have HLN := Lib.hid (wordsN_mem (List.getElem_mem hlt))
      have HTK := Lib.hid (List.take_succ_eq_append_getElem hlt)
      obtain ⟨⟨a, fw⟩, hat⟩ : ∃ s : Frg, m[k]'hlt = s := ⟨_, rfl⟩
      rw [hat] at k0 k1 HSTEP HLN HTK hi
      simp only at k0 k1 hi
      clear hat
      go_upto_region 5 with fail
      have T := one_at wr (.cells #[.int .i64 a, .slice wa fw.length wc] 24)
      generalize wr.alloc (.cells #[.int .i64 a, .slice wa fw.length wc] 24) = V at *
      have V0 := Lib.hid T.1
      have VS := Lib.hid T.2.1
      have VB := Lib.hid (HB.out.trans (T.2.2.mono HB.out.size))
      clear T
      have c0 := cell_of V0.out 0
      have c1 := cell_of V0.out 1
      simp at c0 c1
      clear k0 k1
      cases hok : okA (a, fw) with
      | false =>
        have HOF := Lib.hid hok
        have q1 : (0 : Int) < (fw.length : Int) := by have := okA_false hok; omega
        have HFIN := Lib.hid (show regionsP d = false by unfold regionsP; rw [← HMM.out, HR.out, HSTEP.out, HOF.out]; simp)
        by_cases hneg : a < 0
        · clear hok
          go_wp2_with fail
          go_ret
          exact ⟨by rw [HFIN.out]; rfl, YB.out.trans (VB.out.mono YB.out.size)⟩
        · have q3 : 1125899906842624 < a := by have := okA_false hok; omega
          clear hok
          go_wp2_with fail
          go_ret
          exact ⟨by rw [HFIN.out]; rfl, YB.out.trans (VB.out.mono YB.out.size)⟩
      | true =>
        have HOK := Lib.hid hok
        have HBD := Lib.hid (show fw.length = 0 ∨ 0 ≤ a ∧ a ≤ 1125899906842624 from okA_true hok)
        clear hok
        go_cut [30] from 17 to 30 (fun u wx => u = .bool false ∧ V = wx)
        case first =>
          by_cases q1 : (0 : Int) < (fw.length : Int)
          · have q2 : ¬ a < 0 := by have := HBD.out; omega
            have q3 : ¬ 1125899906842624 < a := by have := HBD.out; omega
            go_wp2_with fail
            go_meet
            exact ⟨rfl, rfl⟩
          · go_wp2_with fail
            go_meet
            exact ⟨rfl, rfl⟩
        case rest =>
          obtain ⟨rfl, rfl⟩ := hcut
          have s1 : (k : Int) ≤ (mc : Int) := by have := HCC.out; omega
          have s2 : k ≤ mc := by omega
          go_wp2_with fail
          go_loopw [35] (fun q wr3 => ∃ (j : Nat), j ≤ k ∧ q = .int .i64 j ∧ Hid ((m.take j).all (apF (a, fw)) = true) ∧ Hid (Below V.heap.size V wr3)) (fun q _ => k - (intOf q).toNat)
          case atStart => exact ⟨0, by omega, rfl, Lib.hid (by simp), Lib.hid (Below.refl _ _)⟩
          case round =>
            obtain ⟨j, hj, rfl, HAL, HB3⟩ := hrel
            by_cases hlj : j < k
            · have q1 : (j : Int) < (k : Int) := by omega
              have q2 : (0 : Int) ≤ (j : Int) := by omega
              have hjm : j < m.length := by omega
              obtain ⟨g2, o2, wa3, wc3, he2, hi2, j0, j1, -⟩ := HMC.out j hjm
              simp only [Option.some.injEq, Addr.mk.injEq, and_true] at he2
              obtain ⟨rfl, rfl⟩ := he2
              have HBX := Lib.hid (VB.out.trans (HB3.out.mono VB.out.size))
              have j0 := (HBX.out.cell (World.block_lt_of_cell? w2 _ j0)).trans j0
              have j1 := (HBX.out.cell (World.block_lt_of_cell? w2 _ j1)).trans j1
              have HJN := Lib.hid (wordsN_mem (List.getElem_mem hjm))
              have HJA := Lib.hid (HA.out m[j] (List.mem_take_iff_getElem.2 ⟨j, by omega, rfl⟩))
              have HJM := Lib.hid (show m[j] ∈ m.take k from List.mem_take_iff_getElem.2 ⟨j, by omega, rfl⟩)
              have HJT := Lib.hid (fun hp : apF (a, fw) m[j] = true => all_take hjm HAL.out hp)
              obtain ⟨⟨b, gw⟩, hbt⟩ : ∃ s : Frg, m[j]'hjm = s := ⟨_, rfl⟩
              rw [hbt] at j0 j1 HJN HJA HJM HJT hi2
              simp only at j0 j1 hi2
              clear hbt
              have Q6 := Lib.hid (show -9223372036854775808 ≤ (j : Int) + 1 ∧ (j : Int) + 1 ≤ 9223372036854775807 by have := HML.out; omega)
              have QJ := Lib.hid (show j + 1 ≤ k by omega)
              have QN := Lib.hid (show k - (j + 1) < k - j by omega)
              have HBD2 := Lib.hid (show fw.length = 0 ∨ gw.length = 0 ∨ ((0 ≤ a ∧ a ≤ 1125899906842624 ∧ fw.length ≤ 1000000) ∧ (0 ≤ b ∧ b ≤ 1125899906842624 ∧ gw.length ≤ 1000000)) by
                have h1 := HBD.out
                have h2 := okA_true HJA.out
                have h3 := HJN.out
                have h4 := HLN.out
                have h5 := HNN.out
                simp only at h3 h4
                omega)
              have d0 := (HB3.out.cell (World.block_lt_of_cell? V _ c0)).trans c0
              have d1 := (HB3.out.cell (World.block_lt_of_cell? V _ c1)).trans c1
              go_upto_region 10 with fail
              have T := one_at wr (.cells #[.int .i64 b, .slice wa3 gw.length wc3] 24)
              generalize wr.alloc (.cells #[.int .i64 b, .slice wa3 gw.length wc3] 24) = V3 at *
              have Z0 := Lib.hid T.1
              have ZB := Lib.hid T.2.2
              clear T
              have d0 := (ZB.out.cell (World.block_lt_of_cell? wr _ d0)).trans d0
              have d1 := (ZB.out.cell (World.block_lt_of_cell? wr _ d1)).trans d1
              have f0 := cell_of Z0.out 0
              have f1 := cell_of Z0.out 1
              simp at f0 f1
              clear j0 j1
              go_wp2_with fail
              refine (apart_any a b wa wa3 fw.length gw.length wc wc3 V3 HBD2.out).mono ?_
              rintro e w5 ⟨rfl, hb5⟩
              have HB5 := Lib.hid (HB3.out.trans ((ZB.out.trans (hb5.mono ZB.out.size)).mono HB3.out.size))
              clear hb5
              cases hap : apartP a fw.length b gw.length with
              | false =>
                have HFIN := Lib.hid (show regionsP d = false by
                  unfold regionsP
                  rw [← HMM.out, HR.out, HSTEP.out, all_false HJM.out (show apF (a, fw) (b, gw) = false from hap)]
                  simp)
                clear hap
                go_wp2_with fail
                go_ret
                exact ⟨by rw [HFIN.out]; rfl, YB.out.trans ((VB.out.trans (HB5.out.mono VB.out.size)).mono YB.out.size)⟩
              | true =>
                have HNX := Lib.hid (HJT.out hap)
                clear hap
                have p5 : IntKind.i64.wrap ((j : Int) + 1) = (j : Int) + 1 := IntWalk.i64_in _ Q6.out
                go_wp2_with fail
                go_roundw
                case rel => exact ⟨j + 1, QJ.out, by go_num, HNX, HB5⟩
                case measure => clear p5; simp [intOf]; omega
            · obtain rfl : j = k := by omega
              have q1 : ¬ (j : Int) < (j : Int) := by omega
              have p5 : IntKind.i64.wrap ((j : Int) + 1) = (j : Int) + 1 := IntWalk.i64_in _ Q5.out
              have HR2 := Lib.hid (show regL [] m = regL (m.take (j + 1)) (m.drop (j + 1)) by rw [HR.out, HSTEP.out, HOK.out, HAL.out]; simp)
              have HA2 := Lib.hid (show ∀ g ∈ m.take (j + 1), okA g = true by
                intro g hg
                rw [HTK.out] at hg
                rcases List.mem_append.1 hg with h | h
                · exact HA.out g h
                · simp at h; subst h; exact HOK.out)
              go_wp2_with fail
              go_roundw
              case rel => exact ⟨j + 1, QK.out, by go_num, HR2, HA2, Lib.hid (VB.out.trans (HB3.out.mono VB.out.size))⟩
              case measure => clear p5; simp [intOf]; omega
    · obtain rfl : k = m.length := by omega
      have p1 : ¬ (m.length : Int) < (m.length : Int) := by omega
      have HRG := Lib.hid (show regionsP d = marksP d by unfold regionsP; rw [← HMM.out, HR.out]; simp [regL])
      have HMK := Lib.hid (show marksP d = (decide ((d.young.2.length : Int) ≤ d.size) && decide (0 ≤ d.mark) && decide (d.mark ≤ (d.young.2.length : Int))) from rfl)
      have Y1 := Lib.hid ((HB.out.block w.heap.size YW.out).trans Y0.out)
      have y1 := cell_of Y1.out 1
      have y4 := cell_of Y1.out 4
      have y5 := cell_of Y1.out 5
      simp at y1 y4 y5
      have E := Lib.hid (YB.out.trans (HB.out.mono YB.out.size))
      by_cases m1 : (d.young.2.length : Int) ≤ d.size
      · by_cases m2 : 0 ≤ d.mark
        · by_cases m3 : d.mark ≤ (d.young.2.length : Int)
          · have HF := Lib.hid (show regionsP d = true by rw [HRG.out, HMK.out]; simp [m1, m2, m3])
            go_wp2_with fail
            go_ret
            exact ⟨by rw [HF.out]; rfl, E.out⟩
          · have HF := Lib.hid (show regionsP d = false by rw [HRG.out, HMK.out]; simp [m1, m2, m3])
            go_wp2_with fail
            go_ret
            exact ⟨by rw [HF.out]; rfl, E.out⟩
        · have HF := Lib.hid (show regionsP d = false by rw [HRG.out, HMK.out]; simp [m1, m2])
          go_wp2_with fail
          go_ret
          exact ⟨by rw [HF.out]; rfl, E.out⟩
      · have HF := Lib.hid (show regionsP d = false by rw [HRG.out, HMK.out]; simp [m1])
        go_wp2_with fail
        go_ret
        exact ⟨by rw [HF.out]; rfl, E.out⟩

end Go.Proofs.YtlmpmjhanpkcnaaGreat
