/-
  The handles that are reached: look.Handles.
-/
import Derived.Test.YtohgkfnbjfhniaaXp
import Derived.Test.YtohgkfnbjfhniaaXq
import Derived.Sort.OwnSortedInts
namespace Go.Proofs.Ytohgkfnbjfhniaa
open Go.RowKit Go.Maps Go.Shelf Go.Sort

theorem info3 : (Try.prog.info? 3).map (fun i => (i.zero, i.size, i.bytes)) = some (some (.int .i64 0), 1, 8) := by kernel_rfl

/-- Integers as cells. -/
def csI (l : List Int) : List Value := l.map (Value.int .i64)

theorem own_kept {w w' : World} {base e size n : Nat} {v : Value} {xs : List Value} (h : w.ownsRow base e size v n xs) (hb : Below w.heap.size w w') : w'.ownsRow base e size v n xs := by
  have hg : w.grownBy w' none := ⟨hb.os, hb.tape, hb.output, hb.size, fun k hk _ => hb.block k hk⟩
  exact h.kept hg (by cases hv : v.ownBlock; exact .inl rfl; exact .inr (by simp))

theorem csI_snoc (l : List Int) (a : Int) : csI (l ++ [a]) = csI l ++ [.int .i64 a] := by simp [csI]

def sortI (l : List Int) : List Int := l.mergeSort fun x y => decide (x ≤ y)

theorem sort_any (base : Nat) (v : Value) (hs : List Int) (w : World) (h : w.ownsRow base 3 1 v hs.length (csI hs)) (hl : hs.length ≤ 1000000) :
    Calls Try.prog 28 #[v] w fun e w' => e = .returned (.tuple #[]) ∧ w'.ownsRow base 3 1 v hs.length (csI (sortI hs)) ∧ w.grownBy w' v.ownBlock := by
  rcases h.2 with ⟨rfl, h0⟩ | ⟨g, cap, cur, rfl, hbg, hg, hnc, hcm, hcs, htake⟩
  · have e : hs = [] := List.eq_nil_of_length_eq_zero h0
    subst e
    refine (Any.slices_Sort_int_none Try.lays189 none 0 w).mono ?_
    rintro e w' ⟨rfl, rfl⟩
    exact ⟨rfl, by have : sortI [] = [] := by simp [sortI]
                   rw [this]; exact h, ⟨rfl, rfl, rfl, Nat.le_refl _, fun k _ _ => rfl⟩⟩
  · have hH : Holds (Value.int .i64) w g 0 hs.toArray := holds_of_blockI hg (by rw [Nat.mul_one] at htake; exact htake)
    refine (Any.slices_Sort_int Try.lays189 g 0 cap hs w hH (Array.getElem?_eq_some_iff.1 hg).1 (by omega)).mono ?_
    rintro e w' ⟨rfl, n, os, rfl⟩
    exact ⟨rfl, ownsRow_sortedI (by simp) hbg hg hnc hcm hcs, grownBy_sortedI _⟩

theorem Is.of_own {w : World} {base : Nat} {v : Value} {l : List Int} (h : w.ownsRow base 3 1 v l.length (csI l)) (hl : l.length ≤ 1000000) (hb : ∀ x ∈ l, In64 x) : Is w v l := by
  refine ⟨by unfold maxLen; omega, hb, ?_⟩
  rcases h.2 with ⟨rfl, h0⟩ | ⟨g, cap, cur, rfl, hbg, hg, hnc, hcm, hcs, htake⟩
  · exact ⟨none, 0, by rw [h0], by omega, by unfold maxLen; omega, fun j hj => by omega⟩
  · refine ⟨some ⟨g, 0, none⟩, cap, rfl, hnc, hcm, fun j hj => ⟨g, 0, rfl, ?_⟩⟩
    have hk : (csI l)[j]? = some (.int .i64 l[j]) := by simp [csI, List.getElem?_eq_getElem hj]
    rw [← htake, List.getElem?_take] at hk
    have hk' : cur[j]? = some (.int .i64 l[j]) := by
      split at hk
      · simpa using hk
      · cases hk
    simp [World.cell?, hg, hk']

/-- Is it a handle? -/
def isH (m : List Frg) (s : Spt) : Bool := match objP m s.1 s.2 with
  | some o => decide (o.1 = 4)
  | none => false

def hsP (m : List Frg) (l : List Spt) : List Int := (l.filter (isH m)).map (·.1)

theorem hsP_snoc (m : List Frg) (l : List Spt) (s : Spt) : hsP m (l ++ [s]) = if isH m s = true then hsP m l ++ [s.1] else hsP m l := by
  unfold hsP
  rw [List.filter_append]
  cases h : isH m s <;> simp [List.filter_cons, h]

theorem hsP_le (m : List Frg) (l : List Spt) : (hsP m l).length ≤ l.length := by
  unfold hsP; rw [List.length_map]; exact List.length_filter_le _ _

theorem hsP_mem {m : List Frg} {l : List Spt} {x : Int} (h : x ∈ hsP m l) : ∃ s ∈ l, isH m s = true ∧ s.1 = x := by
  unfold hsP at h
  obtain ⟨s, hs, rfl⟩ := List.mem_map.1 h
  exact ⟨s, (List.mem_filter.1 hs).1, (List.mem_filter.1 hs).2, rfl⟩

def HandlesEnd (w w' : World) (m : List Frg) (roots : List Nat) (e : Ending) : Prop := ∃ v l, e = .returned v ∧ ReachL m roots l ∧ Is w' v (sortI (hsP m l)) ∧ (sortI (hsP m l)).length ≤ 10000 ∧ Below w.heap.size w w'

set_option maxHeartbeats 8000000 in
set_option maxRecDepth 100000 in
theorem handles_any (d : Dmp) (v : Value) (w : World) (hd : DmAt w v d) (hf : d.frags.length ≤ 100000) (hN : wordsN d.mem ≤ 5000) (hrl : d.roots.length ≤ 1000) :
    Calls Try.prog 13 #[v] w fun e w' => HandlesEnd w w' d.mem d.roots e := by
  obtain ⟨i0, hi, hz0, hz1, hz2⟩ := info_parts info3
  have HD := Lib.hid hd
  obtain ⟨a, b, a', b', f, r, h, rfl, ⟨-, rfl, wa1, wc1, rfl, -⟩, ⟨-, rfl, wa2, wc2, rfl, -⟩, -, -, ⟨-, fa, fc, rfl, -⟩, hro, ⟨-, -, ha, hc, rfl, -⟩⟩ := hd
  have HRO := Lib.hid hro
  obtain ⟨-, -, ra, rc, rfl, -⟩ := hro
  have T := one_at w (.cells #[.int .i64 d.young.1, .slice wa1 d.young.2.length wc1, .int .i64 d.old.1, .slice wa2 d.old.2.length wc2, .int .i64 d.size, .int .i64 d.mark, .slice fa d.frags.length fc, .slice ra d.roots.length rc, .slice ha d.handles.length hc] 28)
  go_enter Try.func13, Try.ntmps13
  go_wp2_with fail
  generalize w.alloc (.cells #[.int .i64 d.young.1, .slice wa1 d.young.2.length wc1, .int .i64 d.old.1, .slice wa2 d.old.2.length wc2, .int .i64 d.size, .int .i64 d.mark, .slice fa d.frags.length fc, .slice ra d.roots.length rc, .slice ha d.handles.length hc] 28) = W at *
  have X0 := Lib.hid T.1
  have XS := Lib.hid T.2.1
  have XB := Lib.hid T.2.2
  clear T
  refine (of_any d _ W (HD.out.below XB.out) hf).mono ?_
  rintro e w2 ⟨mv, rfl, hm, hb2⟩
  have Y0 := Lib.hid ((hb2.block w.heap.size (by have := XS.out; omega)).trans X0.out)
  have YB := Lib.hid (XB.out.trans (hb2.mono XB.out.size))
  have HM := Lib.hid hm
  obtain ⟨-, ma, mc, rfl, -⟩ := hm
  clear hb2
  have y5 := cell_of Y0.out 7
  simp at y5
  go_wp2_with fail
  refine (reached_any d.mem d.roots _ _ w2 HM.out (HRO.out.below YB.out) hN hrl).mono ?_
  rintro e w3 ⟨v, l, rfl, hsp, hre, htg, hle, hb3⟩
  obtain ⟨hsl, sa, sc, rfl, hsc⟩ := hsp
  have HSC := Lib.hid hsc
  have HRE := Lib.hid hre
  have HTG := Lib.hid htg
  have HB3 := Lib.hid hb3
  have HLL := Lib.hid (show l.length ≤ 10000 by omega)
  have HZ := Lib.hid (YB.out.trans (hb3.mono YB.out.size))
  clear hsc hre htg hb3 hle y5 hN hsl
  go_wp2_with fail
  go_loopw [4, 16] (fun u i wr => ∃ (k : Nat), k ≤ l.length ∧ i = .int .i64 k ∧ Hid (wr.ownsRow w3.heap.size 3 1 u (hsP d.mem (l.take k)).length (csI (hsP d.mem (l.take k)))) ∧ Hid (Below w3.heap.size w3 wr)) (fun _ i _ => l.length - (intOf i).toNat)
  case atStart => exact ⟨0, by omega, rfl, Lib.hid (World.ownsRow_nil _ _ _ _), Lib.hid (Below.refl _ _)⟩
  case round =>
    obtain ⟨k, hk, rfl, HO, HB⟩ := hrel
    have HHL := Lib.hid (show (hsP d.mem (l.take k)).length ≤ 10000 by
      have := hsP_le d.mem (l.take k)
      have h2 := List.length_take_le k l
      have := HLL.out
      omega)
    by_cases hlt : k < l.length
    · have p1 : (k : Int) < (l.length : Int) := by omega
      have p2 : (0 : Int) ≤ (k : Int) := by omega
      obtain ⟨gr, og, rfl, k0, k1⟩ := HSC.out k hlt
      have k0 := (HB.out.cell (World.block_lt_of_cell? w3 _ k0)).trans k0
      have k1 := (HB.out.cell (World.block_lt_of_cell? w3 _ k1)).trans k1
      have HTK := Lib.hid (List.take_succ_eq_append_getElem hlt)
      have HSL := Lib.hid (show l[k] ∈ l from List.getElem_mem hlt)
      obtain ⟨⟨a, t⟩, hat⟩ : ∃ s : Spt, l[k] = s := ⟨_, rfl⟩
      rw [hat] at k0 k1 HTK HSL
      simp only at k0 k1
      have HR := Lib.hid ((HRE.out.2 _).1 HSL.out)
      obtain ⟨⟨kd, ws⟩, hok'⟩ := Option.isSome_iff_exists.1 HR.out.ok
      simp only at hok'
      have HOB := Lib.hid hok'
      have ha : -9223372036854775808 ≤ a ∧ a ≤ 9223372036854775807 := (HTG.out _ HSL.out).2
      obtain ⟨hs, hhs⟩ : ∃ hs, hsP d.mem (l.take k) = hs := ⟨_, rfl⟩
      rw [hhs] at HO HHL
      have HNX := Lib.hid (show hsP d.mem (l.take (k + 1)) = if kd = 4 then hs ++ [a] else hs by
        rw [HTK.out, hsP_snoc, hhs]
        have e : isH d.mem (a, t) = decide (kd = 4) := by unfold isH; rw [HOB.out]
        rw [e]; simp)
      obtain ⟨ub, uc, rfl⟩ := own_slice HO.out
      have HSZ := Lib.hid HB.out.size
      clear hat hok' hhs
      go_upto_region 6 with fail
      have T := one_at wr (.cells #[.int .i64 a, .int .i64 t] 68)
      generalize wr.alloc (.cells #[.int .i64 a, .int .i64 t] 68) = V at *
      have V0 := Lib.hid T.1
      have VS := Lib.hid T.2.1
      have VB := Lib.hid T.2.2
      clear T
      have c0 := cell_of V0.out 0
      have c1 := cell_of V0.out 1
      simp at c0 c1
      clear k0 k1
      go_wp2_with fail
      have HC := object_at d.mem _ a t w2 V HM.out (HB3.out.trans ((HB.out.trans (VB.out.mono HB.out.size)).mono HB3.out.size)) ha
      with_reducible refine HC.mono ?_
      clear HC
      rintro e w6 ⟨⟨k', v', l', ok, rfl, hws, hok, hs'⟩, hb6⟩
      rw [HOB.out] at hok
      subst hok
      obtain ⟨rfl, rfl⟩ := Prod.mk.inj (hs' _ HOB.out)
      obtain ⟨-, -, va, vcc, rfl, -⟩ := id hws
      have W0 := Lib.hid ((hb6.block wr.heap.size (by have := VS.out; omega)).trans V0.out)
      have WB := Lib.hid (VB.out.trans (hb6.mono VB.out.size))
      clear hb6 hws hs' c0 c1
      go_upto_region 7 with fail
      have T := one_at w6 (.cells #[.int .i64 kd, .slice va ws.length vcc] 70)
      generalize w6.alloc (.cells #[.int .i64 kd, .slice va ws.length vcc] 70) = V2 at *
      have U0 := Lib.hid T.1
      have UB := Lib.hid (WB.out.trans (T.2.2.mono WB.out.size))
      have U1 := Lib.hid ((T.2.2.block wr.heap.size (by have := WB.out.size; have := VS.out; have := (World.block_lt_of_cell? w6 ⟨wr.heap.size, 0, none⟩ (cell_of W0.out 0)); omega)).trans W0.out)
      clear T
      have c0 := cell_of U0.out 0
      have d0 := cell_of U1.out 0
      simp at c0 d0
      have HO2 := Lib.hid (show V2.ownsRow w3.heap.size 3 1 (.slice ub hs.length uc) hs.length (csI hs) from own_kept HO.out UB.out)
      have HB2 := Lib.hid (HB.out.trans (UB.out.mono HB.out.size))
      have HSZ2 := Lib.hid HB2.out.size
      have Q5 := Lib.hid (show -9223372036854775808 ≤ (k : Int) + 1 ∧ (k : Int) + 1 ≤ 9223372036854775807 by have := HLL.out; omega)
      have QK := Lib.hid (show k + 1 ≤ l.length by omega)
      have QM := Lib.hid (show l.length - (k + 1) < l.length - k by omega)
      have hhl := HHL.out
      have hsz := HSZ2.out
      by_cases h4 : kd = 4
      · have HNX := Lib.hid (show hsP d.mem (l.take (k + 1)) = hs ++ [a] by rw [HNX.out, if_pos h4])
        subst h4
        go_upto_region 8 with fail
        have d0a := fun o => (Below.cell ((Below.refl V2.heap.size V2).alloc (Nat.le_refl _) o) (World.block_lt_of_cell? V2 _ d0)).trans d0
        go_upto_region 9 with (at_builtin; refine wpList_append_own_at _ rfl (.tmp 29) (.tmp 32) 26 rfl w3.heap.size 3 i0 _ 1 8 Try.underlying26 hi hz0 hz1 hz2 rfl (by decide) _ hs.length (csI hs) rfl (World.ownsRow.alloc HO2.out _) _ 1 1 [.int .i64 a] rfl rfl (fun i u hi => by
            match i with
            | 0 => simp at hi; subst hi; simp [Addr.add_lit]
            | i + 1 => simp at hi) (fun u hu => by simp at hu; subst hu; rfl) (by unfold maxLen; omega) (by omega) (by simp; omega) ?_; intro v9 w9 hown9 hgrow9 _ hloc9
                               have HG9 := Lib.hid hgrow9
                               have HO9 := Lib.hid (show w9.ownsRow w3.heap.size 3 1 v9 (hs ++ [a]).length (csI (hs ++ [a])) by rw [csI_snoc, List.length_append]; exact hown9)
                               have HB9 := Lib.hid (((HB2.out.alloc HB2.out.size _).grown hgrow9 (by simp; omega) (fun k e => by have := (HO2.out.lt k e).1; omega)) : Below w3.heap.size w3 w9)
                               obtain ⟨vb, vcc, rfl⟩ := own_slice hown9
                               clear hown9 hgrow9 hloc9)
        have p5 : IntKind.i64.wrap ((k : Int) + 1) = (k : Int) + 1 := IntWalk.i64_in _ Q5.out
        go_wp2_with fail
        go_roundw
        case rel => exact ⟨k + 1, QK.out, by go_num, (by rw [HNX.out]; exact HO9), HB9⟩
        case measure => clear p5; simp [intOf]; omega
      · have HNX := Lib.hid (show hsP d.mem (l.take (k + 1)) = hs by rw [HNX.out, if_neg h4])
        have p5 : IntKind.i64.wrap ((k : Int) + 1) = (k : Int) + 1 := IntWalk.i64_in _ Q5.out
        go_wp2_with fail
        go_roundw
        case rel => exact ⟨k + 1, QK.out, by go_num, (by rw [HNX.out]; exact HO2), HB2⟩
        case measure => clear p5; simp [intOf]; omega
    · obtain rfl : k = l.length := by omega
      have p1 : ¬ (l.length : Int) < (l.length : Int) := by omega
      rw [List.take_length] at HO HHL
      have HO := HO
      obtain ⟨hs, hhs⟩ : ∃ hs, hsP d.mem l = hs := ⟨_, rfl⟩
      have HHS := Lib.hid hhs
      rw [hhs] at HO HHL
      clear hhs
      obtain ⟨ub, uc, rfl⟩ := own_slice HO.out
      go_wp2_with fail
      refine (sort_any _ _ hs wr HO.out (by have := HHL.out; omega)).mono ?_
      rintro e w8 ⟨rfl, ho8, hg8⟩
      have HO8 := Lib.hid ho8
      have HB8 := Lib.hid (HB.out.grown hg8 HB.out.size (fun k e => by have := (HO.out.lt k e).1; omega))
      clear ho8 hg8
      go_wp2_with fail
      go_ret
      have hsl : (sortI hs).length = hs.length := by simp [sortI]
      refine ⟨_, l, rfl, HRE.out, ?_, ?_, HZ.out.trans (HB8.out.mono HZ.out.size)⟩
      · rw [HHS.out]
        refine Is.of_own (base := w3.heap.size) (by rw [hsl]; exact HO8.out) (by rw [hsl]; have := HHL.out; omega) (fun x hx => ?_)
        have hx' : x ∈ hsP d.mem l := by rw [HHS.out]; exact (List.mergeSort_perm _ _).mem_iff.1 hx
        obtain ⟨s, hs, -, rfl⟩ := hsP_mem hx'
        exact (HTG.out s hs).2
      · rw [HHS.out, hsl]; exact HHL.out

end Go.Proofs.Ytohgkfnbjfhniaa
