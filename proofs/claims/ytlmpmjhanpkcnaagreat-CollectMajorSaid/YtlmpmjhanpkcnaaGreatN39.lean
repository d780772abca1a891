/-
  Collect: chapter 12's own handles walked.
  Collect, plain: where no two objects have words in common.
  Collect, plain: objects of a dump collected wholly lie apart.
-/
import Derived.Test.YtlmpmjhanpkcnaaGreatN38
set_option linter.unusedVariables false
set_option linter.unusedSimpArgs false
namespace Go.Proofs.YtlmpmjhanpkcnaaGreat
open Go.RowKit

theorem insP_perm' (L : List Int) (n : Int) : (insP L n).Perm (n :: L) := by
  unfold insP
  have h := List.takeWhile_append_dropWhile (p := fun x => decide (x < n)) (l := L)
  have : (L.takeWhile (fun x => decide (x < n)) ++ n :: L.dropWhile (fun x => decide (x < n))).Perm (n :: (L.takeWhile (fun x => decide (x < n)) ++ L.dropWhile (fun x => decide (x < n)))) := List.perm_middle
  rw [h] at this
  exact this

theorem DmAt.isH {w : World} {d : Dmp} {a b a' b' f r h : Value} (hd : DmAt w (dmpV a b a' b' d.size d.mark f r h) d) : Is w h d.handles := by
  obtain ⟨_, _, _, _, _, _, _, he, -, -, -, -, -, -, h7⟩ := hd
  simp only [dmpV, Value.agg.injEq, Array.mk.injEq, List.cons.injEq, true_and, and_true] at he
  obtain ⟨-, -, -, -, -, -, rfl⟩ := he
  exact h7

theorem Is.at_ {w : World} {a : Option Addr} {c : Nat} {l : List Int} (h : Is w (.slice a l.length c) l) : ∀ j, (hj : j < l.length) → ∃ g o, a = some ⟨g, o, none⟩ ∧ w.cell? ⟨g, o + j, none⟩ = some (.int .i64 l[j]) ∧ -9223372036854775808 ≤ l[j] ∧ l[j] ≤ 9223372036854775807 := by
  obtain ⟨-, h2, a', c', he, -, -, hx⟩ := h
  simp only [Value.slice.injEq, true_and] at he
  obtain ⟨rfl, rfl⟩ := he
  intro j hj
  obtain ⟨g, o, e, k⟩ := hx j hj
  exact ⟨g, o, e, k, h2 _ (List.getElem_mem hj)⟩

theorem walk_hs {m : List Frg} (hm : MemB m) : ∀ (f : Nat) (s : Mt) (x : Nat), x < 18446744073709551616 → (∀ h ∈ s.hs, In64 h) → ∀ h ∈ (walkP m f s x).hs, In64 h
  | 0, s, x, _, h => h
  | f + 1, s, x, hx, h => by
    have ih := walk_hs hm f
    have F : ∀ (L : List Nat) (s : Mt), (∀ y ∈ L, y < 18446744073709551616) → (∀ h ∈ s.hs, In64 h) → ∀ h ∈ (L.foldl (walkP m f) s).hs, In64 h := by
      intro L
      induction L with
      | nil => intro s _ h; exact h
      | cons y r ihr => intro s hb h; exact ihr _ (fun z hz => hb z (List.mem_cons_of_mem _ hz)) (ih s y (hb y List.mem_cons_self) h)
    rw [walkP]
    split
    · exact h
    · split
      · exact h
      · split
        · split
          · exact h
          · have hb := rest_bnd (a := loadW x) hm
            exact ih _ _ (hb _ (getD_mem (by omega))) (ih _ _ (hb _ (getD_mem (by omega))) h)
        · split
          · exact h
          · rename_i o ho
            have hb : ∀ y ∈ o.2, y < 18446744073709551616 := fun y hy => rest_bnd (a := loadW x) hm y ((box_len ho).2.2 y hy)
            split
            · exact F o.2 _ hb h
            · split
              · rename_i q
                exact ih _ _ (hb _ (getD_mem q.2)) h
              · split
                · intro y hy
                  have hy := (insP_perm' s.hs (loadW x)).subset hy
                  rcases List.mem_cons.1 hy with rfl | hy
                  · unfold In64 loadW; split <;> omega
                  · exact h y hy
                · exact h

theorem mtAll_ok {m : List Frg} {roots : List Nat} (hm : MemB m) (hN : wordsN m ≤ 5000) (hb : ∀ x ∈ roots, x < 18446744073709551616) : MtOk m (metP m roots) ∧ ∀ h ∈ (metP m roots).hs, In64 h := by
  have G : ∀ (L : List Nat) (s : Mt), MtOk m s → (∀ h ∈ s.hs, In64 h) → (∀ x ∈ L, x < 18446744073709551616) → MtOk m (L.foldl (walkP m (2 * wordsN m + 1)) s) ∧ ∀ h ∈ (L.foldl (walkP m (2 * wordsN m + 1)) s).hs, In64 h := by
    intro L
    induction L with
    | nil => intro s h k _; exact ⟨h, k⟩
    | cons y r ih =>
      intro s h k hb
      exact ih _ (walk_ok hm hN _ s y h (hb y List.mem_cons_self)).1 (walk_hs hm _ s y (hb y List.mem_cons_self) k) fun z hz => hb z (List.mem_cons_of_mem _ hz)
  exact G roots _ (mtOk_nil m) (fun h hh => by cases hh) hb

set_option maxHeartbeats 8000000 in
set_option maxRecDepth 100000 in
theorem handles12_any (d : Dmp) (S : List Slt) (v : Value) (w : World) (h : LkAt w v d S true) (hf : d.frags.length ≤ 100000) (hN : wordsN d.mem ≤ 5000) (hm : MemB d.mem) (hrl : d.roots.length ≤ 100000) :
    Calls Tryz.prog 24 #[v] w fun e w' => e = .returned (.bool (handles12P d S)) ∧ Below w.heap.size w w' := by
  have HLK := Lib.hid h
  obtain ⟨_, _, _, _, _, _, _, sv, rfl, hd, hs⟩ := h
  obtain ⟨wa1, wc1, wa2, wc2, fa, fc, ra, rc, ha, hc, e⟩ := hd.shape
  simp only [dmpV, Value.agg.injEq, Array.mk.injEq, List.cons.injEq, true_and, and_true] at e
  obtain ⟨rfl, rfl, rfl, rfl, rfl, rfl, rfl⟩ := e
  obtain ⟨-, sa, sc, rfl, -⟩ := hs
  have HD := Lib.hid hd
  clear hd
  have T := two_at' w (.cells #[.int .i64 d.young.1, .slice wa1 d.young.2.length wc1, .int .i64 d.old.1, .slice wa2 d.old.2.length wc2, .int .i64 d.size, .int .i64 d.mark, .slice fa d.frags.length fc, .slice ra d.roots.length rc, .slice ha d.handles.length hc, .slice sa S.length sc, .bool true] 53) (.cells #[.int .i64 d.young.1, .slice wa1 d.young.2.length wc1, .int .i64 d.old.1, .slice wa2 d.old.2.length wc2, .int .i64 d.size, .int .i64 d.mark, .slice fa d.frags.length fc, .slice ra d.roots.length rc, .slice ha d.handles.length hc] 28)
  go_enter Tryz.func24, Tryz.ntmps24
  go_upto_region 2 with fail
  generalize (w.alloc (.cells #[.int .i64 d.young.1, .slice wa1 d.young.2.length wc1, .int .i64 d.old.1, .slice wa2 d.old.2.length wc2, .int .i64 d.size, .int .i64 d.mark, .slice fa d.frags.length fc, .slice ra d.roots.length rc, .slice ha d.handles.length hc, .slice sa S.length sc, .bool true] 53)).alloc (.cells #[.int .i64 d.young.1, .slice wa1 d.young.2.length wc1, .int .i64 d.old.1, .slice wa2 d.old.2.length wc2, .int .i64 d.size, .int .i64 d.mark, .slice fa d.frags.length fc, .slice ra d.roots.length rc, .slice ha d.handles.length hc] 28) = W at *
  obtain ⟨t1, t2, t3⟩ := T
  have X1 := Lib.hid t1
  have X2 := Lib.hid t2
  have B0 := Lib.hid t3
  clear t1 t2 t3
  obtain ⟨al, hal⟩ : ∃ al, ((metP d.mem d.roots).hs.all fun h => d.handles.contains h) = al := ⟨_, rfl⟩
  have HAL := Lib.hid hal
  have HHI := Lib.hid (show Is w (.slice ha d.handles.length hc) d.handles from HD.out.isH)
  have HHX := Lib.hid (HHI.out.at_)
  clear hal
  go_upto_region 3 with fail
  go_loopw [4] (fun i wr => ∃ (k : Nat), k ≤ d.handles.length ∧ i = .int .i64 k ∧ Hid (handles12P d S = (hsGo d S d.handles (d.handles.length - k) k && al)) ∧ Hid (Below W.heap.size W wr)) (fun i _ => d.handles.length - (intOf i).toNat)
  case atStart => exact ⟨0, by omega, rfl, Lib.hid (by unfold handles12P; rw [HAL.out]; rfl), Lib.hid (Below.refl _ _)⟩
  case round =>
    obtain ⟨k, hk, rfl, HR, HB⟩ := hrel
    have HBW := Lib.hid (B0.out.trans (HB.out.mono B0.out.size))
    have Y1 := Lib.hid ((HB.out.block _ (lt_of_block X1.out)).trans X1.out)
    have Y2 := Lib.hid ((HB.out.block _ (lt_of_block X2.out)).trans X2.out)
    have y6 := cell_of Y2.out 8
    simp at y6
    by_cases hlt : k < d.handles.length
    · obtain ⟨g, og, rfl, kw, hx1, hx2⟩ := HHX.out k hlt
      have kw1 := (HBW.out.cell (World.block_lt_of_cell? w _ kw)).trans kw
      have HG := Lib.hid (show d.handles.getD k 0 = d.handles[k] by rw [List.getD_eq_getElem?_getD, List.getElem?_eq_getElem hlt]; rfl)
      obtain ⟨x, hxx⟩ : ∃ x, d.handles[k]'hlt = x := ⟨_, rfl⟩
      rw [hxx] at kw1 hx1 hx2 HG
      clear kw hxx
      have p1 : (k : Int) < (d.handles.length : Int) := by omega
      have p2 : (0 : Int) ≤ (k : Int) := by omega
      have x0 := cell_of Y1.out 0
      have x1 := cell_of Y1.out 1
      have x2 := cell_of Y1.out 2
      have x3 := cell_of Y1.out 3
      have x4 := cell_of Y1.out 4
      have x5 := cell_of Y1.out 5
      have x6 := cell_of Y1.out 6
      have x7 := cell_of Y1.out 7
      have x8 := cell_of Y1.out 8
      have x9 := cell_of Y1.out 9
      have x10 := cell_of Y1.out 10
      simp at x0 x1 x2 x3 x4 x5 x6 x7 x8 x9 x10
      go_wp2_with fail
      refine (make8_any 4 x (by omega) ⟨hx1, hx2⟩ _).mono ?_
      rintro e w2 ⟨he, rfl⟩
      unfold Make8End at he
      subst he
      dsimp only
      obtain ⟨xm, hxm⟩ : ∃ xm, (make8 4 x).getD 0 = xm := ⟨_, rfl⟩
      obtain ⟨mb, hmb⟩ : ∃ mb, (make8 4 x).isSome = mb := ⟨_, rfl⟩
      have hxr := make8_word (x := x) hxm
      obtain ⟨xn, rfl⟩ : ∃ xn : Nat, xm = (xn : Int) := ⟨xm.toNat, by omega⟩
      have HOK := Lib.hid (show hOk d S x = (mb && (boxP d.mem xn).isSome && decide (((boxP d.mem xn).getD (0, [])).1 = 4) && (bytes12 true S ((boxP d.mem xn).getD (0, [])).1 ((boxP d.mem xn).getD (0, [])).2).isSome) from hOk_eq hxm hmb)
      rw [hxm, hmb]
      obtain ⟨bx, hbx⟩ : ∃ bx, boxP d.mem xn = bx := ⟨_, rfl⟩
      have HBX := Lib.hid (show ∀ V, Below w.heap.size w V → Calls Tryz.prog 54 #[_, .int .u64 xn] V fun e w' => BoxEnd w' bx e ∧ Below V.heap.size V w' from fun V hb => by
        rw [← hbx]
        exact box_any d S true _ xn V (HLK.out.below hb) hf (by omega))
      rw [hbx] at HOK
      clear hbx hxm hmb
      go_wp2_with fail
      refine (HBX.out _ HBW.out).mono ?_
      rintro e w3 ⟨⟨tv, rfl, htv⟩, hb3⟩
      obtain ⟨kd, hkd⟩ : ∃ kd, (bx.getD (0, [])).1 = kd := ⟨_, rfl⟩
      obtain ⟨tl, htl⟩ : ∃ tl, (bx.getD (0, [])).2 = tl := ⟨_, rfl⟩
      obtain ⟨bs, hbs⟩ : ∃ bs, bx.isSome = bs := ⟨_, rfl⟩
      rw [hkd, htl, hbs] at HOK
      rw [hkd, hbs]
      rw [htl] at htv
      have HTV := Lib.hid htv
      obtain ⟨-, -, ta, tc, rfl, -⟩ := htv
      have HB3 := Lib.hid (HB.out.trans (hb3.mono HB.out.size))
      have HBW3 := Lib.hid (HBW.out.trans (hb3.mono HBW.out.size))
      have Z1 := Lib.hid ((hb3.block _ (lt_of_block Y1.out)).trans Y1.out)
      have Z2 := Lib.hid ((hb3.block _ (lt_of_block Y2.out)).trans Y2.out)
      have kw3 := (hb3.cell (World.block_lt_of_cell? _ _ kw1)).trans kw1
      clear hkd htl hbs hb3 x0 x1 x2 x3 x4 x5 x6 x7 x8 x9 x10 y6 kw1 HBX Y1 Y2
      dsimp only
      have HOKF := Lib.hid (show mb = true ∧ bs = true ∧ kd = 4 ∨ hOk d S x = false by
        by_cases hg : mb = true ∧ bs = true ∧ kd = 4
        · exact .inl hg
        · right
          rw [HOK.out]
          cases mb
          · simp
          · cases bs
            · simp
            · have : kd ≠ 4 := fun e => hg ⟨rfl, rfl, e⟩
              simp [this])
      have HSTEP := Lib.hid (show hsGo d S d.handles (d.handles.length - k) k = (hOk d S x && !(d.handles.take k).contains x && hsGo d S d.handles (d.handles.length - (k + 1)) (k + 1)) by
        rw [show d.handles.length - k = (d.handles.length - (k + 1)) + 1 by omega, hsGo, if_pos hlt, HG.out])
      have QK := Lib.hid (show k + 1 ≤ d.handles.length ∧ d.handles.length - (k + 1) < d.handles.length - k by omega)
      have q9 : IntKind.i64.wrap ((k : Int) + 1) = (k : Int) + 1 := IntWalk.i64_in _ (by have := HHI.out.1; unfold maxLen at this; omega)
      by_cases hgo : mb = true ∧ bs = true ∧ kd = 4
      · obtain ⟨rfl, rfl, rfl⟩ := hgo
        clear HOKF q9
        go_upto_region 9 with fail
        have x0 := cell_of Z1.out 0
        have x1 := cell_of Z1.out 1
        have x2 := cell_of Z1.out 2
        have x3 := cell_of Z1.out 3
        have x4 := cell_of Z1.out 4
        have x5 := cell_of Z1.out 5
        have x6 := cell_of Z1.out 6
        have x7 := cell_of Z1.out 7
        have x8 := cell_of Z1.out 8
        have x9 := cell_of Z1.out 9
        have x10 := cell_of Z1.out 10
        simp at x0 x1 x2 x3 x4 x5 x6 x7 x8 x9 x10
        have HB12 := Lib.hid (bytes12_any d S true _ _ 4 tl w3 (HLK.out.below HBW3.out) HTV.out)
        go_wp2_with fail
        refine HB12.out.mono ?_
        clear HB12
        rintro e w4 ⟨⟨bb, bn, ok, rfl, hok, -, -, -⟩, hb4⟩
        have HOK2 := Lib.hid (show hOk d S x = ok by rw [HOK.out, hok]; simp)
        have HB4 := Lib.hid (HB3.out.trans (hb4.mono HB3.out.size))
        have HBW4 := Lib.hid (HBW3.out.trans (hb4.mono HBW3.out.size))
        have U1 := Lib.hid ((hb4.block _ (lt_of_block Z1.out)).trans Z1.out)
        have U2 := Lib.hid ((hb4.block _ (lt_of_block Z2.out)).trans Z2.out)
        have kw4 := (hb4.cell (World.block_lt_of_cell? _ _ kw3)).trans kw3
        clear hok hb4 x0 x1 x2 x3 x4 x5 x6 x7 x8 x9 x10 kw3 Z1 Z2 HOK
        dsimp only
        cases ok
        · go_wp2_with fail
          go_ret
          exact ⟨by rw [HR.out, HSTEP.out, HOK2.out]; rfl, HBW4.out⟩
        · go_upto_region 13 with fail
          generalize wr = W9 at *
          go_loopw [13] (fun i wr => ∃ (j : Nat), j ≤ k ∧ i = .int .i64 j ∧ Hid (∀ q, q < j → d.handles.getD q 0 ≠ x) ∧ Hid (Below w4.heap.size w4 wr)) (fun i _ => k - (intOf i).toNat)
          case atStart => exact ⟨0, by omega, rfl, Lib.hid (fun q hq => by omega), Lib.hid (Below.refl _ _)⟩
          case round =>
            obtain ⟨j, hj, rfl, HN, HBj⟩ := hrel
            by_cases hjk : j < k
            · have r1 : (j : Int) < (k : Int) := by omega
              have r2 : (0 : Int) ≤ (j : Int) := by omega
              have r3 : (j : Int) < (d.handles.length : Int) := by omega
              have r5 : IntKind.i64.wrap ((j : Int) + 1) = (j : Int) + 1 := IntWalk.i64_in _ (by have := HHI.out.1; unfold maxLen at this; omega)
              obtain ⟨g', og', eg, kj, hj1, hj2⟩ := HHX.out j (by omega)
              cases eg
              have HGj := Lib.hid (show d.handles.getD j 0 = d.handles[j]'(by omega) by rw [List.getD_eq_getElem?_getD, List.getElem?_eq_getElem (by omega)]; rfl)
              have HIN := Lib.hid (show d.handles[j]'(by omega) ∈ d.handles.take k from List.mem_take_iff_getElem.2 ⟨j, by omega, rfl⟩)
              obtain ⟨y, hyy⟩ : ∃ y, d.handles[j]'(by omega) = y := ⟨_, rfl⟩
              rw [hyy] at kj hj1 hj2 HGj HIN
              have HBWj := Lib.hid (HBW4.out.trans (HBj.out.mono HBW4.out.size))
              have kj4 := (HBWj.out.cell (World.block_lt_of_cell? w _ kj)).trans kj
              have kw5 := (HBj.out.cell (World.block_lt_of_cell? _ _ kw4)).trans kw4
              have V2 := Lib.hid ((HBj.out.block _ (lt_of_block U2.out)).trans U2.out)
              have y6 := cell_of V2.out 8
              simp at y6
              clear kj hyy
              go_upto_region 15 with fail
              go_quiet (fail)
              by_cases hxy : y = x
              · subst hxy
                go_wp2_with fail
                go_ret
                refine ⟨?_, HBW4.out.trans ((HBj.out.trans ((drewN_below _).mono HBj.out.size)).mono HBW4.out.size)⟩
                have : (d.handles.take k).contains y = true := List.contains_iff_mem.2 HIN.out
                rw [HR.out, HSTEP.out, this]; simp
              · have hne : (y == x) = false := by simp [hxy]
                go_wp2_with fail
                go_roundw
                case rel => exact ⟨j + 1, by omega, by go_num, Lib.hid (fun q hq => by
                  by_cases e : q = j
                  · subst e; rw [HGj.out]; exact hxy
                  · exact HN.out q (by omega)), Lib.hid (HBj.out.trans ((drewN_below _).mono HBj.out.size))⟩
                case measure => clear r5; simp [intOf]; omega
            · obtain rfl : j = k := by omega
              have r1 : ¬ (j : Int) < (j : Int) := by omega
              have HNC := Lib.hid (show (d.handles.take j).contains x = false by
                rw [← Bool.not_eq_true, List.contains_iff_mem]
                intro hm
                obtain ⟨q, hq, e⟩ := List.mem_take_iff_getElem.1 hm
                have := HN.out q (by omega)
                rw [List.getD_eq_getElem?_getD, List.getElem?_eq_getElem (by omega)] at this
                exact this e)
              have q9 : IntKind.i64.wrap ((j : Int) + 1) = (j : Int) + 1 := IntWalk.i64_in _ (by have := HHI.out.1; unfold maxLen at this; omega)
              go_wp2_with fail
              go_roundw
              case rel => exact ⟨j + 1, QK.out.1, by go_num, Lib.hid (by rw [HR.out, HSTEP.out, HOK2.out, HNC.out]; simp), Lib.hid (HB4.out.trans (HBj.out.mono HB4.out.size))⟩
              case measure => clear q9; have := QK.out.2; simp [intOf]; omega
      · have HF := Lib.hid (show hOk d S x = false from HOKF.out.resolve_left hgo)
        have HFIN := Lib.hid (show handles12P d S = false by rw [HR.out, HSTEP.out, HF.out]; rfl)
        clear HOKF HOK q9
        cases mb
        · go_wp2_with fail
          go_ret
          exact ⟨by rw [HFIN.out]; rfl, HBW3.out⟩
        · cases bs
          · go_wp2_with fail
            go_ret
            exact ⟨by rw [HFIN.out]; rfl, HBW3.out⟩
          · have hk4 : (kd == 4) = false := by
              have : kd ≠ 4 := fun e => hgo ⟨rfl, rfl, e⟩
              simp [this]
            go_wp2_with fail
            go_ret
            exact ⟨by rw [HFIN.out]; rfl, HBW3.out⟩
    · obtain rfl : k = d.handles.length := by omega
      have p1 : ¬ (d.handles.length : Int) < (d.handles.length : Int) := by omega
      have HFI := Lib.hid (show handles12P d S = al by rw [HR.out, Nat.sub_self, hsGo, Bool.true_and])
      clear y6
      have x0 := cell_of Y2.out 0
      have x1 := cell_of Y2.out 1
      have x2 := cell_of Y2.out 2
      have x3 := cell_of Y2.out 3
      have x4 := cell_of Y2.out 4
      have x5 := cell_of Y2.out 5
      have x6 := cell_of Y2.out 6
      have x7 := cell_of Y2.out 7
      have x8 := cell_of Y2.out 8
      simp at x0 x1 x2 x3 x4 x5 x6 x7 x8
      have HRE := Lib.hid (reached12_any d _ wr (HD.out.below HBW.out) hf hN hm hrl)
      have HMT := Lib.hid (mtAll_ok hm hN HD.out.ws.2.1)
      obtain ⟨Z, hZ⟩ : ∃ Z, metP d.mem d.roots = Z := ⟨_, rfl⟩
      rw [hZ] at HRE HAL HMT
      clear hZ
      go_wp2_with fail
      refine HRE.out.mono ?_
      clear HRE
      rintro e w5 ⟨av, hv, rfl, hoa, hoh, hb5⟩
      obtain ⟨aa, ac, rfl⟩ := own_slice hoa
      clear hoa
      have HB5 := Lib.hid (HB.out.trans (hb5.mono HB.out.size))
      have HBW5 := Lib.hid (HBW.out.trans (hb5.mono HBW.out.size))
      obtain ⟨hha, hhc, rfl⟩ := own_slice hoh
      have HIS := Lib.hid (is_of_own hoh (by have := HMT.out.1.hle; have := HMT.out.1.count; omega) HMT.out.2)
      have HHL := Lib.hid (show Z.hs.length ≤ 100000 by have := HMT.out.1.hle; have := HMT.out.1.count; omega)
      have T1 := one_at w5 (.cells #[.slice aa Z.at_.length ac, .int .i64 Z.words, .slice hha Z.hs.length hhc] 39)
      have Y3 := Lib.hid ((hb5.block _ (lt_of_block Y2.out)).trans Y2.out)
      clear hoh hb5 x0 x1 x2 x3 x4 x5 x6 x7 x8
      go_upto_region 18 with fail
      generalize w5.alloc (.cells #[.slice aa Z.at_.length ac, .int .i64 Z.words, .slice hha Z.hs.length hhc] 39) = w6 at *
      have XM := Lib.hid T1.1
      have B6 := Lib.hid T1.2.2
      have Y4 := Lib.hid ((B6.out.block _ (lt_of_block Y3.out)).trans Y3.out)
      have HBW6 := Lib.hid (HBW5.out.trans (B6.out.mono HBW5.out.size))
      have HIS6 := Lib.hid (HIS.out.below B6.out)
      have HSX := Lib.hid HIS6.out.at_
      clear T1 p1 Y1 Y2 Y3
      go_wp2_with fail
      generalize wr = W9 at *
      go_loopw [15] (fun i wr => ∃ (j : Nat), j ≤ Z.hs.length ∧ i = .int .i64 j ∧ Hid (∀ q, q < j → Z.hs.getD q 0 ∈ d.handles) ∧ Hid (Below w6.heap.size w6 wr)) (fun i _ => Z.hs.length - (intOf i).toNat)
      case atStart => exact ⟨0, by omega, rfl, Lib.hid (fun q hq => by omega), Lib.hid (Below.refl _ _)⟩
      case round =>
        obtain ⟨j, hj, rfl, HN, HBj⟩ := hrel
        have VM := Lib.hid ((HBj.out.block _ (lt_of_block XM.out)).trans XM.out)
        have m2 := cell_of VM.out 2
        simp at m2
        by_cases hlt : j < Z.hs.length
        · obtain ⟨g, og, rfl, kw, -, -⟩ := HSX.out j hlt
          have kw1 := (HBj.out.cell (World.block_lt_of_cell? w6 _ kw)).trans kw
          have HG := Lib.hid (show Z.hs.getD j 0 = Z.hs[j] by rw [List.getD_eq_getElem?_getD, List.getElem?_eq_getElem hlt]; rfl)
          have HMEM := Lib.hid (List.getElem_mem hlt)
          obtain ⟨y, hyy⟩ : ∃ y, Z.hs[j]'hlt = y := ⟨_, rfl⟩
          rw [hyy] at kw1 HG HMEM
          clear kw hyy
          have p1 : (j : Int) < (Z.hs.length : Int) := by omega
          have p2 : (0 : Int) ≤ (j : Int) := by omega
          have QK := Lib.hid (show j + 1 ≤ Z.hs.length ∧ Z.hs.length - (j + 1) < Z.hs.length - j by omega)
          have q9 := Lib.hid (show IntKind.i64.wrap ((j : Int) + 1) = (j : Int) + 1 from IntWalk.i64_in _ (by have := HHL.out; omega))
          go_wp2_with fail
          generalize wr = W8 at *
          go_loopw [16, 17] (fun b i wr => ∃ (k : Nat) (bb : Bool), k ≤ d.handles.length ∧ i = .int .i64 k ∧ b = .bool bb ∧ Hid (bb = (d.handles.take k).contains y) ∧ Hid (Below W8.heap.size W8 wr)) (fun _ i _ => d.handles.length - (intOf i).toNat)
          case atStart => exact ⟨0, false, by omega, rfl, rfl, Lib.hid (by simp), Lib.hid (Below.refl _ _)⟩
          case round =>
            obtain ⟨k, bb, hk, rfl, rfl, HBB, HBk⟩ := hrel
            have V2 := Lib.hid (((HBj.out.trans (HBk.out.mono HBj.out.size)).block _ (lt_of_block Y4.out)).trans Y4.out)
            have VMk := Lib.hid ((HBk.out.block _ (lt_of_block VM.out)).trans VM.out)
            have y6 := cell_of V2.out 8
            have m3 := cell_of VMk.out 2
            simp at y6 m3
            have kw2 := (HBk.out.cell (World.block_lt_of_cell? _ _ kw1)).trans kw1
            by_cases hkl : k < d.handles.length
            · have r1 : (k : Int) < (d.handles.length : Int) := by omega
              have r2 : (0 : Int) ≤ (k : Int) := by omega
              have r5 : IntKind.i64.wrap ((k : Int) + 1) = (k : Int) + 1 := IntWalk.i64_in _ (by have := HHI.out.1; unfold maxLen at this; omega)
              obtain ⟨g', og', eg, kj, hj1, hj2⟩ := HHX.out k hkl
              cases eg
              have HTK := Lib.hid (List.take_succ_eq_append_getElem hkl)
              obtain ⟨z, hzz⟩ : ∃ z, d.handles[k]'hkl = z := ⟨_, rfl⟩
              rw [hzz] at kj HTK
              have HBWk := Lib.hid (HBW6.out.trans ((HBj.out.trans (HBk.out.mono HBj.out.size)).mono HBW6.out.size))
              have kj4 := (HBWk.out.cell (World.block_lt_of_cell? w _ kj)).trans kj
              clear kj hzz
              cases bb with
              | true =>
                go_upto_region 25 with fail
                go_quiet (fail)
                go_wp2_with fail
                go_roundw
                case rel => exact ⟨k + 1, true, by omega, by go_num, rfl, Lib.hid (by
                  have := HBB.out.symm
                  rw [List.contains_iff_mem] at this
                  refine Eq.symm (List.contains_iff_mem.2 ?_)
                  rw [HTK.out]
                  exact List.mem_append_left _ this), Lib.hid (HBk.out.trans ((drewN_below _).mono HBk.out.size))⟩
                case measure => clear r5; simp [intOf]; omega
              | false =>
                by_cases hxy : z = y
                · subst hxy
                  go_upto_region 25 with fail
                  go_quiet (fail)
                  go_wp2_with fail
                  go_roundw
                  case rel => exact ⟨k + 1, true, by omega, by go_num, by simp, Lib.hid (by
                    refine Eq.symm (List.contains_iff_mem.2 ?_)
                    rw [HTK.out]
                    exact List.mem_append_right _ List.mem_cons_self), Lib.hid (HBk.out.trans ((drewN_below _).mono HBk.out.size))⟩
                  case measure => clear r5; simp [intOf]; omega
                · have hne : (z == y) = false := by simp [hxy]
                  go_upto_region 25 with fail
                  go_quiet (fail)
                  go_wp2_with fail
                  go_roundw
                  case rel => exact ⟨k + 1, false, by omega, by go_num, by simp [hne], Lib.hid (by
                    have := HBB.out.symm
                    rw [← Bool.not_eq_true, List.contains_iff_mem] at this
                    refine Eq.symm ?_
                    rw [← Bool.not_eq_true, List.contains_iff_mem, HTK.out]
                    intro q
                    rcases List.mem_append.1 q with q | q
                    · exact this q
                    · simp at q; exact hxy q.symm), Lib.hid (HBk.out.trans ((drewN_below _).mono HBk.out.size))⟩
                  case measure => clear r5; simp [intOf]; omega
            · obtain rfl : k = d.handles.length := by omega
              have r1 : ¬ (d.handles.length : Int) < (d.handles.length : Int) := by omega
              have q9 := q9.out
              cases bb with
              | true =>
                go_wp2_with fail
                go_roundw
                case rel => exact ⟨j + 1, QK.out.1, by go_num, Lib.hid (fun q hq => by
                  by_cases e : q = j
                  · subst e
                    rw [HG.out]
                    have := HBB.out.symm
                    rw [List.contains_iff_mem, List.take_length] at this
                    exact this
                  · exact HN.out q (by omega)), Lib.hid (HBj.out.trans (HBk.out.mono HBj.out.size))⟩
                case measure => clear q9; have := QK.out.2; simp [intOf]; omega
              | false =>
                go_wp2_with fail
                go_ret
                refine ⟨?_, HBW6.out.trans ((HBj.out.trans (HBk.out.mono HBj.out.size)).mono HBW6.out.size)⟩
                rw [HFI.out, ← HAL.out]
                have : (Z.hs.all fun h => d.handles.contains h) = false := by
                  rw [← Bool.not_eq_true, List.all_eq_true]
                  intro q
                  have h1 := q y HMEM.out
                  have h2 := HBB.out
                  rw [List.take_length, h1] at h2
                  cases h2
                rw [this]; rfl
        · obtain rfl : j = Z.hs.length := by omega
          have r1 : ¬ (Z.hs.length : Int) < (Z.hs.length : Int) := by omega
          go_wp2_with fail
          go_ret
          refine ⟨?_, HBW6.out.trans (HBj.out.mono HBW6.out.size)⟩
          rw [HFI.out, ← HAL.out]
          have : (Z.hs.all fun h => d.handles.contains h) = true := by
            rw [List.all_eq_true]
            intro x hx
            obtain ⟨q, hq, rfl⟩ := List.getElem_of_mem hx
            have := HN.out q hq
            rw [List.getD_eq_getElem?_getD, List.getElem?_eq_getElem hq] at this
            exact List.contains_iff_mem.2 this
          rw [this]; rfl

end Go.Proofs.YtlmpmjhanpkcnaaGreat

namespace Go.Proofs.YtlmpmjhanpkcnaaGreat
open Go.RowKit

/-- The addresses of an object's words. -/
def objA (mn : Nat → Nat) (x : Nat) : List Int := (List.range (mn x)).map fun (k : Nat) => loadW x + (k : Int)

/-- How many words an object has that a word leads to. -/
def ManyOk (e : Dmp) (x n : Nat) : Prop := x < 18446744073709551616 ∧ n ≤ 1000 ∧ ((tagW x = 5 ∧ n = 2 ∧ 0 ≤ loadW x ∧ loadW x ≤ 1152921504606846975) ∨ (tagW x = 4 ∧ ∃ (j : Nat) (hj : j < e.young.2.length) (k sz : Int), loadW x = e.young.1 + j ∧ headP e.young.2[j] = some (k, sz) ∧ sz + 1 = n))

theorem apart_pre {mn : Nat → Nat} {l : List Nat} {i k : Nat} (hi : i < l.length) (hk : k < mn l[i]) (hn : (l.flatMap (objA mn)).Nodup) :
    ∀ y ∈ (l.take i).flatMap (objA mn) ++ (List.range k).map (fun (q : Nat) => loadW l[i] + (q : Int)), y ≠ loadW l[i] + (k : Int) := by
  intro y hy
  have h1 : l.flatMap (objA mn) = (l.take i).flatMap (objA mn) ++ (objA mn l[i] ++ (l.drop (i + 1)).flatMap (objA mn)) := by
    have := List.take_append_drop i l
    rw [List.drop_eq_getElem_cons hi] at this
    conv => lhs; rw [← this]
    rw [List.flatMap_append, List.flatMap_cons]
  rw [h1] at hn
  obtain ⟨n1, n2, n3⟩ := List.nodup_append.1 hn
  obtain ⟨m1, m2, m3⟩ := List.nodup_append.1 n2
  have hin : loadW l[i] + (k : Int) ∈ objA mn l[i] := List.mem_map.2 ⟨k, by simpa using hk, rfl⟩
  rcases List.mem_append.1 hy with q | q
  · exact n3 y q _ (List.mem_append.2 (.inl hin))
  · obtain ⟨j, hj, rfl⟩ := List.mem_map.1 q
    have hj := List.mem_range.1 hj
    omega

theorem objA_snoc {mn : Nat → Nat} {l : List Nat} {i : Nat} (hi : i < l.length) : (l.take (i + 1)).flatMap (objA mn) = (l.take i).flatMap (objA mn) ++ (List.range (mn l[i])).map (fun (q : Nat) => loadW l[i] + (q : Int)) := by
  rw [List.take_succ_eq_append_getElem hi, List.flatMap_append]
  simp [objA]

theorem take_len {mn : Nat → Nat} {l : List Nat} (i : Nat) : ((l.take i).flatMap (objA mn)).length ≤ (l.flatMap (objA mn)).length := by
  have : l.flatMap (objA mn) = (l.take i).flatMap (objA mn) ++ (l.drop i).flatMap (objA mn) := by rw [← List.flatMap_append, List.take_append_drop]
  rw [this, List.length_append]; omega

theorem part_len {mn : Nat → Nat} {l : List Nat} {i k : Nat} (hi : i < l.length) (hk : k ≤ mn l[i]) : ((l.take i).flatMap (objA mn) ++ (List.range k).map (fun (q : Nat) => loadW l[i] + (q : Int))).length ≤ (l.flatMap (objA mn)).length := by
  have := take_len (mn := mn) (l := l) (i + 1)
  rw [objA_snoc hi] at this
  simp only [List.length_append, List.length_map, List.length_range] at this ⊢
  omega

theorem loadW_in' {x : Nat} : -1152921504606846976 ≤ loadW x ∧ (x < 18446744073709551616 → loadW x ≤ 2305843009213693951) := by
  unfold loadW
  split <;> omega

end Go.Proofs.YtlmpmjhanpkcnaaGreat

namespace Go.Proofs.YtlmpmjhanpkcnaaGreat
open Go.RowKit Go.Maps

theorem objW_img {d : Dmp} {a : Nat} {l : List Spt} (A : MjAll d a l) {s : Spt} (hs : s ∈ (majorSt d a l).keys) : objW (majorD d a l).mem (imgS (majorSt d a l).went s) = lenO d.mem s := by
  obtain ⟨n, k, l1, ho, hw, hr, e, ho', -⟩ := A.home.img hs
  rw [lenO_objW, major_mem, len_obj ho', len_obj ho, imgO_len]

theorem Mj.words_e {d : Dmp} {S : List Slt} {a : Nat} {l : List Spt} (h : Mj d S a l) : (metP (majorD d a l).mem (majorD d a l).roots).words = (majorD d a l).young.2.length := by
  have A := h.all
  obtain ⟨-, m2, m3, m4⟩ := h.mete
  have e : sumP (fun y => objW (majorD d a l).mem (spotOf y)) (metP (majorD d a l).mem (majorD d a l).roots).at_ = sumP (objW (majorD d a l).mem) ((metP (majorD d a l).mem (majorD d a l).roots).at_.map spotOf) := by
    unfold sumP
    rw [List.map_map]
    rfl
  rw [m2.words, e, sumP_perm (objW (majorD d a l).mem) (perm_of m3 h.imgs.1 fun s => by rw [m4, h.imgs.2])]
  show _ = (majorSt d a l).words.length
  rw [A.inv.inv.len]
  show _ = sumP (lenO d.mem) (majorSt d a l).keys
  unfold sumP
  rw [List.map_map]
  congr 1
  exact List.map_congr_left fun s hs => objW_img A hs

theorem Mj.spot {d : Dmp} {S : List Slt} {a : Nat} {l : List Spt} (h : Mj d S a l) {x : Nat} (hx : x ∈ (metP (majorD d a l).mem (majorD d a l).roots).at_) : ∃ s ∈ (majorSt d a l).keys, spotOf x = imgS (majorSt d a l).went s := by
  obtain ⟨-, -, m3, m4⟩ := h.mete
  have h1 := (h.imgs.2 _).2 ((m4 _).1 (List.mem_map.2 ⟨x, hx, rfl⟩))
  obtain ⟨s, hs, e⟩ := List.mem_map.1 h1
  exact ⟨s, hs, e.symm⟩

theorem many_ok {d : Dmp} {S : List Slt} {a : Nat} {l : List Spt} (h : Mj d S a l) {x : Nat} (hx : x ∈ (metP (majorD d a l).mem (majorD d a l).roots).at_) : ManyOk (majorD d a l) x (objW (majorD d a l).mem (spotOf x)) := by
  have A := h.all
  obtain ⟨m1, -, m3, m4⟩ := h.mete
  obtain ⟨hb, htg, -⟩ := m1.ptr x hx
  have hr := (m4 _).1 (List.mem_map.2 ⟨x, hx, rfl⟩)
  have hlow : LowM (majorD d a l).mem := by rw [major_mem]; exact memW_low A.home.low
  have h10 : objW (majorD d a l).mem (spotOf x) ≤ 10 := by
    have := sumP_le (m := (majorD d a l).mem) [spotOf x]
    simpa [sumP] using this
  obtain ⟨⟨k, l1⟩, ho⟩ := Option.isSome_iff_exists.1 hr.ok
  have hW : objW (majorD d a l).mem (spotOf x) = l1.length := by rw [lenO_objW, len_obj ho]
  refine ⟨hb, by omega, ?_⟩
  rw [hW]
  have ho : objP (majorD d a l).mem (loadW x) ((tagW x : Nat) : Int) = some (k, l1) := ho
  rcases htg with q | q
  · right
    refine ⟨q, ?_⟩
    rw [q] at ho
    have ho : objP (majorD d a l).mem (loadW x) 4 = some (k, l1) := ho
    rw [obj_head] at ho
    obtain ⟨o, hh, ho⟩ := Option.bind_eq_some_iff.1 ho
    split at ho
    · cases ho
      rw [headAt_rest] at hh
      cases hrs : restP (majorD d a l).mem (loadW x) with
      | nil => rw [hrs] at hh; cases hh
      | cons y t =>
        rw [hrs] at hh
        simp only at hh
        obtain ⟨⟨k2, sz⟩, hq, hh⟩ := Option.bind_eq_some_iff.1 hh
        split at hh
        · rename_i hle
          cases hh
          have hsz : 0 ≤ sz := by
            unfold headP at hq
            split at hq
            · simp only [Option.some.injEq, Prod.mk.injEq] at hq; omega
            · cases hq
          have hrs : restP (memW a (majorSt d a l)) (loadW x) = y :: t := hrs
          unfold memW at hrs
          simp only [restP] at hrs
          split at hrs
          · rename_i hin
            have hp := inP_parts hin
            have hj : (loadW x - (a : Int)).toNat < (majorSt d a l).words.length := by omega
            rw [List.drop_eq_getElem_cons hj] at hrs
            cases hrs
            refine ⟨(loadW x - (a : Int)).toNat, hj, _, sz, ?_, hq, ?_⟩
            · show loadW x = (a : Int) + _
              omega
            · simp only [List.length_cons, List.length_take] at hle ⊢
              omega
          · split at hrs
            · simp at hrs
            · cases hrs
        · cases hh
    · cases ho
  · left
    rw [q] at ho
    have ho : objP (majorD d a l).mem (loadW x) 5 = some (k, l1) := ho
    unfold objP at ho
    rw [if_pos rfl, words_rest _ _ 2 (by decide)] at ho
    split at ho
    · rename_i hl
      have := rest_low hlow (a := loadW x) (by intro e; rw [e] at hl; simp at hl)
      simp only [Option.bind_some] at ho
      split at ho
      · cases ho
        refine ⟨q, ?_, this⟩
        rw [List.length_take]
        simp
        omega
      · cases ho
    · cases ho

theorem Mj.apart {d : Dmp} {S : List Slt} {a : Nat} {l : List Spt} (h : Mj d S a l) : ((metP (majorD d a l).mem (majorD d a l).roots).at_.flatMap (objA fun x => objW (majorD d a l).mem (spotOf x))).Nodup ∧
    ((metP (majorD d a l).mem (majorD d a l).roots).at_.flatMap (objA fun x => objW (majorD d a l).mem (spotOf x))).length = (metP (majorD d a l).mem (majorD d a l).roots).words := by
  have A := h.all
  obtain ⟨m1, m2, m3, m4⟩ := h.mete
  constructor
  · unfold List.Nodup
    rw [List.pairwise_flatMap]
    constructor
    · intro x hx
      refine nodup_map List.nodup_range fun i _ j _ e => by omega
    · refine m1.nod.imp_of_mem fun {x y} hx hy hne => ?_
      intro p hp q hq e
      obtain ⟨t, ht, rfl⟩ := List.mem_map.1 hp
      obtain ⟨u, hu, rfl⟩ := List.mem_map.1 hq
      have ht : t < objW (majorD d a l).mem (spotOf x) := List.mem_range.1 ht
      have hu : u < objW (majorD d a l).mem (spotOf y) := List.mem_range.1 hu
      obtain ⟨s, hs, es⟩ := h.spot hx
      obtain ⟨s', hs', es'⟩ := h.spot hy
      rw [es, objW_img A hs] at ht
      rw [es', objW_img A hs'] at hu
      have e1 : loadW x = (imgS (majorSt d a l).went s).1 := congrArg Prod.fst es
      have e2 : loadW y = (imgS (majorSt d a l).went s').1 := congrArg Prod.fst es'
      rw [e1, e2] at e
      have := (img_inj A.inv.inv A.home hs hs' ht hu e).1
      subst this
      exact hne (spot_inj (m1.ptr x hx).2.1 (m1.ptr y hy).2.1 (es.trans es'.symm))
  · rw [m2.words, List.length_flatMap]
    unfold sumP objA
    congr 1
    exact List.map_congr_left fun x _ => by simp

end Go.Proofs.YtlmpmjhanpkcnaaGreat
