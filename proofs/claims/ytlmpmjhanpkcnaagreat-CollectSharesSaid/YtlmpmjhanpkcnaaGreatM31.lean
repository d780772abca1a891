/-
  Collect: the handles of a mover's spots.
  Collect: sane.
  Collect: where Major's objects go.
  Collect: what right roots reach is closed.
  Collect: what a mover has done at the end, in plain words.
  Collect: all that is reached has gone, in plain words.
-/
import Derived.Test.YtlmpmjhanpkcnaaGreatM30
set_option linter.unusedVariables false
set_option linter.unusedSimpArgs false
namespace Go.Proofs.YtlmpmjhanpkcnaaGreat
open Go.RowKit Go.Maps

/-- Where the handles among some spots went. -/
def hsM (m : List Frg) (went : List (Spt × Nat)) (spots : List Spt) : List Int := spots.filterMap fun s => if ((objP m s.1 s.2).getD (0, [])).1 = 4 then some ((((wentAt went s).getD 0) / 8 : Nat) : Int) else none

theorem hsM_snoc (m : List Frg) (went : List (Spt × Nat)) (L : List Spt) (s : Spt) : hsM m went (L ++ [s]) = hsM m went L ++ (if ((objP m s.1 s.2).getD (0, [])).1 = 4 then [((((wentAt went s).getD 0) / 8 : Nat) : Int)] else []) := by
  unfold hsM
  rw [List.filterMap_append]
  congr 1
  by_cases h : ((objP m s.1 s.2).getD (0, [])).1 = 4 <;> simp [h]

theorem hsM_le (m : List Frg) (went : List (Spt × Nat)) (L : List Spt) : (hsM m went L).length ≤ L.length := List.length_filterMap_le _ _

def HandEnd (W0 : World) (Y : Nat) (mv : Value) (F : Nat) (caps : Array Value) (K : List (Nat × Obj)) (a : Nat) (out : List Int) (st : Mv) (w : World) (e : Ending) (w' : World) : Prop :=
  ∃ v, e = .returned v ∧ Below w.heap.size w w' ∧ w'.ownsRow w.heap.size 3 1 v out.length (csI out) ∧ MvSt W0 Y mv F caps (Kout v w' K) a st w' ∧ ∀ p ∈ K, v.ownBlock ≠ some p.1

set_option maxHeartbeats 16000000 in
set_option maxRecDepth 100000 in
theorem handlesM_any (Wm W0 : World) (Y : Nat) (m : List Frg) (mv : Value) (F : Nat) (caps : Array Value) (K : List (Nat × Obj)) (a : Nat) (st : Mv) (sv : Value) (spots : List Spt) (w : World) (E : MvEnv Wm W0 Y m mv F caps) (h : MvSt W0 Y mv F caps K a st w)
    (hsv : ∀ w', W0.grownBy w' (some Y) → (∀ p ∈ K, w'.heap[p.1]? = some p.2) → SpAt w' sv spots) (hok : ∀ s ∈ spots, (s.2 = 4 ∨ s.2 = 5) ∧ In64 s.1 ∧ (objP m s.1 s.2).isSome = true ∧ ∃ n, n ≤ 1125899907842624 ∧ wentAt st.went s = some (n * 8 + s.2.toNat)) (hl : spots.length ≤ 100000) :
    Calls Tryz.prog 31 #[.pointer (some ⟨W0.heap.size + 1, 0, none⟩), sv] w fun e w' => HandEnd W0 Y mv F caps K a (hsM m st.went spots) st w e w' := by
  have HE := Lib.hid E
  have HS := Lib.hid h
  have HSV := Lib.hid hsv
  have HOK := Lib.hid hok
  have hYh := E.yh
  obtain ⟨_, sa0, sc, hsve, _⟩ := hsv w h.base (fun p hp => h.kept hp)
  subst hsve
  obtain ⟨i0, hi, hz0, hz1, hz2⟩ := info_parts info3
  have hsz0 := h.sz
  clear E h hsv hok
  go_enter Tryz.func31, Tryz.ntmps31
  go_wp2_with fail
  go_loopw [5, 14] (fun o i wr => ∃ (k : Nat) (out : List Int) (od : Value), k ≤ spots.length ∧ i = .int .i64 k ∧ od = o ∧ Hid (hsM m st.went (spots.take k) = out) ∧ Hid (wr.ownsRow w.heap.size 3 1 od out.length (csI out)) ∧ Hid (MvSt W0 Y mv F caps (Kout od wr K) a st wr) ∧ Hid (∀ p ∈ K, od.ownBlock ≠ some p.1) ∧ Hid (Below w.heap.size w wr)) (fun _ i _ => spots.length - (intOf i).toNat)
  case atStart => exact ⟨0, [], _, by omega, rfl, rfl, Lib.hid rfl, Lib.hid (World.ownsRow_nil _ _ _ _), Lib.hid HS.out, Lib.hid (fun p _ e => by cases e), Lib.hid (Below.refl _ _)⟩
  case round =>
    obtain ⟨k, out, od, hk, rfl, hod, L1, L2, L3, L4, L5⟩ := hrel
    subst hod
    by_cases hlt : k < spots.length
    · obtain ⟨-, a', c', he, hsc⟩ := HSV.out wr L3.out.base (fun p hp => L3.out.kept (Kout_sub p hp))
      simp only [Value.slice.injEq, true_and] at he
      obtain ⟨rfl, rfl⟩ := he
      obtain ⟨gq, oq, rfl, k0, k1⟩ := hsc k hlt
      have p1 : (k : Int) < (spots.length : Int) := by omega
      have p2 : (0 : Int) ≤ (k : Int) := by omega
      have p5 : IntKind.i64.wrap ((k : Int) + 1) = (k : Int) + 1 := IntWalk.i64_in _ (by omega)
      have HTK := Lib.hid (List.take_succ_eq_append_getElem hlt)
      have HP1 := Lib.hid (HOK.out _ (List.getElem_mem hlt))
      obtain ⟨⟨sa, stt⟩, hss⟩ : ∃ s, spots[k] = s := ⟨_, rfl⟩
      rw [hss] at k0 k1 HTK HP1
      simp only at k0 k1
      obtain ⟨tn, rfl, htn⟩ : ∃ tn : Nat, stt = (tn : Int) ∧ (tn = 4 ∨ tn = 5) := by
        rcases HP1.out.1 with q | q
        · exact ⟨4, q, .inl rfl⟩
        · exact ⟨5, q, .inr rfl⟩
      have hin := HP1.out.2.1
      have HSO := Lib.hid (show SptOk (sa, (tn : Int)) from ⟨hin, by unfold In64; rcases htn with q | q <;> simp only <;> omega⟩)
      obtain ⟨n, hn1, hn2⟩ := HP1.out.2.2.2
      have HAT := Lib.hid hn2
      obtain ⟨kd, l, ho⟩ : ∃ k l, objP m sa (tn : Int) = some (k, l) := by
        obtain ⟨o, ho⟩ := Option.isSome_iff_exists.1 HP1.out.2.2.1
        exact ⟨o.1, o.2, ho⟩
      have HO := Lib.hid ho
      have hol : out.length ≤ k := by
        have := hsM_le m st.went (spots.take k)
        rw [L1.out, List.length_take] at this
        omega
      have HM := Lib.hid (show hsM m st.went (spots.take (k + 1)) = out ++ (if kd = 4 then [(n : Int)] else []) by
        rw [HTK.out, hsM_snoc, L1.out, HO.out, HAT.out]
        have e : (n * 8 + tn) / 8 = n := by omega
        simp only [Option.getD_some, Int.toNat_natCast, e])
      clear hin ho hss hsc hn2
      have X1 := World.alloc_heap_new wr (.cells #[.int .i64 sa, .int .i64 (tn : Int)] 63)
      have B1 := Below.alloc (Below.refl wr.heap.size wr) (Nat.le_refl _) (.cells #[.int .i64 sa, .int .i64 (tn : Int)] 63)
      have H1 := Lib.hid (L3.out.keep hYh B1 X1 (Nat.le_refl _))
      have HB4 := Lib.hid (L5.out.trans (B1.mono L5.out.size))
      go_upto_region 5 with fail
      obtain ⟨tb, htb⟩ : ∃ tb, wr.heap.size = tb := ⟨_, rfl⟩
      rw [htb] at H1 ⊢
      generalize wr.alloc (.cells #[.int .i64 sa, .int .i64 (tn : Int)] 63) = w4 at *
      clear B1 X1 k0 k1
      obtain ⟨K0, hK0⟩ : ∃ K0, Kout od wr K = K0 := ⟨_, rfl⟩
      have HK0 := Lib.hid hK0
      rw [hK0] at H1
      clear hK0
      obtain ⟨yv, qv, hmid4⟩ := H1.out.mid
      have HX4 := Lib.hid (show w4.heap[tb]? = some (.cells #[.int .i64 sa, .int .i64 (tn : Int)] 63 (0, 0)) from (hmid4.r6 (tb, _) List.mem_cons_self).1)
      have v0 := cell_of hmid4.r3 0
      have s0 := cell_of HX4.out 0
      have s1 := cell_of HX4.out 1
      simp at v0 s0 s1
      have HMEM := Lib.hid (fun V (hV : Below w4.heap.size w4 V) => HE.out.below ((H1.out.lift hYh hV).base))
      have HO1 := Lib.hid (show Calls Tryz.prog 60 #[mv, .agg #[.int .i64 sa, .int .i64 (tn : Int)]] w4.drew fun e w' => ObjEnd Wm (objP m sa (tn : Int)) e ∧ Below w4.drew.heap.size w4.drew w' from object_at m mv sa (tn : Int) Wm w4.drew HE.out.rs (HMEM.out _ (Below.refl _ _).drew) HSO.out.1)
      have HO2 := Lib.hid (show Calls Tryz.prog 60 #[mv, .agg #[.int .i64 sa, .int .i64 (tn : Int)]] (w4.alloc (.cells #[.int .i64 0, .slice none 0 0] 107)).drew fun e w' => ObjEnd Wm (objP m sa (tn : Int)) e ∧ Below (w4.alloc (.cells #[.int .i64 0, .slice none 0 0] 107)).drew.heap.size (w4.alloc (.cells #[.int .i64 0, .slice none 0 0] 107)).drew w' from object_at m mv sa (tn : Int) Wm _ HE.out.rs (HMEM.out _ ((Below.refl _ _).alloc (Nat.le_refl _) _).drew) HSO.out.1)
      have n1 := World.new_ne _ _ v0
      have n2 := World.new_ne _ _ s0
      have n3 := World.new_ne _ _ s1
      clear hmid4
      go_cut [8, 9] from 18 to 26 (fun p ok wx => ObjKut Wm w4 wx kd l p)
      case first =>
        go_region_held3 (fun w' => w'.cell? ⟨W0.heap.size + 1, 0, none⟩ = some mv ∧ w'.cell? ⟨tb, 0, none⟩ = some (.int .i64 sa) ∧ w'.cell? ⟨tb, 1, none⟩ = some (.int .i64 (tn : Int))) (first | exact ⟨v0, s0, s1⟩ | with_reducible exact ⟨d0, d1, d2⟩ | go_keep) (first
          | (go_at_call 60; (with_reducible refine HO2.out.mono ?_); rintro e w6 ⟨⟨k', v', l', ok, rfl, hws, hok, hp⟩, hb6⟩
             obtain ⟨rfl, rfl⟩ : kd = k' ∧ l = l' := by have := hp _ HO.out; cases this; exact ⟨rfl, rfl⟩
             obtain ⟨_, _, la, lc, rfl, _⟩ := id hws
             have hb7 : Below w4.heap.size w4 w6 := ((Below.refl w4.heap.size w4).alloc (Nat.le_refl _) _).drew.trans (hb6.mono (by simp))
             have d0 := (hb7.cell (World.block_lt_of_cell? _ _ v0)).trans v0
             have d1 := (hb7.cell (World.block_lt_of_cell? _ _ s0)).trans s0
             have d2 := (hb7.cell (World.block_lt_of_cell? _ _ s1)).trans s1
             have hh := held_new hb6
             have y0 := cell_of hh 0
             have y1 := cell_of hh 1
             have z0 := free_of hh 0
             have z1 := free_of hh 1
             simp at y0 y1
             have F9 := Lib.hid (show ObjKut Wm w4 ((w6.setCell ⟨w4.heap.size, 0, none⟩ (.int .i64 kd)).setCell ⟨w4.heap.size, 1, none⟩ (.slice la l.length lc)) kd l (.pointer (some ⟨w4.heap.size, 0, none⟩)) from ⟨_, _, rfl, (made_ahead hb6 (hws.below (HMEM.out _ hb7))).1, hws, Nat.le_refl _, (made_ahead hb6 (hws.below (HMEM.out _ hb7))).2.2⟩)
             clear hws hb6 hp hok hh)
          | (go_at_call 60; (with_reducible refine HO1.out.mono ?_); rintro e w6 ⟨⟨k', v', l', ok, rfl, hws, hok, hp⟩, hb6⟩
             obtain ⟨rfl, rfl⟩ : kd = k' ∧ l = l' := by have := hp _ HO.out; cases this; exact ⟨rfl, rfl⟩
             obtain ⟨_, _, la, lc, rfl, _⟩ := id hws
             have hb7 : Below w4.heap.size w4 w6 := (Below.refl w4.heap.size w4).drew.trans hb6
             have d0 := (hb7.cell (World.block_lt_of_cell? _ _ v0)).trans v0
             have d1 := (hb7.cell (World.block_lt_of_cell? _ _ s0)).trans s0
             have d2 := (hb7.cell (World.block_lt_of_cell? _ _ s1)).trans s1
             have hsz := hb7.size
             have F9 := Lib.hid (show ObjKut Wm w4 (w6.alloc (.cells #[.int .i64 kd, .slice la l.length lc] 107)) kd l (.pointer (some ⟨w6.heap.size, 0, none⟩)) from ⟨_, _, rfl, (made_behind hb6 (hws.below (HMEM.out _ hb7))).1, hws, hb7.size, (made_behind hb6 (hws.below (HMEM.out _ hb7))).2.2⟩)
             clear hws hb6 hp hok))
        all_goals go_wp2_with fail
        all_goals go_meet
        all_goals exact F9.out
      case rest =>
        obtain ⟨nb, ov, rfl, hnb, hws, hnw, hb5⟩ := hcut
        have H2 := Lib.hid (H1.out.keep hYh hb5 hnb hnw)
        have HB5 := Lib.hid (HB4.out.trans (hb5.mono HB4.out.size))
        clear hb5 v0 s0 s1 n1 n2 n3 HO1 HO2 HMEM hnb hws hnw HX4 H1
        have y0 := cell_of (H2.out.kept List.mem_cons_self) 0
        simp at y0
        by_cases h4 : kd = 4
        · subst h4
          obtain ⟨yv, qv, hmid5⟩ := H2.out.mid
          have HX5 := Lib.hid (show wc.heap[tb]? = some (.cells #[.int .i64 sa, .int .i64 (tn : Int)] 63 (0, 0)) from (hmid5.r6 (tb, _) (List.mem_cons_of_mem _ List.mem_cons_self)).1)
          have v1 := cell_of hmid5.r3 1
          have s0 := cell_of HX5.out 0
          have s1 := cell_of HX5.out 1
          simp at v1 s0 s1
          have hyb : n * 8 + tn < 18446744073709551616 := by omega
          have HLK := Lib.hid (fun V (hV : Below wc.heap.size wc V) => ((H2.out.lift hYh hV).map.look1 (s := (sa, (tn : Int))) HSO.out))
          have HTO := Lib.hid (show ∀ V, Calls Tryz.prog 59 #[.int .u64 ((n * 8 + tn : Nat) : Int)] V fun e w' => e = .returned (.tuple #[.agg #[.int .i64 (n : Int), .int .i64 (tn : Int)], .bool true]) ∧ Below V.heap.size V w' from fun V => (to_any (n * 8 + tn) hyb V).mono fun e w' q => ⟨by have := q.1; unfold ToEnd at this; rw [toP_mk htn (by omega)] at this; exact this, q.2⟩)
          have SK := Lib.hid (show ∀ V, Below wc.heap.size wc V → V.cell? ⟨W0.heap.size + 1, 1, none⟩ = some (.map (some W0.heap.size)) ∧ V.cell? ⟨tb, 0, none⟩ = some (.int .i64 sa) ∧ V.cell? ⟨tb, 1, none⟩ = some (.int .i64 (tn : Int)) ∧ (Instr.lookup 61 (.map (some W0.heap.size)) (spotV (sa, (tn : Int))) false).run Tryz.prog V = .ok (.int .u64 ((n * 8 + tn : Nat) : Int)) V from fun V hV =>
            ⟨(hV.cell (World.block_lt_of_cell? _ _ v1)).trans v1, (hV.cell (World.block_lt_of_cell? _ _ s0)).trans s0, (hV.cell (World.block_lt_of_cell? _ _ s1)).trans s1, by have := HLK.out V hV; rw [HAT.out] at this; simpa using this⟩)
          clear hmid5 HLK v1 s0 s1
          generalize hyy : n * 8 + tn = y at *
          have G0 := Lib.hid (SK.out wc (Below.refl _ _))
          have G1 := Lib.hid (SK.out wc.drew (Below.refl _ _).drew)
          have G2 := Lib.hid (SK.out (wc.alloc (.cells #[.int .i64 0, .int .i64 0] 63)) ((Below.refl _ _).alloc (Nat.le_refl _) _))
          have G3 := Lib.hid (SK.out (wc.alloc (.cells #[.int .i64 0, .int .i64 0] 63)).drew ((Below.refl _ _).alloc (Nat.le_refl _) _).drew)
          go_upto_region 7 with fail
          go_cut [10, 11] from 30 to 39 (fun p ok wx => SpCut wc wx (n : Int) (tn : Int) p ∧ ok = .bool true)
          case first =>
            go_region_held3 (fun w' => w'.cell? ⟨W0.heap.size + 1, 1, none⟩ = some (.map (some W0.heap.size)) ∧ w'.cell? ⟨tb, 0, none⟩ = some (.int .i64 sa) ∧ w'.cell? ⟨tb, 1, none⟩ = some (.int .i64 (tn : Int)) ∧ (Instr.lookup 61 (.map (some W0.heap.size)) (spotV (sa, (tn : Int))) false).run Tryz.prog w' = .ok (.int .u64 (y : Nat)) w') (first | with_reducible exact G0.out | with_reducible exact G1.out | with_reducible exact G2.out | with_reducible exact G3.out | with_reducible exact G6.out | with_reducible exact G7.out | with_reducible exact G8.out | go_keep) (first
              | (go_at_call 59; (with_reducible refine (HTO.out _).mono ?_); rintro e w6 ⟨rfl, hb6⟩
                 have hb7 : Below wc.heap.size wc w6 := ((Below.refl wc.heap.size wc).alloc (Nat.le_refl _) _).drew.trans (hb6.mono (by simp))
                 have hh := held_new hb6
                 have y0 := cell_of hh 0
                 have y1 := cell_of hh 1
                 have z0 := free_of hh 0
                 have z1 := free_of hh 1
                 simp at y0 y1
                 have F9 := Lib.hid (show SpCut wc ((w6.setCell ⟨wc.heap.size, 0, none⟩ (.int .i64 (n : Int))).setCell ⟨wc.heap.size, 1, none⟩ (.int .i64 (tn : Int))) (n : Int) (tn : Int) (.pointer (some ⟨wc.heap.size, 0, none⟩)) from spot_ahead hb6)
                 have G6 := Lib.hid (SK.out w6 hb7)
                 have G7 := Lib.hid (SK.out (w6.setCell ⟨wc.heap.size, 0, none⟩ (.int .i64 (n : Int))) (hb7.setCell (Nat.le_refl _) _))
                 have G8 := Lib.hid (SK.out ((w6.setCell ⟨wc.heap.size, 0, none⟩ (.int .i64 (n : Int))).setCell ⟨wc.heap.size, 1, none⟩ (.int .i64 (tn : Int))) ((hb7.setCell (Nat.le_refl _) _).setCell (Nat.le_refl _) _))
                 clear hb6 hh)
              | (go_at_call 59; (with_reducible refine (HTO.out _).mono ?_); rintro e w6 ⟨rfl, hb6⟩
                 have hb7 : Below wc.heap.size wc w6 := (Below.refl wc.heap.size wc).drew.trans hb6
                 have hsz := hb7.size
                 have G6 := Lib.hid (SK.out w6 hb7)
                 have G7 := Lib.hid (SK.out (w6.alloc (.cells #[.int .i64 0, .int .i64 0] 63)) (hb7.alloc hb7.size _))
                 have G8 := Lib.hid (SK.out (w6.alloc (.cells #[.int .i64 (n : Int), .int .i64 (tn : Int)] 63)) (hb7.alloc hb7.size _))
                 have F9 := Lib.hid (show SpCut wc (w6.alloc (.cells #[.int .i64 (n : Int), .int .i64 (tn : Int)] 63)) (n : Int) (tn : Int) (.pointer (some ⟨w6.heap.size, 0, none⟩)) from spot_behind hb6)
                 clear hb6))
            all_goals go_wp2_with fail
            all_goals go_meet
            all_goals exact ⟨F9.out, rfl⟩
          case rest =>
            obtain ⟨⟨xb, rfl, hxb, hxn, hbx⟩, rfl⟩ := hcut
            have H4 := Lib.hid (H2.out.keep hYh hbx hxb hxn)
            have HB7 := Lib.hid (HB5.out.trans (hbx.mono HB5.out.size))
            clear hbx hxb hxn G0 G1 G2 G3 SK HTO HX5 H2
            obtain ⟨yv, qv, hmid7⟩ := H4.out.mid
            have c1 := cell_of hmid7.r3 1
            have HX7 := H4.out.kept (p := (tb, Obj.cells #[.int .i64 sa, .int .i64 (tn : Int)] 63 (0, 0))) (List.mem_cons_of_mem _ (List.mem_cons_of_mem _ List.mem_cons_self))
            have e0 := cell_of HX7 0
            have e1 := cell_of HX7 1
            simp at c1 e0 e1
            have hlk0 : (Instr.lookup 61 (.map (some W0.heap.size)) (spotV (sa, (tn : Int))) false).run Tryz.prog wc = .ok (.int .u64 (y : Nat)) wc := by have := (H4.out.map.look1 (s := (sa, (tn : Int))) HSO.out); rw [HAT.out] at this; simpa [hyy] using this
            have hlk1 : (Instr.lookup 61 (.map (some W0.heap.size)) (spotV (sa, (tn : Int))) false).run Tryz.prog wc.drew = .ok (.int .u64 (y : Nat)) wc.drew := by have := ((H4.out.lift hYh (Below.refl wc.heap.size wc).drew).map.look1 (s := (sa, (tn : Int))) HSO.out); rw [HAT.out] at this; simpa [hyy] using this
            have hy0 : ((y : Int) == 0) = false := by simp; omega
            clear hmid7 HX7
            go_upto_region 8 with fail
            go_cut [50] from 40 to 50 (fun b wx => b = .bool false ∧ wc.drew = wx)
            case first =>
              go_region_held3 (fun w' => w'.cell? ⟨W0.heap.size + 1, 1, none⟩ = some (.map (some W0.heap.size)) ∧ w'.cell? ⟨tb, 0, none⟩ = some (.int .i64 sa) ∧ w'.cell? ⟨tb, 1, none⟩ = some (.int .i64 (tn : Int)) ∧ (Instr.lookup 61 (.map (some W0.heap.size)) (spotV (sa, (tn : Int))) false).run Tryz.prog w' = .ok (.int .u64 (y : Nat)) w') (first | exact ⟨c1, e0, e1, hlk0⟩ | exact ⟨c1, e0, e1, hlk1⟩ | go_keep) (fail)
              all_goals go_wp2_with fail
              all_goals go_meet
              all_goals exact ⟨rfl, rfl⟩
            case rest =>
              obtain ⟨rfl, rfl⟩ := hcut
              have H5 := Lib.hid (H4.out.lift hYh (Below.refl wc.heap.size wc).drew)
              have HB8 := Lib.hid (HB7.out.drew)
              clear hlk0 hlk1 c1 e0 e1 H4
              generalize wc.drew = wd at *
              have HK := Lib.hid (own_stays L2.out (fun p hp => H5.out.kept (List.mem_cons_of_mem _ (List.mem_cons_of_mem _ (List.mem_cons_of_mem _ (by rw [← HK0.out]; exact hp))))))
              have S5 := Lib.hid (show MvSt W0 Y mv F caps (Kout od wd K) a st wd from H5.out.less (fun p hp => List.mem_cons_of_mem _ (List.mem_cons_of_mem _ (List.mem_cons_of_mem _ (by rw [← HK0.out, ← HK.out.2]; exact hp)))))
              have x0 := cell_of (H5.out.kept List.mem_cons_self) 0
              simp at x0
              have hs6 := H5.out.sz
              have B7 := Lib.hid ((Below.refl wd.heap.size wd).alloc (Nat.le_refl _) (.cells #[.int .i64 (n : Int)] 3))
              have HM2 := Lib.hid (show hsM m st.went (spots.take (k + 1)) = out ++ [(n : Int)] by rw [HM.out, if_pos rfl])
              go_wp2_with (at_builtin; refine wpList_append_own_at _ rfl (.tmp 52) (.tmp 55) 26 rfl w.heap.size 3 i0 _ 1 8 Tryz.underlying26 hi hz0 hz1 hz2 rfl (by decide) _ out.length (csI out) rfl (World.ownsRow.alloc HK.out.1 _) _ 1 1 [.int .i64 (n : Int)] rfl rfl (fun i u hi => by
                  match i with
                  | 0 => simp at hi; subst hi; simp [Addr.add_lit]
                  | i + 1 => simp at hi) (fun u hu => by simp at hu; subst hu; rfl) (by unfold maxLen; omega) (by omega) (by have := HB8.out.size; simp; omega) ?_; intro v9 w9 hown9 hgrow9 _ hloc9
                           have O9 := Lib.hid (show w9.ownsRow w.heap.size 3 1 v9 (out ++ [(n : Int)]).length (csI (out ++ [(n : Int)])) by rw [csI_snoc, List.length_append]; exact hown9)
                           have AP := Lib.hid (S5.out.append hYh HK.out.1 hsz0 L4.out B7.out hgrow9 hown9 hloc9)
                           have HB9 := Lib.hid (HB8.out.trans (push_below HK.out.1 HB8.out.size hgrow9))
                           clear hown9 hgrow9 hloc9)
              go_roundw
              case rel => exact ⟨k + 1, _, v9, by omega, by go_num, rfl, HM2, O9, Lib.hid AP.out.1, Lib.hid AP.out.2, HB9⟩
              case measure => simp [intOf]; omega
        · have q4 : (kd == 4) = false := by simpa using h4
          have HK := Lib.hid (own_stays L2.out (fun p hp => H2.out.kept (List.mem_cons_of_mem _ (List.mem_cons_of_mem _ (by rw [← HK0.out]; exact hp)))))
          have HS9 := Lib.hid (show MvSt W0 Y mv F caps (Kout od wc K) a st wc from H2.out.less (fun p hp => List.mem_cons_of_mem _ (List.mem_cons_of_mem _ (by rw [← HK0.out, ← HK.out.2]; exact hp))))
          have HM2 := Lib.hid (show hsM m st.went (spots.take (k + 1)) = out by rw [HM.out, if_neg h4, List.append_nil])
          go_wp2_with fail
          go_roundw
          case rel => exact ⟨k + 1, out, od, by omega, by go_num, rfl, HM2, Lib.hid HK.out.1, HS9, L4, HB5⟩
          case measure => simp [intOf]; omega
    · obtain rfl : k = spots.length := by omega
      have p1 : ¬ (spots.length : Int) < (spots.length : Int) := by omega
      have HFI := Lib.hid (show hsM m st.went spots = out by have := L1.out; rwa [List.take_length] at this)
      go_wp2_with fail
      go_ret
      refine ⟨_, rfl, L5.out, ?_, L3.out, L4.out⟩
      rw [HFI.out]; exact L2.out

end Go.Proofs.YtlmpmjhanpkcnaaGreat

namespace Go.Proofs.YtlmpmjhanpkcnaaGreat
open Go.RowKit Go.Maps

def saneP (d : Dmp) (a : Int) : Bool := regionsP d && rootsP false [] d && decide (1 ≤ a) && decide (a ≤ 1125899906842624)

set_option maxHeartbeats 4000000 in
set_option maxRecDepth 100000 in
theorem sane_any (d : Dmp) (v : Value) (a : Int) (w : World) (hd : DmAt w v d) (hf : d.frags.length ≤ 100000) (hN : wordsN d.mem ≤ 5000) :
    Calls Tryz.prog 26 #[v, .int .i64 a] w fun e w' => e = .returned (.bool (saneP d a)) ∧ Below w.heap.size w w' := by
  have HD := Lib.hid hd
  obtain ⟨c0, c1, c2, c3, c6, c7, c8, rfl, -⟩ := hd
  obtain ⟨rp, hrp⟩ : ∃ rp, regionsP d = rp := ⟨_, rfl⟩
  obtain ⟨rr, hrr⟩ : ∃ rr, rootsP false [] d = rr := ⟨_, rfl⟩
  obtain ⟨b1, hb1⟩ : ∃ b1, decide (1 ≤ a) = b1 := ⟨_, rfl⟩
  obtain ⟨b2, hb2⟩ : ∃ b2, decide (a ≤ 1125899906842624) = b2 := ⟨_, rfl⟩
  have HRP := Lib.hid hrp
  have HRR := Lib.hid hrr
  have HSP := Lib.hid (show saneP d a = (rp && rr && b1 && b2) by unfold saneP; rw [hrp, hrr, hb1, hb2])
  rw [HSP.out]
  clear hrp hrr
  go_enter Tryz.func26, Tryz.ntmps26
  go_wp2_with fail
  have T := one_at w (.cells #[c0, c1, c2, c3, .int .i64 d.size, .int .i64 d.mark, c6, c7, c8] 28)
  generalize w.alloc (.cells #[c0, c1, c2, c3, .int .i64 d.size, .int .i64 d.mark, c6, c7, c8] 28) = W at *
  have X0 := Lib.hid T.1
  have XS := Lib.hid T.2.1
  have XB := Lib.hid T.2.2
  clear T
  refine (regions_any d _ W (HD.out.below XB.out) hf hN).mono ?_
  rw [HRP.out]
  rintro e w2 ⟨rfl, hb2'⟩
  have Y0 := Lib.hid ((hb2'.block w.heap.size (by have := XS.out; omega)).trans X0.out)
  have YB := Lib.hid (XB.out.trans (hb2'.mono XB.out.size))
  have y0 := cell_of Y0.out 0
  have y1 := cell_of Y0.out 1
  have y2 := cell_of Y0.out 2
  have y3 := cell_of Y0.out 3
  have y4 := cell_of Y0.out 4
  have y5 := cell_of Y0.out 5
  have y6 := cell_of Y0.out 6
  have y7 := cell_of Y0.out 7
  have y8 := cell_of Y0.out 8
  simp at y0 y1 y2 y3 y4 y5 y6 y7 y8
  clear hb2'
  cases rp
  · go_wp2_with fail
    go_ret
    exact ⟨rfl, YB.out⟩
  · go_wp2_with fail
    refine (roots_any false [] d _ _ w2 (HD.out.below YB.out) (slAt_nil _) hf).mono ?_
    rw [HRR.out]
    rintro e w3 ⟨rfl, hb3⟩
    have E := Lib.hid (YB.out.trans (hb3.mono YB.out.size))
    clear hb3
    cases rr
    · go_wp2_with fail
      go_ret
      exact ⟨rfl, E.out⟩
    · by_cases h1 : 1 ≤ a
      · by_cases h2 : a ≤ 1125899906842624
        · have q1 : decide (a ≥ 1) = true := by simpa using h1
          have q2 : decide (a ≤ 1125899906842624) = true := by simpa using h2
          have q3 : ¬ a < 1 := by omega
          go_wp2_with fail
          go_ret
          refine ⟨?_, E.out⟩
          simp_all
        · have q1 : decide (a ≥ 1) = true := by simpa using h1
          have q2 : decide (a ≤ 1125899906842624) = false := by simpa using h2
          go_wp2_with fail
          go_ret
          refine ⟨?_, E.out⟩
          simp_all
      · have q1 : decide (a ≥ 1) = false := by simp; omega
        go_wp2_with fail
        all_goals go_ret
        all_goals refine ⟨?_, E.out⟩
        all_goals simp_all

end Go.Proofs.YtlmpmjhanpkcnaaGreat

namespace Go.Proofs.YtlmpmjhanpkcnaaGreat
open Go.RowKit Go.Maps

theorem goes_major (s : Spt) (T Y : Nat) (W : World) (h : W.heap[T]? = some (.cells #[.pointer (some ⟨Y, 0, none⟩)] 57 (0, 0))) :
    Calls Tryz.prog 28 #[spotV s, .pointer (some ⟨T, 0, none⟩)] W fun e w' => e = .returned (.pointer (some ⟨Y, 0, none⟩)) ∧ Below W.heap.size W w' := by
  obtain ⟨sa, st⟩ := s
  have B := Lib.hid ((Below.refl W.heap.size W).alloc (Nat.le_refl _) (.cells #[.int .i64 sa, .int .i64 st] 63))
  have c0 := cell_of ((B.out.block T (lt_of_block h)).trans h) 0
  have c1 := cell_of h 0
  simp at c0 c1
  go_enter Tryz.func28, Tryz.ntmps28
  go_wp2_with fail
  go_ret
  exact ⟨rfl, B.out⟩

theorem enter_major : ∀ args w, (callFunc 28 args).run Tryz.prog w = .ok (.enter 28 args) w := by
  intro args w
  have hf : Tryz.prog.funcs[28]? = some Tryz.f28 := by kernel_rfl
  have h0 : (Tryz.f28.name == "runtime.NumGoroutine") = false := by kernel_rfl
  have h1 : Tryz.f28.name ≠ "runtime.NumGoroutine" := by simpa using h0
  obtain ⟨c, hb⟩ : ∃ c, Tryz.f28.body = some c := ⟨_, rfl⟩
  simp [callFunc, hf, h1, hb]

end Go.Proofs.YtlmpmjhanpkcnaaGreat

namespace Go.Proofs.YtlmpmjhanpkcnaaGreat
open Go.RowKit Go.Maps

/-- A word that stands for a term. -/
def Rd (m : List Frg) (x : Nat) : Prop := ∃ f left r, termP false [] m f left x = some r

theorem seqP_rd {m : List Frg} {f : Nat} : ∀ {L : List Nat} {left : Nat}, (seqP (termP false [] m f) left L).isSome = true → ∀ x ∈ L, Rd m x
  | [], _, _, x, hx => by cases hx
  | y :: r, left, h, x, hx => by
    rw [seqP] at h
    cases hg : termP false [] m f left y with
    | none => rw [hg] at h; cases h
    | some a =>
      rw [hg] at h
      simp only [Option.bind_some, Option.isSome_map] at h
      rcases List.mem_cons.1 hx with rfl | hx
      · exact ⟨f, left, a, hg⟩
      · exact seqP_rd h x hx

theorem toP_eq {x : Nat} {s : Spt} (h : toP x = some s) : plainP x = true ∧ (tagW x = 4 ∨ tagW x = 5) ∧ s = (loadW x, ((tagW x : Nat) : Int)) := by
  unfold toP at h
  split at h
  · rename_i q; cases h; exact ⟨q.1, q.2, rfl⟩
  · cases h

theorem rd_obj {m : List Frg} {x : Nat} {s : Spt} (h : Rd m x) (ht : toP x = some s) : ∃ k l, objP m s.1 s.2 = some (k, l) ∧ (k = 5 → (partP false [] m l).isSome = true) ∧ (k = 0 ∨ k = -1 → ∀ x' ∈ leadW k l, Rd m x') := by
  obtain ⟨f, left, r, hr⟩ := h
  obtain ⟨hp, htg, rfl⟩ := toP_eq ht
  cases f with
  | zero => cases hr
  | succ f =>
    rw [termP] at hr
    split at hr
    · cases hr
    · rw [if_neg (by omega), if_neg (by omega), if_neg (by omega), if_neg (by omega)] at hr
      obtain ⟨⟨k, l⟩, ho, hr⟩ := Option.bind_eq_some_iff.1 hr
      refine ⟨k, l, ho, fun hk => ?_, fun hk => ?_⟩
      · subst hk
        unfold objT at hr
        simp at hr
        obtain ⟨b, hb, _⟩ := Option.bind_eq_some_iff.1 hr
        rw [hb]; rfl
      · unfold objT at hr
        rw [if_neg (by simp only; omega), if_neg (by simp only; omega), if_neg (by simp only; omega), if_neg (by simp only; omega), if_neg (by simp only; omega)] at hr
        obtain ⟨q, hq, _⟩ := Option.map_eq_some_iff.1 hr
        simp only at hq
        exact seqP_rd (by rw [hq]; rfl)

def QSp (m : List Frg) (s : Spt) : Prop := (∃ x, toP x = some s ∧ Rd m x) ∨ ∃ k l, objP m s.1 s.2 = some (k, l) ∧ (k = 3 ∨ k = 4)

theorem QSp.ok {m : List Frg} {s : Spt} (h : QSp m s) : (objP m s.1 s.2).isSome = true := by
  rcases h with ⟨x, ht, hr⟩ | ⟨k, l, ho, _⟩
  · obtain ⟨k, l, ho, _⟩ := rd_obj hr ht; rw [ho]; rfl
  · rw [ho]; rfl

theorem leadW_none {k : Int} (l : List Nat) (h : k = 1 ∨ k = 2 ∨ k = 3 ∨ k = 4) : leadW k l = [] := by
  unfold leadW leadsP
  rw [if_neg (by omega), if_neg (by omega), if_neg (by omega)]
  simp

theorem leadW_five {l : List Nat} {x : Nat} (h : x ∈ leadW 5 l) : x = l.getD 1 0 := by
  unfold leadW leadsP at h
  simp at h
  match l, h with
  | _ :: y :: _, h => simp at h; simpa using h

theorem part_lead {m : List Frg} {l : List Nat} {s : Spt} (h : rightP m 5 l = true) (ht : toP (l.getD 1 0) = some s) (ho : (objP m s.1 s.2).isSome = true) : ∃ k l', objP m s.1 s.2 = some (k, l') ∧ (k = 3 ∨ k = 4) := by
  unfold rightP at h
  simp only [if_true] at h
  cases hl : lengthP m (l.getD 1 0) with
  | none => rw [hl] at h; simp at h
  | some n =>
    unfold lengthP at hl
    rw [ht] at hl
    simp only [Option.bind_some] at hl
    split at hl
    · rename_i h4
      obtain ⟨o, hh, hl⟩ := Option.bind_eq_some_iff.1 hl
      have ho' := ho
      unfold objP at ho' ⊢
      rw [if_neg (by omega), hh] at ho' ⊢
      simp only [Option.bind_some] at ho' ⊢
      split at ho'
      · rename_i hr
        rw [if_pos hr]
        refine ⟨o.1, o.2, rfl, ?_⟩
        split at hl
        · rename_i q; exact .inl q.1
        · split at hl
          · rename_i q; exact .inr q.1
          · cases hl
      · cases ho'
    · cases hl

theorem QSp.leads {m : List Frg} {s : Spt} (h : QSp m s) : ∃ k l, objP m s.1 s.2 = some (k, l) ∧ ∀ x ∈ leadW k l, ∀ s', toP x = some s' → QSp m s' := by
  rcases h with ⟨x, ht, hr⟩ | ⟨k, l, ho, hk⟩
  · obtain ⟨k, l, ho, h5, h0⟩ := rd_obj hr ht
    refine ⟨k, l, ho, fun x' hx' s' hs' => ?_⟩
    by_cases hk : k = 0 ∨ k = -1
    · exact .inl ⟨x', hs', h0 hk x' hx'⟩
    · rcases objP_ok ho with (⟨rfl, _⟩ | ⟨rfl, _⟩) | ⟨rfl, _⟩ | ⟨rfl, _⟩ | ⟨rfl, _⟩ | ⟨rfl, _⟩ | ⟨rfl, hr5⟩
      · omega
      · omega
      · rw [leadW_none l (by omega)] at hx'; cases hx'
      · rw [leadW_none l (by omega)] at hx'; cases hx'
      · rw [leadW_none l (by omega)] at hx'; cases hx'
      · rw [leadW_none l (by omega)] at hx'; cases hx'
      · have e := leadW_five hx'
        subst e
        have hp := h5 rfl
        refine .inr (part_lead hr5 hs' ?_)
        unfold partP at hp
        rw [hs'] at hp
        simp only at hp
        cases ho2 : objP m s'.1 s'.2 with
        | none => rw [ho2] at hp; cases hp
        | some o => rfl
  · exact ⟨k, l, ho, fun x' hx' => by rw [leadW_none l (by omega)] at hx'; cases hx'⟩

theorem Reach.q {m : List Frg} {roots : List Nat} (hr : ∀ x ∈ roots, Rd m x) {s : Spt} (h : Reach m roots s) : QSp m s := by
  induction h with
  | root hx ht _ => exact .inl ⟨_, ht, hr _ hx⟩
  | step _ ho hx ht _ ih =>
    obtain ⟨k, l, ho', hl⟩ := ih.leads
    rw [ho] at ho'
    cases ho'
    exact hl _ hx _ ht

theorem rd_roots {d : Dmp} (h : rootsP false [] d = true) : ∀ x ∈ d.roots, Rd d.mem x := by
  intro x hx
  unfold rootsP readsP at h
  rw [List.all_eq_true] at h
  have := h x hx
  unfold readP at this
  rw [Option.isSome_map] at this
  obtain ⟨r, hr⟩ := Option.isSome_iff_exists.1 this
  exact ⟨301, 300, r, hr⟩

theorem closed_of {m : List Frg} {roots : List Nat} {l : List Spt} (hr : ∀ x ∈ roots, Rd m x) (hl : ReachL m roots l) : Closed m l ∧ ∀ x ∈ roots, ∀ s, toP x = some s → s ∈ l := by
  refine ⟨fun s hs => ?_, fun x hx s ht => ?_⟩
  · have hq := Reach.q hr ((hl.2 s).1 hs)
    obtain ⟨k, ws, ho, hw⟩ := hq.leads
    exact ⟨k, ws, ho, fun x hx s' hs' => (hl.2 s').2 (.step ((hl.2 s).1 hs) ho hx hs' (hw x hx s' hs').ok)⟩
  · have hq : QSp m s := .inl ⟨x, ht, hr x hx⟩
    exact (hl.2 s).2 (.root hx ht hq.ok)

end Go.Proofs.YtlmpmjhanpkcnaaGreat

namespace Go.Proofs.YtlmpmjhanpkcnaaGreat
open Go.RowKit Go.Maps

def MemB (m : List Frg) : Prop := ∀ f ∈ m, ∀ x ∈ f.2, x < 18446744073709551616

theorem RsAt.bnd {w : World} {v : Value} {m : List Frg} (h : RsAt w v m) : MemB m := by
  intro f hf x hx
  obtain ⟨j, hj, rfl⟩ := List.getElem_of_mem hf
  obtain ⟨_, a, cap, _, hc⟩ := h
  obtain ⟨g, o, wa, wc, _, _, _, _, hw⟩ := hc j hj
  exact hw.2.1 x hx

theorem wordsP_bnd : ∀ {m : List Frg} {a n : Int} {l : List Nat}, MemB m → wordsP m a n = some l → ∀ x ∈ l, x < 18446744073709551616
  | [], _, _, _, _, h, _, _ => by cases h
  | f :: r, a, n, l, hm, h, x, hx => by
    unfold wordsP at h
    split at h
    · unfold cutP at h
      split at h
      · cases h
        exact hm f List.mem_cons_self x (List.mem_of_mem_drop (List.mem_of_mem_take hx))
      · cases h
    · exact wordsP_bnd (fun f' hf' => hm f' (List.mem_cons_of_mem _ hf')) h x hx

theorem objP_bnd {m : List Frg} (hm : MemB m) {a t k : Int} {l : List Nat} (h : objP m a t = some (k, l)) : ∀ x ∈ l, x < 18446744073709551616 := by
  unfold objP at h
  split at h
  · obtain ⟨q, hq, h⟩ := Option.bind_eq_some_iff.1 h
    split at h
    · cases h; exact wordsP_bnd hm hq
    · cases h
  · obtain ⟨o, ho, h⟩ := Option.bind_eq_some_iff.1 h
    split at h
    · cases h
      unfold headAt at ho
      obtain ⟨h1, _, ho⟩ := Option.bind_eq_some_iff.1 ho
      obtain ⟨h2, _, ho⟩ := Option.bind_eq_some_iff.1 ho
      obtain ⟨q, hq, ho⟩ := Option.map_eq_some_iff.1 ho
      cases ho
      exact wordsP_bnd hm hq
    · cases h

/-- A mover's keys. -/
def Mv.keys (st : Mv) : List Spt := st.went.map (·.1)

structure PInv (m : List Frg) (a : Nat) (R : List Spt) (st : Mv) : Prop where
  inv : MInv m a R st
  bw : ∀ p ∈ st.went, p.2 < 18446744073709551616
  bx : ∀ x ∈ st.words, x < 18446744073709551616

theorem PInv.start (m : List Frg) (a : Nat) (R : List Spt) : PInv m a R ⟨[], []⟩ := ⟨MInv.start m a R, (fun p h => by cases h), fun x h => by cases h⟩

/-- One state behind another. -/
def Grew (st st' : Mv) : Prop := ∃ t, st'.went = st.went ++ t

theorem Grew.refl (st : Mv) : Grew st st := ⟨[], by simp⟩
theorem Grew.trans {a b c : Mv} (h : Grew a b) (k : Grew b c) : Grew a c := by
  obtain ⟨t, e⟩ := h; obtain ⟨u, f⟩ := k; exact ⟨t ++ u, by rw [f, e, List.append_assoc]⟩
theorem Grew.keys {a b : Mv} (h : Grew a b) {s : Spt} (hs : s ∈ a.keys) : s ∈ b.keys := by
  obtain ⟨t, e⟩ := h; unfold Mv.keys at *; rw [e, List.map_append]; exact List.mem_append.2 (.inl hs)

theorem PInv.move {m : List Frg} {a : Nat} {R : List Spt} {st : Mv} (h : PInv m a R st) (hm : MemB m) (ha : a ≤ 1125899906842624) (hR : R.length ≤ 10000) {x : Nat} (hb : x < 18446744073709551616) (hx : ∀ s, toP x = some s → s ∈ R) :
    PInv m a R (moveP m a st x).2 ∧ (moveP m a st x).1 < 18446744073709551616 ∧ Grew st (moveP m a st x).2 ∧ ∀ s, toP x = some s → s ∈ (moveP m a st x).2.keys := by
  obtain ⟨h1, h2⟩ := h.inv.move hx
  have hw := h.inv.words
  refine ⟨⟨h1, ?_, ?_⟩, ?_, h2, ?_⟩ <;> clear h1 h2 <;> unfold moveP
  all_goals cases ht : toP x with
    | none => first | exact h.bw | exact h.bx | exact hb | (intro s hs; cases hs)
    | some s =>
      have htg := toP_tag ht
      simp only
      cases hw2 : wentAt st.went s with
      | some y =>
        have hy := h.bw _ (wentAt_mem hw2)
        have hk : s ∈ st.keys := by
          unfold Mv.keys
          exact List.mem_map_of_mem (f := (·.1)) (wentAt_mem hw2)
        first
          | exact h.bw
          | exact h.bx
          | exact hy
          | (intro s' hs'; cases hs'; exact hk)
      | none =>
        simp only
        first
          | (intro p hp
             rcases List.mem_append.1 hp with q | q
             · exact h.bw p q
             · simp at q; subst q; simp only; omega)
          | (intro p hp
             rcases List.mem_append.1 hp with q | q
             · exact h.bx p q
             · cases ho : objP m s.1 s.2 with
               | none => rw [ho] at q; cases q
               | some o => rw [ho] at q; exact objP_bnd hm (k := o.1) (l := o.2) ho p q)
          | omega
          | (intro s' hs'
             cases hs'
             unfold Mv.keys
             simp)

theorem PInv.set {m : List Frg} {a : Nat} {R : List Spt} {st : Mv} (h : PInv m a R st) (i : Nat) {x : Nat} (hx : x < 18446744073709551616) : PInv m a R ⟨st.went, st.words.set i x⟩ := by
  refine ⟨h.inv.set i x, h.bw, fun y hy => ?_⟩
  rcases List.mem_or_eq_of_mem_set hy with q | q
  · exact h.bx y q
  · rw [q]; exact hx

theorem PInv.scanK {m : List Frg} {a : Nat} {R : List Spt} (hm : MemB m) (ha : a ≤ 1125899906842624) (hR : R.length ≤ 10000) (base : Nat) (l : List Nat) (hl : ∀ x ∈ l, x < 18446744073709551616) :
    ∀ (n k : Nat) (st : Mv), PInv m a R st → (∀ j, k ≤ j → j < k + n → ∀ s, toP (l.getD j 0) = some s → s ∈ R) →
      PInv m a R (scanK m a base l n k st) ∧ Grew st (scanK m a base l n k st) ∧ ∀ j, k ≤ j → j < k + n → ∀ s, toP (l.getD j 0) = some s → s ∈ (scanK m a base l n k st).keys
  | 0, k, st, h, hg => ⟨h, Grew.refl _, fun j h1 h2 => by omega⟩
  | n + 1, k, st, h, hg => by
    have hb : l.getD k 0 < 18446744073709551616 := by
      rw [List.getD_eq_getElem?_getD]
      cases hk : l[k]? with
      | none => simp
      | some y => exact hl y (List.mem_of_getElem? hk)
    obtain ⟨p1, p2, p3, p4⟩ := h.move hm ha hR hb (hg k (Nat.le_refl _) (by omega))
    obtain ⟨q1, q2, q3⟩ := PInv.scanK hm ha hR base l hl n (k + 1) _ (p1.set (base + k) p2) (fun j h1 h2 => hg j (by omega) (by omega))
    rw [Proofs.YtlmpmjhanpkcnaaGreat.scanK]
    refine ⟨q1, Grew.trans (show Grew st ⟨(moveP m a st (l.getD k 0)).2.went, _⟩ from p3) q2, fun j h1 h2 s hs => ?_⟩
    by_cases e : j = k
    · subst e; exact q2.keys (p4 s hs)
    · exact q3 j (by omega) (by omega) s hs

end Go.Proofs.YtlmpmjhanpkcnaaGreat

namespace Go.Proofs.YtlmpmjhanpkcnaaGreat
open Go.RowKit Go.Maps

theorem lead_get {m : List Frg} {k : Int} {l : List Nat} (h : ObjOK m k l) : ∃ fr tt : Nat, leadsP k l.length = ((fr : Int), (tt : Int)) ∧ fr ≤ tt ∧ tt ≤ l.length ∧ (∀ j, fr ≤ j → j < tt → l.getD j 0 ∈ leadW k l) ∧ ∀ x ∈ leadW k l, ∃ j, fr ≤ j ∧ j < tt ∧ l.getD j 0 = x := by
  obtain ⟨fr, tt, h1, h2, h3, h4, _, _⟩ := lead_nat h
  refine ⟨fr, tt, h1, h2, h3, fun j hj1 hj2 => ?_, fun x hx => ?_⟩
  · rw [h4, List.mem_iff_getElem?]
    refine ⟨j - fr, ?_⟩
    rw [List.getElem?_take, if_pos (by omega), List.getElem?_drop, show fr + (j - fr) = j by omega, List.getD_eq_getElem?_getD, List.getElem?_eq_getElem (by omega)]
    rfl
  · rw [h4, List.mem_iff_getElem?] at hx
    obtain ⟨i, hi⟩ := hx
    rw [List.getElem?_take] at hi
    split at hi
    · rw [List.getElem?_drop] at hi
      refine ⟨fr + i, by omega, by omega, ?_⟩
      rw [List.getD_eq_getElem?_getD, hi]; rfl
    · cases hi

/-- All that an object leads to has gone. -/
def Done (m : List Frg) (st : Mv) (s : Spt) : Prop := ∀ k l, objP m s.1 s.2 = some (k, l) → ∀ x ∈ leadW k l, ∀ s', toP x = some s' → s' ∈ st.keys

theorem pinvO {m : List Frg} {a : Nat} {R : List Spt} (hm : MemB m) (ha : a ≤ 1125899906842624) (hR : R.length ≤ 10000) (hC : Closed m R) {st : Mv} (h : PInv m a R st) {i : Nat} (hi : i < st.keys.length) :
    PInv m a R (scanO m a st i) ∧ Grew st (scanO m a st i) ∧ Done m (scanO m a st i) st.keys[i] := by
  have hs : st.keys[i] ∈ R := h.inv.sub _ (List.getElem_mem hi)
  obtain ⟨k, l, ho, hl⟩ := hC _ hs
  obtain ⟨fr, tt, h1, h2, h3, h4, h5⟩ := lead_get (objP_ok ho)
  have hg : (st.went.map (·.1)).getD i (0, 0) = st.keys[i] := by
    unfold Mv.keys at hi ⊢
    rw [List.getD_eq_getElem?_getD, List.getElem?_eq_getElem hi]; rfl
  have e : scanO m a st i = scanK m a (sumP (lenO m) ((st.went.map (·.1)).take i)) l (tt - fr) fr st := by
    unfold scanO
    rw [hg, ho]
    simp only [h1]
    congr 1 <;> omega
  obtain ⟨q1, q2, q3⟩ := PInv.scanK hm ha hR (sumP (lenO m) ((st.went.map (·.1)).take i)) l (objP_bnd hm ho) (tt - fr) fr st h (fun j hj1 hj2 s hs' => hl _ (h4 j hj1 (by omega)) s hs')
  rw [e]
  refine ⟨q1, q2, fun k' l' ho' x hx s' hs' => ?_⟩
  rw [ho] at ho'
  cases ho'
  obtain ⟨j, hj1, hj2, rfl⟩ := h5 x hx
  exact q3 j hj1 (by omega) s' hs'

theorem Done.grew {m : List Frg} {a b : Mv} {s : Spt} (h : Done m a s) (hg : Grew a b) : Done m b s := fun k l ho x hx s' hs' => hg.keys (h k l ho x hx s' hs')

theorem Grew.at {a b : Mv} (h : Grew a b) {i : Nat} (hi : i < a.keys.length) : ∃ hb : i < b.keys.length, b.keys[i] = a.keys[i] := by
  obtain ⟨t, e⟩ := h
  have e2 : b.keys = a.keys ++ t.map (·.1) := by unfold Mv.keys; rw [e, List.map_append]
  refine ⟨by rw [e2, List.length_append]; omega, ?_⟩
  simp only [e2]
  exact List.getElem_append_left hi

theorem pinvP {m : List Frg} {a : Nat} {R : List Spt} (hm : MemB m) (ha : a ≤ 1125899906842624) (hR : R.length ≤ 10000) (hC : Closed m R) :
    ∀ (n i : Nat) (st : Mv), R.length + 1 ≤ n + i → PInv m a R st → (∀ j (hj : j < st.keys.length), j < i → Done m st st.keys[j]) →
      PInv m a R (scanP m a n i st) ∧ Grew st (scanP m a n i st) ∧ ∀ s ∈ (scanP m a n i st).keys, Done m (scanP m a n i st) s
  | 0, i, st, hn, h, hd => by
    refine ⟨h, Grew.refl _, fun s hs => ?_⟩
    obtain ⟨j, hj, rfl⟩ := List.getElem_of_mem hs
    have hc := h.inv.count
    have hk : st.keys.length = st.went.length := List.length_map _
    exact hd j hj (by have : j < st.keys.length := hj; omega)
  | n + 1, i, st, hn, h, hd => by
    have hk : st.keys.length = st.went.length := List.length_map _
    rw [scanP]
    by_cases hi : i < st.went.length
    · rw [if_pos hi]
      obtain ⟨p1, p2, p3⟩ := pinvO hm ha hR hC h (i := i) (by omega)
      obtain ⟨q1, q2, q3⟩ := pinvP hm ha hR hC n (i + 1) _ (by omega) p1 (fun j hj hji => by
        obtain ⟨t, ht⟩ := id p2
        have hl : j < st.keys.length := by omega
        obtain ⟨_, e⟩ := p2.at hl
        rw [e]
        by_cases hj' : j = i
        · subst hj'; exact p3
        · exact (hd j hl (by omega)).grew p2)
      exact ⟨q1, p2.trans q2, q3⟩
    · rw [if_neg hi]
      refine ⟨h, Grew.refl _, fun s hs => ?_⟩
      obtain ⟨j, hj, rfl⟩ := List.getElem_of_mem hs
      exact hd j hj (by omega)

theorem pinvM {m : List Frg} {a : Nat} {R : List Spt} (hm : MemB m) (ha : a ≤ 1125899906842624) (hR : R.length ≤ 10000) : ∀ (roots : List Nat) (st : Mv), PInv m a R st → (∀ x ∈ roots, x < 18446744073709551616) → (∀ x ∈ roots, ∀ s, toP x = some s → s ∈ R) →
      PInv m a R (movesP m a roots st).2 ∧ Grew st (movesP m a roots st).2 ∧ (∀ x ∈ (movesP m a roots st).1, x < 18446744073709551616) ∧ (movesP m a roots st).1.length = roots.length ∧ ∀ x ∈ roots, ∀ s, toP x = some s → s ∈ (movesP m a roots st).2.keys
  | [], st, h, _, _ => ⟨h, Grew.refl _, (fun x hx => by cases hx), rfl, fun x hx => by cases hx⟩
  | y :: r, st, h, hb, hg => by
    obtain ⟨p1, p2, p3, p4⟩ := h.move hm ha hR (hb y List.mem_cons_self) (hg y List.mem_cons_self)
    obtain ⟨q1, q2, q3, q4, q5⟩ := pinvM hm ha hR r _ p1 (fun x hx => hb x (List.mem_cons_of_mem _ hx)) (fun x hx => hg x (List.mem_cons_of_mem _ hx))
    rw [movesP]
    refine ⟨q1, p3.trans q2, fun x hx => ?_, by simp only [List.length_cons, q4], fun x hx s hs => ?_⟩
    · rcases List.mem_cons.1 hx with rfl | hx
      · exact p2
      · exact q3 x hx
    · rcases List.mem_cons.1 hx with rfl | hx
      · exact q2.keys (p4 s hs)
      · exact q5 x hx s hs

/-- All that is reached has gone. -/
theorem all_gone {m : List Frg} {a : Nat} {R : List Spt} {roots : List Nat} (hm : MemB m) (ha : a ≤ 1125899906842624) (hR : R.length ≤ 10000) (hC : Closed m R) (hb : ∀ x ∈ roots, x < 18446744073709551616) (hg : ∀ x ∈ roots, ∀ s, toP x = some s → s ∈ R) :
    PInv m a R (scanP m a (R.length + 1) 0 (movesP m a roots ⟨[], []⟩).2) ∧ (∀ x ∈ (movesP m a roots ⟨[], []⟩).1, x < 18446744073709551616) ∧ (movesP m a roots ⟨[], []⟩).1.length = roots.length ∧
      ∀ s, Reach m roots s → s ∈ (scanP m a (R.length + 1) 0 (movesP m a roots ⟨[], []⟩).2).keys := by
  obtain ⟨p1, p2, p3, p4, p5⟩ := pinvM hm ha hR roots ⟨[], []⟩ (PInv.start m a R) hb hg
  obtain ⟨q1, q2, q3⟩ := pinvP hm ha hR hC (R.length + 1) 0 _ (by omega) p1 (fun j _ hj => by omega)
  refine ⟨q1, p3, p4, fun s hs => ?_⟩
  induction hs with
  | root hx ht _ => exact q2.keys (p5 _ hx _ ht)
  | step _ ho hx ht _ ih => exact q3 _ ih _ _ ho _ hx _ ht

end Go.Proofs.YtlmpmjhanpkcnaaGreat
