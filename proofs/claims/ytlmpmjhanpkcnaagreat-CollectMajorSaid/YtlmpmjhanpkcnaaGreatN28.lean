/-
  Collect: the handles of a mover's spots.
  Collect: sane.
  Collect: where Major's objects go.
  Collect: what right roots reach is closed.
  Collect: what a mover has done at the end, in plain words.
  Collect: all that is reached has gone, in plain words.
  Collect, plain: what stands where an object went.
  Collect, plain: behind a collection each object's words are its own, moved.
  Collect, plain: chapter 12's own reader and the program's read the same, where the regions are right: objects.
  Collect, plain: chapter 12's own reader and the program's read the same terms.
-/
import Derived.Test.YtlmpmjhanpkcnaaGreatN27
import Derived.Test.YtlmpmjhanpkcnaaGreatN24
import Derived.Test.YtlmpmjhanpkcnaaGreatN12
set_option linter.unusedVariables false
set_option linter.unusedSimpArgs false
namespace Go.Proofs.YtlmpmjhanpkcnaaGreat
open Go.RowKit Go.Maps

/-- Where the handles among some spots went. -/
def hsM (m : List Frg) (went : List (Spt × Nat)) (spots : List Spt) : List Int := spots.filterMap fun s => if ((objP m s.1 s.2).getD (0, [])).1 = 4 then some ((((wentAt went s).getD 0) / 8 : Nat) : Int) else none

theorem hsM_snoc (m : List Frg) (went : List (Spt × Nat)) (L : List Spt) (s : Spt) : hsM m went (L ++ [s]) = hsM m went L ++ (if ((objP m s.1 s.2).getD (0, [])).1 = 4 then [((((wentAt went s).getD 0) / 8 : Nat) : Int)] else []) := by
  unfold hsM
  rw [List.filterMap_append]
  congr 1
  by_cases h : ((objP m s.1 s.2).getD (0, [])).1 = 4 <;> simp [h]

theorem hsM_le (m : List Frg) (went : List (Spt × Nat)) (L : List Spt) : (hsM m went L).length ≤ L.length := List.length_filterMap_le _ _

def HandEnd (W0 : World) (Y : Nat) (mv : Value) (F : Nat) (caps : Array Value) (K : List (Nat × Obj)) (a : Nat) (out : List Int) (st : Mv) (w : World) (e : Ending) (w' : World) : Prop :=
  ∃ v, e = .returned v ∧ Below w.heap.size w w' ∧ w'.ownsRow w.heap.size 3 1 v out.length (csI out) ∧ MvSt W0 Y mv F caps (Kout v w' K) a st w' ∧ ∀ p ∈ K, v.ownBlock ≠ some p.1

set_option maxHeartbeats 16000000 in
set_option maxRecDepth 100000 in
theorem handlesM_any (Wm W0 : World) (Y : Nat) (m : List Frg) (mv : Value) (F : Nat) (caps : Array Value) (K : List (Nat × Obj)) (a : Nat) (st : Mv) (sv : Value) (spots : List Spt) (w : World) (E : MvEnv Wm W0 Y m mv F caps) (h : MvSt W0 Y mv F caps K a st w)
    (hsv : ∀ w', W0.grownBy w' (some Y) → (∀ p ∈ K, w'.heap[p.1]? = some p.2) → SpAt w' sv spots) (hok : ∀ s ∈ spots, (s.2 = 4 ∨ s.2 = 5) ∧ In64 s.1 ∧ (objP m s.1 s.2).isSome = true ∧ ∃ n, n ≤ 1125899907842624 ∧ wentAt st.went s = some (n * 8 + s.2.toNat)) (hl : spots.length ≤ 100000) :
    Calls Tryz.prog 31 #[.pointer (some ⟨W0.heap.size + 1, 0, none⟩), sv] w fun e w' => HandEnd W0 Y mv F caps K a (hsM m st.went spots) st w e w' := by
  have HE := Lib.hid E
  have HS := Lib.hid h
  have HSV := Lib.hid hsv
  have HOK := Lib.hid hok
  have hYh := E.yh
  obtain ⟨_, sa0, sc, hsve, _⟩ := hsv w h.base (fun p hp => h.kept hp)
  subst hsve
  obtain ⟨i0, hi, hz0, hz1, hz2⟩ := info_parts info3
  have hsz0 := h.sz
  clear E h hsv hok
  go_enter Tryz.func31, Tryz.ntmps31
  go_wp2_with fail
  go_loopw [5, 14] (fun o i wr => ∃ (k : Nat) (out : List Int) (od : Value), k ≤ spots.length ∧ i = .int .i64 k ∧ od = o ∧ Hid (hsM m st.went (spots.take k) = out) ∧ Hid (wr.ownsRow w.heap.size 3 1 od out.length (csI out)) ∧ Hid (MvSt W0 Y mv F caps (Kout od wr K) a st wr) ∧ Hid (∀ p ∈ K, od.ownBlock ≠ some p.1) ∧ Hid (Below w.heap.size w wr)) (fun _ i _ => spots.length - (intOf i).toNat)
  case atStart => exact ⟨0, [], _, by omega, rfl, rfl, Lib.hid rfl, Lib.hid (World.ownsRow_nil _ _ _ _), Lib.hid HS.out, Lib.hid (fun p _ e => by cases e), Lib.hid (Below.refl _ _)⟩
  case round =>
    obtain ⟨k, out, od, hk, rfl, hod, L1, L2, L3, L4, L5⟩ := hrel
    subst hod
    by_cases hlt : k < spots.length
    · obtain ⟨-, a', c', he, hsc⟩ := HSV.out wr L3.out.base (fun p hp => L3.out.kept (Kout_sub p hp))
      simp only [Value.slice.injEq, true_and] at he
      obtain ⟨rfl, rfl⟩ := he
      obtain ⟨gq, oq, rfl, k0, k1⟩ := hsc k hlt
      have p1 : (k : Int) < (spots.length : Int) := by omega
      have p2 : (0 : Int) ≤ (k : Int) := by omega
      have p5 : IntKind.i64.wrap ((k : Int) + 1) = (k : Int) + 1 := IntWalk.i64_in _ (by omega)
      have HTK := Lib.hid (List.take_succ_eq_append_getElem hlt)
      have HP1 := Lib.hid (HOK.out _ (List.getElem_mem hlt))
      obtain ⟨⟨sa, stt⟩, hss⟩ : ∃ s, spots[k] = s := ⟨_, rfl⟩
      rw [hss] at k0 k1 HTK HP1
      simp only at k0 k1
      obtain ⟨tn, rfl, htn⟩ : ∃ tn : Nat, stt = (tn : Int) ∧ (tn = 4 ∨ tn = 5) := by
        rcases HP1.out.1 with q | q
        · exact ⟨4, q, .inl rfl⟩
        · exact ⟨5, q, .inr rfl⟩
      have hin := HP1.out.2.1
      have HSO := Lib.hid (show SptOk (sa, (tn : Int)) from ⟨hin, by unfold In64; rcases htn with q | q <;> simp only <;> omega⟩)
      obtain ⟨n, hn1, hn2⟩ := HP1.out.2.2.2
      have HAT := Lib.hid hn2
      obtain ⟨kd, l, ho⟩ : ∃ k l, objP m sa (tn : Int) = some (k, l) := by
        obtain ⟨o, ho⟩ := Option.isSome_iff_exists.1 HP1.out.2.2.1
        exact ⟨o.1, o.2, ho⟩
      have HO := Lib.hid ho
      have hol : out.length ≤ k := by
        have := hsM_le m st.went (spots.take k)
        rw [L1.out, List.length_take] at this
        omega
      have HM := Lib.hid (show hsM m st.went (spots.take (k + 1)) = out ++ (if kd = 4 then [(n : Int)] else []) by
        rw [HTK.out, hsM_snoc, L1.out, HO.out, HAT.out]
        have e : (n * 8 + tn) / 8 = n := by omega
        simp only [Option.getD_some, Int.toNat_natCast, e])
      clear hin ho hss hsc hn2
      have X1 := World.alloc_heap_new wr (.cells #[.int .i64 sa, .int .i64 (tn : Int)] 63)
      have B1 := Below.alloc (Below.refl wr.heap.size wr) (Nat.le_refl _) (.cells #[.int .i64 sa, .int .i64 (tn : Int)] 63)
      have H1 := Lib.hid (L3.out.keep hYh B1 X1 (Nat.le_refl _))
      have HB4 := Lib.hid (L5.out.trans (B1.mono L5.out.size))
      go_upto_region 5 with fail
      obtain ⟨tb, htb⟩ : ∃ tb, wr.heap.size = tb := ⟨_, rfl⟩
      rw [htb] at H1 ⊢
      generalize wr.alloc (.cells #[.int .i64 sa, .int .i64 (tn : Int)] 63) = w4 at *
      clear B1 X1 k0 k1
      obtain ⟨K0, hK0⟩ : ∃ K0, Kout od wr K = K0 := ⟨_, rfl⟩
      have HK0 := Lib.hid hK0
      rw [hK0] at H1
      clear hK0
      obtain ⟨yv, qv, hmid4⟩ := H1.out.mid
      have HX4 := Lib.hid (show w4.heap[tb]? = some (.cells #[.int .i64 sa, .int .i64 (tn : Int)] 63 (0, 0)) from (hmid4.r6 (tb, _) List.mem_cons_self).1)
      have v0 := cell_of hmid4.r3 0
      have s0 := cell_of HX4.out 0
      have s1 := cell_of HX4.out 1
      simp at v0 s0 s1
      have HMEM := Lib.hid (fun V (hV : Below w4.heap.size w4 V) => HE.out.below ((H1.out.lift hYh hV).base))
      have HO1 := Lib.hid (show Calls Tryz.prog 60 #[mv, .agg #[.int .i64 sa, .int .i64 (tn : Int)]] w4.drew fun e w' => ObjEnd Wm (objP m sa (tn : Int)) e ∧ Below w4.drew.heap.size w4.drew w' from object_at m mv sa (tn : Int) Wm w4.drew HE.out.rs (HMEM.out _ (Below.refl _ _).drew) HSO.out.1)
      have HO2 := Lib.hid (show Calls Tryz.prog 60 #[mv, .agg #[.int .i64 sa, .int .i64 (tn : Int)]] (w4.alloc (.cells #[.int .i64 0, .slice none 0 0] 107)).drew fun e w' => ObjEnd Wm (objP m sa (tn : Int)) e ∧ Below (w4.alloc (.cells #[.int .i64 0, .slice none 0 0] 107)).drew.heap.size (w4.alloc (.cells #[.int .i64 0, .slice none 0 0] 107)).drew w' from object_at m mv sa (tn : Int) Wm _ HE.out.rs (HMEM.out _ ((Below.refl _ _).alloc (Nat.le_refl _) _).drew) HSO.out.1)
      have n1 := World.new_ne _ _ v0
      have n2 := World.new_ne _ _ s0
      have n3 := World.new_ne _ _ s1
      clear hmid4
      go_cut [8, 9] from 18 to 26 (fun p ok wx => ObjKut Wm w4 wx kd l p)
      case first =>
        go_region_held3 (fun w' => w'.cell? ⟨W0.heap.size + 1, 0, none⟩ = some mv ∧ w'.cell? ⟨tb, 0, none⟩ = some (.int .i64 sa) ∧ w'.cell? ⟨tb, 1, none⟩ = some (.int .i64 (tn : Int))) (first | exact ⟨v0, s0, s1⟩ | with_reducible exact ⟨d0, d1, d2⟩ | go_keep) (first
          | (go_at_call 60; (with_reducible refine HO2.out.mono ?_); rintro e w6 ⟨⟨k', v', l', ok, rfl, hws, hok, hp⟩, hb6⟩
             obtain ⟨rfl, rfl⟩ : kd = k' ∧ l = l' := by have := hp _ HO.out; cases this; exact ⟨rfl, rfl⟩
             obtain ⟨_, _, la, lc, rfl, _⟩ := id hws
             have hb7 : Below w4.heap.size w4 w6 := ((Below.refl w4.heap.size w4).alloc (Nat.le_refl _) _).drew.trans (hb6.mono (by simp))
             have d0 := (hb7.cell (World.block_lt_of_cell? _ _ v0)).trans v0
             have d1 := (hb7.cell (World.block_lt_of_cell? _ _ s0)).trans s0
             have d2 := (hb7.cell (World.block_lt_of_cell? _ _ s1)).trans s1
             have hh := held_new hb6
             have y0 := cell_of hh 0
             have y1 := cell_of hh 1
             have z0 := free_of hh 0
             have z1 := free_of hh 1
             simp at y0 y1
             have F9 := Lib.hid (show ObjKut Wm w4 ((w6.setCell ⟨w4.heap.size, 0, none⟩ (.int .i64 kd)).setCell ⟨w4.heap.size, 1, none⟩ (.slice la l.length lc)) kd l (.pointer (some ⟨w4.heap.size, 0, none⟩)) from ⟨_, _, rfl, (made_ahead hb6 (hws.below (HMEM.out _ hb7))).1, hws, Nat.le_refl _, (made_ahead hb6 (hws.below (HMEM.out _ hb7))).2.2⟩)
             clear hws hb6 hp hok hh)
          | (go_at_call 60; (with_reducible refine HO1.out.mono ?_); rintro e w6 ⟨⟨k', v', l', ok, rfl, hws, hok, hp⟩, hb6⟩
             obtain ⟨rfl, rfl⟩ : kd = k' ∧ l = l' := by have := hp _ HO.out; cases this; exact ⟨rfl, rfl⟩
             obtain ⟨_, _, la, lc, rfl, _⟩ := id hws
             have hb7 : Below w4.heap.size w4 w6 := (Below.refl w4.heap.size w4).drew.trans hb6
             have d0 := (hb7.cell (World.block_lt_of_cell? _ _ v0)).trans v0
             have d1 := (hb7.cell (World.block_lt_of_cell? _ _ s0)).trans s0
             have d2 := (hb7.cell (World.block_lt_of_cell? _ _ s1)).trans s1
             have hsz := hb7.size
             have F9 := Lib.hid (show ObjKut Wm w4 (w6.alloc (.cells #[.int .i64 kd, .slice la l.length lc] 107)) kd l (.pointer (some ⟨w6.heap.size, 0, none⟩)) from ⟨_, _, rfl, (made_behind hb6 (hws.below (HMEM.out _ hb7))).1, hws, hb7.size, (made_behind hb6 (hws.below (HMEM.out _ hb7))).2.2⟩)
             clear hws hb6 hp hok))
        all_goals go_wp2_with fail
        all_goals go_meet
        all_goals exact F9.out
      case rest =>
        obtain ⟨nb, ov, rfl, hnb, hws, hnw, hb5⟩ := hcut
        have H2 := Lib.hid (H1.out.keep hYh hb5 hnb hnw)
        have HB5 := Lib.hid (HB4.out.trans (hb5.mono HB4.out.size))
        clear hb5 v0 s0 s1 n1 n2 n3 HO1 HO2 HMEM hnb hws hnw HX4 H1
        have y0 := cell_of (H2.out.kept List.mem_cons_self) 0
        simp at y0
        by_cases h4 : kd = 4
        · subst h4
          obtain ⟨yv, qv, hmid5⟩ := H2.out.mid
          have HX5 := Lib.hid (show wc.heap[tb]? = some (.cells #[.int .i64 sa, .int .i64 (tn : Int)] 63 (0, 0)) from (hmid5.r6 (tb, _) (List.mem_cons_of_mem _ List.mem_cons_self)).1)
          have v1 := cell_of hmid5.r3 1
          have s0 := cell_of HX5.out 0
          have s1 := cell_of HX5.out 1
          simp at v1 s0 s1
          have hyb : n * 8 + tn < 18446744073709551616 := by omega
          have HLK := Lib.hid (fun V (hV : Below wc.heap.size wc V) => ((H2.out.lift hYh hV).map.look1 (s := (sa, (tn : Int))) HSO.out))
          have HTO := Lib.hid (show ∀ V, Calls Tryz.prog 59 #[.int .u64 ((n * 8 + tn : Nat) : Int)] V fun e w' => e = .returned (.tuple #[.agg #[.int .i64 (n : Int), .int .i64 (tn : Int)], .bool true]) ∧ Below V.heap.size V w' from fun V => (to_any (n * 8 + tn) hyb V).mono fun e w' q => ⟨by have := q.1; unfold ToEnd at this; rw [toP_mk htn (by omega)] at this; exact this, q.2⟩)
          have SK := Lib.hid (show ∀ V, Below wc.heap.size wc V → V.cell? ⟨W0.heap.size + 1, 1, none⟩ = some (.map (some W0.heap.size)) ∧ V.cell? ⟨tb, 0, none⟩ = some (.int .i64 sa) ∧ V.cell? ⟨tb, 1, none⟩ = some (.int .i64 (tn : Int)) ∧ (Instr.lookup 61 (.map (some W0.heap.size)) (spotV (sa, (tn : Int))) false).run Tryz.prog V = .ok (.int .u64 ((n * 8 + tn : Nat) : Int)) V from fun V hV =>
            ⟨(hV.cell (World.block_lt_of_cell? _ _ v1)).trans v1, (hV.cell (World.block_lt_of_cell? _ _ s0)).trans s0, (hV.cell (World.block_lt_of_cell? _ _ s1)).trans s1, by have := HLK.out V hV; rw [HAT.out] at this; simpa using this⟩)
          clear hmid5 HLK v1 s0 s1
          generalize hyy : n * 8 + tn = y at *
          have G0 := Lib.hid (SK.out wc (Below.refl _ _))
          have G1 := Lib.hid (SK.out wc.drew (Below.refl _ _).drew)
          have G2 := Lib.hid (SK.out (wc.alloc (.cells #[.int .i64 0, .int .i64 0] 63)) ((Below.refl _ _).alloc (Nat.le_refl _) _))
          have G3 := Lib.hid (SK.out (wc.alloc (.cells #[.int .i64 0, .int .i64 0] 63)).drew ((Below.refl _ _).alloc (Nat.le_refl _) _).drew)
          go_upto_region 7 with fail
          go_cut [10, 11] from 30 to 39 (fun p ok wx => SpCut wc wx (n : Int) (tn : Int) p ∧ ok = .bool true)
          case first =>
            go_region_held3 (fun w' => w'.cell? ⟨W0.heap.size + 1, 1, none⟩ = some (.map (some W0.heap.size)) ∧ w'.cell? ⟨tb, 0, none⟩ = some (.int .i64 sa) ∧ w'.cell? ⟨tb, 1, none⟩ = some (.int .i64 (tn : Int)) ∧ (Instr.lookup 61 (.map (some W0.heap.size)) (spotV (sa, (tn : Int))) false).run Tryz.prog w' = .ok (.int .u64 (y : Nat)) w') (first | with_reducible exact G0.out | with_reducible exact G1.out | with_reducible exact G2.out | with_reducible exact G3.out | with_reducible exact G6.out | with_reducible exact G7.out | with_reducible exact G8.out | go_keep) (first
              | (go_at_call 59; (with_reducible refine (HTO.out _).mono ?_); rintro e w6 ⟨rfl, hb6⟩
                 have hb7 : Below wc.heap.size wc w6 := ((Below.refl wc.heap.size wc).alloc (Nat.le_refl _) _).drew.trans (hb6.mono (by simp))
                 have hh := held_new hb6
                 have y0 := cell_of hh 0
                 have y1 := cell_of hh 1
                 have z0 := free_of hh 0
                 have z1 := free_of hh 1
                 simp at y0 y1
                 have F9 := Lib.hid (show SpCut wc ((w6.setCell ⟨wc.heap.size, 0, none⟩ (.int .i64 (n : Int))).setCell ⟨wc.heap.size, 1, none⟩ (.int .i64 (tn : Int))) (n : Int) (tn : Int) (.pointer (some ⟨wc.heap.size, 0, none⟩)) from spot_ahead hb6)
                 have G6 := Lib.hid (SK.out w6 hb7)
                 have G7 := Lib.hid (SK.out (w6.setCell ⟨wc.heap.size, 0, none⟩ (.int .i64 (n : Int))) (hb7.setCell (Nat.le_refl _) _))
                 have G8 := Lib.hid (SK.out ((w6.setCell ⟨wc.heap.size, 0, none⟩ (.int .i64 (n : Int))).setCell ⟨wc.heap.size, 1, none⟩ (.int .i64 (tn : Int))) ((hb7.setCell (Nat.le_refl _) _).setCell (Nat.le_refl _) _))
                 clear hb6 hh)
              | (go_at_call 59; (with_reducible refine (HTO.out _).mono ?_); rintro e w6 ⟨rfl, hb6⟩
                 have hb7 : Below wc.heap.size wc w6 := (Below.refl wc.heap.size wc).drew.trans hb6
                 have hsz := hb7.size
                 have G6 := Lib.hid (SK.out w6 hb7)
                 have G7 := Lib.hid (SK.out (w6.alloc (.cells #[.int .i64 0, .int .i64 0] 63)) (hb7.alloc hb7.size _))
                 have G8 := Lib.hid (SK.out (w6.alloc (.cells #[.int .i64 (n : Int), .int .i64 (tn : Int)] 63)) (hb7.alloc hb7.size _))
                 have F9 := Lib.hid (show SpCut wc (w6.alloc (.cells #[.int .i64 (n : Int), .int .i64 (tn : Int)] 63)) (n : Int) (tn : Int) (.pointer (some ⟨w6.heap.size, 0, none⟩)) from spot_behind hb6)
                 clear hb6))
            all_goals go_wp2_with fail
            all_goals go_meet
            all_goals exact ⟨F9.out, rfl⟩
          case rest =>
            obtain ⟨⟨xb, rfl, hxb, hxn, hbx⟩, rfl⟩ := hcut
            have H4 := Lib.hid (H2.out.keep hYh hbx hxb hxn)
            have HB7 := Lib.hid (HB5.out.trans (hbx.mono HB5.out.size))
            clear hbx hxb hxn G0 G1 G2 G3 SK HTO HX5 H2
            obtain ⟨yv, qv, hmid7⟩ := H4.out.mid
            have c1 := cell_of hmid7.r3 1
            have HX7 := H4.out.kept (p := (tb, Obj.cells #[.int .i64 sa, .int .i64 (tn : Int)] 63 (0, 0))) (List.mem_cons_of_mem _ (List.mem_cons_of_mem _ List.mem_cons_self))
            have e0 := cell_of HX7 0
            have e1 := cell_of HX7 1
            simp at c1 e0 e1
            have hlk0 : (Instr.lookup 61 (.map (some W0.heap.size)) (spotV (sa, (tn : Int))) false).run Tryz.prog wc = .ok (.int .u64 (y : Nat)) wc := by have := (H4.out.map.look1 (s := (sa, (tn : Int))) HSO.out); rw [HAT.out] at this; simpa [hyy] using this
            have hlk1 : (Instr.lookup 61 (.map (some W0.heap.size)) (spotV (sa, (tn : Int))) false).run Tryz.prog wc.drew = .ok (.int .u64 (y : Nat)) wc.drew := by have := ((H4.out.lift hYh (Below.refl wc.heap.size wc).drew).map.look1 (s := (sa, (tn : Int))) HSO.out); rw [HAT.out] at this; simpa [hyy] using this
            have hy0 : ((y : Int) == 0) = false := by simp; omega
            clear hmid7 HX7
            go_upto_region 8 with fail
            go_cut [50] from 40 to 50 (fun b wx => b = .bool false ∧ wc.drew = wx)
            case first =>
              go_region_held3 (fun w' => w'.cell? ⟨W0.heap.size + 1, 1, none⟩ = some (.map (some W0.heap.size)) ∧ w'.cell? ⟨tb, 0, none⟩ = some (.int .i64 sa) ∧ w'.cell? ⟨tb, 1, none⟩ = some (.int .i64 (tn : Int)) ∧ (Instr.lookup 61 (.map (some W0.heap.size)) (spotV (sa, (tn : Int))) false).run Tryz.prog w' = .ok (.int .u64 (y : Nat)) w') (first | exact ⟨c1, e0, e1, hlk0⟩ | exact ⟨c1, e0, e1, hlk1⟩ | go_keep) (fail)
              all_goals go_wp2_with fail
              all_goals go_meet
              all_goals exact ⟨rfl, rfl⟩
            case rest =>
              obtain ⟨rfl, rfl⟩ := hcut
              have H5 := Lib.hid (H4.out.lift hYh (Below.refl wc.heap.size wc).drew)
              have HB8 := Lib.hid (HB7.out.drew)
              clear hlk0 hlk1 c1 e0 e1 H4
              generalize wc.drew = wd at *
              have HK := Lib.hid (own_stays L2.out (fun p hp => H5.out.kept (List.mem_cons_of_mem _ (List.mem_cons_of_mem _ (List.mem_cons_of_mem _ (by rw [← HK0.out]; exact hp))))))
              have S5 := Lib.hid (show MvSt W0 Y mv F caps (Kout od wd K) a st wd from H5.out.less (fun p hp => List.mem_cons_of_mem _ (List.mem_cons_of_mem _ (List.mem_cons_of_mem _ (by rw [← HK0.out, ← HK.out.2]; exact hp)))))
              have x0 := cell_of (H5.out.kept List.mem_cons_self) 0
              simp at x0
              have hs6 := H5.out.sz
              have B7 := Lib.hid ((Below.refl wd.heap.size wd).alloc (Nat.le_refl _) (.cells #[.int .i64 (n : Int)] 3))
              have HM2 := Lib.hid (show hsM m st.went (spots.take (k + 1)) = out ++ [(n : Int)] by rw [HM.out, if_pos rfl])
              go_wp2_with (at_builtin; refine wpList_append_own_at _ rfl (.tmp 52) (.tmp 55) 26 rfl w.heap.size 3 i0 _ 1 8 Tryz.underlying26 hi hz0 hz1 hz2 rfl (by decide) _ out.length (csI out) rfl (World.ownsRow.alloc HK.out.1 _) _ 1 1 [.int .i64 (n : Int)] rfl rfl (fun i u hi => by
                  match i with
                  | 0 => simp at hi; subst hi; simp [Addr.add_lit]
                  | i + 1 => simp at hi) (fun u hu => by simp at hu; subst hu; rfl) (by unfold maxLen; omega) (by omega) (by have := HB8.out.size; simp; omega) ?_; intro v9 w9 hown9 hgrow9 _ hloc9
                           have O9 := Lib.hid (show w9.ownsRow w.heap.size 3 1 v9 (out ++ [(n : Int)]).length (csI (out ++ [(n : Int)])) by rw [csI_snoc, List.length_append]; exact hown9)
                           have AP := Lib.hid (S5.out.append hYh HK.out.1 hsz0 L4.out B7.out hgrow9 hown9 hloc9)
                           have HB9 := Lib.hid (HB8.out.trans (push_below HK.out.1 HB8.out.size hgrow9))
                           clear hown9 hgrow9 hloc9)
              go_roundw
              case rel => exact ⟨k + 1, _, v9, by omega, by go_num, rfl, HM2, O9, Lib.hid AP.out.1, Lib.hid AP.out.2, HB9⟩
              case measure => simp [intOf]; omega
        · have q4 : (kd == 4) = false := by simpa using h4
          have HK := Lib.hid (own_stays L2.out (fun p hp => H2.out.kept (List.mem_cons_of_mem _ (List.mem_cons_of_mem _ (by rw [← HK0.out]; exact hp)))))
          have HS9 := Lib.hid (show MvSt W0 Y mv F caps (Kout od wc K) a st wc from H2.out.less (fun p hp => List.mem_cons_of_mem _ (List.mem_cons_of_mem _ (by rw [← HK0.out, ← HK.out.2]; exact hp))))
          have HM2 := Lib.hid (show hsM m st.went (spots.take (k + 1)) = out by rw [HM.out, if_neg h4, List.append_nil])
          go_wp2_with fail
          go_roundw
          case rel => exact ⟨k + 1, out, od, by omega, by go_num, rfl, HM2, Lib.hid HK.out.1, HS9, L4, HB5⟩
          case measure => simp [intOf]; omega
    · obtain rfl : k = spots.length := by omega
      have p1 : ¬ (spots.length : Int) < (spots.length : Int) := by omega
      have HFI := Lib.hid (show hsM m st.went spots = out by have := L1.out; rwa [List.take_length] at this)
      go_wp2_with fail
      go_ret
      refine ⟨_, rfl, L5.out, ?_, L3.out, L4.out⟩
      rw [HFI.out]; exact L2.out

end Go.Proofs.YtlmpmjhanpkcnaaGreat

namespace Go.Proofs.YtlmpmjhanpkcnaaGreat
open Go.RowKit Go.Maps

def saneP (d : Dmp) (a : Int) : Bool := regionsP d && rootsP false [] d && decide (1 ≤ a) && decide (a ≤ 1125899906842624)

set_option maxHeartbeats 4000000 in
set_option maxRecDepth 100000 in
theorem sane_any (d : Dmp) (v : Value) (a : Int) (w : World) (hd : DmAt w v d) (hf : d.frags.length ≤ 100000) (hN : wordsN d.mem ≤ 5000) :
    Calls Tryz.prog 26 #[v, .int .i64 a] w fun e w' => e = .returned (.bool (saneP d a)) ∧ Below w.heap.size w w' := by
  have HD := Lib.hid hd
  obtain ⟨c0, c1, c2, c3, c6, c7, c8, rfl, -⟩ := hd
  obtain ⟨rp, hrp⟩ : ∃ rp, regionsP d = rp := ⟨_, rfl⟩
  obtain ⟨rr, hrr⟩ : ∃ rr, rootsP false [] d = rr := ⟨_, rfl⟩
  obtain ⟨b1, hb1⟩ : ∃ b1, decide (1 ≤ a) = b1 := ⟨_, rfl⟩
  obtain ⟨b2, hb2⟩ : ∃ b2, decide (a ≤ 1125899906842624) = b2 := ⟨_, rfl⟩
  have HRP := Lib.hid hrp
  have HRR := Lib.hid hrr
  have HSP := Lib.hid (show saneP d a = (rp && rr && b1 && b2) by unfold saneP; rw [hrp, hrr, hb1, hb2])
  rw [HSP.out]
  clear hrp hrr
  go_enter Tryz.func26, Tryz.ntmps26
  go_wp2_with fail
  have T := one_at w (.cells #[c0, c1, c2, c3, .int .i64 d.size, .int .i64 d.mark, c6, c7, c8] 28)
  generalize w.alloc (.cells #[c0, c1, c2, c3, .int .i64 d.size, .int .i64 d.mark, c6, c7, c8] 28) = W at *
  have X0 := Lib.hid T.1
  have XS := Lib.hid T.2.1
  have XB := Lib.hid T.2.2
  clear T
  refine (regions_any d _ W (HD.out.below XB.out) hf hN).mono ?_
  rw [HRP.out]
  rintro e w2 ⟨rfl, hb2'⟩
  have Y0 := Lib.hid ((hb2'.block w.heap.size (by have := XS.out; omega)).trans X0.out)
  have YB := Lib.hid (XB.out.trans (hb2'.mono XB.out.size))
  have y0 := cell_of Y0.out 0
  have y1 := cell_of Y0.out 1
  have y2 := cell_of Y0.out 2
  have y3 := cell_of Y0.out 3
  have y4 := cell_of Y0.out 4
  have y5 := cell_of Y0.out 5
  have y6 := cell_of Y0.out 6
  have y7 := cell_of Y0.out 7
  have y8 := cell_of Y0.out 8
  simp at y0 y1 y2 y3 y4 y5 y6 y7 y8
  clear hb2'
  cases rp
  · go_wp2_with fail
    go_ret
    exact ⟨rfl, YB.out⟩
  · go_wp2_with fail
    refine (roots_any false [] d _ _ w2 (HD.out.below YB.out) (slAt_nil _) hf).mono ?_
    rw [HRR.out]
    rintro e w3 ⟨rfl, hb3⟩
    have E := Lib.hid (YB.out.trans (hb3.mono YB.out.size))
    clear hb3
    cases rr
    · go_wp2_with fail
      go_ret
      exact ⟨rfl, E.out⟩
    · by_cases h1 : 1 ≤ a
      · by_cases h2 : a ≤ 1125899906842624
        · have q1 : decide (a ≥ 1) = true := by simpa using h1
          have q2 : decide (a ≤ 1125899906842624) = true := by simpa using h2
          have q3 : ¬ a < 1 := by omega
          go_wp2_with fail
          go_ret
          refine ⟨?_, E.out⟩
          simp_all
        · have q1 : decide (a ≥ 1) = true := by simpa using h1
          have q2 : decide (a ≤ 1125899906842624) = false := by simpa using h2
          go_wp2_with fail
          go_ret
          refine ⟨?_, E.out⟩
          simp_all
      · have q1 : decide (a ≥ 1) = false := by simp; omega
        go_wp2_with fail
        all_goals go_ret
        all_goals refine ⟨?_, E.out⟩
        all_goals simp_all

end Go.Proofs.YtlmpmjhanpkcnaaGreat

namespace Go.Proofs.YtlmpmjhanpkcnaaGreat
open Go.RowKit Go.Maps

theorem goes_major (s : Spt) (T Y : Nat) (W : World) (h : W.heap[T]? = some (.cells #[.pointer (some ⟨Y, 0, none⟩)] 57 (0, 0))) :
    Calls Tryz.prog 28 #[spotV s, .pointer (some ⟨T, 0, none⟩)] W fun e w' => e = .returned (.pointer (some ⟨Y, 0, none⟩)) ∧ Below W.heap.size W w' := by
  obtain ⟨sa, st⟩ := s
  have B := Lib.hid ((Below.refl W.heap.size W).alloc (Nat.le_refl _) (.cells #[.int .i64 sa, .int .i64 st] 63))
  have c0 := cell_of ((B.out.block T (lt_of_block h)).trans h) 0
  have c1 := cell_of h 0
  simp at c0 c1
  go_enter Tryz.func28, Tryz.ntmps28
  go_wp2_with fail
  go_ret
  exact ⟨rfl, B.out⟩

theorem enter_major : ∀ args w, (callFunc 28 args).run Tryz.prog w = .ok (.enter 28 args) w := by
  intro args w
  have hf : Tryz.prog.funcs[28]? = some Tryz.f28 := by kernel_rfl
  have h0 : (Tryz.f28.name == "runtime.NumGoroutine") = false := by kernel_rfl
  have h1 : Tryz.f28.name ≠ "runtime.NumGoroutine" := by simpa using h0
  obtain ⟨c, hb⟩ : ∃ c, Tryz.f28.body = some c := ⟨_, rfl⟩
  simp [callFunc, hf, h1, hb]

end Go.Proofs.YtlmpmjhanpkcnaaGreat

namespace Go.Proofs.YtlmpmjhanpkcnaaGreat
open Go.RowKit Go.Maps

/-- A word that stands for a term. -/
def Rd (m : List Frg) (x : Nat) : Prop := ∃ f left r, termP false [] m f left x = some r

theorem seqP_rd {m : List Frg} {f : Nat} : ∀ {L : List Nat} {left : Nat}, (seqP (termP false [] m f) left L).isSome = true → ∀ x ∈ L, Rd m x
  | [], _, _, x, hx => by cases hx
  | y :: r, left, h, x, hx => by
    rw [seqP] at h
    cases hg : termP false [] m f left y with
    | none => rw [hg] at h; cases h
    | some a =>
      rw [hg] at h
      simp only [Option.bind_some, Option.isSome_map] at h
      rcases List.mem_cons.1 hx with rfl | hx
      · exact ⟨f, left, a, hg⟩
      · exact seqP_rd h x hx

theorem toP_eq {x : Nat} {s : Spt} (h : toP x = some s) : plainP x = true ∧ (tagW x = 4 ∨ tagW x = 5) ∧ s = (loadW x, ((tagW x : Nat) : Int)) := by
  unfold toP at h
  split at h
  · rename_i q; cases h; exact ⟨q.1, q.2, rfl⟩
  · cases h

theorem rd_obj {m : List Frg} {x : Nat} {s : Spt} (h : Rd m x) (ht : toP x = some s) : ∃ k l, objP m s.1 s.2 = some (k, l) ∧ (k = 5 → (partP false [] m l).isSome = true) ∧ (k = 0 ∨ k = -1 → ∀ x' ∈ leadW k l, Rd m x') := by
  obtain ⟨f, left, r, hr⟩ := h
  obtain ⟨hp, htg, rfl⟩ := toP_eq ht
  cases f with
  | zero => cases hr
  | succ f =>
    rw [termP] at hr
    split at hr
    · cases hr
    · rw [if_neg (by omega), if_neg (by omega), if_neg (by omega), if_neg (by omega)] at hr
      obtain ⟨⟨k, l⟩, ho, hr⟩ := Option.bind_eq_some_iff.1 hr
      refine ⟨k, l, ho, fun hk => ?_, fun hk => ?_⟩
      · subst hk
        unfold objT at hr
        simp at hr
        obtain ⟨b, hb, _⟩ := Option.bind_eq_some_iff.1 hr
        rw [hb]; rfl
      · unfold objT at hr
        rw [if_neg (by simp only; omega), if_neg (by simp only; omega), if_neg (by simp only; omega), if_neg (by simp only; omega), if_neg (by simp only; omega)] at hr
        obtain ⟨q, hq, _⟩ := Option.map_eq_some_iff.1 hr
        simp only at hq
        exact seqP_rd (by rw [hq]; rfl)

def QSp (m : List Frg) (s : Spt) : Prop := (∃ x, toP x = some s ∧ Rd m x) ∨ ∃ k l, objP m s.1 s.2 = some (k, l) ∧ (k = 3 ∨ k = 4)

theorem QSp.ok {m : List Frg} {s : Spt} (h : QSp m s) : (objP m s.1 s.2).isSome = true := by
  rcases h with ⟨x, ht, hr⟩ | ⟨k, l, ho, _⟩
  · obtain ⟨k, l, ho, _⟩ := rd_obj hr ht; rw [ho]; rfl
  · rw [ho]; rfl

theorem leadW_none {k : Int} (l : List Nat) (h : k = 1 ∨ k = 2 ∨ k = 3 ∨ k = 4) : leadW k l = [] := by
  unfold leadW leadsP
  rw [if_neg (by omega), if_neg (by omega), if_neg (by omega)]
  simp

theorem leadW_five {l : List Nat} {x : Nat} (h : x ∈ leadW 5 l) : x = l.getD 1 0 := by
  unfold leadW leadsP at h
  simp at h
  match l, h with
  | _ :: y :: _, h => simp at h; simpa using h

theorem part_lead {m : List Frg} {l : List Nat} {s : Spt} (h : rightP m 5 l = true) (ht : toP (l.getD 1 0) = some s) (ho : (objP m s.1 s.2).isSome = true) : ∃ k l', objP m s.1 s.2 = some (k, l') ∧ (k = 3 ∨ k = 4) := by
  unfold rightP at h
  simp only [if_true] at h
  cases hl : lengthP m (l.getD 1 0) with
  | none => rw [hl] at h; simp at h
  | some n =>
    unfold lengthP at hl
    rw [ht] at hl
    simp only [Option.bind_some] at hl
    split at hl
    · rename_i h4
      obtain ⟨o, hh, hl⟩ := Option.bind_eq_some_iff.1 hl
      have ho' := ho
      unfold objP at ho' ⊢
      rw [if_neg (by omega), hh] at ho' ⊢
      simp only [Option.bind_some] at ho' ⊢
      split at ho'
      · rename_i hr
        rw [if_pos hr]
        refine ⟨o.1, o.2, rfl, ?_⟩
        split at hl
        · rename_i q; exact .inl q.1
        · split at hl
          · rename_i q; exact .inr q.1
          · cases hl
      · cases ho'
    · cases hl

theorem QSp.leads {m : List Frg} {s : Spt} (h : QSp m s) : ∃ k l, objP m s.1 s.2 = some (k, l) ∧ ∀ x ∈ leadW k l, ∀ s', toP x = some s' → QSp m s' := by
  rcases h with ⟨x, ht, hr⟩ | ⟨k, l, ho, hk⟩
  · obtain ⟨k, l, ho, h5, h0⟩ := rd_obj hr ht
    refine ⟨k, l, ho, fun x' hx' s' hs' => ?_⟩
    by_cases hk : k = 0 ∨ k = -1
    · exact .inl ⟨x', hs', h0 hk x' hx'⟩
    · rcases objP_ok ho with (⟨rfl, _⟩ | ⟨rfl, _⟩) | ⟨rfl, _⟩ | ⟨rfl, _⟩ | ⟨rfl, _⟩ | ⟨rfl, _⟩ | ⟨rfl, hr5⟩
      · omega
      · omega
      · rw [leadW_none l (by omega)] at hx'; cases hx'
      · rw [leadW_none l (by omega)] at hx'; cases hx'
      · rw [leadW_none l (by omega)] at hx'; cases hx'
      · rw [leadW_none l (by omega)] at hx'; cases hx'
      · have e := leadW_five hx'
        subst e
        have hp := h5 rfl
        refine .inr (part_lead hr5 hs' ?_)
        unfold partP at hp
        rw [hs'] at hp
        simp only at hp
        cases ho2 : objP m s'.1 s'.2 with
        | none => rw [ho2] at hp; cases hp
        | some o => rfl
  · exact ⟨k, l, ho, fun x' hx' => by rw [leadW_none l (by omega)] at hx'; cases hx'⟩

theorem Reach.q {m : List Frg} {roots : List Nat} (hr : ∀ x ∈ roots, Rd m x) {s : Spt} (h : Reach m roots s) : QSp m s := by
  induction h with
  | root hx ht _ => exact .inl ⟨_, ht, hr _ hx⟩
  | step _ ho hx ht _ ih =>
    obtain ⟨k, l, ho', hl⟩ := ih.leads
    rw [ho] at ho'
    cases ho'
    exact hl _ hx _ ht

theorem rd_roots {d : Dmp} (h : rootsP false [] d = true) : ∀ x ∈ d.roots, Rd d.mem x := by
  intro x hx
  unfold rootsP readsP at h
  rw [List.all_eq_true] at h
  have := h x hx
  unfold readP at this
  rw [Option.isSome_map] at this
  obtain ⟨r, hr⟩ := Option.isSome_iff_exists.1 this
  exact ⟨301, 300, r, hr⟩

theorem closed_of {m : List Frg} {roots : List Nat} {l : List Spt} (hr : ∀ x ∈ roots, Rd m x) (hl : ReachL m roots l) : Closed m l ∧ ∀ x ∈ roots, ∀ s, toP x = some s → s ∈ l := by
  refine ⟨fun s hs => ?_, fun x hx s ht => ?_⟩
  · have hq := Reach.q hr ((hl.2 s).1 hs)
    obtain ⟨k, ws, ho, hw⟩ := hq.leads
    exact ⟨k, ws, ho, fun x hx s' hs' => (hl.2 s').2 (.step ((hl.2 s).1 hs) ho hx hs' (hw x hx s' hs').ok)⟩
  · have hq : QSp m s := .inl ⟨x, ht, hr x hx⟩
    exact (hl.2 s).2 (.root hx ht hq.ok)

end Go.Proofs.YtlmpmjhanpkcnaaGreat

namespace Go.Proofs.YtlmpmjhanpkcnaaGreat
open Go.RowKit Go.Maps

def MemB (m : List Frg) : Prop := ∀ f ∈ m, ∀ x ∈ f.2, x < 18446744073709551616

theorem RsAt.bnd {w : World} {v : Value} {m : List Frg} (h : RsAt w v m) : MemB m := by
  intro f hf x hx
  obtain ⟨j, hj, rfl⟩ := List.getElem_of_mem hf
  obtain ⟨_, a, cap, _, hc⟩ := h
  obtain ⟨g, o, wa, wc, _, _, _, _, hw⟩ := hc j hj
  exact hw.2.1 x hx

theorem wordsP_bnd : ∀ {m : List Frg} {a n : Int} {l : List Nat}, MemB m → wordsP m a n = some l → ∀ x ∈ l, x < 18446744073709551616
  | [], _, _, _, _, h, _, _ => by cases h
  | f :: r, a, n, l, hm, h, x, hx => by
    unfold wordsP at h
    split at h
    · unfold cutP at h
      split at h
      · cases h
        exact hm f List.mem_cons_self x (List.mem_of_mem_drop (List.mem_of_mem_take hx))
      · cases h
    · exact wordsP_bnd (fun f' hf' => hm f' (List.mem_cons_of_mem _ hf')) h x hx

theorem objP_bnd {m : List Frg} (hm : MemB m) {a t k : Int} {l : List Nat} (h : objP m a t = some (k, l)) : ∀ x ∈ l, x < 18446744073709551616 := by
  unfold objP at h
  split at h
  · obtain ⟨q, hq, h⟩ := Option.bind_eq_some_iff.1 h
    split at h
    · cases h; exact wordsP_bnd hm hq
    · cases h
  · obtain ⟨o, ho, h⟩ := Option.bind_eq_some_iff.1 h
    split at h
    · cases h
      unfold headAt at ho
      obtain ⟨h1, _, ho⟩ := Option.bind_eq_some_iff.1 ho
      obtain ⟨h2, _, ho⟩ := Option.bind_eq_some_iff.1 ho
      obtain ⟨q, hq, ho⟩ := Option.map_eq_some_iff.1 ho
      cases ho
      exact wordsP_bnd hm hq
    · cases h

/-- A mover's keys. -/
def Mv.keys (st : Mv) : List Spt := st.went.map (·.1)

structure PInv (m : List Frg) (a : Nat) (R : List Spt) (st : Mv) : Prop where
  inv : MInv m a R st
  bw : ∀ p ∈ st.went, p.2 < 18446744073709551616
  bx : ∀ x ∈ st.words, x < 18446744073709551616

theorem PInv.start (m : List Frg) (a : Nat) (R : List Spt) : PInv m a R ⟨[], []⟩ := ⟨MInv.start m a R, (fun p h => by cases h), fun x h => by cases h⟩

/-- One state behind another. -/
def Grew (st st' : Mv) : Prop := ∃ t, st'.went = st.went ++ t

theorem Grew.refl (st : Mv) : Grew st st := ⟨[], by simp⟩
theorem Grew.trans {a b c : Mv} (h : Grew a b) (k : Grew b c) : Grew a c := by
  obtain ⟨t, e⟩ := h; obtain ⟨u, f⟩ := k; exact ⟨t ++ u, by rw [f, e, List.append_assoc]⟩
theorem Grew.keys {a b : Mv} (h : Grew a b) {s : Spt} (hs : s ∈ a.keys) : s ∈ b.keys := by
  obtain ⟨t, e⟩ := h; unfold Mv.keys at *; rw [e, List.map_append]; exact List.mem_append.2 (.inl hs)

theorem PInv.move {m : List Frg} {a : Nat} {R : List Spt} {st : Mv} (h : PInv m a R st) (hm : MemB m) (ha : a ≤ 1125899906842624) (hR : R.length ≤ 10000) {x : Nat} (hb : x < 18446744073709551616) (hx : ∀ s, toP x = some s → s ∈ R) :
    PInv m a R (moveP m a st x).2 ∧ (moveP m a st x).1 < 18446744073709551616 ∧ Grew st (moveP m a st x).2 ∧ ∀ s, toP x = some s → s ∈ (moveP m a st x).2.keys := by
  obtain ⟨h1, h2⟩ := h.inv.move hx
  have hw := h.inv.words
  refine ⟨⟨h1, ?_, ?_⟩, ?_, h2, ?_⟩ <;> clear h1 h2 <;> unfold moveP
  all_goals cases ht : toP x with
    | none => first | exact h.bw | exact h.bx | exact hb | (intro s hs; cases hs)
    | some s =>
      have htg := toP_tag ht
      simp only
      cases hw2 : wentAt st.went s with
      | some y =>
        have hy := h.bw _ (wentAt_mem hw2)
        have hk : s ∈ st.keys := by
          unfold Mv.keys
          exact List.mem_map_of_mem (f := (·.1)) (wentAt_mem hw2)
        first
          | exact h.bw
          | exact h.bx
          | exact hy
          | (intro s' hs'; cases hs'; exact hk)
      | none =>
        simp only
        first
          | (intro p hp
             rcases List.mem_append.1 hp with q | q
             · exact h.bw p q
             · simp at q; subst q; simp only; omega)
          | (intro p hp
             rcases List.mem_append.1 hp with q | q
             · exact h.bx p q
             · cases ho : objP m s.1 s.2 with
               | none => rw [ho] at q; cases q
               | some o => rw [ho] at q; exact objP_bnd hm (k := o.1) (l := o.2) ho p q)
          | omega
          | (intro s' hs'
             cases hs'
             unfold Mv.keys
             simp)

theorem PInv.set {m : List Frg} {a : Nat} {R : List Spt} {st : Mv} (h : PInv m a R st) (i : Nat) {x : Nat} (hx : x < 18446744073709551616) : PInv m a R ⟨st.went, st.words.set i x⟩ := by
  refine ⟨h.inv.set i x, h.bw, fun y hy => ?_⟩
  rcases List.mem_or_eq_of_mem_set hy with q | q
  · exact h.bx y q
  · rw [q]; exact hx

theorem PInv.scanK {m : List Frg} {a : Nat} {R : List Spt} (hm : MemB m) (ha : a ≤ 1125899906842624) (hR : R.length ≤ 10000) (base : Nat) (l : List Nat) (hl : ∀ x ∈ l, x < 18446744073709551616) :
    ∀ (n k : Nat) (st : Mv), PInv m a R st → (∀ j, k ≤ j → j < k + n → ∀ s, toP (l.getD j 0) = some s → s ∈ R) →
      PInv m a R (scanK m a base l n k st) ∧ Grew st (scanK m a base l n k st) ∧ ∀ j, k ≤ j → j < k + n → ∀ s, toP (l.getD j 0) = some s → s ∈ (scanK m a base l n k st).keys
  | 0, k, st, h, hg => ⟨h, Grew.refl _, fun j h1 h2 => by omega⟩
  | n + 1, k, st, h, hg => by
    have hb : l.getD k 0 < 18446744073709551616 := by
      rw [List.getD_eq_getElem?_getD]
      cases hk : l[k]? with
      | none => simp
      | some y => exact hl y (List.mem_of_getElem? hk)
    obtain ⟨p1, p2, p3, p4⟩ := h.move hm ha hR hb (hg k (Nat.le_refl _) (by omega))
    obtain ⟨q1, q2, q3⟩ := PInv.scanK hm ha hR base l hl n (k + 1) _ (p1.set (base + k) p2) (fun j h1 h2 => hg j (by omega) (by omega))
    rw [Proofs.YtlmpmjhanpkcnaaGreat.scanK]
    refine ⟨q1, Grew.trans (show Grew st ⟨(moveP m a st (l.getD k 0)).2.went, _⟩ from p3) q2, fun j h1 h2 s hs => ?_⟩
    by_cases e : j = k
    · subst e; exact q2.keys (p4 s hs)
    · exact q3 j (by omega) (by omega) s hs

end Go.Proofs.YtlmpmjhanpkcnaaGreat

namespace Go.Proofs.YtlmpmjhanpkcnaaGreat
open Go.RowKit Go.Maps

theorem lead_get {m : List Frg} {k : Int} {l : List Nat} (h : ObjOK m k l) : ∃ fr tt : Nat, leadsP k l.length = ((fr : Int), (tt : Int)) ∧ fr ≤ tt ∧ tt ≤ l.length ∧ (∀ j, fr ≤ j → j < tt → l.getD j 0 ∈ leadW k l) ∧ ∀ x ∈ leadW k l, ∃ j, fr ≤ j ∧ j < tt ∧ l.getD j 0 = x := by
  obtain ⟨fr, tt, h1, h2, h3, h4, _, _⟩ := lead_nat h
  refine ⟨fr, tt, h1, h2, h3, fun j hj1 hj2 => ?_, fun x hx => ?_⟩
  · rw [h4, List.mem_iff_getElem?]
    refine ⟨j - fr, ?_⟩
    rw [List.getElem?_take, if_pos (by omega), List.getElem?_drop, show fr + (j - fr) = j by omega, List.getD_eq_getElem?_getD, List.getElem?_eq_getElem (by omega)]
    rfl
  · rw [h4, List.mem_iff_getElem?] at hx
    obtain ⟨i, hi⟩ := hx
    rw [List.getElem?_take] at hi
    split at hi
    · rw [List.getElem?_drop] at hi
      refine ⟨fr + i, by omega, by omega, ?_⟩
      rw [List.getD_eq_getElem?_getD, hi]; rfl
    · cases hi

/-- All that an object leads to has gone. -/
def Done (m : List Frg) (st : Mv) (s : Spt) : Prop := ∀ k l, objP m s.1 s.2 = some (k, l) → ∀ x ∈ leadW k l, ∀ s', toP x = some s' → s' ∈ st.keys

theorem pinvO {m : List Frg} {a : Nat} {R : List Spt} (hm : MemB m) (ha : a ≤ 1125899906842624) (hR : R.length ≤ 10000) (hC : Closed m R) {st : Mv} (h : PInv m a R st) {i : Nat} (hi : i < st.keys.length) :
    PInv m a R (scanO m a st i) ∧ Grew st (scanO m a st i) ∧ Done m (scanO m a st i) st.keys[i] := by
  have hs : st.keys[i] ∈ R := h.inv.sub _ (List.getElem_mem hi)
  obtain ⟨k, l, ho, hl⟩ := hC _ hs
  obtain ⟨fr, tt, h1, h2, h3, h4, h5⟩ := lead_get (objP_ok ho)
  have hg : (st.went.map (·.1)).getD i (0, 0) = st.keys[i] := by
    unfold Mv.keys at hi ⊢
    rw [List.getD_eq_getElem?_getD, List.getElem?_eq_getElem hi]; rfl
  have e : scanO m a st i = scanK m a (sumP (lenO m) ((st.went.map (·.1)).take i)) l (tt - fr) fr st := by
    unfold scanO
    rw [hg, ho]
    simp only [h1]
    congr 1 <;> omega
  obtain ⟨q1, q2, q3⟩ := PInv.scanK hm ha hR (sumP (lenO m) ((st.went.map (·.1)).take i)) l (objP_bnd hm ho) (tt - fr) fr st h (fun j hj1 hj2 s hs' => hl _ (h4 j hj1 (by omega)) s hs')
  rw [e]
  refine ⟨q1, q2, fun k' l' ho' x hx s' hs' => ?_⟩
  rw [ho] at ho'
  cases ho'
  obtain ⟨j, hj1, hj2, rfl⟩ := h5 x hx
  exact q3 j hj1 (by omega) s' hs'

theorem Done.grew {m : List Frg} {a b : Mv} {s : Spt} (h : Done m a s) (hg : Grew a b) : Done m b s := fun k l ho x hx s' hs' => hg.keys (h k l ho x hx s' hs')

theorem Grew.at {a b : Mv} (h : Grew a b) {i : Nat} (hi : i < a.keys.length) : ∃ hb : i < b.keys.length, b.keys[i] = a.keys[i] := by
  obtain ⟨t, e⟩ := h
  have e2 : b.keys = a.keys ++ t.map (·.1) := by unfold Mv.keys; rw [e, List.map_append]
  refine ⟨by rw [e2, List.length_append]; omega, ?_⟩
  simp only [e2]
  exact List.getElem_append_left hi

theorem pinvP {m : List Frg} {a : Nat} {R : List Spt} (hm : MemB m) (ha : a ≤ 1125899906842624) (hR : R.length ≤ 10000) (hC : Closed m R) :
    ∀ (n i : Nat) (st : Mv), R.length + 1 ≤ n + i → PInv m a R st → (∀ j (hj : j < st.keys.length), j < i → Done m st st.keys[j]) →
      PInv m a R (scanP m a n i st) ∧ Grew st (scanP m a n i st) ∧ ∀ s ∈ (scanP m a n i st).keys, Done m (scanP m a n i st) s
  | 0, i, st, hn, h, hd => by
    refine ⟨h, Grew.refl _, fun s hs => ?_⟩
    obtain ⟨j, hj, rfl⟩ := List.getElem_of_mem hs
    have hc := h.inv.count
    have hk : st.keys.length = st.went.length := List.length_map _
    exact hd j hj (by have : j < st.keys.length := hj; omega)
  | n + 1, i, st, hn, h, hd => by
    have hk : st.keys.length = st.went.length := List.length_map _
    rw [scanP]
    by_cases hi : i < st.went.length
    · rw [if_pos hi]
      obtain ⟨p1, p2, p3⟩ := pinvO hm ha hR hC h (i := i) (by omega)
      obtain ⟨q1, q2, q3⟩ := pinvP hm ha hR hC n (i + 1) _ (by omega) p1 (fun j hj hji => by
        obtain ⟨t, ht⟩ := id p2
        have hl : j < st.keys.length := by omega
        obtain ⟨_, e⟩ := p2.at hl
        rw [e]
        by_cases hj' : j = i
        · subst hj'; exact p3
        · exact (hd j hl (by omega)).grew p2)
      exact ⟨q1, p2.trans q2, q3⟩
    · rw [if_neg hi]
      refine ⟨h, Grew.refl _, fun s hs => ?_⟩
      obtain ⟨j, hj, rfl⟩ := List.getElem_of_mem hs
      exact hd j hj (by omega)

theorem pinvM {m : List Frg} {a : Nat} {R : List Spt} (hm : MemB m) (ha : a ≤ 1125899906842624) (hR : R.length ≤ 10000) : ∀ (roots : List Nat) (st : Mv), PInv m a R st → (∀ x ∈ roots, x < 18446744073709551616) → (∀ x ∈ roots, ∀ s, toP x = some s → s ∈ R) →
      PInv m a R (movesP m a roots st).2 ∧ Grew st (movesP m a roots st).2 ∧ (∀ x ∈ (movesP m a roots st).1, x < 18446744073709551616) ∧ (movesP m a roots st).1.length = roots.length ∧ ∀ x ∈ roots, ∀ s, toP x = some s → s ∈ (movesP m a roots st).2.keys
  | [], st, h, _, _ => ⟨h, Grew.refl _, (fun x hx => by cases hx), rfl, fun x hx => by cases hx⟩
  | y :: r, st, h, hb, hg => by
    obtain ⟨p1, p2, p3, p4⟩ := h.move hm ha hR (hb y List.mem_cons_self) (hg y List.mem_cons_self)
    obtain ⟨q1, q2, q3, q4, q5⟩ := pinvM hm ha hR r _ p1 (fun x hx => hb x (List.mem_cons_of_mem _ hx)) (fun x hx => hg x (List.mem_cons_of_mem _ hx))
    rw [movesP]
    refine ⟨q1, p3.trans q2, fun x hx => ?_, by simp only [List.length_cons, q4], fun x hx s hs => ?_⟩
    · rcases List.mem_cons.1 hx with rfl | hx
      · exact p2
      · exact q3 x hx
    · rcases List.mem_cons.1 hx with rfl | hx
      · exact q2.keys (p4 s hs)
      · exact q5 x hx s hs

/-- All that is reached has gone. -/
theorem all_gone {m : List Frg} {a : Nat} {R : List Spt} {roots : List Nat} (hm : MemB m) (ha : a ≤ 1125899906842624) (hR : R.length ≤ 10000) (hC : Closed m R) (hb : ∀ x ∈ roots, x < 18446744073709551616) (hg : ∀ x ∈ roots, ∀ s, toP x = some s → s ∈ R) :
    PInv m a R (scanP m a (R.length + 1) 0 (movesP m a roots ⟨[], []⟩).2) ∧ (∀ x ∈ (movesP m a roots ⟨[], []⟩).1, x < 18446744073709551616) ∧ (movesP m a roots ⟨[], []⟩).1.length = roots.length ∧
      ∀ s, Reach m roots s → s ∈ (scanP m a (R.length + 1) 0 (movesP m a roots ⟨[], []⟩).2).keys := by
  obtain ⟨p1, p2, p3, p4, p5⟩ := pinvM hm ha hR roots ⟨[], []⟩ (PInv.start m a R) hb hg
  obtain ⟨q1, q2, q3⟩ := pinvP hm ha hR hC (R.length + 1) 0 _ (by omega) p1 (fun j _ hj => by omega)
  refine ⟨q1, p3, p4, fun s hs => ?_⟩
  induction hs with
  | root hx ht _ => exact q2.keys (p5 _ hx _ ht)
  | step _ ho hx ht _ ih => exact q3 _ ih _ _ ho _ hx _ ht

end Go.Proofs.YtlmpmjhanpkcnaaGreat

namespace Go.Proofs.YtlmpmjhanpkcnaaGreat
open Go.RowKit Go.Maps

/-- A word that leads to where its object went, once all have gone. -/
def phi (W : List (Spt × Nat)) (x : Nat) : Nat := match toP x with
  | none => x
  | some s => (wentAt W s).getD x

theorem phi_none {W : List (Spt × Nat)} {x : Nat} (h : toP x = none) : phi W x = x := by unfold phi; rw [h]
theorem phi_some {W : List (Spt × Nat)} {x y : Nat} {s : Spt} (h : toP x = some s) (hw : wentAt W s = some y) : phi W x = y := by unfold phi; rw [h]; simp only; rw [hw]; rfl

theorem wentAt_append {W T : List (Spt × Nat)} {s : Spt} {y : Nat} (h : wentAt W s = some y) : wentAt (W ++ T) s = some y := by
  induction W with
  | nil => cases h
  | cons p r ih =>
    obtain ⟨u, z⟩ := p
    simp only [List.cons_append, wentAt] at h ⊢
    split
    · rename_i e; rw [if_pos e] at h; exact h
    · rename_i e; rw [if_neg e] at h; exact ih h

theorem wentAt_key {W : List (Spt × Nat)} {s : Spt} (h : s ∈ W.map (·.1)) : ∃ y, wentAt W s = some y := by
  cases hw : wentAt W s with
  | some y => exact ⟨y, rfl⟩
  | none => exact absurd h (wentAt_none.1 hw)

theorem phi_grew {st st' : Mv} (h : Grew st st') {x : Nat} (hk : ∀ s, toP x = some s → s ∈ st.keys) : phi st'.went x = phi st.went x := by
  obtain ⟨t, e⟩ := h
  cases ht : toP x with
  | none => rw [phi_none ht, phi_none ht]
  | some s =>
    obtain ⟨y, hy⟩ := wentAt_key (hk s ht)
    rw [phi_some ht hy, phi_some ht (by rw [e]; exact wentAt_append hy)]

theorem move_phi {m : List Frg} {a : Nat} {st : Mv} (x : Nat) : (moveP m a st x).1 = phi (moveP m a st x).2.went x := by
  cases ht : toP x with
  | none => rw [moveP_none ht, phi_none ht]
  | some s =>
    cases hw : wentAt st.went s with
    | some y => rw [moveP_old ht hw, phi_some ht hw]
    | none =>
      unfold moveP
      rw [ht]
      simp only
      rw [hw]
      simp only
      rw [phi_some (y := (a + st.words.length) * 8 + s.2.toNat) ht]
      rw [wentAt_snoc, hw]
      simp

/-- Where an object's words begin. -/
def Mv.base (m : List Frg) (st : Mv) (j : Nat) : Nat := sumP (lenO m) (st.keys.take j)

theorem Grew.base {m : List Frg} {a b : Mv} (h : Grew a b) {j : Nat} (hj : j ≤ a.keys.length) : b.base m j = a.base m j := by
  obtain ⟨t, e⟩ := h
  have e2 : b.keys = a.keys ++ t.map (·.1) := by unfold Mv.keys; rw [e, List.map_append]
  unfold Mv.base
  rw [e2, List.take_append_of_le_length hj]

theorem base_step {m : List Frg} {st : Mv} {j : Nat} (hj : j < st.keys.length) : st.base m (j + 1) = st.base m j + lenO m st.keys[j] := by
  unfold Mv.base
  rw [List.take_succ_eq_append_getElem hj]
  simp only [sumP, List.map_append, List.sum_append, List.map_cons, List.map_nil, List.sum_cons, List.sum_nil, Nat.add_zero]

theorem base_mono {m : List Frg} {st : Mv} : ∀ {i j : Nat}, i ≤ j → st.base m i ≤ st.base m j := by
  intro i j h
  unfold Mv.base
  have : st.keys.take j = (st.keys.take j).take i ++ (st.keys.take j).drop i := (List.take_append_drop i _).symm
  rw [List.take_take, Nat.min_eq_left h] at this
  rw [this]
  simp only [sumP, List.map_append, List.sum_append]
  omega

theorem base_room {m : List Frg} {a : Nat} {R : List Spt} {st : Mv} (h : MInv m a R st) {j : Nat} (hj : j < st.keys.length) : st.base m j + lenO m st.keys[j] ≤ st.words.length := by
  rw [← base_step hj, h.len]
  have h1 := base_mono (m := m) (st := st) (show j + 1 ≤ st.keys.length by omega)
  have h2 : st.base m st.keys.length = sumP (lenO m) st.keys := by unfold Mv.base; rw [List.take_length]
  rw [h2] at h1
  exact h1

theorem base_apart {m : List Frg} {st : Mv} {i j t u : Nat} (hi : i < st.keys.length) (hj : j < st.keys.length) (ht : t < lenO m st.keys[i]) (hu : u < lenO m st.keys[j]) (h : st.base m i + t = st.base m j + u) : i = j ∧ t = u := by
  have e : i = j := by
    rcases Nat.lt_trichotomy i j with q | q | q
    · have h1 := base_mono (m := m) (st := st) (show i + 1 ≤ j by omega)
      rw [base_step hi] at h1
      omega
    · exact q
    · have h1 := base_mono (m := m) (st := st) (show j + 1 ≤ i by omega)
      rw [base_step hj] at h1
      omega
  subst e
  exact ⟨rfl, by omega⟩

/-- The words of an object, of which those up to a place have been moved. -/
def imgP (W : List (Spt × Nat)) (k : Int) (l : List Nat) (lim : Nat) : List Nat := l.mapIdx fun t x => if (leadsP k l.length).1.toNat ≤ t ∧ t < lim then phi W x else x

def Cont (m : List Frg) (st : Mv) (j lim : Nat) : Prop := ∀ (hj : j < st.keys.length) (k : Int) (l : List Nat), objP m st.keys[j].1 st.keys[j].2 = some (k, l) →
  (∀ t, t < l.length → st.words[st.base m j + t]? = (imgP st.went k l lim)[t]?) ∧ ∀ t, (leadsP k l.length).1.toNat ≤ t → t < lim → t < l.length → ∀ s, toP (l.getD t 0) = some s → s ∈ st.keys

theorem img_at {W : List (Spt × Nat)} {k : Int} {l : List Nat} {lim t : Nat} (ht : t < l.length) : (imgP W k l lim)[t]? = some (if (leadsP k l.length).1.toNat ≤ t ∧ t < lim then phi W l[t] else l[t]) := by
  unfold imgP
  rw [List.getElem?_mapIdx, List.getElem?_eq_getElem ht]
  rfl

theorem len_obj {m : List Frg} {s : Spt} {k : Int} {l : List Nat} (h : objP m s.1 s.2 = some (k, l)) : lenO m s = l.length := by unfold lenO; rw [h]; rfl

theorem Cont.move {m : List Frg} {a : Nat} {R : List Spt} {st : Mv} (hI : MInv m a R st) {x : Nat} (hx : ∀ s, toP x = some s → s ∈ R) {j lim : Nat} (h : j < st.keys.length → Cont m st j lim) (hnew : ¬ j < st.keys.length → lim = 0) : Cont m (moveP m a st x).2 j lim := by
  have hm := hI.move hx
  have hg : Grew st (moveP m a st x).2 := hm.2
  intro hj k l ho
  by_cases hjo : j < st.keys.length
  · obtain ⟨hb, hk⟩ := hg.at hjo
    rw [hk] at ho
    obtain ⟨c1, c2⟩ := h hjo hjo k l ho
    rw [hg.base (by omega)]
    refine ⟨fun t ht => ?_, fun t h1 h2 h3 s hs => hg.keys (c2 t h1 h2 h3 s hs)⟩
    have hroom := base_room hI hjo
    rw [len_obj ho] at hroom
    have hw : (moveP m a st x).2.words[st.base m j + t]? = st.words[st.base m j + t]? := by
      unfold moveP
      cases toP x with
      | none => rfl
      | some s =>
        simp only
        cases wentAt st.went s with
        | some y => rfl
        | none => simp only; rw [List.getElem?_append_left (by omega)]
    rw [hw, c1 t ht, img_at ht, img_at ht]
    split
    · rename_i q
      rw [phi_grew hg]
      intro s hs
      exact c2 t q.1 q.2 ht s (by rw [List.getD_eq_getElem?_getD, List.getElem?_eq_getElem ht]; exact hs)
    · rfl
  · have hl := hnew hjo
    subst hl
    -- the object that was just copied
    refine ⟨fun t ht => ?_, fun t h1 h2 => by omega⟩
    rw [img_at ht, if_neg (by omega)]
    cases htp : toP x with
    | none => rw [moveP_none htp] at hj; exact absurd hj hjo
    | some s =>
      cases hw : wentAt st.went s with
      | some y => rw [moveP_old htp hw] at hj; exact absurd hj hjo
      | none =>
        have e : (moveP m a st x).2 = ⟨st.went ++ [(s, (a + st.words.length) * 8 + s.2.toNat)], st.words ++ ((objP m s.1 s.2).getD (0, [])).2⟩ := by unfold moveP; rw [htp]; simp only; rw [hw]
        have ek : (moveP m a st x).2.keys = st.keys ++ [s] := by rw [e]; simp [Mv.keys]
        have hj2 : j = st.keys.length := by rw [ek, List.length_append] at hj; simp at hj; omega
        have es : (moveP m a st x).2.keys[j] = s := by
          simp only [ek]
          subst hj2
          simp
        rw [es] at ho
        have hb : (moveP m a st x).2.base m j = st.words.length := by
          unfold Mv.base
          rw [ek, hj2, List.take_append_of_le_length (Nat.le_refl _), List.take_length, hI.len]
          rfl
        rw [hb, e]
        simp only
        rw [ho, List.getElem?_append_right (by omega)]
        simp only [Option.getD_some]
        rw [show st.words.length + t - st.words.length = t by omega, List.getElem?_eq_getElem ht]

theorem Cont.set {m : List Frg} {st : Mv} {i k : Nat} {w : Nat} {j lim : Nat} (hi : i < st.keys.length) (hk : k < lenO m st.keys[i]) (hne : j ≠ i) (h : Cont m st j lim) : Cont m ⟨st.went, st.words.set (st.base m i + k) w⟩ j lim := by
  intro hj kd l ho
  obtain ⟨c1, c2⟩ := h hj kd l ho
  refine ⟨fun t ht => ?_, c2⟩
  have : (⟨st.went, st.words.set (st.base m i + k) w⟩ : Mv).base m j = st.base m j := rfl
  rw [this]
  show (st.words.set (st.base m i + k) w)[st.base m j + t]? = _
  rw [List.getElem?_set_ne]
  · exact c1 t ht
  · intro e
    exact hne (base_apart hj hi (by rw [len_obj ho]; exact ht) hk e.symm).1

theorem Cont.setHere {m : List Frg} {a : Nat} {R : List Spt} {st : Mv} (hI : MInv m a R st) {i k : Nat} (hi : i < st.keys.length) {kd : Int} {l : List Nat} (ho : objP m st.keys[i].1 st.keys[i].2 = some (kd, l)) (hk : k < l.length) (hfr : (leadsP kd l.length).1.toNat ≤ k)
    (h : Cont m st i k) (hx : ∀ s, toP (l.getD k 0) = some s → s ∈ st.keys) : Cont m ⟨st.went, st.words.set (st.base m i + k) (phi st.went (l.getD k 0))⟩ i (k + 1) := by
  intro hj kd' l' ho'
  have e : (kd', l') = (kd, l) := by
    have : some (kd', l') = some (kd, l) := by rw [← ho']; exact ho
    exact Option.some.inj this
  cases e
  obtain ⟨c1, c2⟩ := h hi kd l ho
  have hroom := base_room hI hi
  rw [len_obj ho] at hroom
  refine ⟨fun t ht => ?_, fun t h1 h2 h3 s hs => ?_⟩
  · show (st.words.set (st.base m i + k) (phi st.went (l.getD k 0)))[st.base m i + t]? = _
    rw [img_at ht]
    by_cases e : t = k
    · subst e
      rw [List.getElem?_set_self (by omega), if_pos ⟨hfr, by omega⟩, List.getD_eq_getElem?_getD, List.getElem?_eq_getElem ht]
      rfl
    · rw [List.getElem?_set_ne (by omega), c1 t ht, img_at ht]
      by_cases q : (leadsP kd l.length).1.toNat ≤ t ∧ t < k
      · rw [if_pos q, if_pos ⟨q.1, by omega⟩]
      · rw [if_neg q, if_neg (by omega)]
  · by_cases e : t = k
    · subst e; exact hx s hs
    · exact c2 t h1 (by omega) h3 s hs

end Go.Proofs.YtlmpmjhanpkcnaaGreat

namespace Go.Proofs.YtlmpmjhanpkcnaaGreat
open Go.RowKit Go.Maps

theorem key_at {st : Mv} {i : Nat} {s : Spt} (h : st.keys[i]? = some s) : ∃ hi : i < st.keys.length, st.keys[i] = s := List.getElem?_eq_some_iff.1 h

theorem Grew.key {a b : Mv} (h : Grew a b) {i : Nat} {s : Spt} (hs : a.keys[i]? = some s) : b.keys[i]? = some s := by
  obtain ⟨hi, e⟩ := key_at hs
  obtain ⟨hb, e2⟩ := h.at hi
  rw [List.getElem?_eq_getElem hb, e2, e]

theorem scanK_cont {m : List Frg} {a : Nat} {R : List Spt} {i : Nat} {s : Spt} {kd : Int} {l : List Nat} (ho : objP m s.1 s.2 = some (kd, l)) (L : Nat → Nat) (hL : ∀ j, i < j → L j = 0) :
    ∀ (n k : Nat) (st : Mv), MInv m a R st → st.keys[i]? = some s → (leadsP kd l.length).1.toNat ≤ k → k + n ≤ l.length → (∀ j, j ≠ i → Cont m st j (L j)) → Cont m st i k → (∀ t, k ≤ t → t < k + n → ∀ s', toP (l.getD t 0) = some s' → s' ∈ R) →
      MInv m a R (scanK m a (st.base m i) l n k st) ∧ Grew st (scanK m a (st.base m i) l n k st) ∧ (∀ j, j ≠ i → Cont m (scanK m a (st.base m i) l n k st) j (L j)) ∧ Cont m (scanK m a (st.base m i) l n k st) i (k + n)
  | 0, k, st, hI, hs, hfr, hn, hc, hci, hg => ⟨hI, Grew.refl _, hc, hci⟩
  | n + 1, k, st, hI, hs, hfr, hn, hc, hci, hg => by
    have hgk := hg k (Nat.le_refl _) (by omega)
    obtain ⟨hI1, hG1⟩ := hI.move hgk
    have hG1 : Grew st (moveP m a st (l.getD k 0)).2 := hG1
    obtain ⟨hi, es⟩ := key_at hs
    have hs1 := hG1.key hs
    obtain ⟨hi1, es1⟩ := key_at hs1
    have hb : (moveP m a st (l.getD k 0)).2.base m i = st.base m i := hG1.base (by omega)
    have ho1 : objP m (moveP m a st (l.getD k 0)).2.keys[i].1 (moveP m a st (l.getD k 0)).2.keys[i].2 = some (kd, l) := by rw [es1]; exact ho
    have hin : ∀ s', toP (l.getD k 0) = some s' → s' ∈ (moveP m a st (l.getD k 0)).2.keys := by
      intro s' hs'
      have : (moveP m a st (l.getD k 0)).2.keys = (moveP m a st (l.getD k 0)).2.went.map (·.1) := rfl
      cases hw : wentAt st.went s' with
      | some y => rw [moveP_old hs' hw]; exact List.mem_map_of_mem (f := (·.1)) (wentAt_mem hw)
      | none =>
        unfold moveP
        rw [hs']
        simp only
        rw [hw]
        simp [Mv.keys]
    have c1 : ∀ j, j ≠ i → Cont m (moveP m a st (l.getD k 0)).2 j (L j) := fun j hj => Cont.move hI hgk (fun _ => hc j hj) (fun q => hL j (by omega))
    have ci : Cont m (moveP m a st (l.getD k 0)).2 i k := Cont.move hI hgk (fun _ => hci) (fun q => absurd hi q)
    have e : scanK m a (st.base m i) l (n + 1) k st = scanK m a (st.base m i) l n (k + 1) ⟨(moveP m a st (l.getD k 0)).2.went, (moveP m a st (l.getD k 0)).2.words.set ((moveP m a st (l.getD k 0)).2.base m i + k) (phi (moveP m a st (l.getD k 0)).2.went (l.getD k 0))⟩ := by
      rw [hb, ← move_phi]
      rfl
    have hb2 : st.base m i = (⟨(moveP m a st (l.getD k 0)).2.went, (moveP m a st (l.getD k 0)).2.words.set ((moveP m a st (l.getD k 0)).2.base m i + k) (phi (moveP m a st (l.getD k 0)).2.went (l.getD k 0))⟩ : Mv).base m i := hb.symm
    rw [e]
    have hlk : k < lenO m (moveP m a st (l.getD k 0)).2.keys[i] := by rw [len_obj ho1]; omega
    have IH := scanK_cont ho L hL n (k + 1) ⟨(moveP m a st (l.getD k 0)).2.went, (moveP m a st (l.getD k 0)).2.words.set ((moveP m a st (l.getD k 0)).2.base m i + k) (phi (moveP m a st (l.getD k 0)).2.went (l.getD k 0))⟩ (hI1.set _ _) hs1 (by omega) (by omega)
      (fun j hj => Cont.set hi1 hlk hj (c1 j hj)) (Cont.setHere hI1 hi1 ho1 (by omega) hfr ci hin) (fun t h1 h2 => hg t (by omega) (by omega))
    rw [← hb2] at IH
    obtain ⟨q1, q2, q3, q4⟩ := IH
    refine ⟨q1, hG1.trans q2, q3, ?_⟩
    rw [show k + (n + 1) = k + 1 + n by omega]
    exact q4

/-- Up to where an object's words lead. -/
def limO (m : List Frg) (s : Spt) : Nat := match objP m s.1 s.2 with
  | some (k, l) => (leadsP k l.length).2.toNat
  | none => 0

/-- All objects ahead of the i-th have been scanned. -/
def Scd (m : List Frg) (st : Mv) (i : Nat) : Prop := ∀ j, Cont m st j (if j < i then limO m (st.keys.getD j (0, 0)) else 0)

theorem getD_at {st : Mv} {i : Nat} {s : Spt} (h : st.keys[i]? = some s) : st.keys.getD i (0, 0) = s := by rw [List.getD_eq_getElem?_getD, h]; rfl

theorem Cont.start {m : List Frg} {st : Mv} {j k : Nat} {s : Spt} {kd : Int} {l : List Nat} (hs : st.keys[j]? = some s) (ho : objP m s.1 s.2 = some (kd, l)) (hk : k ≤ (leadsP kd l.length).1.toNat) (h : Cont m st j 0) : Cont m st j k := by
  intro hj k' l' ho'
  obtain ⟨_, e⟩ := key_at hs
  have e2 : (k', l') = (kd, l) := by
    have : some (k', l') = some (kd, l) := by rw [← ho', e]; exact ho
    exact Option.some.inj this
  cases e2
  obtain ⟨c1, c2⟩ := h hj kd l ho'
  refine ⟨fun t ht => ?_, fun t h1 h2 => by omega⟩
  rw [c1 t ht, img_at ht, img_at ht, if_neg (by omega), if_neg (by omega)]

theorem scanO_cont {m : List Frg} {a : Nat} {R : List Spt} {st : Mv} (hC : Closed m R) (hI : MInv m a R st) {i : Nat} (hi : i < st.keys.length) (h : Scd m st i) : MInv m a R (scanO m a st i) ∧ Grew st (scanO m a st i) ∧ Scd m (scanO m a st i) (i + 1) := by
  have hs : st.keys[i]? = some st.keys[i] := List.getElem?_eq_getElem hi
  generalize st.keys[i] = s at hs
  obtain ⟨_, es⟩ := key_at hs
  have hR : s ∈ R := by rw [← es]; exact hI.sub _ (List.getElem_mem hi)
  obtain ⟨k, l, ho, hl⟩ := hC _ hR
  obtain ⟨fr, tt, h1, h2, h3, h4, h5⟩ := lead_get (objP_ok ho)
  have e : scanO m a st i = scanK m a (st.base m i) l (tt - fr) fr st := by
    unfold scanO
    rw [show (st.went.map (·.1)).getD i (0, 0) = s from getD_at hs, ho]
    simp only [h1]
    show scanK m a (st.base m i) l _ _ st = _
    congr 1 <;> omega
  have hfr : (leadsP k l.length).1.toNat = fr := by rw [h1]; simp
  have htt : (leadsP k l.length).2.toNat = tt := by rw [h1]; simp
  have Q := scanK_cont (m := m) (a := a) (R := R) ho (fun j => if j < i then limO m (st.keys.getD j (0, 0)) else 0) (fun j hj => if_neg (by omega)) (tt - fr) fr st hI hs (by omega) (by omega) (fun j hj => h j)
    (Cont.start hs ho (by omega) (by have := h i; rw [if_neg (by omega)] at this; exact this)) (fun t ht1 ht2 s' hs' => hl _ (h4 t ht1 (by omega)) s' hs')
  rw [← e] at Q
  obtain ⟨q1, q2, q3, q4⟩ := Q
  refine ⟨q1, q2, fun j => ?_⟩
  by_cases hj : j = i
  · subst hj
    rw [if_pos (by omega), getD_at (q2.key hs)]
    have : limO m s = fr + (tt - fr) := by unfold limO; rw [ho]; simp only [htt]; omega
    rw [this]
    exact q4
  · have := q3 j hj
    by_cases hlt : j < i
    · rw [if_pos hlt] at this
      rw [if_pos (by omega)]
      have hk : st.keys[j]? = some st.keys[j] := List.getElem?_eq_getElem (by omega)
      rw [getD_at (q2.key hk)]
      rw [getD_at hk] at this
      exact this
    · rw [if_neg hlt] at this
      rw [if_neg (by omega)]
      exact this

theorem scanP_cont {m : List Frg} {a : Nat} {R : List Spt} (hC : Closed m R) : ∀ (n i : Nat) (st : Mv), R.length + 1 ≤ n + i → MInv m a R st → i ≤ st.keys.length → Scd m st i →
      MInv m a R (scanP m a n i st) ∧ Grew st (scanP m a n i st) ∧ Scd m (scanP m a n i st) (scanP m a n i st).keys.length
  | 0, i, st, hn, hI, hi, h => by
    have hc := hI.count
    have hk : st.keys.length = st.went.length := List.length_map _
    omega
  | n + 1, i, st, hn, hI, hi, h => by
    have hk : st.keys.length = st.went.length := List.length_map _
    rw [scanP]
    by_cases hlt : i < st.went.length
    · rw [if_pos hlt]
      obtain ⟨p1, p2, p3⟩ := scanO_cont hC hI (i := i) (by omega) h
      obtain ⟨_, e⟩ := p2.at (i := i) (by omega)
      obtain ⟨q1, q2, q3⟩ := scanP_cont hC n (i + 1) _ (by omega) p1 (by omega) p3
      exact ⟨q1, p2.trans q2, q3⟩
    · rw [if_neg hlt]
      have : i = st.keys.length := by omega
      subst this
      exact ⟨hI, Grew.refl _, h⟩

theorem movesP_cont {m : List Frg} {a : Nat} {R : List Spt} : ∀ (roots : List Nat) (st : Mv), MInv m a R st → Scd m st 0 → (∀ x ∈ roots, ∀ s, toP x = some s → s ∈ R) →
      MInv m a R (movesP m a roots st).2 ∧ Grew st (movesP m a roots st).2 ∧ Scd m (movesP m a roots st).2 0 ∧ (movesP m a roots st).1 = roots.map (phi (movesP m a roots st).2.went) ∧ ∀ x ∈ roots, ∀ s, toP x = some s → s ∈ (movesP m a roots st).2.keys
  | [], st, hI, h, _ => ⟨hI, Grew.refl _, h, rfl, fun x hx => by cases hx⟩
  | y :: r, st, hI, h, hg => by
    have hy := hg y List.mem_cons_self
    obtain ⟨p1, p2⟩ := hI.move hy
    have p2 : Grew st (moveP m a st y).2 := p2
    have hin : ∀ s, toP y = some s → s ∈ (moveP m a st y).2.keys := by
      intro s' hs'
      cases hw : wentAt st.went s' with
      | some z => rw [moveP_old hs' hw]; exact List.mem_map_of_mem (f := (·.1)) (wentAt_mem hw)
      | none =>
        unfold moveP
        rw [hs']
        simp only
        rw [hw]
        simp [Mv.keys]
    have h1 : Scd m (moveP m a st y).2 0 := fun j => by
      have := h j
      rw [if_neg (by omega)] at this ⊢
      exact Cont.move hI hy (fun _ => this) (fun _ => rfl)
    obtain ⟨q1, q2, q3, q4, q5⟩ := movesP_cont r _ p1 h1 (fun x hx => hg x (List.mem_cons_of_mem _ hx))
    rw [movesP]
    refine ⟨q1, p2.trans q2, q3, ?_, fun x hx s hs => ?_⟩
    · simp only [List.map_cons]
      rw [← q4, move_phi, phi_grew q2 hin]
    · rcases List.mem_cons.1 hx with rfl | hx
      · exact q2.keys (hin s hs)
      · exact q5 x hx s hs

/-- Where an object went: its words there are its own, moved. -/
structure Went (m : List Frg) (a : Nat) (st : Mv) (s : Spt) : Prop where
  at_ : ∃ n k l, objP m s.1 s.2 = some (k, l) ∧ wentAt st.went s = some ((a + n) * 8 + s.2.toNat) ∧ n + l.length ≤ st.words.length ∧ (∀ t, t < l.length → st.words[n + t]? = (imgP st.went k l (leadsP k l.length).2.toNat)[t]?) ∧ ∀ x ∈ leadW k l, ∀ s', toP x = some s' → s' ∈ st.keys

theorem scd_nil (m : List Frg) : Scd m ⟨[], []⟩ 0 := fun j hj => by cases hj

theorem all_went {m : List Frg} {a : Nat} {R : List Spt} {roots : List Nat} (hC : Closed m R) (hg : ∀ x ∈ roots, ∀ s, toP x = some s → s ∈ R) :
    (∀ s ∈ (scanP m a (R.length + 1) 0 (movesP m a roots ⟨[], []⟩).2).keys, Went m a (scanP m a (R.length + 1) 0 (movesP m a roots ⟨[], []⟩).2) s) ∧
    (movesP m a roots ⟨[], []⟩).1 = roots.map (phi (scanP m a (R.length + 1) 0 (movesP m a roots ⟨[], []⟩).2).went) ∧ MInv m a R (scanP m a (R.length + 1) 0 (movesP m a roots ⟨[], []⟩).2) ∧ ∀ x ∈ roots, ∀ s, toP x = some s → s ∈ (scanP m a (R.length + 1) 0 (movesP m a roots ⟨[], []⟩).2).keys := by
  obtain ⟨p1, p2, p3, p4, p5⟩ := movesP_cont roots ⟨[], []⟩ (MInv.start m a R) (scd_nil m) hg
  obtain ⟨q1, q2, q3⟩ := scanP_cont hC (R.length + 1) 0 _ (by omega) p1 (Nat.zero_le _) p3
  refine ⟨fun s hs => ?_, ?_, q1, fun x hx s hs => q2.keys (p5 x hx s hs)⟩
  · obtain ⟨j, hj, rfl⟩ := List.getElem_of_mem hs
    obtain ⟨k, l, ho, hl⟩ := hC _ (q1.sub _ hs)
    have hc := q3 j
    rw [if_pos hj, getD_at (List.getElem?_eq_getElem hj)] at hc
    obtain ⟨c1, c2⟩ := hc hj k l ho
    have hlim : limO m (scanP m a (R.length + 1) 0 (movesP m a roots ⟨[], []⟩).2).keys[j] = (leadsP k l.length).2.toNat := by unfold limO; rw [ho]
    rw [hlim] at c1 c2
    have hroom := base_room q1 hj
    rw [len_obj ho] at hroom
    have hj' : j < (scanP m a (R.length + 1) 0 (movesP m a roots ⟨[], []⟩).2).went.length := by unfold Mv.keys at hj; simpa using hj
    have hat := q1.at (i := j) hj'
    have ek : (scanP m a (R.length + 1) 0 (movesP m a roots ⟨[], []⟩).2).keys[j] = (scanP m a (R.length + 1) 0 (movesP m a roots ⟨[], []⟩).2).went[j].1 := by simp [Mv.keys]
    rw [← ek] at hat
    refine ⟨_, k, l, ho, hat, hroom, c1, fun x hx s' hs' => ?_⟩
    obtain ⟨fr, tt, h1, h2, h3, h4, h5⟩ := lead_get (objP_ok ho)
    obtain ⟨t, ht1, ht2, rfl⟩ := h5 x hx
    exact c2 t (by rw [h1]; simpa using ht1) (by rw [h1]; simpa using ht2) (by omega) s' hs'
  · rw [p4]
    apply List.map_congr_left
    intro x hx
    exact (phi_grew q2 (fun s hs => p5 x hx s hs)).symm

end Go.Proofs.YtlmpmjhanpkcnaaGreat

namespace Go.Proofs.YtlmpmjhanpkcnaaGreat
open Go.RowKit

def LowM (m : List Frg) : Prop := ∀ f ∈ m, ∀ a : Int, inP f.1 f.2.length a = true → a ≤ 1152921504606846975

theorem regL_ok : ∀ {r dn : List Frg}, regL dn r = true → ∀ f ∈ r, okA f = true
  | [], _, _, f, hf => by cases hf
  | g :: r, dn, h, f, hf => by
    simp only [regL, Bool.and_eq_true] at h
    rcases List.mem_cons.1 hf with rfl | hf
    · exact h.1.1
    · exact regL_ok h.2 f hf

theorem len_le_wordsN {m : List Frg} {f : Frg} (h : f ∈ m) : f.2.length ≤ wordsN m := by
  unfold wordsN
  induction m with
  | nil => cases h
  | cons g r ih =>
    simp only [List.map_cons, List.sum_cons]
    rcases List.mem_cons.1 h with rfl | h
    · omega
    · have := ih h; omega

theorem lowM_of {d : Dmp} (h : regionsP d = true) (hN : wordsN d.mem ≤ 5000) : LowM d.mem := by
  unfold regionsP at h
  simp only [Bool.and_eq_true] at h
  intro f hf a ha
  have h1 := regL_ok h.1 f hf
  have h2 := len_le_wordsN hf
  have h3 := inP_parts ha
  simp only [okA, Bool.or_eq_true, Bool.and_eq_true, decide_eq_true_eq] at h1
  omega

theorem words_rest : ∀ (m : List Frg) (a n : Int), 1 ≤ n → wordsP m a n = if n ≤ ((restP m a).length : Int) then some ((restP m a).take n.toNat) else none
  | [], a, n, hn => by
    have h : ¬ n ≤ ((restP [] a).length : Int) := by show ¬ n ≤ ((0 : Nat) : Int); omega
    rw [if_neg h]
    rfl
  | f :: r, a, n, hn => by
    by_cases h : inP f.1 f.2.length a = true
    · have e1 : restP (f :: r) a = f.2.drop (a - f.1).toNat := by rw [restP, if_pos h]
      have e2 : wordsP (f :: r) a n = cutP f a n := by rw [wordsP, if_pos h]
      have hp := inP_parts h
      have e : ((f.2.drop (a - f.1).toNat).length : Int) = (f.2.length : Int) - (a - f.1) := by rw [List.length_drop]; omega
      rw [e1, e2, e]
      rfl
    · have e1 : restP (f :: r) a = restP r a := by rw [restP, if_neg h]
      have e2 : wordsP (f :: r) a n = wordsP r a n := by rw [wordsP, if_neg h]
      rw [e1, e2]
      exact words_rest r a n hn

theorem rest_low : ∀ {m : List Frg} {a : Int}, LowM m → restP m a ≠ [] → 0 ≤ a ∧ a ≤ 1152921504606846975
  | [], a, _, h => by simp [restP] at h
  | f :: r, a, hm, h => by
    simp only [restP] at h
    by_cases hi : inP f.1 f.2.length a = true
    · have := inP_parts hi; have := hm f List.mem_cons_self a hi; omega
    · rw [if_neg hi] at h; exact rest_low (fun g hg => hm g (List.mem_cons_of_mem _ hg)) h

theorem headAt_rest (m : List Frg) (a : Int) : headAt m a = match restP m a with
    | [] => none
    | h :: t => (headP h).bind fun k => if k.2.toNat ≤ t.length then some (k.1, h :: t.take k.2.toNat) else none := by
  unfold headAt
  rw [words_rest m a 1 (by omega)]
  cases hr : restP m a with
  | nil => simp
  | cons h t =>
    rw [if_pos (by simp; omega)]
    simp only [Option.bind_some]
    have e : ((h :: t).take (1 : Int).toNat).getD 0 0 = h := by simp
    rw [e]
    cases hh : headP h with
    | none => rfl
    | some k =>
      have hb := headP_bounds h
      rw [hh] at hb
      simp only [Option.getD_some] at hb
      simp only [Option.bind_some]
      rw [words_rest m a (k.2 + 1) (by omega), hr]
      have e2 : (k.2 + 1).toNat = k.2.toNat + 1 := by omega
      by_cases hle : k.2.toNat ≤ t.length
      · rw [if_pos hle, if_pos (by simp only [List.length_cons]; omega), e2]; rfl
      · rw [if_neg hle, if_neg (by simp only [List.length_cons]; omega)]; rfl

theorem box_head (m : List Frg) (w : Nat) (h4 : tagW w = 4) : boxP m w = (headAt m (loadW w)).map fun o => (o.1, o.2.drop 1) := by
  unfold boxP
  rw [if_pos h4, headAt_rest]
  cases restP m (loadW w) with
  | nil => rfl
  | cons h t =>
    simp only
    cases headP h with
    | none => rfl
    | some k =>
      simp only [Option.bind_some]
      by_cases hle : k.2.toNat ≤ t.length
      · rw [if_pos hle, if_pos hle]; rfl
      · rw [if_neg hle, if_neg hle]; rfl

theorem headAt_low {m : List Frg} {a : Int} {o : Int × List Nat} (hm : LowM m) (h : headAt m a = some o) : 0 ≤ a ∧ a ≤ 1152921504606846975 := by
  refine rest_low hm fun e => ?_
  rw [headAt_rest, e] at h
  cases h

theorem getD_drop (l : List Nat) (i : Nat) : (l.drop 1).getD i 0 = l.getD (i + 1) 0 := by
  simp only [List.getD, List.getElem?_drop]
  rw [Nat.add_comm]

theorem bytes12_3eq (deep : Bool) (S : List Slt) (l : List Nat) (hl : 1 ≤ l.length) : bytes12 deep S 3 (l.drop 1) = if rightFlat 3 l = true then (bytesB l).map fun b => (b, l.getD 1 0) else none := by
  have e : rightFlat 3 l = (decide (2 ≤ l.length) && (bytesW l).isSome) := by simp [rightFlat]
  rw [e]
  unfold bytes12 bytesB
  by_cases h2 : 2 ≤ l.length
  · rw [if_pos ⟨rfl, by rw [List.length_drop]; omega⟩]
    rw [getD_drop]
    by_cases h64 : 64 < l.getD 1 0
    · rw [if_pos h64]
      have : bytesW l = none := by unfold bytesW; rw [if_pos (Or.inl h64)]
      simp [this]
    · rw [if_neg h64]
      have : bytesW l = packedP ((l.drop 1).drop 1) (l.getD 1 0) := by
        unfold bytesW packedP
        rw [List.drop_drop]
        have e3 : (l.drop (1 + 1)).length = l.length - 2 := by rw [List.length_drop]
        rw [e3]
        by_cases q : l.length - 2 ≠ (l.getD 1 0 + 7) / 8
        · rw [if_pos (Or.inr q), if_pos q]
        · rw [if_neg (by omega), if_neg q]
      rw [this]
      cases packedP ((l.drop 1).drop 1) (l.getD 1 0) <;> simp [h2]
  · rw [if_neg (by rw [List.length_drop]; omega), if_neg (by intro q; omega)]
    simp [h2]

theorem bytes12_4eq (deep : Bool) (S : List Slt) (l : List Nat) : bytes12 deep S 4 (l.drop 1) = if rightFlat 4 l = true then (sharedP deep S l).map fun b => (b, l.getD 3 0) else none := by
  have e : rightFlat 4 l = (decide (l.length = 4) && decide (max (l.getD 1 0) (l.getD 2 0) ≤ 1073741824) && decide (l.getD 3 0 ≤ 400)) := by simp [rightFlat]
  rw [e]
  unfold bytes12 sharedP
  rw [if_neg (by omega)]
  by_cases h4 : l.length = 4
  · rw [if_pos ⟨rfl, by rw [List.length_drop]; omega⟩, getD_drop, getD_drop, getD_drop]
    by_cases hb : 1073741824 < l.getD 1 0 ∨ 1073741824 < l.getD 2 0 ∨ 400 < l.getD 3 0
    · have hc : ¬ (decide (l.length = 4) && decide (max (l.getD 1 0) (l.getD 2 0) ≤ 1073741824) && decide (l.getD 3 0 ≤ 400)) = true := by
        simp only [Bool.and_eq_true, decide_eq_true_eq]
        omega
      rw [if_pos hb, if_neg hc]
    · have hc : (decide (l.length = 4) && decide (max (l.getD 1 0) (l.getD 2 0) ≤ 1073741824) && decide (l.getD 3 0 ≤ 400)) = true := by
        simp only [Bool.and_eq_true, decide_eq_true_eq]
        omega
      rw [if_neg hb, if_pos hc]
      cases deep with
      | false => rfl
      | true =>
        rw [if_neg (by simp), if_neg (by simp)]
        cases S[l.getD 1 0]? with
        | none => rfl
        | some s =>
          simp only
          split <;> rfl
  · rw [if_neg (by rw [List.length_drop]; omega), if_neg]
    simp [h4]

theorem bytes12_no (deep : Bool) (S : List Slt) (k : Int) (t : List Nat) (h3 : k ≠ 3) (h4 : k ≠ 4) : bytes12 deep S k t = none := by
  unfold bytes12; rw [if_neg (by omega), if_neg (by omega)]

theorem toP_of {w : Nat} (h4 : tagW w = 4) (hl : 0 ≤ loadW w ∧ loadW w ≤ 1152921504606846975) : toP w = some (loadW w, 4) := by
  unfold toP plainP fitsP loW hiW
  rw [h4]
  simp
  omega

theorem sub_calc (deep : Bool) (k : Int) (a b n : Nat) (s : ByteArray) (hmag : (decide (a ≤ n) && decide (b ≤ n - a)) = true → a ≤ 400 ∧ b ≤ 400) :
    (if 400 < a ∨ 400 < b then (none : Option ByteArray) else if (n : Int) - (a : Nat) < (b : Nat) then none else if deep = false ∧ k = 4 then some ⟨#[]⟩ else some (s.extract a (a + b))) =
      if (decide (a ≤ n) && decide (b ≤ n - a)) = true then (if deep = false ∧ k = 4 then some ⟨#[]⟩ else some (s.extract a (a + b))) else none := by
  by_cases hc : (decide (a ≤ n) && decide (b ≤ n - a)) = true
  · have h1 := hmag hc
    rw [if_pos hc]
    simp only [Bool.and_eq_true, decide_eq_true_eq] at hc
    rw [if_neg (show ¬ (400 < a ∨ 400 < b) by omega), if_neg (show ¬ ((n : Int) - (a : Nat) < (b : Nat)) by omega)]
  · rw [if_neg hc]
    simp only [Bool.and_eq_true, decide_eq_true_eq] at hc
    by_cases h : 400 < a ∨ 400 < b
    · rw [if_pos h]
    · rw [if_neg h, if_pos (show ((n : Int) - (a : Nat) < (b : Nat)) by omega)]

def lenOk (l : List Nat) : Option Nat → Bool
  | some n => decide (l.getD 2 0 ≤ n) && decide (l.getD 3 0 ≤ n - l.getD 2 0)
  | none => false

theorem right5_eq {m : List Frg} {l : List Nat} (h4 : l.length = 4) {r : Option Nat} (hr : lengthP m (l.getD 1 0) = r) : rightP m 5 l = lenOk l r := by
  subst hr
  unfold rightP
  rw [if_pos rfl, decide_eq_true h4, Bool.true_and]
  cases lengthP m (l.getD 1 0) <;> rfl

theorem lengthP_none {m : List Frg} {w : Nat} (h : ∀ s, toP w = some s → s.2 = 4 → headAt m s.1 = none) : lengthP m w = none := by
  unfold lengthP
  cases hto : toP w with
  | none => rfl
  | some s =>
    simp only [Option.bind_some]
    by_cases h4 : s.2 = 4
    · rw [if_pos h4, h s hto h4]; rfl
    · rw [if_neg h4]

theorem obj_flat {m : List Frg} {a k : Int} {o : Int × List Nat} (hh : headAt m a = some o) (h3 : o.1 = k) (hk : k ≠ 5) (hf : rightFlat k o.2 = true) : objP m a 4 = some o := by
  unfold objP
  rw [if_neg (by decide), hh]
  simp only [Option.bind_some]
  have : rightP m o.1 o.2 = true := by unfold rightP; rw [h3, if_neg hk]; exact hf
  rw [if_pos this]

/-- A part of bytes. -/
theorem sub_eq (asks : Bool) (S : List Slt) (m : List Frg) (hm : LowM m) (l : List Nat) (hmag : rightP m 5 l = true → l.getD 2 0 ≤ 400 ∧ l.getD 3 0 ≤ 400) : sub12 asks S m (l.drop 1) = if rightP m 5 l = true then partP asks S m l else none := by
  by_cases h4 : l.length = 4
  · have hu : sub12 asks S m (l.drop 1) = (boxP m (l.getD 1 0)).bind fun o =>
        if 400 < l.getD 2 0 ∨ 400 < l.getD 3 0 then none
        else (bytes12 asks S o.1 o.2).bind fun p =>
          if (p.2 : Int) - (l.getD 2 0 : Nat) < (l.getD 3 0 : Nat) then none
          else if asks = false ∧ o.1 = 4 then some ⟨#[]⟩
          else some (p.1.extract (l.getD 2 0) (l.getD 2 0 + l.getD 3 0)) := by
      unfold sub12
      rw [if_neg (by rw [List.length_drop]; omega), getD_drop, getD_drop, getD_drop]
    rw [hu]
    by_cases ht : tagW (l.getD 1 0) = 4
    · rw [box_head m _ ht]
      cases hh : headAt m (loadW (l.getD 1 0)) with
      | none =>
        have hl : lengthP m (l.getD 1 0) = none := lengthP_none fun s hs _ => by
          unfold toP at hs
          split at hs
          · cases hs; exact hh
          · cases hs
        rw [right5_eq h4 hl]
        rfl
      | some o =>
        have hlow := headAt_low hm hh
        have hto := toP_of ht hlow
        have hho := headAt_le hh
        obtain ⟨k, ol⟩ := o
        simp only at hho
        simp only [Option.map_some, Option.bind_some]
        have hL : lengthP m (l.getD 1 0) = if k = 3 ∧ rightFlat 3 ol = true then some (ol.getD 1 0) else if k = 4 ∧ rightFlat 4 ol = true then some (ol.getD 3 0) else none := by
          unfold lengthP; rw [hto]; simp only [Option.bind_some]; rw [hh]; rfl
        by_cases h3 : k = 3
        · subst h3
          rw [bytes12_3eq asks S ol hho.2.2]
          by_cases hf : rightFlat 3 ol = true
          · have hobj := obj_flat (k := 3) hh rfl (by decide) hf
            have hbs : ∃ b, bytesB ol = some b := by
              have e : rightFlat 3 ol = (decide (2 ≤ ol.length) && (bytesW ol).isSome) := by simp [rightFlat]
              rw [e] at hf
              simp only [Bool.and_eq_true] at hf
              unfold bytesB
              cases hb : bytesW ol with
              | none => rw [hb] at hf; simp at hf
              | some x => exact ⟨_, rfl⟩
            obtain ⟨b, hb⟩ := hbs
            rw [if_pos ⟨rfl, hf⟩] at hL
            have hX := right5_eq h4 hL
            simp only [lenOk] at hX
            have hP : partP asks S m l = some (b.extract (l.getD 2 0) (l.getD 2 0 + l.getD 3 0)) := by
              unfold partP; rw [hto]; simp only; rw [hobj]; simp only; rw [if_pos trivial, hb]; rfl
            rw [if_pos hf, hb, hP, hX]
            simp only [Option.map_some, Option.bind_some]
            rw [sub_calc asks 3 _ _ _ b (by rw [← hX]; exact hmag)]
            rw [if_neg (show ¬ (asks = false ∧ (3 : Int) = 4) by omega)]
          · rw [if_neg (by simp [hf]), if_neg (by omega)] at hL
            rw [right5_eq h4 hL, if_neg hf]
            simp [lenOk]
        · by_cases h4' : k = 4
          · subst h4'
            rw [bytes12_4eq]
            by_cases hf : rightFlat 4 ol = true
            · have hobj := obj_flat (k := 4) hh rfl (by decide) hf
              rw [if_neg (by omega), if_pos ⟨rfl, hf⟩] at hL
              have hX := right5_eq h4 hL
              simp only [lenOk] at hX
              have hP : partP asks S m l = if asks = false then some ⟨#[]⟩ else (sharedP true S ol).map fun b => b.extract (l.getD 2 0) (l.getD 2 0 + l.getD 3 0) := by
                unfold partP; rw [hto]; simp only; rw [hobj]; simp only; rw [if_neg (by decide)]
              rw [if_pos hf, hP, hX]
              cases asks with
              | false =>
                have : sharedP false S ol = some ⟨#[]⟩ := rfl
                rw [this]
                rw [Option.map_some, Option.bind_some]
                rw [sub_calc false 4 _ _ _ _ (by rw [← hX]; exact hmag)]
                rfl
              | true =>
                cases hs : sharedP true S ol with
                | none => simp
                | some b =>
                  rw [Option.map_some, Option.bind_some]
                  rw [sub_calc true 4 _ _ _ b (by rw [← hX]; exact hmag)]
                  rfl
            · rw [if_neg (by omega), if_neg (by simp [hf])] at hL
              rw [right5_eq h4 hL, if_neg hf]
              simp [lenOk]
          · rw [if_neg (by omega), if_neg (by omega)] at hL
            rw [bytes12_no asks S _ _ h3 h4', right5_eq h4 hL]
            simp [lenOk]
    · have h1 : boxP m (l.getD 1 0) = none := by unfold boxP; rw [if_neg ht]
      have hl : lengthP m (l.getD 1 0) = none := lengthP_none fun s hs h => by
        unfold toP at hs
        split at hs
        · cases hs
          simp only at h
          omega
        · cases hs
      rw [h1, right5_eq h4 hl]
      rfl
  · have h1 : sub12 asks S m (l.drop 1) = none := by unfold sub12; rw [if_pos (by rw [List.length_drop]; omega)]
    have h2 : rightP m 5 l = false := by
      unfold rightP
      rw [if_pos rfl, decide_eq_false h4, Bool.false_and]
    rw [h1, h2]
    rfl

theorem right5_le {m : List Frg} {l : List Nat} (h : rightP m 5 l = true) : l.getD 2 0 ≤ 400 ∧ l.getD 3 0 ≤ 400 := by
  unfold rightP at h
  rw [if_pos rfl, Bool.and_eq_true] at h
  replace h := h.2
  cases hl : lengthP m (l.getD 1 0) with
  | none => rw [hl] at h; simp at h
  | some n =>
    rw [hl] at h
    simp only [Bool.and_eq_true, decide_eq_true_eq] at h
    have hn : n ≤ 400 := by
      unfold lengthP at hl
      cases hto : toP (l.getD 1 0) with
      | none => rw [hto] at hl; cases hl
      | some s =>
        rw [hto] at hl
        simp only [Option.bind_some] at hl
        split at hl
        · cases hh : headAt m s.1 with
          | none => rw [hh] at hl; cases hl
          | some o =>
            rw [hh] at hl
            simp only [Option.bind_some] at hl
            split at hl
            · rename_i q
              cases hl
              have e : rightFlat 3 o.2 = (decide (2 ≤ o.2.length) && (bytesW o.2).isSome) := by simp [rightFlat]
              rw [e] at q
              simp only [Bool.and_eq_true] at q
              obtain ⟨-, -, q⟩ := q
              unfold bytesW at q
              split at q
              · simp at q
              · omega
            · split at hl
              · rename_i q
                cases hl
                have e : rightFlat 4 o.2 = (decide (o.2.length = 4) && decide (max (o.2.getD 1 0) (o.2.getD 2 0) ≤ 1073741824) && decide (o.2.getD 3 0 ≤ 400)) := by simp [rightFlat]
                rw [e] at q
                simp only [Bool.and_eq_true, decide_eq_true_eq] at q
                omega
              · cases hl
        · cases hl
    omega

end Go.Proofs.YtlmpmjhanpkcnaaGreat

namespace Go.Proofs.YtlmpmjhanpkcnaaGreat
open Go.RowKit

mutual
def Tm.nd : Tm → Nat
  | .mk _ _ _ _ _ _ args => 1 + nds args
def nds : List Tm → Nat
  | [] => 0
  | a :: r => a.nd + nds r
end

def G12 (g g2 : Nat → Nat → Option (Tm × Nat)) : Prop := ∀ left x t l', g left x = some (t, l') → t.wt + l' = left ∧ t.right = true ∧ t.nd ≤ t.wt ∧ ∀ left2, t.nd ≤ left2 → g2 left2 x = some (t, left2 - t.nd)

theorem seq12 {g g2 : Nat → Nat → Option (Tm × Nat)} (h : G12 g g2) : ∀ (ws : List Nat) (left : Nat) (ts : List Tm) (l' : Nat), seqP g left ws = some (ts, l') →
    wts ts + l' = left ∧ rights ts = true ∧ ts.length = ws.length ∧ nds ts ≤ wts ts ∧ ∀ left2, nds ts ≤ left2 → seqP g2 left2 ws = some (ts, left2 - nds ts)
  | [], left, ts, l', he => by
    simp only [seqP, Option.some.injEq, Prod.mk.injEq] at he
    obtain ⟨rfl, rfl⟩ := he
    exact ⟨by simp [wts], rfl, rfl, by simp [nds, wts], fun left2 _ => by simp [seqP, nds]⟩
  | w :: r, left, ts, l', he => by
    simp only [seqP] at he
    cases ha : g left w with
    | none => rw [ha] at he; cases he
    | some a =>
      obtain ⟨t, l1⟩ := a
      rw [ha] at he
      simp only [Option.bind_some] at he
      cases hb : seqP g l1 r with
      | none => rw [hb] at he; cases he
      | some b =>
        obtain ⟨ts1, l2⟩ := b
        rw [hb] at he
        simp only [Option.map_some, Option.some.injEq, Prod.mk.injEq] at he
        obtain ⟨rfl, rfl⟩ := he
        obtain ⟨h1, h2, h3, h4⟩ := h left w t l1 ha
        obtain ⟨k1, k2, k3, k4, k5⟩ := seq12 h r l1 ts1 l2 hb
        refine ⟨by simp only [wts]; omega, by simp only [rights, h2, k2, Bool.and_self], by simp [k3], by simp only [wts, nds]; omega, fun left2 hl => ?_⟩
        simp only [nds] at hl ⊢
        simp only [seqP]
        rw [h4 left2 (by omega)]
        simp only [Option.bind_some]
        rw [k5 (left2 - t.nd) (by omega)]
        simp only [Option.map_some, Option.some.injEq, Prod.mk.injEq, true_and]
        omega

def G21 (g g2 : Nat → Nat → Option (Tm × Nat)) : Prop := ∀ left x t l', g left x = some (t, l') → plainP x = true ∧ (t.right = true → ∀ left2, t.wt ≤ left2 → g2 left2 x = some (t, left2 - t.wt))

theorem seq21 {g g2 : Nat → Nat → Option (Tm × Nat)} (h : G21 g g2) : ∀ (ws : List Nat) (left : Nat) (ts : List Tm) (l' : Nat), seqP g left ws = some (ts, l') →
    allP ws = true ∧ ts.length = ws.length ∧ (rights ts = true → ∀ left2, wts ts ≤ left2 → seqP g2 left2 ws = some (ts, left2 - wts ts))
  | [], left, ts, l', he => by
    simp only [seqP, Option.some.injEq, Prod.mk.injEq] at he
    obtain ⟨rfl, rfl⟩ := he
    exact ⟨rfl, rfl, fun _ left2 _ => by simp [seqP, wts]⟩
  | w :: r, left, ts, l', he => by
    simp only [seqP] at he
    cases ha : g left w with
    | none => rw [ha] at he; cases he
    | some a =>
      obtain ⟨t, l1⟩ := a
      rw [ha] at he
      simp only [Option.bind_some] at he
      cases hb : seqP g l1 r with
      | none => rw [hb] at he; cases he
      | some b =>
        obtain ⟨ts1, l2⟩ := b
        rw [hb] at he
        simp only [Option.map_some, Option.some.injEq, Prod.mk.injEq] at he
        obtain ⟨rfl, rfl⟩ := he
        obtain ⟨h1, h2⟩ := h left w t l1 ha
        obtain ⟨k1, k2, k3⟩ := seq21 h r l1 ts1 l2 hb
        refine ⟨by simp only [allP, List.all_cons, Bool.and_eq_true] at k1 ⊢; exact ⟨h1, k1⟩, by simp [k2], fun hr left2 hl => ?_⟩
        simp only [rights, Bool.and_eq_true] at hr
        simp only [wts] at hl ⊢
        simp only [seqP]
        rw [h2 hr.1 left2 (by omega)]
        simp only [Option.bind_some]
        rw [k3 hr.2 (left2 - t.wt) (by omega)]
        simp only [Option.map_some, Option.some.injEq, Prod.mk.injEq, true_and]
        omega

theorem lead_two {l : List Nat} (h : l.length = 2) : leadW (-1) l = l := by
  simp only [leadW, leadsP, if_true]
  exact List.take_of_length_le (by rw [List.length_drop]; simp; omega)

theorem lead_tup {l : List Nat} (h : 1 ≤ l.length) : leadW 0 l = l.drop 1 := by
  have : leadsP 0 l.length = (1, (l.length : Int)) := by simp [leadsP]
  unfold leadW
  rw [this]
  exact List.take_of_length_le (by rw [List.length_drop]; simp only; omega)

theorem plain_parts {x : Nat} (h : plainP x = true) : tagW x ≤ 5 ∧ loW (tagW x) ≤ loadW x ∧ loadW x ≤ hiW (tagW x) := by
  simp only [plainP, fitsP, Bool.and_eq_true, decide_eq_true_eq] at h
  exact ⟨h.1, h.2.2⟩

/-- A small term. -/
def leafT (x : Nat) : Option Tm :=
  if tagW x = 0 then some (.mk 1 (loadW x) false [] 0 ⟨#[]⟩ [])
  else if tagW x = 1 then some (.mk 4 (loadW x) false [] 0 ⟨#[]⟩ [])
  else if tagW x = 2 then some (.mk 5 (loadW x) false [] 0 ⟨#[]⟩ [])
  else if tagW x = 3 then some (.mk 7 0 false [] 0 ⟨#[]⟩ [])
  else none

theorem leaf_right {x : Nat} {t : Tm} (hp : plainP x = true) (h : leafT x = some t) : t.right = true ∧ t.wt = 1 ∧ t.nd = 1 := by
  have hq := plain_parts hp
  unfold leafT at h
  split at h
  · rename_i q; cases h; rw [q] at hq; simp [loW, hiW] at hq; refine ⟨?_, by simp [Tm.wt], by simp [Tm.nd, nds]⟩
    simp [Tm.right, SheadP, bareP, rights]; omega
  · split at h
    · rename_i q; cases h; rw [q] at hq; simp [loW, hiW] at hq; refine ⟨?_, by simp [Tm.wt], by simp [Tm.nd, nds]⟩
      simp [Tm.right, SheadP, bareP, rights]; omega
    · split at h
      · rename_i q; cases h; rw [q] at hq; simp [loW, hiW] at hq; refine ⟨?_, by simp [Tm.wt], by simp [Tm.nd, nds]⟩
        simp [Tm.right, SheadP, bareP, rights]; omega
      · split at h
        · cases h; refine ⟨?_, by simp [Tm.wt], by simp [Tm.nd, nds]⟩
          simp [Tm.right, SheadP, bareP, rights]
        · cases h

theorem term_leaf {asks : Bool} {S : List Slt} {m : List Frg} {f left x : Nat} (hp : plainP x = true) (hl : left ≠ 0) (ht : tagW x ≤ 3) : ∃ t, leafT x = some t ∧ termP asks S m (f + 1) left x = some (t, left - 1) ∧ refT asks S m (f + 1) left x = some (t, left - 1) := by
  unfold leafT
  rw [refT_step]
  unfold readT
  rw [termP, if_neg (show ¬ (plainP x = false ∨ left = 0) by rw [hp]; simp [hl]), if_neg (show ¬ (left = 0 ∨ plainP x = false) by rw [hp]; simp [hl])]
  by_cases h0 : tagW x = 0
  · rw [if_pos h0, if_pos h0, if_pos h0]; exact ⟨_, rfl, rfl, rfl⟩
  · rw [if_neg h0, if_neg h0, if_neg h0]
    by_cases h1 : tagW x = 1
    · rw [if_pos h1, if_pos h1, if_pos h1]; exact ⟨_, rfl, rfl, rfl⟩
    · rw [if_neg h1, if_neg h1, if_neg h1]
      by_cases h2 : tagW x = 2
      · rw [if_pos h2, if_pos h2, if_pos h2]; exact ⟨_, rfl, rfl, rfl⟩
      · rw [if_neg h2, if_neg h2, if_neg h2]
        have h3 : tagW x = 3 := by omega
        rw [if_pos h3, if_pos h3, if_pos h3]; exact ⟨_, rfl, rfl, rfl⟩

theorem term_deep {asks : Bool} {S : List Slt} {m : List Frg} {f left x : Nat} (hp : plainP x = true) (hl : left ≠ 0) (ht : 4 ≤ tagW x) :
    termP asks S m (f + 1) left x = (objP m (loadW x) (tagW x)).bind (objT (termP asks S m f) asks S m (left - 1)) ∧
    refT asks S m (f + 1) left x = if tagW x = 5 then (if (restP m (loadW x)).length < 2 then none else (seqP (refT asks S m f) (left - 1) ((restP m (loadW x)).take 2)).map fun r => (.mk 8 0 false [] 0 ⟨#[]⟩ r.1, r.2)) else boxT (refT asks S m f) asks S m (left - 1) x := by
  rw [refT_step]
  unfold readT
  rw [termP, if_neg (show ¬ (plainP x = false ∨ left = 0) by rw [hp]; simp [hl]), if_neg (show ¬ (left = 0 ∨ plainP x = false) by rw [hp]; simp [hl])]
  rw [if_neg (show ¬ tagW x = 0 by omega), if_neg (show ¬ tagW x = 1 by omega), if_neg (show ¬ tagW x = 2 by omega), if_neg (show ¬ tagW x = 3 by omega)]
  rw [if_neg (show ¬ tagW x = 0 by omega), if_neg (show ¬ tagW x = 1 by omega), if_neg (show ¬ tagW x = 2 by omega), if_neg (show ¬ tagW x = 3 by omega)]
  exact ⟨rfl, rfl⟩

theorem bigTm_right (l : List Nat) : (bigTm (l.drop 1)).right = (numMayP (bigNeg l) (bigMag l) && !smallP (bigNeg l) (bigMag l)) ∧ (bigTm (l.drop 1)).wt = 1 + (bigMag l).length ∧ (bigTm (l.drop 1)).nd = 1 ∧ bigTm (l.drop 1) = .mk 2 0 (bigNeg l) (bigMag l) 0 ⟨#[]⟩ [] := by
  have e : bigTm (l.drop 1) = .mk 2 0 (bigNeg l) (bigMag l) 0 ⟨#[]⟩ [] := by
    unfold bigTm bigNeg bigMag
    rw [getD_drop, List.drop_drop]
  rw [e]
  exact ⟨by simp [Tm.right, SheadP, bareP, rights], by simp [Tm.wt], by simp [Tm.nd, nds], rfl⟩

theorem big12_eq (l : List Nat) : big12 (l.drop 1) = if rightFlat 1 l = true then some (.mk 2 0 (bigNeg l) (bigMag l) 0 ⟨#[]⟩ []) else none := by
  have e : rightFlat 1 l = (decide (3 ≤ l.length) && decide (l.length ≤ 6) && bigP l) := by simp [rightFlat]
  obtain ⟨h1, h2, h3, h4⟩ := bigTm_right l
  unfold big12
  rw [getD_drop, List.length_drop, Nat.zero_add]
  by_cases hb : l.length - 1 < 2 ∨ 5 < l.length - 1 ∨ 1 < l.getD 1 0
  · rw [if_pos hb, if_neg]
    rw [e]
    simp only [bigP, Bool.and_eq_true, decide_eq_true_eq]
    omega
  · rw [if_neg hb]
    have hm : (bigTm (l.drop 1)).may = (numMayP (bigNeg l) (bigMag l) && !smallP (bigNeg l) (bigMag l)) := by
      unfold Tm.may
      rw [h1, h2]
      cases hn : numMayP (bigNeg l) (bigMag l) with
      | false => simp
      | true =>
        have : (bigMag l).length ≤ 8 := by
          simp only [numMayP, Bool.and_eq_true, decide_eq_true_eq] at hn
          exact hn.1
        rw [decide_eq_true (by omega), Bool.true_and]
    have e2 : rightFlat 1 l = (numMayP (bigNeg l) (bigMag l) && !smallP (bigNeg l) (bigMag l)) := by
      rw [e, bigP, decide_eq_true (by omega), decide_eq_true (by omega), decide_eq_true (by omega)]
      simp
    rw [hm, h4, e2]

theorem flt_eq (l : List Nat) : (if (l.drop 1).length ≠ 1 then none else if (fltTm ((l.drop 1).getD 0 0)).may = true then some (fltTm ((l.drop 1).getD 0 0)) else none) = if rightFlat 2 l = true then some (Tm.mk 3 0 false [] (l.getD 1 0) ⟨#[]⟩ []) else none := by
  have e : rightFlat 2 l = (decide (l.length = 2) && realP (l.getD 1 0)) := by simp [rightFlat]
  rw [e, getD_drop, List.length_drop]
  have hm : (fltTm (l.getD (0 + 1) 0)).may = realP (l.getD 1 0) := by
    simp [Tm.may, fltTm, Tm.wt, Tm.right, SheadP, bareP, rights]
  by_cases h : l.length = 2
  · rw [if_neg (by omega), decide_eq_true h, Bool.true_and, hm]; rfl
  · rw [decide_eq_false h]
    simp only [Bool.false_and, Bool.false_eq_true, if_false]
    split
    · rfl
    · omega

theorem bin_of {left : Nat} {b : ByteArray} {t : Tm} {l' : Nat} (h : binT left b = some (t, l')) : t = .mk 9 0 false [] 0 b [] ∧ t.wt + l' = 1 + left ∧ t.right = true ∧ t.nd = 1 ∧ 1 ≤ t.wt := by
  unfold binT at h
  split at h
  · rename_i q
    simp only [Option.some.injEq, Prod.mk.injEq] at h
    obtain ⟨rfl, rfl⟩ := h
    refine ⟨rfl, by simp [Tm.wt]; omega, ?_, by simp [Tm.nd, nds], by simp [Tm.wt]⟩
    simp [Tm.right, SheadP, bareP, rights]
    exact q.1
  · cases h

theorem bin_to {left : Nat} {b : ByteArray} (hr : (Tm.mk 9 0 false [] 0 b []).right = true) (hl : (Tm.mk 9 0 false [] 0 b []).wt ≤ left) : 1 ≤ left ∧ binT (left - 1) b = some (.mk 9 0 false [] 0 b [], left - (Tm.mk 9 0 false [] 0 b []).wt) := by
  have hw : (Tm.mk 9 0 false [] 0 b []).wt = 1 + b.size / 8 := by simp [Tm.wt]
  rw [hw] at hl ⊢
  simp [Tm.right, SheadP, bareP, rights] at hr
  refine ⟨by omega, ?_⟩
  unfold binT
  rw [if_pos ⟨hr, by omega⟩]
  congr 2
  omega

end Go.Proofs.YtlmpmjhanpkcnaaGreat
