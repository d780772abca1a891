/-
  Collect: chapter 12's own old, whatever it answers.
  Collect: chapter 12's own handles, exactly.
  Collect, plain: what is reached behind a collection is just what was reached, moved.
  Collect, plain: what is read with the slots' bytes is read without them; how many words the reached objects have.
  Collect, plain: a dump collected wholly has just the words and the handles that are reached.
  Collect: rows of one's own written over (OverWords, OverInts).
  Collect: OverDump, of a dump whose rows are of one's own (no region but Young's).
  Collect: a dump with memory of its own: CopyDump, of any dump.
-/
import Derived.Test.YtlmpmjhanpkcnaaGreatN37
import Derived.Test.YtlmpmjhanpkcnaaGreatN32
import Derived.Deep.DeepAppendRoom
import Derived.Test.YtlmpmjhanpkcnaaGreatN33
set_option linter.unusedVariables false
set_option linter.unusedSimpArgs false
namespace Go.Proofs.YtlmpmjhanpkcnaaGreat
open Go.RowKit

set_option maxHeartbeats 8000000 in
set_option maxRecDepth 100000 in
theorem old12_any (d : Dmp) (v : Value) (w : World) (hd : DmAt w v d) (ho : d.old.2.length ≤ 1000000) : Calls Tryz.prog 23 #[v] w fun e w' => SomeEnd w w' e := by
  have HD := Lib.hid hd
  obtain ⟨wa1, wc1, wa2, wc2, fa, fc, ra, rc, ha, hc, rfl⟩ := hd.shape
  obtain ⟨_, _, _, _, _, _, _, he, -, ⟨-, -, _, _, he2, hwo⟩, -⟩ := hd
  simp only [dmpV, Value.agg.injEq, Array.mk.injEq, List.cons.injEq, true_and, and_true] at he
  obtain ⟨rfl, rfl, rfl, rfl, rfl, rfl, rfl⟩ := he
  simp only [Value.slice.injEq, true_and] at he2
  obtain ⟨rfl, rfl⟩ := he2
  obtain ⟨hol, hou, oa, oc, he, -, -, hox⟩ := hwo
  simp only [Value.slice.injEq, true_and] at he
  obtain ⟨rfl, rfl⟩ := he
  have HOU := Lib.hid hou
  have HOX := Lib.hid hox
  clear hol hou hox
  have T := one_at w (.cells #[.int .i64 d.young.1, .slice wa1 d.young.2.length wc1, .int .i64 d.old.1, .slice wa2 d.old.2.length wc2, .int .i64 d.size, .int .i64 d.mark, .slice fa d.frags.length fc, .slice ra d.roots.length rc, .slice ha d.handles.length hc] 28)
  go_enter Tryz.func23, Tryz.ntmps23
  go_upto_region 1 with fail
  generalize w.alloc (.cells #[.int .i64 d.young.1, .slice wa1 d.young.2.length wc1, .int .i64 d.old.1, .slice wa2 d.old.2.length wc2, .int .i64 d.size, .int .i64 d.mark, .slice fa d.frags.length fc, .slice ra d.roots.length rc, .slice ha d.handles.length hc] 28) = W at *
  have X0 := Lib.hid T.1
  have XS := Lib.hid T.2.1
  have XB := Lib.hid T.2.2
  clear T
  have x3 := cell_of X0.out 3
  simp at x3
  go_wp2_with fail
  go_loopw [4] (fun i wr => ∃ (k : Nat), i = .int .i64 k ∧ k ≤ d.old.2.length + 1048577 ∧ Hid (Below W.heap.size W wr)) (fun i _ => d.old.2.length + 1048577 - (intOf i).toNat)
  case atStart => exact ⟨0, rfl, by omega, Lib.hid (Below.refl _ _)⟩
  case round =>
    clear x3
    obtain ⟨k, rfl, hk, HB⟩ := hrel
    have HBW := Lib.hid (XB.out.trans (HB.out.mono (by have := XS.out; omega)))
    by_cases hlt : k < d.old.2.length
    · obtain ⟨g, og, rfl, kw⟩ := HOX.out k hlt
      have kw1 := (HBW.out.cell (World.block_lt_of_cell? w _ kw)).trans kw
      have hx := HOU.out _ (List.getElem_mem hlt)
      obtain ⟨x, hxx⟩ : ∃ x, d.old.2[k]'hlt = x := ⟨_, rfl⟩
      rw [hxx] at kw1 hx
      have HBD := Lib.hid (headP_bounds x)
      have HINX := Lib.hid (fun (V : World) (hb : Below w.heap.size w V) => inOld_any d x _ V (HD.out.below hb) hx)
      have p1 : (k : Int) < (d.old.2.length : Int) := by omega
      have p2 : (0 : Int) ≤ (k : Int) := by omega
      have Y0 := Lib.hid ((HB.out.block w.heap.size (by have := XS.out; omega)).trans X0.out)
      clear kw hxx
      go_wp2_with fail
      refine (parts8_any x hx _).mono ?_
      rintro e wr ⟨he, rfl⟩
      unfold HeadEnd at he
      subst he
      obtain ⟨kd, hkd⟩ : ∃ kd, ((headP x).getD (0, 0)).1 = kd := ⟨_, rfl⟩
      obtain ⟨sz, hsz⟩ : ∃ sz, ((headP x).getD (0, 0)).2 = sz := ⟨_, rfl⟩
      obtain ⟨hs, hhs⟩ : ∃ hs, (headP x).isSome = hs := ⟨_, rfl⟩
      rw [hkd, hsz, hhs]
      rw [hkd, hsz] at HBD
      clear hkd hsz hhs
      obtain ⟨sn, rfl⟩ : ∃ sn : Nat, sz = (sn : Int) := ⟨sz.toNat, by have := HBD.out; omega⟩
      have q5 : IntKind.i64.wrap ((k : Int) + 1) = (k : Int) + 1 := IntWalk.i64_in _ (by omega)
      have q6 : IntKind.i64.wrap ((k : Int) + 1 + (sn : Int)) = (k : Int) + 1 + (sn : Int) := by have := HBD.out; exact IntWalk.i64_in _ (by omega)
      have QM := Lib.hid (show k + 1 ≤ d.old.2.length + 1048577 ∧ k + 1 + sn ≤ d.old.2.length + 1048577 by have := HBD.out; omega)
      have QM2 := Lib.hid (show d.old.2.length + 1048577 - (k + 1) < d.old.2.length + 1048577 - k ∧ d.old.2.length + 1048577 - (k + 1 + sn) < d.old.2.length + 1048577 - k by omega)
      have y0 := cell_of Y0.out 0
      have y1 := cell_of Y0.out 1
      have y2 := cell_of Y0.out 2
      have y3 := cell_of Y0.out 3
      have y4 := cell_of Y0.out 4
      have y5 := cell_of Y0.out 5
      have y6 := cell_of Y0.out 6
      have y7 := cell_of Y0.out 7
      have y8 := cell_of Y0.out 8
      simp at y0 y1 y2 y3 y4 y5 y6 y7 y8
      dsimp only
      cases hs
      · go_upto_region 14 with fail
        go_wp2_with fail
        refine (HINX.out _ HBW.out).mono ?_
        rintro _ w3 ⟨⟨b, rfl⟩, hb⟩
        have HB3 := Lib.hid (HB.out.trans (hb.mono HB.out.size))
        have HBW3 := Lib.hid (HBW.out.trans (hb.mono HBW.out.size))
        clear hb y0 y1 y2 y3 y4 y5 y6 y7 y8 kw1
        dsimp only
        cases b
        · go_wp2_with fail
          go_ret
          exact ⟨⟨_, rfl⟩, HBW3.out⟩
        · go_wp2_with fail
          go_roundw
          case rel => exact ⟨k + 1, by go_num, QM.out.1, HB3⟩
          case measure => clear q5 q6; have := QM2.out.1; simp [intOf]; omega
      · by_cases h0 : kd = 0
        · subst h0
          go_wp2_with fail
          go_roundw
          case rel => exact ⟨k + 1, by go_num, QM.out.1, HB⟩
          case measure => clear q5 q6; have := QM2.out.1; simp [intOf]; omega
        · have HB0 := Lib.hid (show (kd == 0) = false by simp [h0])
          have hb0 : (kd == 0) = false := by simp [h0]
          by_cases h5 : kd = 5
          · subst h5
            by_cases hl1 : k + 1 < d.old.2.length
            · obtain ⟨g', og', eg, kw'⟩ := HOX.out (k + 1) hl1
              cases eg
              have kw2 := (HBW.out.cell (World.block_lt_of_cell? w _ kw')).trans kw'
              have hx' := HOU.out _ (List.getElem_mem hl1)
              obtain ⟨x', hxx'⟩ : ∃ x', d.old.2[k + 1]'hl1 = x' := ⟨_, rfl⟩
              rw [hxx'] at kw2 hx'
              have HINX' := Lib.hid (fun (V : World) (hb : Below w.heap.size w V) => inOld_any d x' _ V (HD.out.below hb) hx')
              have r1 : (k : Int) + 1 < (d.old.2.length : Int) := by omega
              have r2 : (0 : Int) ≤ (k : Int) + 1 := by omega
              clear kw' hxx' kw1
              go_upto_region 9 with fail
              have HC52 := Lib.hid (show Calls Tryz.prog 52 #[.agg #[.int .i64 d.young.1, .slice wa1 d.young.2.length wc1, .int .i64 d.old.1, .slice (some ⟨g, og, none⟩) d.old.2.length wc2, .int .i64 d.size, .int .i64 d.mark, .slice fa d.frags.length fc, .slice ra d.roots.length rc, .slice ha d.handles.length hc], .int .u64 x'] wr.drew fun e w' => SomeEnd wr.drew w' e from HINX'.out _ HBW.out.drew)
              go_region_held3 (fun w' => w'.cell? ⟨w.heap.size, 0, none⟩ = some (.int .i64 d.young.1) ∧ w'.cell? ⟨w.heap.size, 1, none⟩ = some (.slice wa1 d.young.2.length wc1) ∧ w'.cell? ⟨w.heap.size, 2, none⟩ = some (.int .i64 d.old.1) ∧ w'.cell? ⟨w.heap.size, 3, none⟩ = some (.slice (some ⟨g, og, none⟩) d.old.2.length wc2) ∧ w'.cell? ⟨w.heap.size, 4, none⟩ = some (.int .i64 d.size) ∧ w'.cell? ⟨w.heap.size, 5, none⟩ = some (.int .i64 d.mark) ∧ w'.cell? ⟨w.heap.size, 6, none⟩ = some (.slice fa d.frags.length fc) ∧ w'.cell? ⟨w.heap.size, 7, none⟩ = some (.slice ra d.roots.length rc) ∧ w'.cell? ⟨w.heap.size, 8, none⟩ = some (.slice ha d.handles.length hc) ∧ w'.cell? ⟨g, og + (k + 1), none⟩ = some (.int .u64 x')) (first | with_reducible exact ⟨e0, e1, e2, e3, e4, e5, e6, e7, e8, e9⟩ | exact ⟨y0, y1, y2, y3, y4, y5, y6, y7, y8, kw2⟩ | go_keep) (first
                      | (go_at_call 52; (with_reducible refine HC52.out.mono ?_); rintro e w3 ⟨⟨b, rfl⟩, hb⟩
                         have Y5 := Lib.hid ((hb.block w.heap.size (lt_of_block (w := wr) Y0.out)).trans Y0.out)
                         have e0 := cell_of Y5.out 0
                         have e1 := cell_of Y5.out 1
                         have e2 := cell_of Y5.out 2
                         have e3 := cell_of Y5.out 3
                         have e4 := cell_of Y5.out 4
                         have e5 := cell_of Y5.out 5
                         have e6 := cell_of Y5.out 6
                         have e7 := cell_of Y5.out 7
                         have e8 := cell_of Y5.out 8
                         simp at e0 e1 e2 e3 e4 e5 e6 e7 e8
                         have e9 := (hb.cell (World.block_lt_of_cell? wr _ kw2)).trans kw2
                         have HB3 := Lib.hid (HB.out.trans (((Below.refl wr.heap.size wr).drew.trans (show Below wr.heap.size wr.drew w3 from hb)).mono HB.out.size))
                         have HBW3 := Lib.hid (HBW.out.trans (((Below.refl wr.heap.size wr).drew.trans (show Below wr.heap.size wr.drew w3 from hb)).mono HBW.out.size))
                         clear hb))
              all_goals (
                cases b
                · go_wp2_with fail
                  go_ret
                  exact ⟨⟨_, rfl⟩, HBW3.out⟩
                · go_wp2_with fail
                  go_roundw
                  case rel => exact ⟨k + 1 + sn, by go_num, QM.out.2, HB3⟩
                  case measure => clear q5 q6; have := QM2.out.2; simp [intOf]; omega)
            · have r1 : ¬ (k : Int) + 1 < (d.old.2.length : Int) := by omega
              go_upto_region 9 with fail
              go_quiet (fail)
              go_wp2_with fail
              go_roundw
              case rel => exact ⟨k + 1 + sn, by go_num, QM.out.2, Lib.hid (HB.out.trans ((drewN_below _).mono HB.out.size))⟩
              case measure => clear q5 q6; have := QM2.out.2; simp [intOf]; omega
          · have hb5 : (kd == 5) = false := by simp [h5]
            go_wp2_with fail
            go_roundw
            case rel => exact ⟨k + 1 + sn, by go_num, QM.out.2, HB⟩
            case measure => clear q5 q6; have := QM2.out.2; simp [intOf]; omega
    · have p1 : ¬ (k : Int) < (d.old.2.length : Int) := by omega
      go_wp2_with fail
      go_ret
      exact ⟨⟨_, rfl⟩, HBW.out⟩

end Go.Proofs.YtlmpmjhanpkcnaaGreat

namespace Go.Proofs.YtlmpmjhanpkcnaaGreat
open Go.RowKit

/-- Does a handle's address lead to a shared part whose bytes can be read? -/
def hOk (d : Dmp) (S : List Slt) (h : Int) : Bool :=
  match make8 4 h with
  | none => false
  | some x => match boxP d.mem x.toNat with
    | none => false
    | some (k, t) => decide (k = 4) && (bytes12 true S k t).isSome

/-- The first loop: each handle, and none twice. -/
def hsGo (d : Dmp) (S : List Slt) (l : List Int) : Nat → Nat → Bool
  | 0, _ => true
  | n + 1, i => if i < l.length then hOk d S (l.getD i 0) && !(l.take i).contains (l.getD i 0) && hsGo d S l n (i + 1) else true

def handles12P (d : Dmp) (S : List Slt) : Bool :=
  hsGo d S d.handles d.handles.length 0 && (metP d.mem d.roots).hs.all fun h => d.handles.contains h

theorem make8_word {x xm : Int} (h : (make8 4 x).getD 0 = xm) : 0 ≤ xm ∧ xm < 18446744073709551616 := by
  subst h
  unfold make8
  split
  · simp only [Option.getD_some, IntKind.wrap_u64]; omega
  · simp

theorem hOk_eq {d : Dmp} {S : List Slt} {x : Int} {xn : Nat} {mb : Bool} (h : (make8 4 x).getD 0 = (xn : Int)) (hb : (make8 4 x).isSome = mb) :
    hOk d S x = (mb && (boxP d.mem xn).isSome && decide (((boxP d.mem xn).getD (0, [])).1 = 4) && (bytes12 true S ((boxP d.mem xn).getD (0, [])).1 ((boxP d.mem xn).getD (0, [])).2).isSome) := by
  unfold hOk
  cases hm : make8 4 x with
  | none => rw [hm] at hb; subst hb; simp
  | some y =>
    rw [hm] at h hb
    subst hb
    simp only [Option.getD_some] at h
    subst h
    simp only [Int.toNat_natCast]
    cases hbx : boxP d.mem xn with
    | none => simp
    | some kt => simp

end Go.Proofs.YtlmpmjhanpkcnaaGreat

namespace Go.Proofs.YtlmpmjhanpkcnaaGreat
open Go.RowKit Go.Maps

/-! ### Shared bytes: a read root's handles lead to right slots -/

def RdT (S : List Slt) (m : List Frg) (x : Nat) : Prop := ∃ f left r, termP true S m f left x = some r

theorem seqP_rdt {S : List Slt} {m : List Frg} {f : Nat} : ∀ {L : List Nat} {left : Nat}, (seqP (termP true S m f) left L).isSome = true → ∀ x ∈ L, RdT S m x
  | [], _, _, x, hx => by cases hx
  | y :: r, left, h, x, hx => by
    rw [seqP] at h
    cases hg : termP true S m f left y with
    | none => rw [hg] at h; cases h
    | some a =>
      rw [hg] at h
      simp only [Option.bind_some, Option.isSome_map] at h
      rcases List.mem_cons.1 hx with rfl | hx
      · exact ⟨f, left, a, hg⟩
      · exact seqP_rdt h x hx

theorem rdt_obj {S : List Slt} {m : List Frg} {x : Nat} {s : Spt} (h : RdT S m x) (ht : toP x = some s) : ∃ k l, objP m s.1 s.2 = some (k, l) ∧ (k = 4 → (sharedP true S l).isSome = true) ∧ (k = 5 → (partP true S m l).isSome = true) ∧ (k = 0 ∨ k = -1 → ∀ x' ∈ leadW k l, RdT S m x') := by
  obtain ⟨f, left, r, hr⟩ := h
  obtain ⟨hp, htg, rfl⟩ := toP_eq ht
  cases f with
  | zero => cases hr
  | succ f =>
    rw [termP] at hr
    split at hr
    · cases hr
    · rw [if_neg (by omega), if_neg (by omega), if_neg (by omega), if_neg (by omega)] at hr
      obtain ⟨⟨k, l⟩, ho, hr⟩ := Option.bind_eq_some_iff.1 hr
      refine ⟨k, l, ho, fun hk => ?_, fun hk => ?_, fun hk => ?_⟩
      · subst hk
        unfold objT at hr
        simp at hr
        obtain ⟨b, hb, _⟩ := Option.bind_eq_some_iff.1 hr
        rw [hb]; rfl
      · subst hk
        unfold objT at hr
        simp at hr
        obtain ⟨b, hb, _⟩ := Option.bind_eq_some_iff.1 hr
        rw [hb]; rfl
      · unfold objT at hr
        rw [if_neg (by simp only; omega), if_neg (by simp only; omega), if_neg (by simp only; omega), if_neg (by simp only; omega), if_neg (by simp only; omega)] at hr
        obtain ⟨q, hq, _⟩ := Option.map_eq_some_iff.1 hr
        simp only at hq
        exact seqP_rdt (by rw [hq]; rfl)

def QT (S : List Slt) (m : List Frg) (s : Spt) : Prop := (∃ x, toP x = some s ∧ RdT S m x) ∨ ∃ k l, objP m s.1 s.2 = some (k, l) ∧ (k = 3 ∨ k = 4 ∧ (sharedP true S l).isSome = true)

theorem QT.leads {S : List Slt} {m : List Frg} {s : Spt} (h : QT S m s) : ∃ k l, objP m s.1 s.2 = some (k, l) ∧ (k = 4 → (sharedP true S l).isSome = true) ∧ ∀ x ∈ leadW k l, ∀ s', toP x = some s' → QT S m s' := by
  rcases h with ⟨x, ht, hr⟩ | ⟨k, l, ho, hk⟩
  · obtain ⟨k, l, ho, h4, h5, h0⟩ := rdt_obj hr ht
    refine ⟨k, l, ho, h4, fun x' hx' s' hs' => ?_⟩
    by_cases hk : k = 0 ∨ k = -1
    · exact .inl ⟨x', hs', h0 hk x' hx'⟩
    · rcases objP_ok ho with (⟨rfl, _⟩ | ⟨rfl, _⟩) | ⟨rfl, _⟩ | ⟨rfl, _⟩ | ⟨rfl, _⟩ | ⟨rfl, _⟩ | ⟨rfl, hr5⟩
      · omega
      · omega
      · rw [leadW_none l (by omega)] at hx'; cases hx'
      · rw [leadW_none l (by omega)] at hx'; cases hx'
      · rw [leadW_none l (by omega)] at hx'; cases hx'
      · rw [leadW_none l (by omega)] at hx'; cases hx'
      · have e := leadW_five hx'
        subst e
        have hp := h5 rfl
        unfold partP at hp
        rw [hs'] at hp
        simp only at hp
        cases ho2 : objP m s'.1 s'.2 with
        | none => rw [ho2] at hp; cases hp
        | some o =>
          rw [ho2] at hp
          simp only at hp
          obtain ⟨k2, l2, ho3, hk2⟩ := part_lead hr5 hs' (by rw [ho2]; rfl)
          rw [ho2] at ho3
          cases ho3
          refine .inr ⟨k2, l2, ho2, ?_⟩
          rcases hk2 with rfl | rfl
          · exact .inl rfl
          · refine .inr ⟨rfl, ?_⟩
            simp at hp
            exact hp
  · exact ⟨k, l, ho, (fun e => by rcases hk with q | q; · omega
                                  · exact q.2), fun x' hx' => by rw [leadW_none l (by omega)] at hx'; cases hx'⟩

theorem Reach.qt {S : List Slt} {m : List Frg} {roots : List Nat} (hr : ∀ x ∈ roots, RdT S m x) {s : Spt} (h : Reach m roots s) : QT S m s := by
  induction h with
  | root hx ht _ => exact .inl ⟨_, ht, hr _ hx⟩
  | step _ ho hx ht _ ih =>
    obtain ⟨k, l, ho', -, hl⟩ := ih.leads
    rw [ho] at ho'
    cases ho'
    exact hl _ hx _ ht

theorem rdt_roots {S : List Slt} {d : Dmp} (h : rootsP true S d = true) : ∀ x ∈ d.roots, RdT S d.mem x := by
  intro x hx
  unfold rootsP readsP at h
  rw [List.all_eq_true] at h
  have := h x hx
  unfold readP at this
  rw [Option.isSome_map] at this
  obtain ⟨r, hr⟩ := Option.isSome_iff_exists.1 this
  exact ⟨301, 300, r, hr⟩

theorem reach_shared {S : List Slt} {d : Dmp} (h : rootsP true S d = true) {s : Spt} (hs : Reach d.mem d.roots s) {l : List Nat} (ho : objP d.mem s.1 s.2 = some (4, l)) : (sharedP true S l).isSome = true := by
  obtain ⟨k, l', ho', h4, -⟩ := (hs.qt (rdt_roots h)).leads
  rw [ho] at ho'
  cases ho'
  exact h4 rfl

/-! ### The image of what is reached -/

def imgS (W : List (Spt × Nat)) (s : Spt) : Spt := ((((wentAt W s).getD 0) / 8 : Nat), s.2)

theorem Home.img {m : List Frg} {a : Nat} {st : Mv} (h : Home m a st) {s : Spt} (hs : s ∈ st.keys) : ∃ n k l, objP m s.1 s.2 = some (k, l) ∧ wentAt st.went s = some ((a + n) * 8 + s.2.toNat) ∧ n + l.length ≤ st.words.length ∧ imgS st.went s = (((a + n : Nat) : Int), s.2) ∧
    objP (memW a st) (imgS st.went s).1 (imgS st.went s).2 = some (k, imgO st.went k l) ∧ ∀ x ∈ leadW k l, ∀ s', toP x = some s' → s' ∈ st.keys := by
  obtain ⟨n, k, l, ho, hw, hr, ho', hl⟩ := h.obj hs
  have e : imgS st.went s = (((a + n : Nat) : Int), s.2) := by
    unfold imgS
    rw [hw]
    simp only [Option.getD_some, Prod.mk.injEq, and_true]
    have := h.tag s hs
    omega
  exact ⟨n, k, l, ho, hw, hr, e, by rw [e]; exact ho', hl⟩

theorem Home.to_img {m : List Frg} {a : Nat} {st : Mv} (h : Home m a st) {x : Nat} {s : Spt} (ht : toP x = some s) (hs : s ∈ st.keys) : toP (phi st.went x) = some (imgS st.went s) := by
  obtain ⟨n, k, l, ho, hw, hr, e, -, -⟩ := h.img hs
  rw [phi_some ht hw, h.to hs (by omega), e]

theorem leadW_img {W : List (Spt × Nat)} {m : List Frg} {k : Int} {l : List Nat} (h : ObjOK m k l) : leadW k (imgO W k l) = (leadW k l).map (phi W) := by
  rcases h with (⟨rfl, h2⟩ | ⟨rfl, h2⟩) | ⟨rfl, -⟩ | ⟨rfl, -⟩ | ⟨rfl, -⟩ | ⟨rfl, -⟩ | ⟨rfl, hr5⟩
  · have hi2 : (imgO W (-1) l).length = 2 := by rw [imgO_len]; exact h2
    rw [lead_two hi2, lead_two h2, imgO_cons h2]
  · have hi2 : 1 ≤ (imgO W 0 l).length := by rw [imgO_len]; exact h2.1
    rw [lead_tup hi2, lead_tup h2.1, imgO_tup]
  · rw [leadW_none _ (by omega), leadW_none _ (by omega)]; rfl
  · rw [leadW_none _ (by omega), leadW_none _ (by omega)]; rfl
  · rw [leadW_none _ (by omega), leadW_none _ (by omega)]; rfl
  · rw [leadW_none _ (by omega), leadW_none _ (by omega)]; rfl
  · have h4 : l.length = 4 := by
      unfold rightP at hr5
      rw [if_pos rfl, Bool.and_eq_true, decide_eq_true_eq] at hr5
      exact hr5.1
    have g1 := (imgO_five (W := W) h4).1
    have g2 : (imgO W 5 l).length = 4 := by rw [imgO_len]; exact h4
    match l, h4, imgO W 5 l, g2, g1 with
    | [p, q, r, s], _, [p', q', r', s'], _, g => 
      simp at g
      simp [leadW, leadsP, g]

/-- What is reached behind it: the images. -/
theorem reach_img {m : List Frg} {a : Nat} {st : Mv} {roots : List Nat} (h : Home m a st) (hk : ∀ s, Reach m roots s → s ∈ st.keys) (hr : ∀ s ∈ st.keys, Reach m roots s) (hg : ∀ x ∈ roots, ∀ s, toP x = some s → s ∈ st.keys) {s' : Spt} :
    Reach (memW a st) (roots.map (phi st.went)) s' ↔ ∃ s ∈ st.keys, s' = imgS st.went s := by
  constructor
  · intro q
    induction q with
    | root hx ht ho =>
      obtain ⟨x, hx1, rfl⟩ := List.mem_map.1 hx
      cases hto : toP x with
      | none => rw [phi_none hto, hto] at ht; cases ht
      | some s =>
        have hs := hg x hx1 s hto
        rw [h.to_img hto hs] at ht
        cases ht
        exact ⟨s, hs, rfl⟩
    | step _ ho hx ht ho' ih =>
      obtain ⟨s, hs, rfl⟩ := ih
      obtain ⟨n, k, l, ho1, hw, hr1, e, ho2, hl⟩ := h.img hs
      rw [ho2] at ho
      cases ho
      rw [leadW_img (objP_ok ho1)] at hx
      obtain ⟨x, hx1, rfl⟩ := List.mem_map.1 hx
      cases hto : toP x with
      | none => rw [phi_none hto, hto] at ht; cases ht
      | some s2 =>
        have hs2 := hl x hx1 s2 hto
        rw [h.to_img hto hs2] at ht
        cases ht
        exact ⟨s2, hs2, rfl⟩
  · rintro ⟨s, hs, rfl⟩
    have hrs := hr s hs
    clear hs
    induction hrs with
    | root hx ht ho =>
      have hs := hg _ hx _ ht
      obtain ⟨n, k, l, ho1, hw, hr1, e, ho2, hl⟩ := h.img hs
      exact .root (List.mem_map.2 ⟨_, hx, rfl⟩) (h.to_img ht hs) (by rw [ho2]; rfl)
    | step q ho hx ht ho' ih =>
      have hs := hk _ q
      have hs2 := hk _ (.step q ho hx ht ho')
      obtain ⟨n, k, l, ho1, hw, hr1, e, ho2, hl⟩ := h.img hs
      obtain ⟨n2, k2, l2, ho12, hw2, hr12, e2, ho22, hl2⟩ := h.img hs2
      rw [ho1] at ho
      cases ho
      exact .step ih ho2 (by rw [leadW_img (objP_ok ho1)]; exact List.mem_map.2 ⟨_, hx, rfl⟩) (h.to_img ht hs2) (by rw [ho22]; rfl)

/-- Images of two objects are two. -/
theorem img_inj {m : List Frg} {a : Nat} {R : List Spt} {st : Mv} (hI : MInv m a R st) (h : Home m a st) {s s' : Spt} (hs : s ∈ st.keys) (hs' : s' ∈ st.keys) {t u : Nat} (ht : t < lenO m s) (hu : u < lenO m s') (e : (imgS st.went s).1 + t = (imgS st.went s').1 + u) : s = s' ∧ t = u := by
  obtain ⟨i, hi, rfl⟩ := List.getElem_of_mem hs
  obtain ⟨j, hj, rfl⟩ := List.getElem_of_mem hs'
  have hk : st.keys.length = st.went.length := List.length_map _
  have A : ∀ i (hi : i < st.keys.length), (imgS st.went st.keys[i]).1 = ((a + st.base m i : Nat) : Int) := fun i hi => by
    have e := hI.at (i := i) (by omega)
    have hg : st.keys[i] = (st.went[i]'(by omega)).1 := by simp [Mv.keys]
    rw [← hg] at e
    have htg := h.tag _ (List.getElem_mem hi)
    unfold imgS
    rw [e]
    simp only [Option.getD_some]
    show ((((a + st.base m i) * 8 + st.keys[i].2.toNat) / 8 : Nat) : Int) = _
    omega
  rw [A i hi, A j hj] at e
  obtain ⟨q1, q2⟩ := base_apart (m := m) hi hj ht hu (by omega)
  subst q1
  exact ⟨rfl, q2⟩

theorem lenO_pos {m : List Frg} {s : Spt} (h : (objP m s.1 s.2).isSome = true) : 1 ≤ lenO m s := by
  obtain ⟨⟨k, l⟩, ho⟩ := Option.isSome_iff_exists.1 h
  rw [len_obj ho]
  obtain ⟨_, _, -, -, -, -, -, q⟩ := lead_nat (objP_ok ho)
  exact q

theorem lenO_objW {m : List Frg} {s : Spt} : objW m s = lenO m s := by
  unfold objW lenO
  cases objP m s.1 s.2 <;> rfl

end Go.Proofs.YtlmpmjhanpkcnaaGreat

namespace Go.Proofs.YtlmpmjhanpkcnaaGreat
open Go.RowKit Go.Maps

def TF (g g0 : Nat → Nat → Option (Tm × Nat)) : Prop := ∀ left x p, g left x = some p → p.2 ≤ left ∧ ∀ left0, left ≤ left0 → ∃ p0, g0 left0 x = some p0 ∧ p.2 + left0 ≤ p0.2 + left

theorem seq_tf {g g0 : Nat → Nat → Option (Tm × Nat)} (h : TF g g0) : ∀ (L : List Nat) (left : Nat) (p : List Tm × Nat), seqP g left L = some p → p.2 ≤ left ∧ ∀ left0, left ≤ left0 → ∃ p0, seqP g0 left0 L = some p0 ∧ p.2 + left0 ≤ p0.2 + left
  | [], left, p, e => by
    simp only [seqP, Option.some.injEq] at e
    subst e
    exact ⟨Nat.le_refl _, fun left0 _ => ⟨_, rfl, by simp only; omega⟩⟩
  | x :: r, left, p, e => by
    simp only [seqP] at e
    obtain ⟨a, ha, e⟩ := Option.bind_eq_some_iff.1 e
    obtain ⟨b, hb, rfl⟩ := Option.map_eq_some_iff.1 e
    obtain ⟨h1, h2⟩ := h left x a ha
    obtain ⟨k1, k2⟩ := seq_tf h r a.2 b hb
    refine ⟨by simp only; omega, fun left0 hle => ?_⟩
    obtain ⟨a0, ha0, q1⟩ := h2 left0 hle
    obtain ⟨b0, hb0, q2⟩ := k2 a0.2 (by omega)
    refine ⟨(a0.1 :: b0.1, b0.2), ?_, by simp only; omega⟩
    simp only [seqP]
    rw [ha0]
    simp only [Option.bind_some]
    rw [hb0]
    rfl

theorem bin_tf {left : Nat} {b : ByteArray} {p : Tm × Nat} (h : binT left b = some p) : p.2 ≤ left ∧ (∀ left0, left ≤ left0 → ∃ p0, binT left0 b = some p0 ∧ p.2 + left0 ≤ p0.2 + left) ∧ ∀ left0, left ≤ left0 → ∃ p0, binT left0 ⟨#[]⟩ = some p0 ∧ p.2 + left0 ≤ p0.2 + left := by
  unfold binT at h ⊢
  split at h
  · rename_i q
    cases h
    refine ⟨by simp only; omega, fun left0 hle => ?_, fun left0 hle => ?_⟩
    · rw [if_pos ⟨q.1, by omega⟩]
      exact ⟨_, rfl, by simp only; omega⟩
    · have e : (⟨#[]⟩ : ByteArray).size = 0 := rfl
      rw [e, if_pos ⟨by omega, by omega⟩]
      exact ⟨_, rfl, by simp only; omega⟩
  · cases h

theorem obj_tf {S : List Slt} {m : List Frg} {g g0 : Nat → Nat → Option (Tm × Nat)} (h : TF g g0) {left : Nat} {o : Int × List Nat} {p : Tm × Nat} (e : objT g true S m left o = some p) :
    p.2 ≤ left ∧ ∀ left0, left ≤ left0 → ∃ p0, objT g0 false [] m left0 o = some p0 ∧ p.2 + left0 ≤ p0.2 + left := by
  unfold objT at e ⊢
  split at e
  · rename_i q
    simp only [if_pos q]
    split at e
    · rename_i q2
      cases e
      refine ⟨by simp only; omega, fun left0 hle => ?_⟩
      rw [if_pos (by omega)]
      exact ⟨_, rfl, by simp only; omega⟩
    · cases e
  · rename_i q1
    simp only [if_neg q1]
    split at e
    · rename_i q
      simp only [if_pos q]
      cases e
      exact ⟨Nat.le_refl _, fun left0 hle => ⟨_, rfl, by simp only; omega⟩⟩
    · rename_i q2
      simp only [if_neg q2]
      split at e
      · rename_i q
        simp only [if_pos q]
        obtain ⟨b, hb, e⟩ := Option.bind_eq_some_iff.1 e
        obtain ⟨k1, k2, -⟩ := bin_tf e
        refine ⟨k1, fun left0 hle => ?_⟩
        rw [hb]
        exact k2 left0 hle
      · rename_i q3
        simp only [if_neg q3]
        split at e
        · rename_i q
          simp only [if_pos q]
          obtain ⟨b, hb, e⟩ := Option.bind_eq_some_iff.1 e
          obtain ⟨k1, -, k2⟩ := bin_tf e
          refine ⟨k1, fun left0 hle => ?_⟩
          have e0 : sharedP false [] o.2 = some ⟨#[]⟩ := by unfold sharedP; rw [if_pos rfl]
          rw [e0]
          exact k2 left0 hle
        · rename_i q4
          simp only [if_neg q4]
          split at e
          · rename_i q
            simp only [if_pos q]
            obtain ⟨b, hb, e⟩ := Option.bind_eq_some_iff.1 e
            obtain ⟨k1, k2, k3⟩ := bin_tf e
            refine ⟨k1, fun left0 hle => ?_⟩
            have e0 : partP false [] m o.2 = some b ∨ partP false [] m o.2 = some ⟨#[]⟩ := by
              unfold partP at hb ⊢
              cases ht : toP (o.2.getD 1 0) with
              | none => rw [ht] at hb; cases hb
              | some s =>
                rw [ht] at hb
                simp only at hb ⊢
                cases ho : objP m s.1 s.2 with
                | none => rw [ho] at hb; cases hb
                | some o2 =>
                  rw [ho] at hb
                  simp only at hb ⊢
                  by_cases h3 : o2.1 = 3
                  · rw [if_pos h3] at hb ⊢
                    exact .inl hb
                  · rw [if_neg h3, if_pos trivial]
                    exact .inr rfl
            rcases e0 with e0 | e0
            · rw [e0]; exact k2 left0 hle
            · rw [e0]; exact k3 left0 hle
          · rename_i q5
            simp only [if_neg q5]
            obtain ⟨b, hb, rfl⟩ := Option.map_eq_some_iff.1 e
            obtain ⟨k1, k2⟩ := seq_tf h _ _ _ hb
            refine ⟨k1, fun left0 hle => ?_⟩
            obtain ⟨b0, hb0, q6⟩ := k2 left0 hle
            rw [hb0]
            exact ⟨_, rfl, q6⟩

theorem term_tf (S : List Slt) (m : List Frg) : ∀ f, TF (termP true S m f) (termP false [] m f)
  | 0 => fun left x p e => by cases e
  | f + 1 => fun left x p e => by
    have ih := term_tf S m f
    rw [termP] at e
    split at e
    · cases e
    · rename_i q0
      have hp : plainP x = true := by
        cases h : plainP x with
        | true => rfl
        | false => exact absurd (.inl h) q0
      have hl : left ≠ 0 := fun h => q0 (.inr h)
      by_cases h3 : tagW x ≤ 3
      · obtain ⟨t, ht, -, -⟩ := term_leaf (asks := true) (S := S) (m := m) (f := f) hp hl h3
        have ee : termP true S m (f + 1) left x = some p := by rw [termP, if_neg q0]; exact e
        obtain ⟨t1, ht1, e1, -⟩ := term_leaf (asks := true) (S := S) (m := m) (f := f) hp hl h3
        rw [e1] at ee
        cases ee
        refine ⟨by simp only; omega, fun left0 hle => ?_⟩
        obtain ⟨t2, -, e2, -⟩ := term_leaf (asks := false) (S := []) (m := m) (f := f) hp (show left0 ≠ 0 by omega) h3
        exact ⟨_, e2, by simp only; omega⟩
      · rw [if_neg (by omega), if_neg (by omega), if_neg (by omega), if_neg (by omega)] at e
        obtain ⟨o, ho, e⟩ := Option.bind_eq_some_iff.1 e
        obtain ⟨k1, k2⟩ := obj_tf ih e
        refine ⟨by omega, fun left0 hle => ?_⟩
        obtain ⟨p0, hp0, k3⟩ := k2 (left0 - 1) (by omega)
        refine ⟨p0, ?_, by omega⟩
        rw [termP, if_neg (by rw [hp]; simp; omega), if_neg (by omega), if_neg (by omega), if_neg (by omega), if_neg (by omega), ho]
        exact hp0

theorem roots_tf {S : List Slt} {d : Dmp} (h : rootsP true S d = true) : rootsP false [] d = true := by
  unfold rootsP readsP at h ⊢
  rw [List.all_eq_true] at h ⊢
  intro x hx
  have := h x hx
  unfold readP at this ⊢
  rw [Option.isSome_map] at this ⊢
  obtain ⟨p, hp⟩ := Option.isSome_iff_exists.1 this
  obtain ⟨p0, hp0, -⟩ := (term_tf S d.mem 301 300 x p hp).2 300 (Nat.le_refl _)
  rw [hp0]
  rfl

/-! ### No two objects begin at one word -/

def allA (m : List Frg) : List Int := m.flatMap fun f => (List.range f.2.length).map fun (j : Nat) => f.1 + (j : Int)

theorem allA_length : ∀ (m : List Frg), (allA m).length = wordsN m
  | [] => rfl
  | f :: r => by
    have e : wordsN (f :: r) = f.2.length + wordsN r := by simp [wordsN]
    have ih := allA_length r
    unfold allA at ih ⊢
    rw [List.flatMap_cons, List.length_append, ih, e]
    simp

theorem rest_allA {m : List Frg} {a : Int} (h : restP m a ≠ []) : a ∈ allA m := by
  obtain ⟨f, hf, j, hj, e⟩ := rest_in h
  unfold allA
  exact List.mem_flatMap.2 ⟨f, hf, List.mem_map.2 ⟨j, by simpa using hj, e.symm⟩⟩

theorem obj_first {m : List Frg} {s : Spt} (ht : s.2 = 4 ∨ s.2 = 5) (h : (objP m s.1 s.2).isSome = true) : ∃ y r, restP m s.1 = y :: r ∧ (s.2 = 4 → tagW y = 6) ∧ (s.2 = 5 → tagW y ≤ 5) := by
  rcases ht with e | e
  · rw [e, obj_head] at h
    rw [Option.isSome_bind] at h
    cases hh : headAt m s.1 with
    | none => rw [hh] at h; cases h
    | some o =>
      rw [headAt_rest] at hh
      cases hr : restP m s.1 with
      | nil => rw [hr] at hh; cases hh
      | cons y r =>
        rw [hr] at hh
        simp only at hh
        obtain ⟨q, hq, -⟩ := Option.bind_eq_some_iff.1 hh
        refine ⟨y, r, rfl, fun _ => ?_, fun e5 => by omega⟩
        unfold headP at hq
        split at hq
        · rename_i w; exact w.1
        · cases hq
  · rw [e] at h
    unfold objP at h
    rw [if_pos rfl, words_rest m _ 2 (by decide)] at h
    split at h
    · rename_i hl
      simp only [Option.bind_some] at h
      split at h
      · rename_i hall
        cases hr : restP m s.1 with
        | nil => rw [hr] at hl; simp at hl
        | cons y r =>
          rw [hr] at hall
          refine ⟨y, r, rfl, fun e4 => by omega, fun _ => ?_⟩
          simp only [show (2 : Int).toNat = 1 + 1 from rfl, List.take_succ_cons, allP, List.all_cons, Bool.and_eq_true] at hall
          exact (plain_parts hall.1).1
      · cases h
    · cases h

theorem first_inj {m : List Frg} {s s' : Spt} (h : s.2 = 4 ∨ s.2 = 5) (h' : s'.2 = 4 ∨ s'.2 = 5) (ho : (objP m s.1 s.2).isSome = true) (ho' : (objP m s'.1 s'.2).isSome = true) (e : s.1 = s'.1) : s = s' := by
  obtain ⟨y, r, e1, k4, k5⟩ := obj_first h ho
  obtain ⟨y', r', e1', k4', k5'⟩ := obj_first h' ho'
  rw [e, e1'] at e1
  cases e1
  refine Prod.ext e ?_
  rcases h with q | q <;> rcases h' with q' | q'
  · rw [q, q']
  · have := k4 q; have := k5' q'; omega
  · have := k5 q; have := k4' q'; omega
  · rw [q, q']

theorem reach_count {m : List Frg} {roots : List Nat} {l : List Spt} (h : ReachL m roots l) : l.length ≤ wordsN m := by
  have h1 : (l.map (·.1)).Nodup := nodup_map h.1 fun x hx y hy e => first_inj ((h.2 x).1 hx).tag ((h.2 y).1 hy).tag ((h.2 x).1 hx).ok ((h.2 y).1 hy).ok e
  have h2 := nodup_sub h1 (L := allA m) fun p hp => by
    obtain ⟨s, hs, rfl⟩ := List.mem_map.1 hp
    obtain ⟨y, r, e, -, -⟩ := obj_first ((h.2 s).1 hs).tag ((h.2 s).1 hs).ok
    exact rest_allA (by rw [e]; simp)
  rw [List.length_map, allA_length] at h2
  exact h2

end Go.Proofs.YtlmpmjhanpkcnaaGreat

namespace Go.Proofs.YtlmpmjhanpkcnaaGreat
open Go.RowKit Go.Maps

structure Mj (d : Dmp) (S : List Slt) (a : Nat) (l : List Spt) : Prop where
  ha : a ≤ 1125899906842624
  hl : ReachL d.mem d.roots l
  hm : MemB d.mem
  hN : wordsN d.mem ≤ 480
  low : LowM d.mem
  hb : ∀ x ∈ d.roots, x < 18446744073709551616
  hr : refRoots true S d = true

theorem Mj.rt {d : Dmp} {S : List Slt} {a : Nat} {l : List Spt} (h : Mj d S a l) : rootsP true S d = true := by rw [← roots_same h.low]; exact h.hr
theorem Mj.rd {d : Dmp} {S : List Slt} {a : Nat} {l : List Spt} (h : Mj d S a l) : ∀ x ∈ d.roots, Rd d.mem x := rd_roots (roots_tf h.rt)
theorem Mj.len {d : Dmp} {S : List Slt} {a : Nat} {l : List Spt} (h : Mj d S a l) : l.length ≤ 480 := Nat.le_trans (reach_count h.hl) h.hN

theorem rd_plain {m : List Frg} {x : Nat} (h : Rd m x) : plainP x = true := by
  obtain ⟨f, left, r, hr⟩ := h
  cases f with
  | zero => cases hr
  | succ f =>
    rw [termP] at hr
    split at hr
    · cases hr
    · rename_i q
      cases hp : plainP x with
      | true => rfl
      | false => exact absurd (.inl hp) q

structure MjAll (d : Dmp) (a : Nat) (l : List Spt) : Prop where
  home : Home d.mem a (majorSt d a l)
  inv : PInv d.mem a l (majorSt d a l)
  roots : (majorD d a l).roots = d.roots.map (phi (majorSt d a l).went)
  keys : ∀ x ∈ d.roots, ∀ s, toP x = some s → s ∈ (majorSt d a l).keys
  kl : ReachL d.mem d.roots (majorSt d a l).keys
  rb : ∀ x ∈ (majorD d a l).roots, x < 18446744073709551616

theorem Mj.all {d : Dmp} {S : List Slt} {a : Nat} {l : List Spt} (h : Mj d S a l) : MjAll d a l := by
  have hlen := h.len
  obtain ⟨h1, h2, h3⟩ := major_home h.ha h.hl (by omega) h.rd
  obtain ⟨hC, hg⟩ := closed_of h.rd h.hl
  obtain ⟨g1, g2, g3, g4⟩ := all_gone (a := a) (R := l) h.hm h.ha (by omega) hC h.hb hg
  exact ⟨h1, g1, h2, h3, ⟨g1.inv.nod, fun s => ⟨fun hs => (h.hl.2 s).1 (g1.inv.sub s hs), g4 s⟩⟩, g2⟩

theorem perm_of {α : Type} {l l' : List α} (h : l.Nodup) (h' : l'.Nodup) (k : ∀ s, s ∈ l ↔ s ∈ l') : l.Perm l' := (List.perm_ext_iff_of_nodup h h').2 k

theorem sumP_perm {α : Type} (f : α → Nat) {l l' : List α} (h : l.Perm l') : sumP f l = sumP f l' := by
  unfold sumP
  exact (h.map f).sum_nat

theorem Mj.metd {d : Dmp} {S : List Slt} {a : Nat} {l : List Spt} (h : Mj d S a l) : MtOk d.mem (metP d.mem d.roots) ∧ Acc d.mem (metP d.mem d.roots) ∧ ((metP d.mem d.roots).at_.map spotOf).Nodup ∧ ∀ s, s ∈ (metP d.mem d.roots).at_.map spotOf ↔ Reach d.mem d.roots s :=
  met_all h.hm (by have := h.hN; omega) h.hb h.rd h.hl fun x hx => rd_plain (h.rd x hx)

theorem major_words {d : Dmp} {S : List Slt} {a : Nat} {l : List Spt} (h : Mj d S a l) : (majorSt d a l).words.length = (metP d.mem d.roots).words := by
  have A := h.all
  obtain ⟨-, m2, m3, m4⟩ := h.metd
  rw [m2.words, A.inv.inv.len]
  have e : sumP (fun y => objW d.mem (spotOf y)) (metP d.mem d.roots).at_ = sumP (objW d.mem) ((metP d.mem d.roots).at_.map spotOf) := by
    unfold sumP
    rw [List.map_map]
    rfl
  rw [e, sumP_perm (objW d.mem) (perm_of m3 A.kl.1 fun s => by rw [m4, A.kl.2])]
  show sumP (lenO d.mem) (majorSt d a l).keys = _
  unfold sumP
  congr 1
  exact List.map_congr_left fun s _ => lenO_objW.symm

theorem Mj.wle {d : Dmp} {S : List Slt} {a : Nat} {l : List Spt} (h : Mj d S a l) : (majorSt d a l).words.length ≤ 4800 := by
  have := h.all.inv.inv.words
  have := h.len
  omega

theorem Mj.imgs {d : Dmp} {S : List Slt} {a : Nat} {l : List Spt} (h : Mj d S a l) : ReachL (majorD d a l).mem (majorD d a l).roots ((majorSt d a l).keys.map (imgS (majorSt d a l).went)) := by
  have A := h.all
  refine ⟨nodup_map A.kl.1 fun x hx y hy e => ?_, fun s => ?_⟩
  · have hx' := lenO_pos ((A.kl.2 x).1 hx).ok
    have hy' := lenO_pos ((A.kl.2 y).1 hy).ok
    exact (img_inj A.inv.inv A.home hx hy (t := 0) (u := 0) hx' hy' (by rw [e])).1
  · rw [A.roots, major_mem, reach_img A.home (fun s hs => (A.kl.2 s).2 hs) (fun s hs => (A.kl.2 s).1 hs) A.keys]
    constructor
    · intro q
      obtain ⟨s1, h1, rfl⟩ := List.mem_map.1 q
      exact ⟨s1, h1, rfl⟩
    · rintro ⟨s1, h1, rfl⟩
      exact List.mem_map.2 ⟨s1, h1, rfl⟩

theorem Mj.memB {d : Dmp} {S : List Slt} {a : Nat} {l : List Spt} (h : Mj d S a l) : MemB (majorD d a l).mem := by
  have A := h.all
  rw [major_mem]
  intro f hf x hx
  unfold memW at hf
  rcases List.mem_cons.1 hf with rfl | hf
  · exact A.inv.bx x hx
  · rcases List.mem_cons.1 hf with rfl | hf
    · cases hx
    · cases hf

theorem Mj.wordsN {d : Dmp} {S : List Slt} {a : Nat} {l : List Spt} (h : Mj d S a l) : Proofs.YtlmpmjhanpkcnaaGreat.wordsN (majorD d a l).mem ≤ 4800 := by
  have := h.wle
  rw [major_mem]
  unfold memW Proofs.YtlmpmjhanpkcnaaGreat.wordsN
  simp
  exact this

theorem Mj.rde {d : Dmp} {S : List Slt} {a : Nat} {l : List Spt} (h : Mj d S a l) : ∀ x ∈ (majorD d a l).roots, Rd (majorD d a l).mem x := by
  have A := h.all
  rw [A.roots, major_mem]
  intro x hx
  obtain ⟨y, hy, rfl⟩ := List.mem_map.1 hx
  obtain ⟨f, left, r, hr⟩ := h.rd y hy
  exact ⟨f, left, r, by rw [A.home.term false [] f left y (A.keys y hy)]; exact hr⟩

theorem Mj.mete {d : Dmp} {S : List Slt} {a : Nat} {l : List Spt} (h : Mj d S a l) : MtOk (majorD d a l).mem (metP (majorD d a l).mem (majorD d a l).roots) ∧ Acc (majorD d a l).mem (metP (majorD d a l).mem (majorD d a l).roots) ∧ ((metP (majorD d a l).mem (majorD d a l).roots).at_.map spotOf).Nodup ∧
    ∀ s, s ∈ (metP (majorD d a l).mem (majorD d a l).roots).at_.map spotOf ↔ Reach (majorD d a l).mem (majorD d a l).roots s :=
  met_all h.memB (by have := h.wordsN; omega) h.all.rb h.rde h.imgs fun x hx => rd_plain (h.rde x hx)

/-! ### Handles -/

def kindO (m : List Frg) (s : Spt) : Int := ((objP m s.1 s.2).getD (0, [])).1

theorem fm_if {α β : Type} (p : α → Int) (f : α → β) : ∀ (L : List α), (L.filterMap fun s => if p s = 4 then some (f s) else none) = (L.filter fun s => decide (p s = 4)).map f
  | [] => rfl
  | s :: r => by
    rw [List.filterMap_cons, List.filter_cons]
    by_cases h : p s = 4
    · rw [if_pos h, decide_eq_true h, if_pos rfl, List.map_cons, fm_if p f r]
    · rw [if_neg h, decide_eq_false h, if_neg (by decide), fm_if p f r]

theorem h4_map (m : List Frg) (L : List Nat) : L.filterMap (h4 m) = ((L.map spotOf).filter fun s => decide (kindO m s = 4)).map (·.1) := by
  have e : (fun y => h4 m y) = fun y => if kindO m (spotOf y) = 4 then some (loadW y) else none := rfl
  show L.filterMap (fun y => h4 m y) = _
  rw [e, fm_if (fun y => kindO m (spotOf y)) loadW L, List.filter_map, List.map_map]
  rfl

theorem hsM_map (m : List Frg) (W : List (Spt × Nat)) (L : List Spt) : hsM m W L = (L.filter fun s => decide (kindO m s = 4)).map fun s => (imgS W s).1 := by
  unfold hsM
  exact fm_if (kindO m) (fun s => ((((wentAt W s).getD 0) / 8 : Nat) : Int)) L

theorem kind_img {m : List Frg} {a : Nat} {st : Mv} (h : Home m a st) {s : Spt} (hs : s ∈ st.keys) : kindO (memW a st) (imgS st.went s) = kindO m s := by
  obtain ⟨n, k, l, ho, hw, hr, e, ho', -⟩ := h.img hs
  unfold kindO
  rw [ho, ho']
  rfl

theorem sortI_perm (L : List Int) : (sortI L).Perm L := List.mergeSort_perm _ _
theorem sortI_sorted (L : List Int) : (sortI L).Pairwise (· ≤ ·) := by
  have := List.pairwise_mergeSort (le := fun x y : Int => decide (x ≤ y)) (fun a b c h1 h2 => by simp only [decide_eq_true_eq] at *; omega) (fun a b => by simp only [Bool.or_eq_true, decide_eq_true_eq]; omega) L
  exact this.imp fun h => by simpa using h

theorem Mj.hs_perm {d : Dmp} {S : List Slt} {a : Nat} {l : List Spt} (h : Mj d S a l) : (metP (majorD d a l).mem (majorD d a l).roots).hs.Perm (hsM d.mem (majorSt d a l).went l) := by
  have A := h.all
  obtain ⟨-, e2, e3, e4⟩ := h.mete
  have P1 := perm_of e3 h.imgs.1 fun s => by rw [e4, h.imgs.2]
  have P2 := perm_of h.hl.1 A.kl.1 fun s => by rw [h.hl.2, A.kl.2]
  refine e2.perm.trans ?_
  rw [h4_map, hsM_map]
  refine ((P1.filter _).map _).trans ?_
  refine List.Perm.trans ?_ ((P2.symm.filter _).map _)
  rw [List.filter_map, List.map_map]
  have : (majorSt d a l).keys.filter ((fun s => decide (kindO (majorD d a l).mem s = 4)) ∘ imgS (majorSt d a l).went) = (majorSt d a l).keys.filter fun s => decide (kindO d.mem s = 4) := by
    refine List.filter_congr fun s hs => ?_
    simp only [Function.comp]
    rw [major_mem, kind_img A.home hs]
  rw [this]
  exact List.Perm.refl _

theorem Mj.handles {d : Dmp} {S : List Slt} {a : Nat} {l : List Spt} (h : Mj d S a l) : (majorD d a l).handles = (metP (majorD d a l).mem (majorD d a l).roots).hs :=
  List.Perm.eq_of_pairwise (le := (· ≤ ·)) (fun x y _ _ h1 h2 => Int.le_antisymm h1 h2) (sortI_sorted _) h.mete.2.1.sorted ((sortI_perm _).trans h.hs_perm.symm)

theorem Mj.hlen {d : Dmp} {S : List Slt} {a : Nat} {l : List Spt} (h : Mj d S a l) : (majorD d a l).handles.length = (metP d.mem d.roots).hs.length := by
  have A := h.all
  obtain ⟨-, e2, e3, e4⟩ := h.metd
  rw [h.handles, h.hs_perm.length_eq, e2.perm.length_eq, h4_map, hsM_map, List.length_map, List.length_map]
  exact ((perm_of h.hl.1 e3 fun s => by rw [h.hl.2, e4]).filter _).length_eq

/-! ### The handles are right -/

theorem Mj.handle_of {d : Dmp} {S : List Slt} {a : Nat} {l : List Spt} (h : Mj d S a l) {x : Int} (hx : x ∈ (majorD d a l).handles) : ∃ s ∈ (majorSt d a l).keys, kindO d.mem s = 4 ∧ x = (imgS (majorSt d a l).went s).1 := by
  have : x ∈ hsM d.mem (majorSt d a l).went l := (sortI_perm _).subset hx
  rw [hsM_map] at this
  obtain ⟨s, hs, rfl⟩ := List.mem_map.1 this
  obtain ⟨h1, h2⟩ := List.mem_filter.1 hs
  exact ⟨s, (h.all.kl.2 s).2 ((h.hl.2 s).1 h1), by simpa using h2, rfl⟩

theorem Mj.hok {d : Dmp} {S : List Slt} {a : Nat} {l : List Spt} (h : Mj d S a l) {x : Int} (hx : x ∈ (majorD d a l).handles) : hOk (majorD d a l) S x = true := by
  have A := h.all
  obtain ⟨s, hs, hk, rfl⟩ := h.handle_of hx
  obtain ⟨n, k, l1, ho, hw, hr, e, ho', -⟩ := A.home.img hs
  have hk4 : k = 4 := by unfold kindO at hk; rw [ho] at hk; exact hk
  subst hk4
  have h24 : s.2 = 4 := by
    rcases A.home.tag s hs with q | q
    · exact q
    · rw [q] at ho
      unfold objP at ho
      rw [if_pos rfl] at ho
      obtain ⟨l0, -, ho⟩ := Option.bind_eq_some_iff.1 ho
      split at ho
      · cases ho
      · cases ho
  have hsh := reach_shared h.rt ((A.kl.2 s).1 hs) ho
  have hlow := A.home.low
  have hto := A.home.to hs (n := n) (by omega)
  rw [e]
  rw [e] at ho'
  simp only at ho' ⊢
  rw [h24] at hto ho'
  obtain ⟨hp, -, es⟩ := toP_eq hto
  have e1 : ((a + n : Nat) : Int) = loadW ((a + n) * 8 + (4 : Int).toNat) := congrArg Prod.fst es
  have e2 : (4 : Int) = ((tagW ((a + n) * 8 + (4 : Int).toNat) : Nat) : Int) := congrArg Prod.snd es
  have hmk : make8 4 ((a + n : Nat) : Int) = some (((a + n) * 8 + (4 : Int).toNat : Nat) : Int) := by
    unfold make8
    rw [if_pos (by unfold loW hiW; simp; omega)]
    congr 1
    rw [IntKind.wrap_u64]
    omega
  unfold hOk
  rw [hmk]
  simp only [Int.toNat_natCast]
  rw [box_head _ _ (by omega), ← e1]
  rw [imgO_same (by omega), obj_head] at ho'
  obtain ⟨o, hh, ho'⟩ := Option.bind_eq_some_iff.1 ho'
  split at ho'
  · rename_i hri
    cases ho'
    rw [major_mem, hh]
    simp only [Option.map_some, decide_true, Bool.true_and]
    rw [bytes12_4eq]
    unfold rightP at hri
    rw [if_neg (show ¬ (4 : Int) = 5 by decide)] at hri
    rw [if_pos hri, Option.isSome_map]
    exact hsh
  · cases ho'

theorem Mj.hnod {d : Dmp} {S : List Slt} {a : Nat} {l : List Spt} (h : Mj d S a l) : (majorD d a l).handles.Nodup := by
  have A := h.all
  refine (sortI_perm _).symm.nodup ?_
  rw [hsM_map]
  refine nodup_map (h.hl.1.filter _) fun x hx y hy e => ?_
  have hx1 := (List.mem_filter.1 hx).1
  have hy1 := (List.mem_filter.1 hy).1
  have hrx := (h.hl.2 x).1 hx1
  have hry := (h.hl.2 y).1 hy1
  exact (img_inj A.inv.inv A.home ((A.kl.2 x).2 hrx) ((A.kl.2 y).2 hry) (t := 0) (u := 0) (lenO_pos hrx.ok) (lenO_pos hry.ok) (by rw [e])).1

theorem hsGo_true {d : Dmp} {S : List Slt} {l : List Int} (hn : l.Nodup) (hk : ∀ x ∈ l, hOk d S x = true) : ∀ (n i : Nat), hsGo d S l n i = true
  | 0, _ => rfl
  | n + 1, i => by
    rw [hsGo]
    split
    · rename_i hi
      have e : l.getD i 0 = l[i] := by rw [List.getD_eq_getElem?_getD, List.getElem?_eq_getElem hi]; rfl
      rw [e, hk _ (List.getElem_mem hi), hsGo_true hn hk n (i + 1), Bool.and_true, Bool.true_and, Bool.not_eq_true']
      rw [← Bool.not_eq_true, List.contains_iff_mem]
      intro q
      obtain ⟨j, hj, e⟩ := List.getElem_of_mem q
      rw [List.length_take] at hj
      rw [List.getElem_take] at e
      have := (List.getElem_inj (h₀ := by omega) (h₁ := hi) hn).1 e
      omega
    · rfl

theorem Mj.h12 {d : Dmp} {S : List Slt} {a : Nat} {l : List Spt} (h : Mj d S a l) : handles12P (majorD d a l) S = true := by
  unfold handles12P
  rw [hsGo_true h.hnod fun x hx => h.hok hx, Bool.true_and, ← h.handles, List.all_eq_true]
  intro x hx
  simpa using hx

end Go.Proofs.YtlmpmjhanpkcnaaGreat

namespace Go.Proofs.YtlmpmjhanpkcnaaGreat
open Go.RowKit Go.Maps

/-- Every row stays a row of its type and length. -/
def Kept (w w' : World) : Prop := ∀ (g : Nat) (cur : Array Value) (e : TypeId), w.heap[g]? = some (.cells cur e (0, 0)) → ∃ cur' : Array Value, w'.heap[g]? = some (.cells cur' e (0, 0)) ∧ cur'.size = cur.size

theorem Kept.refl (w : World) : Kept w w := fun _ cur _ h => ⟨cur, h, rfl⟩

theorem Kept.trans {a b c : World} (h : Kept a b) (k : Kept b c) : Kept a c := fun g cur e q => by
  obtain ⟨c1, q1, e1⟩ := h g cur e q
  obtain ⟨c2, q2, e2⟩ := k g c1 e q1
  exact ⟨c2, q2, e2.trans e1⟩

theorem Kept.drewN (w : World) (k : Nat) : Kept w (w.drewN k) := Kept.refl w

theorem Kept.below {w w' : World} (h : Below w.heap.size w w') : Kept w w' := fun g cur _ q => ⟨cur, (h.block g (lt_of_block q)).trans q, rfl⟩

theorem Kept.setCell (w : World) {g : Nat} {cur : Array Value} {e : TypeId} (h : w.heap[g]? = some (.cells cur e (0, 0))) (i : Nat) (u : Value) : Kept w (w.setCell ⟨g, i, none⟩ u) := by
  intro g' cur' e' q
  by_cases hg : g' = g
  · subst hg
    rw [h] at q
    cases q
    exact ⟨_, set_of h i u, by simp⟩
  · refine ⟨cur', ?_, rfl⟩
    rw [← q]
    exact Below.heap_setCell w ⟨g, i, none⟩ u g' hg

/-- A row of one's own, whatever it holds. -/
def Own (w : World) (base : Nat) (e : TypeId) (v : Value) (n : Nat) : Prop :=
  (v = .slice none 0 0 ∧ n = 0) ∨ ∃ g c cur, v = .slice (some ⟨g, 0, none⟩) n c ∧ base ≤ g ∧ w.heap[g]? = some (.cells cur e (0, 0)) ∧ n ≤ c ∧ c ≤ maxLen ∧ cur.size = c

theorem Own.of {w : World} {base : Nat} {e : TypeId} {v : Value} {n : Nat} {xs : List Value} (h : w.ownsRow base e 1 v n xs) : Own w base e v n := by
  rcases h.2 with ⟨rfl, h0⟩ | ⟨g, cap, cur, rfl, hbg, hg, hnc, hcm, hcs, -⟩
  · exact .inl ⟨rfl, h0⟩
  · exact .inr ⟨g, cap, cur, rfl, hbg, hg, hnc, hcm, by simpa using hcs⟩

theorem Own.kept {w w' : World} {base : Nat} {e : TypeId} {v : Value} {n : Nat} (h : Own w base e v n) (k : Kept w w') : Own w' base e v n := by
  rcases h with h | ⟨g, c, cur, rfl, hb, hg, hn, hc, hs⟩
  · exact .inl h
  · obtain ⟨c', q, e'⟩ := k g cur e hg
    exact .inr ⟨g, c, c', rfl, hb, q, hn, hc, e'.trans hs⟩

theorem Own.row {w : World} {base : Nat} {e : TypeId} {v : Value} {n : Nat} (h : Own w base e v n) : ∃ xs, w.ownsRow base e 1 v n xs := by
  rcases h with ⟨rfl, rfl⟩ | ⟨g, c, cur, rfl, hb, hg, hn, hc, hs⟩
  · exact ⟨[], by simp, .inl ⟨rfl, rfl⟩⟩
  · exact ⟨cur.toList.take (n * 1), by simp; omega, .inr ⟨g, c, cur, rfl, hb, hg, hn, hc, by simpa using hs, rfl⟩⟩

theorem Kept.grown_none {w w' : World} (h : w.grownBy w' none) : Kept w w' := Kept.below ((Below.refl w.heap.size w).grown h (Nat.le_refl _) (by simp))

theorem grownOf {w w' : World} {row : Option Nat} (h : Below w.heap.size w w') : w.grownBy w' row := ⟨h.os, h.tape, h.output, h.size, fun k hk _ => h.block k hk⟩

theorem grownTrans {a b c : World} {row : Option Nat} (h : a.grownBy b row) (k : b.grownBy c row) : a.grownBy c row :=
  ⟨k.os.trans h.os, k.tape.trans h.tape, k.output.trans h.output, Nat.le_trans h.size k.size, fun i hi hr => (k.block i (Nat.lt_of_lt_of_le hi h.size) hr).trans (h.block i hi hr)⟩

theorem grown_set (w : World) (g i : Nat) (u : Value) : w.grownBy (w.setCell ⟨g, i, none⟩ u) (some g) :=
  ⟨rfl, rfl, rfl, by simp [World.setCell], fun k _ hr => Below.heap_setCell w ⟨g, i, none⟩ u k (fun e => hr (by rw [e]))⟩

section
variable {P : Program} (w : World)

theorem run_append_kept (base : Nat) (t ty e : TypeId) (i : TypeInfo) (z : Value) (ht : P.underlying t = some (.slice e)) (hi : P.info? e = some i) (hz : i.zero = some z)
    (hsize : i.size = 1) (hby : i.bytes = 8) (hzs : z.cells.size = 1)
    (v : Value) (n : Nat) (hv : Own w base e v n) (hn : n ≤ 1000000) (ad : Addr) (c : Nat) (u : Value) (hu : w.cell? ad = some u) (h1 : u.oneCell' = true) (hbase : base ≤ w.heap.size) :
    ∃ v' w', (Builtin.append_ #[t, t] ty #[v, .slice (some ad) 1 c]).run P w = .ok v' w' ∧ Kept w w' ∧ w.grownBy w' v.ownBlock := by
  have hnews : ∀ j x, [u][j]? = some x → w.cell? (ad.add j) = some x := by
    intro j x hx
    have : j = 0 := by
      have := (List.getElem?_eq_some_iff.1 hx).1
      simpa using this
    subst this
    simp at hx
    subst hx
    simpa [Addr.add] using hu
  have hone : ∀ x ∈ [u], x.oneCell' = true := by
    intro x hx
    simp at hx
    subst hx
    exact h1
  rcases hv with ⟨rfl, rfl⟩ | ⟨g, cap, cur, rfl, hb, hg, hnc, hcm, hcs⟩
  · obtain ⟨v', w', hr, -, hgr, -⟩ := run_append_own_at (P := P) w base t ty e i z 1 8 ht hi hz hsize hby hzs (by omega) (.slice none 0 0) 0 [] ⟨by simp, .inl ⟨rfl, rfl⟩⟩ ad 1 c [u] (by simp) hnews hone (by unfold maxLen; omega) (by omega) hbase
    exact ⟨v', w', hr, Kept.grown_none hgr, hgr⟩
  · by_cases hroom : n + 1 ≤ cap
    · obtain ⟨xs, hown⟩ : ∃ xs, w.ownsRow base e 1 (.slice (some ⟨g, 0, none⟩) n cap) n xs := Own.row (.inr ⟨g, cap, cur, rfl, hb, hg, hnc, hcm, hcs⟩)
      obtain ⟨w', hr, h2, h3⟩ := run_append_own_spare (P := P) w base t ty e i 1 ht hi hsize g n cap xs hown ad 1 c [u] (by simp) hnews hone hroom
      refine ⟨_, w', hr, ?_, h3⟩
      intro g' cur' e' q
      by_cases hq : g' = g
      · subst hq
        rw [hg] at q
        cases q
        rcases h2.2 with ⟨h0, _⟩ | ⟨g2, cap2, cur2, hv2, -, hg2, -, -, hcs2, -⟩
        · cases h0
        · cases hv2
          exact ⟨cur2, hg2, by omega⟩
      · refine ⟨cur', ?_, rfl⟩
        rw [← q]
        exact h3.block g' (lt_of_block q) (by simpa using hq)
    · have hcell : ∀ j x, (cur.toList.take n)[j]? = some x → w.cell? ((⟨g, 0, none⟩ : Addr).add j) = some x := by
        intro j x hx
        rw [List.getElem?_take] at hx
        split at hx
        · have e : (⟨g, 0, none⟩ : Addr).add j = ⟨g, j, none⟩ := by unfold Addr.add; split <;> simp_all
          rw [e]
          rw [cell_of hg j]
          simpa using hx
        · cases hx
      have hr := run_append_grow (P := P) w t ty e i z ht hi hz ⟨g, 0, none⟩ n cap (cur.toList.take n) (by rw [hsize]; simp; omega) hcell ad 1 c [u] (by rw [hsize]; rfl) hnews (by omega) (by omega) (by
        rw [hby]
        exact growslice_fits (by omega) (by omega))
      exact ⟨_, _, hr, Kept.below (((Below.refl w.heap.size w).drew).alloc (by simp) _), grownOf (((Below.refl w.heap.size w).drew).alloc (by simp) _)⟩

theorem wpList_append_kept {ops : Array Oper} {rest : List Oper} {o : Oper} {a : Act} {Q : Exit → Act → World → Prop} (hgd : o.guard = none) (s x : Operand) (t : TypeId)
    (ho : o.op = .call { callee := .builtin .append, args := #[s, x], argTypes := #[t, t] })
    (base : Nat) (e : TypeId) (i : TypeInfo) (z : Value) (ht : P.underlying t = some (.slice e)) (hi : P.info? e = some i) (hz : i.zero = some z)
    (hsize : i.size = 1) (hby : i.bytes = 8) (hzs : z.cells.size = 1)
    (v : Value) (n : Nat) (hs : a.eval s = v) (hv : Own w base e v n) (hn : n ≤ 1000000) (ad : Addr) (c : Nat) (u : Value) (hx : a.eval x = .slice (some ad) 1 c) (hu : w.cell? ad = some u) (h1 : u.oneCell' = true) (hbase : base ≤ w.heap.size)
    (h : ∀ v' w', Kept w w' → w.grownBy w' v.ownBlock → wpList P ops Q rest (a.put o.dst v') w') : wpList P ops Q (o :: rest) a w := by
  obtain ⟨v', w', hr, h2, h3⟩ := run_append_kept (P := P) w base t o.type e i z ht hi hz hsize hby hzs v n hv hn ad c u hu h1 hbase
  refine wpList_plain hgd fun _ hK => ?_
  unfold Oper.wp execOp
  simp only [ho, resolve, invoke, builtin, Sem.run_bind, Sem.run_pure, Result.andThen_ok, List.map_toArray, List.map_cons, List.map_nil, hs, hx, hr]
  exact hK _ _ (h v' w' h2 h3)
end

theorem overW_one (w : World) : (w.alloc (.cells #[.int .u64 61166] 47)).cell? ⟨w.heap.size, 0, none⟩ = some (.int .u64 61166) := by
  simp

set_option maxHeartbeats 4000000 in
set_option maxRecDepth 100000 in
theorem overW_any (v : Value) (n base : Nat) (w : World) (hv : Own w base 47 v n) (hn : n ≤ 1000000) (hb : base ≤ w.heap.size) :
    Calls Tryz.prog 42 #[v] w fun e w' => e = .returned (.tuple #[]) ∧ Kept w w' ∧ w.grownBy w' v.ownBlock := by
  obtain ⟨i0, hi, hz0, hz1, hz2⟩ := info_parts info37
  have HV := Lib.hid hv
  have HB0 := Lib.hid hb
  rcases hv with ⟨rfl, rfl⟩ | ⟨g, c, cur, rfl, hbg, hg, hnc, hcm, hcs⟩
  · have q1 : ¬ (0 : Int) < 0 := by omega
    clear hb
    go_enter Tryz.func42, Tryz.ntmps42
    go_wp2_with fail
    go_loopw [2] (fun i w2 => i = .int .i64 0 ∧ w2 = w) (fun _ _ => 0)
    case atStart => exact ⟨rfl, rfl⟩
    case round =>
    obtain ⟨rfl, rfl⟩ := hrel
    have HU := Lib.hid (overW_one wr)
    have HE := Lib.hid (one_at wr (.cells #[.int .u64 61166] 47))
    have HBE := Lib.hid (grownOf (row := Value.ownBlock (.slice none 0 0)) ((Below.refl wr.heap.size wr).alloc (Nat.le_refl _) (.cells #[.int .u64 61166] 47)))
    have HBS := Lib.hid (Nat.le_trans HB0.out HBE.out.size)
    have HKE := Lib.hid (Kept.below ((Below.refl wr.heap.size wr).alloc (Nat.le_refl _) (.cells #[.int .u64 61166] 47)))
    go_upto_region 4 with fail
    go_wp2_with (at_builtin; refine wpList_append_kept _ rfl (.tmp 12) (.tmp 13) 22 rfl base 47 i0 _ Tryz.underlying22 hi hz0 hz1 hz2 rfl _ 0 (by rfl) (Own.kept HV.out HKE.out) (by omega) ⟨wr.heap.size, 0, none⟩ 1 _ (by rfl) HU.out rfl HBS.out ?_; intro v1 w1 hk1 hb1; clear hi)
    go_end0
    exact ⟨rfl, HKE.out.trans hk1, grownTrans HBE.out hb1⟩
  · have HG := Lib.hid hg
    have HCS := Lib.hid (show n ≤ cur.size by omega)
    have p2 : (n : Int) ≤ (c : Int) := by omega
    have HBG := Lib.hid hbg
    clear hb hg hcs hbg hcm
    go_enter Tryz.func42, Tryz.ntmps42
    go_wp2_with fail
    go_loopw [2] (fun i wr => ∃ (k : Nat), k ≤ n ∧ i = .int .i64 k ∧ Hid (Kept w wr) ∧ Hid (w.grownBy wr (some g))) (fun i _ => n - (intOf i).toNat)
    case atStart => exact ⟨0, by omega, rfl, Lib.hid (Kept.refl w), Lib.hid (grownOf (Below.refl _ _))⟩
    case round =>
    obtain ⟨k, hk, rfl, HK, HB⟩ := hrel
    have q0 : (0 : Int) ≤ (k : Int) := by omega
    by_cases hlt : k < n
    · have q1 : (k : Int) < (n : Int) := by omega
      obtain ⟨cur2, h2, e2⟩ := HK.out g cur 47 HG.out
      obtain ⟨p, hp⟩ : ∃ p, cur2[k]? = some p := ⟨_, Array.getElem?_eq_getElem (by have := HCS.out; omega)⟩
      have k0 : wr.cell? ⟨g, k, none⟩ = some p := by rw [cell_of h2 k]; exact hp
      have kf := free_of h2 k
      have HK2 := Lib.hid (HK.out.trans (Kept.setCell wr h2 k (.int .u64 61166)))
      have HB2 := Lib.hid (grownTrans HB.out (grown_set wr g k (.int .u64 61166)))
      have QK := Lib.hid (show k + 1 ≤ n ∧ n - (k + 1) < n - k by omega)
      have q5 : IntKind.i64.wrap ((k : Int) + 1) = (k : Int) + 1 := IntWalk.i64_in _ (by omega)
      clear h2 e2 hp
      go_wp2_with fail
      go_roundw
      case rel => exact ⟨k + 1, QK.out.1, by go_num, HK2, HB2⟩
      case measure => clear q5; have := QK.out.2; simp [intOf]; omega
    · have hk2 : k = n := by omega
      subst hk2
      have q1 : ¬ (k : Int) < (k : Int) := by omega
      have HU := Lib.hid (overW_one wr)
      have HBE := Lib.hid (grownTrans HB.out (grownOf ((Below.refl wr.heap.size wr).alloc (Nat.le_refl _) (.cells #[.int .u64 61166] 47))))
      have HKE := Lib.hid (HK.out.trans (Kept.below ((Below.refl wr.heap.size wr).alloc (Nat.le_refl _) (.cells #[.int .u64 61166] 47))))
      have HBS := Lib.hid (Nat.le_trans HB0.out HBE.out.size)
      go_upto_region 4 with fail
      go_wp2_with (at_builtin; refine wpList_append_kept _ rfl (.tmp 12) (.tmp 13) 22 rfl base 47 i0 _ Tryz.underlying22 hi hz0 hz1 hz2 rfl _ k (by rfl) (Own.kept HV.out HKE.out) (by omega) ⟨wr.heap.size, 0, none⟩ 1 _ (by rfl) HU.out rfl HBS.out ?_; intro v1 w1 hk1 hb1; clear hi)
      go_end0
      exact ⟨rfl, HKE.out.trans hk1, grownTrans HBE.out hb1⟩

theorem overI_one (w : World) : (w.alloc (.cells #[.int .i64 (-999)] 3)).cell? ⟨w.heap.size, 0, none⟩ = some (.int .i64 (-999)) := by
  simp

set_option maxHeartbeats 4000000 in
set_option maxRecDepth 100000 in
theorem overI_any (v : Value) (n base : Nat) (w : World) (hv : Own w base 3 v n) (hn : n ≤ 1000000) (hb : base ≤ w.heap.size) :
    Calls Tryz.prog 43 #[v] w fun e w' => e = .returned (.tuple #[]) ∧ Kept w w' ∧ w.grownBy w' v.ownBlock := by
  obtain ⟨i0, hi, hz0, hz1, hz2⟩ := info_parts info3
  have HV := Lib.hid hv
  have HB0 := Lib.hid hb
  rcases hv with ⟨rfl, rfl⟩ | ⟨g, c, cur, rfl, hbg, hg, hnc, hcm, hcs⟩
  · have q1 : ¬ (0 : Int) < 0 := by omega
    clear hb
    go_enter Tryz.func43, Tryz.ntmps43
    go_wp2_with fail
    go_loopw [2] (fun i w2 => i = .int .i64 0 ∧ w2 = w) (fun _ _ => 0)
    case atStart => exact ⟨rfl, rfl⟩
    case round =>
    obtain ⟨rfl, rfl⟩ := hrel
    have HU := Lib.hid (overI_one wr)
    have HE := Lib.hid (one_at wr (.cells #[.int .i64 (-999)] 3))
    have HBE := Lib.hid (grownOf (row := Value.ownBlock (.slice none 0 0)) ((Below.refl wr.heap.size wr).alloc (Nat.le_refl _) (.cells #[.int .i64 (-999)] 3)))
    have HBS := Lib.hid (Nat.le_trans HB0.out HBE.out.size)
    have HKE := Lib.hid (Kept.below ((Below.refl wr.heap.size wr).alloc (Nat.le_refl _) (.cells #[.int .i64 (-999)] 3)))
    go_upto_region 4 with fail
    go_wp2_with (at_builtin; refine wpList_append_kept _ rfl (.tmp 12) (.tmp 13) 26 rfl base 3 i0 _ Tryz.underlying26 hi hz0 hz1 hz2 rfl _ 0 (by rfl) (Own.kept HV.out HKE.out) (by omega) ⟨wr.heap.size, 0, none⟩ 1 _ (by rfl) HU.out rfl HBS.out ?_; intro v1 w1 hk1 hb1; clear hi)
    go_end0
    exact ⟨rfl, HKE.out.trans hk1, grownTrans HBE.out hb1⟩
  · have HG := Lib.hid hg
    have HCS := Lib.hid (show n ≤ cur.size by omega)
    have p2 : (n : Int) ≤ (c : Int) := by omega
    have HBG := Lib.hid hbg
    clear hb hg hcs hbg hcm
    go_enter Tryz.func43, Tryz.ntmps43
    go_wp2_with fail
    go_loopw [2] (fun i wr => ∃ (k : Nat), k ≤ n ∧ i = .int .i64 k ∧ Hid (Kept w wr) ∧ Hid (w.grownBy wr (some g))) (fun i _ => n - (intOf i).toNat)
    case atStart => exact ⟨0, by omega, rfl, Lib.hid (Kept.refl w), Lib.hid (grownOf (Below.refl _ _))⟩
    case round =>
    obtain ⟨k, hk, rfl, HK, HB⟩ := hrel
    have q0 : (0 : Int) ≤ (k : Int) := by omega
    by_cases hlt : k < n
    · have q1 : (k : Int) < (n : Int) := by omega
      obtain ⟨cur2, h2, e2⟩ := HK.out g cur 3 HG.out
      obtain ⟨p, hp⟩ : ∃ p, cur2[k]? = some p := ⟨_, Array.getElem?_eq_getElem (by have := HCS.out; omega)⟩
      have k0 : wr.cell? ⟨g, k, none⟩ = some p := by rw [cell_of h2 k]; exact hp
      have kf := free_of h2 k
      have HK2 := Lib.hid (HK.out.trans (Kept.setCell wr h2 k (.int .i64 (-999))))
      have HB2 := Lib.hid (grownTrans HB.out (grown_set wr g k (.int .i64 (-999))))
      have QK := Lib.hid (show k + 1 ≤ n ∧ n - (k + 1) < n - k by omega)
      have q5 : IntKind.i64.wrap ((k : Int) + 1) = (k : Int) + 1 := IntWalk.i64_in _ (by omega)
      clear h2 e2 hp
      go_wp2_with fail
      go_roundw
      case rel => exact ⟨k + 1, QK.out.1, by go_num, HK2, HB2⟩
      case measure => clear q5; have := QK.out.2; simp [intOf]; omega
    · have hk2 : k = n := by omega
      subst hk2
      have q1 : ¬ (k : Int) < (k : Int) := by omega
      have HU := Lib.hid (overI_one wr)
      have HBE := Lib.hid (grownTrans HB.out (grownOf ((Below.refl wr.heap.size wr).alloc (Nat.le_refl _) (.cells #[.int .i64 (-999)] 3))))
      have HKE := Lib.hid (HK.out.trans (Kept.below ((Below.refl wr.heap.size wr).alloc (Nat.le_refl _) (.cells #[.int .i64 (-999)] 3))))
      have HBS := Lib.hid (Nat.le_trans HB0.out HBE.out.size)
      go_upto_region 4 with fail
      go_wp2_with (at_builtin; refine wpList_append_kept _ rfl (.tmp 12) (.tmp 13) 26 rfl base 3 i0 _ Tryz.underlying26 hi hz0 hz1 hz2 rfl _ k (by rfl) (Own.kept HV.out HKE.out) (by omega) ⟨wr.heap.size, 0, none⟩ 1 _ (by rfl) HU.out rfl HBS.out ?_; intro v1 w1 hk1 hb1; clear hi)
      go_end0
      exact ⟨rfl, HKE.out.trans hk1, grownTrans HBE.out hb1⟩

end Go.Proofs.YtlmpmjhanpkcnaaGreat

namespace Go.Proofs.YtlmpmjhanpkcnaaGreat
open Go.RowKit Go.Maps

theorem Own.shape {w : World} {base : Nat} {e : TypeId} {v : Value} {n : Nat} (h : Own w base e v n) : ∃ b c, v = .slice b n c := by
  rcases h with ⟨rfl, rfl⟩ | ⟨g, c, cur, rfl, -⟩
  · exact ⟨none, 0, rfl⟩
  · exact ⟨_, c, rfl⟩

theorem Own.far {w : World} {base : Nat} {e : TypeId} {v : Value} {n : Nat} (h : Own w base e v n) : some w.heap.size ≠ v.ownBlock ∧ (∀ k, v.ownBlock = some k → base ≤ k) := by
  rcases h with ⟨rfl, rfl⟩ | ⟨g, c, cur, rfl, hb, hg, -⟩
  · exact ⟨by simp [Value.ownBlock], by simp [Value.ownBlock]⟩
  · have := lt_of_block hg
    refine ⟨fun e => ?_, fun k e => ?_⟩
    · simp [Value.ownBlock] at e; omega
    · simp [Value.ownBlock] at e; omega

set_option maxHeartbeats 8000000 in
set_option maxRecDepth 100000 in
theorem overDump_any (a0 a2 a3 : Int) (yv rv hv : Value) (ny nr nh base : Nat) (w : World) (hy : Own w base 47 yv ny) (hr : Own w base 47 rv nr) (hh : Own w base 3 hv nh) (hyn : ny ≤ 1000000) (hrn : nr ≤ 1000000) (hhn : nh ≤ 1000000) (hb : base ≤ w.heap.size) :
    Calls Tryz.prog 18 #[.agg #[.int .i64 a0, yv, .int .i64 0, .slice none 0 0, .int .i64 a2, .int .i64 a3, .slice none 0 0, rv, hv]] w fun e w' => e = .returned (.tuple #[]) ∧ Below base w w' := by
  obtain ⟨by_, cy, rfl⟩ := hy.shape
  obtain ⟨br, cr, rfl⟩ := hr.shape
  obtain ⟨bh, ch, rfl⟩ := hh.shape
  have HY := Lib.hid hy
  have HR := Lib.hid hr
  have HH := Lib.hid hh
  have HB0 := Lib.hid hb
  have T := one_at w (.cells #[.int .i64 a0, .slice by_ ny cy, .int .i64 0, .slice none 0 0, .int .i64 a2, .int .i64 a3, .slice none 0 0, .slice br nr cr, .slice bh nh ch] 28)
  have HN := Lib.hid (show ∀ V : World, Own V base 47 (.slice none 0 0) 0 from fun V => .inl ⟨rfl, rfl⟩)
  clear hy hr hh hb
  go_enter Tryz.func18, Tryz.ntmps18
  go_upto_region 1 with fail
  have K0 := Lib.hid (Kept.below ((Below.refl w.heap.size w).alloc (Nat.le_refl _) (.cells #[.int .i64 a0, .slice by_ ny cy, .int .i64 0, .slice none 0 0, .int .i64 a2, .int .i64 a3, .slice none 0 0, .slice br nr cr, .slice bh nh ch] 28)))
  have B0 := Lib.hid ((Below.refl base w).alloc HB0.out (.cells #[.int .i64 a0, .slice by_ ny cy, .int .i64 0, .slice none 0 0, .int .i64 a2, .int .i64 a3, .slice none 0 0, .slice br nr cr, .slice bh nh ch] 28))
  have HNE := Lib.hid (show ∀ (v : Value) (e : TypeId) (n : Nat), Own w base e v n → some w.heap.size ≠ v.ownBlock ∧ (∀ k, v.ownBlock = some k → base ≤ k) from fun v e n h => h.far)
  have HW := Lib.hid (show (w.alloc (.cells #[.int .i64 a0, .slice by_ ny cy, .int .i64 0, .slice none 0 0, .int .i64 a2, .int .i64 a3, .slice none 0 0, .slice br nr cr, .slice bh nh ch] 28)).heap[w.heap.size]? = some (Obj.cells #[.int .i64 a0, .slice by_ ny cy, .int .i64 0, .slice none 0 0, .int .i64 a2, .int .i64 a3, .slice none 0 0, .slice br nr cr, .slice bh nh ch] 28 (0, 0)) from T.1)
  have HS := Lib.hid (show w.heap.size < (w.alloc (.cells #[.int .i64 a0, .slice by_ ny cy, .int .i64 0, .slice none 0 0, .int .i64 a2, .int .i64 a3, .slice none 0 0, .slice br nr cr, .slice bh nh ch] 28)).heap.size by simp)
  clear T
  generalize w.alloc (.cells #[.int .i64 a0, .slice by_ ny cy, .int .i64 0, .slice none 0 0, .int .i64 a2, .int .i64 a3, .slice none 0 0, .slice br nr cr, .slice bh nh ch] 28) = V0 at *
  have x1 := cell_of HW.out 1
  simp at x1
  go_wp2_with fail
  refine (overW_any _ ny base V0 (HY.out.kept K0.out) hyn (Nat.le_trans HB0.out (Nat.le_of_lt HS.out))).mono ?_
  rintro _ V1 ⟨rfl, k1, g1⟩
  have K1 := Lib.hid (K0.out.trans k1)
  have B1 := Lib.hid (B0.out.grown g1 (Nat.le_trans HB0.out (Nat.le_of_lt HS.out)) (HNE.out _ _ _ HY.out).2)
  have HW1 := Lib.hid ((g1.block _ HS.out (HNE.out _ _ _ HY.out).1).trans HW.out)
  have HS1 := Lib.hid (Nat.lt_of_lt_of_le HS.out g1.size)
  clear k1 g1 x1 HW HS K0 B0
  dsimp only
  have x3 := cell_of HW1.out 3
  simp at x3
  go_wp2_with fail
  refine (overW_any _ 0 base V1 (HN.out V1) (by omega) (Nat.le_trans HB0.out (Nat.le_of_lt HS1.out))).mono ?_
  rintro _ V2 ⟨rfl, k1, g1⟩
  have K2 := Lib.hid (K1.out.trans k1)
  have B2 := Lib.hid (B1.out.grown g1 (Nat.le_trans HB0.out (Nat.le_of_lt HS1.out)) (by simp [Value.ownBlock]))
  have HW2 := Lib.hid ((g1.block _ HS1.out (by simp [Value.ownBlock])).trans HW1.out)
  have HS2 := Lib.hid (Nat.lt_of_lt_of_le HS1.out g1.size)
  clear k1 g1 x3 HW1 HS1 K1 B1
  dsimp only
  have x6 := cell_of HW2.out 6
  have x7 := cell_of HW2.out 7
  have x8 := cell_of HW2.out 8
  simp at x6 x7 x8
  have q1 : ¬ (0 : Int) < 0 := by omega
  go_wp2_with fail
  go_loopw [2] (fun i w2 => i = .int .i64 0 ∧ w2 = V2) (fun _ _ => 0)
  case atStart => exact ⟨rfl, rfl⟩
  case round =>
  obtain ⟨rfl, rfl⟩ := hrel
  go_wp2_with fail
  refine (overW_any _ nr base wr (HR.out.kept K2.out) hrn (Nat.le_trans HB0.out (Nat.le_of_lt HS2.out))).mono ?_
  rintro _ V3 ⟨rfl, k1, g1⟩
  have K3 := Lib.hid (K2.out.trans k1)
  have B3 := Lib.hid (B2.out.grown g1 (Nat.le_trans HB0.out (Nat.le_of_lt HS2.out)) (HNE.out _ _ _ HR.out).2)
  have HW3 := Lib.hid ((g1.block _ HS2.out (HNE.out _ _ _ HR.out).1).trans HW2.out)
  have HS3 := Lib.hid (Nat.lt_of_lt_of_le HS2.out g1.size)
  clear k1 g1 x6 x7 x8 HW2 HS2 K2 B2
  dsimp only
  have x8 := cell_of HW3.out 8
  simp at x8
  go_wp2_with fail
  refine (overI_any _ nh base V3 (HH.out.kept K3.out) hhn (Nat.le_trans HB0.out (Nat.le_of_lt HS3.out))).mono ?_
  rintro _ V4 ⟨rfl, k1, g1⟩
  have B4 := Lib.hid (B3.out.grown g1 (Nat.le_trans HB0.out (Nat.le_of_lt HS3.out)) (HNE.out _ _ _ HH.out).2)
  clear k1 g1
  dsimp only
  go_wp2_with fail
  go_end0
  exact ⟨rfl, B4.out⟩

end Go.Proofs.YtlmpmjhanpkcnaaGreat

namespace Go.Proofs.YtlmpmjhanpkcnaaGreat
open Go.RowKit Go.Maps

/-- Rows of one's own that hold what they hold. -/
def RowsK (V : World) (B : Nat) (L : List (TypeId × Value × List Value)) : Prop := ∀ p ∈ L, p.1 ≠ 24 ∧ V.ownsRow B p.1 1 p.2.1 p.2.2.length p.2.2

theorem size_setc (w : World) (p : Addr) (u : Value) : (w.setCell p u).heap.size = w.heap.size := by simp [World.setCell]

theorem own_far2 {w w' : World} {B size n : Nat} {e : TypeId} {v : Value} {xs : List Value} (h : w.ownsRow B e size v n xs) (hk : ∀ g ob, B ≤ g → w.heap[g]? = some ob → w'.heap[g]? = w.heap[g]?) : w'.ownsRow B e size v n xs := by
  refine ⟨h.1, ?_⟩
  rcases h.2 with q | ⟨g, cap, cur, e1, e2, e3, r⟩
  · exact .inl q
  · exact .inr ⟨g, cap, cur, e1, e2, (hk g _ e2 e3).trans e3, r⟩

theorem reads_frag (x : Int) (b : Value) (w : World) : Reads (w.alloc (.cells #[.int .i64 x, b] 24)) (w.heap.size + 1) 2 (some ⟨w.heap.size, 0, none⟩) 1 [.int .i64 x, b] := by
  refine ⟨rfl, fun _ => ⟨_, rfl, Nat.lt_succ_self _, fun j u hj => ?_⟩⟩
  match j, hj with
  | 0, hj =>
    simp at hj
    subst hj
    simp [Addr.add]
  | 1, hj =>
    simp at hj
    subst hj
    simp [Addr.add]
  | j + 2, hj => simp at hj

theorem frag_one (x : Int) (b : Option Addr) (n c : Nat) : ∀ u ∈ [Value.int .i64 x, .slice b n c], u.oneCell' = true := by
  intro u hu
  simp at hu
  rcases hu with rfl | rfl <;> rfl

theorem own_far {w w' : World} {B : Nat} {e : TypeId} {v : Value} {n : Nat} {xs : List Value} (h : w.ownsRow B e 1 v n xs) (hk : ∀ g cur, B ≤ g → w.heap[g]? = some (.cells cur e (0, 0)) → w'.heap[g]? = w.heap[g]?) : w'.ownsRow B e 1 v n xs := by
  refine ⟨h.1, ?_⟩
  rcases h.2 with q | ⟨g, cap, cur, e1, e2, e3, r⟩
  · exact .inl q
  · exact .inr ⟨g, cap, cur, e1, e2, (hk g cur e2 e3).trans e3, r⟩

theorem RowsK.none_ {V w' : World} {B : Nat} {L : List (TypeId × Value × List Value)} (h : RowsK V B L) (hg : V.grownBy w' none) : RowsK w' B L := fun p hp =>
  ⟨(h p hp).1, own_far (h p hp).2 fun g _ _ q => hg.block g (lt_of_block q) (by simp)⟩

theorem RowsK.some_ {V w' : World} {B n : Nat} {v : Value} {xs : List Value} {L : List (TypeId × Value × List Value)} (h : RowsK V B L) (ho : V.ownsRow B 24 2 v n xs) (hg : V.grownBy w' v.ownBlock) : RowsK w' B L := fun p hp =>
  ⟨(h p hp).1, own_far (h p hp).2 fun g cur _ q => hg.block g (lt_of_block q) (by
    rcases ho.2 with ⟨rfl, _⟩ | ⟨g2, c2, cur2, rfl, _, e2, _⟩
    · simp [Value.ownBlock]
    · intro e
      simp [Value.ownBlock] at e
      subst e
      rw [q] at e2
      simp only [Option.some.injEq, Obj.cells.injEq] at e2
      exact (h p hp).1 e2.2.1)⟩

theorem RowsK.set {V : World} {B : Nat} {L : List (TypeId × Value × List Value)} (h : RowsK V B L) {b i : Nat} (hb : b < B) (u : Value) : RowsK (V.setCell ⟨b, i, none⟩ u) B L := fun p hp =>
  ⟨(h p hp).1, own_far (h p hp).2 fun g _ hB _ => Below.heap_setCell V ⟨b, i, none⟩ u g (fun e => by simp at e; omega)⟩

theorem RowsK.alloc {V : World} {B : Nat} {L : List (TypeId × Value × List Value)} (h : RowsK V B L) (ob : Obj) : RowsK (V.alloc ob) B L := fun p hp =>
  ⟨(h p hp).1, World.ownsRow.alloc (h p hp).2 ob⟩

theorem RowsK.cons {V : World} {B n : Nat} {e : TypeId} {v : Value} {xs : List Value} {L : List (TypeId × Value × List Value)} (h : RowsK V B L) (ho : V.ownsRow B e 1 v n xs) (hn : xs.length = n) (he : e ≠ 24) : RowsK V B ((e, v, xs) :: L) := by
  intro p hp
  rcases List.mem_cons.1 hp with rfl | hp
  · exact ⟨he, by rw [hn]; exact ho⟩
  · exact h p hp

/-- A row's cells hold regions whose words lie in such rows. -/
def HeldL (L : List (TypeId × Value × List Value)) : List Value → List Frg → Prop
  | [], [] => True
  | a :: b :: r, f :: m => ((-9223372036854775808 ≤ f.1 ∧ f.1 ≤ 9223372036854775807) ∧ a = .int .i64 f.1 ∧ (∃ wb wc, b = .slice wb f.2.length wc) ∧ (47, b, csW f.2) ∈ L) ∧ HeldL L r m
  | _, _ => False

theorem HeldL.more {L L' : List (TypeId × Value × List Value)} (hL : ∀ p ∈ L, p ∈ L') : ∀ {xs : List Value} {m : List Frg}, HeldL L xs m → HeldL L' xs m
  | [], [], _ => trivial
  | _ :: _ :: _, _ :: _, h => ⟨⟨h.1.1, h.1.2.1, h.1.2.2.1, hL _ h.1.2.2.2⟩, HeldL.more hL h.2⟩
  | [], _ :: _, h => by cases h
  | [_], _, h => by simp [HeldL] at h
  | _ :: _ :: _, [], h => by cases h

theorem HeldL.snoc {L : List (TypeId × Value × List Value)} {f : Frg} {a b : Value} (hf : (-9223372036854775808 ≤ f.1 ∧ f.1 ≤ 9223372036854775807) ∧ a = .int .i64 f.1 ∧ (∃ wb wc, b = .slice wb f.2.length wc) ∧ (47, b, csW f.2) ∈ L) : ∀ {xs : List Value} {m : List Frg}, HeldL L xs m → HeldL L (xs ++ [a, b]) (m ++ [f])
  | [], [], _ => ⟨hf, trivial⟩
  | _ :: _ :: _, _ :: _, h => ⟨h.1, HeldL.snoc hf h.2⟩
  | [], _ :: _, h => by cases h
  | [_], _, h => by simp [HeldL] at h
  | _ :: _ :: _, [], h => by cases h

theorem rows_ws {V : World} {B : Nat} {L : List (TypeId × Value × List Value)} (h : RowsK V B L) {v : Value} {l : List Nat} (hp : (47, v, csW l) ∈ L) (hl : l.length ≤ 1000000) (hb : ∀ x ∈ l, x < 18446744073709551616) : Ws V v l := by
  have := (h _ hp).2
  have e : (csW l).length = l.length := by simp [csW]
  simp only [e] at this
  exact Ws.of_own this hl hb

theorem HeldL.held {V : World} {B : Nat} {L : List (TypeId × Value × List Value)} (hK : RowsK V B L) : ∀ {xs : List Value} {m : List Frg}, HeldL L xs m → (∀ f ∈ m, f.2.length ≤ 1000000 ∧ ∀ x ∈ f.2, x < 18446744073709551616) → Held V xs m
  | [], [], _, _ => trivial
  | _ :: _ :: _, f :: _, h, hb => by
    obtain ⟨⟨h1, rfl, ⟨wb, wc, rfl⟩, h4⟩, h5⟩ := h
    have hf := hb f (by simp)
    exact ⟨⟨h1, rfl, wb, wc, rfl, rows_ws hK h4 hf.1 hf.2⟩, HeldL.held hK h5 fun g hg => hb g (by simp [hg])⟩
  | [], _ :: _, h, _ => by cases h
  | [_], _, h, _ => by simp [HeldL] at h
  | _ :: _ :: _, [], h, _ => by cases h

theorem HeldL.one {L : List (TypeId × Value × List Value)} : ∀ {xs : List Value} {m : List Frg}, HeldL L xs m → xs.length = m.length * 2
  | [], [], _ => rfl
  | _ :: _ :: r, _ :: m, h => by have := HeldL.one h.2; simp only [List.length_cons]; omega
  | [], _ :: _, h => by cases h
  | [_], _, h => by simp [HeldL] at h
  | _ :: _ :: _, [], h => by cases h

theorem is_of_own {w : World} {base : Nat} {v : Value} {l : List Int} (h : w.ownsRow base 3 1 v l.length (csI l)) (hl : l.length ≤ 1000000) (hb : ∀ x ∈ l, -9223372036854775808 ≤ x ∧ x ≤ 9223372036854775807) : Is w v l := by
  refine ⟨by unfold maxLen; omega, hb, ?_⟩
  rcases h.2 with ⟨rfl, h0⟩ | ⟨g, cap, cur, rfl, hbg, hg, hnc, hcm, hcs, htake⟩
  · exact ⟨none, 0, by rw [h0], by omega, by unfold maxLen; omega, fun j hj => by omega⟩
  · refine ⟨some ⟨g, 0, none⟩, cap, rfl, hnc, hcm, fun j hj => ⟨g, 0, rfl, ?_⟩⟩
    have hk : (csI l)[j]? = some (.int .i64 l[j]) := by simp [csI, List.getElem?_eq_getElem hj]
    rw [← htake, List.getElem?_take] at hk
    have hk' : cur[j]? = some (.int .i64 l[j]) := by
      split at hk
      · simpa using hk
      · cases hk
    simp [World.cell?, hg, hk']

theorem Is.readsI {w : World} {a : Option Addr} {n c : Nat} {l : List Int} (h : Is w (.slice a n c) l) : Reads w w.heap.size 1 a n (csI l) := by
  obtain ⟨-, -, a', c', he, -, -, hx⟩ := h
  simp only [Value.slice.injEq] at he
  obtain ⟨rfl, hn, -⟩ := he
  refine ⟨by simp [csI, hn], fun h0 => ?_⟩
  obtain ⟨g, o, rfl, k0⟩ := hx 0 (by omega)
  refine ⟨_, rfl, World.block_lt_of_cell? w _ k0, fun j u hu => ?_⟩
  have hj : j < l.length := by
    rcases Nat.lt_or_ge j l.length with q | q
    · exact q
    · rw [List.getElem?_eq_none (by simp [csI]; omega)] at hu; cases hu
  obtain ⟨g', o', e, kj⟩ := hx j hj
  cases e
  simp [csI, List.getElem?_eq_getElem hj] at hu
  subst hu
  by_cases h0 : j = 0
  · subst h0; simpa [Addr.add] using kj
  · simpa [Addr.add, h0] using kj

theorem rs_nil {w : World} {a : Option Addr} {c : Nat} : RsAt w (.slice a 0 c) [] := ⟨by simp, a, c, rfl, fun j hj => by cases hj⟩

theorem both_set {V : World} {B n b i : Nat} {v u : Value} {xs : List Value} {RL : List (TypeId × Value × List Value)} (h : RowsK V B RL ∧ V.ownsRow B 24 2 v n xs) (hb : b < B) : RowsK (V.setCell ⟨b, i, none⟩ u) B RL ∧ (V.setCell ⟨b, i, none⟩ u).ownsRow B 24 2 v n xs :=
  ⟨h.1.set hb u, own_far2 h.2 fun g _ hB _ => Below.heap_setCell V ⟨b, i, none⟩ u g (fun e => by simp at e; omega)⟩

/-- The copy, laid together. -/
theorem copy_done {w V : World} {B : Nat} {d : Dmp} {v : Value} {RL : List (TypeId × Value × List Value)} {a1 a2 a3 a4 fb : Option Addr} {c1 c2 c3 c4 fc : Nat} {xs : List Value} (hd : DmAt w v d) (hKF : RowsK V B RL ∧ V.ownsRow B 24 2 (.slice fb d.frags.length fc) d.frags.length xs) (hH : HeldL RL xs d.frags)
    (h1 : (47, .slice a1 d.young.2.length c1, csW d.young.2) ∈ RL) (h2 : (47, .slice a2 d.old.2.length c2, csW d.old.2) ∈ RL) (h3 : (47, .slice a3 d.roots.length c3, csW d.roots) ∈ RL) (h4 : (3, .slice a4 d.handles.length c4, csI d.handles) ∈ RL)
    (b1 : ∀ f ∈ d.mem, f.2.length ≤ 1000) (b2 : d.roots.length ≤ 1000) (b3 : d.handles.length ≤ 1000) :
    DmAt V (.agg #[.int .i64 d.young.1, .slice a1 d.young.2.length c1, .int .i64 d.old.1, .slice a2 d.old.2.length c2, .int .i64 d.size, .int .i64 d.mark, .slice fb d.frags.length fc, .slice a3 d.roots.length c3, .slice a4 d.handles.length c4]) d := by
  obtain ⟨hK, hF⟩ := hKF
  obtain ⟨_, _, _, _, _, _, _, -, ⟨q1, -, _, _, -, w1⟩, ⟨q2, -, _, _, -, w2⟩, q3, q4, ⟨q5, fa, fcap, -, hfr⟩, w6, ⟨-, w7, -⟩⟩ := hd
  have hb1 : d.young.2.length ≤ 1000 := b1 _ (by simp [Dmp.mem])
  have hb2 : d.old.2.length ≤ 1000 := b1 _ (by simp [Dmp.mem])
  refine ⟨_, _, _, _, _, _, _, rfl, ⟨q1, rfl, _, _, rfl, rows_ws hK h1 (by omega) w1.2.1⟩, ⟨q2, rfl, _, _, rfl, rows_ws hK h2 (by omega) w2.2.1⟩, q3, q4, ?_, rows_ws hK h3 (by omega) w6.2.1, ?_⟩
  · rcases Nat.eq_zero_or_pos d.frags.length with h0 | h0
    · have e : d.frags = [] := List.eq_nil_of_length_eq_zero h0
      rw [e]
      exact rs_nil
    · refine rs_of_own hF rfl (hH.held hK fun f hf => ?_) h0
      obtain ⟨j, hj, rfl⟩ := List.getElem_of_mem hf
      obtain ⟨_, _, _, _, _, _, _, _, hw⟩ := hfr j hj
      have := b1 d.frags[j] (by simp [Dmp.mem])
      exact ⟨by omega, hw.2.1⟩
  · have := (hK _ h4).2
    have e : (csI d.handles).length = d.handles.length := by simp [csI]
    simp only [e] at this
    exact is_of_own this (by omega) w7

end Go.Proofs.YtlmpmjhanpkcnaaGreat
