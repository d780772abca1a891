/-
  The first word whose sentence is not so: look.Why.
-/
import Derived.Test.YtohgkfnbjfhniaaXw
namespace Go.Proofs.Ytohgkfnbjfhniaa
open Go.RowKit Go.Maps

/-- How great a dump may be here. -/
structure DmOk (d : Dmp) : Prop where
  frags : d.frags.length ≤ 100000
  words : wordsN d.mem ≤ 5000
  roots : d.roots.length ≤ 1000
  handles : d.handles.length ≤ 1000

/-- Is all of a dump right? -/
def WhyP (d : Dmp) (S : List Slt) : Prop := regionsP d = true ∧ rootsP true S d = true ∧ oldP d.old = true ∧ HandlesRight d S

open Classical in
noncomputable def whyT (d : Dmp) (S : List Slt) : ByteArray :=
  if regionsP d = false then ⟨#[114, 101, 103, 105, 111, 110, 115]⟩ else if rootsP true S d = false then ⟨#[114, 111, 111, 116, 115]⟩ else if oldP d.old = false then ⟨#[111, 108, 100]⟩
  else if HandlesRight d S then ⟨#[]⟩ else ⟨#[104, 97, 110, 100, 108, 101, 115]⟩

theorem whyT_empty (d : Dmp) (S : List Slt) : whyT d S = ⟨#[]⟩ ↔ WhyP d S := by
  unfold whyT WhyP
  cases regionsP d <;> cases rootsP true S d <;> cases oldP d.old <;> simp

theorem whyT_1 {d : Dmp} {S : List Slt} (h : regionsP d = false) : whyT d S = ⟨#[114, 101, 103, 105, 111, 110, 115]⟩ := by unfold whyT; rw [if_pos h]
theorem whyT_2 {d : Dmp} {S : List Slt} (h : regionsP d = true) (h2 : rootsP true S d = false) : whyT d S = ⟨#[114, 111, 111, 116, 115]⟩ := by unfold whyT; rw [if_neg (by rw [h]; decide), if_pos h2]
theorem whyT_3 {d : Dmp} {S : List Slt} (h : regionsP d = true) (h2 : rootsP true S d = true) (h3 : oldP d.old = false) : whyT d S = ⟨#[111, 108, 100]⟩ := by
  unfold whyT; rw [if_neg (by rw [h]; decide), if_neg (by rw [h2]; decide), if_pos h3]
theorem whyT_4 {d : Dmp} {S : List Slt} (h : regionsP d = true) (h2 : rootsP true S d = true) (h3 : oldP d.old = true) {b : Bool} (hb : b = true ↔ HandlesRight d S) : whyT d S = if b = true then ⟨#[]⟩ else ⟨#[104, 97, 110, 100, 108, 101, 115]⟩ := by
  unfold whyT; rw [if_neg (by rw [h]; decide), if_neg (by rw [h2]; decide), if_neg (by rw [h3]; decide)]
  cases b with
  | true => rw [if_pos (hb.1 rfl), if_pos rfl]
  | false => rw [if_neg (fun q => by have := hb.2 q; cases this), if_neg (by decide)]

set_option maxHeartbeats 8000000 in
set_option maxRecDepth 100000 in
theorem why_any (d : Dmp) (S : List Slt) (v sv : Value) (w : World) (hd : DmAt w v d) (hS : SlAt w sv S) (hok : DmOk d) :
    Calls Try.prog 8 #[v, sv] w fun e w' => e = .returned (.string (whyT d S)) ∧ Below w.heap.size w w' := by
  have HD := Lib.hid hd
  have HSL := Lib.hid hS
  have HOK := Lib.hid hok
  have HO := Lib.hid (show d.old.2.length ≤ 1000000 by have := wordsN_mem (m := d.mem) (f := d.old) (by simp [Dmp.mem]); have := hok.words; omega)
  obtain ⟨a, b, a', b', f, r, h, rfl, ⟨-, rfl, wa1, wc1, rfl, -⟩, ⟨-, rfl, wa2, wc2, rfl, -⟩, -, -, ⟨-, fa, fc, rfl, -⟩, ⟨-, -, ra, rc, rfl, -⟩, ⟨-, -, ha, hc, rfl, -⟩⟩ := hd
  obtain ⟨-, sa, sc, rfl, -⟩ := hS
  clear hok
  have T := one_at w (.cells #[.int .i64 d.young.1, .slice wa1 d.young.2.length wc1, .int .i64 d.old.1, .slice wa2 d.old.2.length wc2, .int .i64 d.size, .int .i64 d.mark, .slice fa d.frags.length fc, .slice ra d.roots.length rc, .slice ha d.handles.length hc] 28)
  obtain ⟨b1, hb1⟩ : ∃ b, regionsP d = b := ⟨_, rfl⟩
  obtain ⟨b2, hb2⟩ : ∃ b, rootsP true S d = b := ⟨_, rfl⟩
  obtain ⟨b3, hb3⟩ : ∃ b, oldP d.old = b := ⟨_, rfl⟩
  have E1 := Lib.hid hb1
  have E2 := Lib.hid hb2
  have E3 := Lib.hid hb3
  obtain ⟨t, ht⟩ : ∃ t, whyT d S = t := ⟨_, rfl⟩
  have ET := Lib.hid ht
  rw [ht]
  clear hb1 hb2 hb3 ht
  go_enter Try.func8, Try.ntmps8
  go_wp2_with fail
  generalize w.alloc (.cells #[.int .i64 d.young.1, .slice wa1 d.young.2.length wc1, .int .i64 d.old.1, .slice wa2 d.old.2.length wc2, .int .i64 d.size, .int .i64 d.mark, .slice fa d.frags.length fc, .slice ra d.roots.length rc, .slice ha d.handles.length hc] 28) = W at *
  have X0 := Lib.hid T.1
  have XB := Lib.hid T.2.2
  clear T
  refine (regions_any d _ W (HD.out.below XB.out) HOK.out.frags HOK.out.words).mono ?_
  rintro e w2 ⟨rfl, hb⟩
  have Y0 := Lib.hid ((hb.block w.heap.size (lt_of_block X0.out)).trans X0.out)
  have YB := Lib.hid (XB.out.trans (hb.mono XB.out.size))
  clear hb
  rw [E1.out]
  have c := fun i => cell_of Y0.out i
  cases b1 with
  | false =>
    have ET := Lib.hid (show t = ⟨#[114, 101, 103, 105, 111, 110, 115]⟩ by rw [← ET.out]; exact whyT_1 E1.out)
    clear c
    go_wp2_with fail
    go_ret
    exact ⟨by rw [ET.out]; rfl, YB.out⟩
  | true =>
    go_wp2_with fail
    refine (roots_any true S d _ _ w2 (HD.out.below YB.out) (HSL.out.below YB.out) HOK.out.frags).mono ?_
    rintro e w3 ⟨rfl, hb⟩
    have Z0 := Lib.hid ((hb.block w.heap.size (lt_of_block Y0.out)).trans Y0.out)
    have ZB := Lib.hid (YB.out.trans (hb.mono YB.out.size))
    clear hb c
    rw [E2.out]
    have c := fun i => cell_of Z0.out i
    cases b2 with
    | false =>
      have ET := Lib.hid (show t = ⟨#[114, 111, 111, 116, 115]⟩ by rw [← ET.out]; exact whyT_2 E1.out E2.out)
      clear c
      go_wp2_with fail
      go_ret
      exact ⟨by rw [ET.out]; rfl, ZB.out⟩
    | true =>
      go_wp2_with fail
      refine (old_any d _ w3 (HD.out.below ZB.out) HO.out).mono ?_
      rintro e w4 ⟨rfl, hb⟩
      have V0 := Lib.hid ((hb.block w.heap.size (lt_of_block Z0.out)).trans Z0.out)
      have VB := Lib.hid (ZB.out.trans (hb.mono ZB.out.size))
      clear hb c
      rw [E3.out]
      have c := fun i => cell_of V0.out i
      cases b3 with
      | false =>
        have ET := Lib.hid (show t = ⟨#[111, 108, 100]⟩ by rw [← ET.out]; exact whyT_3 E1.out E2.out E3.out)
        clear c
        go_wp2_with fail
        go_ret
        exact ⟨by rw [ET.out]; rfl, VB.out⟩
      | true =>
        go_wp2_with fail
        have HC := lookHandles_any d S _ _ w4 (HD.out.below VB.out) (HSL.out.below VB.out) HOK.out.frags HOK.out.words HOK.out.roots HOK.out.handles
        with_reducible refine HC.mono ?_
        clear HC
        rintro e w5 ⟨b, rfl, hbb, hb⟩
        have ET := Lib.hid (show t = if b = true then ⟨#[]⟩ else ⟨#[104, 97, 110, 100, 108, 101, 115]⟩ by rw [← ET.out]; exact whyT_4 E1.out E2.out E3.out hbb)
        have UB := Lib.hid (VB.out.trans (hb.mono VB.out.size))
        clear hb hbb c
        cases b with
        | false =>
          go_wp2_with fail
          go_ret
          exact ⟨by rw [ET.out]; rfl, UB.out⟩
        | true =>
          go_wp2_with fail
          go_ret
          exact ⟨by rw [ET.out]; rfl, UB.out⟩

end Go.Proofs.Ytohgkfnbjfhniaa
