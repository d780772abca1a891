/-
  The term that an object stands for: great integers; in full.
-/
import Derived.Test.YtlmpmjhanpkcnaaGreatN06
set_option linter.unusedVariables false
set_option linter.unusedSimpArgs false
namespace Go.Proofs.YtlmpmjhanpkcnaaGreat
open Go.RowKit

set_option maxHeartbeats 1000000 in
set_option maxRecDepth 100000 in
theorem obj_big (g : Nat → Nat → Option (Tm × Nat)) (R : Nat) (mv sv lv : Value) (asks : Bool) (left : Nat) (S : List Slt) (m : List Frg) (l : List Nat) (w : World)
    (h : RdAt w R mv sv asks left) (hl : Ws w lv l) (hL : left ≤ 10000) (h2 : 2 ≤ l.length) (h6 : l.length ≤ 6) :
    Calls Tryz.prog 126 #[.pointer (some ⟨R, 0, none⟩), .agg #[.int .i64 1, lv]] w fun e w' => TermEnd w w' R mv sv asks (objT g asks S m left (1, l)) e := by
  have hRlt := h.shape
  obtain ⟨gl, ol, c, rfl, hlc, hcm, hml⟩ := hl.open (by omega)
  obtain ⟨W, hW, X0, X1, XS, XB⟩ := obj_blocks w 1 (some ⟨gl, ol, none⟩) l.length c
  have HW := Lib.hid hW
  have HXS := Lib.hid XS
  have HXB := Lib.hid XB
  have HR := Lib.hid (h.below XB)
  have HX1 := Lib.hid X1
  have HBG := Lib.hid (big_any l _ W (hl.below XB) h2 (by omega))
  have hml2 : (bigMag l).length ≤ 12 := by
    unfold bigMag
    have h1 := trimP_length (limbsP (l.drop 2))
    have h3 := limbsP_length (l.drop 2)
    rw [List.length_drop] at h3
    omega
  have hmu : ∀ x ∈ bigMag l, x < 4294967296 := by
    have hu := limbsP_lt (l := l.drop 2) (fun x hx => hl.2.1 x (List.mem_of_mem_drop hx))
    intro x hx
    unfold bigMag trimP at hx
    split at hx
    · exact hu x (List.mem_of_mem_take hx)
    · exact hu x hx
  obtain ⟨M, hM⟩ : ∃ M, bigMag l = M := ⟨_, rfl⟩
  obtain ⟨ng, hng⟩ : ∃ ng, bigNeg l = ng := ⟨_, rfl⟩
  obtain ⟨r, hr⟩ : ∃ r, objT g asks S m left (1, l) = r := ⟨_, rfl⟩
  have HE := Lib.hid (show r = if M.length ≤ left then some (.mk 2 0 ng M 0 ⟨#[]⟩ [], left - M.length) else none by rw [← hr]; unfold objT; simp only; rw [hM, hng]; rfl)
  have HIS := Lib.hid (show r.isSome = decide (0 ≤ (left : Int) - (M.length : Int)) by
    rw [HE.out]
    by_cases q : M.length ≤ left
    · rw [if_pos q, decide_eq_true (by omega)]; rfl
    · rw [if_neg q, decide_eq_false (by omega)]; rfl)
  have HPP := Lib.hid (show ∀ p, r = some p → p.1 = .mk 2 0 ng M 0 ⟨#[]⟩ [] ∧ (left : Int) - (M.length : Int) = (p.2 : Nat) from fun p hp => by
    rw [HE.out] at hp
    split at hp
    · cases hp; exact ⟨rfl, by simp only; omega⟩
    · cases hp)
  have HMM := Lib.hid hM
  have HNG := Lib.hid hng
  rw [hr]
  rw [hM] at hml2 hmu
  have HMU := Lib.hid hmu
  have x0 := cell_of X0 0
  have x1 := cell_of X0 1
  simp at x0 x1
  clear hW X0 X1 XS XB h hl hr hM hng hmu
  go_enter Tryz.func126, Tryz.ntmps126
  go_wp2_with fail
  rw [HW.out]
  go_wp2_with fail
  refine HBG.out.mono ?_
  rintro e w6 ⟨⟨mg, rfl, hms, hown⟩, hb6⟩
  rw [HMM.out] at hms
  rw [HNG.out]
  obtain ⟨bp, hbp⟩ : ∃ bp, bigP l = bp := ⟨_, rfl⟩
  rw [hbp]
  clear hbp
  have U1 := Lib.hid ((hb6.block (w.heap.size + 1) (by have := HXS.out; omega)).trans HX1.out)
  have UR := Lib.hid (HR.out.below hb6)
  have UB := Lib.hid (HXB.out.trans (hb6.mono HXB.out.size))
  have US := Lib.hid (Nat.le_trans (Nat.le_of_eq HXS.out) hb6.size)
  have UM := Lib.hid (MsP.of (P := fun b => w.heap.size + 2 ≤ b) hms (fun k e => by have := hown k e; have := HXS.out; omega))
  obtain ⟨ma, mc, rfl, -⟩ := hms
  clear hb6 hown
  -- the integer's own block
  have VB0 := Below.alloc (Below.refl w6.heap.size w6) (Nat.le_refl _) (.cells #[.bool ng, .slice ma M.length mc] 78)
  have VN0 := World.alloc_heap_new w6 (.cells #[.bool ng, .slice ma M.length mc] 78)
  have VS0 : w6.heap.size + 1 = (w6.alloc (.cells #[.bool ng, .slice ma M.length mc] 78)).heap.size := by simp
  go_upto_region 6 with fail
  generalize w6.alloc (.cells #[.bool ng, .slice ma M.length mc] 78) = V at *
  have VR := Lib.hid (UR.out.below VB0)
  have V1 := Lib.hid ((VB0.block (w.heap.size + 1) (by have := US.out; omega)).trans U1.out)
  have VX := Lib.hid VN0
  have VS := Lib.hid (show w.heap.size + 2 ≤ V.heap.size by have := US.out; omega)
  have VG := Lib.hid (grown_below (R := R) (UB.out.trans (VB0.mono UB.out.size)))
  have VM := Lib.hid (UM.out.lift (w' := V) (fun k _ hlt => VB0.block k hlt))
  have VX6 := Lib.hid (show w6.heap.size < V.heap.size by omega)
  have VX7 := Lib.hid (show w.heap.size + 2 ≤ w6.heap.size from US.out)
  have VT := Lib.hid (TmAt.leaf (P := fun b => w.heap.size + 2 ≤ b) (w := V) (k := 2) (n := 0) (neg := ng) (mag := M) (mv := .slice ma M.length mc) (bits := 0) (bytes := ⟨#[]⟩) (a := none) (cap := 0) (by constructor <;> decide) (by constructor <;> decide) VM.out (by unfold maxLen; omega) HMU.out (by decide) (by unfold maxLen; decide))
  have a1 := fun i => cell_of V1.out i
  have f1 := fun i => free_of V1.out i
  have d0 := cell_of VX.out 0
  have d1 := cell_of VX.out 1
  simp at d0 d1
  clear VB0 VN0 VS0
  have HC := Lib.hid (fun (U : World) (hu : RdAt U R mv sv asks left) => weighs_any R mv sv asks left M.length U hu (by omega) (by omega))
  have VRD := Lib.hid (show RdAt V.drew R mv sv asks left from VR.out)
  have HSB := Lib.hid (fun c0 c1 c2 c3 c4 c5 c6 => (set7_below (Below.refl w.heap.size V) (Nat.le_succ w.heap.size) c0 c1 c2 c3 c4 c5 c6).drew)
  first
    | (go_region_with ((go_at_call 125
                        first
                          | ((with_reducible refine (HC.out _ (VR.out.at (HSB.out _ _ _ _ _ _ _) hRlt)).mono ?_)
                             rintro e w7 ⟨rfl, hr7, hg7⟩
                             have HR7 := Lib.hid hr7
                             have HG7 := Lib.hid hg7
                             clear hr7 hg7)
                          | ((with_reducible refine (HC.out V.drew VRD.out).mono ?_)
                             rintro e w7 ⟨rfl, hr7, hg7⟩
                             have HR7 := Lib.hid hr7
                             have HG7 := Lib.hid hg7
                             have e0 := fun i => cell_of ((hg7.block (w.heap.size + 1) (by have := VS.out; show w.heap.size + 1 < V.heap.size; omega) (by simp; omega)).trans V1.out) i
                             have e1 := fun i => free_of ((hg7.block (w.heap.size + 1) (by have := VS.out; show w.heap.size + 1 < V.heap.size; omega) (by simp; omega)).trans V1.out) i
                             have e2 := fun i => cell_of ((hg7.block w6.heap.size VX6.out (by have := VX7.out; simp; omega)).trans VX.out) i
                             clear hr7 hg7))))
    | fail
  all_goals go_wp2_with fail
  all_goals
    have hg7 : V.grownBy w7 (some R) := ⟨HG7.out.os, HG7.out.tape, HG7.out.output, HG7.out.size, HG7.out.block⟩
    have T7 : TmAt (fun b => w.heap.size + 2 ≤ b) w7 (.agg #[.int .i64 2, .int .i64 0, .bool ng, .slice ma M.length mc, .int .u64 0, .string ⟨#[]⟩, .slice none 0 0]) (.mk 2 0 ng M 0 ⟨#[]⟩ []) := VT.out.lift (w' := w7) (fun b hb hlt => hg7.block b hlt (by simp; omega))
    have A := answer_of (tbits := 0) T7 HR7.out hRlt (grown_trans VG.out hg7) HPP.out
    refine bodyPost_ret (v := .tuple #[.agg #[.int .i64 2, .int .i64 0, .bool ng, .slice ma M.length mc, .int .u64 0, .string ⟨#[]⟩, .slice none 0 0], .bool r.isSome]) (by rw [HIS.out]; simp [results, Tryz.results126, go_sem, e0, e1]) rfl A

end Go.Proofs.YtlmpmjhanpkcnaaGreat
