/-
  The term that an object stands for: floats, binaries, great integers.
-/
import Derived.Test.YtohgkfnbjfhniaaXf
namespace Go.Proofs.Ytohgkfnbjfhniaa
open Go.RowKit

set_option maxHeartbeats 4000000 in
set_option maxRecDepth 100000 in
theorem obj_float (g : Nat → Nat → Option (Tm × Nat)) (R : Nat) (mv sv lv : Value) (asks : Bool) (left : Nat) (S : List Slt) (m : List Frg) (l : List Nat) (w : World)
    (h : RdAt w R mv sv asks left) (hl : Ws w lv l) (hk : l.length = 2) :
    Calls Try.prog 57 #[.pointer (some ⟨R, 0, none⟩), .agg #[.int .i64 2, lv]] w fun e w' => TermEnd w w' R mv sv asks (objT g asks S m left (2, l)) e := by
  have hRlt := h.shape
  obtain ⟨gl, ol, c, rfl, hlc, hcm, hml⟩ := hl.open (by omega)
  obtain ⟨W, hW, X0, X1, XS, XB⟩ := obj_blocks w 2 (some ⟨gl, ol, none⟩) l.length c
  have HW := Lib.hid hW
  have HXS := Lib.hid XS
  have HXB := Lib.hid XB
  have HR := Lib.hid (h.below XB)
  have k1 := (hl.below XB).at (j := 1) (by omega)
  have hx := hl.2.1 (l.getD 1 0) (by
    have : l.getD 1 0 = l[1]'(by omega) := by simp [List.getD, List.getElem?_eq_getElem (show 1 < l.length by omega)]
    rw [this]; exact List.getElem_mem _)
  have HE := Lib.hid (show objT g asks S m left (2, l) = some (.mk 3 0 false [] (l.getD 1 0) ⟨#[]⟩ [], left) by unfold objT; rfl)
  obtain ⟨x, hxe⟩ : ∃ x, l.getD 1 0 = x := ⟨_, rfl⟩
  rw [hxe] at k1 hx HE
  rw [HE.out]
  have q1 : (1 : Int) < (l.length : Int) := by omega
  have x0 := cell_of X0 0
  have x1 := cell_of X0 1
  simp at x0 x1
  have a1 := fun i => cell_of X1 i
  have f1 := fun i => free_of X1 i
  clear hW X0 X1 XS XB h hl hk hxe
  go_enter Try.func57, Try.ntmps57
  go_upto_region 2 with fail
  rw [HW.out]
  go_wp2_with fail
  have T := TmAt.leaf (P := fun b => w.heap.size + 2 ≤ b) (w := W) (k := 3) (n := 0) (neg := false) (mag := []) (mv := .slice none 0 0) (bits := x) (bytes := ⟨#[]⟩) (a := none) (cap := 0) (by constructor <;> decide) (by constructor <;> decide) (MsP.nil W) (by simp) (fun y hy => by cases hy) hx (by unfold maxLen; decide)
  have A := answer_of T HR.out hRlt (grown_below HXB.out) (r := some (.mk 3 0 false [] x ⟨#[]⟩ [], left)) (fun p hp => by cases hp; exact ⟨rfl, rfl⟩)
  refine bodyPost_ret (v := .tuple #[.agg #[.int .i64 3, .int .i64 0, .bool false, .slice none 0 0, .int .u64 x, .string ⟨#[]⟩, .slice none 0 0], .bool true]) (by simp [results, Try.results57, go_sem, a1, f1]) rfl A

/-- Behind the bytes of a binary. -/
theorem binT_some {left : Nat} {b : ByteArray} {p : Tm × Nat} (h : binT left b = some p) : p = (.mk 9 0 false [] 0 b [], left - b.size / 8) ∧ b.size ≤ 400 ∧ b.size / 8 ≤ left := by
  unfold binT at h
  split at h
  · rename_i q; cases h; exact ⟨rfl, q⟩
  · cases h

theorem binT_ok (left : Nat) (b : ByteArray) : (binT left b).isSome = binOk left b.size := by
  unfold binT binOk
  by_cases h1 : b.size ≤ 400
  · by_cases h2 : b.size / 8 ≤ left
    · rw [if_pos ⟨h1, h2⟩, decide_eq_true h1, decide_eq_true (by omega)]; rfl
    · rw [if_neg (fun q => h2 q.2), decide_eq_false (show ¬ (0 : Int) ≤ (left : Int) - (b.size : Int) / 8 by omega)]; simp
  · rw [if_neg (fun q => h1 q.1), decide_eq_false h1]; rfl

theorem bytes_str {l : List Nat} {e : Ending} (h : BytesEnd (bytesW l) e) (h64 : l.getD 1 0 ≤ 64) : StrEnd (bytesB l) e := by
  obtain ⟨b, rfl, hb⟩ := h
  refine ⟨b, _, rfl, by unfold bytesB; cases bytesW l <;> rfl, ?_, fun s hs => ?_⟩
  · have : b.size = b.toList.length := by rw [Lib.toList_data, ← Lib.size_eq]
    rw [this, hb]
    cases hw : bytesW l with
    | none => simp
    | some x => simp only [Option.getD_some]; rw [bytesW_len hw]; omega
  · unfold bytesB at hs
    cases hw : bytesW l with
    | none => rw [hw] at hs; cases hs
    | some x =>
      rw [hw] at hs hb
      simp only [Option.map_some, Option.some.injEq, Option.getD_some] at hs hb
      rw [← hs]
      have e : b.data = x.toArray := by
        rw [Lib.toList_data] at hb
        rw [← hb]
      rw [← e]

set_option maxHeartbeats 8000000 in
set_option maxRecDepth 100000 in
theorem obj_bin (g : Nat → Nat → Option (Tm × Nat)) (R : Nat) (mv sv lv : Value) (asks : Bool) (left : Nat) (k : Int) (S : List Slt) (m : List Frg) (l : List Nat) (w : World)
    (h : RdAt w R mv sv asks left) (hm : RsAt w mv m) (hS : SlAt w sv S) (hl : Ws w lv l) (hL : left ≤ 10000)
    (hk : (k = 3 ∧ 2 ≤ l.length ∧ l.getD 1 0 ≤ 64 ∧ (bytesW l).isSome = true) ∨ (k = 4 ∧ rightFlat 4 l = true) ∨ (k = 5 ∧ rightP m 5 l = true)) :
    Calls Try.prog 57 #[.pointer (some ⟨R, 0, none⟩), .agg #[.int .i64 k, lv]] w fun e w' => TermEnd w w' R mv sv asks (objT g asks S m left (k, l)) e := by
  have hRlt := h.shape
  have h1 : 1 ≤ l.length := by
    rcases hk with ⟨_, q, _⟩ | ⟨_, q⟩ | ⟨_, q⟩
    · omega
    · have := flat4_parts q; omega
    · have := right5_parts q; omega
  obtain ⟨gl, ol, c, rfl, hlc, hcm, hml⟩ := hl.open h1
  obtain ⟨W, hW, X0, X1, XS, XB⟩ := obj_blocks w k (some ⟨gl, ol, none⟩) l.length c
  have HW := Lib.hid hW
  have HXS := Lib.hid XS
  have HXB := Lib.hid XB
  have HR := Lib.hid (h.below XB)
  have HX1 := Lib.hid X1
  -- the bytes, by kind
  obtain ⟨s, hs, hcall⟩ : ∃ s : Option ByteArray, objT g asks S m left (k, l) = s.bind (binT left) ∧
      ((k = 3 ∧ Hid (Calls Try.prog 61 #[.slice (some ⟨gl, ol, none⟩) l.length c] W fun e w' => StrEnd s e ∧ Below W.heap.size W w')) ∨ (k = 4 ∧ Hid (Calls Try.prog 75 #[.pointer (some ⟨R, 0, none⟩), .slice (some ⟨gl, ol, none⟩) l.length c] W fun e w' => StrEnd s e ∧ Below W.heap.size W w')) ∨
        (k = 5 ∧ Hid (Calls Try.prog 76 #[.pointer (some ⟨R, 0, none⟩), .slice (some ⟨gl, ol, none⟩) l.length c] W fun e w' => StrEnd s e ∧ Below W.heap.size W w'))) := by
    rcases hk with ⟨rfl, q1, q2, q3⟩ | ⟨rfl, q⟩ | ⟨rfl, q⟩
    · exact ⟨bytesB l, rfl, .inl ⟨rfl, Lib.hid ((bytes_any l _ W (hl.below XB) q1).mono fun e w' he => ⟨bytes_str he.1 q2, he.2⟩)⟩⟩
    · have := flat4_parts q
      exact ⟨sharedP asks S l, rfl, .inr (.inl ⟨rfl, Lib.hid (shared_any R mv sv _ asks left S l W (h.below XB) (hS.below XB) (hl.below XB) this.1 this.2.1 this.2.2.1 this.2.2.2)⟩)⟩
    · exact ⟨partP asks S m l, rfl, .inr (.inr ⟨rfl, Lib.hid (part_any R mv sv _ asks left m S l W (h.below XB) (hm.below XB) (hS.below XB) (hl.below XB) q)⟩)⟩
  obtain ⟨r, hr⟩ : ∃ r, objT g asks S m left (k, l) = r := ⟨_, rfl⟩
  rw [hr] at hs ⊢
  have HE := Lib.hid hs
  have x0 := cell_of X0 0
  have x1 := cell_of X0 1
  simp at x0 x1
  clear hW X0 X1 XS XB h hm hS hl hk hs hr
  rcases hcall with ⟨rfl, HC⟩ | ⟨rfl, HC⟩ | ⟨rfl, HC⟩
  all_goals
    go_enter Try.func57, Try.ntmps57
    go_wp2_with fail
    rw [HW.out]
    go_wp2_with fail
    refine HC.out.mono ?_
    rintro e w6 ⟨⟨b, ok, rfl, hok, hbs, hbe⟩, hb6⟩
    have U1 := Lib.hid ((hb6.block (w.heap.size + 1) (by have := HXS.out; omega)).trans HX1.out)
    have UR := Lib.hid (HR.out.below hb6)
    have UB := Lib.hid (HXB.out.trans (hb6.mono HXB.out.size))
    have US := Lib.hid (Nat.le_trans (Nat.le_of_eq HXS.out) hb6.size)
    have HBE := Lib.hid hbe
    clear hb6 hbe
    cases s with
    | none =>
      subst hok
      have a1 := fun i => cell_of U1.out i
      have f1 := fun i => free_of U1.out i
      obtain rfl : r = none := HE.out
      go_wp2_with fail
      have A := answer_of (TmAt.zero (P := fun b => w.heap.size + 2 ≤ b) w6) UR.out hRlt (grown_below UB.out) (r := none) (fun p hp => by cases hp)
      refine bodyPost_ret (v := .tuple #[.agg #[.int .i64 0, .int .i64 0, .bool false, .slice none 0 0, .int .u64 0, .string ⟨#[]⟩, .slice none 0 0], .bool false]) (by simp [results, Try.results57, go_sem, a1, f1]) rfl A
    | some b' =>
      obtain rfl := HBE.out b' rfl
      subst hok
      have HRR := Lib.hid (show binT left b' = r from HE.out.symm)
      go_wp2_with fail
      refine (binary_any R _ _ _ left b' w6 UR.out (by omega) (by omega)).mono ?_
      rintro e w7 ⟨rfl, hr7, hg7⟩
      rw [← binT_ok, HRR.out]
      have V1 := Lib.hid ((hg7.block (w.heap.size + 1) (by have := US.out; omega) (by simp; omega)).trans U1.out)
      have VR := Lib.hid hr7
      have VG := Lib.hid (grown_trans (grown_below UB.out) hg7)
      have a1 := fun i => cell_of V1.out i
      have f1 := fun i => free_of V1.out i
      clear hr7 hg7
      have T := TmAt.leaf (P := fun b => w.heap.size + 2 ≤ b) (w := w7) (k := 9) (n := 0) (neg := false) (mag := []) (mv := .slice none 0 0) (bits := 0) (bytes := b') (a := none) (cap := 0) (by constructor <;> decide) (by constructor <;> decide) (MsP.nil w7) (by simp) (fun y hy => by cases hy) (by decide) (by unfold maxLen; omega)
      have HA := Lib.hid (answer_of T VR.out hRlt VG.out (r := r) (fun p hp => by
        have h := HRR.out
        rw [hp] at h
        obtain ⟨rfl, h2, h3⟩ := binT_some h
        refine ⟨rfl, ?_⟩
        unfold binLeft
        rw [if_pos h2]
        simp only
        omega))
      clear T
      go_wp2_with fail
      refine bodyPost_ret (v := .tuple #[.agg #[.int .i64 9, .int .i64 0, .bool false, .slice none 0 0, .int .u64 0, .string b', .slice none 0 0], .bool r.isSome]) (by simp [results, Try.results57, go_sem, a1, f1]) rfl HA.out

end Go.Proofs.Ytohgkfnbjfhniaa
