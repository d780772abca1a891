/-
  CollectShares: the law's walk.
-/
import Derived.Test.YtlmpmjhanpkcnaaGreatN08
import Derived.Test.YtlmpmjhanpkcnaaGreatM14
set_option linter.unusedVariables false
set_option linter.unusedSimpArgs false
namespace Go.Proofs.YtlmpmjhanpkcnaaGreat
open Go.RowKit Go.Maps

/-- The dump that is being made. -/
def ShAt (n : Nat) (w wr : World) (D : Nat) (v : Value) (j : Nat) : Prop :=
  wr.heap[D]? = some (.cells #[.int .i64 20, v, .int .i64 0, .slice none 0 0, .int .i64 0, .int .i64 0, .slice none 0 0, .slice none 0 0, .slice none 0 0] 28 (0, 0)) ∧ wr.ownsRow (D + 1) 47 1 v (shW j).1.length (csW (shW j).1) ∧ Below w.heap.size w wr

theorem shW_len : ∀ j, (shW j).1.length = 2 * j
  | 0 => rfl
  | j + 1 => by simp only [shW, List.length_append, List.length_cons, List.length_nil, shW_len j]; omega

theorem sh_or (j : Nat) (hj : j ≤ 7) : bits .or .u64 (IntKind.u64.wrap (((20 + 2 * j : Nat) : Int) * 8)) 5 = ((shW (j + 1)).2 : Int) := by
  have := or_tag (20 + 2 * j) 5 (by omega) (by omega)
  simp only [shW, shW_len]
  exact this

theorem sh_dm {n : Nat} (h2 : n ≤ 7) (hf : ShFacts n) {w : World} {va : Option Addr} {vc : Nat} {r : Value} (hw : Ws w (.slice va (shW n).1.length vc) (shW n).1) (hr : Ws w r (shD n).roots) :
    DmAt w (dmpV (.int .i64 20) (.slice va (shW n).1.length vc) (.int .i64 0) (.slice none 0 0) ((shW n).1.length : Int) 0 (.slice none 0 0) r (.slice none 0 0)) (shD n) := by
  have hl := hf.wl
  refine ⟨_, _, _, _, _, _, _, rfl, ⟨show -9223372036854775808 ≤ (20 : Int) ∧ (20 : Int) ≤ 9223372036854775807 by omega, rfl, va, vc, rfl, hw⟩, ⟨show -9223372036854775808 ≤ (0 : Int) ∧ (0 : Int) ≤ 9223372036854775807 by omega, rfl, none, 0, rfl, Ws.nil _⟩, ?_, show -9223372036854775808 ≤ (0 : Int) ∧ (0 : Int) ≤ 9223372036854775807 by omega, ⟨by show (0 : Nat) ≤ maxLen; omega, none, 0, rfl, fun j hj => by simp [shD] at hj⟩, hr,
    ⟨by show (0 : Nat) ≤ maxLen; omega, (fun x hx => by cases hx), none, 0, rfl, by simp [shD], by unfold maxLen; omega, fun j hj => by simp [shD] at hj⟩⟩
  show -9223372036854775808 ≤ ((shW n).1.length : Int) ∧ ((shW n).1.length : Int) ≤ 9223372036854775807
  omega

theorem MajorOut.set9 {w w' : World} {d : Dmp} {a : Nat} {l : List Spt} {dv : Value} {b : Nat} (h : MajorOut w w' d a l dv) (hb : b < w.heap.size) (c0 c1 c2 c3 c4 c5 c6 c7 c8 : Value) : MajorOut w (Proofs.YtlmpmjhanpkcnaaGreat.set9 w' b c0 c1 c2 c3 c4 c5 c6 c7 c8) d a l dv := by
  obtain ⟨yv, rv, hv, e, h1, h2, h3⟩ := h
  exact ⟨yv, rv, hv, e, own_set9 h1 hb _ _ _ _ _ _ _ _ _, own_set9 h2 hb _ _ _ _ _ _ _ _ _, own_set9 h3 hb _ _ _ _ _ _ _ _ _⟩

theorem sh_wo {n : Nat} (h2 : n ≤ 7) (hf : ShFacts n) : wordsN (shE n).mem ≤ 5000 := by
  have : wordsN (shE n).mem = (shSt n).words.length := by simp [wordsN, Dmp.mem, shE]
  rw [this, hf.len]
  omega

theorem sh_mb {n : Nat} (hf : ShFacts n) : MemB (shE n).mem := by
  intro f hm y hy
  rcases List.mem_cons.1 hm with rfl | hm
  · exact hf.b1 y hy
  · rcases List.mem_cons.1 hm with rfl | hm
    · cases hy
    · cases hm

theorem sh_stands {n : Nat} (h1 : 1 ≤ n) (h2 : n ≤ 7) (hf : ShFacts n) (v v' : Value) (w : World) (hd : DmAt w v (shD n)) (he : DmAt w v' (shE n)) : Calls Tryz.prog 15 #[v, v', .slice none 0 0] w fun e w' => TrueEnd w w' e := by
  have a1 : (shD n).frags.length ≤ 100000 := Nat.zero_le _
  have a2 : (shE n).frags.length ≤ 100000 := Nat.zero_le _
  have a3 : (shE n).handles = [] := rfl
  have a4 : (shE n).old.2 = [] := rfl
  have a5 : (shE n).roots.length ≤ 100000 := by rw [hf.r3]; omega
  have a6 := sh_alike h1 h2 hf
  have a7 := sh_regions h1 hf
  have a8 := alike_roots a6
  have a9 := sh_wo h2 hf
  have a10 := sh_mb hf
  exact stands_any (shD n) (shE n) [] v v' _ w hd he (slAt_nil _) a1 a2 a6 fun V hV => why0_any (shE n) [] v' _ V (he.below hV) (slAt_nil _) a3 a4 a2 a9 a10 a5 hf.hs a7 a8

set_option maxHeartbeats 16000000 in
set_option maxRecDepth 100000 in
theorem collectShares_any (m : Int) (minor : Bool) (w : World) (hm : -9223372036854775808 ≤ m ∧ m ≤ 9223372036854775807) : Calls Tryz.prog 5 #[.int .i64 m, .bool minor] w fun e w' => TrueEnd w w' e := by
  obtain ⟨lo, hlo⟩ : ∃ lo, lowP m 7 = lo := ⟨_, rfl⟩
  have hle := lowP_le m (n := 7) (by omega)
  rw [hlo] at hle
  have HLO := Lib.hid (show ∀ W, Calls Tryz.prog 10 #[.int .i64 m, .int .i64 7] W fun e w' => e = .returned (.int .i64 lo) ∧ W = w' from fun W => (low_any m 7 hm (by omega) W).mono fun e w' h => ⟨by rw [h.1, hlo], h.2.symm⟩)
  obtain ⟨n, hn⟩ : ∃ n : Nat, 1 + lo = (n : Int) := ⟨(1 + lo).toNat, by omega⟩
  have HN := Lib.hid (show 1 ≤ n ∧ n ≤ 7 by omega)
  have HF := Lib.hid (sh_facts HN.out.1 HN.out.2)
  have q1 : IntKind.i64.wrap (1 + lo) = (n : Int) := by rw [IntWalk.i64_in _ (by omega)]; exact hn
  clear hlo hle hn
  have T := one_at w (.cells #[.int .i64 20, .slice none 0 0, .int .i64 0, .slice none 0 0, .int .i64 0, .int .i64 0, .slice none 0 0, .slice none 0 0, .slice none 0 0] 28)
  obtain ⟨D, hD⟩ : ∃ D, w.heap.size = D := ⟨_, rfl⟩
  have HD := Lib.hid hD
  have HS0 := Lib.hid (show ShAt n w (w.alloc (.cells #[.int .i64 20, .slice none 0 0, .int .i64 0, .slice none 0 0, .int .i64 0, .int .i64 0, .slice none 0 0, .slice none 0 0, .slice none 0 0] 28)) D (.slice none 0 0) 0 from ⟨by rw [← hD]; exact T.1, ⟨by simp [csW, shW], .inl ⟨rfl, rfl⟩⟩, T.2.2⟩)
  clear T
  go_enter Tryz.func5, Tryz.ntmps5
  go_upto_region 3 with (go_at_call 10; refine (HLO.out _).mono ?_; rintro e w4 ⟨rfl, rfl⟩)
  generalize w.alloc (.cells #[.int .i64 20, .slice none 0 0, .int .i64 0, .slice none 0 0, .int .i64 0, .int .i64 0, .slice none 0 0, .slice none 0 0, .slice none 0 0] 28) = W at *
  clear q1 HLO
  go_wp2_with fail
  go_loopw [6, 7] (fun wv i wr => ∃ (j : Nat) (v : Value), j ≤ n ∧ i = .int .i64 j ∧ wv = .int .u64 ((shW j).2 : Nat) ∧ Hid (ShAt n w wr D v j)) (fun _ i _ => n - (intOf i).toNat)
  case atStart => exact ⟨0, _, by omega, rfl, rfl, HS0⟩
  case round =>
    obtain ⟨j, v, hj, rfl, rfl, HS⟩ := hrel
    obtain ⟨va, vc, rfl⟩ := own_slice HS.out.2.1
    have HVL := Lib.hid (shW_len j)
    by_cases hlt : j < n
    · have p1 : (j : Int) < (n : Int) := by omega
      have y1 := cell_of HS.out.1 1
      simp at y1
      obtain ⟨ln, hln⟩ : ∃ ln, (shW j).1.length = ln := ⟨_, rfl⟩
      rw [hln] at y1 HVL
      have HLN := Lib.hid hln
      have HJ := Lib.hid (show j < 7 by have := HN.out; omega)
      have q5 : IntKind.i64.wrap (20 + (ln : Int)) = ((20 + 2 * j : Nat) : Int) := by rw [IntWalk.i64_in _ (by have := HVL.out; have := HJ.out; omega)]; have := HVL.out; omega
      obtain ⟨x, hx⟩ : ∃ x, (shW j).2 = x := ⟨_, rfl⟩
      rw [hx]
      have HX := Lib.hid hx
      obtain ⟨z, hz⟩ : ∃ z, 20 + 2 * j = z := ⟨_, rfl⟩
      rw [hz] at q5
      have q6 : IntKind.u64.wrap (z : Int) = (z : Int) := by rw [IntKind.wrap_u64]; have := HJ.out; omega
      have q7 : bits .or .u64 (IntKind.u64.wrap ((z : Int) * 8)) 5 = ((shW (j + 1)).2 : Int) := by rw [← hz]; exact sh_or j (by have := HJ.out; omega)
      have q8 : IntKind.u64.wrap ((z : Int) * 8) = (z : Int) * 8 := by rw [IntKind.wrap_u64]; have := HJ.out; omega
      rw [q8] at q7
      have q9 : IntKind.i64.wrap ((j : Int) + 1) = (j : Int) + 1 := IntWalk.i64_in _ (by have := HJ.out; omega)
      have QK := Lib.hid (show j + 1 ≤ n ∧ n - (j + 1) < n - j by omega)
      obtain ⟨nx, hnx⟩ : ∃ nx, (shW (j + 1)).2 = nx := ⟨_, rfl⟩
      rw [hnx] at q7
      have HNX := Lib.hid hnx
      have HEQ := Lib.hid (show (shW (j + 1)).1 = (shW j).1 ++ [x, x] by rw [← hx]; rfl)
      clear hln hx hz hnx
      obtain ⟨i0, hi, hz0, hz1, hz2⟩ := info_parts info37
      have HO := Lib.hid (show wr.ownsRow (D + 1) 47 1 (.slice va ln vc) ln (csW (shW j).1) by have := HS.out.2.1; rw [HLN.out] at this; exact this)
      have HDW := Lib.hid (lt_of_block HS.out.1)
      go_upto_region 9 with (at_builtin; refine wpList_append_any _ rfl (.tmp 28) (.tmp 31) 22 rfl (D + 1) 47 i0 _ 1 8 Tryz.underlying22 hi hz0 hz1 hz2 rfl (by omega) _ ln (csW (shW j).1) rfl (World.ownsRow.alloc HO.out _) _ (some ⟨wr.heap.size, 0, none⟩) 2 2 [.int .u64 x, .int .u64 x] rfl (reads_many wr [.int .u64 x, .int .u64 x] 47 2 rfl) (by intro u hu; simp at hu; subst hu; rfl) (by unfold maxLen; have := HVL.out; have := HJ.out; omega) (by have := HVL.out; have := HJ.out; omega) (by have := HDW.out; simp; omega) ?_; intro v9 w9 hown9 hg9 hv9; have HB9 := Lib.hid (show Below w.heap.size w w9 from (HS.out.2.2.trans ((Below.refl wr.heap.size wr).alloc (Nat.le_refl _) _ |>.mono HS.out.2.2.size)).grown hg9 (by have := HS.out.2.2.size; simp; omega) (fun k hk => by have := (HO.out.lt k hk).1; have := HD.out; omega)); have HO9 := Lib.hid hown9; have HX9 := Lib.hid ((hg9.block D (by have := HDW.out; simp; omega) (fun e => by have := (HO.out.lt D e.symm).1; omega)).trans ((((Below.refl wr.heap.size wr).alloc (Nat.le_refl _) _).block D HDW.out).trans HS.out.1)); obtain ⟨b9, cc9, rfl⟩ := own_slice hown9; have yy := cell_of HX9.out 1; have yf := free_of HX9.out 1; simp at yy yf; clear hown9 hg9 hv9)
      have HS2 := Lib.hid (show ShAt n w (w9.setCell ⟨D, 1, none⟩ (.slice b9 (ln + 2) cc9)) D (.slice b9 (ln + 2) cc9) (j + 1) from ⟨set_of HX9.out 1 _, by
        rw [HEQ.out, List.length_append, HLN.out, csW_append]
        exact own_set HO9.out (by omega) _, HB9.out.setCell (p := ⟨D, 1, none⟩) (by show w.heap.size ≤ D; rw [HD.out]; exact Nat.le_refl _) _⟩)
      clear yy yf y1 q5
      generalize w9.setCell ⟨D, 1, none⟩ (.slice b9 (ln + 2) cc9) = w10 at *
      go_wp2_with fail
      go_roundw
      case rel => exact ⟨j + 1, _, QK.out.1, by go_num, by rw [HNX.out], HS2⟩
      case measure => clear q9; have := QK.out.2; simp [intOf]; omega
    · have hjn : j = n := by omega
      subst hjn
      have p1 : ¬ (j : Int) < (j : Int) := by omega
      have HOW := Lib.hid HS.out.2.1
      have y1 := cell_of HS.out.1 1
      have f4 := free_of HS.out.1 4
      have y4 := cell_of HS.out.1 4
      simp at y1 y4
      clear hlt hj
      go_upto_region 11 with fail
      have X1 := Lib.hid (set_of HS.out.1 4 (.int .i64 ((shW j).1.length : Int)))
      have B1 := Lib.hid (HS.out.2.2.setCell (p := ⟨D, 4, none⟩) (by show w.heap.size ≤ D; rw [HD.out]; exact Nat.le_refl _) (.int .i64 ((shW j).1.length : Int)))
      have O1 := Lib.hid (own_set HOW.out (g := D) (i := 4) (by omega) (.int .i64 ((shW j).1.length : Int)))
      clear y1 y4 f4
      generalize wr.setCell ⟨D, 4, none⟩ (.int .i64 ((shW j).1.length : Int)) = w1 at *
      have X1 := Lib.hid (show w1.heap[D]? = some (.cells #[.int .i64 20, .slice va (shW j).1.length vc, .int .i64 0, .slice none 0 0, .int .i64 ((shW j).1.length : Int), .int .i64 0, .slice none 0 0, .slice none 0 0, .slice none 0 0] 28 (0, 0)) from X1.out)
      have HDW := Lib.hid (lt_of_block X1.out)
      obtain ⟨x, hx⟩ : ∃ x, (shW j).2 = x := ⟨_, rfl⟩
      rw [hx]
      have T := one_at w1 (.cells #[.int .u64 x, .int .u64 x, .int .u64 3] 47)
      have X2 := Lib.hid ((T.2.2.block D HDW.out).trans X1.out)
      have y7 := cell_of X2.out 7
      have f7 := free_of X2.out 7
      simp at y7
      have A := fun o => (Below.refl w1.heap.size w1).alloc (Nat.le_refl _) o
      have y7' := cell_of X1.out 7
      simp at y7'
      obtain ⟨b, hb0⟩ : ∃ b, w1.heap.size = b := ⟨_, rfl⟩
      have HBE := Lib.hid hb0
      go_upto_region 12 with fail
      have X3 := Lib.hid (set_of X2.out 7 (.slice (some ⟨b, 0, none⟩) 3 3))
      have R3 := Lib.hid (show ((w1.alloc (.cells #[.int .u64 x, .int .u64 x, .int .u64 3] 47)).setCell ⟨D, 7, none⟩ (.slice (some ⟨b, 0, none⟩) 3 3)).heap[b]? = some (.cells #[.int .u64 x, .int .u64 x, .int .u64 3] 47 (0, 0)) from (Below.heap_setCell _ ⟨D, 7, none⟩ _ b (by have := HDW.out; simp; omega)).trans (by rw [← hb0]; exact T.1))
      have B3 := Lib.hid ((B1.out.trans (T.2.2.mono B1.out.size)).setCell (p := ⟨D, 7, none⟩) (by show w.heap.size ≤ D; rw [HD.out]; exact Nat.le_refl _) (.slice (some ⟨b, 0, none⟩) 3 3))
      have O3 := Lib.hid (own_set (own_lift O1.out T.2.2) (g := D) (i := 7) (by omega) (.slice (some ⟨b, 0, none⟩) 3 3))
      clear y7 f7 A y7' T hb0
      generalize (w1.alloc (.cells #[.int .u64 x, .int .u64 x, .int .u64 3] 47)).setCell ⟨D, 7, none⟩ (.slice (some ⟨b, 0, none⟩) 3 3) = w3 at *
      have X3 := Lib.hid (show w3.heap[D]? = some (.cells #[.int .i64 20, .slice va (shW j).1.length vc, .int .i64 0, .slice none 0 0, .int .i64 ((shW j).1.length : Int), .int .i64 0, .slice none 0 0, .slice (some ⟨b, 0, none⟩) 3 3, .slice none 0 0] 28 (0, 0)) from X3.out)
      have HWW := Lib.hid (Ws.of_own O3.out (by rw [HF.out.wl]; have := HN.out; omega) HF.out.b3)
      have HWR := Lib.hid (show Ws w3 (.slice (some ⟨b, 0, none⟩) 3 3) (shD j).roots by
        have := ws_row (w := w3) (b := b) (t := 47) [x, x, 3] R3.out small3 (by intro y hy; have h4 := HF.out.b4; rw [hx] at h4; simp at hy; omega)
        show Ws w3 _ [(shW j).2, (shW j).2, 3]
        rw [hx]
        exact this)
      have HDM := Lib.hid (show DmAt w3 (dmpV (.int .i64 20) (.slice va (shW j).1.length vc) (.int .i64 0) (.slice none 0 0) ((shW j).1.length : Int) 0 (.slice none 0 0) (.slice (some ⟨b, 0, none⟩) 3 3) (.slice none 0 0)) (shD j) from sh_dm HN.out.2 HF.out HWW.out HWR.out)
      have HWN := Lib.hid (sh_words HN.out.2 HF.out)
      have HMJ := Lib.hid (show ∀ l, ReachL (shD j).mem (shD j).roots l → majorD (shD j) 500 l = shE j from fun l hl => sh_major HN.out.1 HF.out hl)
      have HWO := Lib.hid (sh_wo HN.out.2 HF.out)
      have HMB := Lib.hid (sh_mb HF.out)
      clear hx X1 X2 O1 O3 HWW HWR R3 B1 HOW HS
      have x0 := cell_of X3.out 0
      have x1 := cell_of X3.out 1
      have x2 := cell_of X3.out 2
      have x3 := cell_of X3.out 3
      have x4 := cell_of X3.out 4
      have x5 := cell_of X3.out 5
      have x6 := cell_of X3.out 6
      have x7 := cell_of X3.out 7
      have x8 := cell_of X3.out 8
      simp at x0 x1 x2 x3 x4 x5 x6 x7 x8
      go_wp2_with fail
      refine (major_any (shD j) _ 500 w3 HDM.out (by simp [shD]) HWN.out (by simp [shD])).mono ?_
      rintro e w4 ⟨-, h, hb⟩
      obtain ⟨l, dv, hl, rfl, ho⟩ := h HF.out.sane
      have X4 := Lib.hid ((hb.block _ (lt_of_block X3.out)).trans X3.out)
      have B4 := Lib.hid (B3.out.trans (hb.mono B3.out.size))
      have HDM4 := Lib.hid (HDM.out.below hb)
      have ho : MajorOut w3 w4 (shD j) 500 l dv := ho
      have hd9 := majorOut_dm ho (by decide) (by rw [HMJ.out _ hl]; show (shSt j).words.length ≤ 1000000; rw [HF.out.len]; have := HN.out; omega) (by rw [HMJ.out _ hl]; exact HF.out.b1) (by rw [HMJ.out _ hl, HF.out.r3]; omega) (by rw [HMJ.out _ hl]; exact HF.out.b2) (by rw [HMJ.out _ hl]; simp [shE]) (by rw [HMJ.out _ hl]; intro x hx; cases hx)
      rw [HMJ.out _ hl] at hd9
      obtain ⟨e1, e2, e3, e4, e5, e6, e7, e8, e9, e10, rfl⟩ := hd9.shape
      have HEM0 := Lib.hid hd9
      obtain ⟨el, hel⟩ : ∃ el, (shE j).young.2.length = el := ⟨_, rfl⟩
      obtain ⟨es, hes⟩ : ∃ es, (shE j).size = es := ⟨_, rfl⟩
      obtain ⟨em, hem⟩ : ∃ em, (shE j).mark = em := ⟨_, rfl⟩
      have HEL := Lib.hid (show el = 2 * j by rw [← hel]; exact HF.out.len)
      have hz1 : (shE j).old.1 = 0 := rfl
      have hz2 : (shE j).old.2.length = 0 := rfl
      have hz3 : (shE j).frags.length = 0 := rfl
      have hz4 : (shE j).handles.length = 0 := rfl
      have hz5 : (shE j).young.1 = 500 := rfl
      rw [hel, hes, hem, hz1, hz2, hz3, hz4, hz5, HF.out.r3] at HEM0 ho ⊢
      clear hd9 hel hes hem hz1 hz2 hz3 hz4 hz5
      clear h ho hb x0 x1 x2 x3 x4 x5 x6 x7 x8 X3 B3 HDM
      have T := one_at w4 (.cells #[.int .i64 500, .slice e1 el e2, .int .i64 0, .slice e3 0 e4, .int .i64 es, .int .i64 em, .slice e5 0 e6, .slice e7 3 e8, .slice e9 0 e10] 28)
      obtain ⟨E, hE⟩ : ∃ E, w4.heap.size = E := ⟨_, rfl⟩
      go_upto_region 13 with fail
      rw [hE] at T
      generalize w4.alloc (.cells #[.int .i64 500, .slice e1 el e2, .int .i64 0, .slice e3 0 e4, .int .i64 es, .int .i64 em, .slice e5 0 e6, .slice e7 3 e8, .slice e9 0 e10] 28) = w5 at *
      have XE := Lib.hid T.1
      have XD := Lib.hid ((T.2.2.block _ (by have := lt_of_block X4.out; omega)).trans X4.out)
      have HBF := Lib.hid (B4.out.trans (T.2.2.mono (by have := B4.out.size; omega)))
      have T22 : Below w4.heap.size w4 w5 := by rw [hE]; exact T.2.2
      have HDM := Lib.hid (HDM4.out.below T22)
      have HEM := Lib.hid (HEM0.out.below T22)
      have HED := Lib.hid (show D < E by rw [← hE]; exact lt_of_block X4.out)
      have HWE := Lib.hid (show Ws w5 (.slice e7 3 e8) (shE j).roots from HEM.out.ws)
      have HEW := Lib.hid (show w.heap.size ≤ E by rw [← hE]; exact B4.out.size)
      have XD4 := X4
      have HEE := Lib.hid hE
      have HB45 := Lib.hid T22
      clear T T22 X4 B4 HEM0 hE
      cases minor with
      | false =>
        generalize w5 = wf at *
        have x0 := cell_of XD.out 0
        have x1 := cell_of XD.out 1
        have x2 := cell_of XD.out 2
        have x3 := cell_of XD.out 3
        have x4 := cell_of XD.out 4
        have x5 := cell_of XD.out 5
        have x6 := cell_of XD.out 6
        have x7 := cell_of XD.out 7
        have x8 := cell_of XD.out 8
        have y0 := cell_of XE.out 0
        have y1 := cell_of XE.out 1
        have y2 := cell_of XE.out 2
        have y3 := cell_of XE.out 3
        have y4 := cell_of XE.out 4
        have y5 := cell_of XE.out 5
        have y6 := cell_of XE.out 6
        have y7 := cell_of XE.out 7
        have y8 := cell_of XE.out 8
        simp at x0 x1 x2 x3 x4 x5 x6 x7 x8 y0 y1 y2 y3 y4 y5 y6 y7 y8
        obtain ⟨g, o, he7⟩ : ∃ g o, e7 = some ⟨g, o, none⟩ := by
          obtain ⟨_, _, a', c', ee, _, _, hc⟩ := HWE.out
          simp only [Value.slice.injEq] at ee
          obtain ⟨rfl, -, rfl⟩ := ee
          obtain ⟨g, o, ee, _⟩ := hc 0 (by rw [HF.out.r3]; omega)
          exact ⟨g, o, ee⟩
        subst he7
        have HWE2 := Lib.hid (show Ws wf (.slice (some ⟨g, o, none⟩) (shE j).roots.length e8) (shE j).roots by rw [HF.out.r3]; exact HWE.out)
        have r0 := HWE2.out.at (j := 0) (by rw [HF.out.r3]; omega)
        have r1 := HWE2.out.at (j := 1) (by rw [HF.out.r3]; omega)
        have r2 := HWE2.out.at (j := 2) (by rw [HF.out.r3]; omega)
        rw [HF.out.r01] at r0
        rw [HF.out.r2] at r2
        obtain ⟨u, hu⟩ : ∃ u, (shE j).roots.getD 1 0 = u := ⟨_, rfl⟩
        rw [hu] at r0 r1
        clear hu
        simp at r0 r2
        have q1 : IntKind.i64.wrap (2 * (j : Int)) = (el : Int) := by rw [IntWalk.i64_in _ (by have := HN.out; omega)]; have := HEL.out; omega
        have HAWK := Lib.hid (show ∀ V, Below w.heap.size w V → Calls Tryz.prog 9 #[] V fun e w' => TrueEnd V w' e from fun V _ => awake_any V)
        go_upto_region 15 with fail
        refine wp_region_still_tail 37 (by kernel_rfl) (by kernel_rfl) ?_
        simp only [List.take_succ_cons, List.take_zero, List.drop_succ_cons, List.drop_zero]
        change wpStill _ _ wf.drew (fun a' => wpList _ _ _ _ a' wf.drew) _ _
        have x0 : wf.drew.cell? _ = _ := x0
        have x1 : wf.drew.cell? _ = _ := x1
        have x2 : wf.drew.cell? _ = _ := x2
        have x3 : wf.drew.cell? _ = _ := x3
        have x4 : wf.drew.cell? _ = _ := x4
        have x5 : wf.drew.cell? _ = _ := x5
        have x6 : wf.drew.cell? _ = _ := x6
        have x7 : wf.drew.cell? _ = _ := x7
        have x8 : wf.drew.cell? _ = _ := x8
        have y0 : wf.drew.cell? _ = _ := y0
        have y1 : wf.drew.cell? _ = _ := y1
        have y2 : wf.drew.cell? _ = _ := y2
        have y3 : wf.drew.cell? _ = _ := y3
        have y4 : wf.drew.cell? _ = _ := y4
        have y5 : wf.drew.cell? _ = _ := y5
        have y6 : wf.drew.cell? _ = _ := y6
        have y7 : wf.drew.cell? _ = _ := y7
        have y8 : wf.drew.cell? _ = _ := y8
        have r0 : wf.drew.cell? _ = _ := r0
        have r1 : wf.drew.cell? _ = _ := r1
        have r2 : wf.drew.cell? _ = _ := r2
        have DB := Lib.hid (show Below wf.heap.size wf wf.drew from (Below.refl _ _).drew)
        have HBd := Lib.hid (HBF.out.drew)
        have HD1 := Lib.hid (HDM.out.below DB.out)
        have HE1 := Lib.hid (HEM.out.below DB.out)
        generalize wf.drew = wd at *
        repeat still_step
        refine wpStill_nil ?_
        go_wp2_with fail
        have HC := sh_stands HN.out.1 HN.out.2 HF.out _ _ wd HD1.out HE1.out
        with_reducible refine HC.mono ?_
        clear HC
        rintro ee w9 ⟨rfl, hb9⟩
        have HB9 := Lib.hid (HBd.out.trans (hb9.mono HBd.out.size))
        clear hb9 x0 x1 x2 x3 x4 x5 x6 x7 x8 y0 y1 y2 y3 y4 y5 y6 y7 y8 r0 r1 r2
        go_wp2_with fail
        refine (HAWK.out w9 HB9.out).mono ?_
        rintro ee w10 ⟨rfl, hb10⟩
        have HB10 := Lib.hid (HB9.out.trans (hb10.mono HB9.out.size))
        clear hb10
        go_wp2_with fail
        go_ret
        exact ⟨rfl, HB10.out⟩
      | true =>
        have HE5 := Lib.hid HEM.out
        have x0 := cell_of XD.out 0
        have x1 := cell_of XD.out 1
        have x2 := cell_of XD.out 2
        have x3 := cell_of XD.out 3
        have x4 := cell_of XD.out 4
        have x5 := cell_of XD.out 5
        have x6 := cell_of XD.out 6
        have x7 := cell_of XD.out 7
        have x8 := cell_of XD.out 8
        simp at x0 x1 x2 x3 x4 x5 x6 x7 x8
        go_wp2_with fail
        have HMN := minor_none (shD j) (.int .i64 20) (.slice va (shW j).1.length vc) (.slice none 0 0) (.slice (some ⟨b, 0, none⟩) 3 3) 500 w5 HDM.out rfl rfl (by simp [shD]) HWN.out (by simp [shD]) HF.out.sane (fun l hl => by rw [sh_hs HF.out hl]; simp)
        refine HMN.mono ?_
        clear HMN
        rintro e w6 ⟨l2, dv2, hl2, rfl, ho2, hb⟩
        have ho2 : MajorOut w5 w6 (shD j) 500 l2 dv2 := ho2
        have hl := hl2
        have XE6 := Lib.hid ((hb.block _ (lt_of_block XE.out)).trans XE.out)
        have B6 := Lib.hid (HBF.out.trans (hb.mono HBF.out.size))
        have B46 := Lib.hid (HB45.out.trans (hb.mono HB45.out.size))
        have HE5 := Lib.hid (lt_of_block XE.out)
        have hd9 := majorOut_dm ho2 (by decide) (by rw [HMJ.out _ hl]; show (shSt j).words.length ≤ 1000000; rw [HF.out.len]; have := HN.out; omega) (by rw [HMJ.out _ hl]; exact HF.out.b1) (by rw [HMJ.out _ hl, HF.out.r3]; omega) (by rw [HMJ.out _ hl]; exact HF.out.b2) (by rw [HMJ.out _ hl]; simp [shE]) (by rw [HMJ.out _ hl]; intro x hx; cases hx)
        rw [HMJ.out _ hl] at hd9
        obtain ⟨e1, e2, e3, e4, e5, e6, e7, e8, e9, e10, rfl⟩ := hd9.shape
        have HEM0 := Lib.hid hd9
        obtain ⟨el, hel⟩ : ∃ el, (shE j).young.2.length = el := ⟨_, rfl⟩
        obtain ⟨es, hes⟩ : ∃ es, (shE j).size = es := ⟨_, rfl⟩
        obtain ⟨em, hem⟩ : ∃ em, (shE j).mark = em := ⟨_, rfl⟩
        have HEL := Lib.hid (show el = 2 * j by rw [← hel]; exact HF.out.len)
        have hz1 : (shE j).old.1 = 0 := rfl
        have hz2 : (shE j).old.2.length = 0 := rfl
        have hz3 : (shE j).frags.length = 0 := rfl
        have hz4 : (shE j).handles.length = 0 := rfl
        have hz5 : (shE j).young.1 = 500 := rfl
        rw [hel, hes, hem, hz1, hz2, hz3, hz4, hz5, HF.out.r3] at HEM0 ho2 ⊢
        clear hd9 hel hes hem hz1 hz2 hz3 hz4 hz5
        clear hb x0 x1 x2 x3 x4 x5 x6 x7 x8 HDM HEM HWE
        have y0 := cell_of XE6.out 0
        have y1 := cell_of XE6.out 1
        have y2 := cell_of XE6.out 2
        have y3 := cell_of XE6.out 3
        have y4 := cell_of XE6.out 4
        have y5 := cell_of XE6.out 5
        have y6 := cell_of XE6.out 6
        have y7 := cell_of XE6.out 7
        have y8 := cell_of XE6.out 8
        simp at y0 y1 y2 y3 y4 y5 y6 y7 y8
        have z0 := free_of XE6.out 0
        have z1 := free_of XE6.out 1
        have z2 := free_of XE6.out 2
        have z3 := free_of XE6.out 3
        have z4 := free_of XE6.out 4
        have z5 := free_of XE6.out 5
        have z6 := free_of XE6.out 6
        have z7 := free_of XE6.out 7
        have z8 := free_of XE6.out 8
        go_upto_region 15 with fail
        have XE := Lib.hid (set9_heap XE6.out (.int .i64 500) (.slice e1 el e2) (.int .i64 0) (.slice e3 0 e4) (.int .i64 es) (.int .i64 em) (.slice e5 0 e6) (.slice e7 3 e8) (.slice e9 0 e10))
        have HBF := Lib.hid (set9_below B6.out HEW.out (.int .i64 500) (.slice e1 el e2) (.int .i64 0) (.slice e3 0 e4) (.int .i64 es) (.int .i64 em) (.slice e5 0 e6) (.slice e7 3 e8) (.slice e9 0 e10))
        have B47 := Lib.hid (set9_below B46.out (show w4.heap.size ≤ E from Nat.le_of_eq HEE.out) (.int .i64 500) (.slice e1 el e2) (.int .i64 0) (.slice e3 0 e4) (.int .i64 es) (.int .i64 em) (.slice e5 0 e6) (.slice e7 3 e8) (.slice e9 0 e10))
        have HO7 := Lib.hid (MajorOut.set9 ho2 HE5.out (.int .i64 500) (.slice e1 el e2) (.int .i64 0) (.slice e3 0 e4) (.int .i64 es) (.int .i64 em) (.slice e5 0 e6) (.slice e7 3 e8) (.slice e9 0 e10))
        clear y0 y1 y2 y3 y4 y5 y6 y7 y8 z0 z1 z2 z3 z4 z5 z6 z7 z8
        unfold set9 set7 at XE HBF B47 HO7
        generalize World.setCell _ ⟨E, 8, none⟩ (.slice e9 0 e10) = wf at *
        have XD := Lib.hid ((B47.out.block _ (by rw [HEE.out]; exact HED.out)).trans XD4.out)
        have HDM := Lib.hid (HDM4.out.below B47.out)
        have HEM := Lib.hid (majorOut_dm HO7.out (by decide) (by rw [HMJ.out _ hl]; show (shSt j).words.length ≤ 1000000; rw [HF.out.len]; have := HN.out; omega) (by rw [HMJ.out _ hl]; exact HF.out.b1) (by rw [HMJ.out _ hl, HF.out.r3]; omega) (by rw [HMJ.out _ hl]; exact HF.out.b2) (by rw [HMJ.out _ hl]; simp [shE]) (by rw [HMJ.out _ hl]; intro x hx; cases hx))
        have hemm := HEM.out
        rw [HMJ.out _ hl] at hemm
        have HEM := Lib.hid hemm
        have HWE := Lib.hid (show Ws wf (.slice e7 3 e8) (shE j).roots from HEM.out.ws)
        clear hemm
        have x0 := cell_of XD.out 0
        have x1 := cell_of XD.out 1
        have x2 := cell_of XD.out 2
        have x3 := cell_of XD.out 3
        have x4 := cell_of XD.out 4
        have x5 := cell_of XD.out 5
        have x6 := cell_of XD.out 6
        have x7 := cell_of XD.out 7
        have x8 := cell_of XD.out 8
        have y0 := cell_of XE.out 0
        have y1 := cell_of XE.out 1
        have y2 := cell_of XE.out 2
        have y3 := cell_of XE.out 3
        have y4 := cell_of XE.out 4
        have y5 := cell_of XE.out 5
        have y6 := cell_of XE.out 6
        have y7 := cell_of XE.out 7
        have y8 := cell_of XE.out 8
        simp at x0 x1 x2 x3 x4 x5 x6 x7 x8 y0 y1 y2 y3 y4 y5 y6 y7 y8
        obtain ⟨g, o, he7⟩ : ∃ g o, e7 = some ⟨g, o, none⟩ := by
          obtain ⟨_, _, a', c', ee, _, _, hc⟩ := HWE.out
          simp only [Value.slice.injEq] at ee
          obtain ⟨rfl, -, rfl⟩ := ee
          obtain ⟨g, o, ee, _⟩ := hc 0 (by rw [HF.out.r3]; omega)
          exact ⟨g, o, ee⟩
        subst he7
        have HWE2 := Lib.hid (show Ws wf (.slice (some ⟨g, o, none⟩) (shE j).roots.length e8) (shE j).roots by rw [HF.out.r3]; exact HWE.out)
        have r0 := HWE2.out.at (j := 0) (by rw [HF.out.r3]; omega)
        have r1 := HWE2.out.at (j := 1) (by rw [HF.out.r3]; omega)
        have r2 := HWE2.out.at (j := 2) (by rw [HF.out.r3]; omega)
        rw [HF.out.r01] at r0
        rw [HF.out.r2] at r2
        obtain ⟨u, hu⟩ : ∃ u, (shE j).roots.getD 1 0 = u := ⟨_, rfl⟩
        rw [hu] at r0 r1
        clear hu
        simp at r0 r2
        have q1 : IntKind.i64.wrap (2 * (j : Int)) = (el : Int) := by rw [IntWalk.i64_in _ (by have := HN.out; omega)]; have := HEL.out; omega
        have HAWK := Lib.hid (show ∀ V, Below w.heap.size w V → Calls Tryz.prog 9 #[] V fun e w' => TrueEnd V w' e from fun V _ => awake_any V)
        go_upto_region 15 with fail
        refine wp_region_still_tail 37 (by kernel_rfl) (by kernel_rfl) ?_
        simp only [List.take_succ_cons, List.take_zero, List.drop_succ_cons, List.drop_zero]
        change wpStill _ _ wf.drew (fun a' => wpList _ _ _ _ a' wf.drew) _ _
        have x0 : wf.drew.cell? _ = _ := x0
        have x1 : wf.drew.cell? _ = _ := x1
        have x2 : wf.drew.cell? _ = _ := x2
        have x3 : wf.drew.cell? _ = _ := x3
        have x4 : wf.drew.cell? _ = _ := x4
        have x5 : wf.drew.cell? _ = _ := x5
        have x6 : wf.drew.cell? _ = _ := x6
        have x7 : wf.drew.cell? _ = _ := x7
        have x8 : wf.drew.cell? _ = _ := x8
        have y0 : wf.drew.cell? _ = _ := y0
        have y1 : wf.drew.cell? _ = _ := y1
        have y2 : wf.drew.cell? _ = _ := y2
        have y3 : wf.drew.cell? _ = _ := y3
        have y4 : wf.drew.cell? _ = _ := y4
        have y5 : wf.drew.cell? _ = _ := y5
        have y6 : wf.drew.cell? _ = _ := y6
        have y7 : wf.drew.cell? _ = _ := y7
        have y8 : wf.drew.cell? _ = _ := y8
        have r0 : wf.drew.cell? _ = _ := r0
        have r1 : wf.drew.cell? _ = _ := r1
        have r2 : wf.drew.cell? _ = _ := r2
        have DB := Lib.hid (show Below wf.heap.size wf wf.drew from (Below.refl _ _).drew)
        have HBd := Lib.hid (HBF.out.drew)
        have HD1 := Lib.hid (HDM.out.below DB.out)
        have HE1 := Lib.hid (HEM.out.below DB.out)
        generalize wf.drew = wd at *
        repeat still_step
        refine wpStill_nil ?_
        go_wp2_with fail
        have HC := sh_stands HN.out.1 HN.out.2 HF.out _ _ wd HD1.out HE1.out
        with_reducible refine HC.mono ?_
        clear HC
        rintro ee w9 ⟨rfl, hb9⟩
        have HB9 := Lib.hid (HBd.out.trans (hb9.mono HBd.out.size))
        clear hb9 x0 x1 x2 x3 x4 x5 x6 x7 x8 y0 y1 y2 y3 y4 y5 y6 y7 y8 r0 r1 r2
        go_wp2_with fail
        refine (HAWK.out w9 HB9.out).mono ?_
        rintro ee w10 ⟨rfl, hb10⟩
        have HB10 := Lib.hid (HB9.out.trans (hb10.mono HB9.out.size))
        clear hb10
        go_wp2_with fail
        go_ret
        exact ⟨rfl, HB10.out⟩

end Go.Proofs.YtlmpmjhanpkcnaaGreat
