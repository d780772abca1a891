/-
  The term that an object stands for: the reader's object.
-/
import Derived.Test.YtohgkfnbjfhniaaXe
namespace Go.Proofs.Ytohgkfnbjfhniaa
open Go.RowKit

/-- What an object that is one is like. -/
def ObjOK (m : List Frg) (k : Int) (l : List Nat) : Prop :=
  ((k = -1 ∧ l.length = 2) ∨ (k = 0 ∧ 1 ≤ l.length ∧ l.length ≤ 9)) ∨ (k = 1 ∧ 2 ≤ l.length ∧ l.length ≤ 6) ∨ (k = 2 ∧ l.length = 2) ∨ (k = 3 ∧ 2 ≤ l.length ∧ l.getD 1 0 ≤ 64 ∧ (bytesW l).isSome = true) ∨ (k = 4 ∧ rightFlat 4 l = true) ∨ (k = 5 ∧ rightP m 5 l = true)

theorem objP_ok {m : List Frg} {a t k : Int} {l : List Nat} (h : objP m a t = some (k, l)) : ObjOK m k l := by
  unfold objP at h
  split at h
  · cases hw : wordsP m a 2 with
    | none => rw [hw] at h; cases h
    | some x =>
      rw [hw] at h
      simp only [Option.bind_some] at h
      split at h
      · cases h
        have := wordsP_len hw (by omega)
        exact .inl (.inl ⟨rfl, by omega⟩)
      · cases h
  · cases hw : headAt m a with
    | none => rw [hw] at h; cases h
    | some o =>
      obtain ⟨k', l'⟩ := o
      rw [hw] at h
      simp only [Option.bind_some] at h
      split at h
      · rename_i hr
        cases h
        have hk := headAt_le hw
        have h6 : k = 0 ∨ k = 1 ∨ k = 2 ∨ k = 3 ∨ k = 4 ∨ k = 5 := by omega
        rcases h6 with rfl | rfl | rfl | rfl | rfl | rfl
        · unfold rightP rightFlat at hr
          rw [if_neg (by decide), if_pos rfl, Bool.and_eq_true, decide_eq_true_eq] at hr
          exact .inl (.inr ⟨rfl, by omega, hr.1⟩)
        · unfold rightP rightFlat at hr
          rw [if_neg (by decide), if_neg (by decide), if_pos rfl, Bool.and_eq_true, Bool.and_eq_true, decide_eq_true_eq, decide_eq_true_eq] at hr
          exact .inr (.inl ⟨rfl, by omega, by omega⟩)
        · unfold rightP rightFlat at hr
          rw [if_neg (by decide), if_neg (by decide), if_neg (by decide), if_pos rfl, Bool.and_eq_true, decide_eq_true_eq] at hr
          exact .inr (.inr (.inl ⟨rfl, hr.1⟩))
        · unfold rightP at hr
          rw [if_neg (by decide)] at hr
          have h3 := flat3_parts hr
          unfold rightFlat at hr
          rw [if_neg (by decide), if_neg (by decide), if_neg (by decide), if_pos rfl, Bool.and_eq_true, decide_eq_true_eq] at hr
          exact .inr (.inr (.inr (.inl ⟨rfl, hr.1, h3.2, hr.2⟩)))
        · unfold rightP at hr
          rw [if_neg (by decide)] at hr
          exact .inr (.inr (.inr (.inr (.inl ⟨rfl, hr⟩))))
        · exact .inr (.inr (.inr (.inr (.inr ⟨rfl, hr⟩))))
      · cases h

/-- The blocks that the reader's object begins with. -/
theorem obj_blocks (w : World) (k : Int) (a : Option Addr) (n c : Nat) :
    ∃ W, (w.alloc (.cells #[.int .i64 k, .slice a n c] 70)).alloc (.cells #[.int .i64 0, .int .i64 0, .bool false, .slice none 0 0, .int .u64 0, .string ⟨#[]⟩, .slice none 0 0] 40) = W ∧
      W.heap[w.heap.size]? = some (.cells #[.int .i64 k, .slice a n c] 70 (0, 0)) ∧ W.heap[w.heap.size + 1]? = some (.cells #[.int .i64 0, .int .i64 0, .bool false, .slice none 0 0, .int .u64 0, .string ⟨#[]⟩, .slice none 0 0] 40 (0, 0)) ∧ w.heap.size + 2 = W.heap.size ∧ Below w.heap.size w W :=
  ⟨_, rfl, (two_at _ _ _).1, (two_at _ _ _).2.1, (two_at _ _ _).2.2.1, (two_at _ _ _).2.2.2⟩

theorem RdAt.shape {w : World} {R : Nat} {m s : Value} {asks : Bool} {left : Int} (h : RdAt w R m s asks left) : R < w.heap.size := (Array.getElem?_eq_some_iff.1 h).1

/-- A term stored into the answer's block, and answered. -/
theorem answer_of {w W : World} {R : Nat} {mv sv : Value} {asks : Bool} {left' : Int} {tk tn : Int} {tneg : Bool} {tm : Value} {tbits : Int} {tbytes : ByteArray} {ta : Value} {t : Tm} {r : Option (Tm × Nat)}
    (ht : TmAt (fun b => w.heap.size + 2 ≤ b) W (.agg #[.int .i64 tk, .int .i64 tn, .bool tneg, tm, .int .u64 tbits, .string tbytes, ta]) t) (hr : RdAt W R mv sv asks left') (hR : R < w.heap.size) (hg : w.grownBy W (some R)) (hp : ∀ p, r = some p → p.1 = t ∧ left' = (p.2 : Nat)) :
    TermEnd w (set7 W (w.heap.size + 1) (.int .i64 tk) (.int .i64 tn) (.bool tneg) tm (.int .u64 tbits) (.string tbytes) ta) R mv sv asks r (.returned (.tuple #[.agg #[.int .i64 tk, .int .i64 tn, .bool tneg, tm, .int .u64 tbits, .string tbytes, ta], .bool r.isSome])) := by
  have BS := set7_below (Below.refl w.heap.size W) (Nat.le_succ w.heap.size) (.int .i64 tk) (.int .i64 tn) (.bool tneg) tm (.int .u64 tbits) (.string tbytes) ta
  exact ⟨_, t, left', rfl, (ht.lift (fun b hb _ => set7_off _ _ _ _ _ _ _ _ _ (by omega))).mono (fun b hb _ => by omega), hr.at BS hR, grown_then hg BS, hp⟩

set_option maxHeartbeats 800000 in
set_option maxRecDepth 100000 in
theorem obj_args (g : Nat → Nat → Option (Tm × Nat)) (L R : Nat) (mv sv lv : Value) (asks : Bool) (left : Nat) (k : Int) (S : List Slt) (m : List Frg) (l : List Nat) (w0 w : World)
    (hg : ∀ (left x : Nat) (w : World), left ≤ L → x < 18446744073709551616 → RdAt w R mv sv asks left → Below w0.heap.size w0 w → Calls Try.prog 40 #[.pointer (some ⟨R, 0, none⟩), .int .u64 x] w fun e w' => TermEnd w w' R mv sv asks (g left x) e)
    (hgl : ∀ left x p, g left x = some p → p.2 ≤ left) (hR : w0.heap.size ≤ R) (hb : Below w0.heap.size w0 w) (h : RdAt w R mv sv asks left) (hl : Ws w lv l) (hk : (k = -1 ∧ l.length = 2) ∨ (k = 0 ∧ 1 ≤ l.length ∧ l.length ≤ 9)) (hL : left ≤ L) (hms : (∃ a n c, mv = .slice a n c) ∧ ∃ a n c, sv = .slice a n c) :
    Calls Try.prog 57 #[.pointer (some ⟨R, 0, none⟩), .agg #[.int .i64 k, lv]] w fun e w' => TermEnd w w' R mv sv asks (objT g asks S m left (k, l)) e := by
  have hRlt := h.shape
  obtain ⟨gl, ol, c, rfl, hlc, hcm, hml⟩ := hl.open (by omega)
  obtain ⟨W, hW, X0, X1, XS, XB⟩ := obj_blocks w k (some ⟨gl, ol, none⟩) l.length c
  have HW := Lib.hid hW
  have HX1 := Lib.hid X1
  have HXS := Lib.hid XS
  have HXB := Lib.hid XB
  have HA := Lib.hid (args_any g L R mv sv _ asks left k l w0 W hg hgl hR (hb.trans (XB.mono hb.size)) (h.below XB) (hl.below XB) hk hL hms)
  have HE := Lib.hid (show objT g asks S m left (k, l) = (seqP g left (leadW k l)).map fun r => (Tm.mk (if k = -1 then 8 else 6) 0 false [] 0 ⟨#[]⟩ r.1, r.2) by
    unfold objT
    rcases hk with ⟨rfl, _⟩ | ⟨rfl, _⟩ <;> rfl)
  rw [← HE.out] at HA
  obtain ⟨r, hr⟩ : ∃ r, objT g asks S m left (k, l) = r := ⟨_, rfl⟩
  rw [hr] at HA ⊢
  clear HE hr
  have x0 := cell_of X0 0
  have x1 := cell_of X0 1
  simp at x0 x1
  have hsp : k = -1 ∨ k = 0 := by rcases hk with h | h; exact .inl h.1; exact .inr h.1
  clear hW X0 X1 XS XB hg hgl hb h hl hk hms
  rcases hsp with rfl | rfl
  all_goals
    go_enter Try.func57, Try.ntmps57
    go_wp2_with fail
    rw [HW.out]
    go_wp2_with fail
    refine HA.out.mono ?_
    rintro e w6 ⟨tv, t, lf', rfl, ht, hrd, hgr, hp⟩
    obtain ⟨tk, tn, tneg, tma, tml, tmc, tbits, tbytes, ta, tlen, tcap, rfl⟩ := ht.shape
    have U1 := Lib.hid ((hgr.block (w.heap.size + 1) (by have := HXS.out; omega) (by simp; omega)).trans HX1.out)
    have UT := Lib.hid (ht.mono (Q := fun b => w.heap.size + 2 ≤ b) (fun b hb _ => by have := HXS.out; omega))
    have UR := Lib.hid hrd
    have UG := Lib.hid (grown_trans (grown_below HXB.out) hgr)
    have HP := Lib.hid hp
    have a1 := fun i => cell_of U1.out i
    have f1 := fun i => free_of U1.out i
    clear ht hrd hgr hp
    go_wp2_with fail
    refine bodyPost_ret (v := .tuple #[.agg #[.int .i64 tk, .int .i64 tn, .bool tneg, .slice tma tml tmc, .int .u64 tbits, .string tbytes, .slice ta tlen tcap], .bool r.isSome]) (by simp [results, Try.results57, go_sem, a1, f1]) rfl ?_
    exact answer_of UT.out UR.out hRlt UG.out HP.out

end Go.Proofs.Ytohgkfnbjfhniaa
