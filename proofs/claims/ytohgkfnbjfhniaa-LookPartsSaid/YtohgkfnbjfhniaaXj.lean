/-
  What a word of a dump stands for: mem.Read, look.Read.
-/
import Derived.Test.YtohgkfnbjfhniaaXi
namespace Go.Proofs.Ytohgkfnbjfhniaa
open Go.RowKit

/-- What a word stands for. -/
def readP (asks : Bool) (S : List Slt) (m : List Frg) (x : Nat) : Option Tm := (termP asks S m 301 300 x).map (·.1)

def ReadEnd (w w' : World) (r : Option Tm) (e : Ending) : Prop :=
  ∃ (tv : Value) (t : Tm), e = .returned (.tuple #[tv, .bool r.isSome]) ∧ TmAt (fun k => w.heap.size ≤ k) w' tv t ∧ (∀ t', r = some t' → t' = t) ∧ Below w.heap.size w w'

theorem read_at {w W : World} {b : Nat} {tk tn : Int} {tneg : Bool} {tm : Value} {tbits : Int} {tbytes : ByteArray} {ta : Value} {t : Tm} {r : Option Tm} (hb : w.heap.size ≤ b)
    (ht : TmAt (fun k => b < k) W (.agg #[.int .i64 tk, .int .i64 tn, .bool tneg, tm, .int .u64 tbits, .string tbytes, ta]) t) (hg : Below w.heap.size w W) (hp : ∀ p, r = some p → p = t) :
    ReadEnd w (set7 W b (.int .i64 tk) (.int .i64 tn) (.bool tneg) tm (.int .u64 tbits) (.string tbytes) ta) r (.returned (.tuple #[.agg #[.int .i64 tk, .int .i64 tn, .bool tneg, tm, .int .u64 tbits, .string tbytes, ta], .bool r.isSome])) :=
  ⟨_, t, rfl, (ht.lift (fun k hk _ => set7_off _ _ _ _ _ _ _ _ _ (by omega))).mono (fun k hk _ => by omega), hp, set7_below hg hb _ _ _ _ _ _ _⟩

set_option maxHeartbeats 4000000 in
set_option maxRecDepth 100000 in
theorem memRead_any (mv sv : Value) (asks : Bool) (S : List Slt) (m : List Frg) (x : Nat) (w : World) (hm : RsAt w mv m) (hS : SlAt w sv S) (hx : x < 18446744073709551616) :
    Calls Try.prog 25 #[mv, sv, .bool asks, .int .u64 x] w fun e w' => ReadEnd w w' (readP asks S m x) e := by
  obtain ⟨r, hr⟩ : ∃ r, readP asks S m x = r := ⟨_, rfl⟩
  rw [hr]
  have HE := Lib.hid hr
  have T := two_at w (.cells #[.int .i64 0, .int .i64 0, .bool false, .slice none 0 0, .int .u64 0, .string ⟨#[]⟩, .slice none 0 0] 40) (.cells #[mv, sv, .bool asks, .int .i64 300] 86)
  have hmv := hm
  have hsv := hS
  obtain ⟨-, ma, mc, rfl, -⟩ := hmv
  obtain ⟨-, sa, sc, rfl, -⟩ := hsv
  have HM := Lib.hid hm
  have HS := Lib.hid hS
  clear hm hS hr
  go_enter Try.func25, Try.ntmps25
  go_wp2_with fail
  generalize (w.alloc (.cells #[.int .i64 0, .int .i64 0, .bool false, .slice none 0 0, .int .u64 0, .string ⟨#[]⟩, .slice none 0 0] 40)).alloc (.cells #[.slice ma m.length mc, .slice sa S.length sc, .bool asks, .int .i64 300] 86) = W at *
  have X0 := Lib.hid T.1
  have XR := Lib.hid (show RdAt W (w.heap.size + 1) (.slice ma m.length mc) (.slice sa S.length sc) asks ((300 : Nat) : Int) from T.2.1)
  have XS := Lib.hid T.2.2.1
  have XB := Lib.hid T.2.2.2
  clear T
  refine (term_any (w.heap.size + 1) _ _ asks S m w (by omega) HM.out HS.out 300 300 x W (by omega) (by omega) hx XR.out XB.out).mono ?_
  rintro e w2 ⟨tv, t, lf, rfl, ht, hrd, hgr, hp⟩
  obtain ⟨tk, tn, tneg, tma, tml, tmc, tbits, tbytes, ta, tlen, tcap, rfl⟩ := ht.shape
  have HIS := Lib.hid (show (termP asks S m (300 + 1) 300 x).isSome = r.isSome by rw [← HE.out]; unfold readP; cases termP asks S m 301 300 x <;> rfl)
  rw [HIS.out]
  have HP := Lib.hid (show ∀ p, r = some p → p = t from fun p h => by
    rw [← HE.out] at h
    unfold readP at h
    cases hq : termP asks S m 301 300 x with
    | none => rw [hq] at h; cases h
    | some q => rw [hq] at h; cases h; exact (hp q hq).1)
  have U0 := Lib.hid ((hgr.block w.heap.size (by have := XS.out; omega) (by simp)).trans X0.out)
  have US := Lib.hid (show w.heap.size + 2 ≤ w2.heap.size by have := XS.out; have := hgr.size; omega)
  have UB := Lib.hid (XB.out.trans (grown_low hgr (by omega) XB.out.size))
  have UT := Lib.hid (ht.mono (Q := fun b => w.heap.size < b) (fun b hb _ => by have := XS.out; omega))
  clear ht hrd hgr hp HIS
  have A1 := fun o => (Below.heap_alloc w2 o w.heap.size (by have := US.out; omega)).trans U0.out
  have a1 := fun o i => cell_of (A1 o) i
  have f1 := fun o i => free_of (A1 o) i
  clear A1
  cases r with
  | none =>
    go_wp2_with fail
    have A := read_at (b := w.heap.size) (r := none) (Nat.le_refl _) (TmAt.zero _) (UB.out.alloc UB.out.size (.cells #[.int .i64 tk, .int .i64 tn, .bool tneg, .slice tma tml tmc, .int .u64 tbits, .string tbytes, .slice ta tlen tcap] 40)) (fun p hp => by cases hp)
    refine bodyPost_ret (v := .tuple #[.agg #[.int .i64 0, .int .i64 0, .bool false, .slice none 0 0, .int .u64 0, .string ⟨#[]⟩, .slice none 0 0], .bool false]) (by simp [results, Try.results25, go_sem, a1, f1]) rfl A
  | some t' =>
    go_wp2_with fail
    have A := read_at (b := w.heap.size) (r := some t') (Nat.le_refl _) (UT.out.lift (w' := w2.alloc (.cells #[.int .i64 tk, .int .i64 tn, .bool tneg, .slice tma tml tmc, .int .u64 tbits, .string tbytes, .slice ta tlen tcap] 40)) (fun k _ hk => Below.heap_alloc _ _ _ hk)) (UB.out.alloc UB.out.size _) HP.out
    refine bodyPost_ret (v := .tuple #[.agg #[.int .i64 tk, .int .i64 tn, .bool tneg, .slice tma tml tmc, .int .u64 tbits, .string tbytes, .slice ta tlen tcap], .bool true]) (by simp [results, Try.results25, go_sem, a1, f1]) rfl A

set_option maxHeartbeats 4000000 in
set_option maxRecDepth 100000 in
theorem read_any (d : Dmp) (dv sv : Value) (S : List Slt) (x : Nat) (w : World) (hd : DmAt w dv d) (hS : SlAt w sv S) (hf : d.frags.length ≤ 100000) (hx : x < 18446744073709551616) :
    Calls Try.prog 10 #[dv, sv, .int .u64 x] w fun e w' => ReadEnd w w' (readP true S d.mem x) e := by
  have HD := Lib.hid hd
  have HS := Lib.hid hS
  obtain ⟨r, hr⟩ : ∃ r, readP true S d.mem x = r := ⟨_, rfl⟩
  have HE := Lib.hid hr
  rw [hr]
  obtain ⟨a, b, a', b', f, ro, h, rfl, ⟨-, rfl, wa1, wc1, rfl, -⟩, ⟨-, rfl, wa2, wc2, rfl, -⟩, -, -, ⟨-, fa, fc, rfl, -⟩, ⟨-, -, ra, rc, rfl, -⟩, ⟨-, -, ha, hc, rfl, -⟩⟩ := hd
  obtain ⟨-, sa, sc, rfl, -⟩ := hS
  clear hr
  have T := two_at w (.cells #[.int .i64 d.young.1, .slice wa1 d.young.2.length wc1, .int .i64 d.old.1, .slice wa2 d.old.2.length wc2, .int .i64 d.size, .int .i64 d.mark, .slice fa d.frags.length fc, .slice ra d.roots.length rc, .slice ha d.handles.length hc] 28) (.cells #[.int .i64 0, .int .i64 0, .bool false, .slice none 0 0, .int .u64 0, .string ⟨#[]⟩, .slice none 0 0] 40)
  go_enter Try.func10, Try.ntmps10
  go_wp2_with fail
  generalize (w.alloc (.cells #[.int .i64 d.young.1, .slice wa1 d.young.2.length wc1, .int .i64 d.old.1, .slice wa2 d.old.2.length wc2, .int .i64 d.size, .int .i64 d.mark, .slice fa d.frags.length fc, .slice ra d.roots.length rc, .slice ha d.handles.length hc] 28)).alloc (.cells #[.int .i64 0, .int .i64 0, .bool false, .slice none 0 0, .int .u64 0, .string ⟨#[]⟩, .slice none 0 0] 40) = W at *
  have X1 := Lib.hid T.2.1
  have XS := Lib.hid T.2.2.1
  have XB := Lib.hid T.2.2.2
  clear T
  refine (of_any d _ W (HD.out.below XB.out) hf).mono ?_
  rintro e w2 ⟨mv, rfl, hm, hb2⟩
  have HM := Lib.hid hm
  have Y1 := Lib.hid ((hb2.block (w.heap.size + 1) (by have := XS.out; omega)).trans X1.out)
  have YS := Lib.hid (Nat.le_trans (Nat.le_of_eq XS.out) hb2.size)
  have YB := Lib.hid (XB.out.trans (hb2.mono XB.out.size))
  clear hm hb2
  go_wp2_with fail
  refine (memRead_any mv _ true S d.mem x w2 HM.out (HS.out.below YB.out) hx).mono ?_
  rintro e w3 ⟨tv, t, rfl, ht, hp, hb3⟩
  rw [HE.out] at hp ⊢
  obtain ⟨tk, tn, tneg, tma, tml, tmc, tbits, tbytes, ta, tlen, tcap, rfl⟩ := ht.shape
  have U1 := Lib.hid ((hb3.block (w.heap.size + 1) (by have := YS.out; omega)).trans Y1.out)
  have UB := Lib.hid (YB.out.trans (hb3.mono YB.out.size))
  have UT := Lib.hid (ht.mono (Q := fun b => w.heap.size + 1 < b) (fun b hb _ => by have := YS.out; omega))
  have HP := Lib.hid hp
  have a1 := fun i => cell_of U1.out i
  have f1 := fun i => free_of U1.out i
  clear ht hp hb3
  go_wp2_with fail
  have A := read_at (b := w.heap.size + 1) (r := r) (by omega) UT.out UB.out HP.out
  refine bodyPost_ret (v := .tuple #[.agg #[.int .i64 tk, .int .i64 tn, .bool tneg, .slice tma tml tmc, .int .u64 tbits, .string tbytes, .slice ta tlen tcap], .bool r.isSome]) (by simp [results, Try.results10, go_sem, a1, f1]) rfl A

end Go.Proofs.Ytohgkfnbjfhniaa
