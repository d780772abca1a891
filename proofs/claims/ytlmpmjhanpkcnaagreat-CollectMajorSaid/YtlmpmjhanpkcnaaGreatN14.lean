/-
  Words: word.Make at an address; chapter 8's own Make and Plain.
  Chapter 12's own look: a dump with slots as an argument, its regions, the words from an address on, a head's words.
-/
import Derived.Test.YtlmpmjhanpkcnaaGreatN13
set_option linter.unusedVariables false
set_option linter.unusedSimpArgs false
namespace Go.Proofs.YtlmpmjhanpkcnaaGreat
open Go.RowKit

theorem ret_two {a b : Int} {c d : Bool} (h : a = b) (h2 : c = d) : Ending.returned (.tuple #[.int .u64 a, .bool c]) = Ending.returned (.tuple #[.int .u64 b, .bool d]) := by rw [h, h2]

theorem or_tag (l t : Nat) (ht : t < 8) (hl : l ≤ 1152921504606846975) : bits .or .u64 (IntKind.u64.wrap ((l : Int) * 8)) (t : Int) = ((l * 8 + t : Nat) : Int) := by
  have e : IntKind.u64.wrap ((l : Int) * 8) = ((l * 8 : Nat) : Int) := by rw [IntKind.wrap_u64]; omega
  rw [e, bits_or_u64_nat (l * 8) t (by omega) (by omega)]
  have := Nat.two_pow_add_eq_or_of_lt (show t < 2 ^ 3 by omega) l
  congr 1
  rw [show l * 8 = 2 ^ 3 * l by omega, ← this]

theorem fits_addr (t l : Nat) (ht : t = 4 ∨ t = 5) (hl : l ≤ 1152921504606846975) : fitsP t l = true := by
  unfold fitsP loW hiW
  rcases ht with rfl | rfl <;> simp <;> omega

/-- word.Make at an address. -/
theorem make_any (t l : Nat) (ht : t = 4 ∨ t = 5) (hl : l ≤ 1152921504606846975) (W : World) : Calls Tryz.prog 73 #[.int .i64 t, .int .i64 l] W fun e W' => e = .returned (.tuple #[.int .u64 ((l * 8 + t : Nat) : Int), .bool true]) ∧ W = W' := by
  have HF := Lib.hid (fits_addr t l ht hl)
  have HQ := Lib.hid (show bits .or .u64 ((l : Int) * 8) (t : Int) = ((l * 8 + t : Nat) : Int) by have := or_tag l t (by omega) hl; rwa [show IntKind.u64.wrap ((l : Int) * 8) = (l : Int) * 8 by rw [IntKind.wrap_u64]; omega] at this)
  have q2 : IntKind.u64.wrap (l : Int) = (l : Int) := by rw [IntKind.wrap_u64]; omega
  have q3 : IntKind.u64.wrap (t : Int) = (t : Int) := by rw [IntKind.wrap_u64]; omega
  generalize l * 8 + t = z at *
  go_enter Tryz.func73, Tryz.ntmps73
  go_wp2_with fail
  refine (fits_any _ _ _).mono ?_
  rintro e w ⟨rfl, rfl⟩
  rw [HF.out]
  go_wp2_with fail
  go_ret2
  refine ⟨?_, rfl⟩
  refine ret_two ?_ rfl
  exact HQ.out

/-- Chapter 8's Make. -/
def make8 (t l : Int) : Option Int := if 0 ≤ t ∧ t ≤ 7 ∧ loW t ≤ l ∧ l ≤ hiW t then some (IntKind.u64.wrap (l * 8 + t)) else none

def Make8End (t l : Int) (e : Ending) : Prop := e = .returned (.tuple #[.int .u64 ((make8 t l).getD 0), .bool (make8 t l).isSome])

set_option maxHeartbeats 4000000 in
theorem make8_any (t l : Int) (ht : 0 ≤ t ∧ t ≤ 7) (hl : -9223372036854775808 ≤ l ∧ l ≤ 9223372036854775807) (W : World) : Calls Tryz.prog 53 #[.int .i64 t, .int .i64 l] W fun e W' => Make8End t l e ∧ W = W' := by
  have q1 : IntKind.u64.wrap t = t := by rw [IntKind.wrap_u64]; omega
  have q0 : ¬ t < 0 := by omega
  have q7 : ¬ 7 < t := by omega
  have HZ := Lib.hid (show IntKind.u64.wrap (IntKind.u64.wrap (IntKind.u64.wrap l * 8) + t) = IntKind.u64.wrap (l * 8 + t) by simp only [IntKind.wrap_u64]; omega)
  by_cases h : loW t ≤ l ∧ l ≤ hiW t
  · have HE := Lib.hid (show make8 t l = some (IntKind.u64.wrap (l * 8 + t)) by unfold make8; rw [if_pos ⟨ht.1, ht.2, h.1, h.2⟩])
    obtain ⟨h1, h2⟩ := h
    unfold loW at h1
    unfold hiW at h2
    go_enter Tryz.func53, Tryz.ntmps53
    go_wp2_with fail
    all_goals
      first
        | (exfalso; simp_all; done)
        | (exfalso; simp_all; omega)
        | (go_ret2; refine ⟨?_, rfl⟩; unfold Make8End; rw [HE.out]; refine ret_two (b := IntKind.u64.wrap (l * 8 + t)) (d := true) ?_ rfl; first | rfl | exact HZ.out | (rw [IntKind.wrap_u64]; omega))
  · have HE := Lib.hid (show make8 t l = none by unfold make8; rw [if_neg (fun q => h ⟨q.2.2.1, q.2.2.2⟩)])
    unfold loW hiW at h
    go_enter Tryz.func53, Tryz.ntmps53
    go_wp2_with fail
    all_goals
      first
        | (exfalso; simp_all; done)
        | (exfalso; simp_all; omega)
        | (go_ret2; refine ⟨?_, rfl⟩; unfold Make8End; rw [HE.out]; rfl)

theorem plain8 (x : Nat) (hx : x < 18446744073709551616) : (decide ((make8 (tagW x) (loadW x)) = some (x : Int)) && decide (tagW x ≤ 5)) = plainP x := by
  have hm : make8 (tagW x) (loadW x) = some (x : Int) ↔ fitsP (tagW x) (loadW x) = true := by
    unfold make8 fitsP
    have e : IntKind.u64.wrap (loadW x * 8 + (tagW x : Nat)) = (x : Int) := by
      rw [IntKind.wrap_u64]
      unfold loadW tagW
      split <;> (try split) <;> omega
    rw [e]
    simp only [Bool.and_eq_true, decide_eq_true_eq]
    constructor
    · intro h
      split at h
      · rename_i q; exact ⟨⟨q.1, q.2.1⟩, q.2.2⟩
      · cases h
    · intro h
      rw [if_pos ⟨h.1.1, h.1.2, h.2.1, h.2.2⟩]
  unfold plainP
  rw [Bool.eq_iff_iff]
  simp only [Bool.and_eq_true, decide_eq_true_eq, hm]
  constructor
  · rintro ⟨a, b⟩; exact ⟨b, a⟩
  · rintro ⟨a, b⟩; exact ⟨b, a⟩

set_option maxHeartbeats 1000000 in
theorem plain8_any (x : Nat) (hx : x < 18446744073709551616) (W : World) : Calls Tryz.prog 101 #[.int .u64 x] W fun e W' => e = .returned (.bool (plainP x)) ∧ W = W' := by
  have HP := Lib.hid (plain8 x hx)
  have HT := Lib.hid (show (0 : Int) ≤ (tagW x : Nat) ∧ ((tagW x : Nat) : Int) ≤ 7 by unfold tagW; omega)
  have HL := Lib.hid (loadW_in x hx)
  obtain ⟨z, hz⟩ : ∃ z, (make8 (tagW x) (loadW x)).getD 0 = z := ⟨_, rfl⟩
  obtain ⟨b, hb⟩ : ∃ b, (make8 (tagW x) (loadW x)).isSome = b := ⟨_, rfl⟩
  have HMK := Lib.hid (show ∀ W, Calls Tryz.prog 53 #[.int .i64 (tagW x : Nat), .int .i64 (loadW x)] W fun e W' => e = .returned (.tuple #[.int .u64 z, .bool b]) ∧ W = W' from fun W => (make8_any _ _ HT.out HL.out W).mono fun e w h => ⟨by have := h.1; unfold Make8End at this; rw [this, hz, hb], h.2⟩)
  have HEQ := Lib.hid (show decide (make8 (tagW x) (loadW x) = some (x : Int)) = (b && (z == (x : Int))) by
    rw [← hz, ← hb]
    cases make8 (tagW x) (loadW x) with
    | none => rfl
    | some y => rw [Bool.eq_iff_iff]; simp)
  clear hz hb
  go_enter Tryz.func101, Tryz.ntmps101
  cases b with
  | false =>
    have HR := Lib.hid (show plainP x = false by rw [← HP.out, HEQ.out]; rfl)
    rw [HR.out]
    go_wp2_with (first | (go_at_call 40; refine (tag8_any x hx _).mono ?_; rintro e w ⟨rfl, rfl⟩) | (go_at_call 39; refine (load8_any x hx _).mono ?_; rintro e w ⟨rfl, rfl⟩) | (go_at_call 53; refine (HMK.out _).mono ?_; rintro e w ⟨rfl, rfl⟩))
    go_ret
    exact ⟨rfl, rfl⟩
  | true =>
    have HR := Lib.hid (show plainP x = ((z == (x : Int)) && decide (tagW x ≤ 5)) by rw [← HP.out, HEQ.out]; rfl)
    rw [HR.out]
    cases hq : (z == (x : Int))
    · have hq2 : ¬ z = (x : Int) := by simpa using hq
      go_wp2_with (first | (go_at_call 40; refine (tag8_any x hx _).mono ?_; rintro e w ⟨rfl, rfl⟩) | (go_at_call 39; refine (load8_any x hx _).mono ?_; rintro e w ⟨rfl, rfl⟩) | (go_at_call 53; refine (HMK.out _).mono ?_; rintro e w ⟨rfl, rfl⟩))
      go_ret
      exact ⟨rfl, rfl⟩
    · go_wp2_with (first | (go_at_call 40; refine (tag8_any x hx _).mono ?_; rintro e w ⟨rfl, rfl⟩) | (go_at_call 39; refine (load8_any x hx _).mono ?_; rintro e w ⟨rfl, rfl⟩) | (go_at_call 53; refine (HMK.out _).mono ?_; rintro e w ⟨rfl, rfl⟩))
      go_ret
      refine ⟨?_, rfl⟩
      show Ending.returned (.bool _) = Ending.returned (.bool _)
      congr 2
      simp <;> omega

end Go.Proofs.YtlmpmjhanpkcnaaGreat

namespace Go.Proofs.YtlmpmjhanpkcnaaGreat
open Go.RowKit

theorem append_rs25 {W0 w : World} {base n : Nat} {v xv : Value} {xs : List Value} {m : List Frg} (ty : TypeId) (hown : w.ownsRow base 24 2 v n xs) (hm : RsAt W0 xv m) (hbl : Below W0.heap.size W0 w) (hle : n + m.length ≤ 1000000) (hbase : base ≤ w.heap.size) :
    ∃ v' w' ys, (Builtin.append_ #[25, 25] ty #[v, xv]).run Tryz.prog w = .ok v' w' ∧ Held W0 ys m ∧ w'.ownsRow base 24 2 v' (n + m.length) (xs ++ ys) ∧ w.grownBy w' v.ownBlock := by
  obtain ⟨i0, hi, hz0, hz1, hz2⟩ := info_parts info24
  obtain ⟨_, a, cap, rfl, hc⟩ := hm
  cases a with
  | none =>
    have : m = [] := by
      cases m with
      | nil => rfl
      | cons x r => obtain ⟨_, _, _, _, q, _⟩ := hc 0 (by simp); cases q
    subst this
    exact ⟨v, w, [], run_append_empty hown 25 ty Tryz.underlying25 hi cap, trivial, by simpa using hown, grown_same _ _⟩
  | some ad =>
    by_cases hmm : m = []
    · subst hmm
      obtain ⟨v', w', h1, h2, h3, _, _⟩ := run_append_own_at (P := Tryz.prog) w base 25 ty 24 i0 (.agg #[.int .i64 0, .slice none 0 0]) 2 32 Tryz.underlying25 hi hz0 hz1 hz2 rfl (by decide) v n xs hown ad 0 cap [] rfl (fun j u hj => by simp at hj) (fun u hu => by cases hu) (by unfold maxLen; simp at hle; omega) (by simp at hle; omega) hbase
      exact ⟨v', w', [], h1, trivial, h2, h3⟩
    · have h0 : 0 < m.length := List.length_pos_iff.2 hmm
      obtain ⟨g, o, _, _, q, _⟩ := hc 0 h0
      cases q
      obtain ⟨ys, hh, hy⟩ := held_of (w := W0) (g := g) (o := o) m 0 (fun j hj => by
        obtain ⟨g', o', wa, wc, q, r1, r2, r3, r4⟩ := hc j hj
        cases q
        exact ⟨wa, wc, r1, by rw [Nat.zero_add]; exact r2, by rw [Nat.zero_add]; exact r3, r4⟩)
      obtain ⟨v', w', h1, h2, h3, _, _⟩ := run_append_own_at (P := Tryz.prog) w base 25 ty 24 i0 (.agg #[.int .i64 0, .slice none 0 0]) 2 32 Tryz.underlying25 hi hz0 hz1 hz2 rfl (by decide) v n xs hown ⟨g, o, none⟩ m.length cap ys hh.len (fun j u hj => by
        rw [Addr.add_lit]
        have := hy j u hj
        rw [Nat.zero_mul, Nat.add_zero] at this
        exact (hbl.cell (World.block_lt_of_cell? W0 _ this)).trans this) hh.one (by unfold maxLen; omega) (by omega) hbase
      exact ⟨v', w', ys, h1, hh, h2, h3⟩

theorem wpList_append_rs25 {w : World} {ops : Array Oper} {rest : List Oper} {o : Oper} {a : Act} {Q : Exit → Act → World → Prop} (hgd : o.guard = none) (sl x : Operand)
    (ho : o.op = .call { callee := .builtin .append, args := #[sl, x], argTypes := #[25, 25] })
    (base : Nat) (v : Value) (n : Nat) (xs : List Value) (hs : a.eval sl = v) (hown : w.ownsRow base 24 2 v n xs) (xv : Value) (hx : a.eval x = xv) (m : List Frg) (W0 : World) (hm : RsAt W0 xv m) (hbl : Below W0.heap.size W0 w)
    (hle : n + m.length ≤ 1000000) (hbase : base ≤ w.heap.size)
    (h : ∀ v' w' ys, Held W0 ys m → w'.ownsRow base 24 2 v' (n + m.length) (xs ++ ys) → w.grownBy w' v.ownBlock → wpList Tryz.prog ops Q rest (a.put o.dst v') w') : wpList Tryz.prog ops Q (o :: rest) a w := by
  refine wpList_plain hgd fun K hK => ?_
  obtain ⟨v', w', ys, hr, h1, h2, h3⟩ := append_rs25 o.type hown hm hbl hle hbase
  unfold Oper.wp execOp
  simp only [ho, resolve, invoke, builtin, Sem.run_bind, Sem.run_pure, Result.andThen_ok, List.map_toArray, List.map_cons, List.map_nil, hs, hx, hr]
  exact hK _ _ (h v' w' ys h1 h2 h3)

set_option maxHeartbeats 4000000 in
set_option maxRecDepth 100000 in
/-- Regions. -/
theorem regs_any (d : Dmp) (v : Value) (w : World) (hd : DmAt w v d) (hf : d.frags.length ≤ 100000) : Calls Tryz.prog 38 #[v] w fun e w' => ∃ r, e = .returned r ∧ RsAt w' r d.mem ∧ Below w.heap.size w w' := by
  obtain ⟨a, b, a', b', f, r, h, rfl, ⟨hi1, rfl, wa1, wc1, rfl, hw1⟩, ⟨hi2, rfl, wa2, wc2, rfl, hw2⟩, h3, h4, h5, h6, h7⟩ := hd
  have H1 := Lib.hid hw1
  have H2 := Lib.hid hw2
  have H5 := Lib.hid h5
  clear hw1 hw2 h5 h6 h7
  obtain ⟨dy, dol, sz, mk, fr, ro, ha⟩ := d
  simp only at *
  go_enter Tryz.func38, Tryz.ntmps38
  have HBa := Lib.hid (((Below.refl w.heap.size w).alloc (Nat.le_refl _) (.cells #[.int .i64 dy.1, .slice wa1 dy.2.length wc1, .int .i64 dol.1, .slice wa2 dol.2.length wc2, .int .i64 sz, .int .i64 mk, f, r, h] 28)).alloc (by simp) (.cells #[.int .i64 dy.1, .slice wa1 dy.2.length wc1, .int .i64 dol.1, .slice wa2 dol.2.length wc2] 24))
  go_wp2_with (at_builtin; (refine wpList_append_rs25 rfl (.tmp 7) (.tmp 9) rfl w.heap.size _ 2 [.int .i64 dy.1, .slice wa1 dy.2.length wc1, .int .i64 dol.1, .slice wa2 dol.2.length wc2] rfl (own_two _ _ _ _ _ _) _ rfl fr w H5.out HBa.out (by omega) HBa.out.size ?_; intro v1 w1 ys hh hown hgr; have HB1 := Lib.hid (HBa.out.grown hgr HBa.out.size (fun k hk => by cases hk; exact Nat.le_succ _)); have HO := Lib.hid hown; have HH := Lib.hid hh; clear hh hown hgr))
  go_ret
  refine ⟨_, rfl, ?_, HB1.out⟩
  have HF : Held w1 ([.int .i64 dy.1, .slice wa1 dy.2.length wc1, .int .i64 dol.1, .slice wa2 dol.2.length wc2] ++ ys) ([dy, dol] ++ fr) := by
    refine held_append ⟨⟨hi1, rfl, wa1, wc1, rfl, H1.out.below HB1.out⟩, ⟨hi2, rfl, wa2, wc2, rfl, H2.out.below HB1.out⟩, trivial⟩ (HH.out.below HB1.out)
  exact rs_of_own HO.out (by simp [Dmp.mem]; omega) HF (by omega)

/-- A look as an argument. -/
def LkAt (w : World) (v : Value) (d : Dmp) (S : List Slt) (deep : Bool) : Prop :=
  ∃ a b a' b' f r h s, v = .agg #[a, b, a', b', .int .i64 d.size, .int .i64 d.mark, f, r, h, s, .bool deep] ∧ DmAt w (dmpV a b a' b' d.size d.mark f r h) d ∧ SlAt w s S

theorem LkAt.below {w w' : World} {v : Value} {d : Dmp} {S : List Slt} {deep : Bool} (h : LkAt w v d S deep) (hb : Below w.heap.size w w') : LkAt w' v d S deep := by
  obtain ⟨a, b, a', b', f, r, h, s, rfl, h1, h2⟩ := h
  exact ⟨a, b, a', b', f, r, h, s, rfl, h1.below hb, h2.below hb⟩

/-- The words from an address on, to the end of its region. -/
def restP : List Frg → Int → List Nat
  | [], _ => []
  | f :: r, a => if inP f.1 f.2.length a = true then f.2.drop (a - f.1).toNat else restP r a

theorem restP_drop {m : List Frg} {j : Nat} (h : j < m.length) (a : Int) : restP (m.drop j) a = if inP m[j].1 m[j].2.length a = true then m[j].2.drop (a - m[j].1).toNat else restP (m.drop (j + 1)) a := by
  rw [List.drop_eq_getElem_cons h, restP]

def SlEnd (w' : World) (l : List Nat) (e : Ending) : Prop := ∃ v, e = .returned v ∧ Ws w' v l

theorem inP_parts {f : Int} {n : Nat} {a : Int} (h : inP f n a = true) : 0 ≤ f ∧ f ≤ a ∧ a - f < n := by
  simp [inP] at h; omega

theorem not_inP {f : Int} {n : Nat} {a : Int} (h : inP f n a = false) : f < 0 ∨ a < f ∨ (0 ≤ f ∧ f ≤ a ∧ (n : Int) ≤ a - f) := by
  simp [inP] at h; omega

/-- A list of words from a place on. -/
theorem Ws.from_ {w : World} {g o c : Nat} {l : List Nat} (h : Ws w (.slice (some ⟨g, o, none⟩) l.length c) l) {k : Nat} (hk : k < l.length) : Ws w (.slice (some ⟨g, o + k, none⟩) (l.length - k) (c - k)) (l.drop k) := by
  have := h.cut (k := k) (n := l.length - k) (by omega)
  rwa [List.take_of_length_le (by rw [List.length_drop]; exact Nat.le_refl _)] at this

set_option maxHeartbeats 4000000 in
set_option maxRecDepth 100000 in
theorem at_any (d : Dmp) (S : List Slt) (deep : Bool) (v : Value) (a : Int) (w : World) (h : LkAt w v d S deep) (hf : d.frags.length ≤ 100000) (ha : -9223372036854775808 ≤ a ∧ a ≤ 9223372036854775807) :
    Calls Tryz.prog 66 #[v, .int .i64 a] w fun e w' => SlEnd w' (restP d.mem a) e ∧ Below w.heap.size w w' := by
  obtain ⟨c1, c2, c3, c4, c5, c6, c7, s, rfl, hd, hs⟩ := h
  have HDM := Lib.hid hd
  clear hs hd
  obtain ⟨m, hm0⟩ : ∃ m, d.mem = m := ⟨_, rfl⟩
  have HM0 := Lib.hid hm0
  rw [hm0]
  clear hm0
  go_enter Tryz.func66, Tryz.ntmps66
  go_wp2_with fail
  have HB0 := Lib.hid ((Below.refl w.heap.size w).alloc (Nat.le_refl _) (.cells #[c1, c2, c3, c4, .int .i64 d.size, .int .i64 d.mark, c5, c6, c7, s, .bool deep] 53))
  refine (regs_any d _ _ (HDM.out.below HB0.out) hf).mono ?_
  rintro e w1 ⟨r, rfl, hm, hb1⟩
  have HB1 := Lib.hid (HB0.out.trans (hb1.mono (by simp)))
  rw [HM0.out] at hm
  obtain ⟨hl, ma, mcap, rfl, hc⟩ := hm
  have HC := Lib.hid hc
  unfold maxLen at hl
  clear hc hb1 HDM HB0
  go_wp2_with fail
  go_loopw [6] (fun i wr => ∃ (j : Nat), j ≤ m.length ∧ i = .int .i64 j ∧ Hid (restP m a = restP (m.drop j) a) ∧ Hid (Below w1.heap.size w1 wr)) (fun i _ => m.length - (intOf i).toNat)
  case atStart => exact ⟨0, by omega, rfl, Lib.hid (by simp), Lib.hid (Below.refl _ _)⟩
  case round =>
    obtain ⟨j, hj, rfl, HW, HB⟩ := hrel
    by_cases hlt : j < m.length
    · obtain ⟨g, o, wa, wc, rfl, hi, k0, k1, hw⟩ := HC.out j hlt
      have l0 := (HB.out.cell (World.block_lt_of_cell? w1 _ k0)).trans k0
      have l1 := (HB.out.cell (World.block_lt_of_cell? w1 _ k1)).trans k1
      have HD := Lib.hid (restP_drop hlt a)
      obtain ⟨⟨fa, fw⟩, hfm⟩ : ∃ f, m[j] = f := ⟨_, rfl⟩
      rw [hfm] at l0 l1 HD hi hw
      have HWS := Lib.hid hw
      have q4 : (j : Int) < (m.length : Int) := by omega
      have q5 : (0 : Int) ≤ (j : Int) := by omega
      have q6 : IntKind.i64.wrap ((j : Int) + 1) = (j : Int) + 1 := IntWalk.i64_in _ (by omega)
      clear k0 k1 hfm hw
      cases hin : inP fa fw.length a
      · have HN := Lib.hid (show restP m a = restP (m.drop (j + 1)) a by rw [HW.out, HD.out]; simp [hin])
        rcases not_inP hin with x | x | ⟨x1, x2, x3⟩
        · have p1 : ¬ 0 ≤ fa := by omega
          have p2 : decide (0 ≤ fa) = false := by simpa using x
          clear hin
          go_wp2_with fail
          go_quiet (fail)
          go_wp2_with fail
          go_roundw
          case rel => exact ⟨j + 1, by omega, by go_num, HN, Lib.hid (HB.out.trans ((drewN_below _).mono HB.out.size))⟩
          case measure => simp [intOf]; omega
        · by_cases x0 : 0 ≤ fa
          · have p1 : decide (0 ≤ fa) = true := by simpa using x0
            have p2 : decide (fa ≤ a) = false := by simpa using x
            clear hin
            go_wp2_with fail
            go_quiet (fail)
            go_wp2_with fail
            go_roundw
            case rel => exact ⟨j + 1, by omega, by go_num, HN, Lib.hid (HB.out.trans ((drewN_below _).mono HB.out.size))⟩
            case measure => simp [intOf]; omega
          · have p2 : decide (0 ≤ fa) = false := by simpa using x0
            clear hin
            go_wp2_with fail
            go_quiet (fail)
            go_wp2_with fail
            go_roundw
            case rel => exact ⟨j + 1, by omega, by go_num, HN, Lib.hid (HB.out.trans ((drewN_below _).mono HB.out.size))⟩
            case measure => simp [intOf]; omega
        · have p1 : decide (0 ≤ fa) = true := by simpa using x1
          have p2 : decide (fa ≤ a) = true := by simpa using x2
          have p4 : IntKind.i64.wrap (a - fa) = a - fa := IntWalk.i64_in _ (by omega)
          have p3 : decide (a - fa < (fw.length : Int)) = false := by simpa using x3
          clear hin
          go_wp2_with fail
          go_quiet (fail)
          go_wp2_with fail
          go_roundw
          case rel => exact ⟨j + 1, by omega, by go_num, HN, Lib.hid (HB.out.trans ((drewN_below _).mono HB.out.size))⟩
          case measure => simp [intOf]; omega
      · have HN := Lib.hid (show restP m a = fw.drop (a - fa).toNat by rw [HW.out, HD.out]; simp [hin])
        obtain ⟨x1, x2, x3⟩ := inP_parts hin
        obtain ⟨kk, hkk⟩ : ∃ kk : Nat, a - fa = (kk : Int) := ⟨(a - fa).toNat, by omega⟩
        have hfl := HWS.out.1
        unfold maxLen at hfl
        have p1 : decide (0 ≤ fa) = true := by simpa using x1
        have p2 : decide (fa ≤ a) = true := by simpa using x2
        have p4 : IntKind.i64.wrap (a - fa) = (kk : Int) := by rw [hkk]; exact IntWalk.i64_in _ (by omega)
        have hkl : kk < fw.length := by omega
        have p3 : decide (kk < fw.length) = true := by simpa using hkl
        have HWS2 := HWS.out
        obtain ⟨_, hu, wa', wc', hv, hcc, hcm, hcl⟩ := HWS2
        simp only [Value.slice.injEq, true_and] at hv
        dsimp only at hcc hcm
        obtain ⟨rfl, rfl⟩ := hv
        obtain ⟨gw, ow, rfl, _⟩ := hcl kk hkl
        have r2 : kk < wc := by omega
        have r3 : ¬ wc = kk := by omega
        have r4 : ¬ wc - kk = 0 := by omega
        have r5 : kk ≤ fw.length := by omega
        have HR := Lib.hid (show restP m a = fw.drop kk by rw [HN.out, hkk]; rfl)
        have HCUT := Lib.hid ((HWS.out.below HB.out).from_ hkl)
        clear hcl hu hin hkk
        go_wp2_with fail
        go_quiet (fail)
        go_wp2_with fail
        go_quiet (fail)
        go_wp2_with fail
        go_ret
        exact ⟨⟨_, rfl, by rw [HR.out]; exact (HCUT.out.below (drewN_below _)).below (drewN_below _)⟩, HB1.out.trans ((HB.out.trans ((drewN_below _).mono HB.out.size)).trans ((drewN_below _).mono (by have := HB.out.size; simpa using this)) |>.mono HB1.out.size)⟩
    · obtain rfl : j = m.length := by omega
      have q4 : ¬ ((m.length : Nat) : Int) < (m.length : Int) := by omega
      have HR := Lib.hid (show restP m a = [] by rw [HW.out]; simp [restP])
      go_wp2_with fail
      go_ret
      exact ⟨⟨_, rfl, by rw [HR.out]; exact Ws.nil _⟩, HB1.out.trans (HB.out.mono HB1.out.size)⟩

end Go.Proofs.YtlmpmjhanpkcnaaGreat
