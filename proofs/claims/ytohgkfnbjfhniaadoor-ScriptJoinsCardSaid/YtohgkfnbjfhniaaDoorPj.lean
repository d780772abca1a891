/-
  ScriptJoins: the law's walk.
-/
import Derived.Test.YtohgkfnbjfhniaaDoorPb
namespace Go.Proofs.YtohgkfnbjfhniaaDoor
open Go.RowKit Sp

/-! ### Appends of slices that came in -/

theorem run_append_empty {w : World} {base e size n : Nat} {v : Value} {xs : List Value} (hown : w.ownsRow base e size v n xs) (t ty : TypeId) {i : TypeInfo} (ht : Tryd.prog.underlying t = some (.slice e)) (hi : Tryd.prog.info? e = some i) (cap : Nat) :
    (Builtin.append_ #[t, t] ty #[v, .slice none 0 cap]).run Tryd.prog w = .ok v w := by
  rcases hown.2 with ⟨rfl, _⟩ | ⟨g, c, cur, rfl, hbg, hg, hnc, hcm, hcs, htake⟩
  · simp [Builtin.append_, run_underlying ht, sizeOf, typeInfo, hi, Builtin.lenOf, run_firstCells_none]
  · simp [Builtin.append_, run_underlying ht, sizeOf, typeInfo, hi, Builtin.lenOf, run_firstCells_none, hnc, Addr.add_lit, storeCells]

theorem grown_same (w : World) (row : Option Nat) : w.grownBy w row := ⟨rfl, rfl, rfl, Nat.le_refl _, fun _ _ _ => rfl⟩

theorem append_bs {w : World} {base n : Nat} {v xv : Value} {xs : List Value} {l : List UInt8} (ty : TypeId) (hown : w.ownsRow base 5 1 v n xs) (hb : Bs w xv l) (hle : n + l.length ≤ 1000000) (hbase : base ≤ w.heap.size) :
    ∃ v' w', (Builtin.append_ #[36, 36] ty #[v, xv]).run Tryd.prog w = .ok v' w' ∧ w'.ownsRow base 5 1 v' (n + l.length) (xs ++ cs8 l) ∧ w.grownBy w' v.ownBlock := by
  obtain ⟨i0, hi, hz0, hz1, hz2⟩ := info_parts info5
  obtain ⟨a, cap, rfl, hc⟩ := hb
  cases a with
  | none =>
    have : l = [] := by
      cases l with
      | nil => rfl
      | cons x r => obtain ⟨ad, q, _⟩ := hc 0 (by simp); cases q
    subst this
    exact ⟨v, w, run_append_empty hown 36 ty Tryd.underlying36 hi cap, by simpa [cs8] using hown, grown_same _ _⟩
  | some ad =>
    obtain ⟨v', w', h1, h2, h3, _, _⟩ := run_append_own_at (P := Tryd.prog) w base 36 ty 5 i0 (.int .u8 0) 1 1 Tryd.underlying36 hi hz0 hz1 hz2 rfl (by decide) v n xs hown ad l.length cap (cs8 l) (by simp [cs8]) (fun j u hj => by
      obtain ⟨hj1, hj2⟩ := List.getElem?_eq_some_iff.1 hj
      have hjl : j < l.length := by simpa [cs8] using hj1
      obtain ⟨ad2, q, k⟩ := hc j hjl
      cases q
      rw [k, ← hj2]
      simp [cs8]) (fun u hu => by
      simp only [cs8, List.mem_map] at hu
      obtain ⟨x, _, rfl⟩ := hu
      rfl) (by unfold maxLen; omega) (by omega) hbase
    exact ⟨v', w', h1, h2, h3⟩

theorem append_es {w : World} {base n : Nat} {v xv : Value} {xs : List Value} {l : List Three} (ty : TypeId) (hown : w.ownsRow base 61 3 v n xs) (hb : Es w xv l) (hle : n + l.length ≤ 1000000) (hbase : base ≤ w.heap.size) :
    ∃ v' w', (Builtin.append_ #[39, 39] ty #[v, xv]).run Tryd.prog w = .ok v' w' ∧ w'.ownsRow base 61 3 v' (n + l.length) (xs ++ flat3 l) ∧ w.grownBy w' v.ownBlock := by
  obtain ⟨i0, hi, hz0, hz1, hz2⟩ := info_parts info61
  obtain ⟨a, cap, rfl, hc⟩ := hb
  cases a with
  | none =>
    have : l = [] := by
      cases l with
      | nil => rfl
      | cons x r => obtain ⟨ad, q, _⟩ := hc 0 (by simp); cases q
    subst this
    exact ⟨v, w, run_append_empty hown 39 ty Tryd.underlying39 hi cap, by simpa [flat3] using hown, grown_same _ _⟩
  | some ad =>
    obtain ⟨v', w', h1, h2, h3, _, _⟩ := run_append_own_at (P := Tryd.prog) w base 39 ty 61 i0 (.agg #[.int .i64 0, .int .i64 0, .int .i64 0]) 3 24 Tryd.underlying39 hi hz0 hz1 hz2 rfl (by decide) v n xs hown ad l.length cap (flat3 l) (flat3_length l) (fun j u hj => by
      obtain ⟨hj1, hj2⟩ := List.getElem?_eq_some_iff.1 hj
      have hjl : j / 3 < l.length := by rw [flat3_length] at hj1; omega
      obtain ⟨ad2, q, k0, k1, k2⟩ := hc (j / 3) hjl
      cases q
      obtain ⟨f0, f1, f2⟩ := flat3_at hjl
      have h3 : j = j / 3 * 3 ∨ j = j / 3 * 3 + 1 ∨ j = j / 3 * 3 + 2 := by omega
      rcases h3 with e | e | e
      · rw [e, k0, ← f0, ← e, hj]
      · rw [e, k1, ← f1, ← e, hj]
      · rw [e, k2, ← f2, ← e, hj]) (fun u hu => by
      simp only [flat3, List.mem_flatMap, List.mem_cons, List.mem_nil_iff, or_false] at hu
      obtain ⟨x, _, rfl | rfl | rfl⟩ := hu <;> rfl) (by unfold maxLen; omega) (by omega) hbase
    exact ⟨v', w', h1, h2, h3⟩

theorem wpList_append_bs {w : World} {ops : Array Oper} {rest : List Oper} {o : Oper} {a : Act} {Q : Exit → Act → World → Prop} (hgd : Region.wanted o (yielded ops a.tmps) = true) (sl x : Operand)
    (ho : o.op = .call { callee := .builtin .append, args := #[sl, x], argTypes := #[36, 36] })
    (base : Nat) (v : Value) (n : Nat) (xs : List Value) (hs : a.eval sl = v) (hown : w.ownsRow base 5 1 v n xs) (xv : Value) (hx : a.eval x = xv) (l : List UInt8) (hb : Bs w xv l)
    (hle : n + l.length ≤ 1000000) (hbase : base ≤ w.heap.size)
    (h : ∀ v' w', w'.ownsRow base 5 1 v' (n + l.length) (xs ++ cs8 l) → w.grownBy w' v.ownBlock → wpList Tryd.prog ops Q rest (a.put o.dst v') w') : wpList Tryd.prog ops Q (o :: rest) a w := by
  refine wpList_step fun K hK => ?_
  rw [if_pos hgd]
  obtain ⟨v', w', hr, h2, h3⟩ := append_bs o.type hown hb hle hbase
  unfold Oper.wp execOp
  simp only [ho, resolve, invoke, builtin, Sem.run_bind, Sem.run_pure, Result.andThen_ok, List.map_toArray, List.map_cons, List.map_nil, hs, hx, hr]
  exact hK _ _ (h v' w' h2 h3)

theorem wpList_append_es {w : World} {ops : Array Oper} {rest : List Oper} {o : Oper} {a : Act} {Q : Exit → Act → World → Prop} (hgd : Region.wanted o (yielded ops a.tmps) = true) (sl x : Operand)
    (ho : o.op = .call { callee := .builtin .append, args := #[sl, x], argTypes := #[39, 39] })
    (base : Nat) (v : Value) (n : Nat) (xs : List Value) (hs : a.eval sl = v) (hown : w.ownsRow base 61 3 v n xs) (xv : Value) (hx : a.eval x = xv) (l : List Three) (hb : Es w xv l)
    (hle : n + l.length ≤ 1000000) (hbase : base ≤ w.heap.size)
    (h : ∀ v' w', w'.ownsRow base 61 3 v' (n + l.length) (xs ++ flat3 l) → w.grownBy w' v.ownBlock → wpList Tryd.prog ops Q rest (a.put o.dst v') w') : wpList Tryd.prog ops Q (o :: rest) a w := by
  refine wpList_step fun K hK => ?_
  rw [if_pos hgd]
  obtain ⟨v', w', hr, h2, h3⟩ := append_es o.type hown hb hle hbase
  unfold Oper.wp execOp
  simp only [ho, resolve, invoke, builtin, Sem.run_bind, Sem.run_pure, Result.andThen_ok, List.map_toArray, List.map_cons, List.map_nil, hs, hx, hr]
  exact hK _ _ (h v' w' h2 h3)

theorem own_joined {w : World} {base : Nat} {v : Value} {a b : List UInt8} (h : w.ownsRow base 5 1 v (0 + a.length + b.length) ([] ++ cs8 a ++ cs8 b)) : w.ownsRow base 5 1 v (a ++ b).length (cs8 (a ++ b)) := by
  have e : [] ++ cs8 a ++ cs8 b = cs8 (a ++ b) := by simp [cs8]
  have e2 : 0 + a.length + b.length = (a ++ b).length := by simp
  rw [e, e2] at h; exact h
theorem own_joined3 {w : World} {base : Nat} {v : Value} {a b : List Three} (h : w.ownsRow base 61 3 v (0 + a.length + b.length) ([] ++ flat3 a ++ flat3 b)) : w.ownsRow base 61 3 v (a ++ b).length (flat3 (a ++ b)) := by
  have e : [] ++ flat3 a ++ flat3 b = flat3 (a ++ b) := by simp [flat3]
  have e2 : 0 + a.length + b.length = (a ++ b).length := by simp
  rw [e, e2] at h; exact h

theorem print_len (b : List UInt8) (c : Three) (es : List Three) (h : (printP b c es).2 = 0) : (printP b c es).1.length ≤ 2 * b.length + 7 + 70 + 69 * es.length := by
  obtain ⟨hc, hes, he, _⟩ := printP_ok h
  rw [he]
  have h1 := evs_len es (fun e h => num3_in64 (hes e h))
  have h2 := hexP_length b
  have h3 := three_len c.1 c.2.1 c.2.2 (num3_in64 hc)
  simp only [headT, List.length_append, List.length_cons, List.length_nil]
  omega

set_option maxHeartbeats 8000000 in
set_option maxRecDepth 100000 in
theorem joins_any (va : Value) (a : List UInt8) (c0 c1 c2 : Int) (ve : Value) (es : List Three) (vb : Value) (b : List UInt8) (d0 d1 d2 : Int) (vf : Value) (fs : List Three) (w : World) (g : GW w) (h9 : 9 ≤ w.heap.size)
    (ha : Bs w va a) (he : Es w ve es) (hb : Bs w vb b) (hf : Es w vf fs)
    (hc : In64 c0 ∧ In64 c1 ∧ In64 c2) (hes : ∀ e ∈ es, In64 e.1 ∧ In64 e.2.1 ∧ In64 e.2.2) (hd : In64 d0 ∧ In64 d1 ∧ In64 d2) (hfs : ∀ e ∈ fs, In64 e.1 ∧ In64 e.2.1 ∧ In64 e.2.2) :
    Calls Tryd.prog 8 #[va, .agg #[.int .i64 c0, .int .i64 c1, .int .i64 c2], ve, vb, .agg #[.int .i64 d0, .int .i64 d1, .int .i64 d2], vf] w fun e w' => e = .returned (.bool true) ∧ Below w.heap.size w w' := by
  have HA := Lib.hid ha
  have HE := Lib.hid he
  have HB := Lib.hid hb
  have HF := Lib.hid hf
  have HC := Lib.hid hc
  have HES := Lib.hid hes
  have HD := Lib.hid hd
  have HFS := Lib.hid hfs
  obtain ⟨aa, acap, rfl, hx1⟩ := ha
  obtain ⟨ea, ecap, rfl, hx2⟩ := he
  obtain ⟨ba, bcap, rfl, hx3⟩ := hb
  obtain ⟨fa, fcap, rfl, hx4⟩ := hf
  have b1 : Below w.heap.size w ((w.alloc (.cells #[.int .i64 c0, .int .i64 c1, .int .i64 c2] 38)).alloc (.cells #[.int .i64 d0, .int .i64 d1, .int .i64 d2] 38)) := ((Below.refl _ _).alloc (Nat.le_refl _) _).alloc (by simp) _
  have B1 := Lib.hid b1
  have HG0 := Lib.hid g
  have HG1 := Lib.hid (g.below b1 h9)
  clear hx1 hx2 hx3 hx4 b1 g hc hes hd hfs
  have hawk : (4000 < a.length ∨ 4000 < b.length ∨ 60 < es.length ∨ 60 < fs.length) ∨ (a.length ≤ 4000 ∧ b.length ≤ 4000 ∧ es.length ≤ 60 ∧ fs.length ≤ 60) := by omega
  rcases hawk with hawk | ⟨h1, h2, h3, h4⟩
  · have hsplit : (4000 : Int) < (a.length : Int) ∨ (¬ (4000 : Int) < (a.length : Int) ∧ (4000 : Int) < (b.length : Int)) ∨ (¬ (4000 : Int) < (a.length : Int) ∧ ¬ (4000 : Int) < (b.length : Int) ∧ (60 : Int) < (es.length : Int)) ∨ (¬ (4000 : Int) < (a.length : Int) ∧ ¬ (4000 : Int) < (b.length : Int) ∧ ¬ (60 : Int) < (es.length : Int) ∧ (60 : Int) < (fs.length : Int)) := by omega
    rcases hsplit with q1 | ⟨q1, q2⟩ | ⟨q1, q2, q3⟩ | ⟨q1, q2, q3, q4⟩
    all_goals
      go_enter Tryd.func8, Tryd.ntmps8
      go_wp2_with fail
      refine (awake_any _ HG1.out (by simp; omega)).mono ?_
      rintro e w1 ⟨rfl, hb1⟩
      have B2 := Lib.hid (B1.out.trans (hb1.mono (by simp; omega)))
      clear hb1
      go_wp2_with fail
      go_ret
      exact ⟨rfl, B2.out⟩
  · have q1 : ¬ (4000 : Int) < (a.length : Int) := by omega
    have q2 : ¬ (4000 : Int) < (b.length : Int) := by omega
    have q3 : ¬ (60 : Int) < (es.length : Int) := by omega
    have q4 : ¬ (60 : Int) < (fs.length : Int) := by omega
    obtain ⟨T, hT⟩ : ∃ T : ByteArray, (⟨(printP a (c0, c1, c2) es).1.toArray⟩ : ByteArray) = T := ⟨_, rfl⟩
    obtain ⟨N, hN⟩ : ∃ N, (printP a (c0, c1, c2) es).2 = N := ⟨_, rfl⟩
    obtain ⟨T2, hT2⟩ : ∃ T : ByteArray, (⟨(printP b (d0, d1, d2) fs).1.toArray⟩ : ByteArray) = T := ⟨_, rfl⟩
    obtain ⟨N2, hN2⟩ : ∃ N, (printP b (d0, d1, d2) fs).2 = N := ⟨_, rfl⟩
    have HT := Lib.hid hT
    have HN := Lib.hid hN
    have HT2 := Lib.hid hT2
    have HN2 := Lib.hid hN2
    have HNE := Lib.hid (show N ≠ 0 → T = ⟨#[]⟩ from fun h => by rw [← hT, printP_bad (by rw [hN]; exact h)])
    have HNE2 := Lib.hid (show N2 ≠ 0 → T2 = ⟨#[]⟩ from fun h => by rw [← hT2, printP_bad (by rw [hN2]; exact h)])
    have HSZ := Lib.hid (show N = 0 → T.size ≤ 20000 from fun h => by
      have := print_len a (c0, c1, c2) es (by rw [hN]; exact h)
      rw [← hT, ← size_toList, toList_mk]; omega)
    have HSZ2 := Lib.hid (show N2 = 0 → T2.size ≤ 20000 from fun h => by
      have := print_len b (d0, d1, d2) fs (by rw [hN2]; exact h)
      rw [← hT2, ← size_toList, toList_mk]; omega)
    have HO := Lib.hid (fun (h : N = 0) (h' : N2 = 0) (hs : (T ++ T2).size ≤ 131072) => outP_joins (t := T ++ T2) (a := a) (b := b) (c := (c0, c1, c2)) (d := (d0, d1, d2)) (es := es) (fs := fs) (by
      rw [Lib.toList_data, ByteArray.data_append, Array.toList_append, ← hT, ← hT2]) (by rw [hN]; exact h) (by rw [hN2]; exact h') hs)
    clear hT hN hT2 hN2
    go_enter Tryd.func8, Tryd.ntmps8
    go_wp2_with fail
    refine (print_any _ _ a c0 c1 c2 es _ HG1.out (by simp; omega) (HA.out.below B1.out) (HE.out.below B1.out) (by omega) (by omega) HC.out HES.out).mono ?_
    rintro e w2 ⟨he2, hb2⟩
    rw [HT.out, HN.out] at he2
    subst he2
    have k0 := hb2.cell (p := ⟨w.heap.size + 1, 0, none⟩) (by simp)
    have k1 := hb2.cell (p := ⟨w.heap.size + 1, 1, none⟩) (by simp)
    have k2 := hb2.cell (p := ⟨w.heap.size + 1, 2, none⟩) (by simp)
    simp [go_sem] at k0 k1 k2
    have B2 := Lib.hid (B1.out.trans (hb2.mono (by simp; omega)))
    have s2 := hb2.size
    simp at s2
    have hlt2 : w.heap.size + 1 < w2.heap.size := by omega
    clear hb2
    go_wp2_with fail
    refine (print_any _ _ b d0 d1 d2 fs _ (HG0.out.below B2.out h9) (Nat.le_trans h9 B2.out.size) (HB.out.below B2.out) (HF.out.below B2.out) (by omega) (by omega) HD.out HFS.out).mono ?_
    rintro e w3 ⟨he3, hb3⟩
    rw [HT2.out, HN2.out] at he3
    subst he3
    have j0 := (hb3.cell (p := ⟨w.heap.size + 1, 0, none⟩) hlt2).trans k0
    have j1 := (hb3.cell (p := ⟨w.heap.size + 1, 1, none⟩) hlt2).trans k1
    have j2 := (hb3.cell (p := ⟨w.heap.size + 1, 2, none⟩) hlt2).trans k2
    have B3 := Lib.hid (B2.out.trans (hb3.mono B2.out.size))
    have s3 := hb3.size
    have hlt3 : w.heap.size + 1 < w3.heap.size := by omega
    clear hb3 k0 k1 k2
    have hcases : (N = 0 ∧ N2 = 0) ∨ (N = 0 ∧ N2 ≠ 0) ∨ (N ≠ 0 ∧ N2 = 0) ∨ (N ≠ 0 ∧ N2 ≠ 0) := by omega
    rcases hcases with ⟨e1, e2⟩ | ⟨e1, e2⟩ | ⟨e1, e2⟩ | ⟨e1, e2⟩
    · have hz1 := HSZ.out e1
      have hz2 := HSZ2.out e2
      have hzs : (T ++ T2).size ≤ 131072 := by rw [ByteArray.size_append]; omega
      have hout := HO.out e1 e2 hzs
      have i1 : (T.size : Int) ≤ 20000 := by omega
      have i2 : (T2.size : Int) ≤ 20000 := by omega
      have HOUT := Lib.hid hout
      subst e1 e2
      clear hout
      go_wp2_with fail
      refine (parse_po (T ++ T2) w3 (HG0.out.below B3.out h9) (Nat.le_trans h9 B3.out.size)).mono ?_
      rintro e w4 h4'
      rw [HOUT.out] at h4'
      obtain ⟨xb, xe, rfl, ob, oe, _, hb4⟩ := h4'
      have m0 := (hb4.cell (p := ⟨w.heap.size + 1, 0, none⟩) hlt3).trans j0
      have m1 := (hb4.cell (p := ⟨w.heap.size + 1, 1, none⟩) hlt3).trans j1
      have m2 := (hb4.cell (p := ⟨w.heap.size + 1, 2, none⟩) hlt3).trans j2
      have b5 := (Below.refl w4.heap.size w4).alloc (Nat.le_refl _) (.cells #[.int .i64 d0, .int .i64 d1, .int .i64 d2] 38)
      have B4 := Lib.hid (B3.out.trans (hb4.mono B3.out.size))
      have B5 := Lib.hid (B4.out.trans (b5.mono B4.out.size))
      have OX := Lib.hid (own_below ob b5)
      have OY := Lib.hid (own_below oe b5)
      have s4 := hb4.size
      have hlt4 : w.heap.size + 1 < w4.heap.size := by omega
      have e5 : (w4.alloc (.cells #[.int .i64 d0, .int .i64 d1, .int .i64 d2] 38)).heap.size = w4.heap.size + 1 := by simp
      clear ob oe hb4 j0 j1 j2 b5
      go_wp2_with (first
        | (at_builtin; refine wpList_append_bs rfl (.const (.slice none 0 0)) (.tmp 101) rfl (w4.heap.size + 1) _ 0 [] rfl (World.ownsRow_nil _ _ _ _) _ rfl a (HA.out.below B5.out) (by omega) (by omega) ?_; intro v6 w6 hown6 hgrow6
           have b6 := (Below.refl (w4.heap.size + 1) _).grown hgrow6 (by omega) (fun j hj => by cases hj)
           have OV6 := Lib.hid hown6
           have B6 := Lib.hid (B5.out.trans (b6.mono (by have := B4.out.size; omega)))
           have CB6 := Lib.hid b6
           have s6 := b6.size
           clear b6 hown6 hgrow6)
        | (at_builtin; refine wpList_append_bs rfl (.tmp 102) (.tmp 103) rfl (w4.heap.size + 1) v6 _ _ rfl OV6.out _ rfl b (HB.out.below B6.out) (by omega) (by omega) ?_; intro v7 w7 hown7 hgrow7
           have b7 := (CB6.out).grown hgrow7 (by omega) (fun j hj => (OV6.out.lt j hj).1)
           have OV7 := Lib.hid (own_joined hown7)
           have CB7 := Lib.hid b7
           have B7 := Lib.hid (B5.out.trans (b7.mono (by have := B4.out.size; omega)))
           have s7 := b7.size
           clear b7 hown7 hgrow7))
      refine (same_bytes xb v7 (a ++ b) (a ++ b) _ (Bs.of_own (own_below OX.out (e5 ▸ CB7.out))) (Bs.of_own OV7.out) (by rw [List.length_append]; omega) (by rw [List.length_append]; omega)).mono ?_
      rintro e w8 ⟨rfl, n8, rfl⟩
      simp only [decide_true]
      have CB8 := Lib.hid (below_drewN CB7.out n8)
      have B8 := Lib.hid (B5.out.trans (CB8.out.mono (by have := B4.out.size; omega)))
      have s8 : (w4.alloc (.cells #[.int .i64 d0, .int .i64 d1, .int .i64 d2] 38)).heap.size ≤ (w7.drewN n8).heap.size := CB8.out.size
      go_wp2_with (first
        | (at_builtin; refine wpList_append_es rfl (.const (.slice none 0 0)) (.tmp 109) rfl (w4.heap.size + 1) _ 0 [] rfl (World.ownsRow_nil _ _ _ _) _ rfl es (HE.out.below B8.out) (by omega) (by omega) ?_; intro v9 w9 hown9 hgrow9
           have b9 := CB8.out.grown hgrow9 (by omega) (fun j hj => by cases hj)
           have OV9 := Lib.hid hown9
           have B9 := Lib.hid (B5.out.trans (b9.mono (by have := B4.out.size; omega)))
           have CB9 := Lib.hid b9
           have s9 := b9.size
           clear b9 hown9 hgrow9)
        | (at_builtin; refine wpList_append_es rfl (.tmp 110) (.tmp 111) rfl (w4.heap.size + 1) v9 _ _ rfl OV9.out _ rfl fs (HF.out.below B9.out) (by omega) (by omega) ?_; intro v10 w10 hown10 hgrow10
           have b10 := CB9.out.grown hgrow10 (by omega) (fun j hj => (OV9.out.lt j hj).1)
           have OV10 := Lib.hid (own_joined3 hown10)
           have CB10 := Lib.hid b10
           have B10 := Lib.hid (B5.out.trans (b10.mono (by have := B4.out.size; omega)))
           clear b10 hown10 hgrow10))
      refine (same_events xe v10 (es ++ fs) (es ++ fs) _ (Es.of_own (own_below OY.out (e5 ▸ CB10.out))) (Es.of_own OV10.out) (by rw [List.length_append]; omega) (by rw [List.length_append]; omega)).mono ?_
      rintro e w11 ⟨rfl, n11, rfl⟩
      simp only [decide_true]
      have B11 := Lib.hid (below_drewN B10.out n11)
      go_wp2_with fail
      refine (awake_any _ (HG0.out.below B11.out h9) (Nat.le_trans h9 B11.out.size)).mono ?_
      rintro e w12 ⟨rfl, hb12⟩
      have B12 := Lib.hid (B11.out.trans (hb12.mono B11.out.size))
      clear hb12
      go_wp2_with fail
      go_ret
      exact ⟨rfl, B12.out⟩
    · subst e1
      have qm : ((N2 : Int) == 0) = false := by simp; omega
      have qm2 : ¬ (N2 : Int) = 0 := by omega
      obtain rfl := HNE2.out e2
      go_wp2_with fail
      refine (awake_any _ (HG0.out.below B3.out h9) (Nat.le_trans h9 B3.out.size)).mono ?_
      rintro e w11 ⟨rfl, hb11⟩
      have B11 := Lib.hid (B3.out.trans (hb11.mono B3.out.size))
      clear hb11
      go_wp2_with fail
      go_ret
      exact ⟨rfl, B11.out⟩
    · subst e2
      have qn : ((N : Int) == 0) = false := by simp; omega
      have qn2 : ¬ (N : Int) = 0 := by omega
      obtain rfl := HNE.out e1
      go_wp2_with fail
      refine (awake_any _ (HG0.out.below B3.out h9) (Nat.le_trans h9 B3.out.size)).mono ?_
      rintro e w11 ⟨rfl, hb11⟩
      have B11 := Lib.hid (B3.out.trans (hb11.mono B3.out.size))
      clear hb11
      go_wp2_with fail
      go_ret
      exact ⟨rfl, B11.out⟩
    · skip
      have qn : ((N : Int) == 0) = false := by simp; omega
      have qn2 : ¬ (N : Int) = 0 := by omega
      obtain rfl := HNE.out e1
      have qm : ((N2 : Int) == 0) = false := by simp; omega
      have qm2 : ¬ (N2 : Int) = 0 := by omega
      obtain rfl := HNE2.out e2
      go_wp2_with fail
      refine (awake_any _ (HG0.out.below B3.out h9) (Nat.le_trans h9 B3.out.size)).mono ?_
      rintro e w11 ⟨rfl, hb11⟩
      have B11 := Lib.hid (B3.out.trans (hb11.mono B3.out.size))
      clear hb11
      go_wp2_with fail
      go_ret
      exact ⟨rfl, B11.out⟩

end Go.Proofs.YtohgkfnbjfhniaaDoor
