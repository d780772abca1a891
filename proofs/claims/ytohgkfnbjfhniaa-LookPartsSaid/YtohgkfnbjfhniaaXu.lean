/-
  Can all roots be read: mem.Roots.
-/
import Derived.Test.YtohgkfnbjfhniaaXt
namespace Go.Proofs.Ytohgkfnbjfhniaa
open Go.RowKit Go.Maps

/-- What the closure has caught. -/
structure Caught (w : World) (p q r : Nat) (mv sv : Value) (asks : Bool) (S : List Slt) (m : List Frg) : Prop where
  hm : RsAt w mv m
  hS : SlAt w sv S
  b0 : w.heap[p]? = some (.cells #[mv] 62 (0, 0))
  b1 : w.heap[q]? = some (.cells #[sv] 29 (0, 0))
  b2 : w.heap[r]? = some (.cells #[.bool asks] 4 (0, 0))

theorem lt_of_block {w : World} {p : Nat} {o : Obj} (h : w.heap[p]? = some o) : p < w.heap.size := (Array.getElem?_eq_some_iff.1 h).1

theorem Caught.below {w w' : World} {p q r : Nat} {mv sv : Value} {asks : Bool} {S : List Slt} {m : List Frg} (h : Caught w p q r mv sv asks S m) (hb : Below w.heap.size w w') : Caught w' p q r mv sv asks S m :=
  ⟨h.hm.below hb, h.hS.below hb, (hb.block _ (lt_of_block h.b0)).trans h.b0, (hb.block _ (lt_of_block h.b1)).trans h.b1, (hb.block _ (lt_of_block h.b2)).trans h.b2⟩

set_option maxHeartbeats 4000000 in
set_option maxRecDepth 100000 in
theorem unread_any (p q r : Nat) (mv sv : Value) (asks : Bool) (S : List Slt) (m : List Frg) (x : Nat) (w : World) (h : Caught w p q r mv sv asks S m) (hx : x < 18446744073709551616) :
    Calls Try.prog 35 #[.int .u64 x, .pointer (some ⟨p, 0, none⟩), .pointer (some ⟨q, 0, none⟩), .pointer (some ⟨r, 0, none⟩)] w fun e w' => e = .returned (.bool (!(readP asks S m x).isSome)) ∧ Below w.heap.size w w' := by
  obtain ⟨b, hb⟩ : ∃ b, (readP asks S m x).isSome = b := ⟨_, rfl⟩
  have HB := Lib.hid hb
  rw [hb]
  have H := Lib.hid h
  have c0 := cell_of h.b0 0
  have c1 := cell_of h.b1 0
  have c2 := cell_of h.b2 0
  simp at c0 c1 c2
  clear h hb
  go_enter Try.func35, Try.ntmps35
  go_wp2_with fail
  have HC := memRead_any mv sv asks S m x w H.out.hm H.out.hS hx
  with_reducible refine HC.mono ?_
  clear HC
  rintro e w3 ⟨tv, t, rfl, ht, -, hb3⟩
  obtain ⟨tk, tn, tneg, tma, tml, tmc, tbits, tbytes, ta, tlen, tcap, rfl⟩ := ht.shape
  have H3 := Lib.hid hb3
  clear ht hb3
  rw [HB.out]
  go_wp2_with fail
  go_ret
  exact ⟨rfl, H3.out.alloc H3.out.size _⟩

def readsP (asks : Bool) (S : List Slt) (m : List Frg) (l : List Nat) : Bool := l.all fun x => (readP asks S m x).isSome

set_option maxHeartbeats 4000000 in
set_option maxRecDepth 100000 in
theorem index_roots (p q r : Nat) (mv sv : Value) (asks : Bool) (S : List Slt) (m : List Frg) (l : List Nat) (lv : Value) (w : World) (h : Ws w lv l) (hc : Caught w p q r mv sv asks S m) :
    Calls Try.prog 50 #[lv, .func (.func 35) #[] #[.pointer (some ⟨p, 0, none⟩), .pointer (some ⟨q, 0, none⟩), .pointer (some ⟨r, 0, none⟩)]] w fun e w' => IdxEnd (readsP asks S m l) e ∧ Below w.heap.size w w' := by
  obtain ⟨hl, hu, a, cap, rfl, _, _, hx⟩ := h
  have HX := Lib.hid hx
  have HU := Lib.hid hu
  have HCA := Lib.hid hc
  have HLL := Lib.hid hl
  clear hx hu hc hl
  go_enter Try.func50, Try.ntmps50
  go_wp2_with fail
  go_loopw [8] (fun i wr => ∃ (k : Nat), k ≤ l.length ∧ i = .int .i64 k ∧ Hid ((l.take k).all (fun x => (readP asks S m x).isSome) = true) ∧ Hid (Below w.heap.size w wr)) (fun i _ => l.length - (intOf i).toNat)
  case atStart => exact ⟨0, by omega, rfl, Lib.hid (by simp), Lib.hid (Below.refl _ _)⟩
  case round =>
    obtain ⟨j, hj, rfl, HR, HB⟩ := hrel
    by_cases hlt' : j < l.length
    · have q4 : (j : Int) < (l.length : Int) := by omega
      have q5 : (0 : Int) ≤ (j : Int) := by omega
      obtain ⟨g, o, rfl, k0⟩ := HX.out j hlt'
      have k0 := (HB.out.cell (World.block_lt_of_cell? w _ k0)).trans k0
      have hx := HU.out _ (List.getElem_mem hlt')
      have HRT := Lib.hid (fun hp : (readP asks S m l[j]).isSome = true => all_take (p := fun x => (readP asks S m x).isSome) hlt' HR.out hp)
      have HRN := Lib.hid (fun hf : (readP asks S m l[j]).isSome = false => all_false (p := fun x => (readP asks S m x).isSome) (List.getElem_mem hlt') hf)
      have Q5 := Lib.hid (show -9223372036854775808 ≤ (j : Int) + 1 ∧ (j : Int) + 1 ≤ 9223372036854775807 by have := HLL.out; unfold maxLen at this; omega)
      have QJ := Lib.hid (show j + 1 ≤ l.length ∧ l.length - (j + 1) < l.length - j by omega)
      obtain ⟨x, hxx⟩ : ∃ x, l[j]'hlt' = x := ⟨_, rfl⟩
      rw [hxx] at k0 hx HRT HRN
      clear hxx
      go_wp2_with fail
      have HC := unread_any p q r mv sv asks S m x wr (HCA.out.below HB.out) hx
      with_reducible refine HC.mono ?_
      clear HC
      rintro e w5 ⟨rfl, hb5⟩
      have HB5 := Lib.hid (HB.out.trans (hb5.mono HB.out.size))
      clear hb5
      cases hr : (readP asks S m x).isSome with
      | true =>
        have HRT := Lib.hid (HRT.out hr)
        clear HRN hr
        have p5 : IntKind.i64.wrap ((j : Int) + 1) = (j : Int) + 1 := IntWalk.i64_in _ Q5.out
        go_wp2_with fail
        go_roundw
        case rel => exact ⟨j + 1, QJ.out.1, by go_num, HRT, HB5⟩
        case measure => clear p5; have := QJ.out; simp [intOf]; omega
      | false =>
        have HRF := Lib.hid (HRN.out hr)
        clear HRN hr HRT
        go_wp2_with fail
        go_ret
        exact ⟨⟨j, rfl, .inr ⟨q5, HRF.out⟩⟩, HB5.out⟩
    · obtain rfl : j = l.length := by omega
      have q4 : ¬ ((l.length : Nat) : Int) < (l.length : Int) := by omega
      have HRE := Lib.hid (show readsP asks S m l = true by have h := HR.out; rwa [List.take_length] at h)
      go_wp2_with fail
      go_ret
      exact ⟨⟨-1, rfl, .inl ⟨rfl, HRE.out⟩⟩, HB.out⟩

set_option maxHeartbeats 4000000 in
set_option maxRecDepth 100000 in
theorem contains_roots (p q r : Nat) (mv sv : Value) (asks : Bool) (S : List Slt) (m : List Frg) (l : List Nat) (lv : Value) (w : World) (h : Ws w lv l) (hc : Caught w p q r mv sv asks S m) :
    Calls Try.prog 34 #[lv, .func (.func 35) #[] #[.pointer (some ⟨p, 0, none⟩), .pointer (some ⟨q, 0, none⟩), .pointer (some ⟨r, 0, none⟩)]] w fun e w' => e = .returned (.bool (!readsP asks S m l)) ∧ Below w.heap.size w w' := by
  go_enter Try.func34, Try.ntmps34
  go_wp2_with fail
  refine (index_roots p q r mv sv asks S m l lv w h hc).mono ?_
  rintro e w1 ⟨⟨i, rfl, hi⟩, hb⟩
  have HB := Lib.hid hb
  clear hb
  rcases hi with ⟨rfl, hr⟩ | ⟨hi, hr⟩
  · have HR := Lib.hid hr
    clear hr
    go_wp2_with fail
    go_ret
    exact ⟨by rw [HR.out]; rfl, HB.out⟩
  · have HR := Lib.hid hr
    clear hr
    go_wp2_with fail
    go_ret
    exact ⟨by rw [HR.out]; simp [hi], HB.out⟩

def rootsP (asks : Bool) (S : List Slt) (d : Dmp) : Bool := readsP asks S d.mem d.roots

set_option maxHeartbeats 4000000 in
set_option maxRecDepth 100000 in
theorem roots_any (asks : Bool) (S : List Slt) (d : Dmp) (v sv : Value) (w : World) (hd : DmAt w v d) (hS : SlAt w sv S) (hf : d.frags.length ≤ 100000) :
    Calls Try.prog 20 #[v, sv, .bool asks] w fun e w' => e = .returned (.bool (rootsP asks S d)) ∧ Below w.heap.size w w' := by
  have HD := Lib.hid hd
  have HSL := Lib.hid hS
  obtain ⟨a, b, a', b', f, r, h, rfl, ⟨-, rfl, wa1, wc1, rfl, -⟩, ⟨-, rfl, wa2, wc2, rfl, -⟩, -, -, ⟨-, fa, fc, rfl, -⟩, hro, ⟨-, -, ha, hc, rfl, -⟩⟩ := hd
  have HRO := Lib.hid hro
  obtain ⟨-, -, ra, rc, rfl, -⟩ := hro
  obtain ⟨-, sa, sc, rfl, -⟩ := hS
  go_enter Try.func20, Try.ntmps20
  go_upto_region 1 with fail
  have T := two_at w (.cells #[.int .i64 d.young.1, .slice wa1 d.young.2.length wc1, .int .i64 d.old.1, .slice wa2 d.old.2.length wc2, .int .i64 d.size, .int .i64 d.mark, .slice fa d.frags.length fc, .slice ra d.roots.length rc, .slice ha d.handles.length hc] 28) (.cells #[.slice sa S.length sc] 29)
  generalize (w.alloc (.cells #[.int .i64 d.young.1, .slice wa1 d.young.2.length wc1, .int .i64 d.old.1, .slice wa2 d.old.2.length wc2, .int .i64 d.size, .int .i64 d.mark, .slice fa d.frags.length fc, .slice ra d.roots.length rc, .slice ha d.handles.length hc] 28)).alloc (.cells #[.slice sa S.length sc] 29) = U at *
  have T2 := one_at U (.cells #[.bool asks] 4)
  generalize U.alloc (.cells #[.bool asks] 4) = W at *
  have E2 := T.2.2.1
  have X0 := Lib.hid ((T2.2.2.block w.heap.size (by omega)).trans T.1)
  have X1 := Lib.hid ((T2.2.2.block (w.heap.size + 1) (by omega)).trans T.2.1)
  have X2 := Lib.hid (show W.heap[w.heap.size + 1 + 1]? = some (.cells #[.bool asks] 4 (0, 0)) by rw [show w.heap.size + 1 + 1 = U.heap.size by omega]; exact T2.1)
  have XB := Lib.hid (T.2.2.2.trans (T2.2.2.mono T.2.2.2.size))
  clear T T2 E2
  have x0 := cell_of X0.out 0
  have x1 := cell_of X0.out 1
  have x2 := cell_of X0.out 2
  have x3 := cell_of X0.out 3
  have x4 := cell_of X0.out 4
  have x5 := cell_of X0.out 5
  have x6 := cell_of X0.out 6
  have x7 := cell_of X0.out 7
  have x8 := cell_of X0.out 8
  simp at x0 x1 x2 x3 x4 x5 x6 x7 x8
  go_wp2_with fail
  refine (of_any d _ W (HD.out.below XB.out) hf).mono ?_
  rintro e w2 ⟨mv, rfl, hm, hb2⟩
  have HM := Lib.hid hm
  obtain ⟨-, ma, mc, rfl, -⟩ := hm
  have HB2 := Lib.hid hb2
  clear hb2
  go_upto_region 2 with fail
  have T := one_at w2 (.cells #[.slice ma d.mem.length mc] 62)
  generalize hgV : w2.alloc (.cells #[.slice ma d.mem.length mc] 62) = V at *
  have V0 := Lib.hid T.1
  have VB := Lib.hid (HB2.out.trans (T.2.2.mono HB2.out.size))
  have VR := Lib.hid T.2.2
  clear T hgV
  have Z0 := Lib.hid ((VB.out.block _ (lt_of_block X0.out)).trans X0.out)
  have Z1 := Lib.hid ((VB.out.block _ (lt_of_block X1.out)).trans X1.out)
  have Z2 := Lib.hid ((VB.out.block _ (lt_of_block X2.out)).trans X2.out)
  have HWV := Lib.hid (XB.out.trans (VB.out.mono XB.out.size))
  have z7 := cell_of Z0.out 7
  simp at z7
  clear x0 x1 x2 x3 x4 x5 x6 x7 x8
  go_wp2_with fail
  have HC := contains_roots w2.heap.size (w.heap.size + 1) (w.heap.size + 1 + 1) _ _ asks S d.mem d.roots _ V (HRO.out.below HWV.out) ⟨HM.out.below VR.out, HSL.out.below HWV.out, V0.out, Z1.out, Z2.out⟩
  with_reducible refine HC.mono ?_
  clear HC
  rintro e w5 ⟨rfl, hb5⟩
  have HB5 := Lib.hid (HWV.out.trans (hb5.mono HWV.out.size))
  clear hb5
  go_wp2_with fail
  go_ret
  exact ⟨by simp [rootsP], HB5.out⟩

end Go.Proofs.Ytohgkfnbjfhniaa
