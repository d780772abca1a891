/-
  A term's bytes as the program lays them.
-/
import Derived.Test.YtohgkfnbjfhniaaDoorTl
namespace Go.Proofs.YtohgkfnbjfhniaaDoor
open Go.RowKit Sp

/-- A state of laying: the row, what turned, the term's own box. -/
def LS (w wi : World) (H base : Nat) (c : Array Value) (v vi : Value) (bs : List UInt8) : Prop :=
  Row wi base vi bs ∧ OG w wi v vi ∧ wi.heap[H]? = some (.cells c 28 (0, 0)) ∧ vi.ownBlock ≠ some H

theorem LS.start {w : World} {base : Nat} {v : Value} {bs : List UInt8} (h : Row w base v bs) (c : Array Value) : LS w (w.alloc (.cells c 28)) w.heap.size base c v v bs :=
  ⟨World.ownsRow.alloc h _, (OG.refl w v).alloc _, heap_alloc_new w _, fun e => by have := (h.lt _ e).2; omega⟩

theorem LS.step {w wi wj : World} {H base : Nat} {c : Array Value} {v vi vj : Value} {bs bs' : List UInt8} (h : LS w wi H base c v vi bs) (hr : Row wj base vj bs') (ho : OG wi wj vi vj) : LS w wj H base c v vj bs' := by
  have hlt := (Array.getElem?_eq_some_iff.1 h.2.2.1).1
  exact ⟨hr, h.2.1.trans ho, (ho.block hlt h.2.2.2).trans h.2.2.1, ho.apart hlt h.2.2.2⟩

theorem LS.alloc {w wi : World} {H base : Nat} {c : Array Value} {v vi : Value} {bs : List UInt8} (h : LS w wi H base c v vi bs) (o : Obj) : LS w (wi.alloc o) H base c v vi bs :=
  h.step (World.ownsRow.alloc h.1 o) ((OG.refl wi vi).alloc o)
theorem LS.drew {w wi : World} {H base : Nat} {c : Array Value} {v vi : Value} {bs : List UInt8} (h : LS w wi H base c v vi bs) : LS w wi.drew H base c v vi bs :=
  h.step (World.ownsRow.drew h.1) (OG.refl wi vi).drew

theorem LS.cell {w wi : World} {H base : Nat} {c : Array Value} {v vi : Value} {bs : List UInt8} (h : LS w wi H base c v vi bs) (i : Nat) : wi.cell? ⟨H, i, none⟩ = c[i]? := block_cell h.2.2.1 i

theorem LS.size {w wi : World} {H base : Nat} {c : Array Value} {v vi : Value} {bs : List UInt8} (h : LS w wi H base c v vi bs) : w.heap.size ≤ wi.heap.size := h.2.1.1.size

/-- 'append(b, s...)' of a text, in a region that draws. -/
theorem step_append_str {w : World} {ops : Array Oper} {o : Oper} {a : Act} {K : Act → World → Prop} {Q : Exit → Act → World → Prop} {E : Prop} (hgd : o.guard = none) (sl x : Operand)
    (ho : o.op = .call { callee := .builtin .append, args := #[sl, x], argTypes := #[36, 9] })
    (base : Nat) (v : Value) (n : Nat) (xs : List Value) (hs : a.eval sl = v) (hown : w.ownsRow base 5 1 v n xs) (s : ByteArray) (hx : a.eval x = .string s)
    (L : Nat) (hL : n + s.size = L) (hbytes : n + s.size ≤ 140737488355328) (hbase : base ≤ w.heap.size)
    (h : ∀ A c w', w'.ownsRow base 5 1 (.slice A L c) L (xs ++ cs8 s.toList) → w.grownBy w' v.ownBlock → (Value.ownBlock (.slice A L c) = v.ownBlock ∨ ∀ k, Value.ownBlock (.slice A L c) = some k → w.heap.size ≤ k) → K (a.put o.dst (.slice A L c)) w') :
    if Region.wanted o (yielded ops a.tmps) = true then Oper.wp Tryd.prog o a w K Q else E := by
  subst hL
  have hw : Region.wanted o (yielded ops a.tmps) = true := by simp [Region.wanted, hgd]
  rw [if_pos hw]
  obtain ⟨i0, hi, hz0, hz1, hz2⟩ := info_parts info5
  obtain ⟨v', w', hr, h2, h3, h4⟩ := Lib.run_append_own_string (P := Tryd.prog) w base 36 9 o.type 5 i0 Tryd.underlying36 Tryd.underlying9 hi hz0 hz1 hz2 v n xs hown s (by unfold maxLen; omega) hbytes hbase
  have hat := append_string_at s hown hbytes hr
  obtain ⟨A, c, rfl⟩ := own_form h2
  unfold Oper.wp execOp
  simp only [ho, resolve, invoke, builtin, Sem.run_bind, Sem.run_pure, Result.andThen_ok, List.map_toArray, List.map_cons, List.map_nil, hs, hx, hr]
  rw [strCells_cs8] at h2
  exact h A c w' h2 h3 hat

theorem row_str {w : World} {base : Nat} {v : Value} {l : List UInt8} {s : ByteArray} {L : Nat} (h : w.ownsRow base 5 1 v L (cs8 l ++ cs8 s.toList)) (hL : l.length + s.size = L) : Row w base v (l ++ s.toList) := by
  subst hL
  unfold Row
  have e : cs8 l ++ cs8 s.toList = cs8 (l ++ s.toList) := by simp [cs8]
  have e2 : l.length + s.size = (l ++ s.toList).length := by rw [List.length_append, size_toList]
  rw [e, e2] at h; exact h

theorem row_two {w : World} {base : Nat} {v : Value} {l : List UInt8} {x y : Int} {b c : UInt8} (h : w.ownsRow base 5 1 v (l.length + 2) (cs8 l ++ [.int .u8 x, .int .u8 y])) (hx : x = (b.toNat : Int)) (hy : y = (c.toNat : Int)) : Row w base v (l ++ [b, c]) := by
  subst hx hy
  unfold Row
  have e : cs8 l ++ [Value.int .u8 (b.toNat : Int), .int .u8 (c.toNat : Int)] = cs8 (l ++ [b, c]) := by simp [cs8]
  have e2 : l.length + 2 = (l ++ [b, c]).length := by simp
  rw [e, e2] at h; exact h

theorem mod_byte (k : Int) : k % 256 = ((UInt8.ofNat (k % 256).toNat).toNat : Int) := by
  rw [UInt8.toNat_ofNat']
  omega

theorem lays_take {l : List Tm} {k : Nat} (h : k < l.length) : lays (l.take (k + 1)) = lays (l.take k) ++ l[k].lay := by
  rw [List.take_succ_eq_append_getElem h, lays_append]; simp [lays]

theorem lays_le_take (l : List Tm) (j : Nat) : (lays (l.take j)).length ≤ (lays l).length := by
  have h := congrArg List.length (lays_append (l.take j) (l.drop j))
  rw [List.take_append_drop, List.length_append] at h
  omega

theorem put_at (base m u : Nat) (mi ui : Int) (hmi : mi = (m : Int)) (hui : ui = (u : Int)) (v : Value) (bs : List UInt8) (w : World) (hrow : Row w base v bs) (hm : m ≤ 8) (hu : u < 18446744073709551616) (hl : bs.length + m ≤ 1000000000) (hbase : base ≤ w.heap.size) :
    Calls Tryd.prog 58 #[v, .int .u64 ui, .int .i64 mi] w fun e w' => ∃ v', e = .returned v' ∧ Row w' base v' (bs ++ putP u m) ∧ OG w w' v v' := by
  subst hmi hui; exact put_any base m u v bs w hrow hm hu hl hbase

theorem cell_two_at (w : World) (H : Nat) (hH : w.heap.size = H) (a b : Value) (t : TypeId) : ∀ j u, [a, b][j]? = some u → (w.alloc (.cells #[a, b] t)).cell? ((⟨H, 0, none⟩ : Addr).add j) = some u := by
  subst hH
  intro j u h
  rw [add_zero_at, World.cell?_alloc_at _ _ _ _ rfl]
  simpa using h

theorem len_step {A : Nat} {args : List Tm} {j : Nat} (h : j < args.length) (hA : A + (lays args).length ≤ 1000000000) : A + (lays (args.take j)).length + args[j].lay.length ≤ 1000000000 := by
  have h1 := lays_le_take args (j + 1)
  rw [lays_take h, List.length_append] at h1
  omega

theorem put_len {A j : Nat} {mag : List Nat} (h : j < mag.length) (hA : A + 4 * mag.length ≤ 1000000000) : A + ((mag.take j).flatMap fun x => putP x 4).length + 4 ≤ 1000000000 := by
  rw [flat_put, List.length_take]; omega

def LayOk (f : Nat) (t : Tm) : Prop := ∀ (tv v : Value) (bs : List UInt8) (base : Nat) (w0 w : World), TmAt w0 tv t → t.right = true → Row w base v bs → bs.length + t.lay.length ≤ 1000000000 → base ≤ w.heap.size → w0.heap.size ≤ base → Below w0.heap.size w0 w →
  Calls Tryd.prog f #[v, tv] w fun e w' => ∃ v', e = .returned v' ∧ Row w' base v' (bs ++ t.lay) ∧ OG w w' v v'

set_option maxHeartbeats 4000000 in
set_option maxRecDepth 100000 in
theorem lay_of (k n : Int) (neg : Bool) (mag : List Nat) (bits : Nat) (bytes : ByteArray) (args : List Tm) (ih : ∀ t ∈ args, LayOk 43 t) : LayOk 43 (.mk k n neg mag bits bytes args) := by
  intro tv v bs base w0 w ht hrt hrow hlen hbase h0b hb0
  obtain ⟨i0, hi, hz0, hz1, hz2⟩ := info_parts info5
  obtain ⟨k2, n2, neg2, mag2, bits2, bytes2, args2, mv, av, he, rfl, hk, hn2, hm, hml, hu, hbt, hsz, hts⟩ := ht.open
  cases he
  obtain ⟨ma, mcap, rfl, hmc⟩ := hm
  obtain ⟨hl, a, acap, rfl, hc⟩ := hts
  obtain ⟨hhead, hbare, hrights⟩ := right_parts hrt
  have HC := Lib.hid hc
  have HMC := Lib.hid hmc
  have HI := Lib.hid ih
  have HU := Lib.hid hu
  have HB0 := Lib.hid hb0
  have HHD := Lib.hid hhead
  have HRS := Lib.hid (rights_mem hrights)
  have HRG := Lib.hid hrights
  have HLAY := Lib.hid (show (Tm.mk k n neg mag bits bytes args).lay = UInt8.ofNat (k % 256).toNat :: bodyP k n neg mag bits bytes args.length ++ (if k = 6 ∨ k = 8 then lays args else []) by rw [Tm.lay])
  have HLEN := Lib.hid hlen
  have hbl : bs.length + 1 ≤ 1000000000 := by
    rw [HLAY.out] at hlen
    simp only [List.length_append, List.length_cons] at hlen
    omega
  have HS0 := Lib.hid (LS.start hrow #[.int .i64 k, .int .i64 n, .bool neg, .slice ma mag.length mcap, .int .u64 bits, .string bytes, .slice a args.length acap])
  have HBASEV := Lib.hid (fun q e => (hrow.lt q e).1)
  clear ih ht hu hc hmc hb0 hhead hbare hrights hrt hlen hrow
  unfold maxLen at hl hml hsz
  unfold termV
  go_enter Tryd.func43, Tryd.ntmps43
  go_upto_region 2 with (at_builtin; refine wpList_append_own_at _ rfl (.tmp 10) (.tmp 14) 36 rfl base 5 i0 (.int .u8 0) 1 1 Tryd.underlying36 hi hz0 hz1 hz2 rfl (by decide) v _ _ rfl (World.ownsRow.alloc HS0.out.1 _) _ 1 1 [.int .u8 (k % 256)] rfl rfl (cell_one_at _ _ (by first | rfl | (simp; done)) _ _) (u8_one _) (by unfold maxLen; omega) (by omega) (by simp; omega) ?_; intro v1 w1 hown1 hgrow1 _ hloc1; have HS1 := Lib.hid (HS0.out.step (row_snoc hown1 (mod_byte k)) ((OG.refl _ _).grew hgrow1 hloc1)); clear hown1 hgrow1 hloc1)
  have d0 := HS1.out.cell 0
  have d1 := HS1.out.cell 1
  have d2 := HS1.out.cell 2
  have d3 := HS1.out.cell 3
  have d4 := HS1.out.cell 4
  have d5 := HS1.out.cell 5
  have d6 := HS1.out.cell 6
  simp at d0 d1 d2 d3 d4 d5 d6
  have sz1 : base ≤ w1.heap.size := Nat.le_trans hbase HS1.out.size
  have FIN : ∀ (x : List UInt8), (Tm.mk k n neg mag bits bytes args).lay = UInt8.ofNat (k % 256).toNat :: x → ∀ vi wi, LS w wi w.heap.size base #[.int .i64 k, .int .i64 n, .bool neg, .slice ma mag.length mcap, .int .u64 bits, .string bytes, .slice a args.length acap] v vi ((bs ++ [UInt8.ofNat (k % 256).toNat]) ++ x) → Row wi base vi (bs ++ (Tm.mk k n neg mag bits bytes args).lay) ∧ OG w wi v vi := by
    intro x hx vi wi h
    refine ⟨?_, h.2.1⟩
    rw [hx]
    have := h.1
    rwa [List.append_assoc] at this
  have HFIN := Lib.hid FIN
  have hll : (bs ++ [UInt8.ofNat (k % 256).toNat]).length ≤ 1000000000 := by rw [List.length_append]; exact hbl
  have HL2 := Lib.hid (show (bs ++ [UInt8.ofNat (k % 256).toNat]).length + (bodyP k n neg mag bits bytes args.length).length + (if k = 6 ∨ k = 8 then lays args else []).length ≤ 1000000000 by
    have h := HLEN.out
    rw [HLAY.out] at h
    simp only [List.length_append, List.length_cons, List.length_nil] at h ⊢
    omega)
  clear FIN
  by_cases k1 : k = 1
  · subst k1
    obtain ⟨u, hu⟩ : ∃ u : Nat, IntKind.u64.wrap n = (u : Int) := ⟨(IntKind.u64.wrap n).toNat, by rw [IntKind.wrap_u64]; omega⟩
    have hub : u < 18446744073709551616 := by rw [IntKind.wrap_u64] at hu; omega
    have HE := Lib.hid (show (Tm.mk 1 n neg mag bits bytes args).lay = UInt8.ofNat (1 % 256 : Int).toNat :: putP u 8 by
      rw [HLAY.out]
      have : (n % 18446744073709551616).toNat = u := by rw [IntKind.wrap_u64] at hu; omega
      simp [bodyP, this])
    have h8 : (bs ++ [UInt8.ofNat ((1 : Int) % 256).toNat]).length + 8 ≤ 1000000000 := by
      have h := HL2.out
      simp [bodyP, putP_length] at h ⊢
      omega
    go_wp2_with fail
    refine (put_at base 8 u 8 u rfl rfl v1 _ w1 HS1.out.1 (by omega) hub h8 sz1).mono ?_
    rintro e w2 ⟨v2, rfl, hr2, ho2⟩
    have HF := Lib.hid (HFIN.out _ HE.out v2 w2 (HS1.out.step hr2 ho2))
    clear hr2 ho2
    go_wp2_with fail
    go_ret
    exact ⟨v2, rfl, HF.out.1, HF.out.2⟩
  have b1 : (k == 1) = false := by simp [k1]
  by_cases k2 : k = 2
  · subst k2
    have HE := Lib.hid (show (Tm.mk 2 n neg mag bits bytes args).lay = UInt8.ofNat (2 % 256 : Int).toNat :: ([if neg then 1 else 0, UInt8.ofNat mag.length] ++ mag.flatMap (fun x => putP x 4)) by
      rw [HLAY.out]; simp [bodyP])
    have HMAY := Lib.hid (show mag.length ≤ 8 by
      have h := HHD.out
      simp [headP, numMayP] at h
      exact h.1.1)
    have h8 : (bs ++ [UInt8.ofNat ((2 : Int) % 256).toNat]).length + 2 + 4 * mag.length ≤ 1000000000 := by
      have h := HL2.out
      have e : (bodyP 2 n neg mag bits bytes args.length).length = 2 + 4 * mag.length := by
        unfold bodyP
        rw [if_neg (by decide), if_pos rfl, List.length_append, flat_put]; simp
      rw [e] at h
      omega
    obtain ⟨nb, hnb⟩ : ∃ nb : UInt8, (if neg then (1 : UInt8) else 0) = nb := ⟨_, rfl⟩
    have HNB := Lib.hid (show ∀ x : Int, (neg = true → x = 1) → (neg = false → x = 0) → x = (nb.toNat : Int) by
      intro x h1 h2
      rw [← hnb]
      cases neg
      · rw [h2 rfl]; rfl
      · rw [h1 rfl]; rfl)
    rw [hnb] at HE
    clear hnb
    have hlm : (bs ++ [UInt8.ofNat ((2 : Int) % 256).toNat] ++ [nb, UInt8.ofNat mag.length]).length + 4 * mag.length ≤ 1000000000 := by
      rw [List.length_append]; simp only [List.length_cons, List.length_nil]; omega
    cases neg
    all_goals
      go_wp2_with (at_builtin; refine wpList_append_own_at _ rfl (.tmp 41) (.tmp 48) 36 rfl base 5 i0 (.int .u8 0) 1 1 Tryd.underlying36 hi hz0 hz1 hz2 rfl (by decide) v1 _ _ rfl (World.ownsRow.alloc HS1.out.1 _) _ 2 2 [.int .u8 _, .int .u8 ((mag.length : Int) % 256)] rfl rfl (cell_two_at w1 w1.heap.size rfl _ _ _) (u8_two _ _) (by unfold maxLen; omega) (by omega) (by simp; omega) ?_; intro v2 w2 hown2 hgrow2 _ hloc2; have HS2 := Lib.hid (HS1.out.step (row_two hown2 (HNB.out _ (by first | (intro q; cases q; done) | (intro _; rfl)) (by first | (intro q; cases q; done) | (intro _; rfl))) (show (mag.length : Int) % 256 = ((UInt8.ofNat mag.length).toNat : Int) by rw [UInt8.toNat_ofNat']; omega)) ((OG.refl _ _).grew hgrow2 hloc2)); have f3 := HS2.out.cell 3; simp at f3; clear hown2 hgrow2 hloc2)
      go_loopw [0, 54] (fun s i wr => ∃ (j : Nat), j ≤ mag.length ∧ i = .int .i64 j ∧ Hid (LS w wr w.heap.size base #[.int .i64 2, .int .i64 n, .bool _, .slice ma mag.length mcap, .int .u64 bits, .string bytes, .slice a args.length acap] v s ((bs ++ [UInt8.ofNat ((2 : Int) % 256).toNat]) ++ [nb, UInt8.ofNat mag.length] ++ (mag.take j).flatMap (fun x => putP x 4)))) (fun _ i _ => mag.length - (intOf i).toNat)
      case atStart => exact ⟨0, by omega, rfl, Lib.hid (by simpa using HS2.out)⟩
      case round =>
        obtain ⟨j, hj, rfl, HK⟩ := hrel
        have szr : base ≤ wr.heap.size := Nat.le_trans hbase HK.out.size
        by_cases hlt' : j < mag.length
        · obtain ⟨g, o, rfl, p0⟩ := HMC.out j hlt'
          have B0 := HB0.out.trans ((HK.out.2.1.below HBASEV.out hbase).mono h0b)
          have l0 := (B0.cell (World.block_lt_of_cell? w0 _ p0)).trans p0
          have q4 : (j : Int) < (mag.length : Int) := by omega
          have q5 : (0 : Int) ≤ (j : Int) := by omega
          have q6 : IntKind.i64.wrap ((j : Int) + 1) = (j : Int) + 1 := IntWalk.i64_in _ (by omega)
          have hx := HU.out _ (List.getElem_mem hlt')
          have HTK := Lib.hid (show mag.take (j + 1) = mag.take j ++ [mag[j]] from List.take_succ_eq_append_getElem hlt')
          have HPL := Lib.hid (put_len hlt' hlm)
          obtain ⟨x, hxx⟩ : ∃ x, mag[j] = x := ⟨_, rfl⟩
          rw [hxx] at l0 hx HTK
          clear p0 B0 hxx
          go_wp2_with fail
          refine (put_at base 4 x 4 x rfl rfl _ _ wr HK.out.1 (by omega) (by omega) (by have h := HPL.out; rw [List.length_append]; exact h) szr).mono ?_
          rintro e w5 ⟨v5, rfl, hr5, ho5⟩
          have HK5 := Lib.hid (HK.out.step hr5 ho5)
          clear hr5 ho5
          go_wp2_with fail
          go_roundw
          case rel => exact ⟨j + 1, by omega, by go_num, Lib.hid (by
            have h := HK5.out
            rw [HTK.out, List.flatMap_append, ← List.append_assoc]
            simpa using h)⟩
          case measure => simp [intOf]; omega
        · obtain rfl : j = mag.length := by omega
          have q4 : ¬ ((mag.length : Nat) : Int) < (mag.length : Int) := by omega
          have HKE := Lib.hid (show LS w wr w.heap.size base _ v u0 ((bs ++ [UInt8.ofNat ((2 : Int) % 256).toNat]) ++ ([nb, UInt8.ofNat mag.length] ++ mag.flatMap (fun x => putP x 4))) by
            have h := HK.out
            rw [List.take_length] at h
            rw [← List.append_assoc]; exact h)
          have HF := Lib.hid (HFIN.out _ HE.out _ wr HKE.out)
          go_wp2_with fail
          go_ret
          exact ⟨_, rfl, HF.out.1, HF.out.2⟩
  have b2 : (k == 2) = false := by simp [k2]
  by_cases k3 : k = 3
  · subst k3
    have HE := Lib.hid (show (Tm.mk 3 n neg mag bits bytes args).lay = UInt8.ofNat (3 % 256 : Int).toNat :: putP bits 8 by
      rw [HLAY.out]; simp [bodyP])
    have h8 : (bs ++ [UInt8.ofNat ((3 : Int) % 256).toNat]).length + 8 ≤ 1000000000 := by
      have h := HL2.out
      have e : (bodyP 3 n neg mag bits bytes args.length).length = 8 := by simp [bodyP, putP_length]
      rw [e] at h
      omega
    go_wp2_with fail
    refine (put_at base 8 bits 8 bits rfl rfl v1 _ w1 HS1.out.1 (by omega) hbt h8 sz1).mono ?_
    rintro e w2 ⟨v2, rfl, hr2, ho2⟩
    have HF := Lib.hid (HFIN.out _ HE.out v2 w2 (HS1.out.step hr2 ho2))
    clear hr2 ho2
    go_wp2_with fail
    go_ret
    exact ⟨v2, rfl, HF.out.1, HF.out.2⟩
  have b3 : (k == 3) = false := by simp [k3]
  by_cases k4 : k = 4
  · subst k4
    have HE := Lib.hid (show (Tm.mk 4 n neg mag bits bytes args).lay = UInt8.ofNat (4 % 256 : Int).toNat :: [UInt8.ofNat (n % 256).toNat] by
      rw [HLAY.out]; simp [bodyP])
    have h8 : (bs ++ [UInt8.ofNat ((4 : Int) % 256).toNat]).length + 1 ≤ 1000000000 := by
      have h := HL2.out
      have e : (bodyP 4 n neg mag bits bytes args.length).length = 1 := by simp [bodyP]
      rw [e] at h
      omega
    go_wp2_with (at_builtin; refine wpList_append_own_at _ rfl (.tmp 67) (.tmp 71) 36 rfl base 5 i0 (.int .u8 0) 1 1 Tryd.underlying36 hi hz0 hz1 hz2 rfl (by decide) v1 _ _ rfl (World.ownsRow.alloc HS1.out.1 _) _ 1 1 [.int .u8 (n % 256)] rfl rfl (cell_one_at w1 w1.heap.size rfl _ _) (u8_one _) (by unfold maxLen; omega) (by omega) (by simp; omega) ?_; intro v2 w2 hown2 hgrow2 _ hloc2; have HF := Lib.hid (HFIN.out _ HE.out v2 w2 (HS1.out.step (row_snoc hown2 (mod_byte n)) ((OG.refl _ _).grew hgrow2 hloc2))); clear hown2 hgrow2 hloc2)
    go_ret
    exact ⟨v2, rfl, HF.out.1, HF.out.2⟩
  have b4 : (k == 4) = false := by simp [k4]
  by_cases k5 : k = 5
  · subst k5
    have HE := Lib.hid (show (Tm.mk 5 n neg mag bits bytes args).lay = UInt8.ofNat (5 % 256 : Int).toNat :: [UInt8.ofNat (n % 256).toNat] by
      rw [HLAY.out]; simp [bodyP])
    have h8 : (bs ++ [UInt8.ofNat ((5 : Int) % 256).toNat]).length + 1 ≤ 1000000000 := by
      have h := HL2.out
      have e : (bodyP 5 n neg mag bits bytes args.length).length = 1 := by simp [bodyP]
      rw [e] at h
      omega
    go_wp2_with (at_builtin; refine wpList_append_own_at _ rfl (.tmp 67) (.tmp 71) 36 rfl base 5 i0 (.int .u8 0) 1 1 Tryd.underlying36 hi hz0 hz1 hz2 rfl (by decide) v1 _ _ rfl (World.ownsRow.alloc HS1.out.1 _) _ 1 1 [.int .u8 (n % 256)] rfl rfl (cell_one_at w1 w1.heap.size rfl _ _) (u8_one _) (by unfold maxLen; omega) (by omega) (by simp; omega) ?_; intro v2 w2 hown2 hgrow2 _ hloc2; have HF := Lib.hid (HFIN.out _ HE.out v2 w2 (HS1.out.step (row_snoc hown2 (mod_byte n)) ((OG.refl _ _).grew hgrow2 hloc2))); clear hown2 hgrow2 hloc2)
    go_ret
    exact ⟨v2, rfl, HF.out.1, HF.out.2⟩
  have b5 : (k == 5) = false := by simp [k5]
  by_cases k6 : k = 6
  · subst k6
    have HE := Lib.hid (show (Tm.mk 6 n neg mag bits bytes args).lay = UInt8.ofNat (6 % 256 : Int).toNat :: ([UInt8.ofNat args.length] ++ lays args) by
      rw [HLAY.out]; simp [bodyP])
    have hlm : (bs ++ [UInt8.ofNat ((6 : Int) % 256).toNat] ++ [UInt8.ofNat args.length]).length + (lays args).length ≤ 1000000000 := by
      have h := HL2.out
      have e : (bodyP 6 n neg mag bits bytes args.length).length = 1 := by simp [bodyP]
      rw [e, if_pos (.inl rfl)] at h
      rw [List.length_append]; simp only [List.length_cons, List.length_nil]; omega
    have h8 : (bs ++ [UInt8.ofNat ((6 : Int) % 256).toNat]).length + 1 ≤ 1000000000 := by
      rw [List.length_append (bs := [UInt8.ofNat args.length])] at hlm; simp only [List.length_cons, List.length_nil] at hlm ⊢; omega
    go_wp2_with (at_builtin; refine wpList_append_own_at _ rfl (.tmp 73) (.tmp 78) 36 rfl base 5 i0 (.int .u8 0) 1 1 Tryd.underlying36 hi hz0 hz1 hz2 rfl (by decide) v1 _ _ rfl (World.ownsRow.alloc HS1.out.1 _) _ 1 1 [.int .u8 ((args.length : Int) % 256)] rfl rfl (cell_one_at w1 w1.heap.size rfl _ _) (u8_one _) (by unfold maxLen; omega) (by omega) (by simp; omega) ?_; intro v2 w2 hown2 hgrow2 _ hloc2; have HS2 := Lib.hid (HS1.out.step (row_snoc hown2 (show (args.length : Int) % 256 = ((UInt8.ofNat args.length).toNat : Int) by rw [UInt8.toNat_ofNat']; omega)) ((OG.refl _ _).grew hgrow2 hloc2)); have f6 := HS2.out.cell 6; simp at f6; clear hown2 hgrow2 hloc2)
    go_loopw [0, 83] (fun s i wr => ∃ (j : Nat), j ≤ args.length ∧ i = .int .i64 j ∧ Hid (LS w wr w.heap.size base #[.int .i64 6, .int .i64 n, .bool neg, .slice ma mag.length mcap, .int .u64 bits, .string bytes, .slice a args.length acap] v s ((bs ++ [UInt8.ofNat ((6 : Int) % 256).toNat] ++ [UInt8.ofNat args.length]) ++ lays (args.take j)))) (fun _ i _ => args.length - (intOf i).toNat)
    case atStart => exact ⟨0, by omega, rfl, Lib.hid (by simpa [lays] using HS2.out)⟩
    case round =>
      obtain ⟨j, hj, rfl, HK⟩ := hrel
      have szr : base ≤ wr.heap.size := Nat.le_trans hbase HK.out.size
      by_cases hlt' : j < args.length
      · obtain ⟨g, o, k', n2', neg', mv', bits', bytes', av', rfl, ht, p0, p1, p2, p3, p4, p5, p6, ⟨ma2, ml2, mc2, rfl⟩, ⟨aa2, al2, ac2, rfl⟩⟩ := HC.out j hlt'
        have HT := Lib.hid ht
        have B0 := HB0.out.trans ((HK.out.2.1.below HBASEV.out hbase).mono h0b)
        have up : ∀ {p : Addr} {v : Value}, w0.cell? p = some v → wr.cell? p = some v := fun q => (B0.cell (World.block_lt_of_cell? w0 _ q)).trans q
        have l0 := up p0
        have l1 := up p1
        have l2 := up p2
        have l3 := up p3
        have l4 := up p4
        have l5 := up p5
        have l6 := up p6
        have HBR := Lib.hid B0
        have q4 : (j : Int) < (args.length : Int) := by omega
        have q5 : (0 : Int) ≤ (j : Int) := by omega
        have q6 : IntKind.i64.wrap ((j : Int) + 1) = (j : Int) + 1 := IntWalk.i64_in _ (by omega)
        have HTK := Lib.hid (lays_take hlt')
        have HPL := Lib.hid (len_step hlt' hlm)
        clear p0 p1 p2 p3 p4 p5 p6 up B0 ht
        go_wp2_with fail
        refine ((HI.out args[j] (List.getElem_mem hlt')) _ _ _ base w0 _ HT.out (HRS.out _ (List.getElem_mem hlt')) (HK.out.alloc _).1 (by have h := HPL.out; rw [List.length_append]; exact h) (by simp; omega) h0b (HBR.out.alloc HBR.out.size _)).mono ?_
        rintro e w5 ⟨v5, rfl, hr5, ho5⟩
        have HK5 := Lib.hid ((HK.out.alloc _).step hr5 ho5)
        clear hr5 ho5
        go_wp2_with fail
        go_roundw
        case rel => exact ⟨j + 1, by omega, by go_num, Lib.hid (by
          have h := HK5.out
          rw [HTK.out, ← List.append_assoc]
          exact h)⟩
        case measure => simp [intOf]; omega
      · obtain rfl : j = args.length := by omega
        have q4 : ¬ ((args.length : Nat) : Int) < (args.length : Int) := by omega
        have HKE := Lib.hid (show LS w wr w.heap.size base _ v u0 ((bs ++ [UInt8.ofNat ((6 : Int) % 256).toNat] ++ [UInt8.ofNat args.length]) ++ lays args) by
          have h := HK.out
          rwa [List.take_length] at h)
        have HF := Lib.hid (HFIN.out _ HE.out _ wr (by have h := HKE.out; rw [List.append_assoc] at h; exact h))
        go_wp2_with fail
        go_ret
        exact ⟨_, rfl, HF.out.1, HF.out.2⟩
  have b6 : (k == 6) = false := by simp [k6]
  by_cases k8 : k = 8
  · subst k8
    have HE := Lib.hid (show (Tm.mk 8 n neg mag bits bytes args).lay = UInt8.ofNat (8 % 256 : Int).toNat :: lays args by
      rw [HLAY.out]; simp [bodyP])
    have hlm : (bs ++ [UInt8.ofNat ((8 : Int) % 256).toNat]).length + (lays args).length ≤ 1000000000 := by
      have h := HL2.out
      rw [if_pos (.inr rfl)] at h
      omega
    go_wp2_with fail
    go_loopw [0, 83] (fun s i wr => ∃ (j : Nat), j ≤ args.length ∧ i = .int .i64 j ∧ Hid (LS w wr w.heap.size base #[.int .i64 8, .int .i64 n, .bool neg, .slice ma mag.length mcap, .int .u64 bits, .string bytes, .slice a args.length acap] v s ((bs ++ [UInt8.ofNat ((8 : Int) % 256).toNat]) ++ lays (args.take j)))) (fun _ i _ => args.length - (intOf i).toNat)
    case atStart => exact ⟨0, by omega, rfl, Lib.hid (by simpa [lays] using HS1.out)⟩
    case round =>
      obtain ⟨j, hj, rfl, HK⟩ := hrel
      have szr : base ≤ wr.heap.size := Nat.le_trans hbase HK.out.size
      by_cases hlt' : j < args.length
      · obtain ⟨g, o, k', n2', neg', mv', bits', bytes', av', rfl, ht, p0, p1, p2, p3, p4, p5, p6, ⟨ma2, ml2, mc2, rfl⟩, ⟨aa2, al2, ac2, rfl⟩⟩ := HC.out j hlt'
        have HT := Lib.hid ht
        have B0 := HB0.out.trans ((HK.out.2.1.below HBASEV.out hbase).mono h0b)
        have up : ∀ {p : Addr} {v : Value}, w0.cell? p = some v → wr.cell? p = some v := fun q => (B0.cell (World.block_lt_of_cell? w0 _ q)).trans q
        have l0 := up p0
        have l1 := up p1
        have l2 := up p2
        have l3 := up p3
        have l4 := up p4
        have l5 := up p5
        have l6 := up p6
        have HBR := Lib.hid B0
        have q4 : (j : Int) < (args.length : Int) := by omega
        have q5 : (0 : Int) ≤ (j : Int) := by omega
        have q6 : IntKind.i64.wrap ((j : Int) + 1) = (j : Int) + 1 := IntWalk.i64_in _ (by omega)
        have HTK := Lib.hid (lays_take hlt')
        have HPL := Lib.hid (len_step hlt' hlm)
        clear p0 p1 p2 p3 p4 p5 p6 up B0 ht
        go_wp2_with fail
        refine ((HI.out args[j] (List.getElem_mem hlt')) _ _ _ base w0 _ HT.out (HRS.out _ (List.getElem_mem hlt')) (HK.out.alloc _).1 (by have h := HPL.out; rw [List.length_append]; exact h) (by simp; omega) h0b (HBR.out.alloc HBR.out.size _)).mono ?_
        rintro e w5 ⟨v5, rfl, hr5, ho5⟩
        have HK5 := Lib.hid ((HK.out.alloc _).step hr5 ho5)
        clear hr5 ho5
        go_wp2_with fail
        go_roundw
        case rel => exact ⟨j + 1, by omega, by go_num, Lib.hid (by
          have h := HK5.out
          rw [HTK.out, ← List.append_assoc]
          exact h)⟩
        case measure => simp [intOf]; omega
      · obtain rfl : j = args.length := by omega
        have q4 : ¬ ((args.length : Nat) : Int) < (args.length : Int) := by omega
        have HKE := Lib.hid (show LS w wr w.heap.size base _ v u0 ((bs ++ [UInt8.ofNat ((8 : Int) % 256).toNat]) ++ lays args) by
          have h := HK.out
          rwa [List.take_length] at h)
        have HF := Lib.hid (HFIN.out _ HE.out _ wr (by have h := HKE.out; exact h))
        go_wp2_with fail
        go_ret
        exact ⟨_, rfl, HF.out.1, HF.out.2⟩
  have b8 : (k == 8) = false := by simp [k8]
  by_cases k9 : k = 9
  · subst k9
    have HE := Lib.hid (show (Tm.mk 9 n neg mag bits bytes args).lay = UInt8.ofNat (9 % 256 : Int).toNat :: (putP bytes.size 2 ++ bytes.toList) by
      rw [HLAY.out]; simp [bodyP])
    have h8 : (bs ++ [UInt8.ofNat ((9 : Int) % 256).toNat]).length + 2 + bytes.size ≤ 1000000000 := by
      have h := HL2.out
      have e : (bodyP 9 n neg mag bits bytes args.length).length = 2 + bytes.size := by simp [bodyP, putP_length, size_toList]
      rw [e] at h
      omega
    have HD1 := Lib.hid HS1.out.drew
    have qw : IntKind.u64.wrap (bytes.size : Int) = (bytes.size : Int) := by rw [IntKind.wrap_u64]; omega
    go_wp2_with fail
    have hb2 : ((bs ++ [UInt8.ofNat ((9 : Int) % 256).toNat]) ++ putP bytes.size 2).length + bytes.size ≤ 140737488355328 := by rw [List.length_append, putP_length]; omega
    obtain ⟨L3, hL3⟩ : ∃ L, ((bs ++ [UInt8.ofNat ((9 : Int) % 256).toNat]) ++ putP bytes.size 2).length + bytes.size = L := ⟨_, rfl⟩
    go_region_held3 (fun w' => w'.cell? ⟨w.heap.size, 5, none⟩ = some (.string bytes)) (first | exact d5 | exact f5 | exact f7 | go_keep) (first
      | (refine step_append_str rfl (.tmp 96) (.tmp 98) rfl base v2 _ _ rfl HS2.out.1 bytes rfl L3 hL3 hb2 sz2 ?_; intro A c w3 hown3 hgrow3 hloc3; have HS3 := Lib.hid (HS2.out.step (row_str hown3 hL3) ⟨hgrow3, hloc3⟩); have f7 := HS3.out.cell 5; simp at f7; clear hown3 hgrow3 hloc3)
      | (go_at_call 58; refine (put_at base 2 bytes.size 2 bytes.size rfl rfl v1 _ w1.drew HD1.out.1 (by omega) (by omega) (by omega) sz1).mono ?_; rintro e w2 ⟨v2, rfl, hr2, ho2⟩; have HS2 := Lib.hid (HD1.out.step hr2 ho2); have f5 := HS2.out.cell 5; simp at f5; have sz2 := Nat.le_trans hbase HS2.out.size; clear hr2 ho2))
    go_wp2_with fail
    go_ret
    have HF := HFIN.out _ HE.out _ w3 (by
      have h := HS3.out
      rw [List.append_assoc (bs ++ [UInt8.ofNat ((9 : Int) % 256).toNat])] at h
      exact h)
    exact ⟨_, rfl, HF.1, HF.2⟩
  have b9 : (k == 9) = false := by simp [k9]
  have HE := Lib.hid (show (Tm.mk k n neg mag bits bytes args).lay = UInt8.ofNat (k % 256).toNat :: [] by
    rw [HLAY.out]; simp [bodyP, k1, k2, k3, k4, k5, k6, k8, k9])
  have HF := Lib.hid (HFIN.out _ HE.out v1 w1 (by simpa using HS1.out))
  go_wp2_with fail
  go_ret
  exact ⟨_, rfl, HF.out.1, HF.out.2⟩

theorem lay_all : ∀ t : Tm, LayOk 43 t := Tm.ind lay_of

end Go.Proofs.YtohgkfnbjfhniaaDoor
