/-
  CollectMajor: the law's walk.
-/
import Derived.Test.YtlmpmjhanpkcnaaGreatN39
import Derived.Test.YtlmpmjhanpkcnaaGreatN40
import Derived.Test.YtlmpmjhanpkcnaaGreatN41
import Derived.Test.YtlmpmjhanpkcnaaGreatN38
import Derived.Test.YtlmpmjhanpkcnaaGreatN42
import Derived.Test.YtlmpmjhanpkcnaaGreatN12
set_option linter.unusedVariables false
set_option linter.unusedSimpArgs false
namespace Go.Proofs.YtlmpmjhanpkcnaaGreat
open Go.RowKit

theorem DmAt.memB {w : World} {v : Value} {d : Dmp} (hd : DmAt w v d) : MemB d.mem := by
  obtain ⟨_, _, _, _, _, _, _, _, ⟨_, _, _, _, _, h1⟩, ⟨_, _, _, _, _, h2⟩, _, _, h5, _, _⟩ := hd
  intro f hf x hx
  unfold Dmp.mem at hf
  rcases List.mem_cons.1 hf with rfl | hf
  · exact h1.2.1 x hx
  · rcases List.mem_cons.1 hf with rfl | hf
    · exact h2.2.1 x hx
    · exact h5.bnd f hf x hx

theorem DmAt.isH' {w : World} {a b c d' e f g r h : Value} {d : Dmp} (hd : DmAt w (.agg #[a, b, c, d', e, f, g, r, h]) d) : Is w h d.handles := by
  obtain ⟨a1, b1, a2, b2, f1, r1, h1, he, k1, k2, k3, k4, k5, k6, k7⟩ := hd
  simp only [dmpV, Value.agg.injEq, Array.mk.injEq, List.cons.injEq, and_true] at he
  obtain ⟨-, -, -, -, -, -, -, -, rfl⟩ := he
  exact k7

theorem Mj.of {d : Dmp} {S : List Slt} {a : Nat} {l : List Spt} {w : World} {v : Value} (hd : DmAt w v d) (hs : DmSmall d) (ha : a ≤ 1125899906842624) (hl : ReachL d.mem d.roots l) (hr1 : regionsP d = true) (hr2 : refRoots true S d = true) : Mj d S a l := by
  obtain ⟨wa1, wc1, wa2, wc2, fa, fc, ra, rc, ha', hc, rfl⟩ := hd.shape
  exact ⟨ha, hl, hd.memB, hs.words', lowM_of hr1 (by have := hs.words'; omega), hd.ws.2.1, hr2⟩

theorem sane_of {d : Dmp} {S : List Slt} {a : Int} (hs : DmSmall d) (ha : 1 ≤ a ∧ a ≤ 1125899906842624) (hr1 : regionsP d = true) (hr2 : refRoots true S d = true) : saneP d a = true := by
  have hlow := lowM_of hr1 (by have := hs.words'; omega)
  have h3 : rootsP false [] d = true := roots_tf (S := S) (by rw [← roots_same hlow]; exact hr2)
  unfold saneP
  simp [hr1, h3, ha.1, ha.2]

theorem keep30 {W V : World} {ga gb gc ge : Nat} {a0 a1 a2 a3 a4 a5 a6 a7 a8 b0 b1 b2 b3 b4 b5 b6 b7 b8 c0 c1 c2 c3 c4 c5 c6 c7 c8 e0 e1 e2 : Value} {t t2 : TypeId} (ha : W.heap[ga]? = some (.cells #[a0, a1, a2, a3, a4, a5, a6, a7, a8] t (0, 0))) (hb : W.heap[gb]? = some (.cells #[b0, b1, b2, b3, b4, b5, b6, b7, b8] t (0, 0))) (hc : W.heap[gc]? = some (.cells #[c0, c1, c2, c3, c4, c5, c6, c7, c8] t (0, 0))) (he : W.heap[ge]? = some (.cells #[e0, e1, e2] t2 (0, 0))) (hz : Below W.heap.size W V) :
    V.cell? ⟨ga, 0, none⟩ = some a0 ∧ V.cell? ⟨ga, 1, none⟩ = some a1 ∧ V.cell? ⟨ga, 2, none⟩ = some a2 ∧ V.cell? ⟨ga, 3, none⟩ = some a3 ∧ V.cell? ⟨ga, 4, none⟩ = some a4 ∧ V.cell? ⟨ga, 5, none⟩ = some a5 ∧ V.cell? ⟨ga, 6, none⟩ = some a6 ∧ V.cell? ⟨ga, 7, none⟩ = some a7 ∧ V.cell? ⟨ga, 8, none⟩ = some a8 ∧ V.cell? ⟨gb, 0, none⟩ = some b0 ∧ V.cell? ⟨gb, 1, none⟩ = some b1 ∧ V.cell? ⟨gb, 2, none⟩ = some b2 ∧ V.cell? ⟨gb, 3, none⟩ = some b3 ∧ V.cell? ⟨gb, 4, none⟩ = some b4 ∧ V.cell? ⟨gb, 5, none⟩ = some b5 ∧ V.cell? ⟨gb, 6, none⟩ = some b6 ∧ V.cell? ⟨gb, 7, none⟩ = some b7 ∧ V.cell? ⟨gb, 8, none⟩ = some b8 ∧ V.cell? ⟨gc, 0, none⟩ = some c0 ∧ V.cell? ⟨gc, 1, none⟩ = some c1 ∧ V.cell? ⟨gc, 2, none⟩ = some c2 ∧ V.cell? ⟨gc, 3, none⟩ = some c3 ∧ V.cell? ⟨gc, 4, none⟩ = some c4 ∧ V.cell? ⟨gc, 5, none⟩ = some c5 ∧ V.cell? ⟨gc, 6, none⟩ = some c6 ∧ V.cell? ⟨gc, 7, none⟩ = some c7 ∧ V.cell? ⟨gc, 8, none⟩ = some c8 ∧ V.cell? ⟨ge, 0, none⟩ = some e0 ∧ V.cell? ⟨ge, 1, none⟩ = some e1 ∧ V.cell? ⟨ge, 2, none⟩ = some e2 ∧ Below W.heap.size W V := by
  have qa := (hz.block ga (lt_of_block ha)).trans ha
  have qb := (hz.block gb (lt_of_block hb)).trans hb
  have qc := (hz.block gc (lt_of_block hc)).trans hc
  have qe := (hz.block ge (lt_of_block he)).trans he
  exact ⟨cell_of qa 0, cell_of qa 1, cell_of qa 2, cell_of qa 3, cell_of qa 4, cell_of qa 5, cell_of qa 6, cell_of qa 7, cell_of qa 8, cell_of qb 0, cell_of qb 1, cell_of qb 2, cell_of qb 3, cell_of qb 4, cell_of qb 5, cell_of qb 6, cell_of qb 7, cell_of qb 8, cell_of qc 0, cell_of qc 1, cell_of qc 2, cell_of qc 3, cell_of qc 4, cell_of qc 5, cell_of qc 6, cell_of qc 7, cell_of qc 8, cell_of qe 0, cell_of qe 1, cell_of qe 2, hz⟩

theorem field39_2 (av : Value) (n : Int) (mb : Option Addr) (hl mc : Nat) (w : World) : (Instr.field 39 (.agg #[av, .int .i64 n, .slice mb hl mc]) 2).run Tryz.prog w = .ok (.slice mb hl mc) w := by kernel_rfl

def ReE (w9 w' : World) (hs : List Int) (hl : Nat) (e : Ending) : Prop := ∃ (av : Value) (n : Nat) (mb : Option Addr) (mc : Nat), e = .returned (.agg #[av, .int .i64 n, .slice mb hl mc]) ∧ Hid (Is w' (.slice mb hl mc) hs) ∧ Below w9.heap.size w9 w'

theorem re_of {w9 V w' : World} {M : Mt} {hs : List Int} {hl : Nat} {e : Ending} (hb : Below w9.heap.size w9 V) (h : MetEnd V w' M e) (h1 : M.hs = hs) (h2 : hs.length = hl) (h3 : hl ≤ 1000000) (h4 : ∀ x ∈ hs, -9223372036854775808 ≤ x ∧ x ≤ 9223372036854775807) : ReE w9 w' hs hl e := by
  obtain ⟨av, hv, rfl, -, hoh, hb2⟩ := h
  subst h2
  rw [h1] at hoh
  obtain ⟨mb, mc, rfl⟩ := own_slice hoh
  exact ⟨av, M.words, mb, mc, rfl, Lib.hid (is_of_own hoh h3 h4), hb.trans (hb2.mono hb.size)⟩

/-- All that the law asks of the dump that came out. -/
structure MjOut (d e : Dmp) (S : List Slt) (a n rl hl : Nat) (V : World) (ev : Value) : Prop where
  dm : DmAt V ev e
  alike : Alike d e S
  regs : regionsP e = true
  roots : refRoots true S e = true
  h12 : handles12P e S = true
  old : e.old = (0, [])
  frags : e.frags = []
  wN : wordsN e.mem ≤ 5000
  mb : MemB e.mem
  rl : e.roots.length ≤ 1000
  hn : (metP e.mem e.roots).hs = e.handles
  hle : e.handles.length = hl
  ya : e.young.1 = (a : Int)
  yl : e.young.2.length = n
  many : ∀ x ∈ (metP e.mem e.roots).at_, ManyOk e x (objW e.mem (spotOf x))
  nod : ((metP e.mem e.roots).at_.flatMap (objA fun x => objW e.mem (spotOf x))).Nodup
  tot : ((metP e.mem e.roots).at_.flatMap (objA fun x => objW e.mem (spotOf x))).length = (metP e.mem e.roots).words
  wrd : (metP e.mem e.roots).words = n

theorem MjOut.lift {d e : Dmp} {S : List Slt} {a n rl hl : Nat} {V W : World} {ev : Value} (h : MjOut d e S a n rl hl V ev) (hb : Below V.heap.size V W) : MjOut d e S a n rl hl W ev := { h with dm := h.dm.below hb }

/-- A collected dump, with all that is asked of it. -/
theorem mj_all {d : Dmp} {S : List Slt} {a : Nat} {l : List Spt} {w V : World} {v dv : Value} (hd : DmAt w v d) (hs : DmSmall d) (ha : a ≤ 1125899906842624) (hl : ReachL d.mem d.roots l) (hr1 : regionsP d = true) (hr2 : refRoots true S d = true) (ho : MajorOut w V d a l dv) :
    ∃ (e : Dmp) (n rl hl : Nat) (ya : Option Addr) (yc : Nat) (ea : Option Addr) (ec : Nat) (ga : Option Addr) (gc : Nat), dv = .agg #[.int .i64 (a : Int), .slice ya n yc, .int .i64 0, .slice none 0 0, .int .i64 n, .int .i64 n, .slice none 0 0, .slice ea rl ec, .slice ga hl gc] ∧ MjOut d e S a n rl hl V dv ∧ n ≤ 5000 ∧ rl ≤ 1000 ∧ hl ≤ 5000 ∧ n = (metP d.mem d.roots).words ∧ hl = (metP d.mem d.roots).hs.length ∧
      Own V w.heap.size 47 (.slice ya n yc) n ∧ Own V w.heap.size 47 (.slice ea rl ec) rl ∧ Own V w.heap.size 3 (.slice ga hl gc) hl := by
  have M := Mj.of (S := S) hd hs ha hl hr1 hr2
  have A := M.all
  have hw := M.wle
  have hlen := M.len
  have hrl : (majorD d a l).roots.length ≤ 100 := by rw [A.roots, List.length_map]; exact hs.roots
  have hhl : (majorD d a l).handles.length ≤ 480 := by
    show (sortI (hsM d.mem (majorSt d a l).went l)).length ≤ 480
    rw [(sortI_perm _).length_eq]
    have := hsM_le d.mem (majorSt d a l).went l
    omega
  have hdm := majorOut_dm ho (by omega) (by show (majorSt d a l).words.length ≤ _; omega) (fun x hx => M.memB ((majorD d a l).young) (by simp [Dmp.mem]) x hx) (by omega) A.rb (by omega) (fun x hx => by
    obtain ⟨s, hs, -, rfl⟩ := M.handle_of hx
    obtain ⟨n, k, l1, -, -, hr, e, -, -⟩ := A.home.img hs
    have := A.home.low
    rw [e]
    unfold In64
    simp only
    omega)
  obtain ⟨yv, rv, hv, rfl, o1, o2, o3⟩ := ho
  obtain ⟨ya, yc, rfl⟩ := own_slice o1
  obtain ⟨ea, ec, rfl⟩ := own_slice o2
  obtain ⟨ga, gc, rfl⟩ := own_slice o3
  have hn : (majorD d a l).young.2.length = (majorSt d a l).words.length := rfl
  refine ⟨majorD d a l, (majorSt d a l).words.length, (majorD d a l).roots.length, (majorD d a l).handles.length, ya, yc, ea, ec, ga, gc, rfl, ?_, by omega, by omega, by omega, major_words M, M.hlen, Own.of o1, Own.of o2, Own.of o3⟩
  have hal : Alike d (majorD d a l) S := major_alike ha hl (by omega) M.low M.rd hr2
  exact ⟨hdm, hal, regions_major ha, alike_roots hal, M.h12, rfl, rfl, by have := M.wordsN; omega, M.memB, by omega, M.handles.symm, rfl, rfl, rfl, fun x hx => many_ok M hx, M.apart.1, M.apart.2, M.words_e⟩

set_option maxHeartbeats 16000000 in
set_option maxRecDepth 100000 in
theorem collectMajor_any (d : Dmp) (S : List Slt) (v sv : Value) (at' : Int) (w : World) (hd : DmAt w v d) (hS : SlRaw w sv S) (ha : -9223372036854775808 ≤ at' ∧ at' ≤ 9223372036854775807) :
    Calls Tryz.prog 3 #[v, sv, .int .i64 at'] w fun e w' => TrueEnd w w' e := by
  have HD := Lib.hid hd
  have HSR := Lib.hid hS
  have HMB := Lib.hid hd.memB
  obtain ⟨wa1, wc1, wa2, wc2, fa, fc, ra, rc, ha', hc, rfl⟩ := hd.shape
  obtain ⟨-, sa, sc, rfl, -⟩ := hS
  clear hd
  have T := one_at w (.cells #[.int .i64 d.young.1, .slice wa1 d.young.2.length wc1, .int .i64 d.old.1, .slice wa2 d.old.2.length wc2, .int .i64 d.size, .int .i64 d.mark, .slice fa d.frags.length fc, .slice ra d.roots.length rc, .slice ha' d.handles.length hc] 28)
  go_enter Tryz.func3, Tryz.ntmps3
  go_upto_region 1 with fail
  generalize w.alloc (.cells #[.int .i64 d.young.1, .slice wa1 d.young.2.length wc1, .int .i64 d.old.1, .slice wa2 d.old.2.length wc2, .int .i64 d.size, .int .i64 d.mark, .slice fa d.frags.length fc, .slice ra d.roots.length rc, .slice ha' d.handles.length hc] 28) = W at *
  have X1 := Lib.hid T.1
  have B1 := Lib.hid T.2.2
  clear T
  have x0 := cell_of X1.out 0
  have x1 := cell_of X1.out 1
  have x2 := cell_of X1.out 2
  have x3 := cell_of X1.out 3
  have x4 := cell_of X1.out 4
  have x5 := cell_of X1.out 5
  have x6 := cell_of X1.out 6
  have x7 := cell_of X1.out 7
  have x8 := cell_of X1.out 8
  simp at x0 x1 x2 x3 x4 x5 x6 x7 x8
  go_wp2_with fail
  refine (greatDump_any d _ W (HD.out.below B1.out)).mono ?_
  rintro e w2 ⟨⟨g, rfl, hsm⟩, hb⟩
  have X2 := Lib.hid ((hb.block _ (lt_of_block X1.out)).trans X1.out)
  have HX := Lib.hid (B1.out.trans (hb.mono B1.out.size))
  have HSM := Lib.hid hsm
  clear hb hsm B1 X1 x0 x1 x2 x3 x4 x5 x6 x7 x8
  cases g with
  | true =>
    go_wp2_with fail
    refine (awake_any w2).mono ?_
    rintro e wz ⟨rfl, hbz⟩
    have HBZ := Lib.hid (HX.out.trans (hbz.mono HX.out.size))
    clear hbz
    go_wp2_with fail
    go_ret
    exact ⟨rfl, HBZ.out⟩
  | false =>
    have HS0 := Lib.hid (HSM.out rfl)
    go_wp2_with fail
    refine (greatSlots_any S _ w2 (HSR.out.below HX.out)).mono ?_
    rintro e w2' ⟨⟨b, rfl, hb⟩, hww⟩
    obtain rfl : w2 = w2' := hww.symm
    have HSS := Lib.hid hb
    clear hb
    cases b with
    | true =>
      go_wp2_with fail
      refine (awake_any w2).mono ?_
      rintro e wz ⟨rfl, hbz⟩
      have HBZ := Lib.hid (HX.out.trans (hbz.mono HX.out.size))
      clear hbz
      go_wp2_with fail
      go_ret
      exact ⟨rfl, HBZ.out⟩
    | false =>
      have HSA := Lib.hid (HSR.out.at (HSS.out rfl))
      have HN := Lib.hid (show wordsN d.mem ≤ 5000 by have := HS0.out.words'; omega)
      have HF := Lib.hid (show d.frags.length ≤ 100000 by have := HS0.out.frags; omega)
      have HRL := Lib.hid (show d.roots.length ≤ 100000 by have := HS0.out.roots; omega)
      have x0 := cell_of X2.out 0
      have x1 := cell_of X2.out 1
      have x2 := cell_of X2.out 2
      have x3 := cell_of X2.out 3
      have x4 := cell_of X2.out 4
      have x5 := cell_of X2.out 5
      have x6 := cell_of X2.out 6
      have x7 := cell_of X2.out 7
      have x8 := cell_of X2.out 8
      simp at x0 x1 x2 x3 x4 x5 x6 x7 x8
      go_wp2_with fail
      refine (why12_any false d S _ _ w2 (HD.out.below HX.out) (HSA.out.below HX.out) HF.out HN.out HMB.out HRL.out (fun V hV => (old12_any d _ V ((HD.out.below HX.out).below hV) (by have := HS0.out.old; omega)).mono fun e w' q => by
        obtain ⟨⟨b, rfl⟩, q2⟩ := q
        exact ⟨b, (fun h => by cases h), rfl, q2⟩)).mono ?_
      rintro e w3 ⟨t, rfl, hb, hwy, -⟩
      have HWY := Lib.hid hwy
      have X3 := Lib.hid ((hb.block _ (lt_of_block X2.out)).trans X2.out)
      have HX3 := Lib.hid (HX.out.trans (hb.mono HX.out.size))
      clear hb hwy X2 HX x0 x1 x2 x3 x4 x5 x6 x7 x8
      by_cases ht : t = ⟨#[]⟩
      · subst ht
        have HW1 := Lib.hid (HWY.out rfl).1
        have HW2 := Lib.hid (HWY.out rfl).2.1
        clear HWY HSM HSS
        go_upto_region 3 with fail
        go_wp2_with fail
        refine (low_any at' 100000 ha (by omega) w3).mono ?_
        rintro e w3' ⟨rfl, hww⟩
        obtain rfl : w3 = w3' := hww.symm
        have hlo := lowP_le at' (show (1 : Int) ≤ 100000 by omega)
        obtain ⟨a, haa, ha1, ha2⟩ : ∃ a : Nat, IntKind.i64.wrap (1 + lowP at' 100000) = (a : Int) ∧ 1 ≤ a ∧ a ≤ 100000 := by
          rw [IntWalk.i64_in _ (by omega)]
          exact ⟨(1 + lowP at' 100000).toNat, by omega, by omega, by omega⟩
        clear hlo
        have HA := Lib.hid (show 1 ≤ a ∧ a ≤ 1125899906842624 by omega)
        have x0 := cell_of X3.out 0
        have x1 := cell_of X3.out 1
        have x2 := cell_of X3.out 2
        have x3 := cell_of X3.out 3
        have x4 := cell_of X3.out 4
        have x5 := cell_of X3.out 5
        have x6 := cell_of X3.out 6
        have x7 := cell_of X3.out 7
        have x8 := cell_of X3.out 8
        simp at x0 x1 x2 x3 x4 x5 x6 x7 x8
        go_upto_region 4 with fail
        try rw [haa]
        go_wp2_with fail
        refine (copy_any d _ w3 (HD.out.below HX3.out) (fun f hf => by
          have hs := HS0.out
          unfold Dmp.mem at hf
          rcases List.mem_cons.1 hf with rfl | hf
          · have := hs.young; omega
          · rcases List.mem_cons.1 hf with rfl | hf
            · have := hs.old; omega
            · have := hs.words f hf; omega) (by have := HS0.out.frags; omega) (by have := HS0.out.roots; omega) (by have := HS0.out.handles; omega)).mono ?_
        rintro e w4 ⟨v', rfl, hdi, hb⟩
        obtain ⟨ia1, ic1, ia2, ic2, ifa, ifc, ira, irc, iha, ihc, rfl⟩ := hdi.shape
        have HDI := Lib.hid hdi
        have X4 := Lib.hid ((hb.block _ (lt_of_block X3.out)).trans X3.out)
        have HX4 := Lib.hid (HX3.out.trans (hb.mono HX3.out.size))
        clear hb hdi X3 HX3 x0 x1 x2 x3 x4 x5 x6 x7 x8
        have T := one_at w4 (.cells #[.int .i64 d.young.1, .slice ia1 d.young.2.length ic1, .int .i64 d.old.1, .slice ia2 d.old.2.length ic2, .int .i64 d.size, .int .i64 d.mark, .slice ifa d.frags.length ifc, .slice ira d.roots.length irc, .slice iha d.handles.length ihc] 28)
        go_upto_region 5 with fail
        generalize w4.alloc (.cells #[.int .i64 d.young.1, .slice ia1 d.young.2.length ic1, .int .i64 d.old.1, .slice ia2 d.old.2.length ic2, .int .i64 d.size, .int .i64 d.mark, .slice ifa d.frags.length ifc, .slice ira d.roots.length irc, .slice iha d.handles.length ihc] 28) = w5 at *
        have XI := Lib.hid T.1
        have HI5 := Lib.hid (show w4.heap.size < w5.heap.size from lt_of_block T.1)
        have HXL := Lib.hid (show w.heap.size < w5.heap.size from lt_of_block ((T.2.2.block _ (lt_of_block X4.out)).trans X4.out))
        have X5 := Lib.hid ((T.2.2.block _ (lt_of_block X4.out)).trans X4.out)
        have HX5 := Lib.hid (HX4.out.trans (T.2.2.mono HX4.out.size))
        have HDI5 := Lib.hid (HDI.out.below T.2.2)
        clear T X4 HX4 HDI
        have x0 := cell_of XI.out 0
        have x1 := cell_of XI.out 1
        have x2 := cell_of XI.out 2
        have x3 := cell_of XI.out 3
        have x4 := cell_of XI.out 4
        have x5 := cell_of XI.out 5
        have x6 := cell_of XI.out 6
        have x7 := cell_of XI.out 7
        have x8 := cell_of XI.out 8
        simp at x0 x1 x2 x3 x4 x5 x6 x7 x8
        go_wp2_with fail
        refine (major_any d _ (a : Int) w5 HDI5.out HF.out HN.out (by have := HS0.out.roots; omega)).mono ?_
        rintro e w6 ⟨-, hmj, hb⟩
        obtain ⟨l, dv, hl0, rfl, hout⟩ := hmj (sane_of HS0.out (by have := HA.out; omega) HW1.out HW2.out)
        simp only [Int.toNat_natCast] at hout
        obtain ⟨ed, n, rl, hl, ya, yc, ea, ec, ga, gc, rfl, hmo, hn5, hrl5, hhl5, en, eh, o1, o2, o3⟩ := mj_all (S := S) HDI5.out HS0.out HA.out.2 hl0 HW1.out HW2.out hout
        have HMO := Lib.hid hmo
        have HEN := Lib.hid en
        have HEH := Lib.hid eh
        have O1 := Lib.hid o1
        have O2 := Lib.hid o2
        have O3 := Lib.hid o3
        have XI6 := Lib.hid ((hb.block _ (lt_of_block XI.out)).trans XI.out)
        have X6 := Lib.hid ((hb.block _ (lt_of_block X5.out)).trans X5.out)
        have H56 := Lib.hid hb
        clear hb hmj hout hl0 hmo en eh o1 o2 o3 XI X5 x0 x1 x2 x3 x4 x5 x6 x7 x8
        have T := one_at w6 (.cells #[.int .i64 (a : Int), .slice ya n yc, .int .i64 0, .slice none 0 0, .int .i64 n, .int .i64 n, .slice none 0 0, .slice ea rl ec, .slice ga hl gc] 28)
        dsimp only
        go_upto_region 6 with fail
        generalize w6.alloc (.cells #[.int .i64 (a : Int), .slice ya n yc, .int .i64 0, .slice none 0 0, .int .i64 n, .int .i64 n, .slice none 0 0, .slice ea rl ec, .slice ga hl gc] 28) = w7 at *
        have XE := Lib.hid T.1
        have H67 := Lib.hid T.2.2
        have H57 := Lib.hid (H56.out.trans (T.2.2.mono H56.out.size))
        have XI7 := Lib.hid ((T.2.2.block _ (lt_of_block XI6.out)).trans XI6.out)
        have X7 := Lib.hid ((T.2.2.block _ (lt_of_block X6.out)).trans X6.out)
        clear T XI6 X6
        have x0 := cell_of X7.out 0
        have x1 := cell_of X7.out 1
        have x2 := cell_of X7.out 2
        have x3 := cell_of X7.out 3
        have x4 := cell_of X7.out 4
        have x5 := cell_of X7.out 5
        have x6 := cell_of X7.out 6
        have x7 := cell_of X7.out 7
        have x8 := cell_of X7.out 8
        simp at x0 x1 x2 x3 x4 x5 x6 x7 x8
        have HDV := Lib.hid (fun V (hb : Below w5.heap.size w5 V) => HD.out.below (HX5.out.trans (hb.mono HX5.out.size)))
        have HRE := Lib.hid (reached12_any d _ w7 (HDV.out w7 H57.out) HF.out HN.out HMB.out HRL.out)

        go_wp2_with fail
        refine HRE.out.mono ?_
        clear HRE
        rintro e w8 ⟨av, hv, rfl, hoa, hoh, hb⟩
        obtain ⟨ma, mc, rfl⟩ := own_slice hoh
        obtain ⟨aa, ac, rfl⟩ := own_slice hoa
        obtain ⟨al, hal⟩ : ∃ al, (metP d.mem d.roots).at_.length = al := ⟨_, rfl⟩
        rw [hal]
        clear hoa hal
        rw [← HEH.out] at hoh ⊢
        rw [← HEN.out]
        have H58 := Lib.hid (H57.out.trans (hb.mono H57.out.size))
        have H68 := Lib.hid (H67.out.trans (hb.mono H67.out.size))
        have XE8 := Lib.hid ((hb.block _ (lt_of_block XE.out)).trans XE.out)
        have XI8 := Lib.hid ((hb.block _ (lt_of_block XI7.out)).trans XI7.out)
        have X8 := Lib.hid ((hb.block _ (lt_of_block X7.out)).trans X7.out)
        clear hoh hb XE XI7 X7 x0 x1 x2 x3 x4 x5 x6 x7 x8 H57 H67
        have T := one_at w8 (.cells #[.slice aa al ac, .int .i64 n, .slice ma hl mc] 39)
        have x0 := cell_of X8.out 0
        have x1 := cell_of X8.out 1
        have x2 := cell_of X8.out 2
        have x3 := cell_of X8.out 3
        have x4 := cell_of X8.out 4
        have x5 := cell_of X8.out 5
        have x6 := cell_of X8.out 6
        have x7 := cell_of X8.out 7
        have x8 := cell_of X8.out 8
        simp at x0 x1 x2 x3 x4 x5 x6 x7 x8
        have y0 := cell_of XI8.out 0
        have y1 := cell_of XI8.out 1
        have y2 := cell_of XI8.out 2
        have y3 := cell_of XI8.out 3
        have y4 := cell_of XI8.out 4
        have y5 := cell_of XI8.out 5
        have y6 := cell_of XI8.out 6
        have y7 := cell_of XI8.out 7
        have y8 := cell_of XI8.out 8
        simp at y0 y1 y2 y3 y4 y5 y6 y7 y8
        have n1 := World.new_ne _ _ x0
        have n2 := World.new_ne _ _ y0
        go_wp2_with fail
        generalize w8.alloc (.cells #[.slice aa al ac, .int .i64 n, .slice ma hl mc] 39) = w9 at *
        have XM := Lib.hid T.1
        have XE9 := Lib.hid ((T.2.2.block _ (lt_of_block XE8.out)).trans XE8.out)
        have XI9 := Lib.hid ((T.2.2.block _ (lt_of_block XI8.out)).trans XI8.out)
        have X9 := Lib.hid ((T.2.2.block _ (lt_of_block X8.out)).trans X8.out)
        have H59 := Lib.hid (H58.out.trans (T.2.2.mono H58.out.size))
        have H69 := Lib.hid (H68.out.trans (T.2.2.mono H68.out.size))
        clear T XE8 XI8 X8 n1 n2 H58 H68 x0 x1 x2 x3 x4 x5 x6 x7 x8 y0 y1 y2 y3 y4 y5 y6 y7 y8
        have HVI := Lib.hid (fun V (hb : Below w9.heap.size w9 V) => HDI5.out.below (H59.out.trans (hb.mono H59.out.size)))
        have HVD := Lib.hid (fun V (hb : Below w9.heap.size w9 V) => HDV.out V (H59.out.trans (hb.mono H59.out.size)))
        have HVE := Lib.hid (fun V (hb : Below w9.heap.size w9 V) => HMO.out.lift (H69.out.trans (hb.mono H69.out.size)))
        have HVS := Lib.hid (fun V (hb : Below w9.heap.size w9 V) => HSA.out.below (HX5.out.trans ((H59.out.trans (hb.mono H59.out.size)).mono HX5.out.size)))
        have C14 := Lib.hid (fun V (hb : Below w9.heap.size w9 V) => (sameDump_true d _ _ V (HVI.out V hb) (HVD.out V hb)).mono (R' := fun e w' => e = .returned (.bool true) ∧ Below w9.heap.size w9 w') fun e w' h => ⟨h.1, hb.trans (h.2.mono hb.size)⟩)
        have C15 := Lib.hid (fun V (hb : Below w9.heap.size w9 V) => (stands_any d ed S _ _ _ V (HVD.out V hb) (HVE.out V hb).dm (HVS.out V hb) HF.out (by rw [HMO.out.frags]; simp) HMO.out.alike (fun V' hV => by
          have hmo := (HVE.out V hb).lift hV
          refine (why12_any true ed S _ _ V' hmo.dm ((HVS.out V hb).below hV) (by rw [hmo.frags]; simp) hmo.wN hmo.mb (by have := hmo.rl; omega) (fun V2 hV2 => (old0_any ed _ V2 (hmo.dm.below hV2) (by rw [hmo.old])).mono fun e w' q => ⟨true, (fun _ => rfl), q.1, q.2⟩)).mono ?_
          rintro e w' ⟨t, rfl, hb, -, h2⟩
          exact ⟨by rw [h2 rfl hmo.regs hmo.roots hmo.h12], hb⟩)).mono (R' := fun e w' => e = .returned (.bool true) ∧ Below w9.heap.size w9 w') fun e w' h => ⟨h.1, hb.trans (h.2.mono hb.size)⟩)
        have C13 := Lib.hid (fun V (hb : Below w9.heap.size w9 V) => (reached12_any ed _ V (HVE.out V hb).dm (by rw [HMO.out.frags]; simp) HMO.out.wN HMO.out.mb (by have := HMO.out.rl; omega)).mono (R' := fun e w' => ReE w9 w' ed.handles hl e) fun e w' h => re_of hb h HMO.out.hn HMO.out.hle (by omega) (HVE.out V hb).dm.isH'.2.1)
        have C16 := Lib.hid (fun V hv (hb : Below w9.heap.size w9 V) (hi : Is V hv ed.handles) => (sameI_true ed.handles _ _ V (HVE.out V hb).dm.isH' hi).mono (R' := fun e w' => e = .returned (.bool true) ∧ Below w9.heap.size w9 w') fun e w' h => ⟨h.1, hb.trans (h.2.mono hb.size)⟩)
        have C17 := Lib.hid (fun V (hb : Below w9.heap.size w9 V) => (apart13_any ed _ V (HVE.out V hb).dm HMO.out.frags HMO.out.old HMO.out.wN HMO.out.mb (by have := HMO.out.rl; omega) (by rw [HMO.out.ya]; have := HA.out.2; omega) (fun x => objW ed.mem (spotOf x)) HMO.out.many HMO.out.nod HMO.out.tot (by rw [HMO.out.wrd, HMO.out.yl]; exact Nat.le_refl _)).mono (R' := fun e w' => e = .returned (.bool true) ∧ Below w9.heap.size w9 w') fun e w' h => ⟨h.1, hb.trans (h.2.mono hb.size)⟩)
        have K := Lib.hid (fun (V : World) (hb : Below w9.heap.size w9 V) => keep30 X9.out XI9.out XE9.out XM.out hb)
        obtain ⟨k0, k1, k2, k3, k4, k5, k6, k7, k8, k9, k10, k11, k12, k13, k14, k15, k16, k17, k18, k19, k20, k21, k22, k23, k24, k25, k26, k27, k28, k29, -⟩ := K.out w9 (Below.refl _ _)
        have HFD := field39_2
        simp only [List.append]
        go_region_held3 (fun w' => w'.cell? ⟨w.heap.size, 0, none⟩ = some (.int .i64 d.young.1) ∧ w'.cell? ⟨w.heap.size, 1, none⟩ = some (.slice wa1 d.young.2.length wc1) ∧ w'.cell? ⟨w.heap.size, 2, none⟩ = some (.int .i64 d.old.1) ∧ w'.cell? ⟨w.heap.size, 3, none⟩ = some (.slice wa2 d.old.2.length wc2) ∧ w'.cell? ⟨w.heap.size, 4, none⟩ = some (.int .i64 d.size) ∧ w'.cell? ⟨w.heap.size, 5, none⟩ = some (.int .i64 d.mark) ∧ w'.cell? ⟨w.heap.size, 6, none⟩ = some (.slice fa d.frags.length fc) ∧ w'.cell? ⟨w.heap.size, 7, none⟩ = some (.slice ra d.roots.length rc) ∧ w'.cell? ⟨w.heap.size, 8, none⟩ = some (.slice ha' d.handles.length hc) ∧ w'.cell? ⟨w4.heap.size, 0, none⟩ = some (.int .i64 d.young.1) ∧ w'.cell? ⟨w4.heap.size, 1, none⟩ = some (.slice ia1 d.young.2.length ic1) ∧ w'.cell? ⟨w4.heap.size, 2, none⟩ = some (.int .i64 d.old.1) ∧ w'.cell? ⟨w4.heap.size, 3, none⟩ = some (.slice ia2 d.old.2.length ic2) ∧ w'.cell? ⟨w4.heap.size, 4, none⟩ = some (.int .i64 d.size) ∧ w'.cell? ⟨w4.heap.size, 5, none⟩ = some (.int .i64 d.mark) ∧ w'.cell? ⟨w4.heap.size, 6, none⟩ = some (.slice ifa d.frags.length ifc) ∧ w'.cell? ⟨w4.heap.size, 7, none⟩ = some (.slice ira d.roots.length irc) ∧ w'.cell? ⟨w4.heap.size, 8, none⟩ = some (.slice iha d.handles.length ihc) ∧ w'.cell? ⟨w6.heap.size, 0, none⟩ = some (.int .i64 (a : Int)) ∧ w'.cell? ⟨w6.heap.size, 1, none⟩ = some (.slice ya n yc) ∧ w'.cell? ⟨w6.heap.size, 2, none⟩ = some (.int .i64 0) ∧ w'.cell? ⟨w6.heap.size, 3, none⟩ = some (.slice none 0 0) ∧ w'.cell? ⟨w6.heap.size, 4, none⟩ = some (.int .i64 n) ∧ w'.cell? ⟨w6.heap.size, 5, none⟩ = some (.int .i64 n) ∧ w'.cell? ⟨w6.heap.size, 6, none⟩ = some (.slice none 0 0) ∧ w'.cell? ⟨w6.heap.size, 7, none⟩ = some (.slice ea rl ec) ∧ w'.cell? ⟨w6.heap.size, 8, none⟩ = some (.slice ga hl gc) ∧ w'.cell? ⟨w8.heap.size, 0, none⟩ = some (.slice aa al ac) ∧ w'.cell? ⟨w8.heap.size, 1, none⟩ = some (.int .i64 n) ∧ w'.cell? ⟨w8.heap.size, 2, none⟩ = some (.slice ma hl mc) ∧ Below w9.heap.size w9 w')
          (first | with_reducible exact K.out _ (Below.refl _ _).drew | with_reducible exact K.out _ (by assumption) | go_keep)
          (first
            | (go_at_call 14
               go_split_ands
               with_reducible refine (C14.out _ (by assumption)).mono ?_
               rintro e w7x ⟨rfl, hb7⟩)
            | (go_at_call 15
               go_split_ands
               with_reducible refine (C15.out _ (by assumption)).mono ?_
               rintro e w7x ⟨rfl, hb7⟩)
            | (go_at_call 13
               go_split_ands
               with_reducible refine (C13.out _ (by assumption)).mono ?_
               rintro e w7x ⟨av2, n2, mb2, mc2, rfl, HI2, hb7⟩)
            | (go_at_call 16
               go_split_ands
               with_reducible refine (C16.out _ _ (by assumption) HI2.out).mono ?_
               rintro e w7x ⟨rfl, hb7⟩)
            | (go_at_call 17
               go_split_ands
               with_reducible refine (C17.out _ (by assumption)).mono ?_
               rintro e w7x ⟨rfl, hb7⟩))
        go_split_ands
        have HBL := Lib.hid ‹Below w9.heap.size w9 _›
        clear k0 k1 k2 k3 k4 k5 k6 k7 k8 k9 k10 k11 k12 k13 k14 k15 k16 k17 k18 k19 k20 k21 k22 k23 k24 k25 k26 k27 k28 k29 C13 C14 C15 C16 C17 HVI HVD HVE HVS HFD
        have H514 := Lib.hid (H59.out.trans (HBL.out.mono H59.out.size))
        have H614 := Lib.hid (H69.out.trans (HBL.out.mono H69.out.size))
        have XI14 := Lib.hid ((HBL.out.block _ (lt_of_block XI9.out)).trans XI9.out)
        have X14 := Lib.hid ((HBL.out.block _ (lt_of_block X9.out)).trans X9.out)
        have XE14 := Lib.hid ((HBL.out.block _ (lt_of_block XE9.out)).trans XE9.out)
        have K614 := Lib.hid (Kept.below H614.out)
        have y0 := cell_of XE14.out 0
        have y1 := cell_of XE14.out 1
        have y2 := cell_of XE14.out 2
        have y3 := cell_of XE14.out 3
        have y4 := cell_of XE14.out 4
        have y5 := cell_of XE14.out 5
        have y6 := cell_of XE14.out 6
        have y7 := cell_of XE14.out 7
        have y8 := cell_of XE14.out 8
        simp at y0 y1 y2 y3 y4 y5 y6 y7 y8
        go_wp2_with fail
        refine (overDump_any _ _ _ _ _ _ n rl hl w5.heap.size w7x (O1.out.kept K614.out) (O2.out.kept K614.out) (O3.out.kept K614.out) (by omega) (by omega) (by omega) H514.out.size).mono ?_
        clear y0 y1 y2 y3 y4 y5 y6 y7 y8
        rintro e w15 ⟨rfl, hb⟩
        have H515 := Lib.hid (H514.out.trans hb)
        have XI15 := Lib.hid ((hb.block _ HI5.out).trans XI14.out)
        have X15 := Lib.hid ((hb.block _ HXL.out).trans X14.out)
        clear hb XI14 X14 XE14
        have x0 := cell_of X15.out 0
        have x1 := cell_of X15.out 1
        have x2 := cell_of X15.out 2
        have x3 := cell_of X15.out 3
        have x4 := cell_of X15.out 4
        have x5 := cell_of X15.out 5
        have x6 := cell_of X15.out 6
        have x7 := cell_of X15.out 7
        have x8 := cell_of X15.out 8
        simp at x0 x1 x2 x3 x4 x5 x6 x7 x8
        have y0 := cell_of XI15.out 0
        have y1 := cell_of XI15.out 1
        have y2 := cell_of XI15.out 2
        have y3 := cell_of XI15.out 3
        have y4 := cell_of XI15.out 4
        have y5 := cell_of XI15.out 5
        have y6 := cell_of XI15.out 6
        have y7 := cell_of XI15.out 7
        have y8 := cell_of XI15.out 8
        simp at y0 y1 y2 y3 y4 y5 y6 y7 y8
        go_wp2_with fail
        refine (sameDump_true d _ _ w15 (HDI5.out.below H515.out) (HDV.out w15 H515.out)).mono ?_
        clear x0 x1 x2 x3 x4 x5 x6 x7 x8 y0 y1 y2 y3 y4 y5 y6 y7 y8
        rintro e w16 ⟨rfl, hb⟩
        have H516 := Lib.hid (H515.out.trans (hb.mono H515.out.size))
        clear hb
        go_wp2_with fail
        refine (awake_any w16).mono ?_
        rintro e w17 ⟨rfl, hb⟩
        have HXZ := Lib.hid (HX5.out.trans ((H516.out.trans (hb.mono H516.out.size)).mono HX5.out.size))
        clear hb
        go_wp2_with fail
        go_ret
        exact ⟨rfl, HXZ.out⟩
      · have hs := str_ne ht
        go_wp2_with fail
        refine (awake_any w3).mono ?_
        rintro e wz ⟨rfl, hbz⟩
        have HBZ := Lib.hid (HX3.out.trans (hbz.mono HX3.out.size))
        clear hbz
        go_wp2_with fail
        go_ret
        exact ⟨rfl, HBZ.out⟩

end Go.Proofs.YtlmpmjhanpkcnaaGreat
