/-
  Collect: move.
-/
import Derived.Test.YtlmpmjhanpkcnaaGreatN24
set_option linter.unusedVariables false
set_option linter.unusedSimpArgs false
namespace Go.Proofs.YtlmpmjhanpkcnaaGreat
open Go.RowKit Go.Maps

def MoveEnd (W0 : World) (Y : Nat) (mv : Value) (F : Nat) (caps : Array Value) (K : List (Nat × Obj)) (a : Nat) (r : Nat × Mv) (e : Ending) (w' : World) : Prop :=
  e = .returned (.int .u64 (r.1 : Nat)) ∧ MvSt W0 Y mv F caps K a r.2 w'

theorem end_any (Y a n : Nat) (v : Value) (w : World) (h : w.heap[Y]? = some (.cells #[.int .i64 a, v] 59 (0, 0))) (hv : ∃ b c, v = .slice b n c) (ha : a ≤ 1125899906842624) (hn : n ≤ 1000000) :
    Calls Tryz.prog 49 #[.pointer (some ⟨Y, 0, none⟩)] w fun e w' => e = .returned (.int .i64 ((a + n : Nat) : Int)) ∧ ∃ q, w' = w.drewN q := by
  obtain ⟨b, c, rfl⟩ := hv
  have y0 := cell_of h 0
  have y1 := cell_of h 1
  simp at y0 y1
  have q1 : IntKind.i64.wrap ((a : Int) + (n : Int)) = ((a + n : Nat) : Int) := by rw [IntWalk.i64_in _ (by omega)]; omega
  clear h
  generalize a + n = z at *
  go_enter Tryz.func49, Tryz.ntmps49
  go_wp2_with fail
  go_quiet (fail)
  go_wp2_with fail
  go_ret
  exact ⟨rfl, _, rfl⟩

/-- 'm[k] = v' at the operation. -/
theorem wpList_put_map {w : World} {b : Nat} {L : List (Spt × Nat)} {ops : Array Oper} {rest : List Oper} {o : Oper} {a : Act} {Q : Exit → Act → World → Prop} (hg : o.guard = none) (mo xo vo : Operand) (hop : o.op = Op.mapUpdate 61 mo xo vo)
    (hm : a.eval mo = .map (some b)) (h : MapAt w b L) (hL : L.length ≤ 1000000) (s : Spt) (hs : SptOk s) (hx : a.eval xo = spotV s) (y : Nat) (hy : y < 18446744073709551616) (hv : a.eval vo = .int .u64 y) (hnew : wentAt L s = none)
    (hK : ∀ w', MapAt w' b (L ++ [(s, y)]) → w.grownBy w' (some b) → wpList Tryz.prog ops Q rest (a.put o.dst undef) w') : wpList Tryz.prog ops Q (o :: rest) a w := by
  refine wpList_plain hg fun K' hK' => ?_
  obtain ⟨w', hrun, h1, h2⟩ := h.put hL hs hy hnew
  unfold Oper.wp
  simp [execOp, hop, hm, hx, hv, hrun, Result.andThen]
  exact hK' _ _ (hK w' h1 h2)

theorem reads_pair (wr : World) (x y : Value) (t : TypeId) : Reads ((wr.alloc (.cells #[x, y] t)).drew) (wr.heap.size + 1) 2 (some ⟨wr.heap.size, 0, none⟩) 1 [x, y] :=
  ⟨rfl, fun _ => ⟨_, rfl, Nat.lt_succ_self _, news_many wr [x, y] t⟩⟩

theorem one_i64 (x y : Int) : ∀ u ∈ [Value.int .i64 x, Value.int .i64 y], u.oneCell' = true := by
  intro u hu
  simp at hu
  rcases hu with rfl | rfl <;> rfl

theorem grown_over {W0 wg w7 : World} {Y : Nat} {row : Option Nat} (h1 : W0.grownBy wg (some Y)) (h2 : wg.grownBy w7 row) (hM : ∀ g, row = some g → W0.heap.size ≤ g) : W0.grownBy w7 (some Y) :=
  ⟨h2.os.trans h1.os, h2.tape.trans h1.tape, h2.output.trans h1.output, Nat.le_trans h1.size h2.size, fun i hi hne => (h2.block i (Nat.lt_of_lt_of_le hi h1.size) (fun e => by have := hM i e.symm; omega)).trans (h1.block i hi hne)⟩

/-- A mover's memory, its map, its queue and its words apart. -/
structure MvMid (W0 : World) (Y : Nat) (mv : Value) (F : Nat) (caps : Array Value) (K : List (Nat × Obj)) (a : Nat) (M : List (Spt × Nat)) (Q : List Spt) (L : List Nat) (v q : Value) (w : World) : Prop where
  base : W0.grownBy w (some Y)
  sz : W0.heap.size + 2 ≤ w.heap.size
  r1 : w.heap[Y]? = some (.cells #[.int .i64 a, v] 59 (0, 0))
  r2 : w.ownsRow (W0.heap.size + 2) 47 1 v L.length (csW L)
  r3 : w.heap[W0.heap.size + 1]? = some (.cells #[mv, .map (some W0.heap.size), .func (.func F) #[] caps, q] 67 (0, 0))
  r4 : w.ownsRow (W0.heap.size + 2) 63 2 q Q.length (csS Q)
  r5 : ∀ b, v.ownBlock = some b → q.ownBlock ≠ some b
  r6 : ∀ p ∈ K, w.heap[p.1]? = some p.2 ∧ W0.heap.size + 2 ≤ p.1 ∧ v.ownBlock ≠ some p.1 ∧ q.ownBlock ≠ some p.1
  map : MapAt w W0.heap.size M

theorem MvSt.mid {W0 w : World} {Y F a : Nat} {mv : Value} {caps : Array Value} {K : List (Nat × Obj)} {st : Mv} (h : MvSt W0 Y mv F caps K a st w) : ∃ v q, MvMid W0 Y mv F caps K a st.went (st.went.map (·.1)) st.words v q w := by
  obtain ⟨h1, h2, ⟨v, q, r1, r2, r3, r4, r5, r6⟩, h4⟩ := h
  exact ⟨v, q, h1, h2, r1, r2, r3, by rw [List.length_map]; exact r4, r5, r6, h4⟩

theorem MvMid.st {W0 w : World} {Y F a : Nat} {mv : Value} {caps : Array Value} {K : List (Nat × Obj)} {st : Mv} {Q : List Spt} {v q : Value} (h : MvMid W0 Y mv F caps K a st.went Q st.words v q w) (hQ : st.went.map (·.1) = Q) : MvSt W0 Y mv F caps K a st w := by
  subst hQ
  exact ⟨h.base, h.sz, ⟨v, q, h.r1, h.r2, h.r3, by have := h.r4; rw [List.length_map] at this; exact this, h.r5, h.r6⟩, h.map⟩

theorem MvMid.lift {W0 w w' : World} {Y F a : Nat} {mv : Value} {caps : Array Value} {K : List (Nat × Obj)} {M : List (Spt × Nat)} {Q : List Spt} {L : List Nat} {v q : Value} (hY : Y < W0.heap.size) (h : MvMid W0 Y mv F caps K a M Q L v q w) (hb : Below w.heap.size w w') : MvMid W0 Y mv F caps K a M Q L v q w' := by
  obtain ⟨h1, h2, r1, r2, r3, r4, r5, r6, h4⟩ := h
  exact ⟨grown_then h1 (hb.mono (by omega)), Nat.le_trans h2 hb.size, (hb.block _ (lt_of_block r1)).trans r1, own_lift r2 hb, (hb.block _ (lt_of_block r3)).trans r3, own_lift r4 hb, r5, (fun p hp => ⟨(hb.block _ (lt_of_block (r6 p hp).1)).trans (r6 p hp).1, (r6 p hp).2⟩), h4.block (hb.block _ h4.lt)⟩

/-- Behind the queue's append and its store. -/
theorem MvMid.queued {W0 w w9 : World} {Y F a : Nat} {mv : Value} {caps : Array Value} {K : List (Nat × Obj)} {M : List (Spt × Nat)} {Q Q' : List Spt} {L : List Nat} {v q q' : Value} {o : Obj} (hY : Y < W0.heap.size) (h : MvMid W0 Y mv F caps K a M Q L v q w)
    (hg : ((w.alloc o).drew).grownBy w9 q.ownBlock) (hown : w9.ownsRow (W0.heap.size + 2) 63 2 q' Q'.length (csS Q')) (hq : q'.ownBlock = q.ownBlock ∨ q'.ownBlock = some ((w.alloc o).drew).heap.size) :
    w9.heap[W0.heap.size + 1]? = some (.cells #[mv, .map (some W0.heap.size), .func (.func F) #[] caps, q] 67 (0, 0)) ∧ MvMid W0 Y mv F caps K a M Q' L v q' (w9.setCell ⟨W0.heap.size + 1, 3, none⟩ q') := by
  obtain ⟨h1, h2, r1, r2, r3, r4, r5, r6, h4⟩ := h
  have hb : Below (W0.heap.size + 2) w w9 := push_drew r4 h2 hg
  have e3 := (hb.block (W0.heap.size + 1) (by omega)).trans r3
  have hsz : w.heap.size + 1 ≤ w9.heap.size := by have := hg.size; simp at this; omega
  have hqb : ∀ b, q.ownBlock = some b → W0.heap.size + 2 ≤ b ∧ b < w.heap.size := fun b e => r4.lt b e
  have hvb : ∀ b, v.ownBlock = some b → W0.heap.size + 2 ≤ b ∧ b < w.heap.size := fun b e => r2.lt b e
  have r2' : w9.ownsRow (W0.heap.size + 2) 47 1 v L.length (csW L) := by
    refine ((World.ownsRow.alloc r2 o).drew).kept hg ?_
    by_cases e : v.ownBlock = none
    · exact .inl e
    · obtain ⟨b, hb⟩ := Option.ne_none_iff_exists'.1 e
      exact .inr (by rw [hb]; exact fun e => r5 b hb e.symm)
  refine ⟨e3, ⟨?_, by simp [World.setCell]; omega, ?_, own_set r2' (by omega) _, set_of e3 3 _, own_set hown (by omega) _, ?_, ?_, ?_⟩⟩
  · exact ⟨hb.os.trans h1.os, hb.tape.trans h1.tape, hb.output.trans h1.output, by simp [World.setCell]; omega, fun i hi hne => ((Below.heap_setCell w9 ⟨W0.heap.size + 1, 3, none⟩ q' i (by simp; omega)).trans (hb.block i (by omega))).trans (h1.block i hi hne)⟩
  · exact (Below.heap_setCell w9 ⟨W0.heap.size + 1, 3, none⟩ q' Y (by simp; omega)).trans ((hb.block Y (by omega)).trans r1)
  · intro b e
    rcases hq with hq | hq
    · rw [hq]; exact r5 b e
    · rw [hq]; intro e2; simp at e2; have := (hvb b e).2; omega
  · intro p hp
    obtain ⟨k1, k2, k3, k4⟩ := r6 p hp
    have kl := lt_of_block k1
    refine ⟨(Below.heap_setCell w9 ⟨W0.heap.size + 1, 3, none⟩ q' p.1 (by simp; omega)).trans ((hg.block p.1 (by simp; omega) (fun e => k4 e.symm)).trans ((((Below.refl w.heap.size w).alloc (Nat.le_refl _) o).drew.block p.1 kl).trans k1)), k2, k3, ?_⟩
    rcases hq with hq | hq
    · rw [hq]; exact k4
    · rw [hq]; intro e2; simp at e2; omega
  · exact h4.block ((Below.heap_setCell w9 ⟨W0.heap.size + 1, 3, none⟩ q' W0.heap.size (by simp)).trans (hb.block W0.heap.size (by omega)))

/-- Behind the words' append and its store. -/
theorem MvMid.worded {W0 w w9 : World} {Y F a : Nat} {mv : Value} {caps : Array Value} {K : List (Nat × Obj)} {M : List (Spt × Nat)} {Q : List Spt} {L L' : List Nat} {v q v' : Value} (hY : Y < W0.heap.size) (h : MvMid W0 Y mv F caps K a M Q L v q w)
    (hg : w.drew.grownBy w9 v.ownBlock) (hown : w9.ownsRow (W0.heap.size + 2) 47 1 v' L'.length (csW L')) (hq : v'.ownBlock = v.ownBlock ∨ v'.ownBlock = some w.drew.heap.size) :
    w9.heap[Y]? = some (.cells #[.int .i64 a, v] 59 (0, 0)) ∧ MvMid W0 Y mv F caps K a M Q L' v' q (w9.setCell ⟨Y, 1, none⟩ v') := by
  obtain ⟨h1, h2, r1, r2, r3, r4, r5, r6, h4⟩ := h
  have hvb : ∀ b, v.ownBlock = some b → W0.heap.size + 2 ≤ b ∧ b < w.heap.size := fun b e => r2.lt b e
  have hqb : ∀ b, q.ownBlock = some b → W0.heap.size + 2 ≤ b ∧ b < w.heap.size := fun b e => r4.lt b e
  have hb : Below (W0.heap.size + 2) w w9 := ((Below.refl (W0.heap.size + 2) w).drew).grown hg h2 (fun k hk => (hvb k hk).1)
  have e1 := (hb.block Y (by omega)).trans r1
  have hsz : w.heap.size ≤ w9.heap.size := hg.size
  have r4' : w9.ownsRow (W0.heap.size + 2) 63 2 q Q.length (csS Q) := by
    refine (r4.drew).kept hg ?_
    by_cases e : q.ownBlock = none
    · exact .inl e
    · obtain ⟨b, hb⟩ := Option.ne_none_iff_exists'.1 e
      refine .inr (fun e2 => ?_)
      exact r5 b (by first | rw [e2, hb] | rw [← e2, hb]) hb
  refine ⟨e1, ⟨?_, by simp [World.setCell]; omega, set_of e1 1 _, own_set hown (by omega) _, ?_, own_set r4' (by omega) _, ?_, ?_, ?_⟩⟩
  · exact ⟨hb.os.trans h1.os, hb.tape.trans h1.tape, hb.output.trans h1.output, by simp [World.setCell]; omega, fun i hi hne => ((Below.heap_setCell w9 ⟨Y, 1, none⟩ v' i (by simp at hne; simpa using hne)).trans (hb.block i (by omega))).trans (h1.block i hi hne)⟩
  · exact (Below.heap_setCell w9 ⟨Y, 1, none⟩ v' (W0.heap.size + 1) (by simp; omega)).trans ((hb.block _ (by omega)).trans r3)
  · intro b e
    rcases hq with hq | hq
    · exact r5 b (by rw [← hq]; exact e)
    · rw [hq] at e; cases e; intro e2; have := (hqb _ e2).2; simp at this
  · intro p hp
    obtain ⟨k1, k2, k3, k4⟩ := r6 p hp
    have kl := lt_of_block k1
    refine ⟨(Below.heap_setCell w9 ⟨Y, 1, none⟩ v' p.1 (by simp; omega)).trans ((hg.block p.1 kl (fun e => k3 e.symm)).trans k1), k2, ?_, k4⟩
    rcases hq with hq | hq
    · rw [hq]; exact k3
    · rw [hq]; intro e2; simp at e2; omega
  · exact h4.block ((Below.heap_setCell w9 ⟨Y, 1, none⟩ v' W0.heap.size (by simp; omega)).trans (hb.block W0.heap.size (by omega)))

/-- Behind the map's update. -/
theorem MvMid.mapped {W0 w w7 : World} {Y F a : Nat} {mv : Value} {caps : Array Value} {K : List (Nat × Obj)} {M M' : List (Spt × Nat)} {Q : List Spt} {L : List Nat} {v q : Value} (h : MvMid W0 Y mv F caps K a M Q L v q w) (hY : Y < W0.heap.size)
    (hg : w.grownBy w7 (some W0.heap.size)) (hm : MapAt w7 W0.heap.size M') : MvMid W0 Y mv F caps K a M' Q L v q w7 := by
  obtain ⟨h1, h2, r1, r2, r3, r4, r5, r6, h4⟩ := h
  refine ⟨grown_over h1 hg (fun g e => by cases e; exact Nat.le_refl _), Nat.le_trans h2 hg.size, (hg.block Y (by omega) (by simp; omega)).trans r1, r2.kept hg ?_, (hg.block _ (by omega) (by simp)).trans r3, r4.kept hg ?_, r5, (fun p hp => ⟨(hg.block p.1 (lt_of_block (r6 p hp).1) (fun e => by have := (r6 p hp).2.1; simp at e; omega)).trans (r6 p hp).1, (r6 p hp).2⟩), hm⟩
  · by_cases hv : v.ownBlock = none
    · exact .inl hv
    · exact .inr (fun e => by have := (r2.lt _ e).1; omega)
  · by_cases hv : q.ownBlock = none
    · exact .inl hv
    · exact .inr (fun e => by have := (r4.lt _ e).1; omega)

/-- An object in a variable. -/
def ObjCut (Wm wr wx : World) (l : List Nat) (p : Value) : Prop := ∃ nb k v, p = .pointer (some ⟨nb, 0, none⟩) ∧ wx.heap[nb]? = some (.cells #[.int .i64 k, v] 107 (0, 0)) ∧ Ws Wm v l ∧ wr.heap.size ≤ nb ∧ Below wr.heap.size wr wx

set_option maxHeartbeats 16000000 in
set_option maxRecDepth 100000 in
theorem move_any (Wm W0 : World) (Y : Nat) (m : List Frg) (mv : Value) (F : Nat) (caps : Array Value) (K : List (Nat × Obj)) (a : Nat) (st : Mv) (x : Nat) (w : World) (E : MvEnv Wm W0 Y m mv F caps) (h : MvSt W0 Y mv F caps K a st w)
    (hx : x < 18446744073709551616) (hgood : ∀ s, toP x = some s → (objP m s.1 s.2).isSome = true) (ha : a ≤ 1125899906842624) (hq : st.went.length ≤ 10000) (hl : st.words.length ≤ 100000) :
    Calls Tryz.prog 62 #[.pointer (some ⟨W0.heap.size + 1, 0, none⟩), .int .u64 x] w fun e w' => MoveEnd W0 Y mv F caps K a (moveP m a st x) e w' := by
  have HE := Lib.hid E
  obtain ⟨yv, qv, hmid⟩ := h.mid
  have HOWN := Lib.hid (show (∀ b, yv.ownBlock = some b → b < w.heap.size) ∧ (∀ b, qv.ownBlock = some b → b < w.heap.size) from ⟨fun b e => (hmid.r2.lt b e).2, fun b e => (hmid.r4.lt b e).2⟩)
  obtain ⟨Q, hQ⟩ : ∃ Q, st.went.map (·.1) = Q := ⟨_, rfl⟩
  rw [hQ] at hmid
  have HQ := Lib.hid hQ
  have HQL := Lib.hid (show Q.length ≤ 10000 by rw [← hQ, List.length_map]; exact hq)
  clear hQ
  have HS := Lib.hid hmid
  have HGD := Lib.hid hgood
  have hYh := E.yh
  clear E h hgood hmid
  obtain ⟨r, hr⟩ : ∃ r, moveP m a st x = r := ⟨_, rfl⟩
  have HR := Lib.hid hr
  rw [hr]
  clear hr
  go_enter Tryz.func62, Tryz.ntmps62
  go_wp2_with fail
  refine (to_any x hx w).mono ?_
  rintro e w1 ⟨he, hb1⟩
  have H1 := Lib.hid (HS.out.lift hYh hb1)
  unfold ToEnd at he
  have HSZ := Lib.hid hb1.size
  clear hb1
  cases ht : toP x with
  | none =>
    rw [ht] at he
    subst he
    have HN := Lib.hid (show r = (x, st) by rw [← HR.out]; exact moveP_none ht)
    clear ht
    go_wp2_with fail
    exact bodyPost_ret (v := .int .u64 x) (by simp [results, Tryz.results62, go_sem]) rfl ⟨by rw [HN.out], by rw [HN.out]; exact MvMid.st (H1.out.lift hYh ((Below.refl _ _).alloc (Nat.le_refl _) _)) HQ.out⟩
  | some s =>
    rw [ht] at he
    subst he
    have HT := Lib.hid ht
    have HOK := Lib.hid (sptOk_of hx ht)
    obtain ⟨sa, stt⟩ := s
    obtain ⟨tn, rfl, htn⟩ : ∃ tn : Nat, stt = (tn : Int) ∧ (tn = 4 ∨ tn = 5) := by
      rcases toP_tag ht with q | q
      · exact ⟨4, q, .inl rfl⟩
      · exact ⟨5, q, .inr rfl⟩
    have X2 := World.alloc_heap_new w1 (.cells #[.int .i64 sa, .int .i64 (tn : Int)] 63)
    have B2 := Below.alloc (Below.refl w1.heap.size w1) (Nat.le_refl _) (.cells #[.int .i64 sa, .int .i64 (tn : Int)] 63)
    clear ht
    go_upto_region 4 with fail
    generalize w1.alloc (.cells #[.int .i64 sa, .int .i64 (tn : Int)] 63) = W at *
    have H2 := Lib.hid (H1.out.lift hYh B2)
    have HX2 := Lib.hid X2
    have HW1 := Lib.hid (show W0.heap.size + 2 ≤ w1.heap.size ∧ w1.heap.size < W.heap.size from ⟨H1.out.sz, lt_of_block X2⟩)
    clear B2 X2
    obtain ⟨_, _, r1, r2, r3, r4, r5, _, _⟩ := id H2.out
    have R1 := Lib.hid r1
    have R2 := Lib.hid r2
    have R3 := Lib.hid r3
    have R4 := Lib.hid r4
    have R5 := Lib.hid r5
    have v0 := cell_of r3 0
    have v1 := cell_of r3 1
    have v2 := cell_of r3 2
    have v3 := cell_of r3 3
    have s0 := cell_of HX2.out 0
    have s1 := cell_of HX2.out 1
    simp at v0 v1 v2 v3 s0 s1
    clear r1 r2 r3 r4 r5
    have hlook := H2.out.map.look (s := (sa, (tn : Int))) HOK.out
    have hlookD := (H2.out.map.block (w' := W.drew) rfl).look (s := (sa, (tn : Int))) HOK.out
    cases hw : wentAt st.went (sa, (tn : Int)) with
    | some y =>
      have HN := Lib.hid (show r = (y, st) by rw [← HR.out]; exact moveP_old HT.out hw)
      rw [hw] at hlook hlookD
      simp only [Option.getD_some, Option.isSome_some] at hlook hlookD
      clear hw
      go_region_held3 (fun w' => w'.cell? ⟨W0.heap.size + 1, 1, none⟩ = some (.map (some W0.heap.size)) ∧ w'.cell? ⟨w1.heap.size, 0, none⟩ = some (.int .i64 sa) ∧ w'.cell? ⟨w1.heap.size, 1, none⟩ = some (.int .i64 (tn : Int)) ∧ (Instr.lookup 61 (.map (some W0.heap.size)) (spotV (sa, (tn : Int))) true).run Tryz.prog w' = .ok (.tuple #[.int .u64 (y : Nat), .bool true]) w') (first | exact ⟨v1, s0, s1, hlook⟩ | exact ⟨v1, s0, s1, hlookD⟩ | go_keep) (fail)
      all_goals go_wp2_with fail
      all_goals exact bodyPost_ret (v := .int .u64 y) (by simp [results, Tryz.results62, go_sem]) rfl ⟨by rw [HN.out], by rw [HN.out]; exact MvMid.st (H2.out.lift hYh (Below.refl _ _).drew) HQ.out⟩
    | none =>
      rw [hw] at hlook hlookD
      simp only [Option.getD_none, Option.isSome_none] at hlook hlookD
      have HW := Lib.hid hw
      clear hw
      go_cut [7, 8] from 22 to 30 (fun y ok wx => y = .int .u64 0 ∧ ok = .bool false ∧ W.drew = wx)
      case first =>
        go_region_held3 (fun w' => w'.cell? ⟨W0.heap.size + 1, 1, none⟩ = some (.map (some W0.heap.size)) ∧ w'.cell? ⟨w1.heap.size, 0, none⟩ = some (.int .i64 sa) ∧ w'.cell? ⟨w1.heap.size, 1, none⟩ = some (.int .i64 (tn : Int)) ∧ (Instr.lookup 61 (.map (some W0.heap.size)) (spotV (sa, (tn : Int))) true).run Tryz.prog w' = .ok (.tuple #[.int .u64 ((0 : Nat) : Int), .bool false]) w') (first | exact ⟨v1, s0, s1, hlook⟩ | exact ⟨v1, s0, s1, hlookD⟩ | go_keep) (fail)
        all_goals go_wp2_with fail
        all_goals go_meet
        all_goals exact ⟨rfl, rfl, rfl⟩
      case rest =>
        obtain ⟨rfl, rfl, rfl⟩ := hcut
        clear hlook hlookD v0 v1 v2 v3 s0 s1
        have HDM := Lib.hid (H2.out.lift hYh ((Below.refl W.heap.size W).drew))
        have HDX := Lib.hid (show W.drew.heap[w1.heap.size]? = some (.cells #[.int .i64 sa, .int .i64 (tn : Int)] 63 (0, 0)) from HX2.out)
        have HDW := Lib.hid (show W0.heap.size + 2 ≤ w1.heap.size ∧ w1.heap.size < W.drew.heap.size from HW1.out)
        clear H2 HX2 HW1 R1 R2 R3 R4
        generalize W.drew = wd at *
        obtain ⟨k, l, ho⟩ : ∃ k l, objP m sa (tn : Int) = some (k, l) := by
          have := HGD.out _ HT.out
          simp only at this
          obtain ⟨o, ho⟩ := Option.isSome_iff_exists.1 this
          exact ⟨o.1, o.2, ho⟩
        have HO := Lib.hid ho
        clear ho
        obtain ⟨_, _, r1, r2, r3, r4, r5, _, _⟩ := id HDM.out
        have R1 := Lib.hid r1
        have R2 := Lib.hid r2
        have R3 := Lib.hid r3
        have R4 := Lib.hid r4
        have R5 := Lib.hid r5
        clear r1 r2 r3 r4 r5
        have HM1 := Lib.hid (HE.out.goes (sa, (tn : Int)) wd.drew HOK.out (grown_then HDM.out.base (Below.drew (Below.refl _ _))))
        have HCF := HE.out.enter
        have v2 : wd.drew.cell? ⟨W0.heap.size + 1, 2, none⟩ = some (.func (.func F) #[] caps) := cell_of (show wd.drew.heap[W0.heap.size + 1]? = _ from R3.out) 2
        have s0 : wd.drew.cell? ⟨w1.heap.size, 0, none⟩ = some (.int .i64 sa) := cell_of (show wd.drew.heap[w1.heap.size]? = _ from HDX.out) 0
        have s1 : wd.drew.cell? ⟨w1.heap.size, 1, none⟩ = some (.int .i64 (tn : Int)) := cell_of (show wd.drew.heap[w1.heap.size]? = _ from HDX.out) 1
        go_upto_region 7 with fail
        refine wp_region_still_tail 5 (by kernel_rfl) (by kernel_rfl) ?_
        simp only [List.take_succ_cons, List.take_zero, List.drop_succ_cons, List.drop_zero]
        change wpStill _ _ wd.drew (fun a' => wpList _ _ _ _ a' wd.drew) _ _
        have HD2 := Lib.hid (HDM.out.lift hYh ((Below.refl wd.heap.size wd).drew))
        have HX3 := Lib.hid (show wd.drew.heap[w1.heap.size]? = some (.cells #[.int .i64 sa, .int .i64 (tn : Int)] 63 (0, 0)) from HDX.out)
        have HW3 := Lib.hid (show W0.heap.size + 2 ≤ w1.heap.size ∧ w1.heap.size < wd.drew.heap.size from HDW.out)
        clear HDM HDX HDW R1 R2 R3 R4 R5
        generalize wd.drew = we at *
        repeat still_step
        refine wpStill_nil ?_
        go_wp2_with fail
        refine (HM1.out).mono ?_
        rintro e w4 ⟨rfl, hb4⟩
        have HD4 := Lib.hid (HD2.out.lift hYh hb4)
        have HX4 := Lib.hid ((hb4.block _ HW3.out.2).trans HX3.out)
        have HW4 := Lib.hid (show W0.heap.size + 2 ≤ w1.heap.size ∧ w1.heap.size < w4.heap.size from ⟨HW3.out.1, Nat.lt_of_lt_of_le HW3.out.2 hb4.size⟩)
        clear hb4 HD2 HX3 HW3 v2 s0 s1 HM1 HCF R5
        obtain ⟨_, _, r1, r2, r3, r4, r5, _, _⟩ := id HD4.out
        have v0 := cell_of r3 0
        have s0 := cell_of HX4.out 0
        have s1 := cell_of HX4.out 1
        simp at v0 s0 s1
        have HMEM := Lib.hid (fun V (hV : Below w4.heap.size w4 V) => HE.out.below (grown_then HD4.out.base (hV.mono (by have := HW4.out; omega))))
        have HO1 := Lib.hid (show Calls Tryz.prog 60 #[mv, .agg #[.int .i64 sa, .int .i64 (tn : Int)]] w4.drew fun e w' => ObjEnd Wm (objP m sa (tn : Int)) e ∧ Below w4.drew.heap.size w4.drew w' from object_at m mv sa (tn : Int) Wm w4.drew HE.out.rs (HMEM.out _ (Below.refl _ _).drew) HOK.out.1)
        have HO2 := Lib.hid (show Calls Tryz.prog 60 #[mv, .agg #[.int .i64 sa, .int .i64 (tn : Int)]] (w4.alloc (.cells #[.int .i64 0, .slice none 0 0] 107)).drew fun e w' => ObjEnd Wm (objP m sa (tn : Int)) e ∧ Below (w4.alloc (.cells #[.int .i64 0, .slice none 0 0] 107)).drew.heap.size (w4.alloc (.cells #[.int .i64 0, .slice none 0 0] 107)).drew w' from object_at m mv sa (tn : Int) Wm _ HE.out.rs (HMEM.out _ ((Below.refl _ _).alloc (Nat.le_refl _) _).drew) HOK.out.1)
        clear r1 r2 r3 r4 r5
        have n1 := World.new_ne _ _ v0
        have n2 := World.new_ne _ _ s0
        have n3 := World.new_ne _ _ s1
        go_upto_region 10 with fail
        go_cut [10, 11] from 42 to 50 (fun p ok wx => ObjCut Wm w4 wx l p)
        case first =>
          go_region_held3 (fun w' => w'.cell? ⟨W0.heap.size + 1, 0, none⟩ = some mv ∧ w'.cell? ⟨w1.heap.size, 0, none⟩ = some (.int .i64 sa) ∧ w'.cell? ⟨w1.heap.size, 1, none⟩ = some (.int .i64 (tn : Int))) (first | exact ⟨v0, s0, s1⟩ | with_reducible exact ⟨d0, d1, d2⟩ | go_keep) (first
            | (go_at_call 60; (with_reducible refine HO2.out.mono ?_); rintro e w6 ⟨⟨k', v', l', ok, rfl, hws, hok, hp⟩, hb6⟩
               obtain ⟨rfl, rfl⟩ : k = k' ∧ l = l' := by have := hp _ HO.out; cases this; exact ⟨rfl, rfl⟩
               obtain ⟨_, _, la, lc, rfl, _⟩ := id hws
               have hb7 : Below w4.heap.size w4 w6 := ((Below.refl w4.heap.size w4).alloc (Nat.le_refl _) _).drew.trans (hb6.mono (by simp))
               have d0 := (hb7.cell (World.block_lt_of_cell? _ _ v0)).trans v0
               have d1 := (hb7.cell (World.block_lt_of_cell? _ _ s0)).trans s0
               have d2 := (hb7.cell (World.block_lt_of_cell? _ _ s1)).trans s1
               have hh := held_new hb6
               have y0 := cell_of hh 0
               have y1 := cell_of hh 1
               have z0 := free_of hh 0
               have z1 := free_of hh 1
               simp at y0 y1
               have F9 := Lib.hid (show ObjCut Wm w4 ((w6.setCell ⟨w4.heap.size, 0, none⟩ (.int .i64 k)).setCell ⟨w4.heap.size, 1, none⟩ (.slice la l.length lc)) l (.pointer (some ⟨w4.heap.size, 0, none⟩)) from ⟨_, _, _, rfl, (made_ahead hb6 (hws.below (HMEM.out _ hb7))).1, hws, Nat.le_refl _, (made_ahead hb6 (hws.below (HMEM.out _ hb7))).2.2⟩)
               clear hws hb6 hp hok hh)
            | (go_at_call 60; (with_reducible refine HO1.out.mono ?_); rintro e w6 ⟨⟨k', v', l', ok, rfl, hws, hok, hp⟩, hb6⟩
               obtain ⟨rfl, rfl⟩ : k = k' ∧ l = l' := by have := hp _ HO.out; cases this; exact ⟨rfl, rfl⟩
               obtain ⟨_, _, la, lc, rfl, _⟩ := id hws
               have hb7 : Below w4.heap.size w4 w6 := (Below.refl w4.heap.size w4).drew.trans hb6
               have d0 := (hb7.cell (World.block_lt_of_cell? _ _ v0)).trans v0
               have d1 := (hb7.cell (World.block_lt_of_cell? _ _ s0)).trans s0
               have d2 := (hb7.cell (World.block_lt_of_cell? _ _ s1)).trans s1
               have hsz := hb7.size
               have F9 := Lib.hid (show ObjCut Wm w4 (w6.alloc (.cells #[.int .i64 k, .slice la l.length lc] 107)) l (.pointer (some ⟨w6.heap.size, 0, none⟩)) from ⟨_, _, _, rfl, (made_behind hb6 (hws.below (HMEM.out _ hb7))).1, hws, hb7.size, (made_behind hb6 (hws.below (HMEM.out _ hb7))).2.2⟩)
               clear hws hb6 hp hok))
          all_goals go_wp2_with fail
          all_goals go_meet
          all_goals exact F9.out
        case rest =>
          obtain ⟨nb, kk, ov, rfl, hnb, hws, hnw, hb5⟩ := hcut
          have HD5 := Lib.hid (HD4.out.lift hYh hb5)
          have HX5 := Lib.hid ((hb5.block _ HW4.out.2).trans HX4.out)
          have HNB := Lib.hid hnb
          have HWS := Lib.hid hws
          have HW5 := Lib.hid (show W0.heap.size + 2 ≤ w1.heap.size ∧ w1.heap.size < wc.heap.size ∧ w1.heap.size < nb from ⟨HW4.out.1, Nat.lt_of_lt_of_le HW4.out.2 hb5.size, by have := HW4.out; omega⟩)
          have HL10 := Lib.hid (show l.length ≤ 10 from objOK_le (objP_ok HO.out))
          clear hb5 HD4 HX4 HW4 v0 s0 s1 n1 n2 n3 HO1 HO2 HMEM hnb hws hnw
          obtain ⟨_, _, r1, r2, r3, r4, r5, _, _⟩ := id HD5.out
          have HEND := Lib.hid (fun n => end_any Y a st.words.length yv (wc.drewN n) r1 (own_slice r2) ha (by omega))
          have HMK := Lib.hid (fun (W : World) => (make_any tn (a + st.words.length) htn (by omega) W).mono (R' := fun e W' => e = .returned (.tuple #[.int .u64 (((a + st.words.length) * 8 + tn : Nat) : Int), .bool true]) ∧ W' = W) fun e w' q => ⟨q.1, q.2.symm⟩)
          have HNEW := Lib.hid (show r = ((a + st.words.length) * 8 + tn, ⟨st.went ++ [((sa, (tn : Int)), (a + st.words.length) * 8 + tn)], st.words ++ l⟩) by
            rw [← HR.out]; exact moveP_new HT.out HW.out HO.out)
          have HYB := Lib.hid (show (a + st.words.length) * 8 + tn < 18446744073709551616 by omega)
          have s1 := cell_of HX5.out 1
          simp at s1
          clear r1 r2 r3 r4 r5
          generalize (a + st.words.length) * 8 + tn = y at *
          generalize a + st.words.length = en at *
          go_upto_region 11 with fail
          go_quiet ((first | (go_at_call 49; exact Calls.quiet_of (HEND.out _)) | (go_at_call 73; exact Calls.quiet_of_same (HMK.out _))))
          go_upto_region 12 with fail
          have HD6 := Lib.hid (HD5.out.lift hYh ((drewN_below (w := wc) nq).drew))
          have HX6 := Lib.hid (show (wc.drewN nq).drew.heap[w1.heap.size]? = some (.cells #[.int .i64 sa, .int .i64 (tn : Int)] 63 (0, 0)) from HX5.out)
          have HNB6 := Lib.hid (show (wc.drewN nq).drew.heap[nb]? = some (.cells #[.int .i64 kk, ov] 107 (0, 0)) from HNB.out)
          have HW6 := Lib.hid (show W0.heap.size + 2 ≤ w1.heap.size ∧ w1.heap.size < (wc.drewN nq).drew.heap.size ∧ w1.heap.size < nb from HW5.out)
          clear HD5 HX5 HNB HW5 HEND HMK s1
          refine wp_region_still_tail 6 (by kernel_rfl) (by kernel_rfl) ?_
          simp only [List.take_succ_cons, List.take_zero, List.drop_succ_cons, List.drop_zero]
          change wpStill _ _ (wc.drewN nq).drew (fun a' => wpList _ _ _ _ a' (wc.drewN nq).drew) _ _
          generalize (wc.drewN nq).drew = wg at *
          obtain ⟨_, _, r1, r2, r3, r4, r5, _, _⟩ := id HD6.out
          have v1 := cell_of r3 1
          have s0 := cell_of HX6.out 0
          have s1 := cell_of HX6.out 1
          simp at v1 s0 s1
          have R1 := Lib.hid r1
          have R2 := Lib.hid r2
          have R3 := Lib.hid r3
          have R4 := Lib.hid r4
          have R5 := Lib.hid r5
          clear r1 r2 r3 r4 r5
          repeat still_step
          refine wpStill_nil ?_
          have HMW := Lib.hid (show W0.heap.size + 2 ≤ wg.heap.size ∧ Below Wm.heap.size Wm wg from ⟨HD6.out.sz, HE.out.below HD6.out.base⟩)
          go_wp2_with (at_mapUpdate; refine wpList_put_map rfl (.tmp 62) (.tmp 63) (.tmp 64) rfl rfl HD6.out.map (by omega) (sa, (tn : Int)) HOK.out rfl y HYB.out rfl HW.out ?_; intro w7 hmap hgr
                       have HD7 := Lib.hid (HD6.out.mapped hYh hgr hmap)
                       have X7 := Lib.hid ((hgr.block w1.heap.size HW6.out.2.1 (by have := HW6.out; simp; omega)).trans HX6.out)
                       have N7 := Lib.hid ((hgr.block nb (lt_of_block HNB6.out) (by have := HW6.out; simp; omega)).trans HNB6.out)
                       have S7 := Lib.hid (show W0.heap.size + 2 ≤ w7.heap.size ∧ w1.heap.size < w7.heap.size ∧ nb < w7.heap.size by have h1 := hgr.size; have h2 := HW6.out; have h3 := HMW.out; have h4 := lt_of_block HNB6.out; omega)
                       clear hmap hgr)
          clear HD6 HX6 HNB6 HMW R1 R2 R3 R4 R5 v1 s0 s1
          obtain ⟨qb, qc, hqq⟩ := own_slice HD7.out.r4
          subst hqq
          have hql := HQL.out
          have v3 := cell_of HD7.out.r3 3
          have s0 := cell_of X7.out 0
          have s1 := cell_of X7.out 1
          simp at v3 s0 s1
          obtain ⟨i0, hi, hz0, hz1, hz2⟩ := info_parts info68
          go_upto_region 13 with fail
          have A := fun o => (Below.refl w7.heap.size w7).alloc (Nat.le_refl _) o
          have av := fun o => ((A o).cell (World.block_lt_of_cell? w7 _ v3)).trans v3
          have as0 := fun o => ((A o).cell (World.block_lt_of_cell? w7 _ s0)).trans s0
          have as1 := fun o => ((A o).cell (World.block_lt_of_cell? w7 _ s1)).trans s1
          clear A
          go_region_law (first
            | (refine step_append_any _ (by rfl) (.tmp 69) (.tmp 71) 65 (by rfl) (W0.heap.size + 2) 63 i0 _ 2 16 Tryz.underlying65 hi hz0 hz1 hz2 rfl (by omega) _ Q.length (csS Q) (by rfl) ((World.ownsRow.alloc HD7.out.r4 _).drew) (w7.heap.size + 1) (some ⟨w7.heap.size, 0, none⟩) 1 1 [.int .i64 sa, .int .i64 (tn : Int)] (by rfl) (reads_pair w7 _ _ _) (one_i64 _ _) (by unfold maxLen; omega) (by omega) (size_push HD7.out.sz _) ?_
               intro v9 w9 hown9 hgrow9 hv9
               have PB := Lib.hid (HD7.out.queued (Q' := Q ++ [(sa, (tn : Int))]) hYh hgrow9 (by rw [csS_snoc, List.length_append]; exact hown9) hv9)
               have NB9 := Lib.hid (show w9.heap[nb]? = some (.cells #[.int .i64 kk, ov] 107 (0, 0)) from (hgrow9.block nb (by have := S7.out; simp; omega) (fun e => by have := HOWN.out.2 nb e.symm; have := HW6.out; have := HSZ.out; omega)).trans ((((Below.refl w7.heap.size w7).alloc (Nat.le_refl _) _).drew.block nb S7.out.2.2).trans N7.out))
               have S9 := Lib.hid (show w7.heap.size ≤ w9.heap.size by have := hgrow9.size; simp at this; omega)
               obtain ⟨b9, c9, rfl⟩ := own_slice hown9
               have yy := cell_of PB.out.1 3
               have yf := free_of PB.out.1 3
               simp at yy yf
               clear hown9 hgrow9 hv9))
          all_goals
            have HD8 := Lib.hid PB.out.2
            have N8 := Lib.hid ((Below.heap_setCell w9 ⟨W0.heap.size + 1, 3, none⟩ (.slice b9 (Q.length + 1) c9) nb (by have := HW6.out; simp; omega)).trans NB9.out)
            clear PB NB9 yy yf v3 s0 s1 av as0 as1 HD7 X7 N7 S7
            generalize w9.setCell ⟨W0.heap.size + 1, 3, none⟩ (.slice b9 (Q.length + 1) c9) = w8 at *
            have hws8 := HWS.out.below (HE.out.below (HD8.out.lift hYh (Below.refl w8.heap.size w8).drew).base)
            obtain ⟨_, _, la, lc, hov, _⟩ := id hws8
            subst hov
            obtain ⟨vb, vc, hvv⟩ := own_slice HD8.out.r2
            subst hvv
            have y1 := cell_of HD8.out.r1 1
            have o1 := cell_of N8.out 1
            simp at y1 o1
            have hl10 := HL10.out
            obtain ⟨i1, ki, kz0, kz1, kz2⟩ := info_parts info37
            go_wp2_with fail
            go_upto_region 14 with fail
            go_region_law (first
              | (refine step_append_any _ (by rfl) (.tmp 79) (.tmp 81) 22 (by rfl) (W0.heap.size + 2) 47 i1 _ 1 8 Tryz.underlying22 ki kz0 kz1 kz2 rfl (by omega) _ st.words.length (csW st.words) (by rfl) (HD8.out.r2.drew) _ la l.length lc (csW l) (by rfl) hws8.reads (csW_one l) (by unfold maxLen; omega) (by omega) (show W0.heap.size + 2 ≤ w8.drew.heap.size from HD8.out.sz) ?_
                 intro v9 w9 hown9 hgrow9 hv9
                 obtain ⟨b9, c9, rfl⟩ := own_slice hown9
                 have PB := Lib.hid (HD8.out.worded (L' := st.words ++ l) hYh hgrow9 (by rw [csW_append, List.length_append]; exact hown9) hv9)
                 have yy := cell_of PB.out.1 1
                 have yf := free_of PB.out.1 1
                 simp at yy yf
                 clear hown9 hgrow9 hv9))
            all_goals
              have HD9 := Lib.hid PB.out.2
              clear PB yy yf y1 o1 HD8 N8 hws8
              go_wp2_with fail
              exact bodyPost_ret (v := .int .u64 y) (by simp [results, Tryz.results62, go_sem]) rfl ⟨by rw [HNEW.out], by rw [HNEW.out]; exact MvMid.st (st := ⟨st.went ++ [((sa, (tn : Int)), y)], st.words ++ l⟩) HD9.out (by simp [HQ.out])⟩

end Go.Proofs.YtlmpmjhanpkcnaaGreat
