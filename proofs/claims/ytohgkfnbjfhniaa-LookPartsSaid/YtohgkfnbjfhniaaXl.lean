/-
  What is reached: the closure that meets a word.
-/
import Derived.Test.YtohgkfnbjfhniaaXk
namespace Go.Proofs.Ytohgkfnbjfhniaa
open Go.RowKit Go.Maps

theorem info68 : (Try.prog.info? 68).map (fun i => (i.zero, i.size, i.bytes)) = some (some (.agg #[.int .i64 0, .int .i64 0]), 2, 16) := by kernel_rfl

abbrev Spt := Int × Int

/-- Spots as cells. -/
def csS (l : List Spt) : List Value := l.flatMap fun s => [.int .i64 s.1, .int .i64 s.2]

theorem csS_snoc (l : List Spt) (s : Spt) : csS (l ++ [s]) = csS l ++ [.int .i64 s.1, .int .i64 s.2] := by simp [csS]

theorem csS_length : ∀ l : List Spt, (csS l).length = l.length * 2
  | [] => rfl
  | s :: r => by
    have : csS (s :: r) = [.int .i64 s.1, .int .i64 s.2] ++ csS r := by simp [csS]
    rw [this, List.length_append, csS_length r]
    simp only [List.length_cons, List.length_nil]; omega

/-- What is met, and which of it is an object. -/
def meetP (m : List Frg) (c : List Spt × List Spt) (x : Nat) : List Spt × List Spt :=
  match toP x with
  | none => c
  | some s => if s ∈ c.2 then c else (if (objP m s.1 s.2).isSome then c.1 ++ [s] else c.1, c.2 ++ [s])

/-- The walk's variables as they lie: the dump, the row, the set. -/
structure RSt (w0 : World) (m : List Frg) (mv : Value) (w : World) (c : List Spt × List Spt) : Prop where
  rs : RsAt w0 mv m
  hM : w.heap[w0.heap.size]? = some (.cells #[mv] 62 (0, 0))
  hl : ∃ v, w.heap[w0.heap.size + 1]? = some (.cells #[v] 65 (0, 0)) ∧ w.ownsRow (w0.heap.size + 4) 68 2 v c.1.length (csS c.1)
  hp : SetAt spotFam w (w0.heap.size + 2) c.2
  hm : w.heap[w0.heap.size + 3]? = some (.cells #[.map (some (w0.heap.size + 2))] 88 (0, 0))
  size : w0.heap.size + 4 ≤ w.heap.size
  below : Below w0.heap.size w0 w

theorem RSt.lift {w0 w w' : World} {m : List Frg} {mv : Value} {c : List Spt × List Spt} (h : RSt w0 m mv w c) (hb : Below w.heap.size w w') : RSt w0 m mv w' c := by
  obtain ⟨h1, h2, ⟨v, h3, h4⟩, h5, h6, h7, h8⟩ := h
  have hg : w.grownBy w' none := ⟨hb.os, hb.tape, hb.output, hb.size, fun k hk _ => hb.block k hk⟩
  exact ⟨h1, (hb.block _ (by omega)).trans h2, ⟨v, (hb.block _ (by omega)).trans h3, h4.kept hg (by cases hv : v.ownBlock; exact .inl rfl; exact .inr (by simp))⟩, h5.kept hg (by simp), (hb.block _ (by omega)).trans h6, Nat.le_trans h7 hb.size, h8.trans (hb.mono (by omega))⟩

theorem RSt.met {w0 w w' : World} {m : List Frg} {mv : Value} {l S S' : List Spt} (h : RSt w0 m mv w (l, S)) (hs : SetAt spotFam w' (w0.heap.size + 2) S') (hg : w.grownBy w' (some (w0.heap.size + 2))) : RSt w0 m mv w' (l, S') := by
  obtain ⟨h1, h2, ⟨v, h3, h4⟩, h5, h6, h7, h8⟩ := h
  refine ⟨h1, (hg.block _ (by omega) (by simp)).trans h2, ⟨v, (hg.block _ (by omega) (by simp)).trans h3, h4.kept hg ?_⟩, hs, (hg.block _ (by omega) (by simp)).trans h6, Nat.le_trans h7 hg.size, h8.trans ⟨hg.os, hg.tape, hg.output, hg.size, fun k hk => hg.block k (by omega) (by simp; omega)⟩⟩
  by_cases hv : v.ownBlock = none
  · exact .inl hv
  · exact .inr (fun e => by have := (h4.lt _ e).1; omega)

theorem RSt.pushed {w0 w w' : World} {m : List Frg} {mv v v' : Value} {l l' S : List Spt} (h : RSt w0 m mv w (l, S)) (hv : w.heap[w0.heap.size + 1]? = some (.cells #[v] 65 (0, 0)) ∧ w.ownsRow (w0.heap.size + 4) 68 2 v l.length (csS l)) (hg : w.grownBy w' v.ownBlock)
    (ho : w'.ownsRow (w0.heap.size + 4) 68 2 v' l'.length (csS l')) : RSt w0 m mv (w'.setCell ⟨w0.heap.size + 1, 0, none⟩ v') (l', S) := by
  obtain ⟨h1, h2, -, h5, h6, h7, h8⟩ := h
  have hb := fun b (hb : b < w0.heap.size + 4) => hg.block b (by omega) (fun e => by have := (hv.2.lt b e.symm).1; omega)
  refine ⟨h1, ?_, ⟨v', ?_, ownsRow_setCell_below ho (by simp) _⟩, h5.block ?_, ?_, ?_, h8.trans ⟨hg.os, hg.tape, hg.output, by simpa [World.setCell] using hg.size, fun k hk => ?_⟩⟩
  · rw [Below.heap_setCell _ _ _ _ (by simp), hb _ (by omega)]; exact h2
  · rw [set_of ((hb _ (by omega)).trans hv.1)]; rfl
  · rw [Below.heap_setCell _ _ _ _ (by simp), hb _ (by omega)]
  · rw [Below.heap_setCell _ _ _ _ (by simp), hb _ (by omega)]; exact h6
  · have := hg.size; simp [World.setCell]; omega
  · rw [Below.heap_setCell _ _ _ _ (by simp; omega), hb _ (by omega)]

set_option maxHeartbeats 8000000 in
set_option maxRecDepth 100000 in
theorem meet_any (w0 : World) (m : List Frg) (mv : Value) (c : List Spt × List Spt) (x : Nat) (w : World) (h : RSt w0 m mv w c) (hx : x < 18446744073709551616) (hc1 : c.1.length ≤ 100000) (hc2 : c.2.length ≤ 100000) :
    Calls Try.prog 41 #[.int .u64 x, .pointer (some ⟨w0.heap.size + 3, 0, none⟩), .pointer (some ⟨w0.heap.size, 0, none⟩), .pointer (some ⟨w0.heap.size + 1, 0, none⟩)] w fun e w' => e = .returned (.tuple #[]) ∧ RSt w0 m mv w' (meetP m c x) := by
  obtain ⟨i0, hi, hz0, hz1, hz2⟩ := info_parts info68
  have H := Lib.hid h
  obtain ⟨l, S⟩ := c
  simp only at hc1 hc2
  obtain ⟨r, hr⟩ : ∃ r, meetP m (l, S) x = r := ⟨_, rfl⟩
  have HR := Lib.hid hr
  rw [hr]
  clear h hr
  go_enter Try.func41, Try.ntmps41
  go_wp2_with fail
  refine (to_any x hx _).mono ?_
  rintro e w1 ⟨he, hb1⟩
  unfold ToEnd at he
  have H1 := Lib.hid (H.out.lift hb1)
  clear hb1
  cases ht : toP x with
  | none =>
    rw [ht] at he
    subst he
    have HE := Lib.hid (show r = (l, S) by rw [← HR.out]; unfold meetP; rw [ht])
    clear ht
    go_wp2_with fail
    exact bodyPost_ret (v := .tuple #[]) (by simp [results, Try.results41, go_sem]) rfl ⟨rfl, by rw [HE.out]; exact H1.out.lift ((Below.refl _ _).alloc (Nat.le_refl _) _)⟩
  | some s =>
    rw [ht] at he
    subst he
    obtain ⟨a, t⟩ := s
    have ha := toP_in ht hx
    have htt : t = 4 ∨ t = 5 := by
      unfold toP at ht
      split at ht
      · rename_i q; cases ht; omega
      · cases ht
    simp only at ha
    have HOK := Lib.hid (show spotFam.ok (a, t) from ⟨ha, by constructor <;> simp only <;> omega⟩)
    have HT := Lib.hid ht
    have HA := Lib.hid ha
    have B2 := Below.alloc (Below.refl w1.heap.size w1) (Nat.le_refl _) (.cells #[.int .i64 a, .int .i64 t] 68)
    have X2 := World.alloc_heap_new w1 (.cells #[.int .i64 a, .int .i64 t] 68)
    have S2 : w1.heap.size < (w1.alloc (.cells #[.int .i64 a, .int .i64 t] 68)).heap.size := by simp
    clear ht ha htt
    go_upto_region 1 with fail
    generalize w1.alloc (.cells #[.int .i64 a, .int .i64 t] 68) = W at *
    have H2 := Lib.hid (H1.out.lift B2)
    have HX2 := Lib.hid X2
    have HS2 := Lib.hid S2
    have HS1 := Lib.hid H1.out.size
    clear B2 X2 S2
    have c3 := cell_of H2.out.hm 0
    have b0 := cell_of HX2.out 0
    have b1 := cell_of HX2.out 1
    simp at c3 b0 b1
    obtain ⟨inS, hin⟩ : ∃ inS : Bool, (a, t) ∈ S ↔ inS = true := ⟨decide ((a, t) ∈ S), by simp⟩
    have HIN := Lib.hid hin
    clear hin
    have HSA := Lib.hid (show SetAt spotFam W (w0.heap.size + 2) S from H2.out.hp)
    cases inS with
    | true =>
      have HE := Lib.hid (show r = (l, S) by rw [← HR.out]; unfold meetP; rw [HT.out]; simp only; rw [if_pos (HIN.out.2 rfl)])
      go_wp2_with (at_lookup; refine wpList_look_set rfl (.tmp 17) (.tmp 18) 88 rfl K68 Try.underlying88 rfl H2.out.hp (a, t) HOK.out rfl true HIN.out ?_)
      exact bodyPost_ret (v := .tuple #[]) (by simp [results, Try.results41, go_sem]) rfl ⟨rfl, by rw [HE.out]; exact H2.out⟩
    | false =>
      have HE := Lib.hid (show r = (if (objP m a t).isSome then l ++ [(a, t)] else l, S ++ [(a, t)]) by rw [← HR.out]; unfold meetP; rw [HT.out]; simp only; rw [if_neg (fun q => by have := HIN.out.1 q; cases this)])
      go_wp2_with (first
        | (at_lookup; refine wpList_look_set rfl (.tmp 17) (.tmp 18) 88 rfl K68 Try.underlying88 rfl H2.out.hp (a, t) HOK.out rfl false HIN.out ?_)
        | (at_mapUpdate; refine wpList_put_set rfl (.tmp 21) (.tmp 22) (.const (.bool true)) 88 rfl K68 Try.underlying88 rfl HSA.out (by omega) (a, t) HOK.out rfl rfl ?_; intro w5 hset hgr
           have H5 := Lib.hid (H2.out.met hset hgr)
           have HX5 := Lib.hid ((hgr.block w1.heap.size HS2.out (by have := HS1.out; simp; omega)).trans HX2.out)
           have HS5 := Lib.hid (Nat.lt_of_lt_of_le HS2.out hgr.size)
           have e0 := cell_of HX5.out 0
           have e1 := cell_of HX5.out 1
           have e2 := cell_of H5.out.hM 0
           simp at e0 e1 e2
           clear hset hgr))
      refine (object_any m mv a t w5 (H5.out.rs.below H5.out.below) HA.out).mono ?_
      rintro e w6 ⟨⟨k', v', l', ok, rfl, hws, hok, -⟩, hb6⟩
      obtain ⟨-, -, va, vc, rfl, -⟩ := hws
      have H6 := Lib.hid (H5.out.lift hb6)
      have HX6 := Lib.hid ((hb6.block w1.heap.size HS5.out).trans HX5.out)
      have HS6 := Lib.hid (Nat.lt_of_lt_of_le HS5.out hb6.size)
      rw [← hok] at HE
      clear hb6 hok e0 e1 e2 c3 b0 b1
      cases ok with
      | false =>
        have HE2 := Lib.hid (show r = (l, S ++ [(a, t)]) from HE.out)
        go_wp2_with fail
        go_end0
        exact ⟨rfl, by rw [HE2.out]; exact H6.out.lift ((Below.refl _ _).alloc (Nat.le_refl _) _)⟩
      | true =>
        have HE2 := Lib.hid (show r = (l ++ [(a, t)], S ++ [(a, t)]) from HE.out)
        obtain ⟨v, hv1, hv2⟩ := H6.out.hl
        have HV1 := Lib.hid hv1
        have HV2 := Lib.hid hv2
        have d0 := fun o => cell_of ((Below.heap_alloc w6 o w1.heap.size HS6.out).trans HX6.out) 0
        have d1 := fun o => cell_of ((Below.heap_alloc w6 o w1.heap.size HS6.out).trans HX6.out) 1
        have d2 := fun o => cell_of ((Below.heap_alloc w6 o (w0.heap.size + 1) (by have := H6.out.size; omega)).trans hv1) 0
        simp at d0 d1 d2
        clear hv1 hv2
        have LL := Lib.hid (((Below.refl w6.heap.size w6).alloc (Nat.le_refl _) (.cells #[.int .i64 k', .slice va l'.length vc] 70)).alloc (by simp) (.cells #[.int .i64 a, .int .i64 t] 68))
        have H8 := Lib.hid (H6.out.lift LL.out)
        have HS66 := Lib.hid H6.out.size
        go_wp2_with (at_builtin; refine wpList_append_own_at _ rfl (.tmp 30) (.tmp 32) 65 rfl (w0.heap.size + 4) 68 i0 _ 2 16 Try.underlying65 hi hz0 hz1 hz2 rfl (by decide) v l.length (csS l) rfl (World.ownsRow.alloc (World.ownsRow.alloc HV2.out _) _) _ 1 1 [.int .i64 a, .int .i64 t] rfl rfl (fun i u hi => by
            match i with
            | 0 => simp at hi; subst hi; simp [Addr.add_lit]
            | 1 => simp at hi; subst hi; simp [Addr.add_lit]
            | i + 2 => simp at hi) (fun u hu => by simp at hu; rcases hu with rfl | rfl <;> rfl) (by unfold maxLen; omega) (by omega) (by have := HS66.out; simp; omega) ?_; intro v9 w9 hown9 hgrow9 _ hloc9
                     have HG9 := Lib.hid hgrow9
                     have HO9 := Lib.hid (show w9.ownsRow (w0.heap.size + 4) 68 2 v9 (l ++ [(a, t)]).length (csS (l ++ [(a, t)])) by rw [csS_snoc, List.length_append]; exact hown9)
                     obtain ⟨vb, vcc, rfl⟩ := own_slice hown9
                     have V9 := Lib.hid (show w9.heap[w0.heap.size + 1]? = some (.cells #[v] 65 (0, 0)) from (hgrow9.block _ (by have := HS66.out; simp; omega) (fun e => by have := (HV2.out.lt _ e.symm).1; omega)).trans ((LL.out.block _ (by have := HS66.out; omega)).trans HV1.out))
                     have g0 := cell_of V9.out 0
                     have g1 := free_of V9.out 0
                     simp at g0
                     clear hown9 hgrow9 hloc9 d0 d1 d2)
        go_end0
        refine ⟨rfl, ?_⟩
        rw [HE2.out]
        exact H8.out.pushed (v := v) ⟨(LL.out.block _ (by have := HS66.out; omega)).trans HV1.out, World.ownsRow.alloc (World.ownsRow.alloc HV2.out _) _⟩ HG9.out HO9.out

end Go.Proofs.Ytohgkfnbjfhniaa
