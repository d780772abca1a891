/-
  The bytes of a part.
-/
import Derived.Test.YtlmpmjhanpkcnaaGreatN04
set_option linter.unusedVariables false
set_option linter.unusedSimpArgs false
namespace Go.Proofs.YtlmpmjhanpkcnaaGreat
open Go.RowKit

/-- A head's bytes as a text. -/
def bytesB (l : List Nat) : Option ByteArray := (bytesW l).map fun x => ⟨x.toArray⟩

/-- The bytes of a part. -/
def partP (asks : Bool) (S : List Slt) (m : List Frg) (l : List Nat) : Option ByteArray :=
  match toP (l.getD 1 0) with
  | none => none
  | some s => match objP m s.1 s.2 with
    | none => none
    | some o => if o.1 = 3 then (bytesB o.2).map fun b => b.extract (l.getD 2 0) (l.getD 2 0 + l.getD 3 0)
      else if asks = false then some ⟨#[]⟩
      else (sharedP true S o.2).map fun b => b.extract (l.getD 2 0) (l.getD 2 0 + l.getD 3 0)

theorem toP_in {x : Nat} {s : Int × Int} (h : toP x = some s) (hx : x < 18446744073709551616) : -9223372036854775808 ≤ s.1 ∧ s.1 ≤ 9223372036854775807 := by
  unfold toP at h
  split at h
  · cases h; exact loadW_in x hx
  · cases h

theorem lengthP_some {m : List Frg} {x n : Nat} (h : lengthP m x = some n) : ∃ a k l, toP x = some (a, 4) ∧ objP m a 4 = some (k, l) ∧ ((k = 3 ∧ rightFlat 3 l = true ∧ n = l.getD 1 0) ∨ (k = 4 ∧ rightFlat 4 l = true ∧ n = l.getD 3 0)) := by
  unfold lengthP at h
  cases ht : toP x with
  | none => rw [ht] at h; cases h
  | some s =>
    obtain ⟨a, t⟩ := s
    rw [ht] at h
    simp only [Option.bind_some] at h
    split at h
    · rename_i q4
      subst q4
      cases hh : headAt m a with
      | none => rw [hh] at h; cases h
      | some o =>
        obtain ⟨k, l⟩ := o
        rw [hh] at h
        simp only [Option.bind_some] at h
        have ho : ∀ (q : rightP m k l = true), objP m a 4 = some (k, l) := fun q => by
          unfold objP; rw [if_neg (by decide), hh]; simp only [Option.bind_some]; rw [if_pos q]
        split at h
        · rename_i q
          obtain ⟨rfl, q⟩ := q
          simp only [Option.some.injEq] at h
          exact ⟨a, 3, l, rfl, ho (by unfold rightP; rw [if_neg (by decide)]; exact q), .inl ⟨rfl, q, h.symm⟩⟩
        · split at h
          · rename_i q
            obtain ⟨rfl, q⟩ := q
            simp only [Option.some.injEq] at h
            exact ⟨a, 4, l, rfl, ho (by unfold rightP; rw [if_neg (by decide)]; exact q), .inr ⟨rfl, q, h.symm⟩⟩
          · cases h
    · cases h

theorem right5_parts {m : List Frg} {l : List Nat} (h : rightP m 5 l = true) : l.length = 4 ∧ ∃ n, lengthP m (l.getD 1 0) = some n ∧ l.getD 2 0 ≤ n ∧ l.getD 3 0 ≤ n - l.getD 2 0 := by
  unfold rightP at h
  rw [if_pos rfl, Bool.and_eq_true, decide_eq_true_eq] at h
  refine ⟨h.1, ?_⟩
  have h2 := h.2
  split at h2
  · rename_i n hn
    rw [Bool.and_eq_true, decide_eq_true_eq, decide_eq_true_eq] at h2
    exact ⟨n, hn, h2⟩
  · cases h2

theorem bytesW_len {l : List Nat} {b : List UInt8} (h : bytesW l = some b) : b.length = l.getD 1 0 := by
  unfold bytesW at h
  split at h
  · cases h
  · rename_i q
    split at h
    · simp only [Option.some.injEq] at h
      rw [← h, List.length_take, bytesOf_length, List.length_drop]
      omega
    · cases h

theorem held_new {W w3 : World} {c : Array Value} {t : TypeId} (h : Below (W.alloc (.cells c t)).drew.heap.size (W.alloc (.cells c t)).drew w3) : w3.heap[W.heap.size]? = some (.cells c t (0, 0)) :=
  (h.block W.heap.size (by show W.heap.size < (W.alloc _).heap.size; simp)).trans (World.alloc_heap_new W _)

theorem made_behind {W w3 : World} {k : Int} {v : Value} {l : List Nat} (h : Below W.drew.heap.size W.drew w3) (hw : Ws w3 v l) :
    (w3.alloc (.cells #[.int .i64 k, v] 107)).heap[w3.heap.size]? = some (.cells #[.int .i64 k, v] 107 (0, 0)) ∧ Ws (w3.alloc (.cells #[.int .i64 k, v] 107)) v l ∧ Below W.heap.size W (w3.alloc (.cells #[.int .i64 k, v] 107)) :=
  ⟨World.alloc_heap_new w3 _, hw.below ((Below.refl _ _).alloc (Nat.le_refl _) _), Below.alloc (Below.trans (Below.drew (Below.refl _ W)) h) h.size _⟩

theorem made_ahead {W w3 : World} {k x : Int} {va p : Option Addr} {n c q r : Nat} {l : List Nat} (h : Below (W.alloc (.cells #[.int .i64 x, .slice p q r] 107)).drew.heap.size (W.alloc (.cells #[.int .i64 x, .slice p q r] 107)).drew w3) (hw : Ws w3 (.slice va n c) l) :
    ((w3.setCell ⟨W.heap.size, 0, none⟩ (.int .i64 k)).setCell ⟨W.heap.size, 1, none⟩ (.slice va n c)).heap[W.heap.size]? = some (.cells #[.int .i64 k, .slice va n c] 107 (0, 0)) ∧
    Ws ((w3.setCell ⟨W.heap.size, 0, none⟩ (.int .i64 k)).setCell ⟨W.heap.size, 1, none⟩ (.slice va n c)) (.slice va n c) l ∧
    Below W.heap.size W ((w3.setCell ⟨W.heap.size, 0, none⟩ (.int .i64 k)).setCell ⟨W.heap.size, 1, none⟩ (.slice va n c)) := by
  have S := obj_store (k := k) (B := W.heap.size) (held_new h) hw (Nat.le_refl _)
  refine ⟨set_of (set_of (held_new h) 0 _) 1 _, S.1, Below.trans ?_ S.2⟩
  have h0 : Below W.heap.size W (W.alloc (.cells #[.int .i64 x, .slice p q r] 107)).drew := ((Below.refl _ W).alloc (Nat.le_refl _) _).drew
  exact h0.trans (h.mono h0.size)

set_option maxHeartbeats 8000000 in
set_option maxRecDepth 100000 in
theorem part_any (R : Nat) (mv sv lv : Value) (asks : Bool) (left : Int) (m : List Frg) (S : List Slt) (l : List Nat) (w : World) (h : RdAt w R mv sv asks left) (hm : RsAt w mv m) (hS : SlAt w sv S) (hl : Ws w lv l) (h5 : rightP m 5 l = true) :
    Calls Tryz.prog 133 #[.pointer (some ⟨R, 0, none⟩), lv] w fun e w' => StrEnd (partP asks S m l) e ∧ Below w.heap.size w w' := by
  obtain ⟨h4, n, hn, hy, hz⟩ := right5_parts h5
  obtain ⟨a, k, ol, ht, ho, hkk⟩ := lengthP_some hn
  obtain ⟨g, o, c, rfl, hlc, hcm, hml⟩ := hl.open (by omega)
  have k1 := hl.at (j := 1) (by omega)
  have k2 := hl.at (j := 2) (by omega)
  have k3 := hl.at (j := 3) (by omega)
  have hx := hl.2.1 (l.getD 1 0) (by
    have : l.getD 1 0 = l[1]'(by omega) := by simp [List.getD, List.getElem?_eq_getElem (show 1 < l.length by omega)]
    rw [this]; exact List.getElem_mem _)
  have ha := toP_in ht hx
  have hn4 := lengthP_le hn
  simp only at ha
  have HP := Lib.hid (show partP asks S m l = if k = 3 then (bytesB ol).map fun b => b.extract (l.getD 2 0) (l.getD 2 0 + l.getD 3 0) else if asks = false then some ⟨#[]⟩ else (sharedP true S ol).map fun b => b.extract (l.getD 2 0) (l.getD 2 0 + l.getD 3 0) by
    unfold partP; rw [ht]; simp only; rw [ho])
  have HR := Lib.hid h
  have HM := Lib.hid hm
  have HS := Lib.hid hS
  have HL := Lib.hid hl
  have HT := Lib.hid ht
  have HO := Lib.hid ho
  have HK := Lib.hid hkk
  have q0 : (1 : Int) < (l.length : Int) := by omega
  have q1 : (2 : Int) < (l.length : Int) := by omega
  have q2 : (3 : Int) < (l.length : Int) := by omega
  obtain ⟨x, hxe⟩ : ∃ x, l.getD 1 0 = x := ⟨_, rfl⟩
  obtain ⟨y, hye⟩ : ∃ y, l.getD 2 0 = y := ⟨_, rfl⟩
  obtain ⟨z, hze⟩ : ∃ z, l.getD 3 0 = z := ⟨_, rfl⟩
  rw [hxe] at k1 hx HT
  rw [hye] at k2 hy hz HP
  rw [hze] at k3 hz HP
  obtain ⟨-, ma, mc, rfl, -⟩ := hm
  clear h hS hl ht ho hkk h4 hxe hye hze h5 hn
  go_enter Tryz.func133, Tryz.ntmps133
  go_wp2_with fail
  refine (to_any x hx _).mono ?_
  rintro e w1 ⟨he, hb1⟩
  unfold ToEnd at he
  rw [HT.out] at he
  subst he
  go_wp2_with fail
  have HB1 := Lib.hid (hb1.alloc hb1.size (.cells #[.int .i64 a, .int .i64 4] 63))
  have HBX := Lib.hid (World.alloc_heap_new w1 (.cells #[.int .i64 a, .int .i64 4] 63))
  have HR1 := Lib.hid (HR.out.below HB1.out)
  have HM1 := Lib.hid (HM.out.below HB1.out)
  have hsz : w1.heap.size < (w1.alloc (.cells #[.int .i64 a, .int .i64 4] 63)).heap.size := by simp
  clear hb1
  generalize hW : w1.alloc (.cells #[.int .i64 a, .int .i64 4] 63) = W at *
  have HW := Lib.hid hW
  clear hW
  have HC := Lib.hid (fun (V : World) (hb : Below W.heap.size W V) => object_any m _ a 4 V (HM1.out.below hb) ha)
  rw [HO.out] at HC
  have c0 : W.cell? ⟨R, 0, none⟩ = some (.slice ma m.length mc) := by have h := HR1.out; unfold RdAt at h; simp [World.cell?, h]
  have b0 := cell_of HBX.out 0
  have b1 := cell_of HBX.out 1
  simp at b0 b1
  have upa := fun {p : Addr} {v : Value} (q : W.cell? p = some v) (o : Obj) => (((Below.refl _ W).alloc (Nat.le_refl _) o).cell (World.block_lt_of_cell? W _ q)).trans q
  have c0a := upa c0
  have b0a := upa b0
  have b1a := upa b1
  clear upa
  go_cut [8, 9] from 18 to 26 (fun p u wx => ∃ nb v, p = .pointer (some ⟨nb, 0, none⟩) ∧ u = .bool true ∧ Hid (wx.heap[nb]? = some (.cells #[.int .i64 k, v] 107 (0, 0))) ∧ Hid (Ws wx v ol) ∧ Hid (Below W.heap.size W wx))
  case first =>
    first
      | fail
      | (go_region_with ((go_at_call 60
                          first
                            | (refine (HC.out _ ((Below.refl _ W).alloc (Nat.le_refl _) _).drew).mono ?_
                               rintro e w3 ⟨⟨k', v, l', ok, rfl, hws, rfl, hs⟩, hb3⟩
                               obtain ⟨hk1, hk2⟩ := Prod.mk.inj (hs _ rfl)
                               obtain ⟨-, -, va, vc, rfl, -⟩ := id hws
                               have HB3 := Lib.hid hb3
                               have HWS := Lib.hid hws
                               have HK1 := Lib.hid hk1
                               have HK2 := Lib.hid hk2
                               have f0 := cell_of (held_new hb3) 0
                               have f1 := cell_of (held_new hb3) 1
                               have f2 := free_of (held_new hb3) 0
                               have f3 := free_of (held_new hb3) 1
                               simp at f0 f1
                               clear hb3 hws hs hk1 hk2)
                            | (refine (HC.out _ (Below.refl _ _).drew).mono ?_
                               rintro e w3 ⟨⟨k', v, l', ok, rfl, hws, rfl, hs⟩, hb3⟩
                               obtain ⟨hk1, hk2⟩ := Prod.mk.inj (hs _ rfl)
                               obtain ⟨-, -, va, vc, rfl, -⟩ := id hws
                               have HB3 := Lib.hid hb3
                               have HWS := Lib.hid hws
                               have HK1 := Lib.hid hk1
                               have HK2 := Lib.hid hk2
                               clear hb3 hws hs hk1 hk2))))
    all_goals go_wp2_with fail
    all_goals go_meet
    all_goals
      rw [HK1.out, HK2.out]
      first
        | exact ⟨_, _, rfl, rfl, Lib.hid (made_behind HB3.out HWS.out).1, Lib.hid (made_behind HB3.out HWS.out).2.1, Lib.hid (made_behind HB3.out HWS.out).2.2⟩
        | exact ⟨_, _, rfl, rfl, Lib.hid (made_ahead HB3.out HWS.out).1, Lib.hid (made_ahead HB3.out HWS.out).2.1, Lib.hid (made_ahead HB3.out HWS.out).2.2⟩
  case rest =>
    obtain ⟨nb, v, rfl, rfl, HX, HWS, HBX2⟩ := hcut
    have hws := HWS.out
    obtain ⟨-, -, va, vc, rfl, -⟩ := hws
    have HB2 := Lib.hid (HB1.out.trans (HBX2.out.mono HB1.out.size))
    have d0 := cell_of HX.out 0
    have d1 := cell_of HX.out 1
    simp at d0 d1
    have u2 := (HB2.out.cell (World.block_lt_of_cell? w _ k2)).trans k2
    have u3 := (HB2.out.cell (World.block_lt_of_cell? w _ k3)).trans k3
    clear k1 k2 k3 c0 c0a b0 b0a b1 b1a
    rcases HK.out with ⟨rfl, hf, rfl⟩ | ⟨rfl, hf, rfl⟩
    · have hfp := flat3_parts hf
      have hsome : (bytesW ol).isSome = true := by
        unfold rightFlat at hf
        rw [if_neg (by decide), if_neg (by decide), if_neg (by decide), if_pos rfl, Bool.and_eq_true] at hf
        exact hf.2
      obtain ⟨bl, hbl⟩ := Option.isSome_iff_exists.1 hsome
      have hblen := bytesW_len hbl
      have HP2 := Lib.hid (show partP asks S m l = some (ByteArray.extract ⟨bl.toArray⟩ y (y + z)) by rw [HP.out, if_pos rfl]; unfold bytesB; rw [hbl]; rfl)
      have HBL := Lib.hid hbl
      clear hsome hf hbl
      go_wp2_with fail
      refine (bytes_any ol _ _ HWS.out hfp.1).mono ?_
      rintro e w5 ⟨⟨b, rfl, hb⟩, hb5⟩
      rw [HBL.out] at hb ⊢
      have hb : b = ⟨bl.toArray⟩ := by
        rw [Lib.toList_data] at hb
        have e : b.data = bl.toArray := by rw [← show b.data.toList = bl from hb]
        rw [← e]
      have hbs : b.size = ol.getD 1 0 := by rw [hb]; simpa [ByteArray.size] using hblen
      rw [← hb] at HP2
      have u4 := (hb5.cell (World.block_lt_of_cell? _ _ u2)).trans u2
      have u5 := (hb5.cell (World.block_lt_of_cell? _ _ u3)).trans u3
      have HB5 := Lib.hid (HB2.out.trans (hb5.mono HB2.out.size))
      clear hb5 u2 u3 d0 d1
      have q5 : y + z ≤ b.size := by omega
      have q6 : (y : Int) + (z : Int) ≤ (b.size : Int) := by omega
      have q8 : ((y : Int) + (z : Int)).toNat = y + z := by omega
      have q9 : (0 : Int) ≤ (y : Int) + (z : Int) := by omega
      have q10 : (y : Int) ≤ (y : Int) + (z : Int) := by omega
      have q11 : y ≤ b.size := by omega
      have hbb : b.size ≤ 400 := by omega
      have q7 : IntKind.u64.wrap ((y : Int) + (z : Int)) = (y : Int) + (z : Int) := by rw [IntKind.wrap_u64]; omega
      have HEX := Lib.hid (show (b.extract y (y + z)).size ≤ 1000000 by rw [ByteArray.size_extract]; exact Nat.le_trans (Nat.sub_le _ _) (by omega))
      clear hb hbs hblen hfp hy hz hn4
      go_wp2_with fail
      go_quiet (fail)
      go_wp2_with fail
      go_ret2
      exact ⟨⟨b.extract y (y + z), true, rfl, by rw [HP2.out]; rfl, HEX.out, fun s hs => by rw [HP2.out] at hs; cases hs; rfl⟩, HB5.out.trans ⟨rfl, rfl, rfl, Nat.le_refl _, fun _ _ => rfl⟩⟩
    · have HFP := Lib.hid (flat4_parts hf)
      have HR2 := Lib.hid (HR1.out.below HBX2.out)
      have HS2 := Lib.hid (HS.out.below HB2.out)
      have r2 : wc.cell? ⟨R, 2, none⟩ = some (.bool asks) := by have h := HR2.out; unfold RdAt at h; simp [World.cell?, h]
      clear hf
      go_wp2_with fail
      refine (shared_any R _ _ _ asks left S ol _ HR2.out HS2.out HWS.out HFP.out.1 HFP.out.2.1 HFP.out.2.2.1 HFP.out.2.2.2).mono ?_
      rintro e w5 ⟨⟨b, ok, rfl, hok, hbs, hbe⟩, hb5⟩
      have u4 := (hb5.cell (World.block_lt_of_cell? _ _ u2)).trans u2
      have u5 := (hb5.cell (World.block_lt_of_cell? _ _ u3)).trans u3
      have r5 := (hb5.cell (World.block_lt_of_cell? _ _ r2)).trans r2
      have HB5 := Lib.hid (HB2.out.trans (hb5.mono HB2.out.size))
      clear hb5 u2 u3 d0 d1 r2
      cases asks
      · have HP2 := Lib.hid (show partP false S m l = some ⟨#[]⟩ by rw [HP.out, if_neg (by decide), if_pos rfl])
        clear hok hbe
        go_wp2_with fail
        go_ret2
        exact ⟨⟨⟨#[]⟩, true, rfl, by rw [HP2.out]; rfl, by decide, fun s hs => by rw [HP2.out] at hs; cases hs; rfl⟩, HB5.out⟩
      · have HP2 := Lib.hid (show partP true S m l = (sharedP true S ol).map fun b => b.extract y (y + z) by rw [HP.out, if_neg (by decide), if_neg (by decide)])
        cases hsh : sharedP true S ol with
        | none =>
          rw [hsh] at hok
          subst hok
          have HP3 := Lib.hid (show partP true S m l = none by rw [HP2.out, hsh]; rfl)
          clear hsh hbe
          go_wp2_with fail
          go_ret2
          exact ⟨⟨⟨#[]⟩, false, rfl, by rw [HP3.out]; rfl, by decide, fun s hs => by rw [HP3.out] at hs; cases hs⟩, HB5.out⟩
        | some b' =>
          obtain rfl := hbe b' hsh
          rw [hsh] at hok
          subst hok
          have hbs2 : b'.size = ol.getD 3 0 := by
            unfold sharedP at hsh
            rw [if_neg (by decide)] at hsh
            split at hsh
            · cases hsh
            · split at hsh
              · rename_i q; cases hsh; exact q.2.2
              · cases hsh
          have HP3 := Lib.hid (show partP true S m l = some (b'.extract y (y + z)) by rw [HP2.out, hsh]; rfl)
          have q5 : y + z ≤ b'.size := by omega
          have q6 : (y : Int) + (z : Int) ≤ (b'.size : Int) := by omega
          have q8 : ((y : Int) + (z : Int)).toNat = y + z := by omega
          have q9 : (0 : Int) ≤ (y : Int) + (z : Int) := by omega
          have q10 : (y : Int) ≤ (y : Int) + (z : Int) := by omega
          have q11 : y ≤ b'.size := by omega
          have hbb : b'.size ≤ 400 := by have := HFP.out; omega
          have q7 : IntKind.u64.wrap ((y : Int) + (z : Int)) = (y : Int) + (z : Int) := by rw [IntKind.wrap_u64]; omega
          have HEX := Lib.hid (show (b'.extract y (y + z)).size ≤ 1000000 by rw [ByteArray.size_extract]; exact Nat.le_trans (Nat.sub_le _ _) (by omega))
          clear hsh hbs2 hy hz hn4 hbe
          go_wp2_with fail
          go_quiet (fail)
          go_wp2_with fail
          go_ret2
          exact ⟨⟨b'.extract y (y + z), true, rfl, by rw [HP3.out]; rfl, HEX.out, fun s hs => by rw [HP3.out] at hs; cases hs; rfl⟩, HB5.out.trans ⟨rfl, rfl, rfl, Nat.le_refl _, fun _ _ => rfl⟩⟩

end Go.Proofs.YtlmpmjhanpkcnaaGreat
