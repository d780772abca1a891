/-
  script.Print: the text of a program.
-/
import Derived.Test.YtohgkfnbjfhniaaDoorWl
import Derived.Laws.IdiomStrings
namespace Go.Proofs.YtohgkfnbjfhniaaDoor
open Go.RowKit Sp

def evT (e : Three) : List UInt8 := [101, 118] ++ numT [e.1, e.2.1, e.2.2] ++ [10]
def headT (b : List UInt8) (c : Three) : List UInt8 := [99, 111, 100, 101, 32] ++ hexP b ++ [10] ++ ([115, 101, 116] ++ numT [c.1, c.2.1, c.2.2] ++ [10])
def badE (es : List Three) : Bool := es.any fun e => badN [e.1, e.2.1, e.2.2]

/-- What Print answers: the text, and the error's number. -/
def printP (b : List UInt8) (c : Three) (es : List Three) : List UInt8 × Nat :=
  if (badN [c.1, c.2.1, c.2.2] || badE es) = true then ([], 2)
  else if 131072 < (headT b c ++ es.flatMap evT).length then ([], 3)
  else (headT b c ++ es.flatMap evT, 0)

theorem conv_bs {w : World} {v : Value} {l : List UInt8} (h : Bs w v l) : (convert 36 9 v).run Tryd.prog w = .ok (.string ⟨l.toArray⟩) w := by
  obtain ⟨a, cap, rfl, hc⟩ := h
  cases a with
  | none =>
    have : l = [] := by
      cases l with
      | nil => rfl
      | cons x r => obtain ⟨ad, q, _⟩ := hc 0 (by simp); cases q
    subst this
    exact run_convert_bytes_nil (P := Tryd.prog) w 36 5 Tryd.underlying36 Tryd.underlying5 _ _ 9 Tryd.underlying9
  | some ad =>
    refine run_convert_bytes_back (P := Tryd.prog) w 36 9 5 ad cap l Tryd.underlying36 Tryd.underlying5 Tryd.underlying9 (fun j hj => by obtain ⟨ad2, q, k⟩ := hc j hj; cases q; exact k)

theorem hexP_length (l : List UInt8) : (hexP l).length ≤ 2 * l.length + 1 := by
  unfold hexP
  split
  · simp
  · have : ∀ m : List UInt8, (m.flatMap fun b => [digitsH.getD (b.toNat / 16) 0, digitsH.getD (b.toNat % 16) 0]).length = 2 * m.length := by
      intro m; induction m with
      | nil => rfl
      | cons x r ih => simp only [List.flatMap_cons, List.length_append, ih]; simp; omega
    rw [this]; omega

theorem BW.start (w : World) (c : Array Value) (t : TypeId) : BW ((w.alloc (.cells c t)).alloc (.cells #[.pointer none, .slice none 0 0, .bool false] 83)) (w.heap.size + 2) (w.heap.size + 1) w.heap.size [] false := by
  refine ⟨.pointer none, .slice none 0 0, .inl rfl, ?_, World.ownsRow_nil _ _ _ _, by omega, by simp [Value.ownBlock], by omega⟩
  have h := heap_alloc_new (w.alloc (.cells c t)) (.cells #[.pointer none, .slice none 0 0, .bool false] 83)
  rw [show (w.alloc (.cells c t)).heap.size = w.heap.size + 1 by simp] at h; exact h

theorem hex_str (s : ByteArray) (hs : s.size ≤ 1000000) (w : World) : Calls Tryd.prog 11 #[.string s] w fun e w' => ∃ hx : ByteArray, e = .returned (.string hx) ∧ Hid (hx.toList = hexP s.toList) ∧ (hx.size : Int) ≤ 2000001 ∧ Below w.heap.size w w' := by
  refine (hex_any s (by omega) w).mono ?_
  rintro e w' ⟨rfl, hb⟩
  have := hexP_length s.toList
  rw [size_toList] at this
  exact ⟨_, rfl, Lib.hid (toList_mk _), by simp [ByteArray.size]; omega, hb⟩

def In64 (n : Int) : Prop := -9223372036854775808 ≤ n ∧ n ≤ 9223372036854775807

theorem three_len (x y z : Int) (h : In64 x ∧ In64 y ∧ In64 z) : (numT [x, y, z]).length ≤ 66 :=
  numT_length [x, y, z] (fun n hn => by
    simp only [List.mem_cons, List.mem_nil_iff, or_false] at hn
    rcases hn with rfl | rfl | rfl
    · exact h.1
    · exact h.2.1
    · exact h.2.2)

theorem evs_len : ∀ l : List Three, (∀ e ∈ l, In64 e.1 ∧ In64 e.2.1 ∧ In64 e.2.2) → (l.flatMap evT).length ≤ 69 * l.length
  | [], _ => by simp
  | e :: r, h => by
    have ih := evs_len r (fun m hm => h m (by simp [hm]))
    have h3 := three_len _ _ _ (h e (by simp))
    simp only [List.flatMap_cons, List.length_append, evT, List.length_cons, List.length_nil] at ih ⊢
    omega

set_option maxHeartbeats 8000000 in
set_option maxRecDepth 100000 in
theorem print_any (vb ve : Value) (b : List UInt8) (c0 c1 c2 : Int) (es : List Three) (w : World) (g : GW w) (h9 : 9 ≤ w.heap.size) (hb : Bs w vb b) (he : Es w ve es) (hbl : b.length ≤ 100000) (hel : es.length ≤ 1000000)
    (hc : In64 c0 ∧ In64 c1 ∧ In64 c2) (hes : ∀ e ∈ es, In64 e.1 ∧ In64 e.2.1 ∧ In64 e.2.2) :
    Calls Tryd.prog 24 #[vb, .agg #[.int .i64 c0, .int .i64 c1, .int .i64 c2], ve] w fun e w' => e = .returned (.tuple #[.string ⟨(printP b (c0, c1, c2) es).1.toArray⟩, .int .i64 (printP b (c0, c1, c2) es).2]) ∧ Below w.heap.size w w' := by
  obtain ⟨ea, ecap, rfl, hec⟩ := he
  have HG := Lib.hid g
  have HE := Lib.hid hec
  have HC := Lib.hid hc
  have HES := Lib.hid hes
  have b2 : Below w.heap.size w ((w.alloc (.cells #[.int .i64 c0, .int .i64 c1, .int .i64 c2] 38)).alloc (.cells #[.pointer none, .slice none 0 0, .bool false] 83)) := ((Below.refl _ _).alloc (Nat.le_refl _) _).alloc (by simp) _
  have B2 := Lib.hid b2
  have S2 := Lib.hid (BW.start w #[.int .i64 c0, .int .i64 c1, .int .i64 c2] 38)
  have hconv := conv_bs (hb.below (Below.drew b2))
  obtain ⟨lv, hlv⟩ : ∃ s : ByteArray, s = ⟨b.toArray⟩ := ⟨_, rfl⟩
  rw [← hlv] at hconv
  have hls : lv.size ≤ 1000000 := by rw [hlv]; simp [ByteArray.size]; omega
  have HLV := Lib.hid (show lv.toList = b by rw [hlv, toList_mk])
  clear g hec hc hes b2 hlv hb
  go_enter Tryd.func24, Tryd.ntmps24
  go_wp2_with fail
  have HSZ := Lib.hid (show w.heap.size < ((w.alloc (.cells #[.int .i64 c0, .int .i64 c1, .int .i64 c2] 38)).alloc (.cells #[.pointer none, .slice none 0 0, .bool false] 83)).heap.size by simp; omega)
  go_region_with (first
    | (go_at_call 11; refine (hex_str lv hls _).mono ?_; rintro e w5 ⟨hx, rfl, HX, hxs, hb5⟩
       have BW5 := Lib.hid ((S2.out.fr (Below.drew (Below.refl _ _))).fr hb5)
       have B5 := Lib.hid ((Below.drew B2.out).trans (hb5.mono (show w.heap.size ≤ _ from B2.out.size)))
       have s5 : w.heap.size + 2 ≤ w5.heap.size := by have := hb5.size; simp at this; omega
       have HB5 := Lib.hid (show w5.heap[w.heap.size]? = some (.cells #[.int .i64 c0, .int .i64 c1, .int .i64 c2] 38) by
         rw [hb5.block w.heap.size HSZ.out]
         exact (Below.heap_alloc _ _ _ (by simp)).trans (heap_alloc_new w _))
       clear hb5)
    | (go_at_call 36; refine (write_string (w.heap.size + 2) (w.heap.size + 1) w.heap.size [] false _ w5 BW5.out s5 (by omega) (by
         rw [ByteArray.size_append, ByteArray.size_append]
         have h2 : (⟨#[99, 111, 100, 101, 32]⟩ : ByteArray).size = 5 := rfl
         have h3 : (⟨#[10]⟩ : ByteArray).size = 1 := rfl
         simp only [List.length_nil]; omega)).mono ?_; rintro e w6 ⟨rfl, hb6, hL6, f6⟩
       have BW6 := Lib.hid hb6
       have HL6 := Lib.hid (hL6.trans HB5.out)
       have F6 := Lib.hid f6
       have s6 := f6.size
       clear hb6 hL6 f6))
  all_goals
    have k0 := block_cell HL6.out 0
    have k1 := block_cell HL6.out 1
    have k2 := block_cell HL6.out 2
    simp at k0 k1 k2
    have B6 := Lib.hid (Fr.below B5.out F6.out (fun i q => by omega) (by omega))
    have b7 := (Below.refl w6.heap.size w6).alloc (Nat.le_refl _) (.cells #[.int .i64 c0, .int .i64 c1, .int .i64 c2] 3)
    have hcat : ((((⟨#[99, 111, 100, 101, 32]⟩ : ByteArray) ++ hx) ++ ⟨#[10]⟩).toList) = [99, 111, 100, 101, 32] ++ hexP b ++ [10] := by
      rw [← HLV.out, ← HX.out, Lib.toList_data, Lib.toList_data, ByteArray.data_append, ByteArray.data_append]; simp
    have HBW := Lib.hid (show BW w6 (w.heap.size + 2) (w.heap.size + 1) w.heap.size ([99, 111, 100, 101, 32] ++ hexP b ++ [10]) false by
      have h := BW6.out
      rw [hcat] at h
      simpa using h)
    have hlen : ([99, 111, 100, 101, 32] ++ hexP b ++ [10]).length ≤ 900000000000 := by
      have := hexP_length b
      simp; omega
    clear hcat
    go_wp2_with fail
    refine (line_w (w.heap.size + 2) (w.heap.size + 1) w6.heap.size ([99, 111, 100, 101, 32] ++ hexP b ++ [10]) false ⟨#[115, 101, 116]⟩ [c0, c1, c2] 3 3 rfl (by omega) _ ((HG.out.below B6.out h9).below b7 (by omega)) (by omega) (HBW.out.beside b7 _ (Nat.le_refl _)) (by simp; omega) (by simp) (by simp [ByteArray.size]) hlen
      (fun n hn => by
        simp only [List.mem_cons, List.mem_nil_iff, or_false] at hn
        rcases hn with rfl | rfl | rfl
        · exact HC.out.1
        · exact HC.out.2.1
        · exact HC.out.2.2)
      (fun j hj => by
        rw [World.cell?_alloc_at (w := w6) _ _ _ _ rfl]
        match j, hj with
        | 0, _ => rfl
        | 1, _ => rfl
        | 2, _ => rfl)).mono ?_
    rintro e w7 ⟨rfl, hb7, f7⟩
    have BW7 := Lib.hid (show BW w7 (w.heap.size + 2) (w.heap.size + 1) w6.heap.size (headT b (c0, c1, c2)) (badN [c0, c1, c2]) by
      have e : (⟨#[115, 101, 116]⟩ : ByteArray).toList = [115, 101, 116] := by rw [Lib.toList_data]
      rw [e] at hb7
      simpa only [headT, List.append_assoc, Bool.false_or] using hb7)
    have B7 := Lib.hid (Fr.below (B6.out.trans (b7.mono (by omega))) f7 (fun i q => by omega) (by simp; omega))
    clear hb7 f7 b7
    have s7 : w.heap.size + 2 ≤ w7.heap.size := by
      have := BW7.out.tb; have h8 := B7.out.size; omega
    go_wp2_with fail
    go_loopw [33] (fun i wr => ∃ (k L : Nat), k ≤ es.length ∧ i = .int .i64 k ∧ Hid (BW wr (w.heap.size + 2) (w.heap.size + 1) L (headT b (c0, c1, c2) ++ (es.take k).flatMap evT) (badN [c0, c1, c2] || badE (es.take k))) ∧ Hid (Below w.heap.size w wr) ∧ w.heap.size + 2 ≤ wr.heap.size) (fun i _ => es.length - (intOf i).toNat)
    case atStart => exact ⟨0, w6.heap.size, by omega, rfl, Lib.hid (by simpa [badE] using BW7.out), B7, s7⟩
    case round =>
      obtain ⟨k, L, hk, rfl, HBK, HBel, hsz⟩ := hrel
      by_cases hlt : k < es.length
      · obtain ⟨ad, rfl, k0', k1', k2'⟩ := HE.out k hlt
        obtain ⟨⟨x, y, z⟩, hx⟩ : ∃ p, es[k] = p := ⟨_, rfl⟩
        rw [hx] at k0' k1' k2'
        have l0 := (HBel.out.cell (World.block_lt_of_cell? w _ k0')).trans k0'
        have l1 := (HBel.out.cell (World.block_lt_of_cell? w _ k1')).trans k1'
        have l2 := (HBel.out.cell (World.block_lt_of_cell? w _ k2')).trans k2'
        rw [← Addr.add_add] at l1 l2
        have a1 : ∀ x : Addr, x.add 1 = { x with off := x.off + 1, spot := none } := fun x => by simp [Addr.add]
        have a2 : ∀ x : Addr, x.add 2 = { x with off := x.off + 2, spot := none } := fun x => by simp [Addr.add]
        rw [a1] at l1
        rw [a2] at l2
        have HIN := Lib.hid (show In64 x ∧ In64 y ∧ In64 z by have h := HES.out es[k] (List.getElem_mem hlt); rw [hx] at h; exact h)
        have HTK := Lib.hid (show es.take (k + 1) = es.take k ++ [(x, y, z)] by rw [List.take_succ_eq_append_getElem hlt, hx])
        have hlen2 : (headT b (c0, c1, c2) ++ (es.take k).flatMap evT).length ≤ 900000000000 := by
          have h1 := evs_len (es.take k) (fun m hm => HES.out m (List.mem_of_mem_take hm))
          have h2 := hexP_length b
          have h3 := three_len c0 c1 c2 HC.out
          rw [List.length_take] at h1
          simp only [headT, List.length_append, List.length_cons, List.length_nil]
          omega
        have q1 : (k : Int) < (es.length : Int) := by omega
        have q2 : (0 : Int) ≤ (k : Int) := by omega
        have q3 : IntKind.i64.wrap ((k : Int) + 1) = (k : Int) + 1 := IntWalk.i64_in _ (by omega)
        clear a1 a2 k0' k1' k2' hx
        go_wp2_with fail
        have b8 := ((Below.refl wr.heap.size wr).alloc (Nat.le_refl _) (.cells #[.int .i64 x, .int .i64 y, .int .i64 z] 61)).alloc (by simp) (.cells #[.int .i64 x, .int .i64 y, .int .i64 z] 3)
        refine (line_w (w.heap.size + 2) (w.heap.size + 1) (wr.heap.size + 1) _ _ ⟨#[101, 118]⟩ [x, y, z] 3 3 rfl (by omega) _ ((HG.out.below HBel.out h9).below b8 (by omega)) (by omega) (HBK.out.beside b8 _ (by omega)) (by simp; omega) (by simp) (by simp [ByteArray.size]) hlen2
          (fun n hn => by
            simp only [List.mem_cons, List.mem_nil_iff, or_false] at hn
            rcases hn with rfl | rfl | rfl
            · exact HIN.out.1
            · exact HIN.out.2.1
            · exact HIN.out.2.2)
          (fun j hj => by
            rw [World.cell?_alloc_at _ _ _ _ (by simp)]
            match j, hj with
            | 0, _ => rfl
            | 1, _ => rfl
            | 2, _ => rfl)).mono ?_
        rintro e w8 ⟨rfl, hb8, f8⟩
        have BW8 := Lib.hid (show BW w8 (w.heap.size + 2) (w.heap.size + 1) (wr.heap.size + 1) (headT b (c0, c1, c2) ++ (es.take (k + 1)).flatMap evT) (badN [c0, c1, c2] || badE (es.take (k + 1))) by
          have e : (⟨#[101, 118]⟩ : ByteArray).toList = [101, 118] := by rw [Lib.toList_data]
          rw [e] at hb8
          rw [HTK.out]
          simpa only [evT, badE, List.flatMap_append, List.flatMap_cons, List.flatMap_nil, List.append_nil, List.append_assoc, List.any_append, List.any_cons, List.any_nil, Bool.or_false, Bool.or_assoc] using hb8)
        have B8 := Lib.hid (Fr.below (HBel.out.trans (b8.mono (by omega))) f8 (fun i q => by omega) (by simp; omega))
        have s8 : w.heap.size + 2 ≤ w8.heap.size := by have := f8.size; simp at this; omega
        clear hb8 f8 b8
        go_wp2_with fail
        go_roundw
        case rel => exact ⟨k + 1, wr.heap.size + 1, by omega, by go_num, BW8, B8, s8⟩
        case measure => simp [intOf]; omega
      · obtain rfl : k = es.length := by omega
        have HBE := Lib.hid (show BW wr (w.heap.size + 2) (w.heap.size + 1) L (headT b (c0, c1, c2) ++ es.flatMap evT) (badN [c0, c1, c2] || badE es) by
          have h := HBK.out; rwa [List.take_length] at h)
        obtain ⟨cb, fb⟩ := HBE.out.flag
        by_cases hbad : (badN [c0, c1, c2] || badE es) = true
        · rw [hbad] at cb
          have HP := Lib.hid (show printP b (c0, c1, c2) es = ([], 2) by unfold printP; rw [if_pos hbad])
          clear hbad
          go_wp2_with fail
          go_ret2
          exact ⟨by rw [HP.out]; rfl, HBel.out⟩
        · have hbad' : (badN [c0, c1, c2] || badE es) = false := by simpa using hbad
          rw [hbad'] at cb
          obtain ⟨T, hT⟩ : ∃ T, headT b (c0, c1, c2) ++ es.flatMap evT = T := ⟨_, rfl⟩
          have HBT := Lib.hid (show BW wr (w.heap.size + 2) (w.heap.size + 1) L T (badN [c0, c1, c2] || badE es) by rw [← hT]; exact HBE.out)
          have HPP := Lib.hid (show printP b (c0, c1, c2) es = if 131072 < T.length then ([], 3) else (T, 0) by unfold printP; rw [if_neg hbad, hT])
          have HT0 := Lib.hid (show T ≠ [] by rw [← hT]; simp [headT])
          clear hbad hbad' hT
          go_wp2_with fail
          refine (writer_len _ _ L _ _ wr HBT.out).mono ?_
          rintro e w8 ⟨rfl, rfl⟩
          by_cases hbig : 131072 < T.length
          · have q1 : (131072 : Int) < (T.length : Int) := by omega
            have HP := Lib.hid (show printP b (c0, c1, c2) es = ([], 3) by rw [HPP.out, if_pos hbig])
            go_wp2_with fail
            go_ret2
            exact ⟨by rw [HP.out]; rfl, HBel.out⟩
          · have q1 : ¬ (131072 : Int) < (T.length : Int) := by omega
            have HP := Lib.hid (show printP b (c0, c1, c2) es = (T, 0) by rw [HPP.out, if_neg hbig])
            go_wp2_with fail
            refine (writer_string _ _ L _ _ _ HBT.out HT0.out).mono ?_
            rintro e w9 ⟨rfl, hb9⟩
            have B9 := Lib.hid (HBel.out.trans (hb9.mono (by omega)))
            clear hb9
            go_wp2_with fail
            go_ret2
            exact ⟨by rw [HP.out]; rfl, B9.out⟩

end Go.Proofs.YtohgkfnbjfhniaaDoor
