/-
  Chapter 25's own Print.
-/
import Derived.Test.YtohgkfnbjfhniaaDoorRo
namespace Go.Proofs.YtohgkfnbjfhniaaDoor
open Go.RowKit Sp

theorem refHex_str (s : ByteArray) (hs : s.size ≤ 1000000) (w : World) : Calls Tryd.prog 14 #[.string s] w fun e w' => ∃ hx : ByteArray, e = .returned (.string hx) ∧ Hid (hx.toList = hexP s.toList) ∧ (hx.size : Int) ≤ 2000001 ∧ Below w.heap.size w w' := by
  refine (refHex_any s (by omega) w).mono ?_
  rintro e w' ⟨rfl, hb⟩
  have := hexP_length s.toList
  rw [size_toList] at this
  exact ⟨_, rfl, Lib.hid (toList_mk _), by simp [ByteArray.size]; omega, hb⟩

theorem line_size {t : ByteArray} {name : List UInt8} {x y z : Int} (ht : t.toList = name ++ numT [x, y, z] ++ [10]) (hn : name.length ≤ 10) (h : In64 x ∧ In64 y ∧ In64 z) : (t.size : Int) ≤ 77 := by
  have h3 := three_len x y z h
  rw [← size_toList, ht]
  simp only [List.length_append, List.length_cons, List.length_nil]
  omega

theorem three_at {w : World} {x y z : Int} (t t2 : TypeId) (o : Obj) : ∀ j, (hj : j < [x, y, z].length) → ((w.alloc o).alloc (.cells #[.int .i64 x, .int .i64 y, .int .i64 z] t)).cell? ⟨w.heap.size + 1, j, none⟩ = some (.int .i64 [x, y, z][j]) := by
  intro j hj
  rw [World.cell?_alloc_at _ _ _ _ (by simp)]
  match j, hj with
  | 0, _ => rfl
  | 1, _ => rfl
  | 2, _ => rfl

theorem one_at {w : World} {x y z : Int} (t : TypeId) : ∀ j, (hj : j < [x, y, z].length) → (w.alloc (.cells #[.int .i64 x, .int .i64 y, .int .i64 z] t)).cell? ⟨w.heap.size, j, none⟩ = some (.int .i64 [x, y, z][j]) := by
  intro j hj
  rw [World.cell?_alloc_at _ _ _ _ rfl]
  match j, hj with
  | 0, _ => rfl
  | 1, _ => rfl
  | 2, _ => rfl

set_option maxHeartbeats 8000000 in
set_option maxRecDepth 100000 in
theorem refPrint_any (vb ve : Value) (b : List UInt8) (c0 c1 c2 : Int) (es : List Three) (w : World) (hb : Bs w vb b) (he : Es w ve es) (hbl : b.length ≤ 100000) (hel : es.length ≤ 1000000)
    (hc : In64 c0 ∧ In64 c1 ∧ In64 c2) (hes : ∀ e ∈ es, In64 e.1 ∧ In64 e.2.1 ∧ In64 e.2.2) :
    Calls Tryd.prog 25 #[vb, .agg #[.int .i64 c0, .int .i64 c1, .int .i64 c2], ve] w fun e w' => e = .returned (.tuple #[.string ⟨(printP b (c0, c1, c2) es).1.toArray⟩, .int .i64 (printP b (c0, c1, c2) es).2]) ∧ Below w.heap.size w w' := by
  obtain ⟨ea, ecap, rfl, hec⟩ := he
  have HE := Lib.hid hec
  have HC := Lib.hid hc
  have HES := Lib.hid hes
  have b2 : Below w.heap.size w ((w.alloc (.cells #[.int .i64 c0, .int .i64 c1, .int .i64 c2] 38)).alloc (.cells #[.int .i64 c0, .int .i64 c1, .int .i64 c2] 3)) := ((Below.refl _ _).alloc (Nat.le_refl _) _).alloc (by simp) _
  have B2 := Lib.hid b2
  have hconv := conv_bs (hb.below b2)
  obtain ⟨lv, hlv⟩ : ∃ s : ByteArray, s = ⟨b.toArray⟩ := ⟨_, rfl⟩
  rw [← hlv] at hconv
  have hls : lv.size ≤ 1000000 := by rw [hlv]; simp [ByteArray.size]; omega
  have HLV := Lib.hid (show lv.toList = b by rw [hlv, toList_mk])
  clear hec hc hes b2 hlv hb
  go_enter Tryd.func25, Tryd.ntmps25
  go_wp2_with fail
  refine (refLine_any ⟨#[115, 101, 116]⟩ (by simp [ByteArray.size]) (w.heap.size + 1) 3 3 [c0, c1, c2] rfl (by omega) _ (three_at 3 38 _)).mono ?_
  rintro e w1 ⟨⟨t, rfl, ht⟩, rfl⟩
  by_cases hbad : badN [c0, c1, c2] = true
  · have HP := Lib.hid (show printP b (c0, c1, c2) es = ([], 2) by unfold printP; rw [if_pos (by simp [hbad])])
    simp only [hbad, Bool.not_true]
    clear hbad ht
    go_wp2_with fail
    go_ret2
    exact ⟨by rw [HP.out]; rfl, B2.out⟩
  · have hbad' : badN [c0, c1, c2] = false := by simpa using hbad
    have HB0 := Lib.hid hbad'
    simp only [hbad', Bool.not_false]
    have ht' := ht hbad'
    rw [show (⟨#[115, 101, 116]⟩ : ByteArray).toList = [115, 101, 116] by rw [Lib.toList_data]] at ht'
    have HT := Lib.hid ht'
    have hts := line_size ht' (by simp) HC.out
    clear hbad hbad' ht ht'
    go_wp2_with fail
    refine (refHex_str lv hls _).mono ?_
    rintro e w5 ⟨hx, rfl, HX, hxs, hb5⟩
    have B5 := Lib.hid (B2.out.trans (hb5.mono B2.out.size))
    clear hb5
    have z5 : (⟨#[99, 111, 100, 101, 32]⟩ : ByteArray).size = 5 := rfl
    have z1 : (⟨#[10]⟩ : ByteArray).size = 1 := rfl
    obtain ⟨S, hS⟩ : ∃ S : ByteArray, ((((⟨#[99, 111, 100, 101, 32]⟩ : ByteArray) ++ hx) ++ ⟨#[10]⟩) ++ t) = S := ⟨_, rfl⟩
    have HS := Lib.hid (show S.toList = headT b (c0, c1, c2) by
      rw [← hS, Lib.toList_data, ByteArray.data_append, ByteArray.data_append, ByteArray.data_append]
      have h1 := HX.out
      have h2 := HT.out
      rw [Lib.toList_data] at h1 h2
      rw [HLV.out] at h1
      simp only [Array.toList_append, h1, h2, headT, List.append_assoc])
    have hSs : (S.size : Int) ≤ 3000000 := by
      rw [← hS]; simp only [ByteArray.size_append, z5, z1]; omega
    have hcv : (convert 9 36 (.string ((((⟨#[99, 111, 100, 101, 32]⟩ : ByteArray) ++ hx) ++ ⟨#[10]⟩) ++ t))).run Tryd.prog w5 = .ok (.slice (some ⟨w5.heap.size, 0, none⟩) S.size (grownCap w5 S.size 0 5)) (Lib.bytesWorld w5 5 S) := by rw [hS]; exact conv_str S w5
    have HOT := Lib.hid (OT.of_bytes S (by omega) w5 w.heap.size B5.out.size)
    have BB := Lib.hid (B5.out.trans ((below_bytesW w5 S).mono B5.out.size))
    clear hS
    go_wp2_with fail
    go_loopw [10, 11] (fun s i wr => ∃ (k : Nat), k ≤ es.length ∧ i = .int .i64 k ∧ Hid (OT wr w.heap.size s (headT b (c0, c1, c2) ++ (es.take k).flatMap evT)) ∧ Hid (Below w.heap.size w wr) ∧ Hid (badE (es.take k) = false)) (fun _ i _ => es.length - (intOf i).toNat)
    case atStart => exact ⟨0, by omega, rfl, Lib.hid (by have h := HOT.out; rw [HS.out] at h; simpa using h), BB, Lib.hid (by simp [badE])⟩
    case round =>
      obtain ⟨k, hk, rfl, HK, HBel, HBD⟩ := hrel
      by_cases hlt : k < es.length
      · obtain ⟨ad, rfl, k0', k1', k2'⟩ := HE.out k hlt
        obtain ⟨⟨x, y, z⟩, hx⟩ : ∃ p, es[k] = p := ⟨_, rfl⟩
        rw [hx] at k0' k1' k2'
        have l0 := (HBel.out.cell (World.block_lt_of_cell? w _ k0')).trans k0'
        have l1 := (HBel.out.cell (World.block_lt_of_cell? w _ k1')).trans k1'
        have l2 := (HBel.out.cell (World.block_lt_of_cell? w _ k2')).trans k2'
        rw [← Addr.add_add] at l1 l2
        have a1 : ∀ x : Addr, x.add 1 = { x with off := x.off + 1, spot := none } := fun x => by simp [Addr.add]
        have a2 : ∀ x : Addr, x.add 2 = { x with off := x.off + 2, spot := none } := fun x => by simp [Addr.add]
        rw [a1] at l1
        rw [a2] at l2
        have HIN := Lib.hid (show In64 x ∧ In64 y ∧ In64 z by have h := HES.out es[k] (List.getElem_mem hlt); rw [hx] at h; exact h)
        have HTK := Lib.hid (show es.take (k + 1) = es.take k ++ [(x, y, z)] by rw [List.take_succ_eq_append_getElem hlt, hx])
        have HIE := Lib.hid (show badN [x, y, z] = true → badE es = true from fun q => by
          unfold badE; rw [List.any_eq_true]; exact ⟨es[k], List.getElem_mem hlt, by rw [hx]; exact q⟩)
        have hlen2 : (headT b (c0, c1, c2) ++ (es.take k).flatMap evT).length ≤ 900000000000 := by
          have h1 := evs_len (es.take k) (fun m hm => HES.out m (List.mem_of_mem_take hm))
          have h2 := hexP_length b
          have h3 := three_len c0 c1 c2 HC.out
          rw [List.length_take] at h1
          simp only [headT, List.length_append, List.length_cons, List.length_nil]
          omega
        have q1 : (k : Int) < (es.length : Int) := by omega
        have q2 : (0 : Int) ≤ (k : Int) := by omega
        have q3 : IntKind.i64.wrap ((k : Int) + 1) = (k : Int) + 1 := IntWalk.i64_in _ (by omega)
        have hbw : w.heap.size ≤ wr.heap.size := HBel.out.size
        clear a1 a2 k0' k1' k2' hx hconv hcv
        go_wp2_with fail
        have m : ∀ (p : Addr) (v : Value), wr.cell? p = some v → ∀ o, (wr.alloc o).cell? p = some v := fun p v h o => ((Below.refl wr.heap.size wr).alloc (Nat.le_refl _) o).cell (World.block_lt_of_cell? _ _ h) |>.trans h
        have m0 := m _ _ l0 (.cells #[.int .i64 x, .int .i64 y, .int .i64 z] 3)
        have m1 := m _ _ l1 (.cells #[.int .i64 x, .int .i64 y, .int .i64 z] 3)
        have m2 := m _ _ l2 (.cells #[.int .i64 x, .int .i64 y, .int .i64 z] 3)
        clear m
        go_region_held3 (fun w' => w'.cell? (ad.add (k * 3)) = some (.int .i64 x) ∧ w'.cell? { block := (ad.add (k * 3)).block, off := (ad.add (k * 3)).off + 1, spot := none } = some (.int .i64 y) ∧ w'.cell? { block := (ad.add (k * 3)).block, off := (ad.add (k * 3)).off + 2, spot := none } = some (.int .i64 z))
          (first | exact ⟨l0, l1, l2⟩ | exact ⟨m0, m1, m2⟩ | go_keep)
          (first | (go_at_call 40; refine (refLine_any ⟨#[101, 118]⟩ (by simp [ByteArray.size]) wr.heap.size 3 3 [x, y, z] rfl (by omega) ((wr.alloc (.cells #[.int .i64 x, .int .i64 y, .int .i64 z] 3)).drew) (fun j hj => one_at (w := wr) 3 j hj)).mono ?_; rintro e w6 ⟨⟨t2, rfl, ht2⟩, rfl⟩))
        have b6 : Below wr.heap.size wr (wr.alloc (.cells #[.int .i64 x, .int .i64 y, .int .i64 z] 3)).drew := Below.drew ((Below.refl wr.heap.size wr).alloc (Nat.le_refl _) _)
        have B6 := Lib.hid (HBel.out.trans (b6.mono hbw))
        have HK6 := Lib.hid (HK.out.below b6)
        clear b6 m0 m1 m2 l0 l1 l2
        by_cases hbd : badN [x, y, z] = true
        · have HP := Lib.hid (show printP b (c0, c1, c2) es = ([], 2) by unfold printP; rw [if_pos (by rw [HIE.out hbd]; simp)])
          simp only [hbd, Bool.not_true]
          clear hbd ht2
          go_wp2_with fail
          go_ret2
          exact ⟨by rw [HP.out]; rfl, B6.out⟩
        · have hbd' : badN [x, y, z] = false := by simpa using hbd
          have ht2' := ht2 hbd'
          rw [show (⟨#[101, 118]⟩ : ByteArray).toList = [101, 118] by rw [Lib.toList_data]] at ht2'
          have HT2 := Lib.hid ht2'
          have HB2 := Lib.hid hbd'
          have ht2s := line_size ht2' (by simp) HIN.out
          simp only [hbd', Bool.not_false]
          clear hbd hbd' ht2 ht2'
          go_wp2_with (at_builtin; refine wpList_append_ot rfl (.tmp 63) (.tmp 64) rfl w.heap.size u10 _ rfl HK6.out t2 rfl (by omega) (by have := B6.out.size; omega) ?_; intro v7 w7 hown7 hgrow7
                       have HK7 := Lib.hid hown7
                       have B7 := Lib.hid (B6.out.grown hgrow7 B6.out.size (fun j hj => (HK6.out.own j hj).1))
                       clear hown7 hgrow7)
          go_roundw
          case rel => exact ⟨k + 1, by omega, by go_num, Lib.hid (by
            have h := HK7.out
            rw [HT2.out] at h
            rw [HTK.out]
            simpa only [evT, List.flatMap_append, List.flatMap_cons, List.flatMap_nil, List.append_nil, List.append_assoc] using h), B7, Lib.hid (by
            rw [HTK.out]
            have h1 := HBD.out
            have h2 := HB2.out
            unfold badE at h1 ⊢
            rw [List.any_append, h1]
            simp only [List.any_cons, List.any_nil, h2, Bool.or_false])⟩
          case measure => simp [intOf]; omega
      · obtain rfl : k = es.length := by omega
        obtain ⟨Tl, hTl⟩ : ∃ Tl, headT b (c0, c1, c2) ++ es.flatMap evT = Tl := ⟨_, rfl⟩
        have HKE := Lib.hid (show OT wr w.heap.size u10 Tl by have h := HK.out; rwa [List.take_length, hTl] at h)
        have HPP := Lib.hid (show printP b (c0, c1, c2) es = if 131072 < Tl.length then ([], 3) else (Tl, 0) by
          have h1 := HBD.out
          rw [List.take_length] at h1
          unfold printP; rw [if_neg (by rw [HB0.out, h1]; simp), hTl])
        clear hTl hconv hcv HK
        obtain ⟨g, cap, cur, fz, hu, _⟩ := HKE.out
        subst hu
        have hcv := conv_bs HKE.out.bs
        by_cases hbig : 131072 < Tl.length
        · have q1 : (131072 : Int) < (Tl.length : Int) := by omega
          have HP := Lib.hid (show printP b (c0, c1, c2) es = ([], 3) by rw [HPP.out, if_pos hbig])
          go_wp2_with fail
          go_ret2
          exact ⟨by rw [HP.out]; rfl, HBel.out⟩
        · have q1 : ¬ (131072 : Int) < (Tl.length : Int) := by omega
          have HP := Lib.hid (show printP b (c0, c1, c2) es = (Tl, 0) by rw [HPP.out, if_neg hbig])
          go_wp2_with fail
          go_ret2
          exact ⟨by rw [HP.out]; rfl, HBel.out⟩

end Go.Proofs.YtohgkfnbjfhniaaDoor
