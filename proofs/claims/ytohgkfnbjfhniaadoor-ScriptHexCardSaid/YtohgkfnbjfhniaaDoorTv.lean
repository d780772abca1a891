/-
  A term's bytes as chapter 7's own answer lays them.
-/
import Derived.Test.YtohgkfnbjfhniaaDoorTw
import Derived.Deep.CutBlock
namespace Go.Proofs.YtohgkfnbjfhniaaDoor
open Go.RowKit Sp

theorem refput_at (base m u : Nat) (mi ui : Int) (hmi : mi = (m : Int)) (hui : ui = (u : Int)) (v : Value) (bs : List UInt8) (w : World) (hrow : Row w base v bs) (hm : m ≤ 8) (hu : u < 18446744073709551616) (hl : bs.length + m ≤ 1000000000) (hbase : base ≤ w.heap.size) :
    Calls Tryd.prog 61 #[v, .int .u64 ui, .int .i64 mi] w fun e w' => ∃ v', e = .returned v' ∧ Row w' base v' (bs ++ putP u m) ∧ OG w w' v v' := by
  subst hmi hui; exact refPut_any base m u v bs w hrow hm hu hl hbase

theorem flag_any (b : Bool) (w : World) : Calls Tryd.prog 62 #[.bool b] w fun e w' => e = .returned (.int .u64 (if b then 1 else 0)) ∧ w' = w := by
  cases b
  all_goals
    go_enter Tryd.func62, Tryd.ntmps62
    go_wp2_with fail
    go_ret
    exact ⟨rfl, rfl⟩

theorem flag_false (w : World) : Calls Tryd.prog 62 #[.bool false] w fun e w' => e = .returned (.int .u64 0) ∧ w' = w := flag_any false w
theorem flag_true (w : World) : Calls Tryd.prog 62 #[.bool true] w fun e w' => e = .returned (.int .u64 1) ∧ w' = w := flag_any true w

theorem one_byte {n : Int} {u : Nat} (hu : n % 256 = ((u % 256 : Nat) : Int)) : putP u 1 = [UInt8.ofNat (n % 256).toNat] := by
  simp only [putP, Nat.mul_zero, Nat.shiftRight_zero]
  congr 1
  have e : (n % 256).toNat = u % 256 := by omega
  rw [e]
  apply UInt8.toNat_inj.1
  rw [UInt8.toNat_ofNat', UInt8.toNat_ofNat']
  omega

theorem one_byte_nat (u : Nat) : putP u 1 = [UInt8.ofNat u] := by
  simp [putP]

set_option maxHeartbeats 2000000 in
set_option maxRecDepth 100000 in
theorem reflay_of (k n : Int) (neg : Bool) (mag : List Nat) (bits : Nat) (bytes : ByteArray) (args : List Tm) (ih : ∀ t ∈ args, LayOk 45 t) : LayOk 45 (.mk k n neg mag bits bytes args) := by
  intro tv v bs base w0 w ht hrt hrow hlen hbase h0b hb0
  obtain ⟨i0, hi, hz0, hz1, hz2⟩ := info_parts info5
  obtain ⟨k2, n2, neg2, mag2, bits2, bytes2, args2, mv, av, he, rfl, hk, hn2, hm, hml, hu, hbt, hsz, hts⟩ := ht.open
  cases he
  obtain ⟨ma, mcap, rfl, hmc⟩ := hm
  obtain ⟨hl, a, acap, rfl, hc⟩ := hts
  obtain ⟨hhead, hbare, hrights⟩ := right_parts hrt
  have HC := Lib.hid hc
  have HMC := Lib.hid hmc
  have HI := Lib.hid ih
  have HU := Lib.hid hu
  have HB0 := Lib.hid hb0
  have HHD := Lib.hid hhead
  have HRS := Lib.hid (rights_mem hrights)
  have HLAY := Lib.hid (lay_right hrt)
  have hbl : bs.length + 1 + (bodyP k n neg mag bits bytes args.length).length + (lays args).length ≤ 1000000000 := by
    rw [HLAY.out] at hlen
    simp only [List.length_append, List.length_cons] at hlen
    omega
  have HS0 := Lib.hid (LS.start hrow #[.int .i64 k, .int .i64 n, .bool neg, .slice ma mag.length mcap, .int .u64 bits, .string bytes, .slice a args.length acap])
  have HBASEV := Lib.hid (fun q e => (hrow.lt q e).1)
  clear ih ht hu hc hmc hb0 hhead hbare hrights hrt hlen hrow
  unfold maxLen at hl hml hsz
  unfold termV
  go_enter Tryd.func45, Tryd.ntmps45
  go_upto_region 2 with (at_builtin; refine wpList_append_own_at _ rfl (.tmp 7) (.tmp 11) 36 rfl base 5 i0 (.int .u8 0) 1 1 Tryd.underlying36 hi hz0 hz1 hz2 rfl (by decide) v _ _ rfl (World.ownsRow.alloc HS0.out.1 _) _ 1 1 [.int .u8 (k % 256)] rfl rfl (cell_one_at _ _ (by first | rfl | (simp; done)) _ _) (u8_one _) (by unfold maxLen; omega) (by omega) (by simp; omega) ?_; intro v1 w1 hown1 hgrow1 _ hloc1; have HS1 := Lib.hid (HS0.out.step (row_snoc hown1 (mod_byte k)) ((OG.refl _ _).grew hgrow1 hloc1)); clear hown1 hgrow1 hloc1)
  have d0 := HS1.out.cell 0
  have d1 := HS1.out.cell 1
  have d2 := HS1.out.cell 2
  have d3 := HS1.out.cell 3
  have d4 := HS1.out.cell 4
  have d5 := HS1.out.cell 5
  have d6 := HS1.out.cell 6
  simp at d0 d1 d2 d3 d4 d5 d6
  have sz1 : base ≤ w1.heap.size := Nat.le_trans hbase HS1.out.size
  have hl1 : (bs ++ [UInt8.ofNat (k % 256).toNat]).length = bs.length + 1 := by rw [List.length_append]; rfl
  go_upto_block 0 with fail
  go_cut [0, 5] from 7 to 85 (fun s s5 wx => Hid (LS w wx w.heap.size base #[.int .i64 k, .int .i64 n, .bool neg, .slice ma mag.length mcap, .int .u64 bits, .string bytes, .slice a args.length acap] v s ((bs ++ [UInt8.ofNat (k % 256).toNat]) ++ bodyP k n neg mag bits bytes args.length)))
  case first =>
    by_cases k1 : k = 1
    · subst k1
      obtain ⟨u, hu⟩ : ∃ u : Nat, IntKind.u64.wrap n = (u : Int) := ⟨(IntKind.u64.wrap n).toNat, by rw [IntKind.wrap_u64]; omega⟩
      have hub : u < 18446744073709551616 := by rw [IntKind.wrap_u64] at hu; omega
      have HUU := Lib.hid (show n % 18446744073709551616 = (u : Int) by rwa [IntKind.wrap_u64] at hu)
      have HE := Lib.hid (show bodyP 1 n neg mag bits bytes args.length = putP u 8 by 
        have : (n % 18446744073709551616).toNat = u := by have := HUU.out; omega
        simp [bodyP, this])
      have h8 : (bs ++ [UInt8.ofNat ((1 : Int) % 256).toNat]).length + 8 ≤ 1000000000 := by
        have h := hbl
        rw [HE.out, putP_length] at h
        omega
      go_wp2_with fail
      refine (refput_at base 8 u 8 u rfl rfl v1 _ w1 HS1.out.1 (by omega) hub h8 sz1).mono ?_
      rintro e w2 ⟨v2, rfl, hr2, ho2⟩
      have HF := Lib.hid (HS1.out.step hr2 ho2)
      clear hr2 ho2
      go_wp2_with fail
      go_meet
      rw [HE.out]
      exact HF
    have b1 : (k == 1) = false := by simp [k1]
    by_cases k4 : k = 4
    · subst k4
      obtain ⟨u, hu⟩ : ∃ u : Nat, IntKind.u64.wrap n = (u : Int) := ⟨(IntKind.u64.wrap n).toNat, by rw [IntKind.wrap_u64]; omega⟩
      have hub : u < 18446744073709551616 := by rw [IntKind.wrap_u64] at hu; omega
      have HUU := Lib.hid (show n % 18446744073709551616 = (u : Int) by rwa [IntKind.wrap_u64] at hu)
      have HE := Lib.hid (show bodyP 4 n neg mag bits bytes args.length = putP u 1 by 
        rw [one_byte (n := n) (by have := HUU.out; omega)]
        simp [bodyP])
      have h8 : (bs ++ [UInt8.ofNat ((4 : Int) % 256).toNat]).length + 1 ≤ 1000000000 := by
        have h := hbl
        rw [HE.out, putP_length] at h
        omega
      go_wp2_with fail
      refine (refput_at base 1 u 1 u rfl rfl v1 _ w1 HS1.out.1 (by omega) hub h8 sz1).mono ?_
      rintro e w2 ⟨v2, rfl, hr2, ho2⟩
      have HF := Lib.hid (HS1.out.step hr2 ho2)
      clear hr2 ho2
      go_wp2_with fail
      go_meet
      rw [HE.out]
      exact HF
    have b4 : (k == 4) = false := by simp [k4]
    by_cases k5 : k = 5
    · subst k5
      obtain ⟨u, hu⟩ : ∃ u : Nat, IntKind.u64.wrap n = (u : Int) := ⟨(IntKind.u64.wrap n).toNat, by rw [IntKind.wrap_u64]; omega⟩
      have hub : u < 18446744073709551616 := by rw [IntKind.wrap_u64] at hu; omega
      have HUU := Lib.hid (show n % 18446744073709551616 = (u : Int) by rwa [IntKind.wrap_u64] at hu)
      have HE := Lib.hid (show bodyP 5 n neg mag bits bytes args.length = putP u 1 by 
        rw [one_byte (n := n) (by have := HUU.out; omega)]
        simp [bodyP])
      have h8 : (bs ++ [UInt8.ofNat ((5 : Int) % 256).toNat]).length + 1 ≤ 1000000000 := by
        have h := hbl
        rw [HE.out, putP_length] at h
        omega
      go_wp2_with fail
      refine (refput_at base 1 u 1 u rfl rfl v1 _ w1 HS1.out.1 (by omega) hub h8 sz1).mono ?_
      rintro e w2 ⟨v2, rfl, hr2, ho2⟩
      have HF := Lib.hid (HS1.out.step hr2 ho2)
      clear hr2 ho2
      go_wp2_with fail
      go_meet
      rw [HE.out]
      exact HF
    have b5 : (k == 5) = false := by simp [k5]
    by_cases k2 : k = 2
    · subst k2
      have HE := Lib.hid (show bodyP 2 n neg mag bits bytes args.length = [if neg then 1 else 0, UInt8.ofNat mag.length] ++ mag.flatMap (fun x => putP x 4) by simp [bodyP])
      have HMAY := Lib.hid (show mag.length ≤ 8 by
        have h := HHD.out
        simp [headP, numMayP] at h
        exact h.1.1)
      have h8 : (bs ++ [UInt8.ofNat ((2 : Int) % 256).toNat]).length + 2 + 4 * mag.length ≤ 1000000000 := by
        have h := hbl
        rw [HE.out, List.length_append, flat_put] at h
        simp only [List.length_cons, List.length_nil] at h
        omega
      have HD1 := Lib.hid HS1.out.drew
      have qw : IntKind.u64.wrap (mag.length : Int) = (mag.length : Int) := by rw [IntKind.wrap_u64]; omega
      cases neg
      · have HE2 := Lib.hid (show bodyP 2 n false mag bits bytes args.length = putP 0 1 ++ putP mag.length 1 ++ mag.flatMap (fun x => putP x 4) by
          rw [HE.out, one_byte_nat, one_byte_nat]; rfl)
        have hlm : (((bs ++ [UInt8.ofNat ((2 : Int) % 256).toNat]) ++ putP 0 1) ++ putP mag.length 1).length + 4 * mag.length ≤ 1000000000 := by
          rw [List.length_append, List.length_append, putP_length, putP_length]; omega
        go_wp2_with fail
        go_region_held3 (fun w' => w'.cell? ⟨w.heap.size, 2, none⟩ = some (.bool false) ∧ w'.cell? ⟨w.heap.size, 3, none⟩ = some (.slice ma mag.length mcap)) (first | exact ⟨d2, d3⟩ | exact ⟨e2, e3⟩ | exact ⟨f2, f3⟩ | go_keep) (first
          | (go_at_call 62; refine (flag_false w1.drew).mono ?_; rintro e wf ⟨rfl, rfl⟩)
          | (go_at_call 61; (fail_if_success (have hh := v2)); refine (refput_at base 1 0 1 0 rfl rfl v1 _ w1.drew HD1.out.1 (by omega) (by omega) (by omega) sz1).mono ?_; rintro e w2 ⟨v2, rfl, hr2, ho2⟩; have HS2 := Lib.hid (HD1.out.step hr2 ho2); have e2 := HS2.out.cell 2; have e3 := HS2.out.cell 3; simp at e2 e3; have sz2 := Nat.le_trans hbase HS2.out.size; clear hr2 ho2)
          | (go_at_call 61; refine (refput_at base 1 mag.length 1 mag.length rfl rfl v2 _ w2 HS2.out.1 (by omega) (by omega) (by rw [List.length_append, putP_length]; omega) sz2).mono ?_; rintro e w3 ⟨v3, rfl, hr3, ho3⟩; have HS3 := Lib.hid (HS2.out.step hr3 ho3); have f2 := HS3.out.cell 2; have f3 := HS3.out.cell 3; simp at f2 f3; clear hr3 ho3))
        go_wp2_with fail
        go_loopw [0, 5] (fun s i wr => ∃ (j : Nat), j ≤ mag.length ∧ i = .int .i64 j ∧ Hid (LS w wr w.heap.size base #[.int .i64 2, .int .i64 n, .bool false, .slice ma mag.length mcap, .int .u64 bits, .string bytes, .slice a args.length acap] v s ((((bs ++ [UInt8.ofNat ((2 : Int) % 256).toNat]) ++ putP 0 1) ++ putP mag.length 1) ++ (mag.take j).flatMap (fun x => putP x 4)))) (fun _ i _ => mag.length - (intOf i).toNat)
        case atStart => exact ⟨0, by omega, rfl, Lib.hid (by simpa using HS3.out)⟩
        case round =>
          obtain ⟨j, hj, rfl, HK⟩ := hrel
          have r3 := HK.out.cell 3
          simp at r3
          have szr : base ≤ wr.heap.size := Nat.le_trans hbase HK.out.size
          by_cases hlt' : j < mag.length
          · obtain ⟨g, o, rfl, p0⟩ := HMC.out j hlt'
            have B0 := HB0.out.trans ((HK.out.2.1.below HBASEV.out hbase).mono h0b)
            have l0 := (B0.cell (World.block_lt_of_cell? w0 _ p0)).trans p0
            have q4 : (j : Int) < (mag.length : Int) := by omega
            have q5 : (0 : Int) ≤ (j : Int) := by omega
            have q6 : IntKind.i64.wrap ((j : Int) + 1) = (j : Int) + 1 := IntWalk.i64_in _ (by omega)
            have hx := HU.out _ (List.getElem_mem hlt')
            have HTK := Lib.hid (show mag.take (j + 1) = mag.take j ++ [mag[j]] from List.take_succ_eq_append_getElem hlt')
            have HPL := Lib.hid (put_len hlt' hlm)
            obtain ⟨x, hxx⟩ : ∃ x, mag[j] = x := ⟨_, rfl⟩
            rw [hxx] at l0 hx HTK
            clear p0 B0 hxx
            go_wp2_with fail
            refine (refput_at base 4 x 4 x rfl rfl _ _ wr HK.out.1 (by omega) (by omega) (by have h := HPL.out; rw [List.length_append]; exact h) szr).mono ?_
            rintro e w5 ⟨v5, rfl, hr5, ho5⟩
            have HK5 := Lib.hid (HK.out.step hr5 ho5)
            clear hr5 ho5
            go_wp2_with fail
            go_roundw
            case rel => exact ⟨j + 1, by omega, by go_num, Lib.hid (by
              have h := HK5.out
              rw [HTK.out, List.flatMap_append, ← List.append_assoc]
              simpa using h)⟩
            case measure => simp [intOf]; omega
          · obtain rfl : j = mag.length := by omega
            have q4 : ¬ ((mag.length : Nat) : Int) < (mag.length : Int) := by omega
            have HKE := Lib.hid (show LS w wr w.heap.size base _ v u0 ((bs ++ [UInt8.ofNat ((2 : Int) % 256).toNat]) ++ bodyP 2 n false mag bits bytes args.length) by
              have h := HK.out
              rw [List.take_length] at h
              rw [HE2.out, ← List.append_assoc, ← List.append_assoc]; exact h)
            go_wp2_with fail
            go_meet
            exact HKE
      · have HE2 := Lib.hid (show bodyP 2 n true mag bits bytes args.length = putP 1 1 ++ putP mag.length 1 ++ mag.flatMap (fun x => putP x 4) by
          rw [HE.out, one_byte_nat, one_byte_nat]; rfl)
        have hlm : (((bs ++ [UInt8.ofNat ((2 : Int) % 256).toNat]) ++ putP 1 1) ++ putP mag.length 1).length + 4 * mag.length ≤ 1000000000 := by
          rw [List.length_append, List.length_append, putP_length, putP_length]; omega
        go_wp2_with fail
        go_region_held3 (fun w' => w'.cell? ⟨w.heap.size, 2, none⟩ = some (.bool true) ∧ w'.cell? ⟨w.heap.size, 3, none⟩ = some (.slice ma mag.length mcap)) (first | exact ⟨d2, d3⟩ | exact ⟨e2, e3⟩ | exact ⟨f2, f3⟩ | go_keep) (first
          | (go_at_call 62; refine (flag_true w1.drew).mono ?_; rintro e wf ⟨rfl, rfl⟩)
          | (go_at_call 61; (fail_if_success (have hh := v2)); refine (refput_at base 1 1 1 1 rfl rfl v1 _ w1.drew HD1.out.1 (by omega) (by omega) (by omega) sz1).mono ?_; rintro e w2 ⟨v2, rfl, hr2, ho2⟩; have HS2 := Lib.hid (HD1.out.step hr2 ho2); have e2 := HS2.out.cell 2; have e3 := HS2.out.cell 3; simp at e2 e3; have sz2 := Nat.le_trans hbase HS2.out.size; clear hr2 ho2)
          | (go_at_call 61; refine (refput_at base 1 mag.length 1 mag.length rfl rfl v2 _ w2 HS2.out.1 (by omega) (by omega) (by rw [List.length_append, putP_length]; omega) sz2).mono ?_; rintro e w3 ⟨v3, rfl, hr3, ho3⟩; have HS3 := Lib.hid (HS2.out.step hr3 ho3); have f2 := HS3.out.cell 2; have f3 := HS3.out.cell 3; simp at f2 f3; clear hr3 ho3))
        go_wp2_with fail
        go_loopw [0, 5] (fun s i wr => ∃ (j : Nat), j ≤ mag.length ∧ i = .int .i64 j ∧ Hid (LS w wr w.heap.size base #[.int .i64 2, .int .i64 n, .bool true, .slice ma mag.length mcap, .int .u64 bits, .string bytes, .slice a args.length acap] v s ((((bs ++ [UInt8.ofNat ((2 : Int) % 256).toNat]) ++ putP 1 1) ++ putP mag.length 1) ++ (mag.take j).flatMap (fun x => putP x 4)))) (fun _ i _ => mag.length - (intOf i).toNat)
        case atStart => exact ⟨0, by omega, rfl, Lib.hid (by simpa using HS3.out)⟩
        case round =>
          obtain ⟨j, hj, rfl, HK⟩ := hrel
          have r3 := HK.out.cell 3
          simp at r3
          have szr : base ≤ wr.heap.size := Nat.le_trans hbase HK.out.size
          by_cases hlt' : j < mag.length
          · obtain ⟨g, o, rfl, p0⟩ := HMC.out j hlt'
            have B0 := HB0.out.trans ((HK.out.2.1.below HBASEV.out hbase).mono h0b)
            have l0 := (B0.cell (World.block_lt_of_cell? w0 _ p0)).trans p0
            have q4 : (j : Int) < (mag.length : Int) := by omega
            have q5 : (0 : Int) ≤ (j : Int) := by omega
            have q6 : IntKind.i64.wrap ((j : Int) + 1) = (j : Int) + 1 := IntWalk.i64_in _ (by omega)
            have hx := HU.out _ (List.getElem_mem hlt')
            have HTK := Lib.hid (show mag.take (j + 1) = mag.take j ++ [mag[j]] from List.take_succ_eq_append_getElem hlt')
            have HPL := Lib.hid (put_len hlt' hlm)
            obtain ⟨x, hxx⟩ : ∃ x, mag[j] = x := ⟨_, rfl⟩
            rw [hxx] at l0 hx HTK
            clear p0 B0 hxx
            go_wp2_with fail
            refine (refput_at base 4 x 4 x rfl rfl _ _ wr HK.out.1 (by omega) (by omega) (by have h := HPL.out; rw [List.length_append]; exact h) szr).mono ?_
            rintro e w5 ⟨v5, rfl, hr5, ho5⟩
            have HK5 := Lib.hid (HK.out.step hr5 ho5)
            clear hr5 ho5
            go_wp2_with fail
            go_roundw
            case rel => exact ⟨j + 1, by omega, by go_num, Lib.hid (by
              have h := HK5.out
              rw [HTK.out, List.flatMap_append, ← List.append_assoc]
              simpa using h)⟩
            case measure => simp [intOf]; omega
          · obtain rfl : j = mag.length := by omega
            have q4 : ¬ ((mag.length : Nat) : Int) < (mag.length : Int) := by omega
            have HKE := Lib.hid (show LS w wr w.heap.size base _ v u0 ((bs ++ [UInt8.ofNat ((2 : Int) % 256).toNat]) ++ bodyP 2 n true mag bits bytes args.length) by
              have h := HK.out
              rw [List.take_length] at h
              rw [HE2.out, ← List.append_assoc, ← List.append_assoc]; exact h)
            go_wp2_with fail
            go_meet
            exact HKE
    have b2 : (k == 2) = false := by simp [k2]
    by_cases k3 : k = 3
    · subst k3
      have HE := Lib.hid (show bodyP 3 n neg mag bits bytes args.length = putP bits 8 by simp [bodyP])
      have h8 : (bs ++ [UInt8.ofNat ((3 : Int) % 256).toNat]).length + 8 ≤ 1000000000 := by
        have h := hbl
        rw [HE.out, putP_length] at h
        omega
      go_wp2_with fail
      refine (refput_at base 8 bits 8 bits rfl rfl v1 _ w1 HS1.out.1 (by omega) hbt h8 sz1).mono ?_
      rintro e w2 ⟨v2, rfl, hr2, ho2⟩
      have HF := Lib.hid (HS1.out.step hr2 ho2)
      clear hr2 ho2
      go_wp2_with fail
      go_meet
      rw [HE.out]
      exact HF
    have b3 : (k == 3) = false := by simp [k3]
    by_cases k6 : k = 6
    · subst k6
      have HE := Lib.hid (show bodyP 6 n neg mag bits bytes args.length = putP args.length 1 by rw [one_byte_nat]; simp [bodyP])
      have h8 : (bs ++ [UInt8.ofNat ((6 : Int) % 256).toNat]).length + 1 ≤ 1000000000 := by
        have h := hbl
        rw [HE.out, putP_length] at h
        omega
      have qw : IntKind.u64.wrap (args.length : Int) = (args.length : Int) := by rw [IntKind.wrap_u64]; omega
      go_wp2_with fail
      refine (refput_at base 1 args.length 1 args.length rfl rfl v1 _ w1 HS1.out.1 (by omega) (by omega) h8 sz1).mono ?_
      rintro e w2 ⟨v2, rfl, hr2, ho2⟩
      have HF := Lib.hid (HS1.out.step hr2 ho2)
      clear hr2 ho2
      go_wp2_with fail
      go_meet
      rw [HE.out]
      exact HF
    have b6 : (k == 6) = false := by simp [k6]
    by_cases k9 : k = 9
    · subst k9
      have HE := Lib.hid (show bodyP 9 n neg mag bits bytes args.length = putP bytes.size 2 ++ bytes.toList by simp [bodyP])
      have h8 : (bs ++ [UInt8.ofNat ((9 : Int) % 256).toNat]).length + 2 + bytes.size ≤ 1000000000 := by
        have h := hbl
        rw [HE.out, List.length_append, putP_length, size_toList] at h
        omega
      have HD1 := Lib.hid HS1.out.drew
      have qw : IntKind.u64.wrap (bytes.size : Int) = (bytes.size : Int) := by rw [IntKind.wrap_u64]; omega
      go_wp2_with fail
      have hb2 : ((bs ++ [UInt8.ofNat ((9 : Int) % 256).toNat]) ++ putP bytes.size 2).length + bytes.size ≤ 140737488355328 := by rw [List.length_append, putP_length]; omega
      obtain ⟨L3, hL3⟩ : ∃ L, ((bs ++ [UInt8.ofNat ((9 : Int) % 256).toNat]) ++ putP bytes.size 2).length + bytes.size = L := ⟨_, rfl⟩
      go_region_held3 (fun w' => w'.cell? ⟨w.heap.size, 5, none⟩ = some (.string bytes)) (first | exact d5 | exact f5 | exact f7 | go_keep) (first
        | (refine step_append_str rfl (.tmp 82) (.tmp 84) rfl base v2 _ _ rfl HS2.out.1 bytes rfl L3 hL3 hb2 sz2 ?_; intro A c w3 hown3 hgrow3 hloc3; have HS3 := Lib.hid (HS2.out.step (row_str hown3 hL3) ⟨hgrow3, hloc3⟩); have f7 := HS3.out.cell 5; simp at f7; clear hown3 hgrow3 hloc3)
        | (go_at_call 61; refine (refput_at base 2 bytes.size 2 bytes.size rfl rfl v1 _ w1.drew HD1.out.1 (by omega) (by omega) (by omega) sz1).mono ?_; rintro e w2 ⟨v2, rfl, hr2, ho2⟩; have HS2 := Lib.hid (HD1.out.step hr2 ho2); have f5 := HS2.out.cell 5; simp at f5; have sz2 := Nat.le_trans hbase HS2.out.size; clear hr2 ho2))
      go_wp2_with fail
      go_meet
      have h := HS3.out
      rw [List.append_assoc (bs ++ [UInt8.ofNat ((9 : Int) % 256).toNat])] at h
      rw [HE.out]
      exact Lib.hid h
    have b9 : (k == 9) = false := by simp [k9]
    have HE := Lib.hid (show bodyP k n neg mag bits bytes args.length = [] by simp [bodyP, k1, k2, k3, k4, k5, k6, k9])
    go_wp2_with fail
    go_meet
    rw [HE.out]
    exact Lib.hid (by simpa using HS1.out)
  case rest =>
    have HCUT := hcut
    have hlm : ((bs ++ [UInt8.ofNat (k % 256).toNat]) ++ bodyP k n neg mag bits bytes args.length).length + (lays args).length ≤ 1000000000 := by
      rw [List.length_append]; omega
    go_wp2_with fail
    go_loopw [0, 6] (fun s i wr => ∃ (j : Nat), j ≤ args.length ∧ i = .int .i64 j ∧ Hid (LS w wr w.heap.size base #[.int .i64 k, .int .i64 n, .bool neg, .slice ma mag.length mcap, .int .u64 bits, .string bytes, .slice a args.length acap] v s (((bs ++ [UInt8.ofNat (k % 256).toNat]) ++ bodyP k n neg mag bits bytes args.length) ++ lays (args.take j)))) (fun _ i _ => args.length - (intOf i).toNat)
    case atStart => exact ⟨0, by omega, rfl, Lib.hid (by simpa [lays] using HCUT.out)⟩
    case round =>
      obtain ⟨j, hj, rfl, HK⟩ := hrel
      have e6 := HK.out.cell 6
      simp at e6
      have szr : base ≤ wr.heap.size := Nat.le_trans hbase HK.out.size
      by_cases hlt' : j < args.length
      · obtain ⟨g, o, k', n2', neg', mv', bits', bytes', av', rfl, ht, p0, p1, p2, p3, p4, p5, p6, ⟨ma2, ml2, mc2, rfl⟩, ⟨aa2, al2, ac2, rfl⟩⟩ := HC.out j hlt'
        have HT := Lib.hid ht
        have B0 := HB0.out.trans ((HK.out.2.1.below HBASEV.out hbase).mono h0b)
        have up : ∀ {p : Addr} {v : Value}, w0.cell? p = some v → wr.cell? p = some v := fun q => (B0.cell (World.block_lt_of_cell? w0 _ q)).trans q
        have l0 := up p0
        have l1 := up p1
        have l2 := up p2
        have l3 := up p3
        have l4 := up p4
        have l5 := up p5
        have l6 := up p6
        have HBR := Lib.hid B0
        have q4 : (j : Int) < (args.length : Int) := by omega
        have q5 : (0 : Int) ≤ (j : Int) := by omega
        have q6 : IntKind.i64.wrap ((j : Int) + 1) = (j : Int) + 1 := IntWalk.i64_in _ (by omega)
        have HTK := Lib.hid (lays_take hlt')
        have HPL := Lib.hid (len_step hlt' hlm)
        clear p0 p1 p2 p3 p4 p5 p6 up B0 ht
        go_wp2_with fail
        refine ((HI.out args[j] (List.getElem_mem hlt')) _ _ _ base w0 wr HT.out (HRS.out _ (List.getElem_mem hlt')) HK.out.1 (by have h := HPL.out; rw [List.length_append]; exact h) szr h0b HBR.out).mono ?_
        rintro e w5 ⟨v5, rfl, hr5, ho5⟩
        have HK5 := Lib.hid (HK.out.step hr5 ho5)
        clear hr5 ho5
        go_wp2_with fail
        go_roundw
        case rel => exact ⟨j + 1, by omega, by go_num, Lib.hid (by
          have h := HK5.out
          rw [HTK.out, ← List.append_assoc]
          exact h)⟩
        case measure => simp [intOf]; omega
      · obtain rfl : j = args.length := by omega
        have q4 : ¬ ((args.length : Nat) : Int) < (args.length : Int) := by omega
        have HKE := Lib.hid (show LS w wr w.heap.size base _ v u0 (((bs ++ [UInt8.ofNat (k % 256).toNat]) ++ bodyP k n neg mag bits bytes args.length) ++ lays args) by
          have h := HK.out
          rwa [List.take_length] at h)
        go_wp2_with fail
        go_ret
        refine ⟨_, rfl, ?_, HKE.out.2.1⟩
        rw [HLAY.out]
        have h := HKE.out.1
        simpa using h

theorem reflay_all : ∀ t : Tm, LayOk 45 t := Tm.ind reflay_of

end Go.Proofs.YtohgkfnbjfhniaaDoor
