/-
  A part of bytes in a dump stands for just that part: LookParts.
-/
import Derived.Test.YtohgkfnbjfhniaaYo
import Derived.Test.YtohgkfnbjfhniaaYp
import Derived.Deep.RegionHeld3
namespace Go.Proofs.Ytohgkfnbjfhniaa
open Go.RowKit

theorem pack_snoc : ∀ (l : List UInt8) (c : UInt8), packW (l ++ [c]) = packW l + c.toNat * 256 ^ l.length
  | [], c => by simp [packW]
  | a :: r, c => by
    simp only [List.cons_append, packW, pack_snoc r c, List.length_cons, Nat.pow_succ]
    rw [Nat.mul_add, Nat.mul_comm (256 ^ r.length) 256, Nat.mul_left_comm]
    omega

/-- One byte more in a word. -/
theorem pack_or {l : List UInt8} {c : UInt8} (h : l.length < 8) : bits .or .u64 ((packW l : Nat) : Int) ((c.toNat * 2 ^ (8 * l.length) : Nat) : Int) = ((packW (l ++ [c]) : Nat) : Int) := by
  have h1 := packW_lt l
  have e : (256 : Nat) ^ l.length = 2 ^ (8 * l.length) := by rw [Nat.pow_mul]
  have h2 := packW_lt (l ++ [c])
  have h3 : (256 : Nat) ^ (l ++ [c]).length ≤ 256 ^ 8 := Nat.pow_le_pow_right (by omega) (by simp; omega)
  rw [pack_snoc] at h2
  rw [e] at h1 h2
  rw [u64_or_nat _ _ (by omega) (by omega), pack_snoc, e]
  congr 1
  rw [Nat.or_comm, nat_join (8 * l.length) _ _ (Nat.mul_mod_left _ _) h1, Nat.add_comm]

theorem pack_step {s : ByteArray} {bs : List UInt8} (hbs : s.data.toList = bs) {y y8 k : Nat} (hy : y8 + k = y) (hk : k < 8) (hlt : y < s.size) :
    bits .or .u64 ((packW ((bs.drop y8).take k) : Nat) : Int) (IntKind.u64.wrap (IntKind.u64.wrap ((s[y]'hlt).toNat : Int) * 2 ^ (8 * k))) = ((packW ((bs.drop y8).take (k + 1)) : Nat) : Int) := by
  subst hy hbs
  have hl : k < (s.data.toList.drop y8).length := by rw [List.length_drop]; have : s.data.toList.length = s.size := rfl; omega
  have he : (s.data.toList.drop y8)[k]'hl = s[y8 + k]'hlt := by rw [List.getElem_drop]; rfl
  rw [List.take_succ_eq_append_getElem hl, he]
  generalize s[y8 + k]'hlt = c
  have hlen : ((s.data.toList.drop y8).take k).length = k := by rw [List.length_take]; omega
  have hc := c.toNat_lt
  have h1 : IntKind.u64.wrap (c.toNat : Int) = (c.toNat : Int) := by rw [IntKind.wrap_u64]; omega
  have hp : c.toNat * 2 ^ (8 * k) < 18446744073709551616 := by
    have h2 : (2 : Nat) ^ (8 * k) ≤ 2 ^ 56 := Nat.pow_le_pow_right (by omega) (by omega)
    have h3 : c.toNat * 2 ^ (8 * k) ≤ 255 * 2 ^ 56 := Nat.mul_le_mul (by omega) h2
    omega
  have h4 : IntKind.u64.wrap ((c.toNat : Int) * 2 ^ (8 * k)) = ((c.toNat * 2 ^ (8 * k) : Nat) : Int) := by
    rw [IntKind.wrap_u64]
    push_cast
    rw [Int.emod_eq_of_lt]
    · exact Int.mul_nonneg (by omega) (Int.pow_nonneg (by omega))
    · have : ((c.toNat * 2 ^ (8 * k) : Nat) : Int) < 18446744073709551616 := by omega
      simpa using this
  have := pack_or (l := (s.data.toList.drop y8).take k) (c := c) (by omega)
  rw [hlen] at this
  rw [h1, h4, this]

theorem words_snoc (bs : List UInt8) (j : Nat) : wordsB bs (j + 1) = wordsB bs j ++ [wordB bs j] := by
  unfold wordsB; rw [List.range_succ]; simp

theorem full_word {bs : List UInt8} {j k : Nat} (h : 8 ≤ k ∨ bs.length ≤ 8 * j + k) (hk : k ≤ 8) : packW ((bs.drop (8 * j)).take k) = wordB bs j := by
  unfold wordB
  rcases h with h | h
  · rw [show k = 8 by omega]
  · rw [List.take_of_length_le (by rw [List.length_drop]; omega), List.take_of_length_le (by rw [List.length_drop]; omega)]

theorem prt_at {w : World} {bs : List UInt8} {f m : Nat} {wv rv : Value} {sz : Int} (hsz : sz = ((nB bs + 6 : Nat) : Int)) (hl : bs.length ≤ 64) (hw : Ws w wv (l1B bs ++ l2B f m)) (hr : Ws w rv [76, pB bs]) :
    DmAt w (.agg #[.int .i64 9, wv, .int .i64 0, .slice none 0 0, .int .i64 sz, .int .i64 0, .slice none 0 0, rv, .slice none 0 0]) (prtD bs f m) := by
  subst hsz
  obtain ⟨y1, y2, ya, yc, rfl, y3⟩ := id hw
  have hn : nB bs ≤ 8 := by unfold nB; omega
  exact ⟨_, _, _, _, _, _, _, rfl, ⟨(show (-9223372036854775808 : Int) ≤ 9 ∧ (9 : Int) ≤ 9223372036854775807 by decide), rfl, _, _, rfl, hw⟩, ⟨(show (-9223372036854775808 : Int) ≤ 0 ∧ (0 : Int) ≤ 9223372036854775807 by decide), rfl, none, 0, rfl, Ws.nil w⟩, by simp only [prtD]; omega, (show (-9223372036854775808 : Int) ≤ 0 ∧ (0 : Int) ≤ 9223372036854775807 by decide), RsAt.nil w, hr, Is.nil w⟩

theorem prt_words_at {w : World} {base h1 n0 j f m : Nat} {bs : List UInt8} {b9 : Option Addr} {c9 : Nat} (hlb : h1 :: n0 :: wordsB bs j = l1B bs) (hj : nB bs = j) (hj8 : j ≤ 8) (hl : bs.length ≤ 64) (hf : f < 100) (hm : m < 100)
    (ho : w.ownsRow base 37 1 (.slice b9 (j + 2 + 4) c9) (j + 2 + 4) (csW ((h1 :: n0 :: wordsB bs j) ++ l2B f m))) : Ws w (.slice b9 (j + 2 + 4) c9) (l1B bs ++ l2B f m) := by
  rw [hlb] at ho
  have hn : (l1B bs ++ l2B f m).length = j + 2 + 4 := by rw [List.length_append, l1B_length, hj]; rfl
  refine Ws.of_own (base := base) (by rw [hn]; exact ho) (by rw [hn]; omega) (fun x hx => ?_)
  rcases List.mem_append.1 hx with hx | hx
  · unfold l1B at hx
    rcases List.mem_cons.1 hx with rfl | hx
    · rw [hj]; omega
    · rcases List.mem_cons.1 hx with rfl | hx
      · omega
      · obtain ⟨i, _, rfl⟩ := List.mem_map.1 hx
        exact wordB_lt bs i
  · unfold l2B at hx
    simp only [List.mem_cons, List.not_mem_nil, or_false] at hx
    omega

theorem prt_roots_at {w : World} {g pp : Nat} {bs : List UInt8} (hp : pB bs = pp) (hl : bs.length ≤ 64) (h : w.heap[g]? = some (.cells #[.int .u64 76, .int .u64 (pp : Int)] 37 (0, 0))) : Ws w (.slice (some ⟨g, 0, none⟩) 2 2) [76, pB bs] := by
  rw [hp]
  have hn : nB bs ≤ 8 := by unfold nB; omega
  refine ws_block (l := [76, pp]) h (show 2 ≤ maxLen by unfold maxLen; decide) (fun x hx => ?_)
  simp only [List.mem_cons, List.not_mem_nil, or_false] at hx
  unfold pB at hp
  omega

theorem keep16 {W V : World} {ba bb : Nat} {a0 a1 a2 a3 a4 a5 a6 a7 a8 b0 b1 b2 b3 b4 b5 b6 : Value} {t u : TypeId} (ha : W.heap[ba]? = some (.cells #[a0, a1, a2, a3, a4, a5, a6, a7, a8] t (0, 0))) (hb : W.heap[bb]? = some (.cells #[b0, b1, b2, b3, b4, b5, b6] u (0, 0))) (hz : Below W.heap.size W V) :
    V.cell? ⟨ba, 0, none⟩ = some a0 ∧ V.cell? ⟨ba, 1, none⟩ = some a1 ∧ V.cell? ⟨ba, 2, none⟩ = some a2 ∧ V.cell? ⟨ba, 3, none⟩ = some a3 ∧ V.cell? ⟨ba, 4, none⟩ = some a4 ∧ V.cell? ⟨ba, 5, none⟩ = some a5 ∧ V.cell? ⟨ba, 6, none⟩ = some a6 ∧ V.cell? ⟨ba, 7, none⟩ = some a7 ∧ V.cell? ⟨ba, 8, none⟩ = some a8 ∧ V.cell? ⟨bb, 0, none⟩ = some b0 ∧ V.cell? ⟨bb, 1, none⟩ = some b1 ∧ V.cell? ⟨bb, 2, none⟩ = some b2 ∧ V.cell? ⟨bb, 3, none⟩ = some b3 ∧ V.cell? ⟨bb, 4, none⟩ = some b4 ∧ V.cell? ⟨bb, 5, none⟩ = some b5 ∧ V.cell? ⟨bb, 6, none⟩ = some b6 ∧ Below W.heap.size W V := by
  have qa := (hz.block ba (lt_of_block ha)).trans ha
  have qb := (hz.block bb (lt_of_block hb)).trans hb
  exact ⟨cell_of qa 0, cell_of qa 1, cell_of qa 2, cell_of qa 3, cell_of qa 4, cell_of qa 5, cell_of qa 6, cell_of qa 7, cell_of qa 8, cell_of qb 0, cell_of qb 1, cell_of qb 2, cell_of qb 3, cell_of qb 4, cell_of qb 5, cell_of qb 6, hz⟩

theorem leaf9 (s : ByteArray) (hs : s.size ≤ maxLen) (w : World) : TmAt (fun _ => True) w (.agg #[.int .i64 9, .int .i64 0, .bool false, .slice none 0 0, .int .u64 0, .string s, .slice none 0 0]) (.mk 9 0 false [] 0 s []) :=
  TmAt.leaf (show In64 9 by unfold In64; decide) (show In64 0 by unfold In64; decide) (MsP.nil w) (Nat.zero_le _) (fun x hx => by cases hx) (show 0 < 18446744073709551616 by decide) hs

set_option maxHeartbeats 8000000 in
set_option maxRecDepth 100000 in
theorem lookParts_any (s : ByteArray) (fr_ mn_ : Int) (w : World) (hs : s.size ≤ maxLen) (hfr : In64 fr_) (hmn : In64 mn_) :
    Calls Try.prog 5 #[.string s, .int .i64 fr_, .int .i64 mn_] w fun e w' => e = .returned (.bool true) ∧ Below w.heap.size w w' := by
  obtain ⟨i0, hi, hz0, hz1, hz2⟩ := info_parts info37
  have WB0 := Lib.hid (Below.refl w.heap.size w)
  have HFR := Lib.hid hfr
  have HMN := Lib.hid hmn
  unfold maxLen at hs
  clear hfr hmn
  go_enter Try.func5, Try.ntmps5
  by_cases hl : s.size ≤ 64
  case neg =>
    have q : (64 : Int) < (s.size : Int) := by omega
    go_wp2_with fail
    refine (awake_any w).mono ?_
    rintro e wz ⟨rfl, hb⟩
    have EBZ := Lib.hid (WB0.out.trans (hb.mono WB0.out.size))
    clear hb
    go_wp2_with fail
    go_ret
    exact ⟨rfl, EBZ.out⟩
  have q : ¬ (64 : Int) < (s.size : Int) := by omega
  have HL := Lib.hid hl
  obtain ⟨f, hf⟩ : ∃ m : Nat, lowP fr_ 70 = (m : Int) := ⟨(lowP fr_ 70).toNat, by have := lowP_le fr_ (n := 70) (by omega); omega⟩
  obtain ⟨m, hm⟩ : ∃ m : Nat, lowP mn_ 70 = (m : Int) := ⟨(lowP mn_ 70).toNat, by have := lowP_le mn_ (n := 70) (by omega); omega⟩
  have HF := Lib.hid (show f < 70 by have := lowP_le fr_ (n := 70) (by omega); omega)
  have HM := Lib.hid (show m < 70 by have := lowP_le mn_ (n := 70) (by omega); omega)
  have L1 := Lib.hid (low_any fr_ 70 HFR.out (by omega) w)
  have L2 := Lib.hid (low_any mn_ 70 HMN.out (by omega) w)
  rw [hf] at L1
  rw [hm] at L2
  clear hf hm
  go_wp2_with fail
  refine L1.out.mono ?_
  rintro e w1 ⟨rfl, hww⟩
  obtain rfl : w = w1 := hww.symm
  go_wp2_with fail
  refine L2.out.mono ?_
  rintro e w1 ⟨rfl, hww⟩
  obtain rfl : w = w1 := hww.symm
  obtain ⟨n, hn⟩ : ∃ n, (s.size + 7) / 8 = n := ⟨_, rfl⟩
  have HN := Lib.hid hn
  have HN8 := Lib.hid (show n ≤ 8 by omega)
  have p1 : IntKind.i64.wrap ((s.size : Int) + 7) = ((s.size + 7 : Nat) : Int) := by rw [IntWalk.i64_in _ (by omega)]; omega
  have p2 : ((s.size + 7 : Nat) : Int).tdiv 8 = (n : Int) := by rw [Int.tdiv_eq_ediv_of_nonneg (by omega)]; omega
  have p2' : ((s.size : Int) + 7).tdiv 8 = (n : Int) := by rw [Int.tdiv_eq_ediv_of_nonneg (by omega)]; omega
  have p2'' : ((s.size : Int) + 7) / 8 = (n : Int) := by omega
  have p3 : IntKind.i64.wrap (n : Int) = (n : Int) := IntWalk.i64_in _ (by omega)
  have p4 : IntKind.i64.wrap ((n : Int) + 1) = ((n + 1 : Nat) : Int) := by rw [IntWalk.i64_in _ (by omega)]; omega
  clear hn
  go_upto_region 5 with fail
  clear p1 p2 p2' p2''
  go_wp2_with fail
  refine (head8_any 3 (n + 1) (by omega) (by have := HN8.out; omega) w).mono ?_
  rintro e w1 ⟨he, hww⟩
  obtain rfl : w = w1 := hww
  unfold Head8End head8 at he
  rw [if_pos (by have := HN8.out; omega)] at he
  simp only [Option.getD_some, Option.isSome_some] at he
  subst he
  obtain ⟨h1, hh1⟩ : ∃ h, ((n + 1) * 8 + 3) * 8 + 6 = h := ⟨_, rfl⟩
  have HH1 := Lib.hid hh1
  rw [hh1]
  clear hh1
  go_wp2_with fail
  refine (head8_any 5 3 (by omega) (by omega) w).mono ?_
  rintro e w1 ⟨he, hww⟩
  obtain rfl : w = w1 := hww
  unfold Head8End head8 at he
  simp at he
  subst he
  go_upto_region 8 with fail
  have T := one_at w (.cells #[.int .i64 9, .slice none 0 0, .int .i64 0, .slice none 0 0, .int .i64 0, .int .i64 0, .slice none 0 0, .slice none 0 0, .slice none 0 0] 28)
  generalize w.alloc (.cells #[.int .i64 9, .slice none 0 0, .int .i64 0, .slice none 0 0, .int .i64 0, .int .i64 0, .slice none 0 0, .slice none 0 0, .slice none 0 0] 28) = V at *
  have A0 := Lib.hid T.1
  have AB := Lib.hid T.2.2
  have AS := Lib.hid T.2.1
  clear T
  have x1 := cell_of A0.out 1
  simp at x1
  have pc : IntKind.u64.wrap (s.size : Int) = (s.size : Int) := by rw [IntKind.wrap_u64]; omega
  go_upto_region 9 with (at_builtin; refine wpList_append_any _ rfl (.tmp 47) (.tmp 52) 22 rfl V.heap.size 37 i0 _ 1 8 Try.underlying22 hi hz0 hz1 hz2 rfl (by omega) (.slice none 0 0) 0 [] rfl ⟨by simp, .inl ⟨rfl, rfl⟩⟩ (V.heap.size + 1) (some ⟨V.heap.size, 0, none⟩) 2 2 [.int .u64 (h1 : Int), .int .u64 (s.size : Int)] rfl (reads_many V _ 37 2 rfl) (by intro u hu; simp at hu; rcases hu with rfl | rfl <;> rfl) (by unfold maxLen; omega) (by omega) (by simp) ?_; intro v9 w9 hown9 hgrow9 _
                         have PB := Lib.hid (((Below.refl V.heap.size V).alloc (Nat.le_refl _) _).grown hgrow9 (by simp) (by simp [Value.ownBlock]) : Below V.heap.size V w9)
                         have O9 := Lib.hid hown9
                         have E9 := Lib.hid ((PB.out.block w.heap.size (lt_of_block A0.out)).trans A0.out)
                         obtain ⟨b9, c9, rfl⟩ := own_slice hown9
                         have y := cell_of E9.out 1
                         have yf := free_of E9.out 1
                         simp at y yf
                         clear hown9 hgrow9)
  have AV := Lib.hid (lt_of_block A0.out)
  have N0 := Lib.hid (show (w9.setCell ⟨w.heap.size, 1, none⟩ (.slice b9 2 c9)).heap[w.heap.size]? = some (.cells #[.int .i64 9, .slice b9 2 c9, .int .i64 0, .slice none 0 0, .int .i64 0, .int .i64 0, .slice none 0 0, .slice none 0 0, .slice none 0 0] 28 (0, 0)) from set_of E9.out 1 _)
  obtain ⟨bs, hbs⟩ : ∃ bs, s.data.toList = bs := ⟨_, rfl⟩
  have HBS := Lib.hid hbs
  have HBL := Lib.hid (show bs.length = s.size by rw [← hbs]; rfl)
  have NO := Lib.hid (show (w9.setCell ⟨w.heap.size, 1, none⟩ (.slice b9 2 c9)).ownsRow V.heap.size 37 1 (.slice b9 (0 + 2) c9) (0 + 2) (csW (h1 :: s.size :: wordsB bs 0)) from own_set O9.out AV.out _)
  have NB := Lib.hid ((AB.out.trans (PB.out.mono AB.out.size)).setCell (p := ⟨w.heap.size, 1, none⟩) (Nat.le_refl _) (.slice b9 2 c9))
  have NS := Lib.hid (show V.heap.size ≤ (w9.setCell ⟨w.heap.size, 1, none⟩ (.slice b9 2 c9)).heap.size by have := PB.out.size; simp [World.setCell]; omega)
  clear y yf x1 pc hbs O9 E9 PB
  generalize w9.setCell ⟨w.heap.size, 1, none⟩ (.slice b9 2 c9) = V1 at *
  go_upto_region 10 with fail
  go_loopw [13] (fun i wr => ∃ (j : Nat), j ≤ n ∧ i = .int .i64 j ∧ Hid (∃ ua uc, wr.heap[w.heap.size]? = some (.cells #[.int .i64 9, .slice ua (j + 2) uc, .int .i64 0, .slice none 0 0, .int .i64 0, .int .i64 0, .slice none 0 0, .slice none 0 0, .slice none 0 0] 28 (0, 0)) ∧ wr.ownsRow V.heap.size 37 1 (.slice ua (j + 2) uc) (j + 2) (csW (h1 :: s.size :: wordsB bs j))) ∧ Hid (Below w.heap.size w wr) ∧ Hid (V.heap.size ≤ wr.heap.size)) (fun i _ => n - (intOf i).toNat)
  case atStart => exact ⟨0, by omega, rfl, Lib.hid ⟨b9, c9, N0.out, NO.out⟩, NB, NS⟩
  case round =>
    clear N0 NO NB NS
    obtain ⟨j, hj, rfl, HEB, HB, HSZ⟩ := hrel
    obtain ⟨ua, uc, hE, hown⟩ := HEB.out
    have HE := Lib.hid hE
    have HOW := Lib.hid hown
    clear HEB hE hown
    by_cases hlt : j < n
    · have q1 : (j : Int) < (n : Int) := by omega
      have HJL := Lib.hid (show 8 * j < s.size by have := HN.out; omega)
      have HJ := Lib.hid hlt
      go_upto_region 14 with fail
      go_loop [14, 15] (fun wv kv => ∃ (k : Nat), k ≤ 8 ∧ kv = .int .i64 k ∧ wv = .int .u64 ((packW ((bs.drop (8 * j)).take k) : Nat) : Int) ∧ Hid (8 * j + k ≤ s.size)) (fun _ kv => 8 - (intOf kv).toNat)
      case atStart => exact ⟨0, by omega, rfl, by simp [packW], Lib.hid (by have := HJL.out; omega)⟩
      case round =>
        obtain ⟨k, hk, rfl, rfl, HKL⟩ := hrel
        have r1 : IntKind.i64.wrap (8 * (j : Int)) = ((8 * j : Nat) : Int) := by rw [IntWalk.i64_in _ (by have := HN8.out; have := HJ.out; omega)]; omega
        have r2 : IntKind.i64.wrap (((8 * j : Nat) : Int) + (k : Int)) = ((8 * j + k : Nat) : Int) := by rw [IntWalk.i64_in _ (by have := HN8.out; have := HJ.out; omega)]; omega
        by_cases hk8 : k < 8
        · have q2 : (k : Int) < 8 := by omega
          by_cases hkl : 8 * j + k < s.size
          · obtain ⟨y8, h8⟩ : ∃ y, 8 * j = y := ⟨_, rfl⟩
            have H8 := Lib.hid h8
            rw [h8] at r1 r2 hkl ⊢
            obtain ⟨y, hy⟩ : ∃ y, y8 + k = y := ⟨_, rfl⟩
            have HY := Lib.hid hy
            rw [hy] at r2 hkl
            have HP := Lib.hid (pack_step HBS.out hy hk8 hkl)
            have q3 : (y : Int) < (s.size : Int) := by omega
            have q4 : (0 : Int) ≤ (y : Int) := by omega
            clear h8 hy
            go_upto_region 16 with fail
            go_wp2_with fail
            refine ⟨⟨k + 1, by omega, by go_num, by rw [HP.out], Lib.hid (by have := HY.out; omega)⟩, ?_⟩
            simp [intOf]; omega
          · have HFW := Lib.hid (full_word (bs := bs) (j := j) (k := k) (Or.inr (by rw [HBL.out]; omega)) hk)
            have q3 : ¬ ((8 * j + k : Nat) : Int) < (s.size : Int) := by omega
            obtain ⟨x, hx⟩ : ∃ x, packW ((bs.drop (8 * j)).take k) = x := ⟨_, rfl⟩
            rw [hx] at HFW ⊢
            generalize 8 * j + k = y at *
            generalize 8 * j = y8 at *
            clear hx
            go_upto_region 17 with fail
            have y1 := cell_of HE.out 1
            simp at y1
            have hjn := HJ.out
            have hn8 := HN8.out
            have HXW := Lib.hid (show x < 18446744073709551616 by rw [HFW.out]; exact wordB_lt bs j)
            go_upto_region 11 with (at_builtin; refine wpList_append_any _ rfl (.tmp 88) (.tmp 90) 22 rfl V.heap.size 37 i0 _ 1 8 Try.underlying22 hi hz0 hz1 hz2 rfl (by omega) _ (j + 2) (csW (h1 :: s.size :: wordsB bs j)) rfl (World.ownsRow.alloc HOW.out _) (wr.heap.size + 1) (some ⟨wr.heap.size, 0, none⟩) 1 1 [.int .u64 (x : Int)] rfl (reads_many wr _ 37 1 rfl) (one_u64 _) (by unfold maxLen; omega) (by omega) (by have := HSZ.out; simp; omega) ?_; intro v9 w9 hown9 hgrow9 _
                                    have PB := Lib.hid (push_below HOW.out HSZ.out hgrow9)
                                    have O9 := Lib.hid hown9
                                    have E9 := Lib.hid ((PB.out.block w.heap.size AV.out).trans HE.out)
                                    obtain ⟨b9, c9, rfl⟩ := own_slice hown9
                                    have y := cell_of E9.out 1
                                    have yf := free_of E9.out 1
                                    simp at y yf
                                    clear hown9 hgrow9)
            have N0 := Lib.hid (show (w9.setCell ⟨w.heap.size, 1, none⟩ (.slice b9 (j + 2 + 1) c9)).heap[w.heap.size]? = some (.cells #[.int .i64 9, .slice b9 (j + 1 + 2) c9, .int .i64 0, .slice none 0 0, .int .i64 0, .int .i64 0, .slice none 0 0, .slice none 0 0, .slice none 0 0] 28 (0, 0)) from set_of E9.out 1 _)
            have NO := Lib.hid (show (w9.setCell ⟨w.heap.size, 1, none⟩ (.slice b9 (j + 2 + 1) c9)).ownsRow V.heap.size 37 1 (.slice b9 (j + 1 + 2) c9) (j + 1 + 2) (csW (h1 :: s.size :: wordsB bs (j + 1))) by
              have e : csW (h1 :: s.size :: wordsB bs (j + 1)) = csW (h1 :: s.size :: wordsB bs j) ++ [.int .u64 (x : Int)] := by rw [words_snoc, ← HFW.out]; simp [csW]
              rw [e]
              exact own_set O9.out AV.out _)
            have NB := Lib.hid ((HB.out.trans (PB.out.mono (Nat.le_of_lt AV.out))).setCell (p := ⟨w.heap.size, 1, none⟩) (Nat.le_refl _) (.slice b9 (j + 2 + 1) c9))
            have NS := Lib.hid (show V.heap.size ≤ (w9.setCell ⟨w.heap.size, 1, none⟩ (.slice b9 (j + 2 + 1) c9)).heap.size by have := PB.out.size; have := HSZ.out; simp [World.setCell]; omega)
            clear y yf y1
            generalize w9.setCell ⟨w.heap.size, 1, none⟩ (.slice b9 (j + 2 + 1) c9) = wq at *
            have p5 : IntKind.i64.wrap ((j : Int) + 1) = (j : Int) + 1 := IntWalk.i64_in _ (by omega)
            go_wp2_with fail
            go_roundw
            case rel => exact ⟨j + 1, by omega, by go_num, Lib.hid ⟨_, _, N0.out, NO.out⟩, NB, NS⟩
            case measure => clear p5; simp [intOf]; omega
        · have HFW := Lib.hid (full_word (bs := bs) (j := j) (k := k) (Or.inl (by omega)) hk)
          have q2 : ¬ (k : Int) < 8 := by omega
          obtain ⟨x, hx⟩ : ∃ x, packW ((bs.drop (8 * j)).take k) = x := ⟨_, rfl⟩
          rw [hx] at HFW ⊢
          clear hx
          go_upto_region 17 with fail
          have y1 := cell_of HE.out 1
          simp at y1
          have hjn := HJ.out
          have hn8 := HN8.out
          have HXW := Lib.hid (show x < 18446744073709551616 by rw [HFW.out]; exact wordB_lt bs j)
          go_upto_region 11 with (at_builtin; refine wpList_append_any _ rfl (.tmp 88) (.tmp 90) 22 rfl V.heap.size 37 i0 _ 1 8 Try.underlying22 hi hz0 hz1 hz2 rfl (by omega) _ (j + 2) (csW (h1 :: s.size :: wordsB bs j)) rfl (World.ownsRow.alloc HOW.out _) (wr.heap.size + 1) (some ⟨wr.heap.size, 0, none⟩) 1 1 [.int .u64 (x : Int)] rfl (reads_many wr _ 37 1 rfl) (one_u64 _) (by unfold maxLen; omega) (by omega) (by have := HSZ.out; simp; omega) ?_; intro v9 w9 hown9 hgrow9 _
                                  have PB := Lib.hid (push_below HOW.out HSZ.out hgrow9)
                                  have O9 := Lib.hid hown9
                                  have E9 := Lib.hid ((PB.out.block w.heap.size AV.out).trans HE.out)
                                  obtain ⟨b9, c9, rfl⟩ := own_slice hown9
                                  have y := cell_of E9.out 1
                                  have yf := free_of E9.out 1
                                  simp at y yf
                                  clear hown9 hgrow9)
          have N0 := Lib.hid (show (w9.setCell ⟨w.heap.size, 1, none⟩ (.slice b9 (j + 2 + 1) c9)).heap[w.heap.size]? = some (.cells #[.int .i64 9, .slice b9 (j + 1 + 2) c9, .int .i64 0, .slice none 0 0, .int .i64 0, .int .i64 0, .slice none 0 0, .slice none 0 0, .slice none 0 0] 28 (0, 0)) from set_of E9.out 1 _)
          have NO := Lib.hid (show (w9.setCell ⟨w.heap.size, 1, none⟩ (.slice b9 (j + 2 + 1) c9)).ownsRow V.heap.size 37 1 (.slice b9 (j + 1 + 2) c9) (j + 1 + 2) (csW (h1 :: s.size :: wordsB bs (j + 1))) by
            have e : csW (h1 :: s.size :: wordsB bs (j + 1)) = csW (h1 :: s.size :: wordsB bs j) ++ [.int .u64 (x : Int)] := by rw [words_snoc, ← HFW.out]; simp [csW]
            rw [e]
            exact own_set O9.out AV.out _)
          have NB := Lib.hid ((HB.out.trans (PB.out.mono (Nat.le_of_lt AV.out))).setCell (p := ⟨w.heap.size, 1, none⟩) (Nat.le_refl _) (.slice b9 (j + 2 + 1) c9))
          have NS := Lib.hid (show V.heap.size ≤ (w9.setCell ⟨w.heap.size, 1, none⟩ (.slice b9 (j + 2 + 1) c9)).heap.size by have := PB.out.size; have := HSZ.out; simp [World.setCell]; omega)
          clear y yf y1
          generalize w9.setCell ⟨w.heap.size, 1, none⟩ (.slice b9 (j + 2 + 1) c9) = wq at *
          have p5 : IntKind.i64.wrap ((j : Int) + 1) = (j : Int) + 1 := IntWalk.i64_in _ (by omega)
          go_wp2_with fail
          go_roundw
          case rel => exact ⟨j + 1, by omega, by go_num, Lib.hid ⟨_, _, N0.out, NO.out⟩, NB, NS⟩
          case measure => clear p5; simp [intOf]; omega
    · have hjn : j = n := by omega
      subst hjn
      have q1 : ¬ (j : Int) < (j : Int) := by omega
      go_upto_region 18 with fail
      have y1 := cell_of HE.out 1
      simp at y1
      have hn8 := HN8.out
      have hf7 := HF.out
      have hm7 := HM.out
      have pf : IntKind.u64.wrap (f : Int) = (f : Int) := by rw [IntKind.wrap_u64]; omega
      have pm : IntKind.u64.wrap (m : Int) = (m : Int) := by rw [IntKind.wrap_u64]; omega
      go_upto_region 19 with (at_builtin; refine wpList_append_any _ rfl (.tmp 96) (.tmp 102) 22 rfl V.heap.size 37 i0 _ 1 8 Try.underlying22 hi hz0 hz1 hz2 rfl (by omega) _ (j + 2) (csW (h1 :: s.size :: wordsB bs j)) rfl (World.ownsRow.alloc HOW.out _) (wr.heap.size + 1) (some ⟨wr.heap.size, 0, none⟩) 4 4 [.int .u64 238, .int .u64 76, .int .u64 (f : Int), .int .u64 (m : Int)] rfl (reads_many wr _ 37 4 rfl) (by intro u hu; simp at hu; rcases hu with rfl | rfl | rfl | rfl <;> rfl) (by unfold maxLen; omega) (by omega) (by have := HSZ.out; simp; omega) ?_; intro v9 w9 hown9 hgrow9 _
                              have PB := Lib.hid (push_below HOW.out HSZ.out hgrow9)
                              have O9 := Lib.hid hown9
                              have E9 := Lib.hid ((PB.out.block w.heap.size AV.out).trans HE.out)
                              obtain ⟨b9, c9, rfl⟩ := own_slice hown9
                              have y := cell_of E9.out 1
                              have yf := free_of E9.out 1
                              simp at y yf
                              clear hown9 hgrow9)
      have N0 := Lib.hid (show (w9.setCell ⟨w.heap.size, 1, none⟩ (.slice b9 (j + 2 + 4) c9)).heap[w.heap.size]? = some (.cells #[.int .i64 9, .slice b9 (j + 2 + 4) c9, .int .i64 0, .slice none 0 0, .int .i64 0, .int .i64 0, .slice none 0 0, .slice none 0 0, .slice none 0 0] 28 (0, 0)) from set_of E9.out 1 _)
      have NO := Lib.hid (show (w9.setCell ⟨w.heap.size, 1, none⟩ (.slice b9 (j + 2 + 4) c9)).ownsRow V.heap.size 37 1 (.slice b9 (j + 2 + 4) c9) (j + 2 + 4) (csW ((h1 :: s.size :: wordsB bs j) ++ l2B f m)) by
        have e : csW ((h1 :: s.size :: wordsB bs j) ++ l2B f m) = csW (h1 :: s.size :: wordsB bs j) ++ [.int .u64 238, .int .u64 76, .int .u64 (f : Int), .int .u64 (m : Int)] := by simp [csW, l2B]
        rw [e]
        exact own_set O9.out AV.out _)
      have NB := Lib.hid ((HB.out.trans (PB.out.mono (Nat.le_of_lt AV.out))).setCell (p := ⟨w.heap.size, 1, none⟩) (Nat.le_refl _) (.slice b9 (j + 2 + 4) c9))
      have NS := Lib.hid (show V.heap.size ≤ (w9.setCell ⟨w.heap.size, 1, none⟩ (.slice b9 (j + 2 + 4) c9)).heap.size by have := PB.out.size; have := HSZ.out; simp [World.setCell]; omega)
      clear y yf y1 pf pm O9 E9 PB HE HOW HB HSZ
      generalize w9.setCell ⟨w.heap.size, 1, none⟩ (.slice b9 (j + 2 + 4) c9) = V2 at *
      have y1 := cell_of N0.out 1
      have y4 := cell_of N0.out 4
      have f4 := free_of N0.out 4
      simp at y1 y4 f4
      have r1 : IntKind.i64.wrap (9 + (j : Int)) = ((9 + j : Nat) : Int) := by rw [IntWalk.i64_in _ (by omega)]; omega
      have r2 : IntKind.i64.wrap (((9 + j : Nat) : Int) + 2) = ((11 + j : Nat) : Int) := by rw [IntWalk.i64_in _ (by omega)]; omega
      have r3 : IntKind.u64.wrap ((11 + j : Nat) : Int) = ((11 + j : Nat) : Int) := by rw [IntKind.wrap_u64]; omega
      have r4 : IntKind.u64.wrap (((11 + j : Nat) : Int) * 2 ^ 3) = (((11 + j) * 8 : Nat) : Int) := by rw [IntKind.wrap_u64]; omega
      have r4' : IntKind.u64.wrap (((11 + j : Nat) : Int) * 8) = (((11 + j) * 8 : Nat) : Int) := by rw [IntKind.wrap_u64]; omega
      have r5 : bits .or .u64 (((11 + j) * 8 : Nat) : Int) 4 = (((11 + j) * 8 + 4 : Nat) : Int) := by
        have h := u64_or_nat ((11 + j) * 8) 4 (by omega) (by decide)
        rw [nat_join 3 _ _ (by omega) (by decide)] at h
        exact h
      have HPP := Lib.hid (show pB bs = (11 + j) * 8 + 4 by unfold pB nB; rw [HBL.out, HN.out])
      generalize (11 + j) * 8 + 4 = pp at *
      generalize (11 + j) * 8 = p8 at *
      generalize 11 + j = p11 at *
      generalize 9 + j = p9 at *
      go_upto_region 20 with fail
      obtain ⟨sz, hsz⟩ : ∃ sz : Int, (j : Int) + 2 + 4 = sz := ⟨_, rfl⟩
      have HSV := Lib.hid hsz
      rw [hsz]
      clear hsz y1 y4 f4
      have M0 := Lib.hid (show (V2.setCell ⟨w.heap.size, 4, none⟩ (.int .i64 sz)).heap[w.heap.size]? = some (.cells #[.int .i64 9, .slice b9 (j + 2 + 4) c9, .int .i64 0, .slice none 0 0, .int .i64 sz, .int .i64 0, .slice none 0 0, .slice none 0 0, .slice none 0 0] 28 (0, 0)) from set_of N0.out 4 _)
      have MO := Lib.hid (own_set (i := 4) NO.out AV.out (.int .i64 sz))
      have MB := Lib.hid (NB.out.setCell (p := ⟨w.heap.size, 4, none⟩) (Nat.le_refl _) (.int .i64 sz))
      have MS := Lib.hid (show V.heap.size ≤ (V2.setCell ⟨w.heap.size, 4, none⟩ (.int .i64 sz)).heap.size by have := NS.out; simp [World.setCell]; omega)
      clear N0 NO NB NS
      generalize V2.setCell ⟨w.heap.size, 4, none⟩ (.int .i64 sz) = V3 at *
      have A := Lib.hid (fun o => ((Below.refl V3.heap.size V3).alloc (Nat.le_refl _) o).block w.heap.size (lt_of_block M0.out))
      have z7 := fun o => cell_of ((A.out o).trans M0.out) 7
      have zf := fun o => free_of ((A.out o).trans M0.out) 7
      simp at z7 zf
      go_upto_region 22 with fail
      have X0 := Lib.hid (show ((V3.alloc (.cells #[.int .u64 76, .int .u64 (pp : Int)] 37)).setCell ⟨w.heap.size, 7, none⟩ (.slice (some ⟨V3.heap.size, 0, none⟩) 2 2)).heap[w.heap.size]? = some (.cells #[.int .i64 9, .slice b9 (j + 2 + 4) c9, .int .i64 0, .slice none 0 0, .int .i64 sz, .int .i64 0, .slice none 0 0, .slice (some ⟨V3.heap.size, 0, none⟩) 2 2, .slice none 0 0] 28 (0, 0)) from set_of ((A.out _).trans M0.out) 7 _)
      have X1 := Lib.hid ((Below.heap_setCell (V3.alloc (.cells #[.int .u64 76, .int .u64 (pp : Int)] 37)) ⟨w.heap.size, 7, none⟩ (.slice (some ⟨V3.heap.size, 0, none⟩) 2 2) V3.heap.size (by have := lt_of_block M0.out; show V3.heap.size ≠ w.heap.size; omega)).trans (World.alloc_heap_new V3 _))
      have XO := Lib.hid (own_set (i := 7) (World.ownsRow.alloc MO.out (.cells #[.int .u64 76, .int .u64 (pp : Int)] 37)) AV.out (.slice (some ⟨V3.heap.size, 0, none⟩) 2 2))
      have XB := Lib.hid ((MB.out.alloc MB.out.size (.cells #[.int .u64 76, .int .u64 (pp : Int)] 37)).setCell (p := ⟨w.heap.size, 7, none⟩) (Nat.le_refl _) (.slice (some ⟨V3.heap.size, 0, none⟩) 2 2))
      clear z7 zf A
      generalize (V3.alloc (.cells #[.int .u64 76, .int .u64 (pp : Int)] 37)).setCell ⟨w.heap.size, 7, none⟩ (.slice (some ⟨V3.heap.size, 0, none⟩) 2 2) = W5 at *
      have HJB := Lib.hid (show nB bs = j by unfold nB; rw [HBL.out, HN.out])
      have HLB := Lib.hid (show h1 :: s.size :: wordsB bs j = l1B bs by unfold l1B; rw [HJB.out, HBL.out, HH1.out])
      have HB64 := Lib.hid (show bs.length ≤ 64 by rw [HBL.out]; exact HL.out)
      have HDW := Lib.hid (show DmAt W5 (.agg #[.int .i64 9, .slice b9 (j + 2 + 4) c9, .int .i64 0, .slice none 0 0, .int .i64 sz, .int .i64 0, .slice none 0 0, .slice (some ⟨V3.heap.size, 0, none⟩) 2 2, .slice none 0 0]) (prtD bs f m) from
        prt_at (by rw [HJB.out, ← HSV.out]; omega) HB64.out (prt_words_at (base := V.heap.size) HLB.out HJB.out (by omega) HB64.out (by omega) (by omega) XO.out) (prt_roots_at HPP.out HB64.out X1.out))
      clear MO MB MS M0 r1 r2 r3 r4 r4' r5
      have HTX := Lib.hid (show txB bs = s by rw [← HBS.out])
      have K := Lib.hid (fun (V : World) (hb : Below W5.heap.size W5 V) => keep6 X0.out (show W5.cell? ⟨V3.heap.size, 0, none⟩ = some (.int .u64 76) from cell_of X1.out 0) hb)
      have HC1 := Lib.hid (fun (V : World) (hb : Below W5.heap.size W5 V) => (show Calls Try.prog 10 #[.agg #[.int .i64 9, .slice b9 (j + 2 + 4) c9, .int .i64 0, .slice none 0 0, .int .i64 sz, .int .i64 0, .slice none 0 0, .slice (some ⟨V3.heap.size, 0, none⟩) 2 2, .slice none 0 0], .slice none 0 0, .int .u64 76] V _ from read_any (prtD bs f m) _ _ [] 76 V (HDW.out.below hb) (SlAt.nil V) (Nat.zero_le _) (by decide)).mono fun e w' h => full_readEnd h (read_1 bs f m HB64.out))
      rw [HTX.out] at HC1
      go_cut [17, 18] from 120 to 128 (fun p u wx => Hid (RdCut W5 wx (.mk 9 0 false [] 0 s []) p) ∧ u = .bool true)
      case first =>
        obtain ⟨g0, g1, g2, g3, g4, g5, g6, g7, g8, g9, -⟩ := K.out W5 (Below.refl _ _)
        go_region_held3 (fun w' => w'.cell? ⟨w.heap.size, 0, none⟩ = some (.int .i64 9) ∧ w'.cell? ⟨w.heap.size, 1, none⟩ = some (.slice b9 (j + 2 + 4) c9) ∧ w'.cell? ⟨w.heap.size, 2, none⟩ = some (.int .i64 0) ∧ w'.cell? ⟨w.heap.size, 3, none⟩ = some (.slice none 0 0) ∧ w'.cell? ⟨w.heap.size, 4, none⟩ = some (.int .i64 sz) ∧ w'.cell? ⟨w.heap.size, 5, none⟩ = some (.int .i64 0) ∧ w'.cell? ⟨w.heap.size, 6, none⟩ = some (.slice none 0 0) ∧ w'.cell? ⟨w.heap.size, 7, none⟩ = some (.slice (some ⟨V3.heap.size, 0, none⟩) 2 2) ∧ w'.cell? ⟨w.heap.size, 8, none⟩ = some (.slice none 0 0) ∧ w'.cell? ⟨V3.heap.size, 0, none⟩ = some (.int .u64 76) ∧ Below W5.heap.size W5 w')
          (first | with_reducible exact K.out _ (set7_below HB7.out (Nat.le_refl _) _ _ _ _ _ _ _) | with_reducible exact K.out _ (Below.refl _ _).drew | with_reducible exact K.out _ (by assumption) | with_reducible exact K.out _ ((Below.refl W5.heap.size W5).alloc (Nat.le_refl _) _).drew | with_reducible exact K.out _ (HB6.out.alloc HB6.out.size _) | go_keep)
          (first
            | (go_at_call 10
               first
                 | ((with_reducible refine (HC1.out _ (Below.refl _ _).drew).mono ?_)
                    rintro e w6 ⟨kk, kn, kneg, kma, kml, kmc, kbits, kbytes, ka, klen, kcap, rfl, htm, hb6⟩
                    have HT6 := Lib.hid htm
                    have HR6 := Lib.hid hb6
                    have HB6 := Lib.hid (show Below W5.heap.size W5 w6 from (Below.refl W5.heap.size W5).drew.trans hb6)
                    have hb7 := HB6.out
                    clear htm hb6)
                 | ((with_reducible refine (HC1.out _ ((Below.refl W5.heap.size W5).alloc (Nat.le_refl _) _).drew).mono ?_)
                    rintro e w6 ⟨kk, kn, kneg, kma, kml, kmc, kbits, kbytes, ka, klen, kcap, rfl, htm, hb6⟩
                    have HT6 := Lib.hid htm
                    have HO6 := Lib.hid hb6
                    have HB7 := Lib.hid (show Below W5.heap.size W5 w6 from ((Below.refl W5.heap.size W5).alloc (Nat.le_refl _) _).drew.trans (hb6.mono (by simp)))
                    have hb7 := HB7.out
                    have f' := held_new hb6
                    have f0 := free_of f' 0
                    have f1 := free_of f' 1
                    have f2 := free_of f' 2
                    have f3 := free_of f' 3
                    have f4 := free_of f' 4
                    have f5 := free_of f' 5
                    have f6 := free_of f' 6
                    have y0 := cell_of f' 0
                    have y1 := cell_of f' 1
                    have y2 := cell_of f' 2
                    have y3 := cell_of f' 3
                    have y4 := cell_of f' 4
                    have y5 := cell_of f' 5
                    have y6 := cell_of f' 6
                    simp at y0 y1 y2 y3 y4 y5 y6
                    clear htm hb6 f')))
        all_goals go_wp2_with fail
        all_goals go_meet
        all_goals
          first
            | (have hz := rd_behind HT6.out HR6.out
               exact ⟨Lib.hid hz, rfl⟩)
            | (have hz := rd_ahead rfl HT6.out HO6.out
               exact ⟨Lib.hid hz, rfl⟩)
      case rest =>
        obtain ⟨HP, rfl⟩ := hcut
        obtain ⟨nb, k1, n1', neg1, ma1, ml1, mc1, bi1, by1, aa1, le1, ca1, rfl, h1', ht1, hg1, hb1⟩ := HP.out
        have R0 := Lib.hid h1'
        have R1 := Lib.hid ht1
        have R2 := Lib.hid hb1
        clear HP h1' ht1 hg1 hb1
        obtain ⟨W6, hW6⟩ : ∃ V, V = wc := ⟨wc, rfl⟩
        subst hW6
        have P0 := Lib.hid ((R2.out.block _ (lt_of_block X0.out)).trans X0.out)
        have PB6 := Lib.hid (XB.out.trans (R2.out.mono XB.out.size))
        have HD6 := Lib.hid (HDW.out.below R2.out)
        have c := fun i => cell_of P0.out i
        go_wp2_with fail
        clear c
        have HPL := Lib.hid (show pp < 18446744073709551616 by rw [← HPP.out]; unfold pB nB; have := HB64.out; omega)
        obtain ⟨fm, hz⟩ : ∃ z, f + m = z := ⟨_, rfl⟩
        have HZ := Lib.hid hz
        have rfm : IntKind.i64.wrap ((f : Int) + (m : Int)) = (fm : Int) := by rw [IntWalk.i64_in _ (by omega)]; omega
        clear hz
        have HSL := Lib.hid HBL.out
        by_cases hfm : f + m ≤ bs.length
        · have HFM := Lib.hid hfm
          refine ((read_any (prtD bs f m) _ _ [] pp W6 HD6.out (SlAt.nil _) (Nat.zero_le _) HPL.out).mono (fun e w' h => full_readEnd h (t := .mk 9 0 false [] 0 (s.extract f fm) []) (by rw [← HPP.out, read_2 bs f m HB64.out, if_pos HFM.out, HTX.out, HZ.out]))).mono ?_
          rintro e w7 ⟨kk, kn, kneg, kma, kml, kmc, kbits, kbytes, ka, klen, kcap, rfl, htm, hb⟩
          have T := one_at w7 (.cells #[.int .i64 kk, .int .i64 kn, .bool kneg, .slice kma kml kmc, .int .u64 kbits, .string kbytes, .slice ka klen kcap] 40)
          go_upto_region 24 with fail
          generalize w7.alloc (.cells #[.int .i64 kk, .int .i64 kn, .bool kneg, .slice kma kml kmc, .int .u64 kbits, .string kbytes, .slice ka klen kcap] 40) = W7 at *
          have BT := Lib.hid (hb.trans (T.2.2.mono hb.size))
          have S0 := Lib.hid T.1
          have S1 := Lib.hid (htm.lower T.2.2)
          have Q0 := Lib.hid ((BT.out.block _ (lt_of_block R0.out)).trans R0.out)
          have Q1 := Lib.hid (R1.out.lower BT.out)
          have P7 := Lib.hid ((BT.out.block _ (lt_of_block P0.out)).trans P0.out)
          have PB7 := Lib.hid (PB6.out.trans (BT.out.mono PB6.out.size))
          have HD7 := Lib.hid (HD6.out.below BT.out)
          clear T htm hb
          have c := fun i => cell_of Q0.out i
          go_wp2_with fail
          clear c
          have HX5 := same_any (.mk 9 0 false [] 0 s []) _ (fun _ => True) _ _ W7 Q1.out (leaf9 s (by have := HL.out; unfold maxLen; omega) W7)
          refine HX5.mono ?_
          clear HX5
          rintro e w8 ⟨rfl, hb⟩
          have P8 := Lib.hid ((hb.block _ (lt_of_block P7.out)).trans P7.out)
          have S8 := Lib.hid ((hb.block _ (lt_of_block S0.out)).trans S0.out)
          have V8 := Lib.hid (S1.out.lower hb)
          have PB8 := Lib.hid (PB7.out.trans (hb.mono PB7.out.size))
          have HD8 := Lib.hid (HD7.out.below hb)
          clear hb
          have q5 : ¬ (s.size : Int) < (fm : Int) := by have := HSL.out; have := HZ.out; have := HFM.out; omega
          have q6 : (0 : Int) ≤ (f : Int) := by omega
          have q7 : (f : Int) ≤ (fm : Int) := by have := HZ.out; omega
          have q7' : f ≤ fm := by have := HZ.out; omega
          have q7'' : (0 : Int) ≤ (fm : Int) := by omega
          have q8' : fm ≤ s.size := by have := HSL.out; have := HZ.out; have := HFM.out; omega
          have q8 : (fm : Int) ≤ (s.size : Int) := by omega
          have q9 : IntKind.i64.wrap ((j : Int) + 6) = ((j + 6 : Nat) : Int) := by rw [IntWalk.i64_in _ (by omega)]; omega
          clear hfm
          go_upto_region 28 with fail
          have HEX := Lib.hid (show (s.extract f fm).size ≤ maxLen by rw [ByteArray.size_extract]; have := HL.out; unfold maxLen; omega)
          have D1 := Lib.hid (fun (V : World) (hb : Below w8.heap.size w8 V) => (same_any (.mk 9 0 false [] 0 (s.extract f fm) []) _ (fun _ => True) _ _ V (V8.out.lower hb) (leaf9 (s.extract f fm) HEX.out V)).mono (R' := fun e w' => e = .returned (.bool true) ∧ Below w8.heap.size w8 w') fun e w' h => ⟨h.1, hb.trans (h.2.mono hb.size)⟩)
          have D2 := Lib.hid (fun (V : World) (hb : Below w8.heap.size w8 V) => (why_any (prtD bs f m) [] _ _ V (HD8.out.below hb) (SlAt.nil V) (prt_small bs f m HB64.out)).mono (R' := fun e w' => e = .returned (.string ⟨#[]⟩) ∧ Below w8.heap.size w8 w') fun e w' h => ⟨by rw [h.1, (whyT_empty _ _).2 (prt_right bs f m HB64.out HFM.out)], hb.trans (h.2.mono hb.size)⟩)
          have D3 := Lib.hid (fun (V : World) (hb : Below w8.heap.size w8 V) => (live_fn (prtD bs f m) _ V (HD8.out.below hb) (prt_small bs f m HB64.out)).mono (R' := fun e w' => e = .returned (.int .i64 ((j + 6 : Nat) : Int)) ∧ Below w8.heap.size w8 w') fun e w' h => ⟨by rw [h.1, prt_live bs f m HB64.out HFM.out, HJB.out], hb.trans (h.2.mono hb.size)⟩)
          have D4 := Lib.hid (fun (V : World) (hb : Below w8.heap.size w8 V) => (awake_any V).mono (R' := fun e w' => e = .returned (.bool true) ∧ Below w8.heap.size w8 w') fun e w' h => ⟨h.1, hb.trans (h.2.mono hb.size)⟩)
          have K8 := Lib.hid (fun (V : World) (hb : Below w8.heap.size w8 V) => keep16 P8.out S8.out hb)
          obtain ⟨g0, g1, g2, g3, g4, g5, g6, g7, g8, g9, g10, g11, g12, g13, g14, g15, -⟩ := K8.out w8 (Below.refl _ _)
          go_region_held3 (fun w' => w'.cell? ⟨w.heap.size, 0, none⟩ = some (.int .i64 9) ∧ w'.cell? ⟨w.heap.size, 1, none⟩ = some (.slice b9 (j + 2 + 4) c9) ∧ w'.cell? ⟨w.heap.size, 2, none⟩ = some (.int .i64 0) ∧ w'.cell? ⟨w.heap.size, 3, none⟩ = some (.slice none 0 0) ∧ w'.cell? ⟨w.heap.size, 4, none⟩ = some (.int .i64 sz) ∧ w'.cell? ⟨w.heap.size, 5, none⟩ = some (.int .i64 0) ∧ w'.cell? ⟨w.heap.size, 6, none⟩ = some (.slice none 0 0) ∧ w'.cell? ⟨w.heap.size, 7, none⟩ = some (.slice (some ⟨V3.heap.size, 0, none⟩) 2 2) ∧ w'.cell? ⟨w.heap.size, 8, none⟩ = some (.slice none 0 0) ∧ w'.cell? ⟨w7.heap.size, 0, none⟩ = some (.int .i64 kk) ∧ w'.cell? ⟨w7.heap.size, 1, none⟩ = some (.int .i64 kn) ∧ w'.cell? ⟨w7.heap.size, 2, none⟩ = some (.bool kneg) ∧ w'.cell? ⟨w7.heap.size, 3, none⟩ = some (.slice kma kml kmc) ∧ w'.cell? ⟨w7.heap.size, 4, none⟩ = some (.int .u64 kbits) ∧ w'.cell? ⟨w7.heap.size, 5, none⟩ = some (.string kbytes) ∧ w'.cell? ⟨w7.heap.size, 6, none⟩ = some (.slice ka klen kcap) ∧ Below w8.heap.size w8 w')
            (first | with_reducible exact K8.out _ (Below.refl _ _).drew | with_reducible exact K8.out _ (by assumption) | go_keep)
            (first
              | (go_at_call 17
                 go_split_ands
                 refine (D1.out _ (by assumption)).mono ?_
                 rintro e w7 ⟨rfl, hb7⟩)
              | (go_at_call 8
                 go_split_ands
                 with_reducible refine (D2.out _ (by assumption)).mono ?_
                 rintro e w7 ⟨rfl, hb7⟩)
              | (go_at_call 12
                 go_split_ands
                 with_reducible refine (D3.out _ (by assumption)).mono ?_
                 rintro e w7 ⟨rfl, hb7⟩)
              | (go_at_call 9
                 go_split_ands
                 with_reducible refine (D4.out _ (by assumption)).mono ?_
                 rintro e w7 ⟨rfl, hb7⟩))
          go_split_ands
          have HBL8 := Lib.hid ‹Below w8.heap.size w8 _›
          clear g0 g1 g2 g3 g4 g5 g6 g7 g8 g9 g10 g11 g12 g13 g14 g15
          go_wp2_with fail
          go_ret
          exact ⟨rfl, PB8.out.trans (HBL8.out.mono PB8.out.size)⟩
        · have HFM := Lib.hid hfm
          have HRN := Lib.hid (show readP true [] (prtD bs f m).mem pp = none by rw [← HPP.out, read_2 bs f m HB64.out, if_neg HFM.out])
          refine (read_any (prtD bs f m) _ _ [] pp W6 HD6.out (SlAt.nil _) (Nat.zero_le _) HPL.out).mono ?_
          rintro e w7 h7
          rw [HRN.out] at h7
          obtain ⟨tv, t', rfl, htm, -, hb⟩ := h7
          obtain ⟨kk, kn, kneg, kma, kml, kmc, kbits, kbytes, ka, klen, kcap, rfl⟩ := htm.shape
          have T := one_at w7 (.cells #[.int .i64 kk, .int .i64 kn, .bool kneg, .slice kma kml kmc, .int .u64 kbits, .string kbytes, .slice ka klen kcap] 40)
          simp only [Option.isSome_none]
          go_upto_region 24 with fail
          generalize w7.alloc (.cells #[.int .i64 kk, .int .i64 kn, .bool kneg, .slice kma kml kmc, .int .u64 kbits, .string kbytes, .slice ka klen kcap] 40) = W7 at *
          have BT := Lib.hid (hb.trans (T.2.2.mono hb.size))
          have Q0 := Lib.hid ((BT.out.block _ (lt_of_block R0.out)).trans R0.out)
          have Q1 := Lib.hid (R1.out.lower BT.out)
          have P7 := Lib.hid ((BT.out.block _ (lt_of_block P0.out)).trans P0.out)
          have PB7 := Lib.hid (PB6.out.trans (BT.out.mono PB6.out.size))
          have HD7 := Lib.hid (HD6.out.below BT.out)
          clear T htm hb
          have c := fun i => cell_of Q0.out i
          go_wp2_with fail
          clear c
          have HX5 := same_any (.mk 9 0 false [] 0 s []) _ (fun _ => True) _ _ W7 Q1.out (leaf9 s (by have := HL.out; unfold maxLen; omega) W7)
          refine HX5.mono ?_
          clear HX5
          rintro e w8 ⟨rfl, hb⟩
          have P8 := Lib.hid ((hb.block _ (lt_of_block P7.out)).trans P7.out)
          have PB8 := Lib.hid (PB7.out.trans (hb.mono PB7.out.size))
          have HD8 := Lib.hid (HD7.out.below hb)
          clear hb
          have q5 : (s.size : Int) < (fm : Int) := by have := HSL.out; have := HZ.out; have := HFM.out; omega
          have c := fun i => cell_of P8.out i
          clear hfm
          go_wp2_with fail
          clear c
          refine (why_any (prtD bs f m) [] _ _ w8 HD8.out (SlAt.nil _) (prt_small bs f m HB64.out)).mono ?_
          rintro e w9' ⟨rfl, hb⟩
          rw [prt_wrong bs f m HB64.out HFM.out]
          have PB9 := Lib.hid (PB8.out.trans (hb.mono PB8.out.size))
          clear hb
          go_wp2_with fail
          refine (awake_any w9').mono ?_
          rintro e wz ⟨rfl, hb⟩
          have EBZ := Lib.hid (PB9.out.trans (hb.mono PB9.out.size))
          clear hb
          go_wp2_with fail
          go_ret
          exact ⟨rfl, EBZ.out⟩
end Go.Proofs.Ytohgkfnbjfhniaa
