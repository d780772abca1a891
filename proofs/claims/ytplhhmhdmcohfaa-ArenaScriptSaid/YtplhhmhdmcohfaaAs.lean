/-
  ArenaScript: its walk.
-/
import Derived.Test.YtplhhmhdmcohfaaAr
namespace Go.Proofs.Ytplhhmhdmcohfaa
open Go.RowKit Go.Maps

theorem num_any (n : Int) (w : World) :
    Calls Try.prog 15 #[.int .i64 n] w fun e w' => e = .returned (.int .i64 n) ∧ w = w' := by
  go_enter Try.func15, Try.ntmps15
  go_wp2
  go_ret
  exact ⟨rfl, rfl⟩

/-- What the loop keeps: both arenas stand for the same. -/
structure R2 (w0 : World) (b bm rb : Nat) (B : Int) (k : Nat) (x u c : Int) (L : List (Int × Int)) (v : Value) (w : World) : Prop where
  ar : ∃ m, m ≤ k ∧ ArAt w b bm B x u c L m
  rf : RfAt w w0.heap.size rb B x c L v
  n1 : rb ≠ b
  n2 : rb ≠ bm
  d1 : v.ownBlock ≠ some b
  d2 : v.ownBlock ≠ some bm
  nb : w0.heap.size ≤ b
  nm : w0.heap.size ≤ bm
  bel : Below w0.heap.size w0 w
  vals : ∀ p ∈ L, 1 ≤ p.1 ∧ p.1 < x ∧ 1 ≤ p.2 ∧ p.2 ≤ 16777216
  us : u = sumN L
  ll : L.length ≤ k
  c0 : 0 ≤ c
  c1 : c ≤ 16777216 * k
  x0 : 1 ≤ x
  x1 : x ≤ 1 + 16777217 * k

theorem R2.rf1 {w0 : World} {b bm rb : Nat} {B : Int} {k : Nat} {x u c : Int} {L : List (Int × Int)} {v : Value} {w w1 : World} (h : R2 w0 b bm rb B k x u c L v w) (f1 : Fr (fun k => k = b ∨ k = bm) w w1) : RfAt w1 w0.heap.size rb B x c L v :=
  h.rf.fr f1 (by have := h.n1; have := h.n2; omega) (fun k e q => by rcases q with rfl | rfl; exact h.d1 e; exact h.d2 e)

theorem R2.step {w0 : World} {b bm rb : Nat} {B : Int} {k : Nat} {x u c : Int} {L : List (Int × Int)} {v : Value} {w w1 w2 : World} (h : R2 w0 b bm rb B k x u c L v w) (f1 : Fr (fun k => k = b ∨ k = bm) w w1)
    {m' : Nat} {x' u' c' : Int} {L' : List (Int × Int)} {v' : Value} (a : ArAt w1 b bm B x' u' c' L' m') (hm : m' ≤ k + 1) (f2 : Fr (fun k => k = rb) w1 w2) (r : RfAt w2 w0.heap.size rb B x' c' L' v')
    (hv : v' = v ∨ ∀ k, v'.ownBlock = some k → w1.heap.size ≤ k)
    (vals : ∀ p ∈ L', 1 ≤ p.1 ∧ p.1 < x' ∧ 1 ≤ p.2 ∧ p.2 ≤ 16777216) (us : u' = sumN L') (ll : L'.length ≤ k + 1) (c0 : 0 ≤ c') (c1 : c' ≤ 16777216 * (k + 1)) (x0 : 1 ≤ x') (x1 : x' ≤ 1 + 16777217 * (k + 1)) :
    R2 w0 b bm rb B (k + 1) x' u' c' L' v' w2 := by
  have hb1 := a.lt
  have hm1 := a.ltm
  refine ⟨⟨m', hm, a.fr f2 (by have := h.n1; omega) (by have := h.n2; omega)⟩, r, h.n1, h.n2, ?_, ?_, h.nb, h.nm, ?_, vals, us, ll, c0, by push_cast; exact c1, x0, by push_cast; exact x1⟩
  · rcases hv with rfl | hv
    · exact h.d1
    · intro e; have := hv _ e; omega
  · rcases hv with rfl | hv
    · exact h.d2
    · intro e; have := hv _ e; omega
  · have h1 := f1.below h.bel (fun i q => by rcases q with rfl | rfl; exact h.nb; exact h.nm) h.bel.size
    exact f2.below h1 (fun i q => by rw [q]; exact h.rf.nb) h1.size

theorem R2.drewN {w0 : World} {b bm rb : Nat} {B : Int} {k : Nat} {x u c : Int} {L : List (Int × Int)} {v : Value} {w : World} (h : R2 w0 b bm rb B k x u c L v w) (n : Nat) : R2 w0 b bm rb B k x u c L v (w.drewN n) := by
  obtain ⟨m, hm, a⟩ := h.ar
  exact ⟨⟨m, hm, a.drewN n⟩, h.rf.drewN n, h.n1, h.n2, h.d1, h.d2, h.nb, h.nm, below_drewN h.bel n, h.vals, h.us, h.ll, h.c0, h.c1, h.x0, h.x1⟩

theorem R2.same {w0 : World} {b bm rb : Nat} {B : Int} {k : Nat} {x u c : Int} {L : List (Int × Int)} {v : Value} {w : World} (h : R2 w0 b bm rb B k x u c L v w) (n : Nat) : R2 w0 b bm rb B (k + 1) x u c L v (w.drewN n) := by
  have h := h.drewN n
  obtain ⟨m, hm, a⟩ := h.ar
  have := h.ll; have := h.c1; have := h.x1
  exact ⟨⟨m, by omega, a⟩, h.rf, h.n1, h.n2, h.d1, h.d2, h.nb, h.nm, h.bel, h.vals, h.us, by omega, h.c0, by push_cast; omega, h.x0, by push_cast; omega⟩

theorem RfAt.mono {w : World} {base base' b : Nat} {B x c : Int} {L : List (Int × Int)} {v : Value} (h : RfAt w base' b B x c L v) (hb : base ≤ base') : RfAt w base b B x c L v :=
  ⟨h.c0, h.c1, h.c2, h.c3, h.f1, h.f2, h.f3, Nat.le_trans hb h.nb, h.lt, own_mono h.own hb, h.ne⟩

theorem sumN_rm {L : List (Int × Int)} (hn : L.Pairwise (fun p q => p.1 ≠ q.1)) (k : Int) : sumN (rm L k) = sumN L - lk L k := by
  induction L with
  | nil => simp [sumN, rm, lk]
  | cons p r ih =>
    have ih := ih hn.of_cons
    by_cases e : p.1 = k
    · have hno : hs r k = false := by
        rw [hs, List.any_eq_false]; intro q hq
        have := (List.pairwise_cons.1 hn).1 q hq
        simp; rw [← e]; exact fun z => this z.symm
      have h1 : rm (p :: r) k = r := by
        have := rm_of_not hno
        simp only [rm, List.filter_cons] at this ⊢
        rw [this]; simp [e]
      rw [h1]; simp [sumN, lk, e]; omega
    · have h1 : rm (p :: r) k = p :: rm r k := by simp [rm, e]
      have h2 : lk (p :: r) k = lk r k := by simp [lk, e]
      rw [h1, h2]; simp only [sumN, List.map_cons, List.sum_cons] at ih ⊢; omega

theorem lk_rng {L : List (Int × Int)} (h : ∀ p ∈ L, 0 ≤ p.2 ∧ p.2 ≤ 16777216) (k : Int) : 0 ≤ lk L k ∧ lk L k ≤ 16777216 := by
  unfold lk
  cases q : L.find? (fun p => p.1 == k) with
  | none => simp
  | some p => simpa using h p (List.mem_of_find?_eq_some q)

theorem lk_le {L : List (Int × Int)} (h : ∀ p ∈ L, 0 ≤ p.2 ∧ p.2 ≤ 16777216) (hn : L.Pairwise (fun p q => p.1 ≠ q.1)) (k : Int) : lk L k ≤ sumN L := by
  have h1 := sumN_rm hn k
  have h2 := (sumN_nonneg (L := rm L k) (fun p hp => h p (List.mem_filter.1 hp).1)).1
  omega

theorem used_is (b : Nat) (u c T : Int) (w : World) (hT : u + c = T)
    (c2 : w.cell? ⟨b, 2, none⟩ = some (.int .i64 u)) (c3 : w.cell? ⟨b, 3, none⟩ = some (.int .i64 c))
    (hu : 0 ≤ u) (hu' : u ≤ 1099511627776) (hc : 0 ≤ c) (hc' : c ≤ 1099511627776) :
    Calls Try.prog 9 #[.pointer (some ⟨b, 0, none⟩)] w fun e w' => e = .returned (.int .i64 T) ∧ ∃ n, w' = w.drewN n := by
  subst hT; exact used_any b u c w c2 c3 hu hu' hc hc'

theorem rused_is {base b : Nat} {B x c : Int} {L : List (Int × Int)} {v : Value} (T : Int) (w : World) (hT : sumN L + c = T) (h : RfAt w base b B x c L v)
    (hL : ∀ p ∈ L, 0 ≤ p.2 ∧ p.2 ≤ 16777216) (hl : L.length ≤ 1000) (hc : 0 ≤ c) (hc' : c ≤ 1099511627776) :
    Calls Try.prog 21 #[.pointer (some ⟨b, 0, none⟩)] w fun e w' => e = .returned (.int .i64 T) ∧ w' = w := by
  have e : c + sumN L = T := by omega
  subst e; exact rused_same w h hL hl hc hc'

set_option maxRecDepth 100000 in
set_option maxHeartbeats 4000000 in
theorem script_any (B : Int) (a0 : Option Addr) (len cap : Nat) (w : World) (hreach : len ≤ 9223372036854775807)
    (hc : ∀ j, j < len → ∃ ab ao d n, a0 = some ⟨ab, ao, none⟩ ∧ (Lit.int .i64 n).wf = true ∧ ∀ W, Below w.heap.size w W → W.cell? ⟨ab, ao + j * 2, none⟩ = some (.int .i64 d) ∧ W.cell? ⟨ab, ao + j * 2 + 1, none⟩ = some (.int .i64 n)) :
    Calls Try.prog 4 #[.int .i64 B, .slice a0 len cap] w fun e w' => e = .returned (.bool true) ∧ Below w.heap.size w w' := by
  by_cases hlen : 100 < len
  · have hl : (100 : Int) < len := by omega
    go_enter Try.func4, Try.ntmps4
    go_wp2_with (go_at_call 7; refine (awake_any _).mono ?_; rintro e w1 ⟨rfl, hf⟩)
    go_ret
    exact ⟨rfl, hf.below0⟩
  have hl : ¬ (100 : Int) < len := by omega
  by_cases hBr : B < 0 ∨ 16777216 < B
  · have HBR := Lib.hid hBr
    clear hBr
    go_enter Try.func4, Try.ntmps4
    go_wp2_with (first
      | (go_at_call 8; refine (new_none _ _ HBR.out).mono ?_; rintro e w' ⟨rfl, rfl⟩)
      | (go_at_call 13; refine (rnew_none _ _ HBR.out).mono ?_; rintro e w' ⟨rfl, rfl⟩)
      | (go_at_call 7; refine (awake_any _).mono ?_; rintro e w1 ⟨rfl, hf⟩))
    go_ret
    exact ⟨rfl, hf.below0⟩
  have hB0 : 0 ≤ B := by omega
  have hB1 : B ≤ 16777216 := by omega
  clear hBr
  go_enter Try.func4, Try.ntmps4
  go_wp2_with fail
  refine (new_ok B _ hB0 hB1).mono ?_
  rintro e w1 ⟨b, bm, rfl, hb, hm, a1, fr1⟩
  have A1 := Lib.hid a1
  have HB := Lib.hid hb
  have HM := Lib.hid hm
  have FR1 := Lib.hid fr1
  clear a1 fr1 hb hm
  go_wp2_with fail
  refine (rnew_ok B _ hB0 hB1).mono ?_
  rintro e w2 ⟨rfl, r1, fr2⟩
  have R1 := Lib.hid r1
  have FR2 := Lib.hid fr2
  clear r1 fr2
  go_wp2_with fail
  have HNE := Lib.hid (And.intro A1.out.lt A1.out.ltm)
  have HSZ := Lib.hid FR1.out.size
  have A2 := Lib.hid (A1.out.fr FR2.out (fun q => q) (fun q => q))
  have BEL := Lib.hid (FR2.out.below FR1.out.below0 (fun i q => q.elim) FR1.out.below0.size)
  clear FR1 FR2 A1
  generalize w1.heap.size = rb at *
  have START := Lib.hid (show R2 w b bm rb B 0 1 0 0 [] (.slice none 0 0) w2 from
    ⟨⟨0, by omega, A2.out⟩, R1.out.mono HSZ.out, by have := HNE.out; omega, by have := HNE.out; omega, by simp [Value.ownBlock], by simp [Value.ownBlock], HB.out, HM.out, BEL.out, by simp, rfl, by simp, by omega, by simp, by omega, by simp⟩)
  clear HNE HSZ A2 BEL R1 HB HM
  have HC := Lib.hid hc
  clear hc
  go_loopw [7] (fun i wr => ∃ (k : Nat) (x u c : Int) (L : List (Int × Int)) (v : Value), k ≤ len ∧ i = .int .i64 k ∧ R2 w b bm rb B k x u c L v wr) (fun i _ => len - (intOf i).toNat)
  case atStart => exact ⟨0, 1, 0, 0, [], _, by omega, rfl, START.out⟩
  case round =>
    obtain ⟨k, x, u, c, L, v, hk, rfl, hR⟩ := hrel
    have HR := Lib.hid hR
    by_cases hlt : k < len
    · obtain ⟨ab, ao, d, n, rfl, hwn, hcell⟩ := HC.out k hlt
      obtain ⟨k0, k1⟩ := hcell wr hR.bel
      obtain ⟨m, hm, ar⟩ := hR.ar
      have hll := hR.ll
      have hc0 := hR.c0
      have hc1 := hR.c1
      have hx0 := hR.x0
      have hx1 := hR.x1
      have AR := Lib.hid ar
      have RF := Lib.hid hR.rf
      have HV := Lib.hid (show ∀ p ∈ L, 0 ≤ p.2 ∧ p.2 ≤ 16777216 from fun p hp => by have := hR.vals p hp; omega)
      have hsn := sumN_nonneg HV.out
      have HUS := Lib.hid hR.us
      have hu0 : 0 ≤ u := by rw [HUS.out]; exact hsn.1
      have hu1 : u ≤ 16777216 * L.length := by rw [HUS.out]; exact hsn.2
      obtain ⟨T, hT⟩ : ∃ T, u + c = T := ⟨_, rfl⟩
      have HT := Lib.hid hT
      have HT2 := Lib.hid (show sumN L + c = T by rw [← HUS.out]; exact hT)
      clear hT
      have hfree : hs L x = false := by
        rw [hs, List.any_eq_false]; intro p hp
        have := hR.vals p hp
        simp; omega
      have HFR := Lib.hid hfree
      obtain ⟨av, cv, hv⟩ := own_slice3 hR.rf.own |>.imp fun a h => h.imp fun cc h => h.1
      subst hv
      have rc3 := hR.rf.c3
      clear hR ar hcell hsn hfree
      by_cases hd0 : d = 0
      · subst hd0
        by_cases hn : n < 1 ∨ 16777216 < n
        · have HN := Lib.hid hn
          clear hn
          go_wp2_with (first
            | (go_at_call 10; refine (take_arg _ _ _ HN.out).mono ?_; rintro e w' ⟨rfl, rfl⟩)
            | (go_at_call 14; refine (rtake_arg _ _ _ HN.out).mono ?_; rintro e w' ⟨rfl, rfl⟩)
            | (go_at_call 15; refine (num_any _ _).mono ?_; rintro e w' ⟨rfl, rfl⟩))
          go_quiet ((first
            | (go_at_call 9; exact Calls.quiet_of (used_is b _ _ _ _ HT.out (AR.out.drewN _).c2 (AR.out.drewN _).c3 (by omega) (by omega) (by omega) (by omega)))
            | (go_at_call 21; exact Calls.quiet_of_same (rused_is _ _ HT2.out (RF.out.drewN _) HV.out (by omega) (by omega) (by omega)))
            | (go_at_call 12; exact Calls.quiet_of_same (regions_is _ (AR.out.drewN _) _ rfl))))
          go_wp2
          go_roundw
          case rel => exact ⟨k + 1, _, _, _, _, _, by omega, by go_num, HR.out.same _⟩
          case measure => simp [intOf]; omega
        · have hn1 : 1 ≤ n := by omega
          have hn2 : n ≤ 16777216 := by omega
          clear hn
          by_cases hok : B = 0 ∨ u + c + n ≤ B
          · have HOK := Lib.hid hok
            clear hok
            have VALS := Lib.hid (show ∀ p ∈ L ++ [(x, n)], 1 ≤ p.1 ∧ p.1 < x + (n + 1) ∧ 1 ≤ p.2 ∧ p.2 ≤ 16777216 from fun p hp => by rcases List.mem_append.1 hp with q | q; (have := HR.out.vals p q; omega); (simp at q; subst q; simp; omega))
            have HV5 := Lib.hid (show ∀ p ∈ L ++ [(x, n)], 0 ≤ p.2 ∧ p.2 ≤ 16777216 from fun p hp => by have := VALS.out p hp; omega)
            have US := Lib.hid (show u + n = sumN (L ++ [(x, n)]) by rw [HUS.out]; simp [sumN])
            have hln : (L ++ [(x, n)]).length ≤ k + 1 := by simp; omega
            have hu5 : 0 ≤ u + n := by rw [US.out]; exact (sumN_nonneg HV5.out).1
            have hu6 : u + n ≤ 1099511627776 := by rw [US.out]; have := (sumN_nonneg HV5.out).2; omega
            have hc5 : 0 ≤ c := by omega
            have hc6 : c ≤ 16777216 * ((k : Int) + 1) := by omega
            obtain ⟨T5, hT5⟩ : ∃ T, u + n + (c) = T := ⟨_, rfl⟩
            have HT5 := Lib.hid hT5
            have HT6 := Lib.hid (show sumN (L ++ [(x, n)]) + (c) = T5 by rw [← US.out]; exact hT5)
            clear hT5
            go_wp2_with (first
              | (go_at_call 10; refine (take_ok n _ AR.out hn1 hn2 hx0 (by omega) hu0 (by omega) (by omega) HFR.out (room_any b B u c n _ AR.out.c0 AR.out.c2 AR.out.c3 hu0 (by omega) hc0 (by omega) (by omega) hn2 true (by simp only [HOK.out, decide_true]))).mono ?_; rintro e w3 ⟨rfl, a3, f3⟩
                 have A3 := Lib.hid a3
                 have F3 := Lib.hid f3
                 have RF3 := Lib.hid (HR.out.rf1 f3)
                 have BS3 := Lib.hid (Nat.le_trans HR.out.bel.size f3.size)
                 clear a3 f3)
              | (go_at_call 14; refine (rtake_ok n _ RF3.out BS3.out hn1 hn2 hx0 (by omega) (by omega) (rroom_any n _ RF3.out HV.out (by omega) hc0 (by omega) hB0 hB1 (by omega) hn2 true (by rw [← HUS.out]; simp only [HOK.out, decide_true]))).mono ?_; rintro e w4 ⟨rfl, v4, r4, hv4, f4⟩
                 obtain ⟨av4, cv4, hv⟩ := own_slice3 r4.own |>.imp fun a h => h.imp fun cc h => h.1
                 subst hv
                 have HV4 := Lib.hid (show (Value.slice av4 (L ++ [(x, n)]).length cv4 = Value.slice av L.length cv) ∨ ∀ k, (Value.slice av4 (L ++ [(x, n)]).length cv4).ownBlock = some k → w3.heap.size ≤ k from Or.inr hv4)
                 clear hv4
                 rw [show x + n + 1 = x + (n + 1) from by omega] at r4
                 have rc4 := r4.c3
                 have A4 := Lib.hid (A3.out.fr f4 (fun q => HR.out.n1 q.symm) (fun q => HR.out.n2 q.symm))
                 have R4 := Lib.hid r4
                 have F4 := Lib.hid f4
                 clear r4 f4)
              | (go_at_call 15; refine (num_any _ _).mono ?_; rintro e w' ⟨rfl, rfl⟩))
            go_quiet ((first
              | (go_at_call 9; exact Calls.quiet_of (used_is b _ _ _ _ HT5.out (A4.out.drewN _).c2 (A4.out.drewN _).c3 (by omega) (by omega) (by omega) (by omega)))
              | (go_at_call 21; exact Calls.quiet_of_same (rused_is _ _ HT6.out (R4.out.drewN _) HV5.out (by omega) (by omega) (by omega)))
              | (go_at_call 12; exact Calls.quiet_of_same (regions_is _ (A4.out.drewN _) _ rfl))))
            go_wp2
            go_roundw
            case rel => exact ⟨k + 1, _, _, _, _, _, by omega, by go_num, (HR.out.step F3.out A3.out (by omega) F4.out R4.out HV4.out VALS.out US.out (by omega) (by omega) (by omega) (by omega) (by omega)).drewN _⟩
            case measure => simp [intOf]; omega
          · have hBf : (B == 0) = false := by simp; omega
            have hrf : decide (u + c + n ≤ B) = false := by simp; omega
            have HBF := Lib.hid hBf
            have HRF := Lib.hid hrf
            clear hBf hrf
            have HOK := Lib.hid hok
            clear hok
            go_wp2_with (first
              | (go_at_call 10; refine (take_room n _ AR.out hn1 hn2 HBF.out hu0 (by omega) hc0 (by omega) HRF.out).mono ?_; rintro e w' ⟨rfl, k1', rfl⟩)
              | (go_at_call 14; refine (rtake_room rb n _ hn1 hn2 (rroom_any n _ (RF.out.drewN _) HV.out (by omega) hc0 (by omega) hB0 hB1 (by omega) hn2 false (by rw [← HUS.out]; simp only [HOK.out, decide_false]))).mono ?_; rintro e w' ⟨rfl, k2', rfl⟩)
              | (go_at_call 15; refine (num_any _ _).mono ?_; rintro e w' ⟨rfl, rfl⟩))
            have ARd := Lib.hid (AR.out.drewN (k1' + k2'))
            have RFd := Lib.hid (RF.out.drewN (k1' + k2'))
            have HRd := Lib.hid (HR.out.drewN (k1' + k2'))
            have rc5 := RFd.out.c3
            generalize wr.drewN (k1' + k2') = wz at ARd RFd HRd rc5 ⊢
            go_quiet ((first
              | (go_at_call 9; exact Calls.quiet_of (used_is b _ _ _ _ HT.out (ARd.out.drewN _).c2 (ARd.out.drewN _).c3 (by omega) (by omega) (by omega) (by omega)))
              | (go_at_call 21; exact Calls.quiet_of_same (rused_is _ _ HT2.out (RFd.out.drewN _) HV.out (by omega) (by omega) (by omega)))
              | (go_at_call 12; exact Calls.quiet_of_same (regions_is _ (ARd.out.drewN _) _ rfl))))
            go_wp2
            go_roundw
            case rel => exact ⟨k + 1, _, _, _, _, _, by omega, by go_num, HRd.out.same _⟩
            case measure => simp [intOf]; omega
      · by_cases hd1 : d = 1
        · subst hd1
          have NOD := Lib.hid (show L.Pairwise (fun p q => p.1 ≠ q.1) from by obtain ⟨D, _, hrep⟩ := AR.out.own; exact hrep.nod)
          have hlr := lk_rng HV.out n
          have hle := lk_le HV.out NOD.out n
          have HLE := Lib.hid (show lk L n ≤ u by rw [HUS.out]; exact hle)
          clear hle
          have hle2 := HLE.out
          have VALS := Lib.hid (show ∀ p ∈ rm L n, 1 ≤ p.1 ∧ p.1 < x ∧ 1 ≤ p.2 ∧ p.2 ≤ 16777216 from fun p hp => HR.out.vals p (List.mem_filter.1 hp).1)
          have HV5 := Lib.hid (show ∀ p ∈ rm L n, 0 ≤ p.2 ∧ p.2 ≤ 16777216 from fun p hp => by have := VALS.out p hp; omega)
          have US := Lib.hid (show u - lk L n = sumN (rm L n) by rw [HUS.out, sumN_rm NOD.out])
          have hln : (rm L n).length ≤ k + 1 := by have h9 : (rm L n).length ≤ L.length := List.length_filter_le _ _; omega
          have hu5 : 0 ≤ u - lk L n := by rw [US.out]; exact (sumN_nonneg HV5.out).1
          have hu6 : u - lk L n ≤ 1099511627776 := by rw [US.out]; have := (sumN_nonneg HV5.out).2; omega
          have hc5 : 0 ≤ c := by omega
          have hc6 : c ≤ 16777216 * ((k : Int) + 1) := by omega
          obtain ⟨T5, hT5⟩ : ∃ T, u - lk L n + (c) = T := ⟨_, rfl⟩
          have HT5 := Lib.hid hT5
          have HT6 := Lib.hid (show sumN (rm L n) + (c) = T5 by rw [← US.out]; exact hT5)
          clear hT5
          go_wp2_with (first
            | (go_at_call 11; refine (give_any n _ AR.out hwn HLE.out hlr.1 (by omega)).mono ?_; rintro e w3 ⟨rfl, a3, f3⟩
               have A3 := Lib.hid a3
               have F3 := Lib.hid f3
               have RF3 := Lib.hid (HR.out.rf1 f3)
               have BS3 := Lib.hid (Nat.le_trans HR.out.bel.size f3.size)
               clear a3 f3)
            | (go_at_call 16; refine (rgive_any n _ RF3.out BS3.out (by omega) NOD.out).mono ?_; rintro e w4 ⟨rfl, v4, r4, hv4, f4⟩
               obtain ⟨av4, cv4, hv⟩ := own_slice3 r4.own |>.imp fun a h => h.imp fun cc h => h.1
               subst hv
               have HV4 := Lib.hid hv4
               clear hv4
               skip
               have rc4 := r4.c3
               have A4 := Lib.hid (A3.out.fr f4 (fun q => HR.out.n1 q.symm) (fun q => HR.out.n2 q.symm))
               have R4 := Lib.hid r4
               have F4 := Lib.hid f4
               clear r4 f4)
            | (go_at_call 15; refine (num_any _ _).mono ?_; rintro e w' ⟨rfl, rfl⟩))
          go_quiet ((first
            | (go_at_call 9; exact Calls.quiet_of (used_is b _ _ _ _ HT5.out (A4.out.drewN _).c2 (A4.out.drewN _).c3 (by omega) (by omega) (by omega) (by omega)))
            | (go_at_call 21; exact Calls.quiet_of_same (rused_is _ _ HT6.out (R4.out.drewN _) HV5.out (by omega) (by omega) (by omega)))
            | (go_at_call 12; exact Calls.quiet_of_same (regions_is _ (A4.out.drewN _) _ rfl))))
          go_wp2
          go_roundw
          case rel => exact ⟨k + 1, _, _, _, _, _, by omega, by go_num, (HR.out.step F3.out A3.out (by omega) F4.out R4.out HV4.out VALS.out US.out (by omega) (by omega) (by omega) (by omega) (by omega)).drewN _⟩
          case measure => simp [intOf]; omega
        · by_cases hd2 : d = 2
          · subst hd2
            by_cases hn : n < 0 ∨ 16777216 < n
            · have HN := Lib.hid hn
              clear hn
              go_wp2_with (first
                | (go_at_call 17; refine (charge_arg _ _ _ HN.out).mono ?_; rintro e w' ⟨rfl, rfl⟩)
                | (go_at_call 18; refine (rcharge_arg _ _ _ HN.out).mono ?_; rintro e w' ⟨rfl, rfl⟩)
                | (go_at_call 15; refine (num_any _ _).mono ?_; rintro e w' ⟨rfl, rfl⟩))
              go_quiet ((first
                | (go_at_call 9; exact Calls.quiet_of (used_is b _ _ _ _ HT.out (AR.out.drewN _).c2 (AR.out.drewN _).c3 (by omega) (by omega) (by omega) (by omega)))
                | (go_at_call 21; exact Calls.quiet_of_same (rused_is _ _ HT2.out (RF.out.drewN _) HV.out (by omega) (by omega) (by omega)))
                | (go_at_call 12; exact Calls.quiet_of_same (regions_is _ (AR.out.drewN _) _ rfl))))
              go_wp2
              go_roundw
              case rel => exact ⟨k + 1, _, _, _, _, _, by omega, by go_num, HR.out.same _⟩
              case measure => simp [intOf]; omega
            · have hn1 : 0 ≤ n := by omega
              have hn2 : n ≤ 16777216 := by omega
              clear hn
              by_cases hok : B = 0 ∨ u + c + n ≤ B
              · have HOK := Lib.hid hok
                clear hok
                have VALS := Lib.hid (show ∀ p ∈ L, 1 ≤ p.1 ∧ p.1 < x ∧ 1 ≤ p.2 ∧ p.2 ≤ 16777216 from HR.out.vals)
                have HV5 := Lib.hid (show ∀ p ∈ L, 0 ≤ p.2 ∧ p.2 ≤ 16777216 from fun p hp => by have := VALS.out p hp; omega)
                have US := Lib.hid (show u = sumN (L) by exact HUS.out)
                have hln : (L).length ≤ k + 1 := by omega
                have hu5 : 0 ≤ u := by rw [US.out]; exact (sumN_nonneg HV5.out).1
                have hu6 : u ≤ 1099511627776 := by rw [US.out]; have := (sumN_nonneg HV5.out).2; omega
                have hc5 : 0 ≤ c + n := by omega
                have hc6 : c + n ≤ 16777216 * ((k : Int) + 1) := by omega
                obtain ⟨T5, hT5⟩ : ∃ T, u + (c + n) = T := ⟨_, rfl⟩
                have HT5 := Lib.hid hT5
                have HT6 := Lib.hid (show sumN (L) + (c + n) = T5 by rw [← US.out]; exact hT5)
                clear hT5
                go_wp2_with (first
                  | (go_at_call 17; refine (charge_ok n _ AR.out hn1 hn2 hc0 (by omega) (room_any b B u c n _ AR.out.c0 AR.out.c2 AR.out.c3 hu0 (by omega) hc0 (by omega) (by omega) hn2 true (by simp only [HOK.out, decide_true]))).mono ?_; rintro e w3 ⟨rfl, a3, f3⟩
                     have A3 := Lib.hid a3
                     have F3 := Lib.hid f3
                     have RF3 := Lib.hid (HR.out.rf1 f3)
                     have BS3 := Lib.hid (Nat.le_trans HR.out.bel.size f3.size)
                     clear a3 f3)
                  | (go_at_call 18; refine (rcharge_ok n _ RF3.out hn1 hn2 hc0 (by omega) (rroom_any n _ RF3.out HV.out (by omega) hc0 (by omega) hB0 hB1 (by omega) hn2 true (by rw [← HUS.out]; simp only [HOK.out, decide_true]))).mono ?_; rintro e w4 ⟨rfl, r4, f4⟩
                     skip
                     have rc4 := r4.c3
                     have A4 := Lib.hid (A3.out.fr f4 (fun q => HR.out.n1 q.symm) (fun q => HR.out.n2 q.symm))
                     have R4 := Lib.hid r4
                     have F4 := Lib.hid f4
                     clear r4 f4)
                  | (go_at_call 15; refine (num_any _ _).mono ?_; rintro e w' ⟨rfl, rfl⟩))
                go_quiet ((first
                  | (go_at_call 9; exact Calls.quiet_of (used_is b _ _ _ _ HT5.out (A4.out.drewN _).c2 (A4.out.drewN _).c3 (by omega) (by omega) (by omega) (by omega)))
                  | (go_at_call 21; exact Calls.quiet_of_same (rused_is _ _ HT6.out (R4.out.drewN _) HV5.out (by omega) (by omega) (by omega)))
                  | (go_at_call 12; exact Calls.quiet_of_same (regions_is _ (A4.out.drewN _) _ rfl))))
                go_wp2
                go_roundw
                case rel => exact ⟨k + 1, _, _, _, _, _, by omega, by go_num, (HR.out.step F3.out A3.out (by omega) F4.out R4.out (.inl rfl) VALS.out US.out (by omega) (by omega) (by omega) (by omega) (by omega)).drewN _⟩
                case measure => simp [intOf]; omega
              · have hrf : (false : Bool) = decide (B = 0 ∨ u + c + n ≤ B) := by simp only [hok, decide_false]
                have HRF := Lib.hid hrf
                clear hrf
                have HOK := Lib.hid hok
                clear hok
                go_wp2_with (first
                  | (go_at_call 17; refine (charge_room n _ hn1 hn2 (room_any b B u c n _ AR.out.c0 AR.out.c2 AR.out.c3 hu0 (by omega) hc0 (by omega) (by omega) hn2 false HRF.out)).mono ?_; rintro e w' ⟨rfl, k1', rfl⟩)
                  | (go_at_call 18; refine (rcharge_room rb n _ hn1 hn2 (rroom_any n _ (RF.out.drewN _) HV.out (by omega) hc0 (by omega) hB0 hB1 (by omega) hn2 false (by rw [← HUS.out]; exact HRF.out))).mono ?_; rintro e w' ⟨rfl, k2', rfl⟩)
                  | (go_at_call 15; refine (num_any _ _).mono ?_; rintro e w' ⟨rfl, rfl⟩))
                have ARd := Lib.hid (AR.out.drewN (k1' + k2'))
                have RFd := Lib.hid (RF.out.drewN (k1' + k2'))
                have HRd := Lib.hid (HR.out.drewN (k1' + k2'))
                have rc5 := RFd.out.c3
                generalize wr.drewN (k1' + k2') = wz at ARd RFd HRd rc5 ⊢
                go_quiet ((first
                  | (go_at_call 9; exact Calls.quiet_of (used_is b _ _ _ _ HT.out (ARd.out.drewN _).c2 (ARd.out.drewN _).c3 (by omega) (by omega) (by omega) (by omega)))
                  | (go_at_call 21; exact Calls.quiet_of_same (rused_is _ _ HT2.out (RFd.out.drewN _) HV.out (by omega) (by omega) (by omega)))
                  | (go_at_call 12; exact Calls.quiet_of_same (regions_is _ (ARd.out.drewN _) _ rfl))))
                go_wp2
                go_roundw
                case rel => exact ⟨k + 1, _, _, _, _, _, by omega, by go_num, HRd.out.same _⟩
                case measure => simp [intOf]; omega
          · by_cases hd3 : d = 3
            · subst hd3
              by_cases hn : n < 0 ∨ c < n
              · have HN := Lib.hid hn
                clear hn
                go_wp2_with (first
                  | (go_at_call 19; refine (back_no _ _ _ AR.out.c3 HN.out).mono ?_; rintro e w' ⟨rfl, rfl⟩)
                  | (go_at_call 20; refine (rback_no _ _ _ RF.out.c2 HN.out).mono ?_; rintro e w' ⟨rfl, rfl⟩)
                  | (go_at_call 15; refine (num_any _ _).mono ?_; rintro e w' ⟨rfl, rfl⟩))
                go_quiet ((first
                  | (go_at_call 9; exact Calls.quiet_of (used_is b _ _ _ _ HT.out (AR.out.drewN _).c2 (AR.out.drewN _).c3 (by omega) (by omega) (by omega) (by omega)))
                  | (go_at_call 21; exact Calls.quiet_of_same (rused_is _ _ HT2.out (RF.out.drewN _) HV.out (by omega) (by omega) (by omega)))
                  | (go_at_call 12; exact Calls.quiet_of_same (regions_is _ (AR.out.drewN _) _ rfl))))
                go_wp2
                go_roundw
                case rel => exact ⟨k + 1, _, _, _, _, _, by omega, by go_num, HR.out.same _⟩
                case measure => simp [intOf]; omega
              · have hn1 : 0 ≤ n := by omega
                have hn2 : n ≤ c := by omega
                clear hn
                have VALS := Lib.hid (show ∀ p ∈ L, 1 ≤ p.1 ∧ p.1 < x ∧ 1 ≤ p.2 ∧ p.2 ≤ 16777216 from HR.out.vals)
                have HV5 := Lib.hid (show ∀ p ∈ L, 0 ≤ p.2 ∧ p.2 ≤ 16777216 from fun p hp => by have := VALS.out p hp; omega)
                have US := Lib.hid (show u = sumN (L) by exact HUS.out)
                have hln : (L).length ≤ k + 1 := by omega
                have hu5 : 0 ≤ u := by rw [US.out]; exact (sumN_nonneg HV5.out).1
                have hu6 : u ≤ 1099511627776 := by rw [US.out]; have := (sumN_nonneg HV5.out).2; omega
                have hc5 : 0 ≤ c - n := by omega
                have hc6 : c - n ≤ 16777216 * ((k : Int) + 1) := by omega
                obtain ⟨T5, hT5⟩ : ∃ T, u + (c - n) = T := ⟨_, rfl⟩
                have HT5 := Lib.hid hT5
                have HT6 := Lib.hid (show sumN (L) + (c - n) = T5 by rw [← US.out]; exact hT5)
                clear hT5
                go_wp2_with (first
                  | (go_at_call 19; refine (back_ok n _ AR.out hn1 hn2 (by omega)).mono ?_; rintro e w3 ⟨rfl, a3, f3⟩
                     have A3 := Lib.hid a3
                     have F3 := Lib.hid f3
                     have RF3 := Lib.hid (HR.out.rf1 f3)
                     have BS3 := Lib.hid (Nat.le_trans HR.out.bel.size f3.size)
                     clear a3 f3)
                  | (go_at_call 20; refine (rback_ok n _ RF3.out hn1 hn2 (by omega)).mono ?_; rintro e w4 ⟨rfl, r4, f4⟩
                     skip
                     have rc4 := r4.c3
                     have A4 := Lib.hid (A3.out.fr f4 (fun q => HR.out.n1 q.symm) (fun q => HR.out.n2 q.symm))
                     have R4 := Lib.hid r4
                     have F4 := Lib.hid f4
                     clear r4 f4)
                  | (go_at_call 15; refine (num_any _ _).mono ?_; rintro e w' ⟨rfl, rfl⟩))
                go_quiet ((first
                  | (go_at_call 9; exact Calls.quiet_of (used_is b _ _ _ _ HT5.out (A4.out.drewN _).c2 (A4.out.drewN _).c3 (by omega) (by omega) (by omega) (by omega)))
                  | (go_at_call 21; exact Calls.quiet_of_same (rused_is _ _ HT6.out (R4.out.drewN _) HV5.out (by omega) (by omega) (by omega)))
                  | (go_at_call 12; exact Calls.quiet_of_same (regions_is _ (A4.out.drewN _) _ rfl))))
                go_wp2
                go_roundw
                case rel => exact ⟨k + 1, _, _, _, _, _, by omega, by go_num, (HR.out.step F3.out A3.out (by omega) F4.out R4.out (.inl rfl) VALS.out US.out (by omega) (by omega) (by omega) (by omega) (by omega)).drewN _⟩
                case measure => simp [intOf]; omega
            · have q0 : (d == 0) = false := by simpa using hd0
              have q1 : (d == 1) = false := by simpa using hd1
              have q2 : (d == 2) = false := by simpa using hd2
              have q3 : (d == 3) = false := by simpa using hd3
              clear hd0 hd1 hd2 hd3
              go_wp2_with fail
              go_quiet ((first
                | (go_at_call 9; exact Calls.quiet_of (used_is b _ _ _ _ HT.out (AR.out.drewN _).c2 (AR.out.drewN _).c3 (by omega) (by omega) (by omega) (by omega)))
                | (go_at_call 21; exact Calls.quiet_of_same (rused_is _ _ HT2.out (RF.out.drewN _) HV.out (by omega) (by omega) (by omega)))
                | (go_at_call 12; exact Calls.quiet_of_same (regions_is _ (AR.out.drewN _) _ rfl))))
              go_wp2
              go_roundw
              case rel => exact ⟨k + 1, _, _, _, _, _, by omega, by go_num, HR.out.same _⟩
              case measure => simp [intOf]; omega
    · go_wp2_with (go_at_call 7; refine (awake_any _).mono ?_; rintro e w6 ⟨rfl, hf⟩)
      go_ret
      exact ⟨rfl, hf.below HR.out.bel (fun i q => q.elim) HR.out.bel.size⟩

end Go.Proofs.Ytplhhmhdmcohfaa
