/-
  Chapter 12's own look: great integers (big).
-/
import Derived.Test.YtlmpmjhanpkcnaaGreatN17
import Derived.Test.YtlmpmjhanpkcnaaGreatN18
import Derived.Test.YtlmpmjhanpkcnaaGreatN19
import Derived.Deep.RegionHeld3
import Derived.Deep.RegionLaw
set_option linter.unusedVariables false
set_option linter.unusedSimpArgs false
namespace Go.Proofs.YtlmpmjhanpkcnaaGreat
open Go.RowKit

/-- A term in memory, as the document's functions ask it. -/
theorem TmAt.sc {P : Nat → Prop} {w : World} {v : Value} {t : Tm} (h : TmAt P w v t) : STmAt w v t := by
  induction h with
  | mk cells hk hn hm hml hu hb hs hal hc ht ih =>
    refine .mk cells hk hn ?_ hml hu hb hs hal (fun j hj => ?_) ih
    · obtain ⟨a, cap, rfl, hc⟩ := hm
      refine ⟨a, cap, rfl, fun j hj => ?_⟩
      obtain ⟨g, o, rfl, h2⟩ := hc j hj
      exact ⟨g, o, rfl, h2.2⟩
    · obtain ⟨g, o, rfl, _, h2⟩ := hc j hj
      exact ⟨g, o, rfl, h2⟩

def bigTm (ws : List Nat) : Tm := .mk 2 0 (decide (ws.getD 0 0 = 1)) (trimP (limbsP (ws.drop 1))) 0 ⟨#[]⟩ []

/-- A great integer's term. -/
def big12 (ws : List Nat) : Option Tm :=
  if ws.length < 2 ∨ 5 < ws.length ∨ 1 < ws.getD 0 0 then none else if (bigTm ws).may = true then some (bigTm ws) else none

theorem reads_two (wr : World) (x y : Value) (t : TypeId) : Reads ((wr.alloc (.cells #[x, y] t)).drew) (wr.heap.size + 1) 1 (some ⟨wr.heap.size, 0, none⟩) 2 [x, y] :=
  reads_many wr [x, y] t 2 rfl

theorem one_u32 (x y : Int) : ∀ u ∈ [Value.int .u32 x, Value.int .u32 y], u.oneCell' = true := by
  intro u hu
  simp at hu
  rcases hu with rfl | rfl <;> rfl

/-- The two blocks of a great integer's walk. -/
abbrev z7 (k : Int) (neg : Bool) (v : Value) : Array Value := #[.int .i64 k, .int .i64 0, .bool neg, v, .int .u64 0, .string ⟨#[]⟩, .slice none 0 0]

/-- Behind the call of May: the two blocks, the term. -/
def BgAt (w w9 : World) (neg : Bool) (mv : Value) (t : Tm) (c0 : Array Value) : Prop :=
  w9.heap[w.heap.size]? = some (.cells c0 81 (0, 0)) ∧ w9.heap[w.heap.size + 1]? = some (.cells (z7 2 neg mv) 81 (0, 0)) ∧ TmAt (fun b => w.heap.size + 2 ≤ b) w9 (.agg (z7 2 neg mv)) t ∧ Below w.heap.size w w9

theorem BgAt.below {w w9 V : World} {neg : Bool} {mv : Value} {t : Tm} {c0 : Array Value} (h : BgAt w w9 neg mv t c0) (hb : Below w9.heap.size w9 V) : BgAt w V neg mv t c0 :=
  ⟨(hb.block _ (lt_of_block h.1)).trans h.1, (hb.block _ (lt_of_block h.2.1)).trans h.2.1, h.2.2.1.lift (fun b _ hk => hb.block b hk), h.2.2.2.trans (hb.mono h.2.2.2.size)⟩

theorem BgAt.set {w w9 : World} {neg : Bool} {ma : Option Addr} {ml mc : Nat} {t : Tm} (h : BgAt w w9 neg (.slice ma ml mc) t (z7 0 false (.slice none 0 0))) :
    BgAt w (set7 w9 w.heap.size (.int .i64 2) (.int .i64 0) (.bool neg) (.slice ma ml mc) (.int .u64 0) (.string ⟨#[]⟩) (.slice none 0 0)) neg (.slice ma ml mc) t (z7 2 neg (.slice ma ml mc)) :=
  ⟨set7_heap h.1 _ _ _ _ _ _ _, (set7_off _ _ _ _ _ _ _ _ _ (by omega)).trans h.2.1, h.2.2.1.lift (fun b hb _ => set7_off _ _ _ _ _ _ _ _ _ (by omega)), set7_below h.2.2.2 (Nat.le_refl _) _ _ _ _ _ _ _⟩

abbrev Seven (W : World) (b : Nat) (neg : Bool) (mv : Value) : Prop :=
  W.cell? ⟨b, 0, none⟩ = some (.int .i64 2) ∧ W.cell? ⟨b, 1, none⟩ = some (.int .i64 0) ∧ W.cell? ⟨b, 2, none⟩ = some (.bool neg) ∧ W.cell? ⟨b, 3, none⟩ = some mv ∧ W.cell? ⟨b, 4, none⟩ = some (.int .u64 0) ∧ W.cell? ⟨b, 5, none⟩ = some (.string ⟨#[]⟩) ∧ W.cell? ⟨b, 6, none⟩ = some (.slice none 0 0)

theorem seven_of {W : World} {b : Nat} {neg : Bool} {mv : Value} (h : W.heap[b]? = some (.cells (z7 2 neg mv) 81 (0, 0))) : Seven W b neg mv :=
  ⟨cell_of h 0, cell_of h 1, cell_of h 2, cell_of h 3, cell_of h 4, cell_of h 5, cell_of h 6⟩

theorem BgAt.read {w w9 : World} {neg : Bool} {ma : Option Addr} {ml mc : Nat} {t : Tm} {c0 : Array Value} {r : Option Tm} {mb : Bool} (h : BgAt w w9 neg (.slice ma ml mc) t c0) (hr : r = if mb = true then some t else none) :
    ReadEnd w w9 r (.returned (.tuple #[.agg (z7 2 neg (.slice ma ml mc)), .bool mb])) := by
  refine ⟨_, t, ?_, h.2.2.1.mono (fun b hb _ => by omega), ?_, h.2.2.2⟩
  · rw [hr]; cases mb <;> rfl
  · intro p hp; rw [hr] at hp; cases mb
    · cases hp
    · cases hp; rfl

set_option maxHeartbeats 4000000 in
set_option maxRecDepth 100000 in
theorem big12_any (ws : List Nat) (wv : Value) (w : World) (hw : Ws w wv ws) :
    Calls Tryz.prog 119 #[wv] w fun e w' => ReadEnd w w' (big12 ws) e := by
  obtain ⟨i0, hi, hz0, hz1, hz2⟩ := info_parts info120
  have HW := Lib.hid hw
  obtain ⟨hml, hu, a, cap, rfl, hlc, hcm, hc⟩ := hw
  have HC := Lib.hid hc
  have HU := Lib.hid hu
  unfold maxLen at hml
  clear hc hu
  obtain ⟨r, hr⟩ : ∃ r, big12 ws = r := ⟨_, rfl⟩
  have HR := Lib.hid hr
  rw [hr]
  clear hr
  by_cases hbad : ws.length < 2 ∨ 5 < ws.length ∨ 1 < ws.getD 0 0
  · have HN := Lib.hid (show r = none by rw [← HR.out]; unfold big12; rw [if_pos hbad])
    have hfin : ∀ W : World, Below w.heap.size w W →
        ReadEnd w W r (.returned (.tuple #[.agg #[.int .i64 2, .int .i64 0, .bool false, .slice none 0 0, .int .u64 0, .string ⟨#[]⟩, .slice none 0 0], .bool false])) := by
      intro W hb
      refine ⟨_, .mk 2 0 false [] 0 ⟨#[]⟩ [], by rw [HN.out]; rfl, ?_, ?_, hb⟩
      · exact TmAt.leaf ⟨by decide, by decide⟩ ⟨by decide, by decide⟩ (MsP.nil W) (by unfold maxLen; simp) (by simp) (by decide) (by unfold maxLen; decide)
      · intro p h; rw [HN.out] at h; cases h
    have HF := Lib.hid hfin
    clear hfin
    by_cases h2 : ws.length < 2
    · have q1 : (ws.length : Int) < 2 := by omega
      clear hbad
      go_enter Tryz.func119, Tryz.ntmps119
      go_wp2_with fail
      refine bodyPost_ret (v := .tuple #[.agg #[.int .i64 2, .int .i64 0, .bool false, .slice none 0 0, .int .u64 0, .string ⟨#[]⟩, .slice none 0 0], .bool false]) (by simp [results, Tryz.results119, go_sem]) rfl (HF.out _ ?_)
      exact ((Below.refl _ _).alloc (Nat.le_refl _) _).alloc (by simp) _
    · have q1 : ¬ (ws.length : Int) < 2 := by omega
      by_cases h5 : 5 < ws.length
      · have q2 : (5 : Int) < (ws.length : Int) := by omega
        clear hbad
        go_enter Tryz.func119, Tryz.ntmps119
        go_wp2_with fail
        refine bodyPost_ret (v := .tuple #[.agg #[.int .i64 2, .int .i64 0, .bool false, .slice none 0 0, .int .u64 0, .string ⟨#[]⟩, .slice none 0 0], .bool false]) (by simp [results, Tryz.results119, go_sem]) rfl (HF.out _ ?_)
        exact ((Below.refl _ _).alloc (Nat.le_refl _) _).alloc (by simp) _
      · have q2 : ¬ (5 : Int) < (ws.length : Int) := by omega
        obtain ⟨g, o, rfl, k0⟩ := HC.out 0 (by omega)
        obtain ⟨x, hx⟩ : ∃ x, ws[0]'(by omega) = x := ⟨_, rfl⟩
        rw [hx] at k0
        have hgd : ws.getD 0 0 = x := by rw [← hx]; simp [List.getD, List.getElem?_eq_getElem (show 0 < ws.length by omega)]
        rw [hgd] at hbad
        have q3 : (1 : Int) < (x : Int) := by omega
        have q4 : (0 : Int) < (ws.length : Int) := by omega
        rw [Nat.add_zero] at k0
        have K0 := (fun o1 o2 => (((Below.refl w.heap.size w).alloc (Nat.le_refl _) o1).alloc (by simp) o2).cell (World.block_lt_of_cell? w _ k0) |>.trans k0 : ∀ o1 o2 : Obj, ((w.alloc o1).alloc o2).cell? ⟨g, o, none⟩ = some (.int .u64 x))
        clear hbad hx hgd
        go_enter Tryz.func119, Tryz.ntmps119
        go_wp2_with fail
        refine bodyPost_ret (v := .tuple #[.agg #[.int .i64 2, .int .i64 0, .bool false, .slice none 0 0, .int .u64 0, .string ⟨#[]⟩, .slice none 0 0], .bool false]) (by simp [results, Tryz.results119, go_sem]) rfl (HF.out _ ?_)
        exact ((Below.refl _ _).alloc (Nat.le_refl _) _).alloc (by simp) _
  · have HRR := Lib.hid (show r = if (bigTm ws).may = true then some (bigTm ws) else none by rw [← HR.out]; unfold big12; rw [if_neg hbad])
    obtain ⟨g, o, rfl, k0⟩ := HC.out 0 (by omega)
    obtain ⟨x, hx⟩ : ∃ x, ws[0]'(by omega) = x := ⟨_, rfl⟩
    rw [hx] at k0
    have hgd : ws.getD 0 0 = x := by rw [← hx]; simp [List.getD, List.getElem?_eq_getElem (show 0 < ws.length by omega)]
    rw [hgd] at hbad
    have q1 : ¬ (ws.length : Int) < 2 := by omega
    have q2 : ¬ (5 : Int) < (ws.length : Int) := by omega
    have q3 : ¬ (1 : Int) < (x : Int) := by omega
    have q4 : (0 : Int) < (ws.length : Int) := by omega
    rw [Nat.add_zero] at k0
    have K0 := (fun o1 o2 => (((Below.refl w.heap.size w).alloc (Nat.le_refl _) o1).alloc (by simp) o2).cell (World.block_lt_of_cell? w _ k0) |>.trans k0 : ∀ o1 o2 : Obj, ((w.alloc o1).alloc o2).cell? ⟨g, o, none⟩ = some (.int .u64 x))
    obtain ⟨neg, hneg⟩ : ∃ neg, ((x : Int) == 1) = neg := ⟨_, rfl⟩
    have HNEG := Lib.hid (show decide (ws.getD 0 0 = 1) = neg by rw [hgd, ← hneg]; by_cases e : x = 1 <;> simp [e]; omega)
    obtain ⟨m, hm⟩ : ∃ m, ws.length = m + 1 := ⟨ws.length - 1, by omega⟩
    have HLN := Lib.hid hm
    have hmb : 1 ≤ m ∧ m ≤ 4 := by omega
    have HDL := Lib.hid (show (ws.drop 1).length = m by rw [List.length_drop]; omega)
    clear hbad hx hgd
    rw [hm] at q1 q2 q4 ⊢
    clear hm hml hlc
    go_enter Tryz.func119, Tryz.ntmps119
    go_wp2_with fail
    go_loopw [5] (fun i wr => ∃ (k : Nat) (v : Value), k ≤ m ∧ i = .int .i64 ((k : Int) + 1) ∧ Hid (wr.heap[w.heap.size]? = some (.cells (z7 0 false (.slice none 0 0)) 81 (0, 0))) ∧ Hid (wr.heap[w.heap.size + 1]? = some (.cells (z7 2 neg v) 81 (0, 0))) ∧ Hid (w.heap.size + 2 ≤ wr.heap.size) ∧ Hid (wr.ownsRow (w.heap.size + 2) 144 1 v (2 * k) (cs32 (limbsP ((ws.drop 1).take k)))) ∧ Hid (Below w.heap.size w wr)) (fun i _ => m + 1 - (intOf i).toNat)
    case atStart =>
      refine ⟨0, .slice none 0 0, by omega, rfl, Lib.hid ?_, Lib.hid ?_, Lib.hid (by simp [World.setCell]), Lib.hid (World.ownsRow_nil _ _ _ _), Lib.hid ?_⟩
      · exact (two_at w _ _).1
      · exact (two_at w _ _).2.1
      · exact (two_at w _ _).2.2.2
    case round =>
      obtain ⟨k, v, hk, rfl, HA1, HB1, HS1, HO1, HBL1⟩ := hrel
      by_cases hlt : k < m
      · obtain ⟨g', o', q, kw⟩ := HC.out (k + 1) (by rw [HLN.out]; omega)
        cases q
        have hx1 := HU.out _ (List.getElem_mem (show k + 1 < ws.length by rw [HLN.out]; omega))
        have HSN := Lib.hid (limbsP_snoc (ws.drop 1) (show k < (ws.drop 1).length by rw [HDL.out]; exact hlt))
        obtain ⟨y, hy⟩ : ∃ y, ws[k + 1]'(by rw [HLN.out]; omega) = y := ⟨_, rfl⟩
        have hy2 : (ws.drop 1)[k]'(by rw [HDL.out]; exact hlt) = y := by rw [List.getElem_drop, ← hy]; congr 1; omega
        rw [hy] at kw hx1
        rw [hy2] at HSN
        have kw1 := (HBL1.out.cell (World.block_lt_of_cell? _ _ kw)).trans kw
        have p1 : (k : Int) + 1 < ((m + 1 : Nat) : Int) := by omega
        have p2 : (0 : Int) ≤ (k : Int) + 1 := by omega
        have p3 : ((k : Int) + 1).toNat = k + 1 := by omega
        have p5 : IntKind.i64.wrap ((k : Int) + 1 + 1) = (k : Int) + 1 + 1 := IntWalk.i64_in _ (by omega)
        have c3 : wr.cell? ⟨w.heap.size + 1, 3, none⟩ = some v := cell_of HB1.out 3
        obtain ⟨vb, vc, hvv⟩ := own_slice HO1.out
        subst hvv
        have u1 : IntKind.u32.wrap (y : Int) = ((y % 4294967296 : Nat) : Int) := by rw [IntKind.wrap_u32]; omega
        have u2 : IntKind.u32.wrap ((y : Int) / 4294967296) = ((y / 4294967296 : Nat) : Int) := by rw [IntKind.wrap_u32]; omega
        generalize y % 4294967296 = ya at *
        generalize y / 4294967296 = yb at *
        clear kw hy hy2
        go_upto_region 8 with fail
        have A := fun o => (Below.refl wr.heap.size wr).alloc (Nat.le_refl _) o
        have ca := fun o => ((A o).cell (World.block_lt_of_cell? wr _ c3)).trans c3
        clear A
        -- SLOW
        go_region_law (first
          | (refine step_append_any _ (by rfl) (.tmp 37) (.tmp 49) 76 (by rfl) (w.heap.size + 2) 144 i0 _ 1 4 Tryz.underlying76 hi hz0 hz1 hz2 rfl (by omega) _ (2 * k) (cs32 (limbsP ((ws.drop 1).take k))) (by rfl) ((World.ownsRow.alloc HO1.out _).drew) (wr.heap.size + 1) (some ⟨wr.heap.size, 0, none⟩) 2 2 [.int .u32 (ya : Int), .int .u32 (yb : Int)] (by rfl) (reads_two wr _ _ _) (one_u32 _ _) (by unfold maxLen; omega) (by omega) (size_push HS1.out _) ?_
             intro v9 w9 hown9 hgrow9 _
             have PB := Lib.hid (push_drew HO1.out HS1.out hgrow9)
             have O9 := Lib.hid hown9
             have E9 := Lib.hid ((PB.out.block (w.heap.size + 1) (by omega)).trans HB1.out)
             obtain ⟨b9, c9, rfl⟩ := own_slice hown9
             have yy := cell_of E9.out 3
             have yf := free_of E9.out 3
             simp at yy yf
             clear hown9 hgrow9))
        all_goals
          have N0 := Lib.hid (show (w9.setCell ⟨w.heap.size + 1, 3, none⟩ (.slice b9 (2 * k + 2) c9)).heap[w.heap.size + 1]? = some (.cells (z7 2 neg (.slice b9 (2 * k + 2) c9)) 81 (0, 0)) from set_of E9.out 3 _)
          have NX := Lib.hid ((Below.heap_setCell w9 ⟨w.heap.size + 1, 3, none⟩ (.slice b9 (2 * k + 2) c9) w.heap.size (by simp)).trans ((PB.out.block w.heap.size (by omega)).trans HA1.out))
          have NO := Lib.hid (show (w9.setCell ⟨w.heap.size + 1, 3, none⟩ (.slice b9 (2 * k + 2) c9)).ownsRow (w.heap.size + 2) 144 1 (.slice b9 (2 * k + 2) c9) (2 * (k + 1)) (cs32 (limbsP ((ws.drop 1).take (k + 1)))) by
            rw [HSN.out]
            have e : cs32 (limbsP (List.take k (List.drop 1 ws)) ++ [ya, yb]) = cs32 (limbsP (List.take k (List.drop 1 ws))) ++ [.int .u32 (ya : Int), .int .u32 (yb : Int)] := by simp [cs32]
            rw [e]
            exact own_set O9.out (by omega) _)
          have NB := Lib.hid ((HBL1.out.trans (PB.out.mono (by omega))).setCell (p := ⟨w.heap.size + 1, 3, none⟩) (by simp) (.slice b9 (2 * k + 2) c9))
          have NS := Lib.hid (show w.heap.size + 2 ≤ (w9.setCell ⟨w.heap.size + 1, 3, none⟩ (.slice b9 (2 * k + 2) c9)).heap.size by have := PB.out.size; have := HS1.out; simp [World.setCell]; omega)
          clear yy yf c3 kw1 ca
          generalize w9.setCell ⟨w.heap.size + 1, 3, none⟩ (.slice b9 (2 * k + 2) c9) = wq at *
          go_wp2_with fail
          go_roundw
          case rel => exact ⟨k + 1, _, by omega, by go_num, NX, N0, NS, NO, NB⟩
          case measure => simp [intOf]; omega
        -- END
      · obtain rfl : k = m := by omega
        have p1 : ¬ (k : Int) + 1 < ((k + 1 : Nat) : Int) := by omega
        have HF := Lib.hid (show (ws.drop 1).take k = ws.drop 1 from List.take_of_length_le (by rw [HDL.out]; omega))
        obtain ⟨L, hL⟩ : ∃ L, limbsP (ws.drop 1) = L := ⟨_, rfl⟩
        have HLL := Lib.hid (show L.length = 2 * k by rw [← hL, limbsP_length, HDL.out])
        have HLT := Lib.hid (show ∀ x ∈ L, x < 4294967296 by rw [← hL]; exact limbsP_lt (fun x hx => HU.out x (List.mem_of_mem_drop hx)))
        have HO2 := Lib.hid (show wr.ownsRow (w.heap.size + 2) 144 1 v (2 * k) (cs32 L) by have := HO1.out; rw [HF.out, hL] at this; exact this)
        have HTM := Lib.hid (show bigTm ws = .mk 2 0 neg (trimP L) 0 ⟨#[]⟩ [] by unfold bigTm; rw [hL, HNEG.out])
        clear hL
        obtain ⟨va, vc, rfl⟩ := own_slice HO2.out
        rcases HO2.out.2 with ⟨_, e0⟩ | ⟨g5, vc', _, hve, hg5, _, hnc, _, _, _⟩
        · omega
        simp only [Value.slice.injEq, true_and] at hve
        obtain ⟨rfl, rfl⟩ := hve
        have hll := HLL.out
        have hlt2 : 2 * k - 1 < L.length := by omega
        have kc := own_cell32 HO2.out hlt2
        obtain ⟨y, hy⟩ : ∃ y, L[2 * k - 1] = y := ⟨_, rfl⟩
        rw [hy] at kc
        have HGD := Lib.hid (show L.getD (L.length - 1) 0 = y by rw [← hy]; simp [List.getD, hll, List.getElem?_eq_getElem hlt2])
        have c3 : wr.cell? ⟨w.heap.size + 1, 3, none⟩ = some (.slice (some ⟨g5, 0, none⟩) (2 * k) vc) := cell_of HB1.out 3
        have z3 : wr.frozen? ⟨w.heap.size + 1, 3, none⟩ = false := free_of HB1.out 3
        have q2' : IntKind.i64.wrap (2 * (k : Int) - 1) = 2 * (k : Int) - 1 := IntWalk.i64_in _ (by omega)
        have q3' : (1 : Int) ≤ 2 * (k : Int) := by omega
        have q4' : (0 : Int) ≤ 2 * (k : Int) - 1 := by omega
        have q5' : 2 * (k : Int) - 1 < 2 * (k : Int) := by omega
        have q6' : (2 * (k : Int) - 1).toNat = 2 * k - 1 := by omega
        have q7' : 2 * (k : Int) - 1 ≤ (vc : Int) := by omega
        clear hll hlt2 hy
        obtain ⟨tr, htr⟩ : ∃ tr : Bool, ((y : Int) == 0) = tr := ⟨_, rfl⟩
        have HTR := Lib.hid htr
        go_upto_if 64 with fail
        clear htr
        go_cut [] from 65 to 72 (fun wx => ∃ mv, Hid (wx.heap[w.heap.size]? = some (.cells (z7 0 false (.slice none 0 0)) 81 (0, 0))) ∧ Hid (wx.heap[w.heap.size + 1]? = some (.cells (z7 2 neg mv) 81 (0, 0))) ∧ Hid (w.heap.size + 2 ≤ wx.heap.size) ∧ Hid (MsP (fun b => w.heap.size + 2 ≤ b) wx mv (trimP L)) ∧ Hid (Below w.heap.size w wx))
        case first =>
          cases tr
          rotate_left
          · have HE := Lib.hid (show trimP L = L.take (2 * k - 1) by
              have hy0 : y = 0 := by have := HTR.out; simpa using this
              unfold trimP; rw [if_pos ⟨by rw [HLL.out]; omega, by rw [HGD.out]; exact hy0⟩, HLL.out])
            obtain ⟨a', cap', e', hk1, hms⟩ := Ms.first HO2.out HLL.out (show 2 * k - 1 ≤ 2 * k by omega)
            simp only [Value.slice.injEq, true_and] at e'
            obtain ⟨rfl, rfl⟩ := e'
            have HMS := Lib.hid hms
            clear hms
            go_wp2_with fail
            go_meet
            refine ⟨.slice (some ⟨g5, 0, none⟩) (2 * k - 1) vc, Lib.hid ?_, Lib.hid ?_, Lib.hid ?_, Lib.hid ?_, Lib.hid ?_⟩
            · rw [Below.heap_setCell _ _ _ _ (by simp)]; exact HA1.out
            · rw [set_of HB1.out]; rfl
            · simpa [World.setCell] using HS1.out
            · rw [HE.out]
              obtain ⟨a, c, e, hc⟩ := HMS.out
              refine ⟨a, c, e, fun j hj => ?_⟩
              obtain ⟨g, o, rfl, h⟩ := hc j hj
              simp only [Value.slice.injEq, Option.some.injEq, Addr.mk.injEq, and_true] at e
              obtain ⟨⟨rfl, rfl⟩, _⟩ := e
              refine ⟨_, _, rfl, hg5, ?_⟩
              rw [World.cell?_of_block (w := wr) (Below.heap_setCell _ _ _ _ (by simp; omega))]; exact h
            · exact HBL1.out.setCell (by simp) _
          · have HE := Lib.hid (show trimP L = L by
              have hy0 : ¬ y = 0 := by have := HTR.out; simpa using this
              unfold trimP; rw [if_neg (fun q => hy0 (by rw [← HGD.out]; exact q.2))])
            obtain ⟨a', cap', e', hk1, hms⟩ := Ms.first HO2.out HLL.out (show 2 * k ≤ 2 * k by omega)
            simp only [Value.slice.injEq, true_and] at e'
            obtain ⟨rfl, rfl⟩ := e'
            rw [List.take_of_length_le (by rw [HLL.out]; omega)] at hms
            have HMS := Lib.hid hms
            clear hms
            go_wp2_with fail
            go_meet
            refine ⟨.slice (some ⟨g5, 0, none⟩) (2 * k) vc, HA1, HB1, HS1, Lib.hid ?_, HBL1⟩
            rw [HE.out]
            obtain ⟨a, c, e, hc⟩ := HMS.out
            refine ⟨a, c, e, fun j hj => ?_⟩
            obtain ⟨g, o, rfl, h⟩ := hc j hj
            simp only [Value.slice.injEq, Option.some.injEq, Addr.mk.injEq, and_true] at e
            obtain ⟨⟨rfl, rfl⟩, _⟩ := e
            exact ⟨_, _, rfl, hg5, h⟩
        case rest =>
          obtain ⟨mv, HA2, HB2, HS2, HM2, HBL2⟩ := hcut
          have HML := Lib.hid (show (trimP L).length ≤ 8 by have := trimP_length L; have := HLL.out; omega)
          have HMU := Lib.hid (show ∀ x ∈ trimP L, x < 4294967296 from fun x hx => HLT.out x (by unfold trimP at hx; split at hx; exact List.mem_of_mem_take hx; exact hx))
          generalize trimP L = M at *
          have hTA : TmAt (fun b => w.heap.size + 2 ≤ b) wc (.agg (z7 2 neg mv)) (.mk 2 0 neg M 0 ⟨#[]⟩ []) :=
            TmAt.leaf ⟨by decide, by decide⟩ ⟨by decide, by decide⟩ HM2.out (by have := HML.out; unfold maxLen; omega) HMU.out (by decide) (by unfold maxLen; decide)
          have hsm : (Tm.mk 2 0 neg M 0 ⟨#[]⟩ []).small = true := by
            have h1 : M.length ≤ 40 := by have := HML.out; omega
            have h2 : (⟨#[]⟩ : ByteArray).size ≤ 1000 := by decide
            unfold Tm.small smalls
            simp [h1, h2]
          obtain ⟨mb, hmb⟩ : ∃ mb, (Tm.mk 2 0 neg M 0 ⟨#[]⟩ []).may = mb := ⟨_, rfl⟩
          have HMAY := Lib.hid (show ∀ (V : World) (c0 : Array Value), BgAt w V neg mv (.mk 2 0 neg M 0 ⟨#[]⟩ []) c0 → Calls Tryz.prog 75 #[.agg (z7 2 neg mv)] V fun e w' => e = .returned (.bool mb) ∧ BgAt w w' neg mv (.mk 2 0 neg M 0 ⟨#[]⟩ []) c0 from
            fun V c0 hV => (refMay_any _ _ V hV.2.2.1.sc hsm).mono fun e w' q => ⟨by rw [q.1, hmb], hV.below q.2⟩)
          have HRM := Lib.hid (show r = if mb = true then some (.mk 2 0 neg M 0 ⟨#[]⟩ []) else none by rw [HRR.out, HTM.out, hmb])
          have HBG := Lib.hid (show BgAt w wc.drew neg mv (.mk 2 0 neg M 0 ⟨#[]⟩ []) (z7 0 false (.slice none 0 0)) from ⟨HA2.out, HB2.out, hTA.lift (w' := wc.drew) (fun _ _ _ => rfl), HBL2.out.drew⟩)
          clear hmb hsm hTA
          obtain ⟨ma, mcap, rfl, hmc⟩ := HM2.out
          clear hmc
          obtain ⟨ml, hml⟩ : ∃ ml, M.length = ml := ⟨_, rfl⟩
          rw [hml] at HMAY HBG HB2 HM2
          generalize Tm.mk 2 0 neg M 0 ⟨#[]⟩ [] = bt at *
          clear hml HM2
          have HM1 := Lib.hid (HMAY.out _ _ HBG.out)
          have HM7 := Lib.hid (HMAY.out _ _ HBG.out.set)
          have KD := Lib.hid (seven_of HBG.out.2.1)
          have KS := Lib.hid (seven_of HBG.out.set.2.1)
          have e0 := cell_of HB2.out 0
          have e1 := cell_of HB2.out 1
          have e2 := cell_of HB2.out 2
          have e3 := cell_of HB2.out 3
          have e4 := cell_of HB2.out 4
          have e5 := cell_of HB2.out 5
          have e6 := cell_of HB2.out 6
          simp at e0 e1 e2 e3 e4 e5 e6
          have f0 := free_of HA2.out 0
          have f1 := free_of HA2.out 1
          have f2 := free_of HA2.out 2
          have f3 := free_of HA2.out 3
          have f4 := free_of HA2.out 4
          have f5 := free_of HA2.out 5
          have f6 := free_of HA2.out 6
          have a0 := cell_of HA2.out 0
          have a1 := cell_of HA2.out 1
          have a2 := cell_of HA2.out 2
          have a3 := cell_of HA2.out 3
          have a4 := cell_of HA2.out 4
          have a5 := cell_of HA2.out 5
          have a6 := cell_of HA2.out 6
          simp at a0 a1 a2 a3 a4 a5 a6
          clear c3 z3 kc
          go_wp2_with fail
          go_region_held3 (fun w' => w'.cell? ⟨w.heap.size + 1, 0, none⟩ = some (.int .i64 2) ∧ w'.cell? ⟨w.heap.size + 1, 1, none⟩ = some (.int .i64 0) ∧ w'.cell? ⟨w.heap.size + 1, 2, none⟩ = some (.bool neg) ∧ w'.cell? ⟨w.heap.size + 1, 3, none⟩ = some (.slice ma ml mcap) ∧ w'.cell? ⟨w.heap.size + 1, 4, none⟩ = some (.int .u64 0) ∧ w'.cell? ⟨w.heap.size + 1, 5, none⟩ = some (.string ⟨#[]⟩) ∧ w'.cell? ⟨w.heap.size + 1, 6, none⟩ = some (.slice none 0 0)) (first | with_reducible exact KS.out | with_reducible exact KS9.out | with_reducible exact K9.out | with_reducible exact KD.out | with_reducible exact ⟨e0, e1, e2, e3, e4, e5, e6⟩ | go_keep) (first
            | (go_at_call 75; with_reducible refine HM7.out.mono ?_; rintro e w9 ⟨rfl, hb9⟩
               have X9 := Lib.hid hb9
               have K9 := Lib.hid (seven_of hb9.2.1)
               have g0 := cell_of hb9.1 0
               have g1 := cell_of hb9.1 1
               have g2 := cell_of hb9.1 2
               have g3 := cell_of hb9.1 3
               have g4 := cell_of hb9.1 4
               have g5' := cell_of hb9.1 5
               have g6 := cell_of hb9.1 6
               simp at g0 g1 g2 g3 g4 g5' g6
               clear hb9)
            | (go_at_call 75; with_reducible refine HM1.out.mono ?_; rintro e w9 ⟨rfl, hb9⟩
               have X9 := Lib.hid hb9.set
               have K9 := Lib.hid (seven_of hb9.2.1)
               have KS9 := Lib.hid (seven_of hb9.set.2.1)
               have g0 := cell_of hb9.1 0
               have g1 := cell_of hb9.1 1
               have g2 := cell_of hb9.1 2
               have g3 := cell_of hb9.1 3
               have g4 := cell_of hb9.1 4
               have g5' := cell_of hb9.1 5
               have g6 := cell_of hb9.1 6
               have y0 := free_of hb9.1 0
               have y1 := free_of hb9.1 1
               have y2 := free_of hb9.1 2
               have y3 := free_of hb9.1 3
               have y4 := free_of hb9.1 4
               have y5 := free_of hb9.1 5
               have y6 := free_of hb9.1 6
               simp at g0 g1 g2 g3 g4 g5' g6
               clear hb9))
          all_goals go_wp2_with fail
          all_goals exact bodyPost_ret (v := .tuple #[.agg (z7 2 neg (.slice ma ml mcap)), .bool mb]) (by simp [results, Tryz.results119, go_sem, g0, g1, g2, g3, g4, g5', g6]) rfl (X9.out.read HRM.out)

end Go.Proofs.YtlmpmjhanpkcnaaGreat
