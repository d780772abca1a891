/-
  Contracts of script's reading side (walks).
-/
import Derived.Test.YtohgkfnbjfhniaaDoorRows
import Derived.Test.YtohgkfnbjfhniaaDoorSp
import Derived.Test.YtohgkfnbjfhniaaDoorShelf
import Derived.WalkKit
import Derived.WalkSpells
import Derived.WalkLawsBesides
import Derived.WalkSmall
import Derived.Deep.QuietTactic
import Derived.BigQuiet
import Derived.Lib.Hide
import Derived.Lib.AppendStr
import Derived.Laws.BytesArg
import Derived.IntWalk
import Derived.Lib.AppendIntMem
import Derived.Lib.SmallJoins
import Derived.Maps.AppendAt
import Derived.Deep.AppendLies
namespace Go.Proofs.YtohgkfnbjfhniaaDoor
open Go.RowKit Sp

theorem info5 : (Tryd.prog.info? 5).map (fun i => (i.zero, i.size, i.bytes)) = some (some (.int .u8 0), 1, 1) := by kernel_rfl

/-- Bytes as cells. -/
def cs8 (l : List UInt8) : List Value := l.map fun b => Value.int .u8 b.toNat

theorem cs8_append (a b : List UInt8) : cs8 (a ++ b) = cs8 a ++ cs8 b := by simp [cs8]
theorem cs8_length (a : List UInt8) : (cs8 a).length = a.length := by simp [cs8]

theorem own_form {w : World} {base e size : Nat} {v : Value} {n : Nat} {xs : List Value} (h : w.ownsRow base e size v n xs) : ∃ a cap, v = .slice a n cap := by
  rcases h.2 with ⟨rfl, q⟩ | ⟨g, cap, cur, rfl, _⟩
  · exact ⟨none, 0, by rw [q]⟩
  · exact ⟨_, _, rfl⟩

theorem strOf_bytes (l : List UInt8) : strOfNums (l.map fun b => (b.toNat : Int)) = ⟨l.toArray⟩ := by
  unfold strOfNums; rw [List.map_map]
  have : l.map ((fun n : Int => UInt8.ofNat n.toNat) ∘ fun b : UInt8 => (b.toNat : Int)) = l := by
    conv => rhs; rw [← List.map_id l]
    exact List.map_congr_left (fun b _ => by simp)
  rw [this]

set_option maxRecDepth 10000 in
/-- 'string(out)' of a row of bytes of the call's own. -/
theorem conv_own {w : World} {base : Nat} {v : Value} {l : List UInt8} (h : w.ownsRow base 5 1 v l.length (cs8 l)) :
    (convert 36 9 v).run Tryd.prog w = .ok (.string ⟨l.toArray⟩) w := by
  rcases h.2 with ⟨rfl, q⟩ | ⟨g, cap, cur, rfl, hb, hg, hn, hm, hc, ht⟩
  · have : l = [] := List.eq_nil_of_length_eq_zero q
    subst this
    exact run_convert_bytes_nil (P := Tryd.prog) w 36 5 Tryd.underlying36 Tryd.underlying5 0 0 9 Tryd.underlying9
  · have hcell : ∀ i, i < l.length → w.cell? ⟨g, 0 + i, none⟩ = some (.int .u8 ((l.map fun b => (b.toNat : Int)).getD i 0)) := by
      intro i hi
      have hc := h.cells rfl i (.int .u8 l[i].toNat) (by simp [cs8, hi])
      have e : (⟨g, 0, none⟩ : Addr).add i = ⟨g, 0 + i, none⟩ := by unfold Addr.add; split <;> simp_all
      rw [← e, hc, List.getD_eq_getElem?_getD, List.getElem?_map, List.getElem?_eq_getElem hi]; rfl
    have := run_convert_bytes_arg (P := Tryd.prog) w 36 5 Tryd.underlying36 Tryd.underlying5 g 0 l.length cap (l.map fun b => (b.toNat : Int)) (List.length_map _) hcell 9 Tryd.underlying9
    rw [strOf_bytes] at this; exact this

/-- The loop over a text's pairs of digits. -/
theorem pair_at {l : List UInt8} {i : Nat} (h : i + 1 < l.length) : l.take (i + 2) = l.take i ++ [l[i], l[i + 1]] ∧ l = l.take i ++ l[i] :: l[i + 1] :: l.drop (i + 2) := by
  constructor
  · rw [List.take_add, List.drop_eq_getElem_cons (by omega), List.drop_eq_getElem_cons h]; rfl
  · conv => lhs; rw [← List.take_append_drop i l, List.drop_eq_getElem_cons (by omega), List.drop_eq_getElem_cons h]

theorem index_digits (b : UInt8) (x n : Int) (hx : hexv b = x) (hn : n = (b.toNat : Int)) (w : World) :
    Calls Tryd.prog 28 #[.string ⟨#[48, 49, 50, 51, 52, 53, 54, 55, 56, 57, 97, 98, 99, 100, 101, 102]⟩, .int .u8 n] w fun e w' => e = .returned (.int .i64 x) ∧ w' = w := by
  subst hx hn
  have := Tryd.strings_IndexByte ⟨#[48, 49, 50, 51, 52, 53, 54, 55, 56, 57, 97, 98, 99, 100, 101, 102]⟩ (b.toNat : Int) w
  have e : ((b.toNat : Int)).toNat.toUInt8 = b := by simp
  rw [e] at this
  exact this

theorem get_toList {s : ByteArray} {k : Nat} (h : k < s.size) : ∃ h', s.toList[k]'h' = s[k] := by
  have h' : k < s.toList.length := by rw [Lib.toList_data, ← Lib.size_eq]; exact h
  refine ⟨h', ?_⟩
  simp only [Lib.toList_data]; rfl

theorem pair_of {s : ByteArray} {k : Nat} (h : k + 1 < s.size) : s.toList.take (k + 2) = s.toList.take k ++ [s[k], s[k + 1]] ∧ s.toList = s.toList.take k ++ s[k] :: s[k + 1] :: s.toList.drop (k + 2) := by
  obtain ⟨h1, e1⟩ := get_toList (s := s) (k := k) (by omega)
  obtain ⟨h2, e2⟩ := get_toList (s := s) (k := k + 1) h
  have := pair_at h2
  rw [e1, e2] at this
  exact this

set_option maxRecDepth 100000 in
set_option maxHeartbeats 1000000 in
theorem bytes_any (s : ByteArray) (w : World) (hs : s.size ≤ 140737488355000) :
    Calls Tryd.prog 12 #[.string s] w fun e w' => ∃ r : ByteArray, e = .returned (.tuple #[.string r, .bool (bytesP s.toList).isSome]) ∧ r.toList = (bytesP s.toList).getD [] ∧ Below w.heap.size w w' := by
  obtain ⟨i0, hi, hz0, hz1, hz2⟩ := info_parts info5
  have hsz : s.toList.length = s.size := by rw [Lib.toList_data, ← Lib.size_eq]
  by_cases h1 : s.toList = [45]
  · have q1 : (s.toList == [45]) = true := by simpa using h1
    have HB := Lib.hid (show bytesP s.toList = some [] by simp [bytesP, h1])
    clear h1 hsz
    go_enter Tryd.func12, Tryd.ntmps12
    go_wp2
    go_ret2
    exact ⟨⟨#[]⟩, by rw [HB.out]; rfl, by rw [HB.out]; simp [Lib.toList_data], Below.refl _ _⟩
  · have q1 : (s.toList == [45]) = false := by simpa using h1
    by_cases h2 : s.toList = []
    · have q2 : (s.toList == []) = true := by simpa using h2
      have q3 : s.toList.isEmpty = true := by simpa using h2
      have HB := Lib.hid (show bytesP s.toList = none by simp [bytesP, h2])
      clear h1 hsz h2
      go_enter Tryd.func12, Tryd.ntmps12
      go_wp2
      go_ret2
      exact ⟨⟨#[]⟩, by rw [HB.out]; rfl, by rw [HB.out]; simp [Lib.toList_data], Below.refl _ _⟩
    · have q2 : (s.toList == []) = false := by simpa using h2
      have q3 : s.toList.isEmpty = false := by simpa using h2
      by_cases h3 : s.size % 2 = 0
      · have q4 : ((s.size : Int) % 2 != 0) = false := by simp; omega
        have HB := Lib.hid (show bytesP s.toList = pairsP s.toList by unfold bytesP; rw [if_neg h1, if_neg (by rw [hsz]; simp [h2, h3])])
        have HSZ := Lib.hid hsz
        have H3 := Lib.hid h3
        clear h1 hsz h2 h3
        go_enter Tryd.func12, Tryd.ntmps12
        go_wp2
        go_loopw [4, 5] (fun o i wr => ∃ (k : Nat) (out : List UInt8), k ≤ s.size ∧ i = .int .i64 k ∧ Hid (k % 2 = 0 ∧ pairsP (s.toList.take k) = some out) ∧ wr.ownsRow w.heap.size 5 1 o out.length (cs8 out) ∧ Below w.heap.size w wr) (fun _ i _ => s.size - (intOf i).toNat)
        case atStart => exact ⟨0, [], by omega, rfl, Lib.hid ⟨rfl, rfl⟩, World.ownsRow_nil _ _ _ _, Below.refl _ _⟩
        case round =>
          obtain ⟨k, out, hk, rfl, HO, hown, hbel⟩ := hrel
          by_cases hlt : k < s.size
          · have hlt2 : k + 1 < s.size := by have := H3.out; have := HO.out.1; omega
            have HP := Lib.hid (pair_of hlt2)
            obtain ⟨p, hp⟩ : ∃ p, s[k] = p := ⟨_, rfl⟩
            obtain ⟨q, hq⟩ : ∃ q, s[k + 1] = q := ⟨_, rfl⟩
            have HP0 := Lib.hid hp
            have HQ0 := Lib.hid hq
            clear hp hq
            have HP := Lib.hid (show s.toList.take (k + 2) = s.toList.take k ++ [p, q] ∧ s.toList = s.toList.take k ++ p :: q :: s.toList.drop (k + 2) by rw [← HP0.out, ← HQ0.out]; exact HP.out)
            obtain ⟨x, hx⟩ : ∃ x, hexv p = x := ⟨_, rfl⟩
            obtain ⟨y, hy⟩ : ∃ y, hexv q = y := ⟨_, rfl⟩
            have hx1 := hexv_ge p
            have hx2 := hexv_lt p
            have hy1 := hexv_ge q
            have hy2 := hexv_lt q
            rw [hx] at hx1 hx2
            rw [hy] at hy1 hy2
            have HX := Lib.hid hx
            have HY := Lib.hid hy
            clear hx hy
            have q5 : (k : Int) < (s.size : Int) := by omega
            have q6 : (0 : Int) ≤ (k : Int) := by omega
            have q7 : IntKind.i64.wrap ((k : Int) + 1) = (k : Int) + 1 := IntWalk.i64_in _ (by omega)
            have q8 : (k : Int) + 1 < (s.size : Int) := by omega
            have q9 : (0 : Int) ≤ (k : Int) + 1 := by omega
            have q10 : ((k : Int) + 1).toNat = k + 1 := by omega
            go_wp2_with fail
            go_quiet ((go_at_call 28; (first | (refine Calls.quiet_of_same (index_digits p x _ HX.out ?_ _); rw [HP0.out]) | (refine Calls.quiet_of_same (index_digits q y _ HY.out ?_ _); rw [HQ0.out]))))
            try clear q7
            try clear q10
            by_cases hbad : x < 0 ∨ y < 0
            · have HN := Lib.hid (show pairsP s.toList = none by
                have h1 := HP.out.2
                rw [h1]
                exact pairsP_bad (by rw [List.length_take, HSZ.out]; have := HO.out.1; omega) HO.out.2 (by rw [HX.out, HY.out]; exact hbad))
              by_cases hx0 : x < 0
              all_goals
                first | (have hy0 : y < 0 := by omega) | skip
                clear hbad
                go_wp2_with fail
                go_ret2
                exact ⟨⟨#[]⟩, by rw [HB.out, HN.out]; rfl, by rw [HB.out, HN.out]; simp [Lib.toList_data], hbel.trans (below_drewN (Below.refl _ _) _)⟩
            · have hx0 : 0 ≤ x := by omega
              have hy0 : 0 ≤ y := by omega
              have HGD := Lib.hid (show pairsP (s.toList.take (k + 2)) = some (out ++ [(16 * x + y).toNat.toUInt8]) by
                rw [HP.out.1]
                have := pairsP_snoc (a := p) (b := q) (by rw [List.length_take, HSZ.out]; have := HO.out.1; omega) HO.out.2 (by rw [HX.out, HY.out]; exact hbad)
                rw [HX.out, HY.out] at this; exact this)
              have hol : out.length ≤ k := by
                have := pairsP_length HO.out.2
                rw [List.length_take, HSZ.out] at this; omega
              clear hbad
              have hown2 : (wr.drewN nq).ownsRow w.heap.size 5 1 u4 out.length (cs8 out) := hown
              go_wp2_with (at_builtin; refine wpList_append_own_at _ rfl (.tmp 39) (.tmp 45) 36 rfl w.heap.size 5 i0 (.int .u8 0) 1 1 Tryd.underlying36 hi hz0 hz1 hz2 rfl (by decide) u4 _ _ rfl (World.ownsRow.alloc hown2 _) _ 1 1 [.int .u8 (16 * x + y)] rfl rfl (cell_one_new _ _ _) (ints_oneCell .u8 [16 * x + y]) (by unfold maxLen; omega) (by omega) (by have := hbel.size; simp; omega) ?_; intro v1 w1 hown1 hgrow1 _ hloc1)
              have hxy : ((16 * x + y).toNat.toUInt8.toNat : Int) = 16 * x + y := by
                have e : (16 * x + y).toNat < 256 := by omega
                rw [show (16 * x + y).toNat.toUInt8.toNat = (16 * x + y).toNat % 256 from rfl]; omega
              have how : w1.ownsRow w.heap.size 5 1 v1 (out ++ [(16 * x + y).toNat.toUInt8]).length (cs8 (out ++ [(16 * x + y).toNat.toUInt8])) := by
                have e : cs8 [(16 * x + y).toNat.toUInt8] = [.int .u8 (16 * x + y)] := by unfold cs8; rw [List.map_cons, hxy]; rfl
                rw [cs8_append, e, List.length_append]
                exact hown1
              go_roundw
              case rel => exact ⟨k + 2, _, by omega, by go_num, Lib.hid ⟨by have := HO.out.1; omega, HGD.out⟩, how, ((below_drewN hbel _).alloc (by have := hbel.size; simp; omega) _).grown hgrow1 (by have := hbel.size; simp; omega) (fun k e => (hown.lt k e).1)⟩
              case measure => simp [intOf]; omega
          · have hke : k = s.size := by omega
            have HE := Lib.hid (show pairsP s.toList = some out by
              have := HO.out.2
              rw [List.take_of_length_le (by rw [HSZ.out]; omega)] at this; exact this)
            have hcv := conv_own hown
            go_wp2
            go_ret2
            exact ⟨_, by rw [HB.out, HE.out]; rfl, by rw [HB.out, HE.out]; simp [Lib.toList_data], hbel⟩
      · have q4 : ((s.size : Int) % 2 != 0) = true := by simp; omega
        have HB := Lib.hid (show bytesP s.toList = none by unfold bytesP; rw [if_neg h1, if_pos (by rw [hsz]; simp [h3])])
        clear h1 hsz h2 h3
        go_enter Tryd.func12, Tryd.ntmps12
        go_wp2
        go_ret2
        exact ⟨⟨#[]⟩, by rw [HB.out]; rfl, by rw [HB.out]; simp [Lib.toList_data], Below.refl _ _⟩


/-- What the call may lean on: the package-level variables of the library. -/
structure GW (w : World) : Prop where
  c0 : ∃ m, w.cell? ⟨0, 0, none⟩ = some (.int .i64 m)
  c1 : ∃ ev, w.cell? ⟨1, 0, none⟩ = some ev ∧ (ev = .nilIface ∨ ∃ te pe, ev = .iface te pe)
  c2 : ∃ ev, w.cell? ⟨2, 0, none⟩ = some ev ∧ (ev = .nilIface ∨ ∃ te pe, ev = .iface te pe)
  tab : Lib.TabIs Tryd.prog w "internal/strconv.uint64pow10" .u64 Lib.pow10Tab

theorem gnum : Tryd.prog.globalNamed "internal/strconv.uint64pow10" = some 3 := by kernel_rfl

theorem GW.below {w w' : World} {B : Nat} (h : GW w) (hb : Below B w w') (hB : 9 ≤ B) : GW w' := by
  obtain ⟨⟨m, h0⟩, ⟨e1, h1, g1⟩, ⟨e2, h2, g2⟩, ht⟩ := h
  refine ⟨⟨m, ?_⟩, ⟨e1, ?_, g1⟩, ⟨e2, ?_, g2⟩, var?_below hb gnum (by omega) ht⟩
  · rw [hb.cell (by show 0 < B; omega)]; exact h0
  · rw [hb.cell (by show 1 < B; omega)]; exact h1
  · rw [hb.cell (by show 2 < B; omega)]; exact h2


theorem string_ne {a b : ByteArray} : (a.toList == b.toList) = decide (a.toList = b.toList) := by
  by_cases h : a.toList = b.toList <;> simp [h]

/-- How a number's text is asked: as the walk asks it. -/
theorem itoa_any (v : Int) (h0 : 0 ≤ v) (h1 : v ≤ 1099511627776) (w : World) (g : GW w) (hB : 9 ≤ w.heap.size) :
    Calls Tryd.prog 52 #[.int .i64 v] w fun e w' => e = .returned (.string ⟨(Lib.itoa v).toArray⟩) ∧ Below w.heap.size w w' := by
  refine (Tryd.strconv_Itoa v (by omega) (by omega) w g.tab).mono ?_
  rintro e w' ⟨rfl, k, os, rfl⟩
  exact ⟨rfl, Lib.below_grow _ _ (Nat.le_refl _) _ _⟩

inductive AtoiEnd (s : List UInt8) : Int → Bool → Prop
  | ok {v : Int} : Lib.atoiAll s = .ok v → AtoiEnd s v true
  | bad {v : Int} : (∀ x, Lib.atoiAll s ≠ .ok x) → AtoiEnd s v false

theorem AtoiEnd.good {s : List UInt8} {v : Int} (h : AtoiEnd s v true) : Lib.atoiAll s = .ok v := by
  cases h with | ok h => exact h
theorem AtoiEnd.not {s : List UInt8} {v : Int} (h : AtoiEnd s v false) : ∀ x, Lib.atoiAll s ≠ .ok x := by
  cases h with | bad h => exact h

theorem atoi_any (s : ByteArray) (hs : s.size ≤ 140737488355000) (w : World) (g : GW w) :
    Calls Tryd.prog 65 #[.string s] w fun e w' => ∃ v ev ok, e = .returned (.tuple #[.int .i64 v, ev]) ∧ AtoiEnd s.toList v ok ∧ (ok = true → ev = .nilIface) ∧ (ok = false → ∃ p, ev = .iface 137 p) ∧ Below w.heap.size w w' := by
  rw [Lib.toList_data]
  cases h : Lib.atoiAll s.data.toList with
  | ok v =>
    refine (Tryd.strconv_Atoi_ok s (by omega) v h w).mono ?_
    rintro e w' ⟨rfl, hw⟩
    refine ⟨v, _, true, rfl, .ok h, fun _ => rfl, by simp, ?_⟩
    rcases hw with rfl | ⟨t, rfl⟩
    · exact Below.refl _ _
    · exact Joins.below_bytesWorld _ _ _ _ (Nat.le_refl _)
  | range =>
    obtain ⟨ev, c1, hev⟩ := g.c2
    refine (Tryd.strconv_Atoi_range s (by omega) h ev w c1 hev).mono ?_
    rintro e w' ⟨N, rfl, _, _, hb⟩
    exact ⟨_, _, false, rfl, .bad (by intro x; rw [h]; simp), by simp, fun _ => ⟨_, rfl⟩, hb⟩
  | _ =>
    obtain ⟨ev, c1, hev⟩ := g.c1
    refine (Tryd.strconv_Atoi_syntax s (by omega) h ev w c1 hev).mono ?_
    rintro e w' ⟨N, rfl, _, _, hb⟩
    exact ⟨_, _, false, rfl, .bad (by intro x; rw [h]; simp), by simp, fun _ => ⟨_, rfl⟩, hb⟩


/-- Strings behind an address, in the world and in all that come. -/
def Strs (w : World) (a : Option Addr) (ws : List ByteArray) : Prop :=
  ∀ j, (hj : j < ws.length) → ∃ ad : Addr, a = some ad ∧ ∀ W, Below w.heap.size w W → W.cell? (ad.add j) = some (.string ws[j])

set_option maxRecDepth 100000 in
set_option maxHeartbeats 1000000 in
theorem numbers_no (a : Option Addr) (n cap : Nat) (w : World) (hn : n ≠ 3) (hn' : n ≤ 140737488355000) :
    Calls Tryd.prog 48 #[.slice a n cap] w fun e w' => ∃ x y z : Int, e = .returned (.tuple #[.agg #[.int .i64 x, .int .i64 y, .int .i64 z], .bool false]) ∧ Below w.heap.size w w' := by
  have q : ((n : Int) != 3) = true := by simp; omega
  go_enter Tryd.func48, Tryd.ntmps48
  go_wp2
  refine bodyPost_ret (v := .tuple #[.agg #[.int .i64 0, .int .i64 0, .int .i64 0], .bool false]) (by simp [results, Tryd.results48, go_sem]) rfl ⟨0, 0, 0, rfl, ?_⟩
  exact ((Below.refl _ _).alloc (Nat.le_refl _) _).alloc (by simp) _

/-- The first numbers of a text's words, and where they stand. -/
structure Nums (w0 : World) (ws : List ByteArray) (j : Nat) (xs : List Int) (w : World) : Prop where
  len : xs.length = j
  num : ∀ q, (hq : q < j) → (hw : q < ws.length) → numP ws[q].toList = some (xs.getD q 0)
  r0 : w.cell? ⟨w0.heap.size, 0, none⟩ = some (.int .i64 0)
  r1 : w.cell? ⟨w0.heap.size, 1, none⟩ = some (.int .i64 0)
  r2 : w.cell? ⟨w0.heap.size, 2, none⟩ = some (.int .i64 0)
  s0 : w.frozen? ⟨w0.heap.size, 0, none⟩ = false
  s1 : w.frozen? ⟨w0.heap.size, 1, none⟩ = false
  s2 : w.frozen? ⟨w0.heap.size, 2, none⟩ = false
  c : ∀ q, q < 3 → w.cell? ⟨w0.heap.size + 1, q, none⟩ = some (.int .i64 (xs.getD q 0))
  f : ∀ q, q < 3 → w.frozen? ⟨w0.heap.size + 1, q, none⟩ = false
  bel : Below w0.heap.size w0 w
  sz : w0.heap.size + 2 ≤ w.heap.size

theorem Nums.below {w0 : World} {ws : List ByteArray} {j : Nat} {xs : List Int} {w w' : World} (h : Nums w0 ws j xs w) (hb : Below w.heap.size w w') : Nums w0 ws j xs w' := by
  have hs := h.sz
  have c := fun (p : Addr) (hp : p.block < w0.heap.size + 2) => hb.cell (p := p) (by omega)
  have f := fun (p : Addr) (hp : p.block < w0.heap.size + 2) => hb.frozen (p := p) (by omega)
  refine ⟨h.len, h.num, ?_, ?_, ?_, ?_, ?_, ?_, fun q hq => ?_, fun q hq => ?_, h.bel.trans (hb.mono (by omega)), Nat.le_trans hs hb.size⟩
  · rw [c _ (by show _ < _; simp)]; exact h.r0
  · rw [c _ (by show _ < _; simp)]; exact h.r1
  · rw [c _ (by show _ < _; simp)]; exact h.r2
  · rw [f _ (by show _ < _; simp)]; exact h.s0
  · rw [f _ (by show _ < _; simp)]; exact h.s1
  · rw [f _ (by show _ < _; simp)]; exact h.s2
  · rw [c _ (by show _ < _; simp)]; exact h.c q hq
  · rw [f _ (by show _ < _; simp)]; exact h.f q hq

theorem Nums.snoc {w0 : World} {ws : List ByteArray} {j : Nat} {xs : List Int} {w : World} (h : Nums w0 ws j xs w) (v : Int) (hj : j < 3) (hw : ∀ hq : j < ws.length, numP ws[j].toList = some v) :
    Nums w0 ws (j + 1) (xs ++ [v]) (w.setCell ⟨w0.heap.size + 1, j, none⟩ (.int .i64 v)) := by
  have hl := h.len
  have hs := h.sz
  refine ⟨by simp [hl], ?_, ?_, ?_, ?_, ?_, ?_, ?_, ?_, fun q hq => ?_, h.bel.setCell (Nat.le_succ _) _, by simpa [World.setCell] using hs⟩
  · intro q hq hq2
    by_cases e : q = j
    · subst e; rw [hw hq2]; simp [List.getD_eq_getElem?_getD, ← hl]
    · rw [h.num q (by omega) hq2]
      simp only [List.getD_eq_getElem?_getD]
      rw [List.getElem?_append_left (by omega)]
  · rw [World.cell?_setCell_other _ _ _ _ (by simp)]; exact h.r0
  · rw [World.cell?_setCell_other _ _ _ _ (by simp)]; exact h.r1
  · rw [World.cell?_setCell_other _ _ _ _ (by simp)]; exact h.r2
  · rw [World.frozen?_setCell]; exact h.s0
  · rw [World.frozen?_setCell]; exact h.s1
  · rw [World.frozen?_setCell]; exact h.s2
  · intro q hq
    by_cases e : q = j
    · subst e; rw [World.cell?_setCell_same _ _ _ (h.c q hq)]; simp [List.getD_eq_getElem?_getD, ← hl]
    · rw [World.cell?_setCell_other _ _ _ _ (by simp <;> omega), h.c q hq]
      simp only [List.getD_eq_getElem?_getD]
      by_cases hlt : q < xs.length
      · rw [List.getElem?_append_left hlt]
      · rw [List.getElem?_eq_none (by omega), List.getElem?_eq_none (by simp; omega)]
  · rw [World.frozen?_setCell]; exact h.f q hq

theorem numP_bad {s : List UInt8} (h : ∀ x, Lib.atoiAll s ≠ .ok x) : numP s = none := by
  unfold numP
  cases q : Lib.atoiAll s with
  | ok v => exact absurd q (h v)
  | _ => rfl

theorem numP_ok {s : List UInt8} {v : Int} (h : Lib.atoiAll s = .ok v) : numP s = if 0 ≤ v ∧ v ≤ 1099511627776 ∧ Lib.itoa v = s then some v else none := by
  unfold numP; rw [h]

theorem numbersP_bad {ws : List ByteArray} (hw : ws.length = 3) {j : Nat} (hj : j < ws.length) (h : numP ws[j].toList = none) : numbersP (ws.map (·.toList)) = none := by
  match ws, hw with
  | [a, b, c], _ =>
    simp only [List.map_cons, List.map_nil, numbersP]
    match j, hj with
    | 0, _ => simp only [List.getElem_cons_zero] at h; rw [h]; rfl
    | 1, _ => simp only [List.getElem_cons_succ, List.getElem_cons_zero] at h; rw [h]; cases numP a.toList <;> rfl
    | 2, _ => simp only [List.getElem_cons_succ, List.getElem_cons_zero] at h; rw [h]; cases numP a.toList <;> cases numP b.toList <;> rfl

theorem numbersP_good {ws : List ByteArray} (hw : ws.length = 3) {xs : List Int} (h : ∀ q, (hq : q < 3) → (hw : q < ws.length) → numP ws[q].toList = some (xs.getD q 0)) : numbersP (ws.map (·.toList)) = some (xs.getD 0 0, xs.getD 1 0, xs.getD 2 0) := by
  match ws, hw with
  | [a, b, c], _ =>
    simp only [List.map_cons, List.map_nil, numbersP]
    have h0 := h 0 (by omega) (by simp)
    have h1 := h 1 (by omega) (by simp)
    have h2 := h 2 (by omega) (by simp)
    simp only [List.getElem_cons_succ, List.getElem_cons_zero] at h0 h1 h2
    rw [h0, h1, h2]; rfl

theorem Nums.start (w : World) (ws : List ByteArray) : Nums w ws 0 [] ((w.alloc (.cells #[.int .i64 0, .int .i64 0, .int .i64 0] 96)).alloc (.cells #[.int .i64 0, .int .i64 0, .int .i64 0] 96)) := by
  refine ⟨rfl, by omega, ?_, ?_, ?_, ?_, ?_, ?_, ?_, ?_, ((Below.refl _ _).alloc (Nat.le_refl _) _).alloc (by simp) _, by simp⟩
  any_goals simp [go_sem]
  · intro q hq
    match q, hq with
    | 0, _ => simp [go_sem]
    | 1, _ => simp [go_sem]
    | 2, _ => simp [go_sem]

set_option maxRecDepth 100000 in
set_option maxHeartbeats 4000000 in
theorem numbers_three (a : Option Addr) (cap : Nat) (ws : List ByteArray) (hws : ws.length = 3) (w : World) (g : GW w) (hB : 9 ≤ w.heap.size) (hs : Strs w a ws) (hsz : ∀ s ∈ ws, s.size ≤ 140737488355000) :
    Calls Tryd.prog 48 #[.slice a 3 cap] w fun e w' => ∃ x y z ok, e = .returned (.tuple #[.agg #[.int .i64 x, .int .i64 y, .int .i64 z], .bool ok]) ∧ numbersP (ws.map (·.toList)) = (if ok then some (x, y, z) else none) ∧ Below w.heap.size w w' := by
  have HS := Lib.hid hs
  have HZ := Lib.hid hsz
  have HW := Lib.hid hws
  have HG := Lib.hid g
  clear hs hsz hws g
  go_enter Tryd.func48, Tryd.ntmps48
  go_wp2
  go_loopw [15] (fun i wr => ∃ (j : Nat) (xs : List Int), j ≤ 3 ∧ i = .int .i64 j ∧ Hid (Nums w ws j xs wr)) (fun i _ => 3 - (intOf i).toNat)
  case atStart => exact ⟨0, [], by omega, rfl, Lib.hid (Nums.start w ws)⟩
  case round =>
    obtain ⟨j, xs, hj, rfl, HN⟩ := hrel
    by_cases hlt : j < 3
    · have hjw : j < ws.length := by rw [HW.out]; exact hlt
      obtain ⟨ad, rfl, hcell⟩ := HS.out j hjw
      have hc := hcell _ HN.out.bel
      have GR := Lib.hid (HG.out.below HN.out.bel hB)
      have hsj := HZ.out _ (List.getElem_mem hjw)
      have HSZ := Lib.hid (Nat.le_trans hB HN.out.bel.size)
      clear hcell
      obtain ⟨s, hs⟩ : ∃ s, ws[j] = s := ⟨_, rfl⟩
      rw [hs] at hc hsj
      have HSJ := Lib.hid hs
      clear hs
      go_wp2_with fail
      refine (atoi_any s hsj _ GR.out).mono ?_
      rintro e w1 ⟨v, ev, ok, rfl, hend, h1, h2, hb⟩
      have N1 := Lib.hid (HN.out.below hb)
      have G1 := Lib.hid (GR.out.below hb HSZ.out)
      have SZ1 := Lib.hid (Nat.le_trans HSZ.out hb.size)
      have HE := Lib.hid hend
      clear hend hb
      cases ok
      · obtain ⟨p, rfl⟩ := h2 rfl
        have HBAD := Lib.hid (show numP ws[j].toList = none by rw [HSJ.out]; exact numP_bad HE.out.not)
        clear h1 h2 hc
        have cc0 := N1.out.c 0 (by omega)
        have cc1 := N1.out.c 1 (by omega)
        have cc2 := N1.out.c 2 (by omega)
        generalize hx0 : xs.getD 0 0 = x0 at cc0
        generalize hx1 : xs.getD 1 0 = x1 at cc1
        generalize hx2 : xs.getD 2 0 = x2 at cc2
        clear hx0 hx1 hx2
        have r0 := N1.out.r0
        have r1 := N1.out.r1
        have r2 := N1.out.r2
        have s0 := N1.out.s0
        have s1 := N1.out.s1
        have s2 := N1.out.s2
        go_wp2_with fail
        refine bodyPost_ret (v := .tuple #[.agg #[.int .i64 x0, .int .i64 x1, .int .i64 x2], .bool false]) (by simp [results, Tryd.results48, go_sem, r0, r1, r2]) rfl ⟨_, _, _, _, rfl, by rw [numbersP_bad HW.out _ HBAD.out]; rfl, ?_⟩
        exact (((N1.out.bel.setCell (Nat.le_refl _) _).setCell (Nat.le_refl _) _).setCell (Nat.le_refl _) _)
      · obtain rfl := h1 rfl
        have HV := Lib.hid HE.out.good
        clear h1 h2 hc
        by_cases hv0 : 0 ≤ v
        · by_cases hv1 : v ≤ 1099511627776
          · have hv1' : ¬ 1099511627776 < v := by omega
            have hv0' : ¬ v < 0 := by omega
            go_wp2_with fail
            refine (itoa_any v hv0 hv1 _ G1.out SZ1.out).mono ?_
            rintro e w2 ⟨rfl, hb2⟩
            have N2 := Lib.hid (N1.out.below hb2)
            clear hb2
            by_cases heq : Lib.itoa v = s.toList
            · have hq2 : (Lib.itoa v == s.toList) = true := by rw [heq]; simp
              have N3 := Lib.hid (N2.out.snoc v hlt (fun _ => by rw [HSJ.out, numP_ok HV.out, if_pos ⟨hv0, hv1, heq⟩]))
              have hcj := N2.out.c j hlt
              have hfj := N2.out.f j hlt
              generalize xs.getD j 0 = xj at hcj
              clear heq
              go_wp2_with fail
              go_roundw
              case rel => exact ⟨j + 1, _, by omega, by go_num, N3.out⟩
              case measure => simp [intOf]; omega
            · have hq2 : (Lib.itoa v == s.toList) = false := by simpa using heq
              have HBAD := Lib.hid (show numP ws[j].toList = none by rw [HSJ.out, numP_ok HV.out, if_neg (fun h => heq h.2.2)])
              clear heq
              have cc0 := N2.out.c 0 (by omega)
              have cc1 := N2.out.c 1 (by omega)
              have cc2 := N2.out.c 2 (by omega)
              generalize hx0 : xs.getD 0 0 = x0 at cc0
              generalize hx1 : xs.getD 1 0 = x1 at cc1
              generalize hx2 : xs.getD 2 0 = x2 at cc2
              clear hx0 hx1 hx2
              have r0 := N2.out.r0
              have r1 := N2.out.r1
              have r2 := N2.out.r2
              have s0 := N2.out.s0
              have s1 := N2.out.s1
              have s2 := N2.out.s2
              go_wp2_with fail
              refine bodyPost_ret (v := .tuple #[.agg #[.int .i64 x0, .int .i64 x1, .int .i64 x2], .bool false]) (by simp [results, Tryd.results48, go_sem, r0, r1, r2]) rfl ⟨_, _, _, _, rfl, by rw [numbersP_bad HW.out _ HBAD.out]; rfl, ?_⟩
              exact (((N2.out.bel.setCell (Nat.le_refl _) _).setCell (Nat.le_refl _) _).setCell (Nat.le_refl _) _)
          · have hv1' : 1099511627776 < v := by omega
            have hv0' : ¬ v < 0 := by omega
            have HBAD := Lib.hid (show numP ws[j].toList = none by rw [HSJ.out, numP_ok HV.out, if_neg (by omega)])
            have cc0 := N1.out.c 0 (by omega)
            have cc1 := N1.out.c 1 (by omega)
            have cc2 := N1.out.c 2 (by omega)
            generalize hx0 : xs.getD 0 0 = x0 at cc0
            generalize hx1 : xs.getD 1 0 = x1 at cc1
            generalize hx2 : xs.getD 2 0 = x2 at cc2
            clear hx0 hx1 hx2
            have r0 := N1.out.r0
            have r1 := N1.out.r1
            have r2 := N1.out.r2
            have s0 := N1.out.s0
            have s1 := N1.out.s1
            have s2 := N1.out.s2
            go_wp2_with fail
            refine bodyPost_ret (v := .tuple #[.agg #[.int .i64 x0, .int .i64 x1, .int .i64 x2], .bool false]) (by simp [results, Tryd.results48, go_sem, r0, r1, r2]) rfl ⟨_, _, _, _, rfl, by rw [numbersP_bad HW.out _ HBAD.out]; rfl, ?_⟩
            exact (((N1.out.bel.setCell (Nat.le_refl _) _).setCell (Nat.le_refl _) _).setCell (Nat.le_refl _) _)
        · have hv0' : v < 0 := by omega
          have HBAD := Lib.hid (show numP ws[j].toList = none by rw [HSJ.out, numP_ok HV.out, if_neg (by omega)])
          have cc0 := N1.out.c 0 (by omega)
          have cc1 := N1.out.c 1 (by omega)
          have cc2 := N1.out.c 2 (by omega)
          generalize hx0 : xs.getD 0 0 = x0 at cc0
          generalize hx1 : xs.getD 1 0 = x1 at cc1
          generalize hx2 : xs.getD 2 0 = x2 at cc2
          clear hx0 hx1 hx2
          have r0 := N1.out.r0
          have r1 := N1.out.r1
          have r2 := N1.out.r2
          have s0 := N1.out.s0
          have s1 := N1.out.s1
          have s2 := N1.out.s2
          go_wp2_with fail
          refine bodyPost_ret (v := .tuple #[.agg #[.int .i64 x0, .int .i64 x1, .int .i64 x2], .bool false]) (by simp [results, Tryd.results48, go_sem, r0, r1, r2]) rfl ⟨_, _, _, _, rfl, by rw [numbersP_bad HW.out _ HBAD.out]; rfl, ?_⟩
          exact (((N1.out.bel.setCell (Nat.le_refl _) _).setCell (Nat.le_refl _) _).setCell (Nat.le_refl _) _)
    · obtain rfl : j = 3 := by omega
      have HGOOD := Lib.hid (numbersP_good HW.out HN.out.num)
      have cc0 := HN.out.c 0 (by omega)
      have cc1 := HN.out.c 1 (by omega)
      have cc2 := HN.out.c 2 (by omega)
      generalize hx0 : xs.getD 0 0 = x0 at cc0
      generalize hx1 : xs.getD 1 0 = x1 at cc1
      generalize hx2 : xs.getD 2 0 = x2 at cc2
      have HG3 := Lib.hid (show numbersP (ws.map (·.toList)) = some (x0, x1, x2) by rw [← hx0, ← hx1, ← hx2]; exact HGOOD.out)
      clear hx0 hx1 hx2
      have r0 := HN.out.r0
      have r1 := HN.out.r1
      have r2 := HN.out.r2
      have s0 := HN.out.s0
      have s1 := HN.out.s1
      have s2 := HN.out.s2
      go_wp2_with fail
      refine bodyPost_ret (v := .tuple #[.agg #[.int .i64 x0, .int .i64 x1, .int .i64 x2], .bool true]) (by simp [results, Tryd.results48, go_sem, r0, r1, r2]) rfl ⟨_, _, _, _, rfl, by rw [HG3.out]; rfl, ?_⟩
      exact (((HN.out.bel.setCell (Nat.le_refl _) _).setCell (Nat.le_refl _) _).setCell (Nat.le_refl _) _)

-- END numbers_three

end Go.Proofs.YtohgkfnbjfhniaaDoor
