/-
  A term's bytes, by both answers.
-/
import Derived.Test.YtohgkfnbjfhniaaDoorTg
import Derived.Laws.Shifts
namespace Go.Proofs.YtohgkfnbjfhniaaDoor
open Go.RowKit Sp

/-- A row of one's own grew on: nothing else turned. -/
def OG (w w' : World) (v v' : Value) : Prop := w.grownBy w' v.ownBlock ∧ (v'.ownBlock = v.ownBlock ∨ ∀ k, v'.ownBlock = some k → w.heap.size ≤ k)

theorem OG.refl (w : World) (v : Value) : OG w w v v := ⟨⟨rfl, rfl, rfl, Nat.le_refl _, fun _ _ _ => rfl⟩, .inl rfl⟩

theorem OG.trans {w w1 w2 : World} {v v1 v2 : Value} (h : OG w w1 v v1) (h2 : OG w1 w2 v1 v2) : OG w w2 v v2 := by
  obtain ⟨g1, o1⟩ := h
  obtain ⟨g2, o2⟩ := h2
  refine ⟨⟨g2.os.trans g1.os, g2.tape.trans g1.tape, g2.output.trans g1.output, Nat.le_trans g1.size g2.size, fun k hk hne => ?_⟩, ?_⟩
  · refine (g2.block k (Nat.lt_of_lt_of_le hk g1.size) (fun e => ?_)).trans (g1.block k hk hne)
    rcases o1 with o1 | o1
    · exact hne (e.trans o1)
    · have := o1 k e.symm; omega
  · rcases o2 with o2 | o2
    · rcases o1 with o1 | o1
      · exact .inl (o2.trans o1)
      · exact .inr (fun k e => o1 k (o2 ▸ e))
    · exact .inr (fun k e => Nat.le_trans g1.size (o2 k e))

theorem OG.alloc {w w1 : World} {v v1 : Value} (h : OG w w1 v v1) (o : Obj) : OG w (w1.alloc o) v v1 :=
  h.trans ⟨⟨rfl, rfl, rfl, by simp, fun k hk _ => Below.heap_alloc w1 _ _ hk⟩, .inl rfl⟩
theorem OG.drew {w w1 : World} {v v1 : Value} (h : OG w w1 v v1) : OG w w1.drew v v1 :=
  h.trans ⟨⟨rfl, rfl, rfl, Nat.le_refl _, fun _ _ _ => rfl⟩, .inl rfl⟩

theorem OG.below {w w1 : World} {v v1 : Value} {base : Nat} (h : OG w w1 v v1) (hv : ∀ k, v.ownBlock = some k → base ≤ k) (hbase : base ≤ w.heap.size) : Below base w w1 :=
  (Below.refl base w).grown h.1 hbase hv

theorem OG.block {w w1 : World} {v v1 : Value} (h : OG w w1 v v1) {k : Nat} (hk : k < w.heap.size) (hne : v.ownBlock ≠ some k) : w1.heap[k]? = w.heap[k]? :=
  h.1.block k hk (fun e => hne e.symm)
theorem OG.apart {w w1 : World} {v v1 : Value} (h : OG w w1 v v1) {k : Nat} (hk : k < w.heap.size) (hne : v.ownBlock ≠ some k) : v1.ownBlock ≠ some k := by
  rcases h.2 with e | e
  · rw [e]; exact hne
  · intro q; have := e k q; omega

/-- An own row of bytes. -/
def Row (w : World) (base : Nat) (v : Value) (l : List UInt8) : Prop := w.ownsRow base 5 1 v l.length (cs8 l)

theorem u8_one (a : Int) : ∀ u ∈ [Value.int .u8 a], u.oneCell' = true := by
  intro u hu; simp only [List.mem_singleton] at hu; subst hu; rfl

theorem row_snoc {w : World} {base : Nat} {v : Value} {l : List UInt8} {x : Int} {b : UInt8} (h : w.ownsRow base 5 1 v (l.length + 1) (cs8 l ++ [.int .u8 x])) (hx : x = (b.toNat : Int)) : Row w base v (l ++ [b]) := by
  subst hx
  unfold Row
  have e : cs8 l ++ [Value.int .u8 (b.toNat : Int)] = cs8 (l ++ [b]) := by simp [cs8]
  have e2 : l.length + 1 = (l ++ [b]).length := by simp
  rw [e, e2] at h; exact h

theorem byte_of (u i : Nat) : (u : Int) / 2 ^ (8 * i) % 256 = ((UInt8.ofNat (u >>> (8 * i))).toNat : Int) := by
  rw [UInt8.toNat_ofNat', Nat.shiftRight_eq_div_pow]
  simp

theorem OG.grew {w w1 w2 : World} {v v1 v2 : Value} {o : Obj} (h : OG w w1 v v1) (hg : (w1.alloc o).grownBy w2 v1.ownBlock) (hl : v2.ownBlock = v1.ownBlock ∨ v2.ownBlock = some (w1.alloc o).heap.size) : OG w w2 v v2 :=
  (h.alloc o).trans ⟨hg, hl.elim .inl (fun e => .inr (fun k q => by rw [e] at q; cases q; exact Nat.le_refl _))⟩

set_option maxHeartbeats 4000000 in
set_option maxRecDepth 100000 in
theorem put_any (base m u : Nat) (v : Value) (bs : List UInt8) (w : World) (hrow : Row w base v bs) (hm : m ≤ 8) (hu : u < 18446744073709551616) (hl : bs.length + m ≤ 1000000000) (hbase : base ≤ w.heap.size) :
  Calls Tryd.prog 58 #[v, .int .u64 u, .int .i64 m] w fun e w' => ∃ v', e = .returned v' ∧ Row w' base v' (bs ++ putP u m) ∧ OG w w' v v' := by
  obtain ⟨i0, hi, hz0, hz1, hz2⟩ := info_parts info5
  have HR := Lib.hid hrow
  clear hrow
  have q0 : IntKind.i64.wrap ((m : Int) - 1) = (m : Int) - 1 := IntWalk.i64_in _ (by omega)
  go_enter Tryd.func58, Tryd.ntmps58
  go_wp2_with fail
  go_loopw [0, 7] (fun s i wr => ∃ (j : Nat) (done : List UInt8), j ≤ m ∧ i = .int .i64 ((j : Int) - 1) ∧ Hid (Row wr base s (bs ++ done)) ∧ Hid (done ++ putP u j = putP u m) ∧ Hid (OG w wr v s)) (fun _ i _ => (intOf i + 1).toNat)
  case atStart => exact ⟨m, [], by omega, rfl, Lib.hid (by simpa using HR.out), Lib.hid (by simp), Lib.hid (OG.refl _ _)⟩
  case round =>
    obtain ⟨j, done, hj, rfl, HRW, HD, HOG⟩ := hrel
    have sz : base ≤ wr.heap.size := Nat.le_trans hbase HOG.out.1.size
    by_cases hz : j = 0
    · subst hz
      go_wp2_with fail
      go_ret
      have hd := HD.out
      simp only [putP, List.append_nil] at hd
      exact ⟨_, rfl, by rw [← hd]; exact HRW.out, HOG.out⟩
    · obtain ⟨i, rfl⟩ : ∃ i, j = i + 1 := ⟨j - 1, by omega⟩
      have e5 : (((i + 1 : Nat) : Int) - 1) = (i : Int) := by omega
      have q5 : (0 : Int) ≤ (i : Int) := by omega
      have q6 : IntKind.i64.wrap ((i : Int) - 1) = (i : Int) - 1 := IntWalk.i64_in _ (by omega)
      have q7 : IntKind.i64.wrap (8 * (i : Int)) = 8 * (i : Int) := IntWalk.i64_in _ (by omega)
      have hdl : done.length ≤ 8 := by
        have h := congrArg List.length HD.out
        rw [List.length_append, putP_length, putP_length] at h
        omega
      rw [e5]
      go_wp2_with (at_builtin; refine wpList_append_own_at _ rfl (.tmp 14) (.tmp 20) 36 rfl base 5 i0 (.int .u8 0) 1 1 Tryd.underlying36 hi hz0 hz1 hz2 rfl (by decide) u0 _ _ rfl (World.ownsRow.alloc HRW.out _) _ 1 1 [.int .u8 ((u : Int) / 2 ^ (8 * i) % 256)] rfl rfl (cell_one_at wr wr.heap.size rfl _ _) (u8_one _) (by rw [List.length_append]; unfold maxLen; omega) (by rw [List.length_append]; omega) (by simp; omega) ?_; intro v1 w1 hown1 hgrow1 _ hloc1
                   have HR1 := Lib.hid (row_snoc hown1 (byte_of u i))
                   have HO1 := Lib.hid (HOG.out.grew hgrow1 hloc1)
                   clear hown1 hgrow1 hloc1)
      go_roundw
      case rel => exact ⟨i, done ++ [UInt8.ofNat (u >>> (8 * i))], by omega, rfl, Lib.hid (by have h := HR1.out; rwa [List.append_assoc] at h), Lib.hid (by have h := HD.out; simpa [putP] using h), HO1⟩
      case measure => simp [intOf]

set_option maxHeartbeats 4000000 in
set_option maxRecDepth 100000 in
theorem refPut_any (base m u : Nat) (v : Value) (bs : List UInt8) (w : World) (hrow : Row w base v bs) (hm : m ≤ 8) (hu : u < 18446744073709551616) (hl : bs.length + m ≤ 1000000000) (hbase : base ≤ w.heap.size) :
  Calls Tryd.prog 61 #[v, .int .u64 u, .int .i64 m] w fun e w' => ∃ v', e = .returned v' ∧ Row w' base v' (bs ++ putP u m) ∧ OG w w' v v' := by
  obtain ⟨i0, hi, hz0, hz1, hz2⟩ := info_parts info5
  have HR := Lib.hid hrow
  clear hrow
  have q0 : IntKind.i64.wrap ((m : Int) - 1) = (m : Int) - 1 := IntWalk.i64_in _ (by omega)
  go_enter Tryd.func61, Tryd.ntmps61
  go_wp2_with fail
  go_loopw [0, 7] (fun s i wr => ∃ (j : Nat) (done : List UInt8), j ≤ m ∧ i = .int .i64 ((j : Int) - 1) ∧ Hid (Row wr base s (bs ++ done)) ∧ Hid (done ++ putP u j = putP u m) ∧ Hid (OG w wr v s)) (fun _ i _ => (intOf i + 1).toNat)
  case atStart => exact ⟨m, [], by omega, rfl, Lib.hid (by simpa using HR.out), Lib.hid (by simp), Lib.hid (OG.refl _ _)⟩
  case round =>
    obtain ⟨j, done, hj, rfl, HRW, HD, HOG⟩ := hrel
    have sz : base ≤ wr.heap.size := Nat.le_trans hbase HOG.out.1.size
    by_cases hz : j = 0
    · subst hz
      go_wp2_with fail
      go_ret
      have hd := HD.out
      simp only [putP, List.append_nil] at hd
      exact ⟨_, rfl, by rw [← hd]; exact HRW.out, HOG.out⟩
    · obtain ⟨i, rfl⟩ : ∃ i, j = i + 1 := ⟨j - 1, by omega⟩
      have e5 : (((i + 1 : Nat) : Int) - 1) = (i : Int) := by omega
      have q5 : (0 : Int) ≤ (i : Int) := by omega
      have q6 : IntKind.i64.wrap ((i : Int) - 1) = (i : Int) - 1 := IntWalk.i64_in _ (by omega)
      have q7 : IntKind.i64.wrap (8 * (i : Int)) = 8 * (i : Int) := IntWalk.i64_in _ (by omega)
      have hdl : done.length ≤ 8 := by
        have h := congrArg List.length HD.out
        rw [List.length_append, putP_length, putP_length] at h
        omega
      rw [e5]
      go_wp2_with (at_builtin; refine wpList_append_own_at _ rfl (.tmp 14) (.tmp 20) 36 rfl base 5 i0 (.int .u8 0) 1 1 Tryd.underlying36 hi hz0 hz1 hz2 rfl (by decide) u0 _ _ rfl (World.ownsRow.alloc HRW.out _) _ 1 1 [.int .u8 ((u : Int) / 2 ^ (8 * i) % 256)] rfl rfl (cell_one_at wr wr.heap.size rfl _ _) (u8_one _) (by rw [List.length_append]; unfold maxLen; omega) (by rw [List.length_append]; omega) (by simp; omega) ?_; intro v1 w1 hown1 hgrow1 _ hloc1
                   have HR1 := Lib.hid (row_snoc hown1 (byte_of u i))
                   have HO1 := Lib.hid (HOG.out.grew hgrow1 hloc1)
                   clear hown1 hgrow1 hloc1)
      go_roundw
      case rel => exact ⟨i, done ++ [UInt8.ofNat (u >>> (8 * i))], by omega, rfl, Lib.hid (by have h := HR1.out; rwa [List.append_assoc] at h), Lib.hid (by have h := HD.out; simpa [putP] using h), HO1⟩
      case measure => simp [intOf]


end Go.Proofs.YtohgkfnbjfhniaaDoor
