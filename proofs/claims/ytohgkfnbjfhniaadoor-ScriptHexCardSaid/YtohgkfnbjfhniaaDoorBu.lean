/-
  A writer: a strings.Builder inside a struct, and what is written.
-/
import Derived.Test.YtohgkfnbjfhniaaDoorAx
import Derived.Shelf.Strings.BuilderK
namespace Go.Proofs.YtohgkfnbjfhniaaDoor
open Go.RowKit Sp

/-- A writer in block tb: what it holds, and whether a number may not be written. -/
def BW (w : World) (B tb L : Nat) (bs : List UInt8) (bad : Bool) : Prop :=
  ∃ p v, (p = .pointer none ∨ p = .pointer (some ⟨tb, 0, none⟩)) ∧ w.heap[tb]? = some (.cells #[p, v, .bool bad] 83 (0, 0)) ∧ w.ownsRow B 5 1 v bs.length (cs8 bs) ∧ tb < B ∧ v.ownBlock ≠ some L ∧ L ≠ tb

theorem BW.fr {w w' : World} {B tb L : Nat} {bs : List UInt8} {bad : Bool} (h : BW w B tb L bs bad) (hb : Below w.heap.size w w') : BW w' B tb L bs bad := by
  obtain ⟨p, v, h1, h2, h3, h4⟩ := h
  have hlt := (Array.getElem?_eq_some_iff.1 h2).1
  exact ⟨p, v, h1, by rw [hb.block tb hlt]; exact h2, Fr.own h3 (Fr.of_below hb) (fun k e q => by have := (h3.lt k e).2; omega), h4⟩

/-- Beside a block that is made later. -/
theorem BW.beside {w w' : World} {B tb L : Nat} {bs : List UInt8} {bad : Bool} (h : BW w B tb L bs bad) (hb : Below w.heap.size w w') (L' : Nat) (hL : w.heap.size ≤ L') : BW w' B tb L' bs bad := by
  obtain ⟨p, v, h1, h2, h3, h4, h5, h6⟩ := h.fr hb
  obtain ⟨p', v', k1, k2, k3, _⟩ := h
  have hlt := (Array.getElem?_eq_some_iff.1 k2).1
  have e := (hb.block tb hlt).trans k2
  rw [h2] at e
  simp at e
  refine ⟨p, v, h1, h2, h3, h4, fun q => ?_, by omega⟩
  rw [e.2] at q
  have := (k3.lt L' q).2; omega

theorem block_cell {w : World} {b : Nat} {cs : Array Value} {t : TypeId} {fr : Nat × Nat} (h : w.heap[b]? = some (.cells cs t fr)) (i : Nat) : w.cell? ⟨b, i, none⟩ = cs[i]? := by simp [World.cell?, h]
theorem block_frozen {w : World} {b : Nat} {cs : Array Value} {t : TypeId} (h : w.heap[b]? = some (.cells cs t (0, 0))) (i : Nat) : w.frozen? ⟨b, i, none⟩ = false := by simp [World.frozen?, h]
theorem block_set {w : World} {b : Nat} {cs : Array Value} {t : TypeId} {fr : Nat × Nat} (h : w.heap[b]? = some (.cells cs t fr)) (i : Nat) (u : Value) : (w.setCell ⟨b, i, none⟩ u).heap[b]? = some (.cells (cs.setIfInBounds i u) t fr) := by
  show (w.heap.modify b _)[b]? = _
  rw [Array.getElem?_modify, if_pos rfl, h]; rfl

theorem info81 : ∃ j, Tryd.prog.info? 81 = some j ∧ j.size = 2 := by
  have h : (Tryd.prog.info? 81).map (·.size) = some 2 := by kernel_rfl
  obtain ⟨j, hj, hs⟩ := Option.map_eq_some_iff.1 h
  exact ⟨j, hj, hs⟩
theorem lies81 : liesAt Tryd.prog Tryd.prog.depth 83 (3 / Tryd.prog.cellsOf 83) 0 81 1 = true := by kernel_rfl
theorem u113 : Tryd.prog.underlying 113 = some .unsafePointer := by kernel_rfl
theorem u79 : Tryd.prog.underlying 79 = some (.pointer 81) := by kernel_rfl

set_option maxHeartbeats 1000000 in
set_option maxRecDepth 100000 in
theorem copy_check (tb : Nat) (p v b : Value) (w : World) (hp : p = .pointer none ∨ p = .pointer (some ⟨tb, 0, none⟩)) (h : w.heap[tb]? = some (.cells #[p, v, b] 83 (0, 0))) :
    Calls Tryd.prog 51 #[.pointer (some ⟨tb, 0, none⟩)] w fun e w' => e = .returned (.tuple #[]) ∧ (w' = w.setCell ⟨tb, 0, none⟩ (.pointer (some ⟨tb, 0, none⟩)) ∨ (w' = w ∧ p = .pointer (some ⟨tb, 0, none⟩))) := by
  obtain ⟨j, hj, hjs⟩ := info81
  have h0 := block_cell h 0
  have f0 := block_frozen h 0
  have hsh : w.shape? tb = some (83, 3) := by simp [World.shape?, h]
  simp at h0
  rcases hp with rfl | rfl
  · go_enter Tryd.func51, Tryd.ntmps51
    go_wp2
    rw [Lib.run_to_unsafe w ⟨tb, 0, none⟩ u79 u113 hj (by rw [hjs]; decide) hsh (by simp)]
    simp only [Result.andThen]
    rw [Oper.upon_value]
    go_wp2
    rw [run_callFunc_extern Tryd.func67 (by kernel_rfl) (by kernel_rfl) (by kernel_rfl) (e := Extern.AbiNoEscape.same) (by kernel_rfl)]
    rw [Lib.run_noEscape]
    simp only [Result.andThen]
    rw [Oper.upon_value]
    go_wp2
    rw [Lib.run_from_unsafe w ⟨tb, 0, none⟩ u113 u79 hj hsh lies81]
    simp only [Result.andThen]
    rw [Oper.upon_value]
    go_wp2
    go_end0
    exact ⟨rfl, .inl rfl⟩
  · go_enter Tryd.func51, Tryd.ntmps51
    go_wp2
    rw [Lib.run_neq_ptr_same w _ u79 hj]
    go_wp2
    go_end0
    exact ⟨rfl, .inr ⟨rfl, trivial⟩⟩

/-- Behind the check. -/
theorem BW.checked {w w1 : World} {B tb : Nat} {bs : List UInt8} {bad : Bool} {p v : Value} (h2 : w.heap[tb]? = some (.cells #[p, v, .bool bad] 83 (0, 0))) (h3 : w.ownsRow B 5 1 v bs.length (cs8 bs)) (h4 : tb < B)
    (h : w1 = w.setCell ⟨tb, 0, none⟩ (.pointer (some ⟨tb, 0, none⟩)) ∨ (w1 = w ∧ p = .pointer (some ⟨tb, 0, none⟩))) :
    w1.heap[tb]? = some (.cells #[.pointer (some ⟨tb, 0, none⟩), v, .bool bad] 83 (0, 0)) ∧ w1.ownsRow B 5 1 v bs.length (cs8 bs) ∧ Fr (fun k => k = tb) w w1 := by
  rcases h with rfl | ⟨rfl, rfl⟩
  · have f := Fr.setCell (Fr.refl (fun k => k = tb) w) (p := ⟨tb, 0, none⟩) rfl (.pointer (some ⟨tb, 0, none⟩))
    exact ⟨by rw [block_set h2]; rfl, Fr.own h3 f (fun k e q => by have := (h3.lt k e).1; omega), f⟩
  · exact ⟨h2, h3, Fr.refl _ _⟩

set_option maxHeartbeats 4000000 in
set_option maxRecDepth 100000 in
theorem write_string (B tb L : Nat) (bs : List UInt8) (bad : Bool) (s : ByteArray) (w : World) (h : BW w B tb L bs bad) (hB : B ≤ w.heap.size) (hL : L < w.heap.size) (hl : bs.length + s.size ≤ 1000000000000) :
    Calls Tryd.prog 36 #[.pointer (some ⟨tb, 0, none⟩), .string s] w fun e w' => e = .returned (.tuple #[.int .i64 s.size, .nilIface]) ∧ BW w' B tb L (bs ++ s.toList) bad ∧ w'.heap[L]? = w.heap[L]? ∧ Fr (fun k => k = tb ∨ B ≤ k) w w' := by
  obtain ⟨p, v, hp, h2, h3, h4, h5, h6⟩ := h
  have HV := Lib.hid h5
  have HLT := Lib.hid h6
  clear h5 h6
  go_enter Tryd.func36, Tryd.ntmps36
  go_wp2_with fail
  refine (copy_check tb p v _ w hp h2).mono ?_
  rintro e w1 ⟨rfl, hw1⟩
  obtain ⟨k1, k2, k3⟩ := BW.checked h2 h3 h4 hw1
  have K1 := Lib.hid k1
  have K2 := Lib.hid k2
  have K3 := Lib.hid k3
  have c1 := block_cell k1 1
  have f1 := block_frozen k1 1
  simp at c1
  have hs1 := k3.size
  clear hw1 k1 k2 k3 hp h2 h3
  go_wp2_with (at_builtin; refine wpList_append_str rfl (.tmp 12) (.tmp 13) rfl B v bs.length _ rfl K2.out s rfl (by omega) (by omega) ?_; intro A c w3 hown3 hgrow3 hat3
               have F3 : Fr (fun k => B ≤ k) w1 w3 := (Fr.refl _ w1).grown hgrow3 (fun k e _ => (K2.out.lt k e).1)
               have hblk : w3.heap[tb]? = some (.cells #[.pointer (some ⟨tb, 0, none⟩), v, .bool bad] 83 (0, 0)) := (F3.block tb (Array.getElem?_eq_some_iff.1 K1.out).1 (by omega)).trans K1.out
               have HLK := Lib.hid (hgrow3.block L (by omega) (fun e => HV.out e.symm))
               have HVN := Lib.hid (show Value.ownBlock (.slice A (bs.length + s.size) c) ≠ some L from hat3.elim (fun e => by rw [e]; exact HV.out) (fun e q => by have := e L q; omega))
               have c1' := block_cell hblk 1
               have f1' := block_frozen hblk 1
               simp at c1'
               have HB3 := Lib.hid hblk
               have O3 := Lib.hid hown3
               have HF3 := Lib.hid F3
               clear hown3 hgrow3 hat3 F3 hblk)
  go_ret2
  have fx := Fr.setCell (Fr.refl (fun k => k = tb) w3) (p := ⟨tb, 1, none⟩) rfl (.slice A (bs.length + s.size) c)
  refine ⟨rfl, ⟨.pointer (some ⟨tb, 0, none⟩), .slice A (bs.length + s.size) c, .inr rfl, ?_, ?_, h4, HVN.out, HLT.out⟩, ?_, ?_⟩
  · rw [block_set HB3.out]; rfl
  · rw [List.length_append, size_toList, cs8_append]
    exact Fr.own O3.out fx (fun k e q => by have := (O3.out.lt k e).1; omega)
  · exact ((Below.heap_setCell _ _ _ _ HLT.out).trans HLK.out).trans (K3.out.block L hL HLT.out)
  · exact ((K3.out.mono (fun k q => .inl q)).trans (HF3.out.mono (fun k q => .inr q))).trans (fx.mono (fun k q => .inl q))

set_option maxHeartbeats 4000000 in
set_option maxRecDepth 100000 in
theorem write_byte (B tb L : Nat) (bs : List UInt8) (bad : Bool) (w : World) (h : BW w B tb L bs bad) (hB : B ≤ w.heap.size) (hL : L < w.heap.size) (hl : bs.length + 1 ≤ 1000000000000) :
    Calls Tryd.prog 53 #[.pointer (some ⟨tb, 0, none⟩), .int .u8 10] w fun e w' => e = .returned .nilIface ∧ BW w' B tb L (bs ++ [10]) bad ∧ w'.heap[L]? = w.heap[L]? ∧ Fr (fun k => k = tb ∨ B ≤ k) w w' := by
  obtain ⟨i0, hi, hz0, hz1, hz2⟩ := info_parts info5
  obtain ⟨p, v, hp, h2, h3, h4, h5, h6⟩ := h
  have HV := Lib.hid h5
  have HLT := Lib.hid h6
  clear h5 h6
  go_enter Tryd.func53, Tryd.ntmps53
  go_wp2_with fail
  refine (copy_check tb p v _ w hp h2).mono ?_
  rintro e w1 ⟨rfl, hw1⟩
  obtain ⟨k1, k2, k3⟩ := BW.checked h2 h3 h4 hw1
  have K1 := Lib.hid k1
  have K2 := Lib.hid k2
  have K3 := Lib.hid k3
  have c1 := block_cell k1 1
  have f1 := block_frozen k1 1
  simp at c1
  have hs1 := k3.size
  clear hw1 k1 k2 k3 hp h2 h3
  go_wp2_with (at_builtin; refine wpList_append_own_at _ rfl (.tmp 11) (.tmp 13) 36 rfl B 5 i0 (.int .u8 0) 1 1 Tryd.underlying36 hi hz0 hz1 hz2 rfl (by decide) v _ _ rfl (World.ownsRow.alloc K2.out _) _ 1 1 [.int .u8 10] rfl rfl (cell_one_new _ _ _) (ints_oneCell .u8 [10]) (by unfold maxLen; omega) (by omega) (by first | omega | (simp <;> omega)) ?_; intro v3 w3 hown3 hgrow3 _ hat3
               obtain ⟨a3, n3, rfl⟩ := own_form hown3
               have F3 : Fr (fun k => B ≤ k) w1 w3 := (Fr.alloc (Fr.refl _ w1) _).grown hgrow3 (fun k e _ => (K2.out.lt k e).1)
               have hblk : w3.heap[tb]? = some (.cells #[.pointer (some ⟨tb, 0, none⟩), v, .bool bad] 83 (0, 0)) := (F3.block tb (Array.getElem?_eq_some_iff.1 K1.out).1 (by omega)).trans K1.out
               have HLK := Lib.hid ((hgrow3.block L (by simp; omega) (fun e => HV.out e.symm)).trans (Below.heap_alloc _ _ _ (by omega)))
               have HVN := Lib.hid (show Value.ownBlock (.slice a3 (bs.length + 1) n3) ≠ some L from hat3.elim (fun e => by rw [e]; exact HV.out) (fun e q => by rw [e] at q; simp at q; omega))
               have c1' := block_cell hblk 1
               have f1' := block_frozen hblk 1
               simp at c1'
               have HB3 := Lib.hid hblk
               have O3 := Lib.hid hown3
               have HF3 := Lib.hid F3
               clear hown3 hgrow3 hat3 F3 hblk)
  go_ret
  have fx := Fr.setCell (Fr.refl (fun k => k = tb) w3) (p := ⟨tb, 1, none⟩) rfl (.slice a3 (bs.length + 1) n3)
  refine ⟨rfl, ⟨.pointer (some ⟨tb, 0, none⟩), .slice a3 (bs.length + 1) n3, .inr rfl, ?_, ?_, h4, HVN.out, HLT.out⟩, ?_, ?_⟩
  · rw [block_set HB3.out]; rfl
  · rw [List.length_append, cs8_append]
    exact Fr.own O3.out fx (fun k e q => by have := (O3.out.lt k e).1; omega)
  · exact ((Below.heap_setCell _ _ _ _ HLT.out).trans HLK.out).trans (K3.out.block L hL HLT.out)
  · exact ((K3.out.mono (fun k q => .inl q)).trans (HF3.out.mono (fun k q => .inr q))).trans (fx.mono (fun k q => .inl q))

theorem writer_len (B tb L : Nat) (bs : List UInt8) (bad : Bool) (w : World) (h : BW w B tb L bs bad) : Calls Tryd.prog 38 #[.pointer (some ⟨tb, 0, none⟩)] w fun e w' => e = .returned (.int .i64 bs.length) ∧ w' = w := by
  obtain ⟨p, v, hp, h2, h3, h4⟩ := h
  obtain ⟨a, cap, rfl⟩ := own_form h3
  have c1 := block_cell h2 1
  simp at c1
  go_enter Tryd.func38, Tryd.ntmps38
  go_wp2_with fail
  go_ret
  exact ⟨rfl, rfl⟩

set_option maxHeartbeats 4000000 in
set_option maxRecDepth 100000 in
theorem writer_string (B tb L : Nat) (bs : List UInt8) (bad : Bool) (w : World) (h : BW w B tb L bs bad) (hne : bs ≠ []) : Calls Tryd.prog 39 #[.pointer (some ⟨tb, 0, none⟩)] w fun e w' => e = .returned (.string ⟨bs.toArray⟩) ∧ Below B w w' := by
  obtain ⟨p, v, hp, h2, h3, h4⟩ := h
  have hl0 : bs.length ≠ 0 := by simpa using hne
  obtain ⟨g, cap, cur, rfl, hbg, hg, hnc, hcm, hcs, htake⟩ : ∃ g cap cur, v = .slice (some ⟨g, 0, none⟩) bs.length cap ∧ B ≤ g ∧ w.heap[g]? = some (.cells cur 5 (0, 0)) ∧ bs.length ≤ cap ∧ cap ≤ maxLen ∧ cur.size = cap * 1 ∧ cur.toList.take (bs.length * 1) = cs8 bs := by
    rcases h3.2 with ⟨_, hz⟩ | r
    · exact absurd hz hl0
    · exact r
  have c1 : w.drew.cell? ⟨tb, 1, none⟩ = some (.slice (some ⟨g, 0, none⟩) bs.length cap) := by
    have := block_cell h2 1
    simpa using this
  have hSD : (Builtin.unsafeSliceData_ #[36] 104 #[.slice (some ⟨g, 0, none⟩) bs.length cap]).run Tryd.prog w.drew = .ok (.pointer (some ⟨g, 0, none⟩)) w.drew :=
    Lib.run_unsafeSliceData_row _ _ _ _ _ _ (by omega)
  have hUS : (Builtin.unsafeString_ #[104, 3] 9 #[.pointer (some ⟨g, 0, none⟩), .int .i64 bs.length]).run Tryd.prog w.drew = .ok (.string ⟨bs.toArray⟩) (w.drew.freeze ⟨g, 0, none⟩ bs.length) := by
    refine Lib.run_unsafeString_row w.drew 104 3 9 5 (by kernel_rfl) (by kernel_rfl) g cur.size (by have hg' : w.drew.heap[g]? = some (.cells cur 5 (0, 0)) := hg; simp [World.shape?, hg']) bs hne (by omega) (by unfold maxLen at hcm; omega) ?_
    intro j x hx
    have := h3.cells (g := g) rfl j (.int .u8 x.toNat) (by simp [cs8, hx])
    exact this
  clear hnc hcm hcs htake
  have mixed : Tryd.prog.follows .mixedOrders = true := by kernel_rfl
  go_enter Tryd.func39, Tryd.ntmps39
  go_wp2
  go_region_o
  all_goals (go_wp2; go_ret; exact ⟨rfl, Lib.below_freeze (Below.drew (Below.refl B w)) (p := ⟨g, 0, none⟩) hbg _⟩)

end Go.Proofs.YtohgkfnbjfhniaaDoor
