/-
  A dump as an argument; its regions: mem.Of.
-/
import Derived.Test.YtohgkfnbjfhniaaWo
import Derived.RangeFuncRecord
namespace Go.Proofs.Ytohgkfnbjfhniaa
open Go.RowKit

/-- Numbers in memory. -/
def Is (w : World) (v : Value) (l : List Int) : Prop :=
  l.length ≤ maxLen ∧ (∀ x ∈ l, -9223372036854775808 ≤ x ∧ x ≤ 9223372036854775807) ∧ ∃ a cap, v = .slice a l.length cap ∧ l.length ≤ cap ∧ cap ≤ maxLen ∧ ∀ j, (hj : j < l.length) → ∃ g o, a = some ⟨g, o, none⟩ ∧ w.cell? ⟨g, o + j, none⟩ = some (.int .i64 l[j])

theorem Is.below {w w' : World} {v : Value} {l : List Int} (h : Is w v l) (hb : Below w.heap.size w w') : Is w' v l := by
  obtain ⟨h1, h2, a, cap, rfl, h3, h4, hc⟩ := h
  refine ⟨h1, h2, a, cap, rfl, h3, h4, fun j hj => ?_⟩
  obtain ⟨g, o, rfl, k⟩ := hc j hj
  exact ⟨g, o, rfl, (hb.cell (World.block_lt_of_cell? w _ k)).trans k⟩

/-- A dump. -/
structure Dmp where
  young : Frg
  old : Frg
  size : Int
  mark : Int
  frags : List Frg
  roots : List Nat
  handles : List Int

def Dmp.mem (d : Dmp) : List Frg := d.young :: d.old :: d.frags

/-- A dump's nine cells. -/
abbrev dmpV (a b c d : Value) (size mark : Int) (f r h : Value) : Value := .agg #[a, b, c, d, .int .i64 size, .int .i64 mark, f, r, h]

def DmAt (w : World) (v : Value) (d : Dmp) : Prop :=
  ∃ a b a' b' f r h, v = dmpV a b a' b' d.size d.mark f r h ∧ FrAt w a b d.young ∧ FrAt w a' b' d.old ∧ (-9223372036854775808 ≤ d.size ∧ d.size ≤ 9223372036854775807) ∧ (-9223372036854775808 ≤ d.mark ∧ d.mark ≤ 9223372036854775807) ∧
    RsAt w f d.frags ∧ Ws w r d.roots ∧ Is w h d.handles

theorem DmAt.below {w w' : World} {v : Value} {d : Dmp} (h : DmAt w v d) (hb : Below w.heap.size w w') : DmAt w' v d := by
  obtain ⟨a, b, a', b', f, r, h, rfl, h1, h2, h3, h4, h5, h6, h7⟩ := h
  exact ⟨a, b, a', b', f, r, h, rfl, h1.below hb, h2.below hb, h3, h4, h5.below hb, h6.below hb, h7.below hb⟩

theorem own_two (W : World) (o : Obj) (a b c d : Value) : ((W.alloc o).alloc (.cells #[a, b, c, d] 24)).ownsRow W.heap.size 24 2 (.slice (some ⟨W.heap.size + 1, 0, none⟩) 2 2) 2 [a, b, c, d] := by
  refine ⟨rfl, Or.inr ⟨W.heap.size + 1, 2, #[a, b, c, d], rfl, by omega, ?_, by omega, by unfold maxLen; omega, rfl, rfl⟩⟩
  have h : (W.alloc o).heap.size = W.heap.size + 1 := by simp
  rw [← h]
  generalize W.alloc o = W1
  exact World.alloc_heap_new W1 _

set_option maxHeartbeats 4000000 in
set_option maxRecDepth 100000 in
theorem of_any (d : Dmp) (v : Value) (w : World) (hd : DmAt w v d) (hf : d.frags.length ≤ 100000) : Calls Try.prog 24 #[v] w fun e w' => ∃ r, e = .returned r ∧ RsAt w' r d.mem ∧ Below w.heap.size w w' := by
  obtain ⟨a, b, a', b', f, r, h, rfl, ⟨hi1, rfl, wa1, wc1, rfl, hw1⟩, ⟨hi2, rfl, wa2, wc2, rfl, hw2⟩, h3, h4, h5, h6, h7⟩ := hd
  have H1 := Lib.hid hw1
  have H2 := Lib.hid hw2
  have H5 := Lib.hid h5
  clear hw1 hw2 h5 h6 h7
  obtain ⟨dy, dol, sz, mk, fr, ro, ha⟩ := d
  simp only at *
  go_enter Try.func24, Try.ntmps24
  have HBa := Lib.hid (((Below.refl w.heap.size w).alloc (Nat.le_refl _) (.cells #[.int .i64 dy.1, .slice wa1 dy.2.length wc1, .int .i64 dol.1, .slice wa2 dol.2.length wc2, .int .i64 sz, .int .i64 mk, f, r, h] 28)).alloc (by simp) (.cells #[.int .i64 dy.1, .slice wa1 dy.2.length wc1, .int .i64 dol.1, .slice wa2 dol.2.length wc2] 24))
  go_wp2_with (at_builtin; (refine wpList_append_rs rfl (.tmp 7) (.tmp 9) rfl w.heap.size _ 2 [.int .i64 dy.1, .slice wa1 dy.2.length wc1, .int .i64 dol.1, .slice wa2 dol.2.length wc2] rfl (own_two _ _ _ _ _ _) _ rfl fr w H5.out HBa.out (by omega) HBa.out.size ?_; intro v1 w1 ys hh hown hgr; have HB1 := Lib.hid (HBa.out.grown hgr HBa.out.size (fun k hk => by cases hk; exact Nat.le_succ _)); have HO := Lib.hid hown; have HH := Lib.hid hh; clear hh hown hgr))
  go_ret
  refine ⟨_, rfl, ?_, HB1.out⟩
  have HF : Held w1 ([.int .i64 dy.1, .slice wa1 dy.2.length wc1, .int .i64 dol.1, .slice wa2 dol.2.length wc2] ++ ys) ([dy, dol] ++ fr) := by
    refine held_append ⟨⟨hi1, rfl, wa1, wc1, rfl, H1.out.below HB1.out⟩, ⟨hi2, rfl, wa2, wc2, rfl, H2.out.below HB1.out⟩, trivial⟩ (HH.out.below HB1.out)
  exact rs_of_own HO.out (by simp [Dmp.mem]; omega) HF (by omega)

end Go.Proofs.Ytohgkfnbjfhniaa
