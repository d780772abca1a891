/-
  From what a row lists to what the walks lean on; a row's step where the world's shape is asked too.
-/
import Derived.Test.YtohgkfnbjfhniaaDoorSw
import Derived.ProofKit
import Derived.OpenShut
import Derived.ShutString
import Derived.LaidLaws
import Derived.LaidHandle
import Derived.Lay
import Derived.Shelf.Vars
namespace Go.Proofs.YtohgkfnbjfhniaaDoor
open Go.ChangeShapes Go.WideShapes Go.ChangeAt Go.RowKit

theorem own : ownKnob Tryd.prog.godebug = none := by kernel_rfl

/-- The step of a row that lists variables, with the world's shape handed on. -/
theorem handed_shaped_and {H : Type} {enc : TypeId × Value → H} {a : Assume} {C : Checked} {os : Os} {f : FuncId} {fn : Func} {s : ChangeSpec} {conds : List PathCond} {apart fresh handsOn again : Bool} {X : World → Array Value → Prop}
    (hX : ∀ (w w' : World) (args : Array Value), w.heap = w'.heap → X w args → X w' args)
    (own : ownKnob C.prog.godebug = none) (started : os.Started) (noInit : C.prog.inits.idxOf? f = none) (hfn : C.prog.funcs[f]? = some fn)
    (witness : ∃ (w : World) (tape : Tape) (i : Input), w.os = os ∧ (w.forCall tape i).Shaped C.prog ∧ i.vars = [] ∧ Input.okWide C.prog (w.forCall tape i) .any w.heap.size f i ∧
      ((s.pre enc C.prog fn conds apart (w.forCall tape i).memory i.args ∧ X (w.forCall tape i).memory i.args) ∧ sizedMet enc C.prog fn (OpenSpec.ofChange s) apart (w.forCall tape i).memory i.args) ∧ a.holds C.prog (lone (Frame.enter C.prog f i.args .normal) [] (w.forCall tape i)))
    (contract : ∀ (W : World) (base : Nat) (args : Array Value) (ds gs : List (DataW H)) (before : List MemPlace),
      (∀ (j : Nat) t v, fn.params[j]? = some t → args[j]? = some v → Value.okWide C.prog W .any base t v) →
      DataW.Whole enc C.prog fn.params.toList s.vars apart W args.toList ds gs before → X W args → W.ShapedOpen C.prog →
      Calls C.prog f args W fun e W' => ∃ v, e = .returned v ∧ s.post enc C.prog fn apart fresh handsOn again W args v W') :
    ReturnsInHanded a C os f .any (fun w args => (s.pre enc C.prog fn conds apart w args ∧ X w args) ∧ sizedMet enc C.prog fn (OpenSpec.ofChange s) apart w args) (s.post enc C.prog fn apart fresh handsOn again) := by
  refine returnsInHanded_of_calls own started noInit witness ?_
  intro w tape i _ hsh _ hok hpre _
  obtain ⟨_, _, _, fn2, hfn2, _, _, _, _, hval⟩ := hok
  obtain rfl : fn2 = fn := Option.some.inj (hfn2.symm.trans hfn)
  obtain ⟨⟨⟨ds, gs, before, hw, _⟩, hx⟩, _⟩ := hpre
  refine (contract (w.forCall tape i) w.heap.size i.args ds gs before hval (DataW.Whole.of_heap (w' := w.forCall tape i) (by rfl) hw) (hX _ _ _ (by rfl) hx) hsh).mono fun e W' ⟨v, he, hp⟩ => ?_
  subst he
  exact ChangeSpec.post_blind hp

theorem gSyn : Tryd.prog.globalNamed "strconv.ErrSyntax" = some 1 := by kernel_rfl
theorem gRan : Tryd.prog.globalNamed "strconv.ErrRange" = some 2 := by kernel_rfl
theorem tSyn : (Tryd.prog.globals[1]?).map (·.type) = some 85 := by kernel_rfl
theorem tRan : (Tryd.prog.globals[2]?).map (·.type) = some 85 := by kernel_rfl
theorem tPow : (Tryd.prog.globals[3]?).map (·.type) = some 154 := by kernel_rfl
theorem uPow : Tryd.prog.underlying 154 = some (.array 20 25) := by kernel_rfl
theorem cPow : Tryd.prog.cellsOf 154 = 20 := by kernel_rfl
theorem cU64 : Tryd.prog.cellsOf 25 = 1 := by kernel_rfl
theorem dPow : (Rows.laid_internal_strconv_uint64pow10 : DataW Unit) = Lib.tabData .u64 Lib.pow10Tab := by kernel_rfl
theorem g9 : decide (9 ≤ Tryd.prog.globals.size) = true := by kernel_rfl

/-- What the condition and the shape give the walks. -/
theorem gw_of {W : World} {d1 d2 d4 d7 : DataW Unit} {n1 n2 n4 n7 : String} (h : laidMet Tryd.prog [(n1, d1), (n2, d2), ("internal/strconv.uint64pow10", Rows.laid_internal_strconv_uint64pow10), (n4, d4), ("strconv.ErrRange", Rows.laid_strconv_ErrRange), ("strconv.ErrSyntax", Rows.laid_strconv_ErrSyntax), (n7, d7)] W)
    (hsh : W.ShapedOpen Tryd.prog) : GW W ∧ 9 ≤ W.heap.size := by
  obtain ⟨ps, ⟨_, _, _, _, _, _, _, _, _, _, ⟨_, _, _, _, _, _, _, _, _, _, ⟨g3, t3, cs3, f3, p3, q3, hg3, ht3, hv3, hd3, ⟨_, _, _, _, _, _, _, _, _, _, ⟨g5, t5, cs5, f5, p5, q5, hg5, ht5, hv5, hd5, ⟨g6, t6, cs6, f6, p6, q6, hg6, ht6, hv6, hd6, _, _⟩, _⟩, _⟩, _⟩, _⟩, _⟩, _⟩ := h
  obtain rfl := Option.some.inj (gnum.symm.trans hg3)
  obtain rfl := Option.some.inj (gRan.symm.trans hg5)
  obtain rfl := Option.some.inj (gSyn.symm.trans hg6)
  obtain rfl := Option.some.inj (tPow.symm.trans ht3)
  obtain rfl := Option.some.inj (tRan.symm.trans ht5)
  obtain rfl := Option.some.inj (tSyn.symm.trans ht6)
  refine ⟨⟨Go.Proofs.cell_of_shapedOpen_int (zero := #[.int .i64 0]) (t := 3) hsh (of_decide_eq_true (by kernel_rfl)) (by kernel_rfl) rfl (by kernel_rfl) (by kernel_rfl) Tryd.underlying3, ?_, ?_, ?_⟩, ?_⟩
  · obtain ⟨_, u, v, e, _⟩ := iface_of_trod Tryd.underlying85 hd6
    have hc := World.var?_cell hg6 hv6 0
    rw [Array.eq_one_of_toList e] at hc
    exact ⟨.iface u v, by simpa using hc, .inr ⟨u, v, rfl⟩⟩
  · obtain ⟨_, u, v, e, _⟩ := iface_of_trod Tryd.underlying85 hd5
    have hc := World.var?_cell hg5 hv5 0
    rw [Array.eq_one_of_toList e] at hc
    exact ⟨.iface u v, by simpa using hc, .inr ⟨u, v, rfl⟩⟩
  · rw [dPow] at hd3
    unfold Lib.TabIs
    rw [hv3, ← Lib.cells_of_tab uPow Tryd.underlying25 cU64 cPow hd3]
  · obtain ⟨zero, t, hz⟩ : ∃ zero t, ((begin Tryd.prog (fun _ _ => 0) default).world.heap[8]?).bind Obj.row? = some (zero, t) := by
      have h : (((begin Tryd.prog (fun _ _ => 0) default).world.heap[8]?).bind Obj.row?).isSome = true := by kernel_rfl
      obtain ⟨x, hx⟩ := Option.isSome_iff_exists.1 h
      exact ⟨x.1, x.2, hx⟩
    obtain ⟨cs, hh, _⟩ := hsh.1 8 zero t (by have := of_decide_eq_true g9; omega) hz
    obtain ⟨hlt, _⟩ := Array.getElem?_eq_some_iff.1 hh
    omega

end Go.Proofs.YtohgkfnbjfhniaaDoor
