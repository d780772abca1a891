/-
  No cell of these rows narrows 'for every input' (looked for: loops, veiled, ifaces, maps, wideKeys, modest, calm, conditions, laid).
  DERIVED. THE GIVEN ROWS OF THIS SEAT. 3 by the template 'for every input the law returns true; each argument reads behind the call as it read before'; 0 by the template 'total and deterministic' (their statements: YtlmpmjhanpkcnaaGreatTotals.lean).
  GIVEN WITH THE SEED: the statements are not yours to turn. If you find one false, say at which input.
  Laid BY PROGRAM, IN A SANDBOX (cutbox-rows.mjs): the forced cells as the released guide's own fill.sh prints them over the translation 6638ed406396de42… (all of the seat's roots in one cut). By AI agents, Wed Nov 11 2026. No macro, syntax, notation, axiom, sorry.
-/
import Derived.Test.YtlmpmjhanpkcnaaGreatChecked
import GoSem.Claim
import GoSem.ClaimJoined
import GoSem.ClaimMapViews
import Derived.JoinedTies
import Derived.KernelRfl
namespace Go.Proofs.YtlmpmjhanpkcnaaGreat
/- THE CELL 'sum', in the pinned program and in every row, IS THE sha256 OF THE DUMP (.gsa) THAT YtlmpmjhanpkcnaaGreatProg.lean LOADS. Nothing in Lean hashes anything: it is a label: what it is worth is what the hold of that sum in a sandbox is worth. -/
noncomputable def Tryz.pinned : Pinned := { name := "ytlmpmjhanpkcnaagreat", sum := "6638ed406396de42b8475b2eaca953adf430a2ed47ec26c341f216e97c0d1011", checked := Tryz.checked }
namespace Rows
def none {H : Type} : Left H := { results := [], args := [] }

/-- 'beehivelaw13.CollectMajor': WHATEVER THE INPUT: true; the input reads as it did. -/
def collectMajorSpec : ChangeSpec := { name := "collectMajor", fn := fun _ => fun
  | [d1, d2, d3] => { results := [.lit (.bool true)], args := [d1, d2, d3] }
  | _ => none }
def collectMajorRow : OpenClaim := { program := "ytlmpmjhanpkcnaagreat", sum := "6638ed406396de42b8475b2eaca953adf430a2ed47ec26c341f216e97c0d1011", func := "beehive/beehivelaw13.CollectMajor", spec := "collectMajor", inPlace := ["math.Float64frombits"], unfollowed := true, recurses := true, plainKeys := false, apart := false }
def CollectMajorSaid : Prop := collectMajorRow.holds Tryz.pinned (OpenSpec.ofChange collectMajorSpec)

/-- ITS FALSE NEIGHBOUR: 'it returns false'. Refute it at one input. -/
def collectMajorWrong : ChangeSpec := { name := "collectMajor", fn := fun _ => fun
  | [d1, d2, d3] => { results := [.lit (.bool false)], args := [d1, d2, d3] }
  | _ => none }
def CollectMajorWrongFalsely : Prop := collectMajorRow.holds Tryz.pinned (OpenSpec.ofChange collectMajorWrong)

/-- 'beehivelaw13.CollectWrong': WHATEVER THE INPUT: true; the input reads as it did. -/
def collectWrongSpec : ChangeSpec := { name := "collectWrong", fn := fun _ => fun
  | [d1, d2] => { results := [.lit (.bool true)], args := [d1, d2] }
  | _ => none }
def collectWrongRow : OpenClaim := { program := "ytlmpmjhanpkcnaagreat", sum := "6638ed406396de42b8475b2eaca953adf430a2ed47ec26c341f216e97c0d1011", func := "beehive/beehivelaw13.CollectWrong", spec := "collectWrong", inPlace := ["math.Float64frombits"], unfollowed := true, recurses := true, plainKeys := false, apart := false }
def CollectWrongSaid : Prop := collectWrongRow.holds Tryz.pinned (OpenSpec.ofChange collectWrongSpec)

/-- ITS FALSE NEIGHBOUR: 'it returns false'. Refute it at one input. -/
def collectWrongWrong : ChangeSpec := { name := "collectWrong", fn := fun _ => fun
  | [d1, d2] => { results := [.lit (.bool false)], args := [d1, d2] }
  | _ => none }
def CollectWrongWrongFalsely : Prop := collectWrongRow.holds Tryz.pinned (OpenSpec.ofChange collectWrongWrong)

/-- 'beehivelaw13.CollectShares': WHATEVER THE INPUT: true; the input reads as it did. -/
def collectSharesSpec : ChangeSpec := { name := "collectShares", fn := fun _ => fun
  | [d1, d2] => { results := [.lit (.bool true)], args := [d1, d2] }
  | _ => none }
def collectSharesRow : OpenClaim := { program := "ytlmpmjhanpkcnaagreat", sum := "6638ed406396de42b8475b2eaca953adf430a2ed47ec26c341f216e97c0d1011", func := "beehive/beehivelaw13.CollectShares", spec := "collectShares", inPlace := ["math.Float64frombits"], unfollowed := true, recurses := true, plainKeys := false, apart := false }
def CollectSharesSaid : Prop := collectSharesRow.holds Tryz.pinned (OpenSpec.ofChange collectSharesSpec)

/-- ITS FALSE NEIGHBOUR: 'it returns false'. Refute it at one input. -/
def collectSharesWrong : ChangeSpec := { name := "collectShares", fn := fun _ => fun
  | [d1, d2] => { results := [.lit (.bool false)], args := [d1, d2] }
  | _ => none }
def CollectSharesWrongFalsely : Prop := collectSharesRow.holds Tryz.pinned (OpenSpec.ofChange collectSharesWrong)

/- THE SECOND FORM. 'bulk': how many values and letters a reading holds, each counted each time it is reached (what is shared counts as often as it is met; a slice's spare places count too). A statement '..UptoSaid' is the law's where the arguments, and the package variables that the reading takes, are together of bulk at most 1048576: NARROWER than '..Said'. Prove '..Said' where nothing that the law and all that it calls make is longer than what came in: it says more and counts as full. Else prove '..UptoSaid'. A law counts once. -/
mutual
def uptoBulk {H : Type} : DataW H → Nat
  | .lit (.string bytes) => bytes.length + 1
  | .lit _ => 1
  | .nil => 1
  | .ptr d => uptoBulk d + 1
  | .slice elems spare => uptoBulkAll elems + uptoBulkAll spare + 1
  | .agg parts => uptoBulkAll parts + 1
  | .iface _ d => uptoBulk d + 1
  | .map entries => uptoBulkEntries entries + 1
  | .held _ => 1
def uptoBulkAll {H : Type} : List (DataW H) → Nat
  | [] => 0
  | d :: r => uptoBulk d + uptoBulkAll r
def uptoBulkEntries {H : Type} : List (Lit × DataW H) → Nat
  | [] => 0
  | x :: r => uptoBulkEntry x + uptoBulkEntries r
def uptoBulkEntry {H : Type} : Lit × DataW H → Nat
  | (.string bytes, d) => bytes.length + uptoBulk d + 1
  | (_, d) => uptoBulk d + 1
 end
def uptoSmall : (H : Type) → List (DataW H) → Bool := fun _ ds => decide (uptoBulkAll ds ≤ 1048576)
def OpenSpec.upto (s : _root_.Go.ChangeSpec) : _root_.Go.OpenSpec := { _root_.Go.OpenSpec.ofChange s with cond := some uptoSmall }

/-- 'beehivelaw13.CollectMajor', WHERE WHAT IT READS IS OF BULK AT MOST 1048576: true; the input reads as it did. -/
def collectMajorUptoRow : OpenClaim := { program := "ytlmpmjhanpkcnaagreat", sum := "6638ed406396de42b8475b2eaca953adf430a2ed47ec26c341f216e97c0d1011", func := "beehive/beehivelaw13.CollectMajor", spec := "collectMajor", inPlace := ["math.Float64frombits"], unfollowed := true, recurses := true, plainKeys := false, apart := false, narrowed := true }
def CollectMajorUptoSaid : Prop := collectMajorUptoRow.holds Tryz.pinned (OpenSpec.upto collectMajorSpec)

/-- 'beehivelaw13.CollectWrong', WHERE WHAT IT READS IS OF BULK AT MOST 1048576: true; the input reads as it did. -/
def collectWrongUptoRow : OpenClaim := { program := "ytlmpmjhanpkcnaagreat", sum := "6638ed406396de42b8475b2eaca953adf430a2ed47ec26c341f216e97c0d1011", func := "beehive/beehivelaw13.CollectWrong", spec := "collectWrong", inPlace := ["math.Float64frombits"], unfollowed := true, recurses := true, plainKeys := false, apart := false, narrowed := true }
def CollectWrongUptoSaid : Prop := collectWrongUptoRow.holds Tryz.pinned (OpenSpec.upto collectWrongSpec)

/-- 'beehivelaw13.CollectShares', WHERE WHAT IT READS IS OF BULK AT MOST 1048576: true; the input reads as it did. -/
def collectSharesUptoRow : OpenClaim := { program := "ytlmpmjhanpkcnaagreat", sum := "6638ed406396de42b8475b2eaca953adf430a2ed47ec26c341f216e97c0d1011", func := "beehive/beehivelaw13.CollectShares", spec := "collectShares", inPlace := ["math.Float64frombits"], unfollowed := true, recurses := true, plainKeys := false, apart := false, narrowed := true }
def CollectSharesUptoSaid : Prop := collectSharesUptoRow.holds Tryz.pinned (OpenSpec.upto collectSharesSpec)

end Rows
end Go.Proofs.YtlmpmjhanpkcnaaGreat
