/-
  No cell of these rows narrows 'for every input' (looked for: loops, veiled, ifaces, maps, wideKeys, modest, calm, conditions, laid).
  DERIVED. THE GIVEN ROWS OF THIS SEAT. 3 by the template 'for every input the law returns true; each argument reads behind the call as it read before'; 0 by the template 'total and deterministic' (their statements: YtohgkfnbjfhniaaTotals.lean).
  GIVEN WITH THE SEED: the statements are not yours to turn. If you find one false, say at which input.
  Laid BY PROGRAM, IN A SANDBOX (cutbox-rows.mjs): the forced cells as the released guide's own fill.sh prints them over the translation adbf841db717151a… (all of the seat's roots in one cut). By AI agents, Wed Nov 11 2026. No macro, syntax, notation, axiom, sorry.
-/
import Derived.Test.YtohgkfnbjfhniaaChecked
import GoSem.Claim
import GoSem.ClaimJoined
import GoSem.ClaimMapViews
import Derived.JoinedTies
import Derived.KernelRfl
namespace Go.Proofs.Ytohgkfnbjfhniaa
/- THE CELL 'sum', in the pinned program and in every row, IS THE sha256 OF THE DUMP (.gsa) THAT YtohgkfnbjfhniaaProg.lean LOADS. Nothing in Lean hashes anything: it is a label: what it is worth is what the hold of that sum in a sandbox is worth. -/
noncomputable def Try.pinned : Pinned := { name := "ytohgkfnbjfhniaa", sum := "adbf841db717151af86a55a1d84ba66d2e7bf61ba48129bac275a4d71d3aead9", checked := Try.checked }
namespace Rows
def none {H : Type} : Left H := { results := [], args := [] }

/-- 'beehivelaw12.LookRoots': WHATEVER THE INPUT: true; the input reads as it did. -/
def lookRootsSpec : ChangeSpec := { name := "lookRoots", fn := fun _ => fun
  | [d1, d2, d3] => { results := [.lit (.bool true)], args := [d1, d2, d3] }
  | _ => none }
def lookRootsRow : OpenClaim := { program := "ytohgkfnbjfhniaa", sum := "adbf841db717151af86a55a1d84ba66d2e7bf61ba48129bac275a4d71d3aead9", func := "beehive/beehivelaw12.LookRoots", spec := "lookRoots", inPlace := ["math.Float64frombits"], unfollowed := true, recurses := true, plainKeys := false, apart := false }
def LookRootsSaid : Prop := lookRootsRow.holds Try.pinned (OpenSpec.ofChange lookRootsSpec)

/-- ITS FALSE NEIGHBOUR: 'it returns false'. Refute it at one input. -/
def lookRootsWrong : ChangeSpec := { name := "lookRoots", fn := fun _ => fun
  | [d1, d2, d3] => { results := [.lit (.bool false)], args := [d1, d2, d3] }
  | _ => none }
def LookRootsWrongFalsely : Prop := lookRootsRow.holds Try.pinned (OpenSpec.ofChange lookRootsWrong)

/-- 'beehivelaw12.LookMoves': WHATEVER THE INPUT: true; the input reads as it did. -/
def lookMovesSpec : ChangeSpec := { name := "lookMoves", fn := fun _ => fun
  | [d1, d2] => { results := [.lit (.bool true)], args := [d1, d2] }
  | _ => none }
def lookMovesRow : OpenClaim := { program := "ytohgkfnbjfhniaa", sum := "adbf841db717151af86a55a1d84ba66d2e7bf61ba48129bac275a4d71d3aead9", func := "beehive/beehivelaw12.LookMoves", spec := "lookMoves", inPlace := ["math.Float64frombits"], unfollowed := true, recurses := true, plainKeys := false, apart := false }
def LookMovesSaid : Prop := lookMovesRow.holds Try.pinned (OpenSpec.ofChange lookMovesSpec)

/-- ITS FALSE NEIGHBOUR: 'it returns false'. Refute it at one input. -/
def lookMovesWrong : ChangeSpec := { name := "lookMoves", fn := fun _ => fun
  | [d1, d2] => { results := [.lit (.bool false)], args := [d1, d2] }
  | _ => none }
def LookMovesWrongFalsely : Prop := lookMovesRow.holds Try.pinned (OpenSpec.ofChange lookMovesWrong)

/-- 'beehivelaw12.LookParts': WHATEVER THE INPUT: true; the input reads as it did. -/
def lookPartsSpec : ChangeSpec := { name := "lookParts", fn := fun _ => fun
  | [d1, d2, d3] => { results := [.lit (.bool true)], args := [d1, d2, d3] }
  | _ => none }
def lookPartsRow : OpenClaim := { program := "ytohgkfnbjfhniaa", sum := "adbf841db717151af86a55a1d84ba66d2e7bf61ba48129bac275a4d71d3aead9", func := "beehive/beehivelaw12.LookParts", spec := "lookParts", inPlace := ["math.Float64frombits"], unfollowed := true, recurses := true, plainKeys := false, apart := false }
def LookPartsSaid : Prop := lookPartsRow.holds Try.pinned (OpenSpec.ofChange lookPartsSpec)

/-- ITS FALSE NEIGHBOUR: 'it returns false'. Refute it at one input. -/
def lookPartsWrong : ChangeSpec := { name := "lookParts", fn := fun _ => fun
  | [d1, d2, d3] => { results := [.lit (.bool false)], args := [d1, d2, d3] }
  | _ => none }
def LookPartsWrongFalsely : Prop := lookPartsRow.holds Try.pinned (OpenSpec.ofChange lookPartsWrong)

/- THE SECOND FORM. 'bulk': how many values and letters a reading holds, each counted each time it is reached (what is shared counts as often as it is met; a slice's spare places count too). A statement '..UptoSaid' is the law's where the arguments, and the package variables that the reading takes, are together of bulk at most 1048576: NARROWER than '..Said'. Prove '..Said' where nothing that the law and all that it calls make is longer than what came in: it says more and counts as full. Else prove '..UptoSaid'. A law counts once. -/
mutual
def uptoBulk {H : Type} : DataW H → Nat
  | .lit (.string bytes) => bytes.length + 1
  | .lit _ => 1
  | .nil => 1
  | .ptr d => uptoBulk d + 1
  | .slice elems spare => uptoBulkAll elems + uptoBulkAll spare + 1
  | .agg parts => uptoBulkAll parts + 1
  | .iface _ d => uptoBulk d + 1
  | .map entries => uptoBulkEntries entries + 1
  | .held _ => 1
def uptoBulkAll {H : Type} : List (DataW H) → Nat
  | [] => 0
  | d :: r => uptoBulk d + uptoBulkAll r
def uptoBulkEntries {H : Type} : List (Lit × DataW H) → Nat
  | [] => 0
  | x :: r => uptoBulkEntry x + uptoBulkEntries r
def uptoBulkEntry {H : Type} : Lit × DataW H → Nat
  | (.string bytes, d) => bytes.length + uptoBulk d + 1
  | (_, d) => uptoBulk d + 1
 end
def uptoSmall : (H : Type) → List (DataW H) → Bool := fun _ ds => decide (uptoBulkAll ds ≤ 1048576)
def OpenSpec.upto (s : _root_.Go.ChangeSpec) : _root_.Go.OpenSpec := { _root_.Go.OpenSpec.ofChange s with cond := some uptoSmall }

/-- 'beehivelaw12.LookRoots', WHERE WHAT IT READS IS OF BULK AT MOST 1048576: true; the input reads as it did. -/
def lookRootsUptoRow : OpenClaim := { program := "ytohgkfnbjfhniaa", sum := "adbf841db717151af86a55a1d84ba66d2e7bf61ba48129bac275a4d71d3aead9", func := "beehive/beehivelaw12.LookRoots", spec := "lookRoots", inPlace := ["math.Float64frombits"], unfollowed := true, recurses := true, plainKeys := false, apart := false, narrowed := true }
def LookRootsUptoSaid : Prop := lookRootsUptoRow.holds Try.pinned (OpenSpec.upto lookRootsSpec)

/-- 'beehivelaw12.LookMoves', WHERE WHAT IT READS IS OF BULK AT MOST 1048576: true; the input reads as it did. -/
def lookMovesUptoRow : OpenClaim := { program := "ytohgkfnbjfhniaa", sum := "adbf841db717151af86a55a1d84ba66d2e7bf61ba48129bac275a4d71d3aead9", func := "beehive/beehivelaw12.LookMoves", spec := "lookMoves", inPlace := ["math.Float64frombits"], unfollowed := true, recurses := true, plainKeys := false, apart := false, narrowed := true }
def LookMovesUptoSaid : Prop := lookMovesUptoRow.holds Try.pinned (OpenSpec.upto lookMovesSpec)

/-- 'beehivelaw12.LookParts', WHERE WHAT IT READS IS OF BULK AT MOST 1048576: true; the input reads as it did. -/
def lookPartsUptoRow : OpenClaim := { program := "ytohgkfnbjfhniaa", sum := "adbf841db717151af86a55a1d84ba66d2e7bf61ba48129bac275a4d71d3aead9", func := "beehive/beehivelaw12.LookParts", spec := "lookParts", inPlace := ["math.Float64frombits"], unfollowed := true, recurses := true, plainKeys := false, apart := false, narrowed := true }
def LookPartsUptoSaid : Prop := lookPartsUptoRow.holds Try.pinned (OpenSpec.upto lookPartsSpec)

end Rows
end Go.Proofs.Ytohgkfnbjfhniaa
