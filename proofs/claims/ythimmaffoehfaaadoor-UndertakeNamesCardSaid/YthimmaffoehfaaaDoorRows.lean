/-
  NARROWER THAN 'FOR EVERY INPUT', by the rows' own cells (each row's printed sentence says how): UndertakeNames: laid.
  DERIVED. THE GIVEN ROWS OF THIS SEAT. 1 by the template 'for every input the law returns true; each argument reads behind the call as it read before'; 0 by the template 'total and deterministic' (their statements: YthimmaffoehfaaaDoorTotals.lean).
  GIVEN WITH THE SEED: the statements are not yours to turn. If you find one false, say at which input.
  Laid BY PROGRAM, IN A SANDBOX (cutbox-rows.mjs): the forced cells as the released guide's own fill.sh prints them over the translation d92efb1c015a1b6f… (all of the seat's roots in one cut). By AI agents, Wed Nov 11 2026. No macro, syntax, notation, axiom, sorry.
-/
import Derived.Test.YthimmaffoehfaaaDoorChecked
import GoSem.Claim
import GoSem.ClaimJoined
import GoSem.ClaimMapViews
import Derived.JoinedTies
import Derived.KernelRfl
namespace Go.Proofs.YthimmaffoehfaaaDoor
/- THE CELL 'sum', in the pinned program and in every row, IS THE sha256 OF THE DUMP (.gsa) THAT YthimmaffoehfaaaDoorProg.lean LOADS. Nothing in Lean hashes anything: it is a label: what it is worth is what the hold of that sum in a sandbox is worth. -/
noncomputable def Tryd.pinned : Pinned := { name := "ythimmaffoehfaaadoor", sum := "d92efb1c015a1b6fef3e068f2c0d8186fd6e41e42b6e03ebea4e38aec3cb8bd7", checked := Tryd.checked }
namespace Rows
def none {H : Type} : Left H := { results := [], args := [] }

/- WHAT THE LISTED PACKAGE-LEVEL VARIABLES READ AS WHEN THE CALL BEGINS. Each datum BY PROGRAM (the guide's laid-datum.mjs) off the statement by which the dump's own 'gosem.cut.vars' lays the variable. In a bare row this is a premise. The card (YthimmaffoehfaaaDoorCards.lean) ties it to the program's text. -/
def laid_supercargo_undertake_names {H : Type} : DataW H := .agg [.lit (.string [105, 115, 115, 117, 101, 100]), .lit (.string [97, 100, 118, 105, 115, 101, 100]), .lit (.string [112, 114, 101, 115, 101, 110, 116, 101, 100]), .lit (.string [114, 101, 102, 117, 115, 101, 100]), .lit (.string [104, 111, 110, 111, 117, 114, 101, 100]), .lit (.string [112, 97, 105, 100]), .lit (.string [114, 101, 105, 109, 98, 117, 114, 115, 101, 100]), .lit (.string [101, 120, 112, 105, 114, 101, 100])]

/-- 'supercargolaw34.UndertakeNames': WHATEVER THE INPUT: true; the input reads as it did. -/
def undertakeNamesSpec : ChangeSpec := { name := "undertakeNames", fn := fun _ => fun
  | [d] => { results := [.lit (.bool true)], args := [d] }
  | _ => none }
def undertakeNamesRow : OpenClaim := { program := "ythimmaffoehfaaadoor", sum := "d92efb1c015a1b6fef3e068f2c0d8186fd6e41e42b6e03ebea4e38aec3cb8bd7", func := "supercargo/supercargolaw34.UndertakeNames", spec := "undertakeNames", unfollowed := true, recurses := true, named := ["supercargo/undertake.names"], apart := false, laid := [("supercargo/undertake.names", laid_supercargo_undertake_names)] }
def UndertakeNamesSaid : Prop := undertakeNamesRow.holds Tryd.pinned (OpenSpec.ofChange undertakeNamesSpec)

/-- ITS FALSE NEIGHBOUR: 'it returns false'. Refute it at one input. -/
def undertakeNamesWrong : ChangeSpec := { name := "undertakeNames", fn := fun _ => fun
  | [d] => { results := [.lit (.bool false)], args := [d] }
  | _ => none }
def UndertakeNamesWrongFalsely : Prop := undertakeNamesRow.holds Tryd.pinned (OpenSpec.ofChange undertakeNamesWrong)

/- THE SECOND FORM. 'bulk': how many values and letters a reading holds, each counted each time it is reached (what is shared counts as often as it is met; a slice's spare places count too). A statement '..UptoSaid' is the law's where the arguments, and the package variables that the reading takes, are together of bulk at most 1048576: NARROWER than '..Said'. Prove '..Said' where nothing that the law and all that it calls make is longer than what came in: it says more and counts as full. Else prove '..UptoSaid'. A law counts once. -/
mutual
def uptoBulk {H : Type} : DataW H → Nat
  | .lit (.string bytes) => bytes.length + 1
  | .lit _ => 1
  | .nil => 1
  | .ptr d => uptoBulk d + 1
  | .slice elems spare => uptoBulkAll elems + uptoBulkAll spare + 1
  | .agg parts => uptoBulkAll parts + 1
  | .iface _ d => uptoBulk d + 1
  | .map entries => uptoBulkEntries entries + 1
  | .held _ => 1
def uptoBulkAll {H : Type} : List (DataW H) → Nat
  | [] => 0
  | d :: r => uptoBulk d + uptoBulkAll r
def uptoBulkEntries {H : Type} : List (Lit × DataW H) → Nat
  | [] => 0
  | x :: r => uptoBulkEntry x + uptoBulkEntries r
def uptoBulkEntry {H : Type} : Lit × DataW H → Nat
  | (.string bytes, d) => bytes.length + uptoBulk d + 1
  | (_, d) => uptoBulk d + 1
 end
def uptoSmall : (H : Type) → List (DataW H) → Bool := fun _ ds => decide (uptoBulkAll ds ≤ 1048576)
def OpenSpec.upto (s : _root_.Go.ChangeSpec) : _root_.Go.OpenSpec := { _root_.Go.OpenSpec.ofChange s with cond := some uptoSmall }

/-- 'supercargolaw34.UndertakeNames', WHERE WHAT IT READS IS OF BULK AT MOST 1048576: true; the input reads as it did. -/
def undertakeNamesUptoRow : OpenClaim := { program := "ythimmaffoehfaaadoor", sum := "d92efb1c015a1b6fef3e068f2c0d8186fd6e41e42b6e03ebea4e38aec3cb8bd7", func := "supercargo/supercargolaw34.UndertakeNames", spec := "undertakeNames", unfollowed := true, recurses := true, named := ["supercargo/undertake.names"], apart := false, laid := [("supercargo/undertake.names", laid_supercargo_undertake_names)], narrowed := true }
def UndertakeNamesUptoSaid : Prop := undertakeNamesUptoRow.holds Tryd.pinned (OpenSpec.upto undertakeNamesSpec)

end Rows
end Go.Proofs.YthimmaffoehfaaaDoor
