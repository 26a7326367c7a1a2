/-
  No cell of these rows narrows 'for every input' (looked for: loops, veiled, ifaces, maps, wideKeys, modest, calm, conditions, laid).
  DERIVED. THE GIVEN ROWS OF THIS SEAT. 6 by the template 'for every input the law returns true; each argument reads behind the call as it read before'; 0 by the template 'total and deterministic' (their statements: YtonnhdffjbpgnaaTotals.lean).
  GIVEN WITH THE SEED: the statements are not yours to turn. If you find one false, say at which input.
  Laid BY PROGRAM, IN A SANDBOX (cutbox-rows.mjs): the forced cells as the released guide's own fill.sh prints them over the translation 60cb80ab8f4d4722… (all of the seat's roots in one cut). By AI agents, Wed Nov 11 2026. No macro, syntax, notation, axiom, sorry.
-/
import Derived.Test.YtonnhdffjbpgnaaChecked
import GoSem.Claim
import GoSem.ClaimJoined
import GoSem.ClaimMapViews
import Derived.JoinedTies
import Derived.KernelRfl
namespace Go.Proofs.Ytonnhdffjbpgnaa
/- THE CELL 'sum', in the pinned program and in every row, IS THE sha256 OF THE DUMP (.gsa) THAT YtonnhdffjbpgnaaProg.lean LOADS. Nothing in Lean hashes anything: it is a label: what it is worth is what the hold of that sum in a sandbox is worth. -/
noncomputable def Try.pinned : Pinned := { name := "ytonnhdffjbpgnaa", sum := "60cb80ab8f4d4722b0c3b002a1e290379d37618f63cd142196c802950204acae", checked := Try.checked }
namespace Rows
def none {H : Type} : Left H := { results := [], args := [] }

/-- 'supercargolaw17.CustodyApart': WHATEVER THE INPUT: true; the input reads as it did. -/
def custodyApartSpec : ChangeSpec := { name := "custodyApart", fn := fun _ => fun
  | [d1, d2, d3] => { results := [.lit (.bool true)], args := [d1, d2, d3] }
  | _ => none }
def custodyApartRow : OpenClaim := { program := "ytonnhdffjbpgnaa", sum := "60cb80ab8f4d4722b0c3b002a1e290379d37618f63cd142196c802950204acae", func := "supercargo/supercargolaw17.CustodyApart", spec := "custodyApart", unfollowed := true, recurses := true, apart := false }
def CustodyApartSaid : Prop := custodyApartRow.holds Try.pinned (OpenSpec.ofChange custodyApartSpec)

/-- ITS FALSE NEIGHBOUR: 'it returns false'. Refute it at one input. -/
def custodyApartWrong : ChangeSpec := { name := "custodyApart", fn := fun _ => fun
  | [d1, d2, d3] => { results := [.lit (.bool false)], args := [d1, d2, d3] }
  | _ => none }
def CustodyApartWrongFalsely : Prop := custodyApartRow.holds Try.pinned (OpenSpec.ofChange custodyApartWrong)

/-- 'supercargolaw17.CustodyChecks': WHATEVER THE INPUT: true; the input reads as it did. -/
def custodyChecksSpec : ChangeSpec := { name := "custodyChecks", fn := fun _ => fun
  | [d] => { results := [.lit (.bool true)], args := [d] }
  | _ => none }
def custodyChecksRow : OpenClaim := { program := "ytonnhdffjbpgnaa", sum := "60cb80ab8f4d4722b0c3b002a1e290379d37618f63cd142196c802950204acae", func := "supercargo/supercargolaw17.CustodyChecks", spec := "custodyChecks", unfollowed := true, recurses := true, apart := false }
def CustodyChecksSaid : Prop := custodyChecksRow.holds Try.pinned (OpenSpec.ofChange custodyChecksSpec)

/-- ITS FALSE NEIGHBOUR: 'it returns false'. Refute it at one input. -/
def custodyChecksWrong : ChangeSpec := { name := "custodyChecks", fn := fun _ => fun
  | [d] => { results := [.lit (.bool false)], args := [d] }
  | _ => none }
def CustodyChecksWrongFalsely : Prop := custodyChecksRow.holds Try.pinned (OpenSpec.ofChange custodyChecksWrong)

/-- 'supercargolaw17.CustodyHistories': WHATEVER THE INPUT: true; the input reads as it did. -/
def custodyHistoriesSpec : ChangeSpec := { name := "custodyHistories", fn := fun _ => fun
  | [d1, d2, d3] => { results := [.lit (.bool true)], args := [d1, d2, d3] }
  | _ => none }
def custodyHistoriesRow : OpenClaim := { program := "ytonnhdffjbpgnaa", sum := "60cb80ab8f4d4722b0c3b002a1e290379d37618f63cd142196c802950204acae", func := "supercargo/supercargolaw17.CustodyHistories", spec := "custodyHistories", unfollowed := true, recurses := true, apart := false }
def CustodyHistoriesSaid : Prop := custodyHistoriesRow.holds Try.pinned (OpenSpec.ofChange custodyHistoriesSpec)

/-- ITS FALSE NEIGHBOUR: 'it returns false'. Refute it at one input. -/
def custodyHistoriesWrong : ChangeSpec := { name := "custodyHistories", fn := fun _ => fun
  | [d1, d2, d3] => { results := [.lit (.bool false)], args := [d1, d2, d3] }
  | _ => none }
def CustodyHistoriesWrongFalsely : Prop := custodyHistoriesRow.holds Try.pinned (OpenSpec.ofChange custodyHistoriesWrong)

/-- 'supercargolaw17.CustodyCopies': WHATEVER THE INPUT: true; the input reads as it did. -/
def custodyCopiesSpec : ChangeSpec := { name := "custodyCopies", fn := fun _ => fun
  | [d1, d2, d3] => { results := [.lit (.bool true)], args := [d1, d2, d3] }
  | _ => none }
def custodyCopiesRow : OpenClaim := { program := "ytonnhdffjbpgnaa", sum := "60cb80ab8f4d4722b0c3b002a1e290379d37618f63cd142196c802950204acae", func := "supercargo/supercargolaw17.CustodyCopies", spec := "custodyCopies", unfollowed := true, recurses := true, apart := false }
def CustodyCopiesSaid : Prop := custodyCopiesRow.holds Try.pinned (OpenSpec.ofChange custodyCopiesSpec)

/-- ITS FALSE NEIGHBOUR: 'it returns false'. Refute it at one input. -/
def custodyCopiesWrong : ChangeSpec := { name := "custodyCopies", fn := fun _ => fun
  | [d1, d2, d3] => { results := [.lit (.bool false)], args := [d1, d2, d3] }
  | _ => none }
def CustodyCopiesWrongFalsely : Prop := custodyCopiesRow.holds Try.pinned (OpenSpec.ofChange custodyCopiesWrong)

/-- 'supercargolaw17.CustodyOnce': WHATEVER THE INPUT: true; the input reads as it did. -/
def custodyOnceSpec : ChangeSpec := { name := "custodyOnce", fn := fun _ => fun
  | [d] => { results := [.lit (.bool true)], args := [d] }
  | _ => none }
def custodyOnceRow : OpenClaim := { program := "ytonnhdffjbpgnaa", sum := "60cb80ab8f4d4722b0c3b002a1e290379d37618f63cd142196c802950204acae", func := "supercargo/supercargolaw17.CustodyOnce", spec := "custodyOnce", unfollowed := true, recurses := true, apart := false }
def CustodyOnceSaid : Prop := custodyOnceRow.holds Try.pinned (OpenSpec.ofChange custodyOnceSpec)

/-- ITS FALSE NEIGHBOUR: 'it returns false'. Refute it at one input. -/
def custodyOnceWrong : ChangeSpec := { name := "custodyOnce", fn := fun _ => fun
  | [d] => { results := [.lit (.bool false)], args := [d] }
  | _ => none }
def CustodyOnceWrongFalsely : Prop := custodyOnceRow.holds Try.pinned (OpenSpec.ofChange custodyOnceWrong)

/-- 'supercargolaw17.CustodyPlays': WHATEVER THE INPUT: true; the input reads as it did. -/
def custodyPlaysSpec : ChangeSpec := { name := "custodyPlays", fn := fun _ => fun
  | [d1, d2, d3, d4] => { results := [.lit (.bool true)], args := [d1, d2, d3, d4] }
  | _ => none }
def custodyPlaysRow : OpenClaim := { program := "ytonnhdffjbpgnaa", sum := "60cb80ab8f4d4722b0c3b002a1e290379d37618f63cd142196c802950204acae", func := "supercargo/supercargolaw17.CustodyPlays", spec := "custodyPlays", unfollowed := true, recurses := true, apart := false }
def CustodyPlaysSaid : Prop := custodyPlaysRow.holds Try.pinned (OpenSpec.ofChange custodyPlaysSpec)

/-- ITS FALSE NEIGHBOUR: 'it returns false'. Refute it at one input. -/
def custodyPlaysWrong : ChangeSpec := { name := "custodyPlays", fn := fun _ => fun
  | [d1, d2, d3, d4] => { results := [.lit (.bool false)], args := [d1, d2, d3, d4] }
  | _ => none }
def CustodyPlaysWrongFalsely : Prop := custodyPlaysRow.holds Try.pinned (OpenSpec.ofChange custodyPlaysWrong)

/- THE SECOND FORM. 'bulk': how many values and letters a reading holds, each counted each time it is reached (what is shared counts as often as it is met; a slice's spare places count too). A statement '..UptoSaid' is the law's where the arguments, and the package variables that the reading takes, are together of bulk at most 1048576: NARROWER than '..Said'. Prove '..Said' where nothing that the law and all that it calls make is longer than what came in: it says more and counts as full. Else prove '..UptoSaid'. A law counts once. -/
mutual
def uptoBulk {H : Type} : DataW H → Nat
  | .lit (.string bytes) => bytes.length + 1
  | .lit _ => 1
  | .nil => 1
  | .ptr d => uptoBulk d + 1
  | .slice elems spare => uptoBulkAll elems + uptoBulkAll spare + 1
  | .agg parts => uptoBulkAll parts + 1
  | .iface _ d => uptoBulk d + 1
  | .map entries => uptoBulkEntries entries + 1
  | .held _ => 1
def uptoBulkAll {H : Type} : List (DataW H) → Nat
  | [] => 0
  | d :: r => uptoBulk d + uptoBulkAll r
def uptoBulkEntries {H : Type} : List (Lit × DataW H) → Nat
  | [] => 0
  | x :: r => uptoBulkEntry x + uptoBulkEntries r
def uptoBulkEntry {H : Type} : Lit × DataW H → Nat
  | (.string bytes, d) => bytes.length + uptoBulk d + 1
  | (_, d) => uptoBulk d + 1
 end
def uptoSmall : (H : Type) → List (DataW H) → Bool := fun _ ds => decide (uptoBulkAll ds ≤ 1048576)
def OpenSpec.upto (s : _root_.Go.ChangeSpec) : _root_.Go.OpenSpec := { _root_.Go.OpenSpec.ofChange s with cond := some uptoSmall }

/-- 'supercargolaw17.CustodyApart', WHERE WHAT IT READS IS OF BULK AT MOST 1048576: true; the input reads as it did. -/
def custodyApartUptoRow : OpenClaim := { program := "ytonnhdffjbpgnaa", sum := "60cb80ab8f4d4722b0c3b002a1e290379d37618f63cd142196c802950204acae", func := "supercargo/supercargolaw17.CustodyApart", spec := "custodyApart", unfollowed := true, recurses := true, apart := false, narrowed := true }
def CustodyApartUptoSaid : Prop := custodyApartUptoRow.holds Try.pinned (OpenSpec.upto custodyApartSpec)

/-- 'supercargolaw17.CustodyChecks', WHERE WHAT IT READS IS OF BULK AT MOST 1048576: true; the input reads as it did. -/
def custodyChecksUptoRow : OpenClaim := { program := "ytonnhdffjbpgnaa", sum := "60cb80ab8f4d4722b0c3b002a1e290379d37618f63cd142196c802950204acae", func := "supercargo/supercargolaw17.CustodyChecks", spec := "custodyChecks", unfollowed := true, recurses := true, apart := false, narrowed := true }
def CustodyChecksUptoSaid : Prop := custodyChecksUptoRow.holds Try.pinned (OpenSpec.upto custodyChecksSpec)

/-- 'supercargolaw17.CustodyHistories', WHERE WHAT IT READS IS OF BULK AT MOST 1048576: true; the input reads as it did. -/
def custodyHistoriesUptoRow : OpenClaim := { program := "ytonnhdffjbpgnaa", sum := "60cb80ab8f4d4722b0c3b002a1e290379d37618f63cd142196c802950204acae", func := "supercargo/supercargolaw17.CustodyHistories", spec := "custodyHistories", unfollowed := true, recurses := true, apart := false, narrowed := true }
def CustodyHistoriesUptoSaid : Prop := custodyHistoriesUptoRow.holds Try.pinned (OpenSpec.upto custodyHistoriesSpec)

/-- 'supercargolaw17.CustodyCopies', WHERE WHAT IT READS IS OF BULK AT MOST 1048576: true; the input reads as it did. -/
def custodyCopiesUptoRow : OpenClaim := { program := "ytonnhdffjbpgnaa", sum := "60cb80ab8f4d4722b0c3b002a1e290379d37618f63cd142196c802950204acae", func := "supercargo/supercargolaw17.CustodyCopies", spec := "custodyCopies", unfollowed := true, recurses := true, apart := false, narrowed := true }
def CustodyCopiesUptoSaid : Prop := custodyCopiesUptoRow.holds Try.pinned (OpenSpec.upto custodyCopiesSpec)

/-- 'supercargolaw17.CustodyOnce', WHERE WHAT IT READS IS OF BULK AT MOST 1048576: true; the input reads as it did. -/
def custodyOnceUptoRow : OpenClaim := { program := "ytonnhdffjbpgnaa", sum := "60cb80ab8f4d4722b0c3b002a1e290379d37618f63cd142196c802950204acae", func := "supercargo/supercargolaw17.CustodyOnce", spec := "custodyOnce", unfollowed := true, recurses := true, apart := false, narrowed := true }
def CustodyOnceUptoSaid : Prop := custodyOnceUptoRow.holds Try.pinned (OpenSpec.upto custodyOnceSpec)

/-- 'supercargolaw17.CustodyPlays', WHERE WHAT IT READS IS OF BULK AT MOST 1048576: true; the input reads as it did. -/
def custodyPlaysUptoRow : OpenClaim := { program := "ytonnhdffjbpgnaa", sum := "60cb80ab8f4d4722b0c3b002a1e290379d37618f63cd142196c802950204acae", func := "supercargo/supercargolaw17.CustodyPlays", spec := "custodyPlays", unfollowed := true, recurses := true, apart := false, narrowed := true }
def CustodyPlaysUptoSaid : Prop := custodyPlaysUptoRow.holds Try.pinned (OpenSpec.upto custodyPlaysSpec)

end Rows
end Go.Proofs.Ytonnhdffjbpgnaa
