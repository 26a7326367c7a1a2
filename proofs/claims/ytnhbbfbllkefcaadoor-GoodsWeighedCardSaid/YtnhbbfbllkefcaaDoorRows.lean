/-
  NARROWER THAN 'FOR EVERY INPUT', by the rows' own cells (each row's printed sentence says how): GoodsApart: laid · GoodsWeighed: laid · GoodsTables: laid · GoodsParts: laid.
  DERIVED. THE GIVEN ROWS OF THIS SEAT. 4 by the template 'for every input the law returns true; each argument reads behind the call as it read before'; 0 by the template 'total and deterministic' (their statements: YtnhbbfbllkefcaaDoorTotals.lean).
  GIVEN WITH THE SEED: the statements are not yours to turn. If you find one false, say at which input.
  Laid BY PROGRAM, IN A SANDBOX (cutbox-rows.mjs): the forced cells as the released guide's own fill.sh prints them over the translation 46b1d4f3b167a9b4… (all of the seat's roots in one cut). By AI agents, Wed Nov 11 2026. No macro, syntax, notation, axiom, sorry.
-/
import Derived.Test.YtnhbbfbllkefcaaDoorChecked
import GoSem.Claim
import GoSem.ClaimJoined
import GoSem.ClaimMapViews
import Derived.JoinedTies
import Derived.KernelRfl
namespace Go.Proofs.YtnhbbfbllkefcaaDoor
/- THE CELL 'sum', in the pinned program and in every row, IS THE sha256 OF THE DUMP (.gsa) THAT YtnhbbfbllkefcaaDoorProg.lean LOADS. Nothing in Lean hashes anything: it is a label: what it is worth is what the hold of that sum in a sandbox is worth. -/
noncomputable def Tryd.pinned : Pinned := { name := "ytnhbbfbllkefcaadoor", sum := "46b1d4f3b167a9b4416db6f21b9f5623fb20927c4d5c9b181dc49f2296e7735f", checked := Tryd.checked }
namespace Rows
def none {H : Type} : Left H := { results := [], args := [] }

/- WHAT THE LISTED PACKAGE-LEVEL VARIABLES READ AS WHEN THE CALL BEGINS. Each datum BY PROGRAM (the guide's laid-datum.mjs) off the statement by which the dump's own 'gosem.cut.vars' lays the variable. In a bare row this is a premise. The card (YtnhbbfbllkefcaaDoorCards.lean) ties it to the program's text. -/
def laid_supercargo_goods_apart {H : Type} : DataW H := .agg [.nil, .slice [.lit (.int .i64 2), .lit (.int .i64 3), .lit (.int .i64 4), .lit (.int .i64 5), .lit (.int .i64 6), .lit (.int .i64 7), .lit (.int .i64 8), .lit (.int .i64 9)] [], .slice [.lit (.int .i64 3), .lit (.int .i64 5)] [], .slice [.lit (.int .i64 5), .lit (.int .i64 8)] [], .slice [.lit (.int .i64 5), .lit (.int .i64 8)] [], .slice [.lit (.int .i64 6), .lit (.int .i64 8)] [], .nil, .slice [.lit (.int .i64 9)] [], .nil, .nil]

/-- 'supercargolaw11.GoodsApart': WHATEVER THE INPUT: true; the input reads as it did. -/
def goodsApartSpec : ChangeSpec := { name := "goodsApart", fn := fun _ => fun
  | [d1, d2] => { results := [.lit (.bool true)], args := [d1, d2] }
  | _ => none }
def goodsApartRow : OpenClaim := { program := "ytnhbbfbllkefcaadoor", sum := "46b1d4f3b167a9b4416db6f21b9f5623fb20927c4d5c9b181dc49f2296e7735f", func := "supercargo/supercargolaw11.GoodsApart", spec := "goodsApart", unfollowed := true, recurses := true, named := ["supercargo/goods.apart"], apart := false, laid := [("supercargo/goods.apart", laid_supercargo_goods_apart)] }
def GoodsApartSaid : Prop := goodsApartRow.holds Tryd.pinned (OpenSpec.ofChange goodsApartSpec)

/-- ITS FALSE NEIGHBOUR: 'it returns false'. Refute it at one input. -/
def goodsApartWrong : ChangeSpec := { name := "goodsApart", fn := fun _ => fun
  | [d1, d2] => { results := [.lit (.bool false)], args := [d1, d2] }
  | _ => none }
def GoodsApartWrongFalsely : Prop := goodsApartRow.holds Tryd.pinned (OpenSpec.ofChange goodsApartWrong)

/-- 'supercargolaw11.GoodsWeighed': WHATEVER THE INPUT: true; the input reads as it did. -/
def goodsWeighedSpec : ChangeSpec := { name := "goodsWeighed", fn := fun _ => fun
  | [d1, d2, d3, d4] => { results := [.lit (.bool true)], args := [d1, d2, d3, d4] }
  | _ => none }
def goodsWeighedRow : OpenClaim := { program := "ytnhbbfbllkefcaadoor", sum := "46b1d4f3b167a9b4416db6f21b9f5623fb20927c4d5c9b181dc49f2296e7735f", func := "supercargo/supercargolaw11.GoodsWeighed", spec := "goodsWeighed", unfollowed := true, recurses := true, named := ["supercargo/goods.apart"], apart := false, laid := [("supercargo/goods.apart", laid_supercargo_goods_apart)] }
def GoodsWeighedSaid : Prop := goodsWeighedRow.holds Tryd.pinned (OpenSpec.ofChange goodsWeighedSpec)

/-- ITS FALSE NEIGHBOUR: 'it returns false'. Refute it at one input. -/
def goodsWeighedWrong : ChangeSpec := { name := "goodsWeighed", fn := fun _ => fun
  | [d1, d2, d3, d4] => { results := [.lit (.bool false)], args := [d1, d2, d3, d4] }
  | _ => none }
def GoodsWeighedWrongFalsely : Prop := goodsWeighedRow.holds Tryd.pinned (OpenSpec.ofChange goodsWeighedWrong)

/-- 'supercargolaw11.GoodsTables': WHATEVER THE INPUT: true; the input reads as it did. -/
def goodsTablesSpec : ChangeSpec := { name := "goodsTables", fn := fun _ => fun
  | [d1, d2] => { results := [.lit (.bool true)], args := [d1, d2] }
  | _ => none }
def goodsTablesRow : OpenClaim := { program := "ytnhbbfbllkefcaadoor", sum := "46b1d4f3b167a9b4416db6f21b9f5623fb20927c4d5c9b181dc49f2296e7735f", func := "supercargo/supercargolaw11.GoodsTables", spec := "goodsTables", unfollowed := true, recurses := true, named := ["supercargo/goods.apart"], apart := false, laid := [("supercargo/goods.apart", laid_supercargo_goods_apart)] }
def GoodsTablesSaid : Prop := goodsTablesRow.holds Tryd.pinned (OpenSpec.ofChange goodsTablesSpec)

/-- ITS FALSE NEIGHBOUR: 'it returns false'. Refute it at one input. -/
def goodsTablesWrong : ChangeSpec := { name := "goodsTables", fn := fun _ => fun
  | [d1, d2] => { results := [.lit (.bool false)], args := [d1, d2] }
  | _ => none }
def GoodsTablesWrongFalsely : Prop := goodsTablesRow.holds Tryd.pinned (OpenSpec.ofChange goodsTablesWrong)

/-- 'supercargolaw11.GoodsParts': WHATEVER THE INPUT: true; the input reads as it did. -/
def goodsPartsSpec : ChangeSpec := { name := "goodsParts", fn := fun _ => fun
  | [d1, d2, d3] => { results := [.lit (.bool true)], args := [d1, d2, d3] }
  | _ => none }
def goodsPartsRow : OpenClaim := { program := "ytnhbbfbllkefcaadoor", sum := "46b1d4f3b167a9b4416db6f21b9f5623fb20927c4d5c9b181dc49f2296e7735f", func := "supercargo/supercargolaw11.GoodsParts", spec := "goodsParts", unfollowed := true, recurses := true, named := ["supercargo/goods.apart"], apart := false, laid := [("supercargo/goods.apart", laid_supercargo_goods_apart)] }
def GoodsPartsSaid : Prop := goodsPartsRow.holds Tryd.pinned (OpenSpec.ofChange goodsPartsSpec)

/-- ITS FALSE NEIGHBOUR: 'it returns false'. Refute it at one input. -/
def goodsPartsWrong : ChangeSpec := { name := "goodsParts", fn := fun _ => fun
  | [d1, d2, d3] => { results := [.lit (.bool false)], args := [d1, d2, d3] }
  | _ => none }
def GoodsPartsWrongFalsely : Prop := goodsPartsRow.holds Tryd.pinned (OpenSpec.ofChange goodsPartsWrong)

/- THE SECOND FORM. 'bulk': how many values and letters a reading holds, each counted each time it is reached (what is shared counts as often as it is met; a slice's spare places count too). A statement '..UptoSaid' is the law's where the arguments, and the package variables that the reading takes, are together of bulk at most 1048576: NARROWER than '..Said'. Prove '..Said' where nothing that the law and all that it calls make is longer than what came in: it says more and counts as full. Else prove '..UptoSaid'. A law counts once. -/
mutual
def uptoBulk {H : Type} : DataW H → Nat
  | .lit (.string bytes) => bytes.length + 1
  | .lit _ => 1
  | .nil => 1
  | .ptr d => uptoBulk d + 1
  | .slice elems spare => uptoBulkAll elems + uptoBulkAll spare + 1
  | .agg parts => uptoBulkAll parts + 1
  | .iface _ d => uptoBulk d + 1
  | .map entries => uptoBulkEntries entries + 1
  | .held _ => 1
def uptoBulkAll {H : Type} : List (DataW H) → Nat
  | [] => 0
  | d :: r => uptoBulk d + uptoBulkAll r
def uptoBulkEntries {H : Type} : List (Lit × DataW H) → Nat
  | [] => 0
  | x :: r => uptoBulkEntry x + uptoBulkEntries r
def uptoBulkEntry {H : Type} : Lit × DataW H → Nat
  | (.string bytes, d) => bytes.length + uptoBulk d + 1
  | (_, d) => uptoBulk d + 1
 end
def uptoSmall : (H : Type) → List (DataW H) → Bool := fun _ ds => decide (uptoBulkAll ds ≤ 1048576)
def OpenSpec.upto (s : _root_.Go.ChangeSpec) : _root_.Go.OpenSpec := { _root_.Go.OpenSpec.ofChange s with cond := some uptoSmall }

/-- 'supercargolaw11.GoodsApart', WHERE WHAT IT READS IS OF BULK AT MOST 1048576: true; the input reads as it did. -/
def goodsApartUptoRow : OpenClaim := { program := "ytnhbbfbllkefcaadoor", sum := "46b1d4f3b167a9b4416db6f21b9f5623fb20927c4d5c9b181dc49f2296e7735f", func := "supercargo/supercargolaw11.GoodsApart", spec := "goodsApart", unfollowed := true, recurses := true, named := ["supercargo/goods.apart"], apart := false, laid := [("supercargo/goods.apart", laid_supercargo_goods_apart)], narrowed := true }
def GoodsApartUptoSaid : Prop := goodsApartUptoRow.holds Tryd.pinned (OpenSpec.upto goodsApartSpec)

/-- 'supercargolaw11.GoodsWeighed', WHERE WHAT IT READS IS OF BULK AT MOST 1048576: true; the input reads as it did. -/
def goodsWeighedUptoRow : OpenClaim := { program := "ytnhbbfbllkefcaadoor", sum := "46b1d4f3b167a9b4416db6f21b9f5623fb20927c4d5c9b181dc49f2296e7735f", func := "supercargo/supercargolaw11.GoodsWeighed", spec := "goodsWeighed", unfollowed := true, recurses := true, named := ["supercargo/goods.apart"], apart := false, laid := [("supercargo/goods.apart", laid_supercargo_goods_apart)], narrowed := true }
def GoodsWeighedUptoSaid : Prop := goodsWeighedUptoRow.holds Tryd.pinned (OpenSpec.upto goodsWeighedSpec)

/-- 'supercargolaw11.GoodsTables', WHERE WHAT IT READS IS OF BULK AT MOST 1048576: true; the input reads as it did. -/
def goodsTablesUptoRow : OpenClaim := { program := "ytnhbbfbllkefcaadoor", sum := "46b1d4f3b167a9b4416db6f21b9f5623fb20927c4d5c9b181dc49f2296e7735f", func := "supercargo/supercargolaw11.GoodsTables", spec := "goodsTables", unfollowed := true, recurses := true, named := ["supercargo/goods.apart"], apart := false, laid := [("supercargo/goods.apart", laid_supercargo_goods_apart)], narrowed := true }
def GoodsTablesUptoSaid : Prop := goodsTablesUptoRow.holds Tryd.pinned (OpenSpec.upto goodsTablesSpec)

/-- 'supercargolaw11.GoodsParts', WHERE WHAT IT READS IS OF BULK AT MOST 1048576: true; the input reads as it did. -/
def goodsPartsUptoRow : OpenClaim := { program := "ytnhbbfbllkefcaadoor", sum := "46b1d4f3b167a9b4416db6f21b9f5623fb20927c4d5c9b181dc49f2296e7735f", func := "supercargo/supercargolaw11.GoodsParts", spec := "goodsParts", unfollowed := true, recurses := true, named := ["supercargo/goods.apart"], apart := false, laid := [("supercargo/goods.apart", laid_supercargo_goods_apart)], narrowed := true }
def GoodsPartsUptoSaid : Prop := goodsPartsUptoRow.holds Tryd.pinned (OpenSpec.upto goodsPartsSpec)

end Rows
end Go.Proofs.YtnhbbfbllkefcaaDoor
