/-
  No cell of these rows narrows 'for every input' (looked for: loops, veiled, ifaces, maps, wideKeys, modest, calm, conditions, laid).
  DERIVED. THE GIVEN ROWS OF THIS SEAT. 8 by the template 'for every input the law returns true; each argument reads behind the call as it read before'; 0 by the template 'total and deterministic' (their statements: YtfacddeaobogjaaTotals.lean).
  GIVEN WITH THE SEED: the statements are not yours to turn. If you find one false, say at which input.
  Laid BY PROGRAM, IN A SANDBOX (cutbox-rows.mjs): the forced cells as the released guide's own fill.sh prints them over the translation 256a21edaa40e07f… (all of the seat's roots in one cut). By AI agents, Wed Nov 11 2026. No macro, syntax, notation, axiom, sorry.
-/
import Derived.Test.YtfacddeaobogjaaChecked
import GoSem.Claim
import GoSem.ClaimJoined
import GoSem.ClaimMapViews
import Derived.JoinedTies
import Derived.KernelRfl
namespace Go.Proofs.Ytfacddeaobogjaa
/- THE CELL 'sum', in the pinned program and in every row, IS THE sha256 OF THE DUMP (.gsa) THAT YtfacddeaobogjaaProg.lean LOADS. Nothing in Lean hashes anything: it is a label: what it is worth is what the hold of that sum in a sandbox is worth. -/
noncomputable def Try.pinned : Pinned := { name := "ytfacddeaobogjaa", sum := "256a21edaa40e07f165aa758e7eec1d7c03ea6bf5fb249aac48121004ebf63f3", checked := Try.checked }
namespace Rows
def none {H : Type} : Left H := { results := [], args := [] }

/-- 'replevinlaw08.GraphPaths': WHATEVER THE INPUT: true; the input reads as it did. -/
def graphPathsSpec : ChangeSpec := { name := "graphPaths", fn := fun _ => fun
  | [d1, d2, d3] => { results := [.lit (.bool true)], args := [d1, d2, d3] }
  | _ => none }
def graphPathsRow : OpenClaim := { program := "ytfacddeaobogjaa", sum := "256a21edaa40e07f165aa758e7eec1d7c03ea6bf5fb249aac48121004ebf63f3", func := "replevin/replevinlaw08.GraphPaths", spec := "graphPaths", unfollowed := true, recurses := true, apart := false }
def GraphPathsSaid : Prop := graphPathsRow.holds Try.pinned (OpenSpec.ofChange graphPathsSpec)

/-- ITS FALSE NEIGHBOUR: 'it returns false'. Refute it at one input. -/
def graphPathsWrong : ChangeSpec := { name := "graphPaths", fn := fun _ => fun
  | [d1, d2, d3] => { results := [.lit (.bool false)], args := [d1, d2, d3] }
  | _ => none }
def GraphPathsWrongFalsely : Prop := graphPathsRow.holds Try.pinned (OpenSpec.ofChange graphPathsWrong)

/-- 'replevinlaw08.GraphReaches': WHATEVER THE INPUT: true; the input reads as it did. -/
def graphReachesSpec : ChangeSpec := { name := "graphReaches", fn := fun _ => fun
  | [d1, d2, d3] => { results := [.lit (.bool true)], args := [d1, d2, d3] }
  | _ => none }
def graphReachesRow : OpenClaim := { program := "ytfacddeaobogjaa", sum := "256a21edaa40e07f165aa758e7eec1d7c03ea6bf5fb249aac48121004ebf63f3", func := "replevin/replevinlaw08.GraphReaches", spec := "graphReaches", unfollowed := true, recurses := true, apart := false }
def GraphReachesSaid : Prop := graphReachesRow.holds Try.pinned (OpenSpec.ofChange graphReachesSpec)

/-- ITS FALSE NEIGHBOUR: 'it returns false'. Refute it at one input. -/
def graphReachesWrong : ChangeSpec := { name := "graphReaches", fn := fun _ => fun
  | [d1, d2, d3] => { results := [.lit (.bool false)], args := [d1, d2, d3] }
  | _ => none }
def GraphReachesWrongFalsely : Prop := graphReachesRow.holds Try.pinned (OpenSpec.ofChange graphReachesWrong)

/-- 'replevinlaw08.GraphNew': WHATEVER THE INPUT: true; the input reads as it did. -/
def graphNewSpec : ChangeSpec := { name := "graphNew", fn := fun _ => fun
  | [d1, d2] => { results := [.lit (.bool true)], args := [d1, d2] }
  | _ => none }
def graphNewRow : OpenClaim := { program := "ytfacddeaobogjaa", sum := "256a21edaa40e07f165aa758e7eec1d7c03ea6bf5fb249aac48121004ebf63f3", func := "replevin/replevinlaw08.GraphNew", spec := "graphNew", unfollowed := true, recurses := true, apart := false }
def GraphNewSaid : Prop := graphNewRow.holds Try.pinned (OpenSpec.ofChange graphNewSpec)

/-- ITS FALSE NEIGHBOUR: 'it returns false'. Refute it at one input. -/
def graphNewWrong : ChangeSpec := { name := "graphNew", fn := fun _ => fun
  | [d1, d2] => { results := [.lit (.bool false)], args := [d1, d2] }
  | _ => none }
def GraphNewWrongFalsely : Prop := graphNewRow.holds Try.pinned (OpenSpec.ofChange graphNewWrong)

/-- 'replevinlaw08.GraphGroups': WHATEVER THE INPUT: true; the input reads as it did. -/
def graphGroupsSpec : ChangeSpec := { name := "graphGroups", fn := fun _ => fun
  | [d1, d2] => { results := [.lit (.bool true)], args := [d1, d2] }
  | _ => none }
def graphGroupsRow : OpenClaim := { program := "ytfacddeaobogjaa", sum := "256a21edaa40e07f165aa758e7eec1d7c03ea6bf5fb249aac48121004ebf63f3", func := "replevin/replevinlaw08.GraphGroups", spec := "graphGroups", unfollowed := true, recurses := true, apart := false }
def GraphGroupsSaid : Prop := graphGroupsRow.holds Try.pinned (OpenSpec.ofChange graphGroupsSpec)

/-- ITS FALSE NEIGHBOUR: 'it returns false'. Refute it at one input. -/
def graphGroupsWrong : ChangeSpec := { name := "graphGroups", fn := fun _ => fun
  | [d1, d2] => { results := [.lit (.bool false)], args := [d1, d2] }
  | _ => none }
def GraphGroupsWrongFalsely : Prop := graphGroupsRow.holds Try.pinned (OpenSpec.ofChange graphGroupsWrong)

/-- 'replevinlaw08.GraphJoined': WHATEVER THE INPUT: true; the input reads as it did. -/
def graphJoinedSpec : ChangeSpec := { name := "graphJoined", fn := fun _ => fun
  | [d1, d2, d3] => { results := [.lit (.bool true)], args := [d1, d2, d3] }
  | _ => none }
def graphJoinedRow : OpenClaim := { program := "ytfacddeaobogjaa", sum := "256a21edaa40e07f165aa758e7eec1d7c03ea6bf5fb249aac48121004ebf63f3", func := "replevin/replevinlaw08.GraphJoined", spec := "graphJoined", unfollowed := true, recurses := true, apart := false }
def GraphJoinedSaid : Prop := graphJoinedRow.holds Try.pinned (OpenSpec.ofChange graphJoinedSpec)

/-- ITS FALSE NEIGHBOUR: 'it returns false'. Refute it at one input. -/
def graphJoinedWrong : ChangeSpec := { name := "graphJoined", fn := fun _ => fun
  | [d1, d2, d3] => { results := [.lit (.bool false)], args := [d1, d2, d3] }
  | _ => none }
def GraphJoinedWrongFalsely : Prop := graphJoinedRow.holds Try.pinned (OpenSpec.ofChange graphJoinedWrong)

/-- 'replevinlaw08.GraphMany': WHATEVER THE INPUT: true; the input reads as it did. -/
def graphManySpec : ChangeSpec := { name := "graphMany", fn := fun _ => fun
  | [d1, d2, d3] => { results := [.lit (.bool true)], args := [d1, d2, d3] }
  | _ => none }
def graphManyRow : OpenClaim := { program := "ytfacddeaobogjaa", sum := "256a21edaa40e07f165aa758e7eec1d7c03ea6bf5fb249aac48121004ebf63f3", func := "replevin/replevinlaw08.GraphMany", spec := "graphMany", unfollowed := true, recurses := true, apart := false }
def GraphManySaid : Prop := graphManyRow.holds Try.pinned (OpenSpec.ofChange graphManySpec)

/-- ITS FALSE NEIGHBOUR: 'it returns false'. Refute it at one input. -/
def graphManyWrong : ChangeSpec := { name := "graphMany", fn := fun _ => fun
  | [d1, d2, d3] => { results := [.lit (.bool false)], args := [d1, d2, d3] }
  | _ => none }
def GraphManyWrongFalsely : Prop := graphManyRow.holds Try.pinned (OpenSpec.ofChange graphManyWrong)

/-- 'replevinlaw08.GraphViews': WHATEVER THE INPUT: true; the input reads as it did. -/
def graphViewsSpec : ChangeSpec := { name := "graphViews", fn := fun _ => fun
  | [d1, d2, d3] => { results := [.lit (.bool true)], args := [d1, d2, d3] }
  | _ => none }
def graphViewsRow : OpenClaim := { program := "ytfacddeaobogjaa", sum := "256a21edaa40e07f165aa758e7eec1d7c03ea6bf5fb249aac48121004ebf63f3", func := "replevin/replevinlaw08.GraphViews", spec := "graphViews", unfollowed := true, recurses := true, apart := false }
def GraphViewsSaid : Prop := graphViewsRow.holds Try.pinned (OpenSpec.ofChange graphViewsSpec)

/-- ITS FALSE NEIGHBOUR: 'it returns false'. Refute it at one input. -/
def graphViewsWrong : ChangeSpec := { name := "graphViews", fn := fun _ => fun
  | [d1, d2, d3] => { results := [.lit (.bool false)], args := [d1, d2, d3] }
  | _ => none }
def GraphViewsWrongFalsely : Prop := graphViewsRow.holds Try.pinned (OpenSpec.ofChange graphViewsWrong)

/-- 'replevinlaw08.GraphNil': WHATEVER THE INPUT: true; the input reads as it did. -/
def graphNilSpec : ChangeSpec := { name := "graphNil", fn := fun _ => fun
  | [d1, d2, d3] => { results := [.lit (.bool true)], args := [d1, d2, d3] }
  | _ => none }
def graphNilRow : OpenClaim := { program := "ytfacddeaobogjaa", sum := "256a21edaa40e07f165aa758e7eec1d7c03ea6bf5fb249aac48121004ebf63f3", func := "replevin/replevinlaw08.GraphNil", spec := "graphNil", unfollowed := true, recurses := true, apart := false }
def GraphNilSaid : Prop := graphNilRow.holds Try.pinned (OpenSpec.ofChange graphNilSpec)

/-- ITS FALSE NEIGHBOUR: 'it returns false'. Refute it at one input. -/
def graphNilWrong : ChangeSpec := { name := "graphNil", fn := fun _ => fun
  | [d1, d2, d3] => { results := [.lit (.bool false)], args := [d1, d2, d3] }
  | _ => none }
def GraphNilWrongFalsely : Prop := graphNilRow.holds Try.pinned (OpenSpec.ofChange graphNilWrong)

/- THE SECOND FORM. 'bulk': how many values and letters a reading holds, each counted each time it is reached (what is shared counts as often as it is met; a slice's spare places count too). A statement '..UptoSaid' is the law's where the arguments, and the package variables that the reading takes, are together of bulk at most 1048576: NARROWER than '..Said'. Prove '..Said' where nothing that the law and all that it calls make is longer than what came in: it says more and counts as full. Else prove '..UptoSaid'. A law counts once. -/
mutual
def uptoBulk {H : Type} : DataW H → Nat
  | .lit (.string bytes) => bytes.length + 1
  | .lit _ => 1
  | .nil => 1
  | .ptr d => uptoBulk d + 1
  | .slice elems spare => uptoBulkAll elems + uptoBulkAll spare + 1
  | .agg parts => uptoBulkAll parts + 1
  | .iface _ d => uptoBulk d + 1
  | .map entries => uptoBulkEntries entries + 1
  | .held _ => 1
def uptoBulkAll {H : Type} : List (DataW H) → Nat
  | [] => 0
  | d :: r => uptoBulk d + uptoBulkAll r
def uptoBulkEntries {H : Type} : List (Lit × DataW H) → Nat
  | [] => 0
  | x :: r => uptoBulkEntry x + uptoBulkEntries r
def uptoBulkEntry {H : Type} : Lit × DataW H → Nat
  | (.string bytes, d) => bytes.length + uptoBulk d + 1
  | (_, d) => uptoBulk d + 1
 end
def uptoSmall : (H : Type) → List (DataW H) → Bool := fun _ ds => decide (uptoBulkAll ds ≤ 1048576)
def OpenSpec.upto (s : _root_.Go.ChangeSpec) : _root_.Go.OpenSpec := { _root_.Go.OpenSpec.ofChange s with cond := some uptoSmall }

/-- 'replevinlaw08.GraphPaths', WHERE WHAT IT READS IS OF BULK AT MOST 1048576: true; the input reads as it did. -/
def graphPathsUptoRow : OpenClaim := { program := "ytfacddeaobogjaa", sum := "256a21edaa40e07f165aa758e7eec1d7c03ea6bf5fb249aac48121004ebf63f3", func := "replevin/replevinlaw08.GraphPaths", spec := "graphPaths", unfollowed := true, recurses := true, apart := false, narrowed := true }
def GraphPathsUptoSaid : Prop := graphPathsUptoRow.holds Try.pinned (OpenSpec.upto graphPathsSpec)

/-- 'replevinlaw08.GraphReaches', WHERE WHAT IT READS IS OF BULK AT MOST 1048576: true; the input reads as it did. -/
def graphReachesUptoRow : OpenClaim := { program := "ytfacddeaobogjaa", sum := "256a21edaa40e07f165aa758e7eec1d7c03ea6bf5fb249aac48121004ebf63f3", func := "replevin/replevinlaw08.GraphReaches", spec := "graphReaches", unfollowed := true, recurses := true, apart := false, narrowed := true }
def GraphReachesUptoSaid : Prop := graphReachesUptoRow.holds Try.pinned (OpenSpec.upto graphReachesSpec)

/-- 'replevinlaw08.GraphNew', WHERE WHAT IT READS IS OF BULK AT MOST 1048576: true; the input reads as it did. -/
def graphNewUptoRow : OpenClaim := { program := "ytfacddeaobogjaa", sum := "256a21edaa40e07f165aa758e7eec1d7c03ea6bf5fb249aac48121004ebf63f3", func := "replevin/replevinlaw08.GraphNew", spec := "graphNew", unfollowed := true, recurses := true, apart := false, narrowed := true }
def GraphNewUptoSaid : Prop := graphNewUptoRow.holds Try.pinned (OpenSpec.upto graphNewSpec)

/-- 'replevinlaw08.GraphGroups', WHERE WHAT IT READS IS OF BULK AT MOST 1048576: true; the input reads as it did. -/
def graphGroupsUptoRow : OpenClaim := { program := "ytfacddeaobogjaa", sum := "256a21edaa40e07f165aa758e7eec1d7c03ea6bf5fb249aac48121004ebf63f3", func := "replevin/replevinlaw08.GraphGroups", spec := "graphGroups", unfollowed := true, recurses := true, apart := false, narrowed := true }
def GraphGroupsUptoSaid : Prop := graphGroupsUptoRow.holds Try.pinned (OpenSpec.upto graphGroupsSpec)

/-- 'replevinlaw08.GraphJoined', WHERE WHAT IT READS IS OF BULK AT MOST 1048576: true; the input reads as it did. -/
def graphJoinedUptoRow : OpenClaim := { program := "ytfacddeaobogjaa", sum := "256a21edaa40e07f165aa758e7eec1d7c03ea6bf5fb249aac48121004ebf63f3", func := "replevin/replevinlaw08.GraphJoined", spec := "graphJoined", unfollowed := true, recurses := true, apart := false, narrowed := true }
def GraphJoinedUptoSaid : Prop := graphJoinedUptoRow.holds Try.pinned (OpenSpec.upto graphJoinedSpec)

/-- 'replevinlaw08.GraphMany', WHERE WHAT IT READS IS OF BULK AT MOST 1048576: true; the input reads as it did. -/
def graphManyUptoRow : OpenClaim := { program := "ytfacddeaobogjaa", sum := "256a21edaa40e07f165aa758e7eec1d7c03ea6bf5fb249aac48121004ebf63f3", func := "replevin/replevinlaw08.GraphMany", spec := "graphMany", unfollowed := true, recurses := true, apart := false, narrowed := true }
def GraphManyUptoSaid : Prop := graphManyUptoRow.holds Try.pinned (OpenSpec.upto graphManySpec)

/-- 'replevinlaw08.GraphViews', WHERE WHAT IT READS IS OF BULK AT MOST 1048576: true; the input reads as it did. -/
def graphViewsUptoRow : OpenClaim := { program := "ytfacddeaobogjaa", sum := "256a21edaa40e07f165aa758e7eec1d7c03ea6bf5fb249aac48121004ebf63f3", func := "replevin/replevinlaw08.GraphViews", spec := "graphViews", unfollowed := true, recurses := true, apart := false, narrowed := true }
def GraphViewsUptoSaid : Prop := graphViewsUptoRow.holds Try.pinned (OpenSpec.upto graphViewsSpec)

/-- 'replevinlaw08.GraphNil', WHERE WHAT IT READS IS OF BULK AT MOST 1048576: true; the input reads as it did. -/
def graphNilUptoRow : OpenClaim := { program := "ytfacddeaobogjaa", sum := "256a21edaa40e07f165aa758e7eec1d7c03ea6bf5fb249aac48121004ebf63f3", func := "replevin/replevinlaw08.GraphNil", spec := "graphNil", unfollowed := true, recurses := true, apart := false, narrowed := true }
def GraphNilUptoSaid : Prop := graphNilUptoRow.holds Try.pinned (OpenSpec.upto graphNilSpec)

end Rows
end Go.Proofs.Ytfacddeaobogjaa
