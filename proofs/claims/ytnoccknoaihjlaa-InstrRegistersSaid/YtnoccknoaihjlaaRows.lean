/-
  No cell of these rows narrows 'for every input' (looked for: loops, veiled, ifaces, maps, wideKeys, modest, calm, conditions, laid).
  DERIVED. THE GIVEN ROWS OF THIS SEAT. 10 by the template 'for every input the law returns true; each argument reads behind the call as it read before'; 0 by the template 'total and deterministic' (their statements: YtnoccknoaihjlaaTotals.lean).
  GIVEN WITH THE SEED: the statements are not yours to turn. If you find one false, say at which input.
  Laid BY PROGRAM, IN A SANDBOX (cutbox-rows.mjs): the forced cells as the released guide's own fill.sh prints them over the translation 9e67eda3f9fb4205… (all of the seat's roots in one cut). By AI agents, Wed Nov 11 2026. No macro, syntax, notation, axiom, sorry.
-/
import Derived.Test.YtnoccknoaihjlaaChecked
import GoSem.Claim
import GoSem.ClaimJoined
import GoSem.ClaimMapViews
import Derived.JoinedTies
import Derived.KernelRfl
namespace Go.Proofs.Ytnoccknoaihjlaa
/- THE CELL 'sum', in the pinned program and in every row, IS THE sha256 OF THE DUMP (.gsa) THAT YtnoccknoaihjlaaProg.lean LOADS. Nothing in Lean hashes anything: it is a label: what it is worth is what the hold of that sum in a sandbox is worth. -/
noncomputable def Try.pinned : Pinned := { name := "ytnoccknoaihjlaa", sum := "9e67eda3f9fb42054b2741a988957bc76f5a17ab552b251fbee74f74270cbab1", checked := Try.checked }
namespace Rows
def none {H : Type} : Left H := { results := [], args := [] }

/-- 'replevinlaw16.InstrChecks': WHATEVER THE INPUT: true; the input reads as it did. -/
def instrChecksSpec : ChangeSpec := { name := "instrChecks", fn := fun _ => fun
  | [d] => { results := [.lit (.bool true)], args := [d] }
  | _ => none }
def instrChecksRow : OpenClaim := { program := "ytnoccknoaihjlaa", sum := "9e67eda3f9fb42054b2741a988957bc76f5a17ab552b251fbee74f74270cbab1", func := "replevin/replevinlaw16.InstrChecks", spec := "instrChecks", unfollowed := true, recurses := true, apart := false }
def InstrChecksSaid : Prop := instrChecksRow.holds Try.pinned (OpenSpec.ofChange instrChecksSpec)

/-- ITS FALSE NEIGHBOUR: 'it returns false'. Refute it at one input. -/
def instrChecksWrong : ChangeSpec := { name := "instrChecks", fn := fun _ => fun
  | [d] => { results := [.lit (.bool false)], args := [d] }
  | _ => none }
def InstrChecksWrongFalsely : Prop := instrChecksRow.holds Try.pinned (OpenSpec.ofChange instrChecksWrong)

/-- 'replevinlaw16.InstrCalculates': WHATEVER THE INPUT: true; the input reads as it did. -/
def instrCalculatesSpec : ChangeSpec := { name := "instrCalculates", fn := fun _ => fun
  | [d1, d2, d3] => { results := [.lit (.bool true)], args := [d1, d2, d3] }
  | _ => none }
def instrCalculatesRow : OpenClaim := { program := "ytnoccknoaihjlaa", sum := "9e67eda3f9fb42054b2741a988957bc76f5a17ab552b251fbee74f74270cbab1", func := "replevin/replevinlaw16.InstrCalculates", spec := "instrCalculates", unfollowed := true, recurses := true, apart := false }
def InstrCalculatesSaid : Prop := instrCalculatesRow.holds Try.pinned (OpenSpec.ofChange instrCalculatesSpec)

/-- ITS FALSE NEIGHBOUR: 'it returns false'. Refute it at one input. -/
def instrCalculatesWrong : ChangeSpec := { name := "instrCalculates", fn := fun _ => fun
  | [d1, d2, d3] => { results := [.lit (.bool false)], args := [d1, d2, d3] }
  | _ => none }
def InstrCalculatesWrongFalsely : Prop := instrCalculatesRow.holds Try.pinned (OpenSpec.ofChange instrCalculatesWrong)

/-- 'replevinlaw16.InstrArithmetic': WHATEVER THE INPUT: true; the input reads as it did. -/
def instrArithmeticSpec : ChangeSpec := { name := "instrArithmetic", fn := fun _ => fun
  | [d1, d2] => { results := [.lit (.bool true)], args := [d1, d2] }
  | _ => none }
def instrArithmeticRow : OpenClaim := { program := "ytnoccknoaihjlaa", sum := "9e67eda3f9fb42054b2741a988957bc76f5a17ab552b251fbee74f74270cbab1", func := "replevin/replevinlaw16.InstrArithmetic", spec := "instrArithmetic", unfollowed := true, recurses := true, apart := false }
def InstrArithmeticSaid : Prop := instrArithmeticRow.holds Try.pinned (OpenSpec.ofChange instrArithmeticSpec)

/-- ITS FALSE NEIGHBOUR: 'it returns false'. Refute it at one input. -/
def instrArithmeticWrong : ChangeSpec := { name := "instrArithmetic", fn := fun _ => fun
  | [d1, d2] => { results := [.lit (.bool false)], args := [d1, d2] }
  | _ => none }
def InstrArithmeticWrongFalsely : Prop := instrArithmeticRow.holds Try.pinned (OpenSpec.ofChange instrArithmeticWrong)

/-- 'replevinlaw16.InstrNumbers': WHATEVER THE INPUT: true; the input reads as it did. -/
def instrNumbersSpec : ChangeSpec := { name := "instrNumbers", fn := fun _ => fun
  | [d1, d2] => { results := [.lit (.bool true)], args := [d1, d2] }
  | _ => none }
def instrNumbersRow : OpenClaim := { program := "ytnoccknoaihjlaa", sum := "9e67eda3f9fb42054b2741a988957bc76f5a17ab552b251fbee74f74270cbab1", func := "replevin/replevinlaw16.InstrNumbers", spec := "instrNumbers", unfollowed := true, recurses := true, apart := false }
def InstrNumbersSaid : Prop := instrNumbersRow.holds Try.pinned (OpenSpec.ofChange instrNumbersSpec)

/-- ITS FALSE NEIGHBOUR: 'it returns false'. Refute it at one input. -/
def instrNumbersWrong : ChangeSpec := { name := "instrNumbers", fn := fun _ => fun
  | [d1, d2] => { results := [.lit (.bool false)], args := [d1, d2] }
  | _ => none }
def InstrNumbersWrongFalsely : Prop := instrNumbersRow.holds Try.pinned (OpenSpec.ofChange instrNumbersWrong)

/-- 'replevinlaw16.InstrEncodes': WHATEVER THE INPUT: true; the input reads as it did. -/
def instrEncodesSpec : ChangeSpec := { name := "instrEncodes", fn := fun _ => fun
  | [d] => { results := [.lit (.bool true)], args := [d] }
  | _ => none }
def instrEncodesRow : OpenClaim := { program := "ytnoccknoaihjlaa", sum := "9e67eda3f9fb42054b2741a988957bc76f5a17ab552b251fbee74f74270cbab1", func := "replevin/replevinlaw16.InstrEncodes", spec := "instrEncodes", unfollowed := true, recurses := true, apart := false }
def InstrEncodesSaid : Prop := instrEncodesRow.holds Try.pinned (OpenSpec.ofChange instrEncodesSpec)

/-- ITS FALSE NEIGHBOUR: 'it returns false'. Refute it at one input. -/
def instrEncodesWrong : ChangeSpec := { name := "instrEncodes", fn := fun _ => fun
  | [d] => { results := [.lit (.bool false)], args := [d] }
  | _ => none }
def InstrEncodesWrongFalsely : Prop := instrEncodesRow.holds Try.pinned (OpenSpec.ofChange instrEncodesWrong)

/-- 'replevinlaw16.InstrDecodes': WHATEVER THE INPUT: true; the input reads as it did. -/
def instrDecodesSpec : ChangeSpec := { name := "instrDecodes", fn := fun _ => fun
  | [d] => { results := [.lit (.bool true)], args := [d] }
  | _ => none }
def instrDecodesRow : OpenClaim := { program := "ytnoccknoaihjlaa", sum := "9e67eda3f9fb42054b2741a988957bc76f5a17ab552b251fbee74f74270cbab1", func := "replevin/replevinlaw16.InstrDecodes", spec := "instrDecodes", unfollowed := true, recurses := true, apart := false }
def InstrDecodesSaid : Prop := instrDecodesRow.holds Try.pinned (OpenSpec.ofChange instrDecodesSpec)

/-- ITS FALSE NEIGHBOUR: 'it returns false'. Refute it at one input. -/
def instrDecodesWrong : ChangeSpec := { name := "instrDecodes", fn := fun _ => fun
  | [d] => { results := [.lit (.bool false)], args := [d] }
  | _ => none }
def InstrDecodesWrongFalsely : Prop := instrDecodesRow.holds Try.pinned (OpenSpec.ofChange instrDecodesWrong)

/-- 'replevinlaw16.InstrBytes': WHATEVER THE INPUT: true; the input reads as it did. -/
def instrBytesSpec : ChangeSpec := { name := "instrBytes", fn := fun _ => fun
  | [d] => { results := [.lit (.bool true)], args := [d] }
  | _ => none }
def instrBytesRow : OpenClaim := { program := "ytnoccknoaihjlaa", sum := "9e67eda3f9fb42054b2741a988957bc76f5a17ab552b251fbee74f74270cbab1", func := "replevin/replevinlaw16.InstrBytes", spec := "instrBytes", unfollowed := true, recurses := true, apart := false }
def InstrBytesSaid : Prop := instrBytesRow.holds Try.pinned (OpenSpec.ofChange instrBytesSpec)

/-- ITS FALSE NEIGHBOUR: 'it returns false'. Refute it at one input. -/
def instrBytesWrong : ChangeSpec := { name := "instrBytes", fn := fun _ => fun
  | [d] => { results := [.lit (.bool false)], args := [d] }
  | _ => none }
def InstrBytesWrongFalsely : Prop := instrBytesRow.holds Try.pinned (OpenSpec.ofChange instrBytesWrong)

/-- 'replevinlaw16.InstrForms': WHATEVER THE INPUT: true; the input reads as it did. -/
def instrFormsSpec : ChangeSpec := { name := "instrForms", fn := fun _ => fun
  | [d1, d2] => { results := [.lit (.bool true)], args := [d1, d2] }
  | _ => none }
def instrFormsRow : OpenClaim := { program := "ytnoccknoaihjlaa", sum := "9e67eda3f9fb42054b2741a988957bc76f5a17ab552b251fbee74f74270cbab1", func := "replevin/replevinlaw16.InstrForms", spec := "instrForms", unfollowed := true, recurses := true, apart := false }
def InstrFormsSaid : Prop := instrFormsRow.holds Try.pinned (OpenSpec.ofChange instrFormsSpec)

/-- ITS FALSE NEIGHBOUR: 'it returns false'. Refute it at one input. -/
def instrFormsWrong : ChangeSpec := { name := "instrForms", fn := fun _ => fun
  | [d1, d2] => { results := [.lit (.bool false)], args := [d1, d2] }
  | _ => none }
def InstrFormsWrongFalsely : Prop := instrFormsRow.holds Try.pinned (OpenSpec.ofChange instrFormsWrong)

/-- 'replevinlaw16.InstrLists': WHATEVER THE INPUT: true; the input reads as it did. -/
def instrListsSpec : ChangeSpec := { name := "instrLists", fn := fun _ => fun
  | [d] => { results := [.lit (.bool true)], args := [d] }
  | _ => none }
def instrListsRow : OpenClaim := { program := "ytnoccknoaihjlaa", sum := "9e67eda3f9fb42054b2741a988957bc76f5a17ab552b251fbee74f74270cbab1", func := "replevin/replevinlaw16.InstrLists", spec := "instrLists", unfollowed := true, recurses := true, apart := false }
def InstrListsSaid : Prop := instrListsRow.holds Try.pinned (OpenSpec.ofChange instrListsSpec)

/-- ITS FALSE NEIGHBOUR: 'it returns false'. Refute it at one input. -/
def instrListsWrong : ChangeSpec := { name := "instrLists", fn := fun _ => fun
  | [d] => { results := [.lit (.bool false)], args := [d] }
  | _ => none }
def InstrListsWrongFalsely : Prop := instrListsRow.holds Try.pinned (OpenSpec.ofChange instrListsWrong)

/-- 'replevinlaw16.InstrRegisters': WHATEVER THE INPUT: true; the input reads as it did. -/
def instrRegistersSpec : ChangeSpec := { name := "instrRegisters", fn := fun _ => fun
  | [d] => { results := [.lit (.bool true)], args := [d] }
  | _ => none }
def instrRegistersRow : OpenClaim := { program := "ytnoccknoaihjlaa", sum := "9e67eda3f9fb42054b2741a988957bc76f5a17ab552b251fbee74f74270cbab1", func := "replevin/replevinlaw16.InstrRegisters", spec := "instrRegisters", unfollowed := true, recurses := true, apart := false }
def InstrRegistersSaid : Prop := instrRegistersRow.holds Try.pinned (OpenSpec.ofChange instrRegistersSpec)

/-- ITS FALSE NEIGHBOUR: 'it returns false'. Refute it at one input. -/
def instrRegistersWrong : ChangeSpec := { name := "instrRegisters", fn := fun _ => fun
  | [d] => { results := [.lit (.bool false)], args := [d] }
  | _ => none }
def InstrRegistersWrongFalsely : Prop := instrRegistersRow.holds Try.pinned (OpenSpec.ofChange instrRegistersWrong)

/- THE SECOND FORM. 'bulk': how many values and letters a reading holds, each counted each time it is reached (what is shared counts as often as it is met; a slice's spare places count too). A statement '..UptoSaid' is the law's where the arguments, and the package variables that the reading takes, are together of bulk at most 1048576: NARROWER than '..Said'. Prove '..Said' where nothing that the law and all that it calls make is longer than what came in: it says more and counts as full. Else prove '..UptoSaid'. A law counts once. -/
mutual
def uptoBulk {H : Type} : DataW H → Nat
  | .lit (.string bytes) => bytes.length + 1
  | .lit _ => 1
  | .nil => 1
  | .ptr d => uptoBulk d + 1
  | .slice elems spare => uptoBulkAll elems + uptoBulkAll spare + 1
  | .agg parts => uptoBulkAll parts + 1
  | .iface _ d => uptoBulk d + 1
  | .map entries => uptoBulkEntries entries + 1
  | .held _ => 1
def uptoBulkAll {H : Type} : List (DataW H) → Nat
  | [] => 0
  | d :: r => uptoBulk d + uptoBulkAll r
def uptoBulkEntries {H : Type} : List (Lit × DataW H) → Nat
  | [] => 0
  | x :: r => uptoBulkEntry x + uptoBulkEntries r
def uptoBulkEntry {H : Type} : Lit × DataW H → Nat
  | (.string bytes, d) => bytes.length + uptoBulk d + 1
  | (_, d) => uptoBulk d + 1
 end
def uptoSmall : (H : Type) → List (DataW H) → Bool := fun _ ds => decide (uptoBulkAll ds ≤ 1048576)
def OpenSpec.upto (s : _root_.Go.ChangeSpec) : _root_.Go.OpenSpec := { _root_.Go.OpenSpec.ofChange s with cond := some uptoSmall }

/-- 'replevinlaw16.InstrChecks', WHERE WHAT IT READS IS OF BULK AT MOST 1048576: true; the input reads as it did. -/
def instrChecksUptoRow : OpenClaim := { program := "ytnoccknoaihjlaa", sum := "9e67eda3f9fb42054b2741a988957bc76f5a17ab552b251fbee74f74270cbab1", func := "replevin/replevinlaw16.InstrChecks", spec := "instrChecks", unfollowed := true, recurses := true, apart := false, narrowed := true }
def InstrChecksUptoSaid : Prop := instrChecksUptoRow.holds Try.pinned (OpenSpec.upto instrChecksSpec)

/-- 'replevinlaw16.InstrCalculates', WHERE WHAT IT READS IS OF BULK AT MOST 1048576: true; the input reads as it did. -/
def instrCalculatesUptoRow : OpenClaim := { program := "ytnoccknoaihjlaa", sum := "9e67eda3f9fb42054b2741a988957bc76f5a17ab552b251fbee74f74270cbab1", func := "replevin/replevinlaw16.InstrCalculates", spec := "instrCalculates", unfollowed := true, recurses := true, apart := false, narrowed := true }
def InstrCalculatesUptoSaid : Prop := instrCalculatesUptoRow.holds Try.pinned (OpenSpec.upto instrCalculatesSpec)

/-- 'replevinlaw16.InstrArithmetic', WHERE WHAT IT READS IS OF BULK AT MOST 1048576: true; the input reads as it did. -/
def instrArithmeticUptoRow : OpenClaim := { program := "ytnoccknoaihjlaa", sum := "9e67eda3f9fb42054b2741a988957bc76f5a17ab552b251fbee74f74270cbab1", func := "replevin/replevinlaw16.InstrArithmetic", spec := "instrArithmetic", unfollowed := true, recurses := true, apart := false, narrowed := true }
def InstrArithmeticUptoSaid : Prop := instrArithmeticUptoRow.holds Try.pinned (OpenSpec.upto instrArithmeticSpec)

/-- 'replevinlaw16.InstrNumbers', WHERE WHAT IT READS IS OF BULK AT MOST 1048576: true; the input reads as it did. -/
def instrNumbersUptoRow : OpenClaim := { program := "ytnoccknoaihjlaa", sum := "9e67eda3f9fb42054b2741a988957bc76f5a17ab552b251fbee74f74270cbab1", func := "replevin/replevinlaw16.InstrNumbers", spec := "instrNumbers", unfollowed := true, recurses := true, apart := false, narrowed := true }
def InstrNumbersUptoSaid : Prop := instrNumbersUptoRow.holds Try.pinned (OpenSpec.upto instrNumbersSpec)

/-- 'replevinlaw16.InstrEncodes', WHERE WHAT IT READS IS OF BULK AT MOST 1048576: true; the input reads as it did. -/
def instrEncodesUptoRow : OpenClaim := { program := "ytnoccknoaihjlaa", sum := "9e67eda3f9fb42054b2741a988957bc76f5a17ab552b251fbee74f74270cbab1", func := "replevin/replevinlaw16.InstrEncodes", spec := "instrEncodes", unfollowed := true, recurses := true, apart := false, narrowed := true }
def InstrEncodesUptoSaid : Prop := instrEncodesUptoRow.holds Try.pinned (OpenSpec.upto instrEncodesSpec)

/-- 'replevinlaw16.InstrDecodes', WHERE WHAT IT READS IS OF BULK AT MOST 1048576: true; the input reads as it did. -/
def instrDecodesUptoRow : OpenClaim := { program := "ytnoccknoaihjlaa", sum := "9e67eda3f9fb42054b2741a988957bc76f5a17ab552b251fbee74f74270cbab1", func := "replevin/replevinlaw16.InstrDecodes", spec := "instrDecodes", unfollowed := true, recurses := true, apart := false, narrowed := true }
def InstrDecodesUptoSaid : Prop := instrDecodesUptoRow.holds Try.pinned (OpenSpec.upto instrDecodesSpec)

/-- 'replevinlaw16.InstrBytes', WHERE WHAT IT READS IS OF BULK AT MOST 1048576: true; the input reads as it did. -/
def instrBytesUptoRow : OpenClaim := { program := "ytnoccknoaihjlaa", sum := "9e67eda3f9fb42054b2741a988957bc76f5a17ab552b251fbee74f74270cbab1", func := "replevin/replevinlaw16.InstrBytes", spec := "instrBytes", unfollowed := true, recurses := true, apart := false, narrowed := true }
def InstrBytesUptoSaid : Prop := instrBytesUptoRow.holds Try.pinned (OpenSpec.upto instrBytesSpec)

/-- 'replevinlaw16.InstrForms', WHERE WHAT IT READS IS OF BULK AT MOST 1048576: true; the input reads as it did. -/
def instrFormsUptoRow : OpenClaim := { program := "ytnoccknoaihjlaa", sum := "9e67eda3f9fb42054b2741a988957bc76f5a17ab552b251fbee74f74270cbab1", func := "replevin/replevinlaw16.InstrForms", spec := "instrForms", unfollowed := true, recurses := true, apart := false, narrowed := true }
def InstrFormsUptoSaid : Prop := instrFormsUptoRow.holds Try.pinned (OpenSpec.upto instrFormsSpec)

/-- 'replevinlaw16.InstrLists', WHERE WHAT IT READS IS OF BULK AT MOST 1048576: true; the input reads as it did. -/
def instrListsUptoRow : OpenClaim := { program := "ytnoccknoaihjlaa", sum := "9e67eda3f9fb42054b2741a988957bc76f5a17ab552b251fbee74f74270cbab1", func := "replevin/replevinlaw16.InstrLists", spec := "instrLists", unfollowed := true, recurses := true, apart := false, narrowed := true }
def InstrListsUptoSaid : Prop := instrListsUptoRow.holds Try.pinned (OpenSpec.upto instrListsSpec)

/-- 'replevinlaw16.InstrRegisters', WHERE WHAT IT READS IS OF BULK AT MOST 1048576: true; the input reads as it did. -/
def instrRegistersUptoRow : OpenClaim := { program := "ytnoccknoaihjlaa", sum := "9e67eda3f9fb42054b2741a988957bc76f5a17ab552b251fbee74f74270cbab1", func := "replevin/replevinlaw16.InstrRegisters", spec := "instrRegisters", unfollowed := true, recurses := true, apart := false, narrowed := true }
def InstrRegistersUptoSaid : Prop := instrRegistersUptoRow.holds Try.pinned (OpenSpec.upto instrRegistersSpec)

end Rows
end Go.Proofs.Ytnoccknoaihjlaa
