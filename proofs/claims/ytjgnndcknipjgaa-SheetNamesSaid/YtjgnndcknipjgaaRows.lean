/-
  No cell of these rows narrows 'for every input' (looked for: loops, veiled, ifaces, maps, wideKeys, modest, calm, conditions, laid).
  DERIVED. THE GIVEN ROWS OF THIS SEAT. 9 by the template 'for every input the law returns true; each argument reads behind the call as it read before'; 0 by the template 'total and deterministic' (their statements: YtjgnndcknipjgaaTotals.lean).
  GIVEN WITH THE SEED: the statements are not yours to turn. If you find one false, say at which input.
  Laid BY PROGRAM, IN A SANDBOX (cutbox-rows.mjs): the forced cells as the released guide's own fill.sh prints them over the translation a44f7cda362f8bd8… (all of the seat's roots in one cut). By AI agents, Wed Nov 11 2026. No macro, syntax, notation, axiom, sorry.
-/
import Derived.Test.YtjgnndcknipjgaaChecked
import GoSem.Claim
import GoSem.ClaimJoined
import GoSem.ClaimMapViews
import Derived.JoinedTies
import Derived.KernelRfl
namespace Go.Proofs.Ytjgnndcknipjgaa
/- THE CELL 'sum', in the pinned program and in every row, IS THE sha256 OF THE DUMP (.gsa) THAT YtjgnndcknipjgaaProg.lean LOADS. Nothing in Lean hashes anything: it is a label: what it is worth is what the hold of that sum in a sandbox is worth. -/
noncomputable def Try.pinned : Pinned := { name := "ytjgnndcknipjgaa", sum := "a44f7cda362f8bd863c8d7607d60b59876c49d985b6e19b3ea99d0d22aadb5a1", checked := Try.checked }
namespace Rows
def none {H : Type} : Left H := { results := [], args := [] }

/-- 'levylaw9.EvalNames': WHATEVER THE INPUT: true; the input reads as it did. -/
def evalNamesSpec : ChangeSpec := { name := "evalNames", fn := fun _ => fun
  | [] => { results := [.lit (.bool true)], args := [] }
  | _ => none }
def evalNamesRow : OpenClaim := { program := "ytjgnndcknipjgaa", sum := "a44f7cda362f8bd863c8d7607d60b59876c49d985b6e19b3ea99d0d22aadb5a1", func := "levy/levylaw9.EvalNames", spec := "evalNames", apart := false }
def EvalNamesSaid : Prop := evalNamesRow.holds Try.pinned (OpenSpec.ofChange evalNamesSpec)

/-- ITS FALSE NEIGHBOUR: 'it returns false'. Refute it at one input. -/
def evalNamesWrong : ChangeSpec := { name := "evalNames", fn := fun _ => fun
  | [] => { results := [.lit (.bool false)], args := [] }
  | _ => none }
def EvalNamesWrongFalsely : Prop := evalNamesRow.holds Try.pinned (OpenSpec.ofChange evalNamesWrong)

/-- 'levylaw16.AdviseNames': WHATEVER THE INPUT: true; the input reads as it did. -/
def adviseNamesSpec : ChangeSpec := { name := "adviseNames", fn := fun _ => fun
  | [] => { results := [.lit (.bool true)], args := [] }
  | _ => none }
def adviseNamesRow : OpenClaim := { program := "ytjgnndcknipjgaa", sum := "a44f7cda362f8bd863c8d7607d60b59876c49d985b6e19b3ea99d0d22aadb5a1", func := "levy/levylaw16.AdviseNames", spec := "adviseNames", apart := false }
def AdviseNamesSaid : Prop := adviseNamesRow.holds Try.pinned (OpenSpec.ofChange adviseNamesSpec)

/-- ITS FALSE NEIGHBOUR: 'it returns false'. Refute it at one input. -/
def adviseNamesWrong : ChangeSpec := { name := "adviseNames", fn := fun _ => fun
  | [] => { results := [.lit (.bool false)], args := [] }
  | _ => none }
def AdviseNamesWrongFalsely : Prop := adviseNamesRow.holds Try.pinned (OpenSpec.ofChange adviseNamesWrong)

/-- 'levylaw10.IncrNames': WHATEVER THE INPUT: true; the input reads as it did. -/
def incrNamesSpec : ChangeSpec := { name := "incrNames", fn := fun _ => fun
  | [] => { results := [.lit (.bool true)], args := [] }
  | _ => none }
def incrNamesRow : OpenClaim := { program := "ytjgnndcknipjgaa", sum := "a44f7cda362f8bd863c8d7607d60b59876c49d985b6e19b3ea99d0d22aadb5a1", func := "levy/levylaw10.IncrNames", spec := "incrNames", apart := false }
def IncrNamesSaid : Prop := incrNamesRow.holds Try.pinned (OpenSpec.ofChange incrNamesSpec)

/-- ITS FALSE NEIGHBOUR: 'it returns false'. Refute it at one input. -/
def incrNamesWrong : ChangeSpec := { name := "incrNames", fn := fun _ => fun
  | [] => { results := [.lit (.bool false)], args := [] }
  | _ => none }
def IncrNamesWrongFalsely : Prop := incrNamesRow.holds Try.pinned (OpenSpec.ofChange incrNamesWrong)

/-- 'levylaw13.TraceNames': WHATEVER THE INPUT: true; the input reads as it did. -/
def traceNamesSpec : ChangeSpec := { name := "traceNames", fn := fun _ => fun
  | [] => { results := [.lit (.bool true)], args := [] }
  | _ => none }
def traceNamesRow : OpenClaim := { program := "ytjgnndcknipjgaa", sum := "a44f7cda362f8bd863c8d7607d60b59876c49d985b6e19b3ea99d0d22aadb5a1", func := "levy/levylaw13.TraceNames", spec := "traceNames", apart := false }
def TraceNamesSaid : Prop := traceNamesRow.holds Try.pinned (OpenSpec.ofChange traceNamesSpec)

/-- ITS FALSE NEIGHBOUR: 'it returns false'. Refute it at one input. -/
def traceNamesWrong : ChangeSpec := { name := "traceNames", fn := fun _ => fun
  | [] => { results := [.lit (.bool false)], args := [] }
  | _ => none }
def TraceNamesWrongFalsely : Prop := traceNamesRow.holds Try.pinned (OpenSpec.ofChange traceNamesWrong)

/-- 'levylaw14.AuditNames': WHATEVER THE INPUT: true; the input reads as it did. -/
def auditNamesSpec : ChangeSpec := { name := "auditNames", fn := fun _ => fun
  | [] => { results := [.lit (.bool true)], args := [] }
  | _ => none }
def auditNamesRow : OpenClaim := { program := "ytjgnndcknipjgaa", sum := "a44f7cda362f8bd863c8d7607d60b59876c49d985b6e19b3ea99d0d22aadb5a1", func := "levy/levylaw14.AuditNames", spec := "auditNames", apart := false }
def AuditNamesSaid : Prop := auditNamesRow.holds Try.pinned (OpenSpec.ofChange auditNamesSpec)

/-- ITS FALSE NEIGHBOUR: 'it returns false'. Refute it at one input. -/
def auditNamesWrong : ChangeSpec := { name := "auditNames", fn := fun _ => fun
  | [] => { results := [.lit (.bool false)], args := [] }
  | _ => none }
def AuditNamesWrongFalsely : Prop := auditNamesRow.holds Try.pinned (OpenSpec.ofChange auditNamesWrong)

/-- 'levylaw15.MergeNames': WHATEVER THE INPUT: true; the input reads as it did. -/
def mergeNamesSpec : ChangeSpec := { name := "mergeNames", fn := fun _ => fun
  | [] => { results := [.lit (.bool true)], args := [] }
  | _ => none }
def mergeNamesRow : OpenClaim := { program := "ytjgnndcknipjgaa", sum := "a44f7cda362f8bd863c8d7607d60b59876c49d985b6e19b3ea99d0d22aadb5a1", func := "levy/levylaw15.MergeNames", spec := "mergeNames", apart := false }
def MergeNamesSaid : Prop := mergeNamesRow.holds Try.pinned (OpenSpec.ofChange mergeNamesSpec)

/-- ITS FALSE NEIGHBOUR: 'it returns false'. Refute it at one input. -/
def mergeNamesWrong : ChangeSpec := { name := "mergeNames", fn := fun _ => fun
  | [] => { results := [.lit (.bool false)], args := [] }
  | _ => none }
def MergeNamesWrongFalsely : Prop := mergeNamesRow.holds Try.pinned (OpenSpec.ofChange mergeNamesWrong)

/-- 'levylaw18.SheetNames': WHATEVER THE INPUT: true; the input reads as it did. -/
def sheetNamesSpec : ChangeSpec := { name := "sheetNames", fn := fun _ => fun
  | [] => { results := [.lit (.bool true)], args := [] }
  | _ => none }
def sheetNamesRow : OpenClaim := { program := "ytjgnndcknipjgaa", sum := "a44f7cda362f8bd863c8d7607d60b59876c49d985b6e19b3ea99d0d22aadb5a1", func := "levy/levylaw18.SheetNames", spec := "sheetNames", apart := false }
def SheetNamesSaid : Prop := sheetNamesRow.holds Try.pinned (OpenSpec.ofChange sheetNamesSpec)

/-- ITS FALSE NEIGHBOUR: 'it returns false'. Refute it at one input. -/
def sheetNamesWrong : ChangeSpec := { name := "sheetNames", fn := fun _ => fun
  | [] => { results := [.lit (.bool false)], args := [] }
  | _ => none }
def SheetNamesWrongFalsely : Prop := sheetNamesRow.holds Try.pinned (OpenSpec.ofChange sheetNamesWrong)

/-- 'levylaw3.TrieNames': WHATEVER THE INPUT: true; the input reads as it did. -/
def trieNamesSpec : ChangeSpec := { name := "trieNames", fn := fun _ => fun
  | [] => { results := [.lit (.bool true)], args := [] }
  | _ => none }
def trieNamesRow : OpenClaim := { program := "ytjgnndcknipjgaa", sum := "a44f7cda362f8bd863c8d7607d60b59876c49d985b6e19b3ea99d0d22aadb5a1", func := "levy/levylaw3.TrieNames", spec := "trieNames", apart := false }
def TrieNamesSaid : Prop := trieNamesRow.holds Try.pinned (OpenSpec.ofChange trieNamesSpec)

/-- ITS FALSE NEIGHBOUR: 'it returns false'. Refute it at one input. -/
def trieNamesWrong : ChangeSpec := { name := "trieNames", fn := fun _ => fun
  | [] => { results := [.lit (.bool false)], args := [] }
  | _ => none }
def TrieNamesWrongFalsely : Prop := trieNamesRow.holds Try.pinned (OpenSpec.ofChange trieNamesWrong)

/-- 'levylaw11.HistNames': WHATEVER THE INPUT: true; the input reads as it did. -/
def histNamesSpec : ChangeSpec := { name := "histNames", fn := fun _ => fun
  | [] => { results := [.lit (.bool true)], args := [] }
  | _ => none }
def histNamesRow : OpenClaim := { program := "ytjgnndcknipjgaa", sum := "a44f7cda362f8bd863c8d7607d60b59876c49d985b6e19b3ea99d0d22aadb5a1", func := "levy/levylaw11.HistNames", spec := "histNames", apart := false }
def HistNamesSaid : Prop := histNamesRow.holds Try.pinned (OpenSpec.ofChange histNamesSpec)

/-- ITS FALSE NEIGHBOUR: 'it returns false'. Refute it at one input. -/
def histNamesWrong : ChangeSpec := { name := "histNames", fn := fun _ => fun
  | [] => { results := [.lit (.bool false)], args := [] }
  | _ => none }
def HistNamesWrongFalsely : Prop := histNamesRow.holds Try.pinned (OpenSpec.ofChange histNamesWrong)

/- THE SECOND FORM. 'bulk': how many values and letters a reading holds, each counted each time it is reached (what is shared counts as often as it is met; a slice's spare places count too). A statement '..UptoSaid' is the law's where the arguments, and the package variables that the reading takes, are together of bulk at most 1048576: NARROWER than '..Said'. Prove '..Said' where nothing that the law and all that it calls make is longer than what came in: it says more and counts as full. Else prove '..UptoSaid'. A law counts once. -/
mutual
def uptoBulk {H : Type} : DataW H → Nat
  | .lit (.string bytes) => bytes.length + 1
  | .lit _ => 1
  | .nil => 1
  | .ptr d => uptoBulk d + 1
  | .slice elems spare => uptoBulkAll elems + uptoBulkAll spare + 1
  | .agg parts => uptoBulkAll parts + 1
  | .iface _ d => uptoBulk d + 1
  | .map entries => uptoBulkEntries entries + 1
  | .held _ => 1
def uptoBulkAll {H : Type} : List (DataW H) → Nat
  | [] => 0
  | d :: r => uptoBulk d + uptoBulkAll r
def uptoBulkEntries {H : Type} : List (Lit × DataW H) → Nat
  | [] => 0
  | x :: r => uptoBulkEntry x + uptoBulkEntries r
def uptoBulkEntry {H : Type} : Lit × DataW H → Nat
  | (.string bytes, d) => bytes.length + uptoBulk d + 1
  | (_, d) => uptoBulk d + 1
 end
def uptoSmall : (H : Type) → List (DataW H) → Bool := fun _ ds => decide (uptoBulkAll ds ≤ 1048576)
def OpenSpec.upto (s : _root_.Go.ChangeSpec) : _root_.Go.OpenSpec := { _root_.Go.OpenSpec.ofChange s with cond := some uptoSmall }

/-- 'levylaw9.EvalNames', WHERE WHAT IT READS IS OF BULK AT MOST 1048576: true; the input reads as it did. -/
def evalNamesUptoRow : OpenClaim := { program := "ytjgnndcknipjgaa", sum := "a44f7cda362f8bd863c8d7607d60b59876c49d985b6e19b3ea99d0d22aadb5a1", func := "levy/levylaw9.EvalNames", spec := "evalNames", apart := false, narrowed := true }
def EvalNamesUptoSaid : Prop := evalNamesUptoRow.holds Try.pinned (OpenSpec.upto evalNamesSpec)

/-- 'levylaw16.AdviseNames', WHERE WHAT IT READS IS OF BULK AT MOST 1048576: true; the input reads as it did. -/
def adviseNamesUptoRow : OpenClaim := { program := "ytjgnndcknipjgaa", sum := "a44f7cda362f8bd863c8d7607d60b59876c49d985b6e19b3ea99d0d22aadb5a1", func := "levy/levylaw16.AdviseNames", spec := "adviseNames", apart := false, narrowed := true }
def AdviseNamesUptoSaid : Prop := adviseNamesUptoRow.holds Try.pinned (OpenSpec.upto adviseNamesSpec)

/-- 'levylaw10.IncrNames', WHERE WHAT IT READS IS OF BULK AT MOST 1048576: true; the input reads as it did. -/
def incrNamesUptoRow : OpenClaim := { program := "ytjgnndcknipjgaa", sum := "a44f7cda362f8bd863c8d7607d60b59876c49d985b6e19b3ea99d0d22aadb5a1", func := "levy/levylaw10.IncrNames", spec := "incrNames", apart := false, narrowed := true }
def IncrNamesUptoSaid : Prop := incrNamesUptoRow.holds Try.pinned (OpenSpec.upto incrNamesSpec)

/-- 'levylaw13.TraceNames', WHERE WHAT IT READS IS OF BULK AT MOST 1048576: true; the input reads as it did. -/
def traceNamesUptoRow : OpenClaim := { program := "ytjgnndcknipjgaa", sum := "a44f7cda362f8bd863c8d7607d60b59876c49d985b6e19b3ea99d0d22aadb5a1", func := "levy/levylaw13.TraceNames", spec := "traceNames", apart := false, narrowed := true }
def TraceNamesUptoSaid : Prop := traceNamesUptoRow.holds Try.pinned (OpenSpec.upto traceNamesSpec)

/-- 'levylaw14.AuditNames', WHERE WHAT IT READS IS OF BULK AT MOST 1048576: true; the input reads as it did. -/
def auditNamesUptoRow : OpenClaim := { program := "ytjgnndcknipjgaa", sum := "a44f7cda362f8bd863c8d7607d60b59876c49d985b6e19b3ea99d0d22aadb5a1", func := "levy/levylaw14.AuditNames", spec := "auditNames", apart := false, narrowed := true }
def AuditNamesUptoSaid : Prop := auditNamesUptoRow.holds Try.pinned (OpenSpec.upto auditNamesSpec)

/-- 'levylaw15.MergeNames', WHERE WHAT IT READS IS OF BULK AT MOST 1048576: true; the input reads as it did. -/
def mergeNamesUptoRow : OpenClaim := { program := "ytjgnndcknipjgaa", sum := "a44f7cda362f8bd863c8d7607d60b59876c49d985b6e19b3ea99d0d22aadb5a1", func := "levy/levylaw15.MergeNames", spec := "mergeNames", apart := false, narrowed := true }
def MergeNamesUptoSaid : Prop := mergeNamesUptoRow.holds Try.pinned (OpenSpec.upto mergeNamesSpec)

/-- 'levylaw18.SheetNames', WHERE WHAT IT READS IS OF BULK AT MOST 1048576: true; the input reads as it did. -/
def sheetNamesUptoRow : OpenClaim := { program := "ytjgnndcknipjgaa", sum := "a44f7cda362f8bd863c8d7607d60b59876c49d985b6e19b3ea99d0d22aadb5a1", func := "levy/levylaw18.SheetNames", spec := "sheetNames", apart := false, narrowed := true }
def SheetNamesUptoSaid : Prop := sheetNamesUptoRow.holds Try.pinned (OpenSpec.upto sheetNamesSpec)

/-- 'levylaw3.TrieNames', WHERE WHAT IT READS IS OF BULK AT MOST 1048576: true; the input reads as it did. -/
def trieNamesUptoRow : OpenClaim := { program := "ytjgnndcknipjgaa", sum := "a44f7cda362f8bd863c8d7607d60b59876c49d985b6e19b3ea99d0d22aadb5a1", func := "levy/levylaw3.TrieNames", spec := "trieNames", apart := false, narrowed := true }
def TrieNamesUptoSaid : Prop := trieNamesUptoRow.holds Try.pinned (OpenSpec.upto trieNamesSpec)

/-- 'levylaw11.HistNames', WHERE WHAT IT READS IS OF BULK AT MOST 1048576: true; the input reads as it did. -/
def histNamesUptoRow : OpenClaim := { program := "ytjgnndcknipjgaa", sum := "a44f7cda362f8bd863c8d7607d60b59876c49d985b6e19b3ea99d0d22aadb5a1", func := "levy/levylaw11.HistNames", spec := "histNames", apart := false, narrowed := true }
def HistNamesUptoSaid : Prop := histNamesUptoRow.holds Try.pinned (OpenSpec.upto histNamesSpec)

end Rows
end Go.Proofs.Ytjgnndcknipjgaa
