/-
  NARROWER THAN 'FOR EVERY INPUT', by the rows' own cells (each row's printed sentence says how): TrieKeeps: laid · TrieFrom: laid · TrieShares: laid · TrieDiff: laid · TrieOrder: laid · TrieAll: laid · TrieGrows: laid.
  DERIVED. THE GIVEN ROWS OF THIS SEAT. 7 by the template 'for every input the law returns true; each argument reads behind the call as it read before'; 0 by the template 'total and deterministic' (their statements: YtihmhledogppmaaDoorTotals.lean).
  GIVEN WITH THE SEED: the statements are not yours to turn. If you find one false, say at which input.
  Laid BY PROGRAM, IN A SANDBOX (cutbox-rows.mjs): the forced cells as the released guide's own fill.sh prints them over the translation 40ead4400b480639… (all of the seat's roots in one cut). By AI agents, Wed Nov 11 2026. No macro, syntax, notation, axiom, sorry.
-/
import Derived.Test.YtihmhledogppmaaDoorChecked
import GoSem.Claim
import GoSem.ClaimJoined
import GoSem.ClaimMapViews
import Derived.JoinedTies
import Derived.KernelRfl
namespace Go.Proofs.YtihmhledogppmaaDoor
/- THE CELL 'sum', in the pinned program and in every row, IS THE sha256 OF THE DUMP (.gsa) THAT YtihmhledogppmaaDoorProg.lean LOADS. Nothing in Lean hashes anything: it is a label: what it is worth is what the hold of that sum in a sandbox is worth. -/
noncomputable def Tryd.pinned : Pinned := { name := "ytihmhledogppmaadoor", sum := "40ead4400b4806393a2726c15f34f72e773c97215a3c69fbb78e86b52a651da6", checked := Tryd.checked }
namespace Rows
def none {H : Type} : Left H := { results := [], args := [] }

/- WHAT THE LISTED PACKAGE-LEVEL VARIABLES READ AS WHEN THE CALL BEGINS. Each datum BY PROGRAM (the guide's laid-datum.mjs) off the statement by which the dump's own 'gosem.cut.vars' lays the variable. In a bare row this is a premise. The card (YtihmhledogppmaaDoorCards.lean) ties it to the program's text. -/
def laid_levy_levylaw3_none {H : Type} : DataW H := .agg [.lit (.int .u32 4000000001), .agg [.lit (.int .i64 (-77)), .lit (.int .i64 (-77))]]

/-- 'levylaw3.TrieKeeps': WHATEVER THE INPUT: true; the input reads as it did. -/
def trieKeepsSpec : ChangeSpec := { name := "trieKeeps", fn := fun _ => fun
  | [d1, d2] => { results := [.lit (.bool true)], args := [d1, d2] }
  | _ => none }
def trieKeepsRow : OpenClaim := { program := "ytihmhledogppmaadoor", sum := "40ead4400b4806393a2726c15f34f72e773c97215a3c69fbb78e86b52a651da6", func := "levy/levylaw3.TrieKeeps", spec := "trieKeeps", unfollowed := true, recurses := true, named := ["levy/levylaw3.none"], apart := false, laid := [("levy/levylaw3.none", laid_levy_levylaw3_none)] }
def TrieKeepsSaid : Prop := trieKeepsRow.holds Tryd.pinned (OpenSpec.ofChange trieKeepsSpec)

/-- ITS FALSE NEIGHBOUR: 'it returns false'. Refute it at one input. -/
def trieKeepsWrong : ChangeSpec := { name := "trieKeeps", fn := fun _ => fun
  | [d1, d2] => { results := [.lit (.bool false)], args := [d1, d2] }
  | _ => none }
def TrieKeepsWrongFalsely : Prop := trieKeepsRow.holds Tryd.pinned (OpenSpec.ofChange trieKeepsWrong)

/-- 'levylaw3.TrieFrom': WHATEVER THE INPUT: true; the input reads as it did. -/
def trieFromSpec : ChangeSpec := { name := "trieFrom", fn := fun _ => fun
  | [d1, d2, d3] => { results := [.lit (.bool true)], args := [d1, d2, d3] }
  | _ => none }
def trieFromRow : OpenClaim := { program := "ytihmhledogppmaadoor", sum := "40ead4400b4806393a2726c15f34f72e773c97215a3c69fbb78e86b52a651da6", func := "levy/levylaw3.TrieFrom", spec := "trieFrom", unfollowed := true, recurses := true, named := ["levy/levylaw3.none"], apart := false, laid := [("levy/levylaw3.none", laid_levy_levylaw3_none)] }
def TrieFromSaid : Prop := trieFromRow.holds Tryd.pinned (OpenSpec.ofChange trieFromSpec)

/-- ITS FALSE NEIGHBOUR: 'it returns false'. Refute it at one input. -/
def trieFromWrong : ChangeSpec := { name := "trieFrom", fn := fun _ => fun
  | [d1, d2, d3] => { results := [.lit (.bool false)], args := [d1, d2, d3] }
  | _ => none }
def TrieFromWrongFalsely : Prop := trieFromRow.holds Tryd.pinned (OpenSpec.ofChange trieFromWrong)

/-- 'levylaw3.TrieShares': WHATEVER THE INPUT: true; the input reads as it did. -/
def trieSharesSpec : ChangeSpec := { name := "trieShares", fn := fun _ => fun
  | [d1, d2] => { results := [.lit (.bool true)], args := [d1, d2] }
  | _ => none }
def trieSharesRow : OpenClaim := { program := "ytihmhledogppmaadoor", sum := "40ead4400b4806393a2726c15f34f72e773c97215a3c69fbb78e86b52a651da6", func := "levy/levylaw3.TrieShares", spec := "trieShares", unfollowed := true, recurses := true, named := ["levy/levylaw3.none"], apart := false, laid := [("levy/levylaw3.none", laid_levy_levylaw3_none)] }
def TrieSharesSaid : Prop := trieSharesRow.holds Tryd.pinned (OpenSpec.ofChange trieSharesSpec)

/-- ITS FALSE NEIGHBOUR: 'it returns false'. Refute it at one input. -/
def trieSharesWrong : ChangeSpec := { name := "trieShares", fn := fun _ => fun
  | [d1, d2] => { results := [.lit (.bool false)], args := [d1, d2] }
  | _ => none }
def TrieSharesWrongFalsely : Prop := trieSharesRow.holds Tryd.pinned (OpenSpec.ofChange trieSharesWrong)

/-- 'levylaw3.TrieDiff': WHATEVER THE INPUT: true; the input reads as it did. -/
def trieDiffSpec : ChangeSpec := { name := "trieDiff", fn := fun _ => fun
  | [d1, d2, d3] => { results := [.lit (.bool true)], args := [d1, d2, d3] }
  | _ => none }
def trieDiffRow : OpenClaim := { program := "ytihmhledogppmaadoor", sum := "40ead4400b4806393a2726c15f34f72e773c97215a3c69fbb78e86b52a651da6", func := "levy/levylaw3.TrieDiff", spec := "trieDiff", unfollowed := true, recurses := true, named := ["levy/levylaw3.none"], apart := false, laid := [("levy/levylaw3.none", laid_levy_levylaw3_none)] }
def TrieDiffSaid : Prop := trieDiffRow.holds Tryd.pinned (OpenSpec.ofChange trieDiffSpec)

/-- ITS FALSE NEIGHBOUR: 'it returns false'. Refute it at one input. -/
def trieDiffWrong : ChangeSpec := { name := "trieDiff", fn := fun _ => fun
  | [d1, d2, d3] => { results := [.lit (.bool false)], args := [d1, d2, d3] }
  | _ => none }
def TrieDiffWrongFalsely : Prop := trieDiffRow.holds Tryd.pinned (OpenSpec.ofChange trieDiffWrong)

/-- 'levylaw3.TrieOrder': WHATEVER THE INPUT: true; the input reads as it did. -/
def trieOrderSpec : ChangeSpec := { name := "trieOrder", fn := fun _ => fun
  | [d1, d2, d3] => { results := [.lit (.bool true)], args := [d1, d2, d3] }
  | _ => none }
def trieOrderRow : OpenClaim := { program := "ytihmhledogppmaadoor", sum := "40ead4400b4806393a2726c15f34f72e773c97215a3c69fbb78e86b52a651da6", func := "levy/levylaw3.TrieOrder", spec := "trieOrder", unfollowed := true, recurses := true, named := ["levy/levylaw3.none"], apart := false, laid := [("levy/levylaw3.none", laid_levy_levylaw3_none)] }
def TrieOrderSaid : Prop := trieOrderRow.holds Tryd.pinned (OpenSpec.ofChange trieOrderSpec)

/-- ITS FALSE NEIGHBOUR: 'it returns false'. Refute it at one input. -/
def trieOrderWrong : ChangeSpec := { name := "trieOrder", fn := fun _ => fun
  | [d1, d2, d3] => { results := [.lit (.bool false)], args := [d1, d2, d3] }
  | _ => none }
def TrieOrderWrongFalsely : Prop := trieOrderRow.holds Tryd.pinned (OpenSpec.ofChange trieOrderWrong)

/-- 'levylaw3.TrieAll': WHATEVER THE INPUT: true; the input reads as it did. -/
def trieAllSpec : ChangeSpec := { name := "trieAll", fn := fun _ => fun
  | [d] => { results := [.lit (.bool true)], args := [d] }
  | _ => none }
def trieAllRow : OpenClaim := { program := "ytihmhledogppmaadoor", sum := "40ead4400b4806393a2726c15f34f72e773c97215a3c69fbb78e86b52a651da6", func := "levy/levylaw3.TrieAll", spec := "trieAll", unfollowed := true, recurses := true, named := ["levy/levylaw3.none"], apart := false, laid := [("levy/levylaw3.none", laid_levy_levylaw3_none)] }
def TrieAllSaid : Prop := trieAllRow.holds Tryd.pinned (OpenSpec.ofChange trieAllSpec)

/-- ITS FALSE NEIGHBOUR: 'it returns false'. Refute it at one input. -/
def trieAllWrong : ChangeSpec := { name := "trieAll", fn := fun _ => fun
  | [d] => { results := [.lit (.bool false)], args := [d] }
  | _ => none }
def TrieAllWrongFalsely : Prop := trieAllRow.holds Tryd.pinned (OpenSpec.ofChange trieAllWrong)

/-- 'levylaw3.TrieGrows': WHATEVER THE INPUT: true; the input reads as it did. -/
def trieGrowsSpec : ChangeSpec := { name := "trieGrows", fn := fun _ => fun
  | [d1, d2] => { results := [.lit (.bool true)], args := [d1, d2] }
  | _ => none }
def trieGrowsRow : OpenClaim := { program := "ytihmhledogppmaadoor", sum := "40ead4400b4806393a2726c15f34f72e773c97215a3c69fbb78e86b52a651da6", func := "levy/levylaw3.TrieGrows", spec := "trieGrows", unfollowed := true, recurses := true, named := ["levy/levylaw3.none"], apart := false, laid := [("levy/levylaw3.none", laid_levy_levylaw3_none)] }
def TrieGrowsSaid : Prop := trieGrowsRow.holds Tryd.pinned (OpenSpec.ofChange trieGrowsSpec)

/-- ITS FALSE NEIGHBOUR: 'it returns false'. Refute it at one input. -/
def trieGrowsWrong : ChangeSpec := { name := "trieGrows", fn := fun _ => fun
  | [d1, d2] => { results := [.lit (.bool false)], args := [d1, d2] }
  | _ => none }
def TrieGrowsWrongFalsely : Prop := trieGrowsRow.holds Tryd.pinned (OpenSpec.ofChange trieGrowsWrong)

/- THE SECOND FORM. 'bulk': how many values and letters a reading holds, each counted each time it is reached (what is shared counts as often as it is met; a slice's spare places count too). A statement '..UptoSaid' is the law's where the arguments, and the package variables that the reading takes, are together of bulk at most 1048576: NARROWER than '..Said'. Prove '..Said' where nothing that the law and all that it calls make is longer than what came in: it says more and counts as full. Else prove '..UptoSaid'. A law counts once. -/
mutual
def uptoBulk {H : Type} : DataW H → Nat
  | .lit (.string bytes) => bytes.length + 1
  | .lit _ => 1
  | .nil => 1
  | .ptr d => uptoBulk d + 1
  | .slice elems spare => uptoBulkAll elems + uptoBulkAll spare + 1
  | .agg parts => uptoBulkAll parts + 1
  | .iface _ d => uptoBulk d + 1
  | .map entries => uptoBulkEntries entries + 1
  | .held _ => 1
def uptoBulkAll {H : Type} : List (DataW H) → Nat
  | [] => 0
  | d :: r => uptoBulk d + uptoBulkAll r
def uptoBulkEntries {H : Type} : List (Lit × DataW H) → Nat
  | [] => 0
  | x :: r => uptoBulkEntry x + uptoBulkEntries r
def uptoBulkEntry {H : Type} : Lit × DataW H → Nat
  | (.string bytes, d) => bytes.length + uptoBulk d + 1
  | (_, d) => uptoBulk d + 1
 end
def uptoSmall : (H : Type) → List (DataW H) → Bool := fun _ ds => decide (uptoBulkAll ds ≤ 1048576)
def OpenSpec.upto (s : _root_.Go.ChangeSpec) : _root_.Go.OpenSpec := { _root_.Go.OpenSpec.ofChange s with cond := some uptoSmall }

/-- 'levylaw3.TrieKeeps', WHERE WHAT IT READS IS OF BULK AT MOST 1048576: true; the input reads as it did. -/
def trieKeepsUptoRow : OpenClaim := { program := "ytihmhledogppmaadoor", sum := "40ead4400b4806393a2726c15f34f72e773c97215a3c69fbb78e86b52a651da6", func := "levy/levylaw3.TrieKeeps", spec := "trieKeeps", unfollowed := true, recurses := true, named := ["levy/levylaw3.none"], apart := false, laid := [("levy/levylaw3.none", laid_levy_levylaw3_none)], narrowed := true }
def TrieKeepsUptoSaid : Prop := trieKeepsUptoRow.holds Tryd.pinned (OpenSpec.upto trieKeepsSpec)

/-- 'levylaw3.TrieFrom', WHERE WHAT IT READS IS OF BULK AT MOST 1048576: true; the input reads as it did. -/
def trieFromUptoRow : OpenClaim := { program := "ytihmhledogppmaadoor", sum := "40ead4400b4806393a2726c15f34f72e773c97215a3c69fbb78e86b52a651da6", func := "levy/levylaw3.TrieFrom", spec := "trieFrom", unfollowed := true, recurses := true, named := ["levy/levylaw3.none"], apart := false, laid := [("levy/levylaw3.none", laid_levy_levylaw3_none)], narrowed := true }
def TrieFromUptoSaid : Prop := trieFromUptoRow.holds Tryd.pinned (OpenSpec.upto trieFromSpec)

/-- 'levylaw3.TrieShares', WHERE WHAT IT READS IS OF BULK AT MOST 1048576: true; the input reads as it did. -/
def trieSharesUptoRow : OpenClaim := { program := "ytihmhledogppmaadoor", sum := "40ead4400b4806393a2726c15f34f72e773c97215a3c69fbb78e86b52a651da6", func := "levy/levylaw3.TrieShares", spec := "trieShares", unfollowed := true, recurses := true, named := ["levy/levylaw3.none"], apart := false, laid := [("levy/levylaw3.none", laid_levy_levylaw3_none)], narrowed := true }
def TrieSharesUptoSaid : Prop := trieSharesUptoRow.holds Tryd.pinned (OpenSpec.upto trieSharesSpec)

/-- 'levylaw3.TrieDiff', WHERE WHAT IT READS IS OF BULK AT MOST 1048576: true; the input reads as it did. -/
def trieDiffUptoRow : OpenClaim := { program := "ytihmhledogppmaadoor", sum := "40ead4400b4806393a2726c15f34f72e773c97215a3c69fbb78e86b52a651da6", func := "levy/levylaw3.TrieDiff", spec := "trieDiff", unfollowed := true, recurses := true, named := ["levy/levylaw3.none"], apart := false, laid := [("levy/levylaw3.none", laid_levy_levylaw3_none)], narrowed := true }
def TrieDiffUptoSaid : Prop := trieDiffUptoRow.holds Tryd.pinned (OpenSpec.upto trieDiffSpec)

/-- 'levylaw3.TrieOrder', WHERE WHAT IT READS IS OF BULK AT MOST 1048576: true; the input reads as it did. -/
def trieOrderUptoRow : OpenClaim := { program := "ytihmhledogppmaadoor", sum := "40ead4400b4806393a2726c15f34f72e773c97215a3c69fbb78e86b52a651da6", func := "levy/levylaw3.TrieOrder", spec := "trieOrder", unfollowed := true, recurses := true, named := ["levy/levylaw3.none"], apart := false, laid := [("levy/levylaw3.none", laid_levy_levylaw3_none)], narrowed := true }
def TrieOrderUptoSaid : Prop := trieOrderUptoRow.holds Tryd.pinned (OpenSpec.upto trieOrderSpec)

/-- 'levylaw3.TrieAll', WHERE WHAT IT READS IS OF BULK AT MOST 1048576: true; the input reads as it did. -/
def trieAllUptoRow : OpenClaim := { program := "ytihmhledogppmaadoor", sum := "40ead4400b4806393a2726c15f34f72e773c97215a3c69fbb78e86b52a651da6", func := "levy/levylaw3.TrieAll", spec := "trieAll", unfollowed := true, recurses := true, named := ["levy/levylaw3.none"], apart := false, laid := [("levy/levylaw3.none", laid_levy_levylaw3_none)], narrowed := true }
def TrieAllUptoSaid : Prop := trieAllUptoRow.holds Tryd.pinned (OpenSpec.upto trieAllSpec)

/-- 'levylaw3.TrieGrows', WHERE WHAT IT READS IS OF BULK AT MOST 1048576: true; the input reads as it did. -/
def trieGrowsUptoRow : OpenClaim := { program := "ytihmhledogppmaadoor", sum := "40ead4400b4806393a2726c15f34f72e773c97215a3c69fbb78e86b52a651da6", func := "levy/levylaw3.TrieGrows", spec := "trieGrows", unfollowed := true, recurses := true, named := ["levy/levylaw3.none"], apart := false, laid := [("levy/levylaw3.none", laid_levy_levylaw3_none)], narrowed := true }
def TrieGrowsUptoSaid : Prop := trieGrowsUptoRow.holds Tryd.pinned (OpenSpec.upto trieGrowsSpec)

end Rows
end Go.Proofs.YtihmhledogppmaaDoor
