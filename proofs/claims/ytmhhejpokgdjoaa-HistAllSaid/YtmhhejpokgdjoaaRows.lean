/-
  No cell of these rows narrows 'for every input' (looked for: loops, veiled, ifaces, maps, wideKeys, modest, calm, conditions, laid).
  DERIVED. THE GIVEN ROWS OF THIS SEAT. 5 by the template 'for every input the law returns true; each argument reads behind the call as it read before'; 0 by the template 'total and deterministic' (their statements: YtmhhejpokgdjoaaTotals.lean).
  GIVEN WITH THE SEED: the statements are not yours to turn. If you find one false, say at which input.
  Laid BY PROGRAM, IN A SANDBOX (cutbox-rows.mjs): the forced cells as the released guide's own fill.sh prints them over the translation b4920cbb22e825b9… (all of the seat's roots in one cut). By AI agents, Wed Nov 11 2026. No macro, syntax, notation, axiom, sorry.
-/
import Derived.Test.YtmhhejpokgdjoaaChecked
import GoSem.Claim
import GoSem.ClaimJoined
import GoSem.ClaimMapViews
import Derived.JoinedTies
import Derived.KernelRfl
namespace Go.Proofs.Ytmhhejpokgdjoaa
/- THE CELL 'sum', in the pinned program and in every row, IS THE sha256 OF THE DUMP (.gsa) THAT YtmhhejpokgdjoaaProg.lean LOADS. Nothing in Lean hashes anything: it is a label: what it is worth is what the hold of that sum in a sandbox is worth. -/
noncomputable def Try.pinned : Pinned := { name := "ytmhhejpokgdjoaa", sum := "b4920cbb22e825b949806558d56c0bbeb41d68888841d5ebe812a5a3a04a6035", checked := Try.checked }
namespace Rows
def none {H : Type} : Left H := { results := [], args := [] }

/-- 'levylaw11.HistBack': WHATEVER THE INPUT: true; the input reads as it did. -/
def histBackSpec : ChangeSpec := { name := "histBack", fn := fun _ => fun
  | [d1, d2] => { results := [.lit (.bool true)], args := [d1, d2] }
  | _ => none }
def histBackRow : OpenClaim := { program := "ytmhhejpokgdjoaa", sum := "b4920cbb22e825b949806558d56c0bbeb41d68888841d5ebe812a5a3a04a6035", func := "levy/levylaw11.HistBack", spec := "histBack", unfollowed := true, recurses := true, apart := false }
def HistBackSaid : Prop := histBackRow.holds Try.pinned (OpenSpec.ofChange histBackSpec)

/-- ITS FALSE NEIGHBOUR: 'it returns false'. Refute it at one input. -/
def histBackWrong : ChangeSpec := { name := "histBack", fn := fun _ => fun
  | [d1, d2] => { results := [.lit (.bool false)], args := [d1, d2] }
  | _ => none }
def HistBackWrongFalsely : Prop := histBackRow.holds Try.pinned (OpenSpec.ofChange histBackWrong)

/-- 'levylaw11.HistBound': WHATEVER THE INPUT: true; the input reads as it did. -/
def histBoundSpec : ChangeSpec := { name := "histBound", fn := fun _ => fun
  | [d1, d2] => { results := [.lit (.bool true)], args := [d1, d2] }
  | _ => none }
def histBoundRow : OpenClaim := { program := "ytmhhejpokgdjoaa", sum := "b4920cbb22e825b949806558d56c0bbeb41d68888841d5ebe812a5a3a04a6035", func := "levy/levylaw11.HistBound", spec := "histBound", unfollowed := true, recurses := true, apart := false }
def HistBoundSaid : Prop := histBoundRow.holds Try.pinned (OpenSpec.ofChange histBoundSpec)

/-- ITS FALSE NEIGHBOUR: 'it returns false'. Refute it at one input. -/
def histBoundWrong : ChangeSpec := { name := "histBound", fn := fun _ => fun
  | [d1, d2] => { results := [.lit (.bool false)], args := [d1, d2] }
  | _ => none }
def HistBoundWrongFalsely : Prop := histBoundRow.holds Try.pinned (OpenSpec.ofChange histBoundWrong)

/-- 'levylaw11.HistApart': WHATEVER THE INPUT: true; the input reads as it did. -/
def histApartSpec : ChangeSpec := { name := "histApart", fn := fun _ => fun
  | [d1, d2, d3] => { results := [.lit (.bool true)], args := [d1, d2, d3] }
  | _ => none }
def histApartRow : OpenClaim := { program := "ytmhhejpokgdjoaa", sum := "b4920cbb22e825b949806558d56c0bbeb41d68888841d5ebe812a5a3a04a6035", func := "levy/levylaw11.HistApart", spec := "histApart", unfollowed := true, recurses := true, apart := false }
def HistApartSaid : Prop := histApartRow.holds Try.pinned (OpenSpec.ofChange histApartSpec)

/-- ITS FALSE NEIGHBOUR: 'it returns false'. Refute it at one input. -/
def histApartWrong : ChangeSpec := { name := "histApart", fn := fun _ => fun
  | [d1, d2, d3] => { results := [.lit (.bool false)], args := [d1, d2, d3] }
  | _ => none }
def HistApartWrongFalsely : Prop := histApartRow.holds Try.pinned (OpenSpec.ofChange histApartWrong)

/-- 'levylaw11.HistTouched': WHATEVER THE INPUT: true; the input reads as it did. -/
def histTouchedSpec : ChangeSpec := { name := "histTouched", fn := fun _ => fun
  | [d1, d2, d3, d4] => { results := [.lit (.bool true)], args := [d1, d2, d3, d4] }
  | _ => none }
def histTouchedRow : OpenClaim := { program := "ytmhhejpokgdjoaa", sum := "b4920cbb22e825b949806558d56c0bbeb41d68888841d5ebe812a5a3a04a6035", func := "levy/levylaw11.HistTouched", spec := "histTouched", unfollowed := true, recurses := true, apart := false }
def HistTouchedSaid : Prop := histTouchedRow.holds Try.pinned (OpenSpec.ofChange histTouchedSpec)

/-- ITS FALSE NEIGHBOUR: 'it returns false'. Refute it at one input. -/
def histTouchedWrong : ChangeSpec := { name := "histTouched", fn := fun _ => fun
  | [d1, d2, d3, d4] => { results := [.lit (.bool false)], args := [d1, d2, d3, d4] }
  | _ => none }
def HistTouchedWrongFalsely : Prop := histTouchedRow.holds Try.pinned (OpenSpec.ofChange histTouchedWrong)

/-- 'levylaw11.HistAll': WHATEVER THE INPUT: true; the input reads as it did. -/
def histAllSpec : ChangeSpec := { name := "histAll", fn := fun _ => fun
  | [d1, d2, d3] => { results := [.lit (.bool true)], args := [d1, d2, d3] }
  | _ => none }
def histAllRow : OpenClaim := { program := "ytmhhejpokgdjoaa", sum := "b4920cbb22e825b949806558d56c0bbeb41d68888841d5ebe812a5a3a04a6035", func := "levy/levylaw11.HistAll", spec := "histAll", unfollowed := true, recurses := true, apart := false }
def HistAllSaid : Prop := histAllRow.holds Try.pinned (OpenSpec.ofChange histAllSpec)

/-- ITS FALSE NEIGHBOUR: 'it returns false'. Refute it at one input. -/
def histAllWrong : ChangeSpec := { name := "histAll", fn := fun _ => fun
  | [d1, d2, d3] => { results := [.lit (.bool false)], args := [d1, d2, d3] }
  | _ => none }
def HistAllWrongFalsely : Prop := histAllRow.holds Try.pinned (OpenSpec.ofChange histAllWrong)

/- THE SECOND FORM. 'bulk': how many values and letters a reading holds, each counted each time it is reached (what is shared counts as often as it is met; a slice's spare places count too). A statement '..UptoSaid' is the law's where the arguments, and the package variables that the reading takes, are together of bulk at most 1048576: NARROWER than '..Said'. Prove '..Said' where nothing that the law and all that it calls make is longer than what came in: it says more and counts as full. Else prove '..UptoSaid'. A law counts once. -/
mutual
def uptoBulk {H : Type} : DataW H → Nat
  | .lit (.string bytes) => bytes.length + 1
  | .lit _ => 1
  | .nil => 1
  | .ptr d => uptoBulk d + 1
  | .slice elems spare => uptoBulkAll elems + uptoBulkAll spare + 1
  | .agg parts => uptoBulkAll parts + 1
  | .iface _ d => uptoBulk d + 1
  | .map entries => uptoBulkEntries entries + 1
  | .held _ => 1
def uptoBulkAll {H : Type} : List (DataW H) → Nat
  | [] => 0
  | d :: r => uptoBulk d + uptoBulkAll r
def uptoBulkEntries {H : Type} : List (Lit × DataW H) → Nat
  | [] => 0
  | x :: r => uptoBulkEntry x + uptoBulkEntries r
def uptoBulkEntry {H : Type} : Lit × DataW H → Nat
  | (.string bytes, d) => bytes.length + uptoBulk d + 1
  | (_, d) => uptoBulk d + 1
 end
def uptoSmall : (H : Type) → List (DataW H) → Bool := fun _ ds => decide (uptoBulkAll ds ≤ 1048576)
def OpenSpec.upto (s : _root_.Go.ChangeSpec) : _root_.Go.OpenSpec := { _root_.Go.OpenSpec.ofChange s with cond := some uptoSmall }

/-- 'levylaw11.HistBack', WHERE WHAT IT READS IS OF BULK AT MOST 1048576: true; the input reads as it did. -/
def histBackUptoRow : OpenClaim := { program := "ytmhhejpokgdjoaa", sum := "b4920cbb22e825b949806558d56c0bbeb41d68888841d5ebe812a5a3a04a6035", func := "levy/levylaw11.HistBack", spec := "histBack", unfollowed := true, recurses := true, apart := false, narrowed := true }
def HistBackUptoSaid : Prop := histBackUptoRow.holds Try.pinned (OpenSpec.upto histBackSpec)

/-- 'levylaw11.HistBound', WHERE WHAT IT READS IS OF BULK AT MOST 1048576: true; the input reads as it did. -/
def histBoundUptoRow : OpenClaim := { program := "ytmhhejpokgdjoaa", sum := "b4920cbb22e825b949806558d56c0bbeb41d68888841d5ebe812a5a3a04a6035", func := "levy/levylaw11.HistBound", spec := "histBound", unfollowed := true, recurses := true, apart := false, narrowed := true }
def HistBoundUptoSaid : Prop := histBoundUptoRow.holds Try.pinned (OpenSpec.upto histBoundSpec)

/-- 'levylaw11.HistApart', WHERE WHAT IT READS IS OF BULK AT MOST 1048576: true; the input reads as it did. -/
def histApartUptoRow : OpenClaim := { program := "ytmhhejpokgdjoaa", sum := "b4920cbb22e825b949806558d56c0bbeb41d68888841d5ebe812a5a3a04a6035", func := "levy/levylaw11.HistApart", spec := "histApart", unfollowed := true, recurses := true, apart := false, narrowed := true }
def HistApartUptoSaid : Prop := histApartUptoRow.holds Try.pinned (OpenSpec.upto histApartSpec)

/-- 'levylaw11.HistTouched', WHERE WHAT IT READS IS OF BULK AT MOST 1048576: true; the input reads as it did. -/
def histTouchedUptoRow : OpenClaim := { program := "ytmhhejpokgdjoaa", sum := "b4920cbb22e825b949806558d56c0bbeb41d68888841d5ebe812a5a3a04a6035", func := "levy/levylaw11.HistTouched", spec := "histTouched", unfollowed := true, recurses := true, apart := false, narrowed := true }
def HistTouchedUptoSaid : Prop := histTouchedUptoRow.holds Try.pinned (OpenSpec.upto histTouchedSpec)

/-- 'levylaw11.HistAll', WHERE WHAT IT READS IS OF BULK AT MOST 1048576: true; the input reads as it did. -/
def histAllUptoRow : OpenClaim := { program := "ytmhhejpokgdjoaa", sum := "b4920cbb22e825b949806558d56c0bbeb41d68888841d5ebe812a5a3a04a6035", func := "levy/levylaw11.HistAll", spec := "histAll", unfollowed := true, recurses := true, apart := false, narrowed := true }
def HistAllUptoSaid : Prop := histAllUptoRow.holds Try.pinned (OpenSpec.upto histAllSpec)

end Rows
end Go.Proofs.Ytmhhejpokgdjoaa
