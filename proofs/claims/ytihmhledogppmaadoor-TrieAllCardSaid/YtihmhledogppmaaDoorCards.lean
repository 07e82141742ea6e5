/-
  DERIVED. GIVEN WITH THE SEED: THE CARDS: each row of YtihmhledogppmaaDoorRows.lean that lists a variable, with what it lists TIED to the program's text (the seventh form; the later family's looks); each row that meets fmt, with fmt's text TOLD by the authors' own Lean function (tested against real Go, not proved from fmt's source: count such statements apart). THE CARD IS WHAT COUNTS. Prove the row's statement (the work); the ties are given (YtihmhledogppmaaDoorTie.lean); close each card by the builder's one call (the guide's Derived/Test/ToyasCard.lean, 'card_holds'). Laid BY PROGRAM, IN A SANDBOX (cutbox-door.mjs). By AI agents, Wed Nov 11 2026. No macro, syntax, notation, axiom, sorry.
-/
import Derived.Test.YtihmhledogppmaaDoorRows
import GoSem.ClaimSeven
namespace Go.Proofs.YtihmhledogppmaaDoor
namespace Rows

/-- THE TIED CARD OF 'levylaw3.TrieKeeps'. -/
def trieKeepsCard : Claim7 := { stood := { row := trieKeepsRow, standIns := [], harness := (true, "5a40be1cda4fa8cdf62069e6516bb00c20f10227900f63b92228db2f12b61131"), looks := false }, kinds := [], alts := [], laidByText := true, laidKinds := [.data], laidTests := true, laidLooks := .later }
def TrieKeepsCardSaid : Prop := Claim7.holds Tryd.pinned (.plain (OpenSpec.ofChange trieKeepsSpec)) trieKeepsCard

/-- THE TIED CARD OF 'levylaw3.TrieFrom'. -/
def trieFromCard : Claim7 := { stood := { row := trieFromRow, standIns := [], harness := (true, "5a40be1cda4fa8cdf62069e6516bb00c20f10227900f63b92228db2f12b61131"), looks := false }, kinds := [], alts := [], laidByText := true, laidKinds := [.data], laidTests := true, laidLooks := .later }
def TrieFromCardSaid : Prop := Claim7.holds Tryd.pinned (.plain (OpenSpec.ofChange trieFromSpec)) trieFromCard

/-- THE TIED CARD OF 'levylaw3.TrieShares'. -/
def trieSharesCard : Claim7 := { stood := { row := trieSharesRow, standIns := [], harness := (true, "5a40be1cda4fa8cdf62069e6516bb00c20f10227900f63b92228db2f12b61131"), looks := false }, kinds := [], alts := [], laidByText := true, laidKinds := [.data], laidTests := true, laidLooks := .later }
def TrieSharesCardSaid : Prop := Claim7.holds Tryd.pinned (.plain (OpenSpec.ofChange trieSharesSpec)) trieSharesCard

/-- THE TIED CARD OF 'levylaw3.TrieDiff'. -/
def trieDiffCard : Claim7 := { stood := { row := trieDiffRow, standIns := [], harness := (true, "5a40be1cda4fa8cdf62069e6516bb00c20f10227900f63b92228db2f12b61131"), looks := false }, kinds := [], alts := [], laidByText := true, laidKinds := [.data], laidTests := true, laidLooks := .later }
def TrieDiffCardSaid : Prop := Claim7.holds Tryd.pinned (.plain (OpenSpec.ofChange trieDiffSpec)) trieDiffCard

/-- THE TIED CARD OF 'levylaw3.TrieOrder'. -/
def trieOrderCard : Claim7 := { stood := { row := trieOrderRow, standIns := [], harness := (true, "5a40be1cda4fa8cdf62069e6516bb00c20f10227900f63b92228db2f12b61131"), looks := false }, kinds := [], alts := [], laidByText := true, laidKinds := [.data], laidTests := true, laidLooks := .later }
def TrieOrderCardSaid : Prop := Claim7.holds Tryd.pinned (.plain (OpenSpec.ofChange trieOrderSpec)) trieOrderCard

/-- THE TIED CARD OF 'levylaw3.TrieAll'. -/
def trieAllCard : Claim7 := { stood := { row := trieAllRow, standIns := [], harness := (true, "5a40be1cda4fa8cdf62069e6516bb00c20f10227900f63b92228db2f12b61131"), looks := false }, kinds := [], alts := [], laidByText := true, laidKinds := [.data], laidTests := true, laidLooks := .later }
def TrieAllCardSaid : Prop := Claim7.holds Tryd.pinned (.plain (OpenSpec.ofChange trieAllSpec)) trieAllCard

/-- THE TIED CARD OF 'levylaw3.TrieGrows'. -/
def trieGrowsCard : Claim7 := { stood := { row := trieGrowsRow, standIns := [], harness := (true, "5a40be1cda4fa8cdf62069e6516bb00c20f10227900f63b92228db2f12b61131"), looks := false }, kinds := [], alts := [], laidByText := true, laidKinds := [.data], laidTests := true, laidLooks := .later }
def TrieGrowsCardSaid : Prop := Claim7.holds Tryd.pinned (.plain (OpenSpec.ofChange trieGrowsSpec)) trieGrowsCard

/-- THE SECOND FORM's CARD OF 'levylaw3.TrieKeeps'. -/
def trieKeepsUptoCard : Claim7 := { stood := { row := trieKeepsUptoRow, standIns := [], harness := (true, "5a40be1cda4fa8cdf62069e6516bb00c20f10227900f63b92228db2f12b61131"), looks := false }, kinds := [], alts := [], laidByText := true, laidKinds := [.data], laidTests := true, laidLooks := .later }
def TrieKeepsUptoCardSaid : Prop := Claim7.holds Tryd.pinned (.plain (OpenSpec.upto trieKeepsSpec)) trieKeepsUptoCard

/-- THE SECOND FORM's CARD OF 'levylaw3.TrieFrom'. -/
def trieFromUptoCard : Claim7 := { stood := { row := trieFromUptoRow, standIns := [], harness := (true, "5a40be1cda4fa8cdf62069e6516bb00c20f10227900f63b92228db2f12b61131"), looks := false }, kinds := [], alts := [], laidByText := true, laidKinds := [.data], laidTests := true, laidLooks := .later }
def TrieFromUptoCardSaid : Prop := Claim7.holds Tryd.pinned (.plain (OpenSpec.upto trieFromSpec)) trieFromUptoCard

/-- THE SECOND FORM's CARD OF 'levylaw3.TrieShares'. -/
def trieSharesUptoCard : Claim7 := { stood := { row := trieSharesUptoRow, standIns := [], harness := (true, "5a40be1cda4fa8cdf62069e6516bb00c20f10227900f63b92228db2f12b61131"), looks := false }, kinds := [], alts := [], laidByText := true, laidKinds := [.data], laidTests := true, laidLooks := .later }
def TrieSharesUptoCardSaid : Prop := Claim7.holds Tryd.pinned (.plain (OpenSpec.upto trieSharesSpec)) trieSharesUptoCard

/-- THE SECOND FORM's CARD OF 'levylaw3.TrieDiff'. -/
def trieDiffUptoCard : Claim7 := { stood := { row := trieDiffUptoRow, standIns := [], harness := (true, "5a40be1cda4fa8cdf62069e6516bb00c20f10227900f63b92228db2f12b61131"), looks := false }, kinds := [], alts := [], laidByText := true, laidKinds := [.data], laidTests := true, laidLooks := .later }
def TrieDiffUptoCardSaid : Prop := Claim7.holds Tryd.pinned (.plain (OpenSpec.upto trieDiffSpec)) trieDiffUptoCard

/-- THE SECOND FORM's CARD OF 'levylaw3.TrieOrder'. -/
def trieOrderUptoCard : Claim7 := { stood := { row := trieOrderUptoRow, standIns := [], harness := (true, "5a40be1cda4fa8cdf62069e6516bb00c20f10227900f63b92228db2f12b61131"), looks := false }, kinds := [], alts := [], laidByText := true, laidKinds := [.data], laidTests := true, laidLooks := .later }
def TrieOrderUptoCardSaid : Prop := Claim7.holds Tryd.pinned (.plain (OpenSpec.upto trieOrderSpec)) trieOrderUptoCard

/-- THE SECOND FORM's CARD OF 'levylaw3.TrieAll'. -/
def trieAllUptoCard : Claim7 := { stood := { row := trieAllUptoRow, standIns := [], harness := (true, "5a40be1cda4fa8cdf62069e6516bb00c20f10227900f63b92228db2f12b61131"), looks := false }, kinds := [], alts := [], laidByText := true, laidKinds := [.data], laidTests := true, laidLooks := .later }
def TrieAllUptoCardSaid : Prop := Claim7.holds Tryd.pinned (.plain (OpenSpec.upto trieAllSpec)) trieAllUptoCard

/-- THE SECOND FORM's CARD OF 'levylaw3.TrieGrows'. -/
def trieGrowsUptoCard : Claim7 := { stood := { row := trieGrowsUptoRow, standIns := [], harness := (true, "5a40be1cda4fa8cdf62069e6516bb00c20f10227900f63b92228db2f12b61131"), looks := false }, kinds := [], alts := [], laidByText := true, laidKinds := [.data], laidTests := true, laidLooks := .later }
def TrieGrowsUptoCardSaid : Prop := Claim7.holds Tryd.pinned (.plain (OpenSpec.upto trieGrowsSpec)) trieGrowsUptoCard
end Rows
end Go.Proofs.YtihmhledogppmaaDoor
