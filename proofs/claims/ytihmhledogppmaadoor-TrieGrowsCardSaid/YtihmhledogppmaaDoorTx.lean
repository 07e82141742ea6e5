/- changes, with what is told as a name of its own. -/
import Derived.Test.YtihmhledogppmaaDoorTg
import Derived.Test.YtihmhledogppmaaDoorDp
import Derived.Test.YtihmhledogppmaaDoorKn
namespace Go.Proofs.YtihmhledogppmaaDoor
open Go Go.RowKit
set_option linter.unusedVariables false

/-- What is told of two maps. -/
structure DifOf (D : List Ch) (a b : Tr 8) : Prop where
  mem : ∀ c ∈ D, c.1 < 4294967296 ∧ c.2.1 = a.get c.1 ∧ c.2.2 = b.get c.1 ∧ c.2.1 ≠ c.2.2
  srt : SrtC D
  nil : D = [] ↔ a.ents 0 = b.ents 0
  lays : D.foldl layC (a.ents 0) = b.ents 0
  len : D.length ≤ (a.ents 0).length + (b.ents 0).length
theorem difOf {D : List Ch} {a b : Tr 8} (h : difs a b 0 = D) : DifOf D a b := by
  subst h
  exact ⟨fun c hc => mem_difs0.1 hc, difs_srt a b 0, difs_nil_iff, lays_difs a b, difs_len a b 0⟩
theorem changes_D (ba bb : Nat) (a b : Tr 8) (D : List Ch) (hD : difs a b 0 = D) (w : World) (ha : MapT w ba a) (hb : MapT w bb b) (hN : D.length ≤ 5000) :
    Calls Tryd.prog 25 #[.pointer (some ⟨ba, 0, none⟩), .pointer (some ⟨bb, 0, none⟩), .int .i64 (-1)] w fun e w' => ∃ z c, e = .returned (.slice z D.length c) ∧ Rd w' 7 encC (.slice z D.length c) D ∧ Below w.heap.size w w' := by
  subst hD
  refine (changes_any ba bb a b (-1) (by decide) w ha hb hN).mono ?_
  rintro e w' ⟨cs, rfl, hO, hB⟩
  rw [show cutL (difs a b 0) (-1) = difs a b 0 by unfold cutL; rw [if_pos (by decide)]] at hO
  obtain ⟨z, c, rfl⟩ := hO.len
  exact ⟨z, c, rfl, hO.rd encC_len, hB⟩
end Go.Proofs.YtihmhledogppmaaDoor
