/- The reference's history as the list of its versions; what leaves it alone. -/
import Derived.Test.YtmhhejpokgdjoaaRi
import Derived.Test.YtmhhejpokgdjoaaRs
import Derived.Test.YtmhhejpokgdjoaaHiX
namespace Go.Proofs.Ytmhhejpokgdjoaa
open Go Go.RowKit
set_option linter.unusedVariables false
set_option linter.unusedSimpArgs false

/-- Block c is a map of the reference, of these entries. -/
def RefL (w : World) (c : Nat) (l : List E) : Prop := ∃ L, RefAt w c L ∧ L.map entR = l ∧ SrtE L
theorem RefL.ext {w w' : World} {c : Nat} {l : List E} (h : RefL w c l) (hb : Below w.heap.size w w') : RefL w' c l := by
  obtain ⟨L, h1, h2⟩ := h
  exact ⟨L, h1.ext hb, h2⟩
/-- A slice whose elements don't look like a history's cells does not lie in a history's block. -/
theorem rd_offG {α : Type} {w : World} {b s : Nat} {a : Option Addr} {n c : Nat} {i : Int} {enc : α → List Value} {l : List α} {v : Value} (hb : Holds w b (hCells (.slice a n c) i)) (hr : Rd w s enc v l)
    (hn : ∀ x, ∃ u, (enc x)[0]? = some u ∧ (∀ a n c, u ≠ .slice a n c) ∧ ((∀ k, u ≠ .int .i64 k) ∨ ∃ u', (enc x)[1]? = some u')) : ∀ g o m k, v = .slice (some ⟨g, o, none⟩) m k → l ≠ [] → g ≠ b := by
  rintro g o m k rfl hne rfl
  obtain ⟨a', c', hv, hr⟩ := hr
  rcases hr with rfl | ⟨g', off, ha, hlt, hc⟩
  · exact hne rfl
  · simp only [Value.slice.injEq] at hv
    obtain ⟨rfl, _, _⟩ := hv
    simp only [Option.some.injEq, Addr.mk.injEq] at ha
    obtain ⟨rfl, rfl, _⟩ := ha
    cases l with
    | nil => exact hne rfl
    | cons p l =>
      obtain ⟨u, hu, hns, hor⟩ := hn p
      have h0 := hc 0 p 0 u rfl hu
      have h1 := fun u' hu' => hc 0 p 1 u' rfl hu'
      obtain ⟨ty, hB⟩ := hb
      simp only [World.cell?, hB, hCells, Nat.zero_mul, Nat.add_zero] at h0 h1
      match o, h0, h1 with
      | 0, h0, _ => simp at h0; exact hns _ _ _ h0.symm
      | 1, h0, h1 =>
        rcases hor with h | ⟨u', hu'⟩
        · simp at h0; exact h _ h0.symm
        · have := h1 u' hu'
          simp at this
      | o + 2, h0, _ => simp at h0
theorem RefL.only {w w' : World} {b c : Nat} {a : Option Addr} {n k : Nat} {i : Int} {l : List E} (h : RefL w c l) (hb : Holds w b (hCells (.slice a n k) i)) (ho : Only b w w') : RefL w' c l := by
  obtain ⟨L, h1, h2⟩ := h
  obtain ⟨ia, ic, va, vc, sa, sc, q1, q2, q3, q4⟩ := h1.cells
  refine ⟨L, ⟨⟨ia, ic, va, vc, sa, sc, ho.holds q1 ?_, ho.rd q2 (rd_offG hb q2 fun x => ⟨_, rfl, by simp, .inl (by simp)⟩), ho.rd q3 (rd_offG hb q3 fun x => ⟨_, rfl, by simp, .inr ⟨_, rfl⟩⟩), ho.rd q4 (rd_offG hb q4 fun x => ⟨_, rfl, by simp, .inr ⟨_, rfl⟩⟩)⟩, h1.ids⟩, h2⟩
  intro e
  subst e
  have := congrArg List.length (holds_same q1 hb)
  simp [hCells] at this
structure RHistP (w : World) (b : Nat) (ps : List (Nat × List E)) (i : Nat) : Prop where
  cells : ∃ a c, Holds w b (hCells (.slice a ps.length c) (i : Nat)) ∧ Rd w 1 encP (.slice a ps.length c) ps ∧ ps.length ≤ c
  maps : ∀ p ∈ ps, RefL w p.1 p.2
  small : ∀ p ∈ ps, p.2.length ≤ 200
  lt : i < ps.length
  len : ps.length ≤ 33
theorem RHistP.ext {w w' : World} {b : Nat} {ps : List (Nat × List E)} {i : Nat} (h : RHistP w b ps i) (hb : Below w.heap.size w w') : RHistP w' b ps i := by
  obtain ⟨a, c, h1, h2, h3⟩ := h.cells
  exact ⟨⟨a, c, h1.ext hb, h2.ext hb, h3⟩, fun p hp => (h.maps p hp).ext hb, h.small, h.lt, h.len⟩
theorem RHistP.only {w w' : World} {b c : Nat} {ps : List (Nat × List E)} {i : Nat} {a : Option Addr} {n k : Nat} {j : Int} (h : RHistP w b ps i) (hc : Holds w c (hCells (.slice a n k) j)) (hne : b ≠ c) (ho : Only c w w') : RHistP w' b ps i := by
  obtain ⟨a', c', h1, h2, h3⟩ := h.cells
  exact ⟨⟨a', c', ho.holds h1 hne, ho.rd h2 (rd_off hc h2), h3⟩, fun p hp => (h.maps p hp).only hc ho, h.small, h.lt, h.len⟩
def RHistL (w : World) (b : Nat) (vs : List (List E)) (i : Nat) : Prop := ∃ ps, RHistP w b ps i ∧ ps.map (·.2) = vs
theorem RHistL.ext {w w' : World} {b : Nat} {vs : List (List E)} {i : Nat} (h : RHistL w b vs i) (hb : Below w.heap.size w w') : RHistL w' b vs i := by
  obtain ⟨ps, h1, h2⟩ := h
  exact ⟨ps, h1.ext hb, h2⟩
/-- The block of a history, of the program's or the reference's: it turns alone. -/
def HBlk (w : World) (b : Nat) : Prop := ∃ a n c i, Holds w b (hCells (.slice a n c) i)
theorem HistL.blk {w : World} {b : Nat} {vs : List (List E)} {i : Nat} (h : HistL w b vs i) : HBlk w b := by
  obtain ⟨ps, h1, _⟩ := h
  obtain ⟨a, c, g, _⟩ := h1.cells
  exact ⟨_, _, _, _, g⟩
theorem RHistL.blk {w : World} {b : Nat} {vs : List (List E)} {i : Nat} (h : RHistL w b vs i) : HBlk w b := by
  obtain ⟨ps, h1, _⟩ := h
  obtain ⟨a, c, g, _⟩ := h1.cells
  exact ⟨_, _, _, _, g⟩
theorem HBlk.lt {w : World} {b : Nat} (h : HBlk w b) : b < w.heap.size := by
  obtain ⟨a, n, c, i, g⟩ := h
  exact g.lt
theorem HBlk.ext {w w' : World} {b : Nat} (h : HBlk w b) (hb : Below w.heap.size w w') : HBlk w' b := by
  obtain ⟨a, n, c, i, g⟩ := h
  exact ⟨a, n, c, i, g.ext hb⟩
theorem HBlk.only {w w' : World} {b c : Nat} (h : HBlk w b) (hne : b ≠ c) (ho : Only c w w') : HBlk w' b := by
  obtain ⟨a, n, k, i, g⟩ := h
  exact ⟨a, n, k, i, ho.holds g hne⟩
theorem HistL.onlyB {w w' : World} {b c : Nat} {vs : List (List E)} {i : Nat} (h : HistL w b vs i) (hc : HBlk w c) (hne : b ≠ c) (ho : Only c w w') : HistL w' b vs i := by
  obtain ⟨ps, h1, h2⟩ := h
  obtain ⟨a, n, k, j, g⟩ := hc
  exact ⟨ps, h1.only g hne ho, h2⟩
theorem RHistL.onlyB {w w' : World} {b c : Nat} {vs : List (List E)} {i : Nat} (h : RHistL w b vs i) (hc : HBlk w c) (hne : b ≠ c) (ho : Only c w w') : RHistL w' b vs i := by
  obtain ⟨ps, h1, h2⟩ := h
  obtain ⟨a, n, k, j, g⟩ := hc
  exact ⟨ps, h1.only g hne ho, h2⟩
theorem MapL.onlyB {w w' : World} {b c : Nat} {l : List E} (h : MapL w b l) (hc : HBlk w c) (ho : Only c w w') : MapL w' b l := by
  obtain ⟨a, n, k, j, g⟩ := hc
  exact h.only g ho
theorem RefL.onlyB {w w' : World} {b c : Nat} {l : List E} (h : RefL w b l) (hc : HBlk w c) (ho : Only c w w') : RefL w' b l := by
  obtain ⟨a, n, k, j, g⟩ := hc
  exact h.only g ho
/-- A block of one cell is no history's. -/
theorem holds_onlyB {w w' : World} {b c : Nat} {cs : List Value} (h : Holds w b cs) (hl : cs.length = 1) (hc : HBlk w c) (ho : Only c w w') : Holds w' b cs := by
  obtain ⟨a, n, k, j, g⟩ := hc
  refine ho.holds h ?_
  intro e
  subst e
  have := congrArg List.length (holds_same h g)
  simp [hCells, hl] at this
theorem RHistL.facts {w : World} {b : Nat} {vs : List (List E)} {i : Nat} (h : RHistL w b vs i) : i < vs.length ∧ vs.length ≤ 33 ∧ (∀ v ∈ vs, v.length ≤ 200) ∧ b < w.heap.size := by
  obtain ⟨ps, h1, rfl⟩ := h
  refine ⟨by simpa using h1.lt, by simpa using h1.len, ?_, ?_⟩
  · intro v hv
    obtain ⟨p, hp, rfl⟩ := List.mem_map.1 hv
    exact h1.small p hp
  · obtain ⟨a, c, g, _⟩ := h1.cells
    exact g.lt
end Go.Proofs.Ytmhhejpokgdjoaa
