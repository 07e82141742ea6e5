/- A history of the program as the list of its versions; what a step on it leaves alone. -/
import Derived.Test.YtmhhejpokgdjoaaMk
import Derived.Test.YtmhhejpokgdjoaaSl
namespace Go.Proofs.Ytmhhejpokgdjoaa
open Go Go.RowKit
set_option linter.unusedVariables false

abbrev E := Nat × V
/-- Block b alone of what was there may have turned. -/
structure Only (b : Nat) (w w' : World) : Prop where
  os : w'.os = w.os
  tape : w'.tape = w.tape
  output : w'.output = w.output
  size : w.heap.size ≤ w'.heap.size
  block : ∀ k, k < w.heap.size → k ≠ b → w'.heap[k]? = w.heap[k]?
theorem Only.refl (b : Nat) (w : World) : Only b w w := ⟨rfl, rfl, rfl, Nat.le_refl _, fun _ _ _ => rfl⟩
theorem Only.trans {b : Nat} {x y z : World} (h : Only b x y) (k : Only b y z) : Only b x z :=
  ⟨k.os.trans h.os, k.tape.trans h.tape, k.output.trans h.output, Nat.le_trans h.size k.size, fun i hi hne => (k.block i (Nat.lt_of_lt_of_le hi h.size) hne).trans (h.block i hi hne)⟩
theorem Only.of_below {b : Nat} {w w' : World} (h : Below w.heap.size w w') : Only b w w' := ⟨h.os, h.tape, h.output, h.size, fun k hk _ => h.block k hk⟩
theorem Only.of_upd {b : Nat} {w w' : World} (h : Upd b w w') : Only b w w' := ⟨h.os, h.tape, h.output, Nat.le_of_eq h.size.symm, fun k _ hne => h.block k hne⟩
theorem Only.below {b B : Nat} {w w' : World} (h : Only b w w') (hB : B ≤ b) (hs : B ≤ w.heap.size) : Below B w w' := ⟨h.os, h.tape, h.output, h.size, fun k hk => h.block k (by omega) (by omega)⟩
theorem Only.drew {b : Nat} {w w' : World} (h : Only b w w') : Only b w w'.drew := h.trans (Only.of_below (Below.refl _ _).drew)
theorem Only.holds {b g : Nat} {w w' : World} {cs : List Value} (h : Only b w w') (hh : Holds w g cs) (hne : g ≠ b) : Holds w' g cs := by
  have hl := hh.lt
  obtain ⟨ty, h1⟩ := hh
  exact ⟨ty, (h.block g hl hne).trans h1⟩
theorem Only.rd {α : Type} {b : Nat} {w w' : World} {s : Nat} {enc : α → List Value} {v : Value} {l : List α} (h : Only b w w') (hr : Rd w s enc v l) (hne : ∀ g o n c, v = .slice (some ⟨g, o, none⟩) n c → l ≠ [] → g ≠ b) : Rd w' s enc v l := by
  obtain ⟨a, cap, hv, hr⟩ := hr
  refine ⟨a, cap, hv, ?_⟩
  rcases hr with hnil | ⟨g, off, ha, hlt, hc⟩
  · exact .inl hnil
  · by_cases hl : l = []
    · exact .inl hl
    · refine .inr ⟨g, off, ha, Nat.lt_of_lt_of_le hlt h.size, fun i x j u h1 h2 => ?_⟩
      have hgb : g ≠ b := hne g off l.length cap (by rw [hv, ha]) hl
      exact (World.cell?_of_block (a := ⟨g, _, none⟩) (h.block g hlt hgb)).trans (hc i x j u h1 h2)
theorem Only.own {α : Type} {b base : Nat} {w w' : World} {ty : TypeId} {s : Nat} {enc : α → List Value} {v : Value} {l : List α} (h : Only b w w') (ho : Own w base ty s enc v l) (hb : b < base) : Own w' base ty s enc v l :=
  ⟨ho.row.kept (row := some b) ⟨h.os, h.tape, h.output, h.size, fun k hk hne => h.block k hk (fun e => hne (by rw [e]))⟩ (by
    cases hq : v.ownBlock with
    | none => exact .inl rfl
    | some k => exact .inr (fun e => by cases e; have := (ho.row.lt b hq).1; omega)), ho.nil⟩
/-- The cells of a history: its versions, its place. -/
def hCells (v : Value) (at_ : Int) : List Value := [v, .int .i64 at_]
theorem holds_same {w : World} {b : Nat} {cs ds : List Value} (h : Holds w b cs) (k : Holds w b ds) : cs = ds := by
  obtain ⟨t, h⟩ := h
  obtain ⟨u, k⟩ := k
  rw [h] at k
  simp only [Option.some.injEq, Obj.cells.injEq] at k
  have := congrArg Array.toList k.1
  simpa using this
theorem tree_off {w : World} {b : Nat} {a : Option Addr} {n c : Nat} {i : Int} (h : Holds w b (hCells (.slice a n c) i)) : ∀ {d : Nat} {t : Tr d}, t.at w → t.all (· ≠ b)
  | 0, none, _ => trivial
  | 0, some (g, v), ht => by
    intro e
    subst e
    have := holds_same (show Holds w g (vCells v) from ht) h
    simp [vCells, hCells] at this
  | d + 1, none, _ => trivial
  | d + 1, some (g, f), ht => by
    refine ⟨?_, fun i => tree_off h (ht.2 i)⟩
    intro e
    subst e
    have := congrArg List.length (holds_same ht.1 h)
    rw [nodeCells_length] at this
    simp [hCells] at this
theorem Only.tree {b : Nat} {w w' : World} (h : Only b w w') : ∀ {d : Nat} {t : Tr d}, t.at w → t.all (· ≠ b) → t.at w'
  | 0, none, _, _ => trivial
  | 0, some (g, v), ht, hq => h.holds ht hq
  | d + 1, none, _, _ => trivial
  | d + 1, some (g, f), ht, hq => ⟨h.holds ht.1 hq.1, fun i => h.tree (ht.2 i) (hq.2 i)⟩
theorem MapL.only {b c : Nat} {w w' : World} {a : Option Addr} {n k : Nat} {i : Int} {l : List E} (h : MapL w c l) (hb : Holds w b (hCells (.slice a n k) i)) (ho : Only b w w') : MapL w' c l := by
  obtain ⟨t, h1, h2⟩ := h
  refine ⟨t, ⟨ho.holds h1.map ?_, ho.tree h1.tree (tree_off hb h1.tree)⟩, h2⟩
  intro e
  subst e
  have := holds_same h1.map hb
  simp [Tr.mapCells, hCells, Tr.ptr, ptrOf] at this
def encP (p : Nat × List E) : List Value := [.pointer (some ⟨p.1, 0, none⟩)]
theorem encP_len (p : Nat × List E) : (encP p).length = 1 := rfl
/-- Block b is a history: its versions (blocks and entries), its place. -/
structure HistP (w : World) (b : Nat) (ps : List (Nat × List E)) (i : Nat) : Prop where
  cells : ∃ a c, Holds w b (hCells (.slice a ps.length c) (i : Nat)) ∧ Rd w 1 encP (.slice a ps.length c) ps ∧ ps.length ≤ c
  maps : ∀ p ∈ ps, MapL w p.1 p.2
  small : ∀ p ∈ ps, p.2.length ≤ 200
  lt : i < ps.length
  len : ps.length ≤ 33
theorem HistP.ext {w w' : World} {b : Nat} {ps : List (Nat × List E)} {i : Nat} (h : HistP w b ps i) (hb : Below w.heap.size w w') : HistP w' b ps i := by
  obtain ⟨a, c, h1, h2, h3⟩ := h.cells
  exact ⟨⟨a, c, h1.ext hb, h2.ext hb, h3⟩, fun p hp => (h.maps p hp).ext hb, h.small, h.lt, h.len⟩
/-- A slice of pointers does not lie in a history's block. -/
theorem rd_off {w : World} {b : Nat} {a : Option Addr} {n c : Nat} {i : Int} {ps : List (Nat × List E)} {v : Value} (hb : Holds w b (hCells (.slice a n c) i)) (hr : Rd w 1 encP v ps) : ∀ g o m k, v = .slice (some ⟨g, o, none⟩) m k → ps ≠ [] → g ≠ b := by
  rintro g o m k rfl hne rfl
  obtain ⟨a', c', hv, hr⟩ := hr
  rcases hr with rfl | ⟨g', off, ha, hlt, hc⟩
  · exact hne rfl
  · simp only [Value.slice.injEq] at hv
    obtain ⟨rfl, _, _⟩ := hv
    simp only [Option.some.injEq, Addr.mk.injEq] at ha
    obtain ⟨rfl, rfl, _⟩ := ha
    cases ps with
    | nil => exact hne rfl
    | cons p ps =>
      have h0 := hc 0 p 0 _ rfl rfl
      obtain ⟨ty, h1⟩ := hb
      simp only [World.cell?, h1, hCells, Nat.zero_mul, Nat.add_zero] at h0
      match o, h0 with
      | 0, h0 => simp at h0
      | 1, h0 => simp at h0
      | o + 2, h0 => simp at h0
/-- Another history turns: this one stays. -/
theorem HistP.only {w w' : World} {b c : Nat} {ps : List (Nat × List E)} {i : Nat} {a : Option Addr} {n k : Nat} {j : Int} (h : HistP w b ps i) (hc : Holds w c (hCells (.slice a n k) j)) (hne : b ≠ c) (ho : Only c w w') : HistP w' b ps i := by
  obtain ⟨a', c', h1, h2, h3⟩ := h.cells
  exact ⟨⟨a', c', ho.holds h1 hne, ho.rd h2 (rd_off hc h2), h3⟩, fun p hp => (h.maps p hp).only hc ho, h.small, h.lt, h.len⟩
/-- A history, by its versions' entries. -/
def HistL (w : World) (b : Nat) (vs : List (List E)) (i : Nat) : Prop := ∃ ps, HistP w b ps i ∧ ps.map (·.2) = vs
theorem HistL.ext {w w' : World} {b : Nat} {vs : List (List E)} {i : Nat} (h : HistL w b vs i) (hb : Below w.heap.size w w') : HistL w' b vs i := by
  obtain ⟨ps, h1, h2⟩ := h
  exact ⟨ps, h1.ext hb, h2⟩
theorem HistL.only {w w' : World} {b c : Nat} {vs us : List (List E)} {i j : Nat} (h : HistL w b vs i) (hc : HistL w c us j) (hne : b ≠ c) (ho : Only c w w') : HistL w' b vs i := by
  obtain ⟨ps, h1, h2⟩ := h
  obtain ⟨qs, ⟨⟨a, k, g1, _, _⟩, _⟩, _⟩ := hc
  exact ⟨ps, h1.only g1 hne ho, h2⟩
theorem HistL.facts {w : World} {b : Nat} {vs : List (List E)} {i : Nat} (h : HistL w b vs i) : i < vs.length ∧ vs.length ≤ 33 ∧ (∀ v ∈ vs, v.length ≤ 200) ∧ b < w.heap.size := by
  obtain ⟨ps, h1, rfl⟩ := h
  refine ⟨by simpa using h1.lt, by simpa using h1.len, ?_, ?_⟩
  · intro v hv
    obtain ⟨p, hp, rfl⟩ := List.mem_map.1 hv
    exact h1.small p hp
  · obtain ⟨a, c, g, _⟩ := h1.cells
    exact g.lt
/-! What the calls make of it. -/
abbrev HS := List (List E) × Nat
def pushH (h : HS) (l : List E) : HS := if 32 ≤ h.2 then h else (h.1.take (h.2 + 1) ++ [l], h.2 + 1)
def undoH (h : HS) : HS := if h.2 = 0 then h else (h.1, h.2 - 1)
def redoH (h : HS) : HS := if h.2 + 1 < h.1.length then (h.1, h.2 + 1) else h
def forgetH (h : HS) (n : Int) : HS := if n < 0 ∨ (h.2 : Int) < n then h else (h.1.drop n.toNat, h.2 - n.toNat)
end Go.Proofs.Ytmhhejpokgdjoaa
