/- Slices whose elements are structs of s cells: what they read as ('Rd'), and those of the call's own ('Own'). -/
import Derived.Test.YtmhhejpokgdjoaaRow
import Derived.Laws.AppendOwn
import Derived.Laws.OwnMore
namespace Go.Proofs.Ytmhhejpokgdjoaa
open Go Go.RowKit
set_option linter.unusedVariables false

section
variable {α : Type}
/-- The slice v reads as the list l, element i lying in s cells. -/
def Rd (w : World) (s : Nat) (enc : α → List Value) (v : Value) (l : List α) : Prop :=
  ∃ a cap, v = .slice a l.length cap ∧ (l = [] ∨ ∃ b off, a = some ⟨b, off, none⟩ ∧ b < w.heap.size ∧ ∀ i x j u, l[i]? = some x → (enc x)[j]? = some u → w.cell? ⟨b, off + i * s + j, none⟩ = some u)
theorem Rd.ext {w w' : World} {s : Nat} {enc : α → List Value} {v : Value} {l : List α} (h : Rd w s enc v l) (hb : Below w.heap.size w w') : Rd w' s enc v l := by
  obtain ⟨a, cap, hv, h⟩ := h
  refine ⟨a, cap, hv, h.imp id ?_⟩
  rintro ⟨b, off, ha, hlt, hc⟩
  exact ⟨b, off, ha, Nat.lt_of_lt_of_le hlt hb.size, fun i x j u h1 h2 => (hb.cell (p := ⟨b, _, none⟩) hlt).trans (hc i x j u h1 h2)⟩
theorem rd_nil (w : World) (s : Nat) (enc : α → List Value) : Rd w s enc (.slice none 0 0) [] := ⟨none, 0, rfl, .inl rfl⟩
/-- The slice v is the call's own (from block base on), and reads as l. -/
structure Own (w : World) (base : Nat) (ty : TypeId) (s : Nat) (enc : α → List Value) (v : Value) (l : List α) : Prop where
  row : w.ownsRow base ty s v l.length (l.flatMap enc)
  nil : v = .slice none 0 0 ↔ l = []
theorem own_nil (w : World) (base : Nat) (ty : TypeId) (s : Nat) (enc : α → List Value) : Own w base ty s enc (.slice none 0 0) ([] : List α) := ⟨World.ownsRow_nil w base ty s, by simp⟩
theorem flatMap_get {enc : α → List Value} {s : Nat} (hs : ∀ x, (enc x).length = s) : ∀ (l : List α) (i j : Nat) (x : α) (u : Value), l[i]? = some x → (enc x)[j]? = some u → (l.flatMap enc)[i * s + j]? = some u
  | [], i, j, x, u, h1, h2 => by simp at h1
  | y :: l, 0, j, x, u, h1, h2 => by
    simp only [List.getElem?_cons_zero, Option.some.injEq] at h1
    subst h1
    have hj : j < (enc y).length := (List.getElem?_eq_some_iff.1 h2).1
    rw [List.flatMap_cons, Nat.zero_mul, Nat.zero_add, List.getElem?_append_left hj]
    exact h2
  | y :: l, i + 1, j, x, u, h1, h2 => by
    simp only [List.getElem?_cons_succ] at h1
    rw [List.flatMap_cons, List.getElem?_append_right (by rw [hs]; rw [Nat.add_mul]; omega), hs]
    rw [show (i + 1) * s + j - s = i * s + j by rw [Nat.add_mul]; omega]
    exact flatMap_get hs l i j x u h1 h2
theorem Own.rd {w : World} {base : Nat} {ty : TypeId} {s : Nat} {enc : α → List Value} {v : Value} {l : List α} (hs : ∀ x, (enc x).length = s) (h : Own w base ty s enc v l) : Rd w s enc v l := by
  obtain ⟨hlen, hr⟩ := h.row
  rcases hr with ⟨rfl, h0⟩ | ⟨g, cap, cur, rfl, hbg, hg, hn, hm, hsz, htk⟩
  · have : l = [] := List.length_eq_zero_iff.1 h0
    subst this
    exact rd_nil w s enc
  · refine ⟨some ⟨g, 0, none⟩, cap, rfl, .inr ⟨g, 0, rfl, (Array.getElem?_eq_some_iff.1 hg).1, fun i x j u h1 h2 => ?_⟩⟩
    have := flatMap_get hs l i j x u h1 h2
    rw [← htk] at this
    rw [Nat.zero_add]
    have hj := (List.getElem?_eq_some_iff.1 this).1
    rw [List.getElem?_take_of_lt (by simp at hj; omega)] at this
    simp only [World.cell?, hg]
    simpa using this
theorem Own.below {w w' : World} {base : Nat} {ty : TypeId} {s : Nat} {enc : α → List Value} {v : Value} {l : List α} (h : Own w base ty s enc v l) (hb : Below w.heap.size w w') : Own w' base ty s enc v l :=
  ⟨h.row.kept (row := none) ⟨hb.os, hb.tape, hb.output, hb.size, fun k hk _ => hb.block k hk⟩ (by cases hq : v.ownBlock <;> simp), h.nil⟩
theorem Own.upd {w w' : World} {base g : Nat} {ty : TypeId} {s : Nat} {enc : α → List Value} {v : Value} {l : List α} (h : Own w base ty s enc v l) (hu : Upd g w w') (hg : g < base) : Own w' base ty s enc v l :=
  ⟨h.row.kept (row := some g) ⟨hu.os, hu.tape, hu.output, Nat.le_of_eq hu.size.symm, fun k hk hne => hu.block k (fun e => hne (by rw [e]))⟩ (by
    cases hq : v.ownBlock with
    | none => exact .inl rfl
    | some k => exact .inr (fun e => by cases e; have := (h.row.lt g hq).1; omega)), h.nil⟩
theorem Own.shape {w : World} {base : Nat} {ty : TypeId} {s : Nat} {enc : α → List Value} {v : Value} {l : List α} (h : Own w base ty s enc v l) : ∃ a n c, v = .slice a n c := by
  rcases h.row.2 with ⟨rfl, _⟩ | ⟨g, cap, cur, rfl, _⟩
  · exact ⟨_, _, _, rfl⟩
  · exact ⟨_, _, _, rfl⟩
end
end Go.Proofs.Ytmhhejpokgdjoaa
