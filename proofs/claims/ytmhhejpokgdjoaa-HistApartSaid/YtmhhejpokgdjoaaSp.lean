/- Parts of slices that read as lists. -/
import Derived.Test.YtmhhejpokgdjoaaSl
namespace Go.Proofs.Ytmhhejpokgdjoaa
open Go Go.RowKit
set_option linter.unusedVariables false

section
variable {α : Type}
theorem rd_drop {w : World} {s : Nat} {enc : α → List Value} {a : Option Addr} {cap : Nat} {l : List α} (h : Rd w s enc (.slice a l.length cap) l) (i : Nat) (hi : i ≤ l.length) (hc : l.length ≤ cap) :
    Rd w s enc (.slice (if cap = i then a else a.map (·.add (i * s))) (l.length - i) (cap - i)) (l.drop i) := by
  obtain ⟨a', cap', hv, h⟩ := h
  simp only [Value.slice.injEq, true_and] at hv
  obtain ⟨rfl, rfl⟩ := hv
  refine ⟨_, _, by rw [List.length_drop], ?_⟩
  by_cases hd : l.drop i = []
  · exact .inl hd
  · right
    have hil : i < l.length := by
      rcases Nat.lt_or_ge i l.length with h | h
      · exact h
      · exact absurd (List.drop_of_length_le h) hd
    rcases h with rfl | ⟨b, off, rfl, hb, hcell⟩
    · simp at hil
    · refine ⟨b, off + i * s, ?_, hb, fun j x k u hj hk => ?_⟩
      · rw [if_neg (by omega)]
        simp only [Option.map_some, Addr.add]
        by_cases h0 : i * s = 0 <;> simp [h0]
      · rw [List.getElem?_drop] at hj
        have := hcell (i + j) x k u hj hk
        rw [show off + i * s + j * s + k = off + (i + j) * s + k by rw [Nat.add_mul]; omega]
        exact this
theorem rd_take {w : World} {s : Nat} {enc : α → List Value} {a : Option Addr} {cap : Nat} {l : List α} (h : Rd w s enc (.slice a l.length cap) l) (k : Nat) (hk : k ≤ l.length) (cap' : Nat) : Rd w s enc (.slice a k cap') (l.take k) := by
  obtain ⟨a', c', hv, h⟩ := h
  simp only [Value.slice.injEq, true_and] at hv
  obtain ⟨rfl, rfl⟩ := hv
  refine ⟨_, _, by rw [List.length_take, Nat.min_eq_left hk], ?_⟩
  rcases h with rfl | ⟨b, off, rfl, hb, hcell⟩
  · left; simp
  · refine .inr ⟨b, off, rfl, hb, fun j x i u hj hi => ?_⟩
    rw [List.getElem?_take] at hj
    split at hj
    · exact hcell j x i u hj hi
    · cases hj
end
end Go.Proofs.Ytmhhejpokgdjoaa
