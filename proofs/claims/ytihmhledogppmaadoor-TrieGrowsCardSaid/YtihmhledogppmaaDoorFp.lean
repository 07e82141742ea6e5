/- Parts of slices that read as lists; the tail of the entries from a key on. -/
import Derived.Test.YtihmhledogppmaaDoorMd
namespace Go.Proofs.YtihmhledogppmaaDoor
open Go Go.RowKit
set_option linter.unusedVariables false

section
variable {α : Type}
theorem rd_drop {w : World} {s : Nat} {enc : α → List Value} {a : Option Addr} {cap : Nat} {l : List α} (h : Rd w s enc (.slice a l.length cap) l) (i : Nat) (hi : i ≤ l.length) (hc : l.length ≤ cap) :
    Rd w s enc (.slice (if cap = i then a else a.map (·.add (i * s))) (l.length - i) (cap - i)) (l.drop i) := by
  obtain ⟨a', cap', hv, h⟩ := h
  simp only [Value.slice.injEq, true_and] at hv
  obtain ⟨rfl, rfl⟩ := hv
  refine ⟨_, _, by rw [List.length_drop], ?_⟩
  by_cases hd : l.drop i = []
  · exact .inl hd
  · right
    have hil : i < l.length := by
      rcases Nat.lt_or_ge i l.length with h | h
      · exact h
      · exact absurd (List.drop_of_length_le h) hd
    rcases h with rfl | ⟨b, off, rfl, hb, hcell⟩
    · simp at hil
    · refine ⟨b, off + i * s, ?_, hb, fun j x k u hj hk => ?_⟩
      · rw [if_neg (by omega)]
        simp only [Option.map_some, Addr.add]
        by_cases h0 : i * s = 0 <;> simp [h0]
      · rw [List.getElem?_drop] at hj
        have := hcell (i + j) x k u hj hk
        rw [show off + i * s + j * s + k = off + (i + j) * s + k by rw [Nat.add_mul]; omega]
        exact this
theorem rd_take {w : World} {s : Nat} {enc : α → List Value} {a : Option Addr} {cap : Nat} {l : List α} (h : Rd w s enc (.slice a l.length cap) l) (k : Nat) (hk : k ≤ l.length) (cap' : Nat) : Rd w s enc (.slice a k cap') (l.take k) := by
  obtain ⟨a', c', hv, h⟩ := h
  simp only [Value.slice.injEq, true_and] at hv
  obtain ⟨rfl, rfl⟩ := hv
  refine ⟨_, _, by rw [List.length_take, Nat.min_eq_left hk], ?_⟩
  rcases h with rfl | ⟨b, off, rfl, hb, hcell⟩
  · left; simp
  · refine .inr ⟨b, off, rfl, hb, fun j x i u hj hi => ?_⟩
    rw [List.getElem?_take] at hj
    split at hj
    · exact hcell j x i u hj hi
    · cases hj
end
theorem drop_fromL {l : List (Nat × V)} (hs : Srt l) (id i : Nat) (hi : i ≤ l.length) (h1 : ∀ j x, l[j]? = some x → j < i → x.1 < id) (h2 : ∀ x, l[i]? = some x → id ≤ x.1) : l.drop i = fromL id l := by
  have e : fromL id l = fromL id (l.take i) ++ fromL id (l.drop i) := by rw [← fromL_append, List.take_append_drop]
  have e1 : fromL id (l.take i) = [] := by
    unfold fromL
    rw [List.filter_eq_nil_iff]
    intro x hx
    obtain ⟨j, hj⟩ := List.getElem?_of_mem hx
    rw [List.getElem?_take] at hj
    split at hj
    · have := h1 j x hj (by omega)
      simp; omega
    · cases hj
  have e2 : fromL id (l.drop i) = l.drop i := by
    unfold fromL
    rw [List.filter_eq_self]
    intro x hx
    cases hd : l.drop i with
    | nil => rw [hd] at hx; simp at hx
    | cons y m =>
      have hy : l[i]? = some y := by
        have := List.getElem?_drop (xs := l) (i := i) (j := 0)
        rw [hd] at this
        simpa using this.symm
      have hyid := h2 y hy
      have hp : List.Pairwise (fun a b : Nat × V => a.1 < b.1) (y :: m) := by
        rw [← hd]; exact List.Pairwise.sublist (List.drop_sublist i l) hs
      rw [hd] at hx
      rcases List.mem_cons.1 hx with rfl | hm
      · simpa using hyid
      · have := (List.pairwise_cons.1 hp).1 x hm
        simp; omega
  rw [e, e1, e2, List.nil_append]
end Go.Proofs.YtihmhledogppmaaDoor
