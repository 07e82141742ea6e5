/- The plain side of PutAs, DropAs. -/
import Derived.Test.YtmhhejpokgdjoaaRc
import Derived.Test.YtmhhejpokgdjoaaLc
namespace Go.Proofs.Ytmhhejpokgdjoaa
open Go Go.RowKit
set_option linter.unusedVariables false

def newE (id : Nat) (v : V) : RE := ⟨id, v, fun _ => 0⟩
/-- How many entries of that key there are: none or one. -/
def skR (l : List RE) (id : Nat) : Nat := if okR l id then 1 else 0
def putR0 (l : List RE) (id : Nat) (v : V) : List RE := l.take (plR l id) ++ newE id v :: l.drop (plR l id + skR l id)
def samR (l : List RE) (id : Nat) (v : V) : Bool := match l[plR l id]? with
  | some e => decide (e.id = id ∧ e.v = v)
  | none => false
def putR (l : List RE) (id : Nat) (v : V) (x : Int) : List RE := if samR l id v then l else stampR (putR0 l id v) id x
def dropR (l : List RE) (id : Nat) (x : Int) : List RE := if okR l id then stampR (l.take (plR l id) ++ l.drop (plR l id + 1)) id x else l
/-- What PutAs has laid down behind k rounds. -/
def curP (l : List RE) (id : Nat) (v : V) (k : Nat) : List RE := if k ≤ plR l id then l.take k else l.take (plR l id) ++ newE id v :: (l.take k).drop (plR l id + skR l id)
theorem ok_lt {l : List RE} {id : Nat} (h : okR l id = true) : plR l id < l.length := by
  unfold okR at h
  split at h
  · rename_i e he; exact (List.getElem?_eq_some_iff.1 he).1
  · cases h
theorem curP_zero (l : List RE) (id : Nat) (v : V) : curP l id v 0 = [] := by simp [curP]
theorem curP_low {l : List RE} {id k : Nat} {v : V} {e : RE} (hk : k < plR l id) (he : l[k]? = some e) : curP l id v (k + 1) = curP l id v k ++ [e] := by
  unfold curP
  rw [if_pos (by omega), if_pos (by omega), List.take_add_one, he]
  rfl
theorem curP_at_skip {l : List RE} {id : Nat} {v : V} (h : okR l id = true ∨ plR l id = l.length) : curP l id v (plR l id + 1) = curP l id v (plR l id) ++ [newE id v] := by
  unfold curP
  rw [if_neg (by omega), if_pos (Nat.le_refl _)]
  congr 2
  apply List.drop_of_length_le
  rcases h with h | h
  · have := ok_lt h
    simp [skR, h]
    omega
  · simp
    omega
theorem curP_at {l : List RE} {id : Nat} {v : V} {e : RE} (h : okR l id = false) (he : l[plR l id]? = some e) : curP l id v (plR l id + 1) = (curP l id v (plR l id) ++ [newE id v]) ++ [e] := by
  have hl := (List.getElem?_eq_some_iff.1 he).1
  unfold curP
  rw [if_neg (by omega), if_pos (Nat.le_refl _), List.append_assoc]
  congr 1
  simp only [List.singleton_append, List.cons.injEq, true_and]
  rw [List.take_add_one, he, skR, h, if_neg (by simp), Nat.add_zero, List.drop_append_of_le_length (by simp; omega), List.drop_of_length_le (by simp; omega)]
  rfl
theorem curP_high {l : List RE} {id k : Nat} {v : V} {e : RE} (hk : plR l id < k) (he : l[k]? = some e) : curP l id v (k + 1) = curP l id v k ++ [e] := by
  have hl := (List.getElem?_eq_some_iff.1 he).1
  unfold curP
  rw [if_neg (by omega), if_neg (by omega), List.take_add_one, he, List.append_assoc, List.cons_append, List.drop_append_of_le_length (by simp [skR]; split <;> omega)]
  rfl
theorem curP_end {l : List RE} {id : Nat} {v : V} (hk : plR l id ≤ l.length) : curP l id v (l.length + 1) = putR0 l id v := by
  unfold curP putR0
  rw [if_neg (by omega), show l.take (l.length + 1) = l from List.take_of_length_le (by omega)]
theorem curP_last {l : List RE} {id : Nat} {v : V} (hk : plR l id < l.length) : curP l id v (l.length + 1) = curP l id v l.length := by
  unfold curP
  rw [if_neg (by omega), if_neg (by omega), show l.take (l.length + 1) = l from List.take_of_length_le (by omega), List.take_length]
theorem curP_len (l : List RE) (id : Nat) (v : V) (k : Nat) : (curP l id v k).length ≤ l.length + 1 := by
  unfold curP
  split
  · simp; omega
  · simp; omega
theorem curP_ids {l : List RE} {id : Nat} {v : V} {k : Nat} (hl : ∀ e ∈ l, e.id < 4294967296) (hid : id < 4294967296) : ∀ e ∈ curP l id v k, e.id < 4294967296 := by
  unfold curP
  intro e he
  split at he
  · exact hl e (List.mem_of_mem_take he)
  · rcases List.mem_append.1 he with h | h
    · exact hl e (List.mem_of_mem_take h)
    · rcases List.mem_cons.1 h with h | h
      · subst h; exact hid
      · exact hl e (List.mem_of_mem_take (List.mem_of_mem_drop h))
/-- What stands behind the first half of round k. -/
def midP (l : List RE) (id : Nat) (v : V) (k : Nat) : List RE := curP l id v k ++ (if k = plR l id then [newE id v] else [])
theorem midP_len (l : List RE) (id : Nat) (v : V) (k : Nat) : (midP l id v k).length ≤ l.length + 2 := by
  have := curP_len l id v k
  unfold midP
  rw [List.length_append]
  split <;> simp <;> omega
/-- Is the old entry k laid down in round k? -/
def pushB (l : List RE) (id : Nat) (k : Nat) : Bool := decide (k < l.length) && (decide (k ≠ plR l id) || !okR l id)
theorem midP_push {l : List RE} {id k : Nat} {v : V} {e : RE} (he : l[k]? = some e) (h : pushB l id k = true) : midP l id v k ++ [e] = curP l id v (k + 1) := by
  have hk := (List.getElem?_eq_some_iff.1 he).1
  unfold midP
  rcases Nat.lt_trichotomy k (plR l id) with hlt | heq | hgt
  · rw [if_neg (by omega), List.append_nil, curP_low hlt he]
  · subst heq
    rw [if_pos rfl]
    have hok : okR l id = false := by
      simp [pushB] at h
      exact h.2
    exact (curP_at hok he).symm
  · rw [if_neg (by omega), List.append_nil, curP_high hgt he]
theorem midP_skip {l : List RE} {id k : Nat} {v : V} (hk : k ≤ l.length) (h : pushB l id k = false) : midP l id v k = curP l id v (k + 1) := by
  have hp := plR_le l id
  unfold midP
  rcases Nat.lt_trichotomy k (plR l id) with hlt | heq | hgt
  · exfalso
    simp [pushB, show k < l.length by omega, show ¬ k = plR l id by omega] at h
  · subst heq
    rw [if_pos rfl]
    refine (curP_at_skip ?_).symm
    by_cases hl : plR l id < l.length
    · left
      simp [pushB, hl] at h
      exact h
    · right; omega
  · have hkl : k = l.length := by
      rcases Nat.lt_or_ge k l.length with h1 | h1
      · simp [pushB, h1, show ¬ k = plR l id by omega] at h
      · omega
    subst hkl
    rw [if_neg (by omega), List.append_nil, curP_last hgt]
theorem stampR_ids {l : List RE} {id : Nat} {x : Int} (h : ∀ e ∈ l, e.id < 4294967296) : ∀ e ∈ stampR l id x, e.id < 4294967296 := by
  intro e he
  obtain ⟨f, hf, rfl⟩ := List.mem_map.1 he
  exact h f hf
end Go.Proofs.Ytmhhejpokgdjoaa
