/- The walks of the law's run, list, from: what an iterator gives, as a list. -/
import Derived.Test.YtihmhledogppmaaDoorLaB
import Derived.Test.YtihmhledogppmaaDoorTrX
namespace Go.Proofs.YtihmhledogppmaaDoor
open Go Go.RowKit
set_option linter.unusedVariables false
set_option linter.unusedSimpArgs false

/-- All, or as many as are asked for. -/
def cutL {α : Type} (xs : List α) (stop : Int) : List α := if stop < 0 then xs else xs.take stop.toNat
def entV (b : Nat) : Value := .func (.func 50) #[.pointer (some ⟨b, 0, none⟩)] #[]
structure RunI (b : Nat) (w : World) (stop most : Int) (over : Bool) (pre : List (Nat × V)) (W : World) : Prop where
  es : ∃ es, Holds W b (tkCells es (.slice none 0 0) stop most pre.length over false) ∧ Own W (b + 1) 43 3 encL es pre
  below : Below b w W
  lt : b < W.heap.size
  seen : ∀ n : Nat, 1 ≤ n → n < pre.length → (n : Int) ≠ stop
  last : if over then ((pre.length : Int) = stop ∨ most < (pre.length : Int)) else (pre = [] ∨ (pre.length : Int) ≠ stop)
theorem RunI.grows (b : Nat) (w : World) (stop most : Int) (over : Bool) : Grows (RunI b w stop most over) := by
  intro pre W W' h hb
  obtain ⟨es, h1, h2⟩ := h.es
  exact ⟨⟨es, h1.ext hb, h2.below hb⟩, h.below.trans (hb.mono (Nat.le_of_lt h.lt)), Nat.lt_of_lt_of_le h.lt hb.size, h.seen, h.last⟩
theorem entry_yd (b : Nat) (w : World) (stop most : Int) (xs : List (Nat × V)) (hx : xs.length ≤ 4294967300) : Yd Tryd.prog (entV b) encE xs (RunI b w stop most false) (RunI b w stop most true) := by
  intro pre x post he W h
  obtain ⟨es, h1, h2⟩ := h.es
  have hlen : pre.length ≤ 4294967300 := by
    have : xs.length = pre.length + (post.length + 1) := by rw [he]; simp
    omega
  refine callV_func (Go.Proofs.enters_of Tryd.func50 (by kernel_rfl) rfl) ?_
  refine (entry_any b (b + 1) es pre x stop most W h1 h2 (by omega) h.lt hlen).mono ?_
  rintro e W' ⟨he', ⟨es', h1', h2'⟩, hb⟩
  have hb0 : Below b w W' := h.below.trans hb
  have hseen : ∀ n : Nat, 1 ≤ n → n < (pre ++ [x]).length → (n : Int) ≠ stop := by
    intro n hn1 hn2
    rw [List.length_append, List.length_singleton] at hn2
    rcases Nat.lt_or_ge n pre.length with hlt | hge
    · exact h.seen n hn1 hlt
    · have hl := h.last
      rw [if_neg (by simp)] at hl
      rcases hl with hl | hl
      · subst hl; simp at hge hn2; omega
      · have : n = pre.length := by omega
        subst this; exact hl
  by_cases ho : (decide ((pre.length : Int) + 1 = stop) || decide (most < (pre.length : Int) + 1)) = true
  · right
    rw [ho] at he' h1'
    refine ⟨he', ⟨⟨es', by simpa using h1', h2'⟩, hb0, h1'.lt, hseen, ?_⟩⟩
    rw [if_pos rfl, List.length_append, List.length_singleton]
    simpa using ho
  · have ho' : (decide ((pre.length : Int) + 1 = stop) || decide (most < (pre.length : Int) + 1)) = false := by simpa using ho
    left
    rw [ho'] at he' h1'
    refine ⟨he', ⟨⟨es', by simpa using h1', h2'⟩, hb0, h1'.lt, hseen, ?_⟩⟩
    rw [if_neg (by simp), List.length_append, List.length_singleton]
    right
    simp only [Bool.or_eq_false_iff, decide_eq_false_iff_not] at ho'
    exact_mod_cast ho'.1
/-- What is gathered at the end is the cut. -/
theorem run_end {xs : List (Nat × V)} {b : Nat} {w W : World} {stop most : Int} (hs : stop ≠ 0) (hm : (xs.length : Int) ≤ most)
    (h : RunI b w stop most false xs W ∨ ∃ pre x post, xs = pre ++ x :: post ∧ RunI b w stop most true (pre ++ [x]) W) :
    Below b w W ∧ ∃ es n over, Holds W b (tkCells es (.slice none 0 0) stop most n over false) ∧ Own W (b + 1) 43 3 encL es (cutL xs stop) := by
  rcases h with h | ⟨pre, x, post, he, h⟩
  · obtain ⟨es, h1, h2⟩ := h.es
    refine ⟨h.below, es, _, _, h1, ?_⟩
    have : cutL xs stop = xs := by
      unfold cutL
      split
      · rfl
      · rename_i h0
        refine List.take_of_length_le ?_
        rcases Nat.lt_or_ge stop.toNat xs.length with hlt | hge
        · exact absurd (by omega) (h.seen stop.toNat (by omega) hlt)
        · exact hge
    rw [this]; exact h2
  · obtain ⟨es, h1, h2⟩ := h.es
    refine ⟨h.below, es, _, _, h1, ?_⟩
    have hl := h.last
    rw [if_pos rfl] at hl
    have hlen : xs.length = (pre ++ [x]).length + post.length := by rw [he]; simp; omega
    have : cutL xs stop = pre ++ [x] := by
      rcases hl with hl | hl
      · unfold cutL
        rw [if_neg (by omega), ← hl, Int.toNat_natCast, he]
        rw [show pre ++ x :: post = (pre ++ [x]) ++ post by simp]
        exact List.take_left
      · omega
    rw [this]; exact h2
end Go.Proofs.YtihmhledogppmaaDoor
