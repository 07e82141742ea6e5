/- The law's taker of changes as a yield. -/
import Derived.Test.YtihmhledogppmaaDoorDmX
import Derived.Test.YtihmhledogppmaaDoorTc
import Derived.Test.YtihmhledogppmaaDoorLaD
namespace Go.Proofs.YtihmhledogppmaaDoor
open Go Go.RowKit
set_option linter.unusedVariables false

def chgV (b : Nat) : Value := .func (.func 55) #[.pointer (some ⟨b, 0, none⟩)] #[]
structure RunC (b : Nat) (w : World) (stop most : Int) (over : Bool) (pre : List Ch) (Q : Nat → Prop) (W : World) : Prop where
  cs : ∃ cs, Holds W b (tkCells (.slice none 0 0) cs stop most pre.length over false) ∧ Own W (b + 1) 64 7 encC cs pre ∧ ∀ k, cs.ownBlock = some k → ¬ Q k
  q : ¬ Q b
  lt : ∀ k, Q k → k < W.heap.size
  same : W.os = w.os ∧ W.tape = w.tape ∧ W.output = w.output
  seen : ∀ n : Nat, 1 ≤ n → n < pre.length → (n : Int) ≠ stop
  last : if over then ((pre.length : Int) = stop ∨ most < (pre.length : Int)) else (pre = [] ∨ (pre.length : Int) ≠ stop)
theorem Own.same {α : Type} {w w' : World} {base : Nat} {ty : TypeId} {s : Nat} {enc : α → List Value} {v : Value} {l : List α} (h : Own w base ty s enc v l) (he : ∀ k, v.ownBlock = some k → w'.heap[k]? = w.heap[k]?) : Own w' base ty s enc v l := by
  obtain ⟨⟨hlen, hr⟩, hn⟩ := h
  refine ⟨⟨hlen, hr.imp id ?_⟩, hn⟩
  rintro ⟨g, cap, cur, rfl, h2, h3, h4⟩
  exact ⟨g, cap, cur, rfl, h2, (he g rfl).trans h3, h4⟩
theorem Own.isCells {α : Type} {w : World} {base : Nat} {ty : TypeId} {s : Nat} {enc : α → List Value} {v : Value} {l : List α} (h : Own w base ty s enc v l) {k : Nat} (hk : v.ownBlock = some k) {o : Obj} (ho : w.heap[k]? = some o) : o.isCells = true := by
  obtain ⟨⟨hlen, hr⟩, hn⟩ := h
  rcases hr with ⟨rfl, _⟩ | ⟨g, cap, cur, rfl, h2, h3, h4⟩
  · cases hk
  · cases hk
    rw [h3] at ho
    cases ho
    rfl
theorem RunC.abide (b : Nat) (w : World) (stop most : Int) (over : Bool) : Abide (RunC b w stop most over) where
  turn := by
    intro pre Q W W' h hs hsz h1 h2 h3
    obtain ⟨cs, hH, hO, hQ⟩ := h.cs
    refine ⟨⟨cs, hH.same (hs b hH.lt h.q), hO.same (fun k hk => hs k (hO.row.lt k hk).2 (hQ k hk)), ?_⟩, ?_, ?_, ⟨h1.trans h.same.1, h2.trans h.same.2.1, h3.trans h.same.2.2⟩, h.seen, h.last⟩
    · rintro k hk (h | ⟨h, _⟩)
      · exact hQ k hk h
      · have := (hO.row.lt k hk).2; omega
    · rintro (h' | ⟨h', _⟩)
      · exact h.q h'
      · have := hH.lt; omega
    · rintro k (h' | ⟨_, h'⟩)
      · have := h.lt k h'; omega
      · exact h'
  less := by
    intro pre Q Q' W h hq
    obtain ⟨cs, hH, hO, hQ⟩ := h.cs
    exact ⟨⟨cs, hH, hO, fun k hk h' => hQ k hk (hq k h')⟩, fun h' => h.q (hq _ h'), fun k h' => h.lt k (hq k h'), h.same, h.seen, h.last⟩
theorem RunC.own (b : Nat) (w : World) (stop most : Int) (over : Bool) (Q : Nat → Prop) : Go.Own (fun pre W => RunC b w stop most over pre Q W) := by
  intro pre W W' row h hg hr
  obtain ⟨cs, hH, hO, hQ⟩ := h.cs
  have hs : ∀ (k : Nat) (o : Obj), W.heap[k]? = some o → o.isCells = true → W'.heap[k]? = W.heap[k]? := fun k o ho hc => grownBy_keeps_cells hg hr ho hc
  refine ⟨⟨cs, hH.same ?_, hO.same ?_, hQ⟩, h.q, fun k hk => Nat.lt_of_lt_of_le (h.lt k hk) hg.size, ⟨hg.os.trans h.same.1, hg.tape.trans h.same.2.1, hg.output.trans h.same.2.2⟩, h.seen, h.last⟩
  · have hl := hH.lt
    exact hs b _ (Array.getElem?_eq_getElem hl) (hH.isCells (Array.getElem?_eq_getElem hl))
  · intro k hk
    have hl := (hO.row.lt k hk).2
    exact hs k _ (Array.getElem?_eq_getElem hl) (hO.isCells hk (Array.getElem?_eq_getElem hl))
theorem change_yd (b : Nat) (w : World) (stop most : Int) : YdN Tryd.prog (chgV b) chE 8589934600 0 (RunC b w stop most false) (RunC b w stop most true) := by
  intro pre x Q W hlen h
  obtain ⟨cs, h1, h2, h3⟩ := h.cs
  refine callV_func (Go.Proofs.enters_of Tryd.func55 (by kernel_rfl) rfl) ?_
  refine (change_any b (b + 1) cs pre x stop most W h1 h2 (by omega) h1.lt (by omega)).mono ?_
  rintro e W' ⟨he', ⟨cs', h1', h2', hob⟩, hb, hfr⟩
  have hQs : ∀ k, Q k → W'.heap[k]? = W.heap[k]? := fun k hk => hfr k (h.lt k hk) (fun e => h.q (e ▸ hk)) (fun e => h3 k e hk)
  have hko : KeepsOthers W W' := by
    refine ⟨hb.size, fun k o hk ho => ?_⟩
    refine (hfr k (Array.getElem?_eq_some_iff.1 hk).1 (fun e => ?_) (fun e => ?_)).trans hk
    · subst e
      rw [h1.isCells hk] at ho
      cases ho
    · rw [h2.isCells e hk] at ho
      cases ho
  have hq' : ∀ k, cs'.ownBlock = some k → ¬ Q k := by
    intro k hk hq
    rcases hob k hk with h' | h'
    · exact h3 k h' hq
    · have := h.lt k hq; omega
  have hlt' : ∀ k, Q k → k < W'.heap.size := fun k hk => Nat.lt_of_lt_of_le (h.lt k hk) hb.size
  have hsm : W'.os = w.os ∧ W'.tape = w.tape ∧ W'.output = w.output := ⟨hb.os.trans h.same.1, hb.tape.trans h.same.2.1, hb.output.trans h.same.2.2⟩
  have hseen : ∀ n : Nat, 1 ≤ n → n < (pre ++ [x]).length → (n : Int) ≠ stop := by
    intro n hn1 hn2
    rw [List.length_append, List.length_singleton] at hn2
    rcases Nat.lt_or_ge n pre.length with hlt | hge
    · exact h.seen n hn1 hlt
    · have hl := h.last
      rw [if_neg (by simp)] at hl
      rcases hl with hl | hl
      · subst hl; simp at hge hn2; omega
      · have : n = pre.length := by omega
        subst this; exact hl
  refine ⟨⟨hQs, hb.size⟩, hko.from 0, ?_⟩
  by_cases ho : (decide ((pre.length : Int) + 1 = stop) || decide (most < (pre.length : Int) + 1)) = true
  · right
    rw [ho] at he' h1'
    refine ⟨he', ⟨⟨cs', by simpa using h1', h2', hq'⟩, h.q, hlt', hsm, hseen, ?_⟩⟩
    rw [if_pos rfl, List.length_append, List.length_singleton]
    simpa using ho
  · have ho' : (decide ((pre.length : Int) + 1 = stop) || decide (most < (pre.length : Int) + 1)) = false := by simpa using ho
    left
    rw [ho'] at he' h1'
    refine ⟨he', ⟨⟨cs', by simpa using h1', h2', hq'⟩, h.q, hlt', hsm, hseen, ?_⟩⟩
    rw [if_neg (by simp), List.length_append, List.length_singleton]
    right
    simp only [Bool.or_eq_false_iff, decide_eq_false_iff_not] at ho'
    exact_mod_cast ho'.1
/-- What is gathered at the end is the cut. -/
theorem runC_end {xs : List Ch} {b : Nat} {w W : World} {Q : Nat → Prop} {stop most : Int} (hs : stop ≠ 0) (hm : (xs.length : Int) ≤ most ∨ (0 < stop ∧ stop ≤ most))
    (h : RunC b w stop most false xs Q W ∨ ∃ pre x post, xs = pre ++ x :: post ∧ RunC b w stop most true (pre ++ [x]) Q W) :
    (W.os = w.os ∧ W.tape = w.tape ∧ W.output = w.output) ∧ ∃ cs n over, Holds W b (tkCells (.slice none 0 0) cs stop most n over false) ∧ Own W (b + 1) 64 7 encC cs (cutL xs stop) := by
  rcases h with h | ⟨pre, x, post, he, h⟩
  · obtain ⟨cs, h1, h2, _⟩ := h.cs
    refine ⟨h.same, cs, _, _, h1, ?_⟩
    have : cutL xs stop = xs := by
      unfold cutL
      split
      · rfl
      · rename_i h0
        refine List.take_of_length_le ?_
        rcases Nat.lt_or_ge stop.toNat xs.length with hlt | hge
        · exact absurd (by omega) (h.seen stop.toNat (by omega) hlt)
        · exact hge
    rw [this]; exact h2
  · obtain ⟨cs, h1, h2, _⟩ := h.cs
    refine ⟨h.same, cs, _, _, h1, ?_⟩
    have hl := h.last
    rw [if_pos rfl] at hl
    have hlen : xs.length = (pre ++ [x]).length + post.length := by rw [he]; simp; omega
    have : cutL xs stop = pre ++ [x] := by
      rcases hl with hl | hl
      · unfold cutL
        rw [if_neg (by omega), ← hl, Int.toNat_natCast, he]
        rw [show pre ++ x :: post = (pre ++ [x]) ++ post by simp]
        exact List.take_left
      · rcases hm with hm | ⟨hm1, hm2⟩
        · omega
        · exact absurd (by omega) (h.seen stop.toNat (by omega) (by omega))
    rw [this]; exact h2
end Go.Proofs.YtihmhledogppmaaDoor
