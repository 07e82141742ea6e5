/- What TrieOrder leans on: entries by their keys; the append of part of a slice. -/
import Derived.Test.YtihmhledogppmaaDoorDg
import Derived.Test.YtihmhledogppmaaDoorFp
namespace Go.Proofs.YtihmhledogppmaaDoor
open Go Go.RowKit
set_option linter.unusedVariables false

theorem look_laid {l : List (Nat × V)} (hs : Srt l) (k : Nat) (v : V) (done : Bool) (q : Nat) : look (laidL k v done l) q = if q = k then (if done then none else some v) else look l q := by
  apply Option.ext
  intro u
  rw [look_mem (srt_laid k v done hs), mem_laid]
  by_cases hq : q = k
  · subst hq
    cases done with
    | true => simp
    | false =>
      simp only [true_and, if_true, Bool.false_eq_true, if_false, Option.some.injEq, ne_eq, not_true_eq_false, and_false, or_false, Prod.mk.injEq]
      exact eq_comm
  · rw [if_neg hq, look_mem hs]
    constructor
    · rintro (⟨_, h⟩ | h)
      · cases h; exact absurd rfl hq
      · exact h.1
    · intro h
      exact .inr ⟨h, hq⟩
theorem eq_of_look {l m : List (Nat × V)} (hl : Srt l) (hm : Srt m) (h : ∀ q, look l q = look m q) : l = m :=
  srt_ext hl hm fun e => by
    rw [show e = (e.1, e.2) from rfl, ← look_mem hl, ← look_mem hm, h]
theorem look_none {l : List (Nat × V)} (hs : Srt l) {q : Nat} (h : ∀ e ∈ l, e.1 ≠ q) : look l q = none := by
  cases hq : look l q with
  | none => rfl
  | some v => exact absurd rfl (h _ ((look_mem hs).1 hq))
theorem srt_take {l : List (Nat × V)} (hs : Srt l) (k : Nat) : Srt (l.take k) := List.Pairwise.sublist (List.take_sublist k l) hs
theorem laid_take {l : List (Nat × V)} (hs : Srt l) {k : Nat} {e : Nat × V} (h : l[k]? = some e) : laidL e.1 e.2 false (l.take k) = l.take (k + 1) := by
  obtain ⟨hk, rfl⟩ := List.getElem?_eq_some_iff.1 h
  refine srt_ext (srt_laid _ _ _ (srt_take hs k)) (srt_take hs (k + 1)) fun x => ?_
  rw [mem_laid, List.take_succ_eq_append_getElem hk, List.mem_append, List.mem_singleton]
  constructor
  · rintro (⟨_, h⟩ | h)
    · exact .inr h
    · exact .inl h.1
  · rintro (h | h)
    · refine .inr ⟨h, ?_⟩
      obtain ⟨i, hi⟩ := List.getElem?_of_mem h
      rw [List.getElem?_take] at hi
      split at hi
      · obtain ⟨hi1, rfl⟩ := List.getElem?_eq_some_iff.1 hi
        have := List.pairwise_iff_getElem.1 hs i k hi1 hk (by omega)
        omega
      · cases hi
    · exact .inl ⟨rfl, h⟩
section
variable {α : Type}
theorem flat_cells {w : World} {b : Nat} {enc : α → List Value} {s : Nat} (hs : ∀ x, (enc x).length = s) : ∀ (l : List α) (off : Nat), (∀ i x r u, l[i]? = some x → (enc x)[r]? = some u → w.cell? ⟨b, off + i * s + r, none⟩ = some u) → ∀ j u, (l.flatMap enc)[j]? = some u → w.cell? ⟨b, off + j, none⟩ = some u
  | [], off, h, j, u, hj => by simp at hj
  | y :: l, off, h, j, u, hj => by
    rw [List.flatMap_cons] at hj
    by_cases hjs : j < s
    · rw [List.getElem?_append_left (by rw [hs]; exact hjs)] at hj
      have := h 0 y j u rfl hj
      simpa using this
    · rw [List.getElem?_append_right (by rw [hs]; omega), hs] at hj
      have := flat_cells hs l (off + s) (fun i x r u hi hr => by
        have := h (i + 1) x r u (by simpa using hi) hr
        rw [Nat.add_mul, Nat.one_mul] at this
        rw [show off + s + i * s + r = off + (i * s + s) + r by omega]
        exact this) (j - s) u hj
      rwa [show off + s + (j - s) = off + j by omega] at this
theorem rd_flat {w : World} {s : Nat} {enc : α → List Value} {ad : Addr} {n c : Nat} {l : List α} (hs : ∀ x, (enc x).length = s) (h : Rd w s enc (.slice (some ad) n c) l) : ∀ j u, (l.flatMap enc)[j]? = some u → w.cell? (ad.add j) = some u := by
  obtain ⟨a', c', hv, h⟩ := h
  simp only [Value.slice.injEq] at hv
  obtain ⟨rfl, rfl, rfl⟩ := hv
  intro j u hj
  rcases h with rfl | ⟨b, off, he, hb, hc⟩
  · simp at hj
  · cases he
    have hadd : (⟨b, off, none⟩ : Addr).add j = ⟨b, off + j, none⟩ := by unfold Addr.add; split <;> simp_all
    rw [hadd]
    exact flat_cells hs l off hc j u hj
theorem rd_len {w : World} {s : Nat} {enc : α → List Value} {a : Option Addr} {n c : Nat} {l : List α} (h : Rd w s enc (.slice a n c) l) : n = l.length := by
  obtain ⟨a', c', hv, _⟩ := h
  simp only [Value.slice.injEq] at hv
  exact hv.2.1
end
theorem hown_len : ∀ m : List (Nat × V), (m.flatMap encL).length = m.length * 3
  | [] => rfl
  | x :: m => by rw [List.flatMap_cons, List.length_append, hown_len m, encL_len, List.length_cons]; omega
/-- The append of entries that another slice holds. -/
theorem wpList_app_part {ops : Array Oper} {rest : List Oper} {o : Oper} {a : Act} {w : World} {Q : Exit → Act → World → Prop} (hgd : o.guard = none) (s x : Operand)
    (ho : o.op = .call { callee := .builtin .append, args := #[s, x], argTypes := #[35, 35] })
    (base : Nat) (v : Value) (l m : List (Nat × V)) (hown : Own w base 43 3 encL v l) (hs : a.eval s = v)
    (ad : Addr) (n c : Nat) (hx : a.eval x = .slice (some ad) n c) (hrd : Rd w 3 encL (.slice (some ad) n c) m) (hn : l.length + m.length ≤ 1000000) (hbase : base ≤ w.heap.size)
    (h : ∀ v' W, Own W base 43 3 encL v' (l ++ m) → Below base w W → wpList Tryd.prog ops Q rest (a.put o.dst v') W) :
    wpList Tryd.prog ops Q (o :: rest) a w := by
  obtain ⟨i0, hi, hz0, hz1, hz2⟩ := info_parts info_entry
  have hlen := rd_len hrd
  refine wpList_append_own w hgd s x _ ho base 43 i0 _ 3 24 und_entries hi hz0 hz1 hz2 rfl (by omega) v l.length (l.flatMap encL) hs hown.row ad n c (m.flatMap encL) hx ?_ (rd_flat encL_len hrd) ?_ (by simp only [maxLen]; omega) (by omega) hbase ?_
  · rw [hlen]; exact hown_len m
  · intro u hu
    obtain ⟨x, _, hx⟩ := List.mem_flatMap.1 hu
    simp only [encL, List.mem_cons, List.not_mem_nil, or_false] at hx
    rcases hx with rfl | rfl | rfl <;> rfl
  · intro v' W h2 h3 h4
    refine h v' W ⟨?_, ?_⟩ ?_
    · rw [List.length_append, List.flatMap_append, ← hlen]; exact h2
    · rw [h4, hown.nil, List.append_eq_nil_iff, hlen, List.length_eq_zero_iff]
    · exact ⟨h3.os, h3.tape, h3.output, h3.size, fun k hk => h3.block k (Nat.lt_of_lt_of_le hk hbase) (fun e => by have := hown.block k e.symm; omega)⟩
end Go.Proofs.YtihmhledogppmaaDoor
