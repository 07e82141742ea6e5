/- A slice that came in, as its row reads it, is a list ('Rd'); the word of each kind of element. -/
import Derived.Test.YtmhhejpokgdjoaaWk
import Derived.Deep.Slices
import Derived.Carry
import Derived.ReadAgain
namespace Go.Proofs.Ytmhhejpokgdjoaa
open Go Go.RowKit Go.WideShapes Go.ChangeShapes Go.Deep
set_option linter.unusedVariables false

section
variable {H : Type} {enc0 : TypeId × Value → H} {P : Program} {w : World} {α : Type}
theorem list_of_lt {Q : Nat → α → Prop} : ∀ n : Nat, (∀ i, i < n → ∃ x, Q i x) → ∃ l : List α, l.length = n ∧ ∀ i x, l[i]? = some x → Q i x
  | 0, _ => ⟨[], rfl, fun i x h => by simp at h⟩
  | n + 1, h => by
    obtain ⟨l, hl, hq⟩ := list_of_lt n (fun i hi => h i (by omega))
    obtain ⟨x, hx⟩ := h n (by omega)
    refine ⟨l ++ [x], by simp [hl], fun i y hy => ?_⟩
    by_cases hi : i < n
    · rw [List.getElem?_append_left (by omega)] at hy
      exact hq i y hy
    · rw [List.getElem?_append_right (by omega)] at hy
      by_cases hin : i = n
      · subst hin
        simp only [hl, Nat.sub_self, List.getElem?_cons_zero, Option.some.injEq] at hy
        subst hy
        exact hx
      · rw [List.getElem?_eq_none (by simp; omega)] at hy
        cases hy
/-- A slice of elements of s cells, each of which reads by 'enc': the list. -/
theorem rd_of_trod {t e : TypeId} {s : Nat} {enc : α → List Value} {Q : α → Prop} (ht : P.underlying t = some (.slice e)) (hc : P.cellsOf e = s) (hs : 0 < s)
    (hdec : ∀ n cs y, cs.length = s → DataW.trod enc0 P w 0 (fun _ => true) true n e cs = some y → ∃ x, cs = enc x ∧ Q x)
    {v : Value} {d : DataW H} {p : List MemPlace} (hv : ∃ a len cap, v = .slice a len cap) (h : DataW.Trod enc0 P w 0 (fun _ => true) true t v d p) :
    ∃ l, Rd w s enc v l ∧ (∀ x ∈ l, Q x) := by
  obtain ⟨a0, len0, cap0, rfl⟩ := hv
  obtain ⟨fuel, hf⟩ := h
  rcases open_slice ht hf with ⟨hcs, _⟩ | ⟨a, len, cap, m, n, D, Pl, hcs, _, hl, hm, hmm, _, hx⟩
  · simp [Value.cells] at hcs
    obtain ⟨rfl, rfl, rfl⟩ := hcs
    exact ⟨[], rd_nil w s enc, fun x hx => by simp at hx⟩
  · simp only [Value.cells, List.cons.injEq, and_true, Value.slice.injEq] at hcs
    obtain ⟨rfl, rfl, rfl⟩ := hcs
    rw [if_pos rfl] at hmm
    subst hmm
    rw [hc] at hx
    obtain ⟨l, hll, hq⟩ := list_of_lt (α := α) (Q := fun i x => w.cells? 0 (a.add (i * s)) s = some (enc x) ∧ Q x ∧ (enc x).length = s) len0 (fun i hi => by
      obtain ⟨cs', h1, h2⟩ := hx i (by omega)
      have hlen := (World.cells?_some h1).2.1
      obtain ⟨x, rfl, hQ⟩ := hdec n cs' _ hlen h2
      exact ⟨x, h1, hQ, hlen⟩)
    refine ⟨l, ⟨some a, m, by rw [hll], ?_⟩, fun x hx => ?_⟩
    · cases hl0 : l with
      | nil => exact .inl rfl
      | cons y l' =>
        right
        obtain ⟨b, off, spot⟩ := a
        have h0 := hq 0 y (by rw [hl0]; rfl)
        have hcell : ∀ i x, l[i]? = some x → ∀ j u, (enc x)[j]? = some u → w.cell? ((Addr.add ⟨b, off, spot⟩ (i * s)).add j) = some u := by
          intro i x hi j u hj
          obtain ⟨h1, _, h3⟩ := hq i x hi
          have := (World.cells?_some h1).2.2 j (by have := (List.getElem?_eq_some_iff.1 hj).1; omega)
          rw [this]; exact hj
        have hsp : spot = none ∧ b < w.heap.size := by
          obtain ⟨u, hu⟩ : ∃ u, (enc y)[0]? = some u := ⟨_, List.getElem?_eq_getElem (by omega)⟩
          have := hcell 0 y (by rw [hl0]; rfl) 0 u hu
          simp only [Nat.zero_mul, Addr.add, if_true] at this
          unfold World.cell? at this
          simp only at this
          split at this
          · rename_i c e' z hb
            refine ⟨?_, (Array.getElem?_eq_some_iff.1 hb).1⟩
            cases spot with
            | none => rfl
            | some k => simp at this
          · cases this
        obtain ⟨rfl, hblt⟩ := hsp
        refine ⟨b, off, rfl, hblt, fun i x j u hi hj => ?_⟩
        have := hcell i x (by rw [hl0]; exact hi) j u hj
        have ea : (Addr.add ⟨b, off, none⟩ (i * s)).add j = ⟨b, off + i * s + j, none⟩ := by
          unfold Addr.add
          by_cases h1 : i * s = 0 <;> by_cases h2 : j = 0 <;> simp [h1, h2]
        rw [ea] at this
        exact this
    · obtain ⟨i, hi⟩ := List.getElem?_of_mem hx
      exact (hq i x hi).2.1
/-- Whole numbers, of kind int. -/
theorem rd_ints {t e : TypeId} (ht : P.underlying t = some (.slice e)) (he : P.underlying e = some (.int .i64)) (hc : P.cellsOf e = 1)
    {v : Value} {d : DataW H} {p : List MemPlace} (hv : ∃ a len cap, v = .slice a len cap) (h : DataW.Trod enc0 P w 0 (fun _ => true) true t v d p) :
    ∃ l : List Int, Rd w 1 (fun n => [.int .i64 n]) v l ∧ (∀ x ∈ l, -9223372036854775808 ≤ x ∧ x ≤ 9223372036854775807) :=
  rd_of_trod ht hc (by omega) (fun n cs y hl hy => by
    obtain ⟨x, rfl, _, hw⟩ := DataW.trod_int he hy
    refine ⟨x, rfl, ?_⟩
    simpa [Lit.wf, IntKind.min, IntKind.max, IntKind.signed, IntKind.bits] using hw) hv h
end
end Go.Proofs.Ytmhhejpokgdjoaa
