/- The plain law of the reference's Diff and Shared: they tell what the tries tell. -/
import Derived.Test.YtmhhejpokgdjoaaRs
import Derived.Test.YtmhhejpokgdjoaaRj
import Derived.Test.YtmhhejpokgdjoaaDmX
namespace Go.Proofs.Ytmhhejpokgdjoaa
open Go Go.RowKit
set_option linter.unusedVariables false
set_option linter.unusedSimpArgs false

/-! ### Diff -/
theorem look_cons (x : Nat × V) (a : List (Nat × V)) (q : Nat) : look (x :: a) q = if q = x.1 then some x.2 else look a q := by
  unfold look
  rw [List.find?_cons]
  by_cases h : q = x.1
  · subst h; simp
  · have : (x.1 == q) = false := by simpa using fun e => h e.symm
    rw [this, if_neg h]
theorem look_above {x : Nat × V} {a : List (Nat × V)} (hs : Srt (x :: a)) {q : Nat} (hq : q ≤ x.1) : look a q = none :=
  look_none (List.pairwise_cons.1 hs).2 (fun e he => by have := (List.pairwise_cons.1 hs).1 e he; omega)
def DifP (a b : List (Nat × V)) (c : Ch) : Prop := c.2.1 = look a c.1 ∧ c.2.2 = look b c.1 ∧ c.2.1 ≠ c.2.2
theorem difP_left {x : Nat × V} {a b : List (Nat × V)} (hs : Srt (x :: a)) (hb : look b x.1 = none) (c : Ch) : DifP (x :: a) b c ↔ c = (x.1, some x.2, none) ∨ DifP a b c := by
  unfold DifP
  rw [look_cons]
  have h0 := look_above hs (Nat.le_refl _)
  obtain ⟨k, p, q⟩ := c
  dsimp only
  by_cases hk : k = x.1
  · subst hk
    rw [if_pos rfl, hb, h0]
    constructor
    · rintro ⟨rfl, rfl, _⟩; exact .inl rfl
    · rintro (h | ⟨rfl, rfl, h⟩)
      · cases h; exact ⟨rfl, rfl, by simp⟩
      · exact absurd rfl h
  · rw [if_neg hk]
    constructor
    · exact fun h => .inr h
    · rintro (h | h)
      · cases h; exact absurd rfl hk
      · exact h
theorem difP_right {y : Nat × V} {a b : List (Nat × V)} (hs : Srt (y :: b)) (ha : look a y.1 = none) (c : Ch) : DifP a (y :: b) c ↔ c = (y.1, none, some y.2) ∨ DifP a b c := by
  unfold DifP
  rw [look_cons]
  have h0 := look_above hs (Nat.le_refl _)
  obtain ⟨k, p, q⟩ := c
  dsimp only
  by_cases hk : k = y.1
  · subst hk
    rw [if_pos rfl, ha, h0]
    constructor
    · rintro ⟨rfl, rfl, _⟩; exact .inl rfl
    · rintro (h | ⟨rfl, rfl, h⟩)
      · cases h; exact ⟨rfl, rfl, by simp⟩
      · exact absurd rfl h
  · rw [if_neg hk]
    constructor
    · exact fun h => .inr h
    · rintro (h | h)
      · cases h; exact absurd rfl hk
      · exact h
theorem difP_both {x y : Nat × V} {a b : List (Nat × V)} (hx : Srt (x :: a)) (hy : Srt (y :: b)) (h : x.1 = y.1) (c : Ch) : DifP (x :: a) (y :: b) c ↔ (c = (x.1, some x.2, some y.2) ∧ x.2 ≠ y.2) ∨ DifP a b c := by
  unfold DifP
  rw [look_cons, look_cons]
  have h0 := look_above hx (Nat.le_refl _)
  have h1 := look_above hy (Nat.le_refl _)
  rw [← h] at h1
  obtain ⟨k, p, q⟩ := c
  dsimp only
  by_cases hk : k = x.1
  · subst hk
    rw [if_pos rfl, if_pos h, h0, h1]
    constructor
    · rintro ⟨rfl, rfl, h2⟩; exact .inl ⟨rfl, fun e => h2 (by rw [e])⟩
    · rintro (⟨h2, h3⟩ | ⟨rfl, rfl, h2⟩)
      · cases h2; exact ⟨rfl, rfl, fun e => h3 (Option.some.inj e)⟩
      · exact absurd rfl h2
  · rw [if_neg hk, if_neg (fun e => hk (e.trans h.symm))]
    constructor
    · exact fun h => .inr h
    · rintro (⟨h2, _⟩ | h2)
      · cases h2; exact absurd rfl hk
      · exact h2
theorem difP_key {a b : List (Nat × V)} {c : Ch} (h : DifP a b c) : (∃ e ∈ a, e.1 = c.1) ∨ (∃ e ∈ b, e.1 = c.1) := by
  obtain ⟨h1, h2, h3⟩ := h
  have mem : ∀ {l : List (Nat × V)} {k : Nat}, look l k ≠ none → ∃ e ∈ l, e.1 = k := by
    intro l k hk
    unfold look at hk
    cases hf : l.find? fun e => e.1 == k with
    | none => rw [hf] at hk; simp at hk
    | some e => exact ⟨e, List.mem_of_find?_eq_some hf, by simpa using List.find?_some hf⟩
  cases hp : look a c.1 with
  | some u => exact .inl (mem (by rw [hp]; simp))
  | none =>
    right
    apply mem
    intro hn
    rw [hp] at h1
    rw [hn] at h2
    rw [h1, h2] at h3
    exact h3 rfl
theorem difL_spec : ∀ (n : Nat) (a b : List (Nat × V)), a.length + b.length ≤ n → Srt a → Srt b → SrtC (difL a b) ∧ ∀ c, c ∈ difL a b ↔ DifP a b c
  | n, [], [], _, _, _ => by
    refine ⟨by simp [difL, SrtC], fun c => ?_⟩
    simp only [difL, List.not_mem_nil, false_iff]
    rintro ⟨h1, h2, h3⟩
    exact h3 (h1.trans h2.symm)
  | 0, x :: a, b, hn, _, _ => by simp at hn
  | 0, [], y :: b, hn, _, _ => by simp at hn
  | n + 1, x :: a, [], hn, ha, hb => by
    obtain ⟨h1, h2⟩ := difL_spec n a [] (by simp at hn ⊢; omega) (List.pairwise_cons.1 ha).2 hb
    rw [show difL (x :: a) [] = (x.1, some x.2, none) :: difL a [] by simp [difL]]
    refine ⟨List.pairwise_cons.2 ⟨fun c hc => ?_, h1⟩, fun c => ?_⟩
    · rcases difP_key ((h2 c).1 hc) with ⟨e, he, h⟩ | ⟨e, he, _⟩
      · have := (List.pairwise_cons.1 ha).1 e he; show x.1 < c.1; omega
      · cases he
    · rw [List.mem_cons, h2, difP_left ha rfl]
  | n + 1, [], y :: b, hn, ha, hb => by
    obtain ⟨h1, h2⟩ := difL_spec n [] b (by simp at hn ⊢; omega) ha (List.pairwise_cons.1 hb).2
    rw [show difL [] (y :: b) = (y.1, none, some y.2) :: difL [] b by simp [difL]]
    refine ⟨List.pairwise_cons.2 ⟨fun c hc => ?_, h1⟩, fun c => ?_⟩
    · rcases difP_key ((h2 c).1 hc) with ⟨e, he, _⟩ | ⟨e, he, h⟩
      · cases he
      · have := (List.pairwise_cons.1 hb).1 e he; show y.1 < c.1; omega
    · rw [List.mem_cons, h2, difP_right hb rfl]
  | n + 1, x :: a, y :: b, hn, ha, hb => by
    have hxa := (List.pairwise_cons.1 ha).1
    have hyb := (List.pairwise_cons.1 hb).1
    by_cases c1 : x.1 < y.1
    · obtain ⟨h1, h2⟩ := difL_spec n a (y :: b) (by simp at hn ⊢; omega) (List.pairwise_cons.1 ha).2 hb
      rw [show difL (x :: a) (y :: b) = (x.1, some x.2, none) :: difL a (y :: b) by rw [difL, if_pos c1]]
      refine ⟨List.pairwise_cons.2 ⟨fun c hc => ?_, h1⟩, fun c => ?_⟩
      · show x.1 < c.1
        rcases difP_key ((h2 c).1 hc) with ⟨e, he, h⟩ | ⟨e, he, h⟩
        · have := hxa e he; omega
        · rcases List.mem_cons.1 he with rfl | he
          · omega
          · have := hyb e he; omega
      · rw [List.mem_cons, h2, difP_left ha]
        rw [look_cons, if_neg (by omega), look_above hb (by omega)]
    · by_cases c2 : y.1 < x.1
      · obtain ⟨h1, h2⟩ := difL_spec n (x :: a) b (by simp at hn ⊢; omega) ha (List.pairwise_cons.1 hb).2
        rw [show difL (x :: a) (y :: b) = (y.1, none, some y.2) :: difL (x :: a) b by rw [difL, if_neg c1, if_pos c2]]
        refine ⟨List.pairwise_cons.2 ⟨fun c hc => ?_, h1⟩, fun c => ?_⟩
        · show y.1 < c.1
          rcases difP_key ((h2 c).1 hc) with ⟨e, he, h⟩ | ⟨e, he, h⟩
          · rcases List.mem_cons.1 he with rfl | he
            · omega
            · have := hxa e he; omega
          · have := hyb e he; omega
        · rw [List.mem_cons, h2, difP_right hb]
          rw [look_cons, if_neg (by omega), look_above ha (by omega)]
      · have c3 : x.1 = y.1 := by omega
        obtain ⟨h1, h2⟩ := difL_spec n a b (by simp at hn ⊢; omega) (List.pairwise_cons.1 ha).2 (List.pairwise_cons.1 hb).2
        by_cases c4 : x.2 = y.2
        · rw [show difL (x :: a) (y :: b) = difL a b by rw [difL, if_neg c1, if_neg c2, if_pos c4]]
          refine ⟨h1, fun c => ?_⟩
          rw [h2, difP_both ha hb c3]
          constructor
          · exact fun h => .inr h
          · rintro (⟨_, h⟩ | h)
            · exact absurd c4 h
            · exact h
        · rw [show difL (x :: a) (y :: b) = (x.1, some x.2, some y.2) :: difL a b by rw [difL, if_neg c1, if_neg c2, if_neg c4]]
          refine ⟨List.pairwise_cons.2 ⟨fun c hc => ?_, h1⟩, fun c => ?_⟩
          · show x.1 < c.1
            rcases difP_key ((h2 c).1 hc) with ⟨e, he, h⟩ | ⟨e, he, h⟩
            · have := hxa e he; omega
            · have := hyb e he; omega
          · rw [List.mem_cons, h2, difP_both ha hb c3]
            constructor
            · rintro (h | h)
              · exact .inl ⟨h, c4⟩
              · exact .inr h
            · rintro (⟨h, _⟩ | h)
              · exact .inl h
              · exact .inr h
theorem srtC_ext : ∀ {l m : List Ch}, SrtC l → SrtC m → (∀ c, c ∈ l ↔ c ∈ m) → l = m
  | [], [], _, _, _ => rfl
  | [], y :: m, _, _, h => absurd ((h y).2 List.mem_cons_self) (by simp)
  | x :: l, [], _, _, h => absurd ((h x).1 List.mem_cons_self) (by simp)
  | x :: l, y :: m, h1, h2, h => by
    have a1 := List.pairwise_cons.1 h1
    have a2 := List.pairwise_cons.1 h2
    have hxy : x = y := by
      rcases List.mem_cons.1 ((h x).1 List.mem_cons_self) with e | e
      · exact e
      · rcases List.mem_cons.1 ((h y).2 List.mem_cons_self) with e' | e'
        · exact e'.symm
        · have := a1.1 y e'; have := a2.1 x e; omega
    subst hxy
    rw [srtC_ext a1.2 a2.2 (fun k => ?_)]
    constructor
    · intro hk
      rcases List.mem_cons.1 ((h k).1 (List.mem_cons_of_mem _ hk)) with e | e
      · subst e; exact absurd (a1.1 k hk) (Nat.lt_irrefl _)
      · exact e
    · intro hk
      rcases List.mem_cons.1 ((h k).2 (List.mem_cons_of_mem _ hk)) with e | e
      · subst e; exact absurd (a2.1 k hk) (Nat.lt_irrefl _)
      · exact e
theorem difs_difL (a b : Tr 8) : difs a b 0 = difL (a.ents 0) (b.ents 0) := by
  obtain ⟨h1, h2⟩ := difL_spec _ (a.ents 0) (b.ents 0) (Nat.le_refl _) (Tr.srt a 0) (Tr.srt b 0)
  refine srtC_ext (difs_srt a b 0) h1 fun c => ?_
  rw [h2, mem_difs0]
  unfold DifP
  constructor
  · rintro ⟨h3, h4, h5, h6⟩
    rw [look_ents a _ h3, look_ents b _ h3]
    exact ⟨h4, h5, h6⟩
  · intro h
    have hk : c.1 < 4294967296 := by
      rcases difP_key h with ⟨e, he, h3⟩ | ⟨e, he, h3⟩
      · rw [← h3]; exact (mem_ents0.1 he).1
      · rw [← h3]; exact (mem_ents0.1 he).1
    rw [look_ents a _ hk, look_ents b _ hk] at h
    exact ⟨hk, h⟩
end Go.Proofs.Ytmhhejpokgdjoaa
