/- What differs between two trees: the plain law. No program. -/
import Derived.Test.YtihmhledogppmaaDoorDd
import Derived.Test.YtihmhledogppmaaDoorOs
namespace Go.Proofs.YtihmhledogppmaaDoor
open Go Go.RowKit
set_option linter.unusedVariables false

theorem get_kid {d : Nat} (t : Tr (d + 1)) (r : Nat) : t.get r = (t.kid (dF r d)).get r := rfl
theorem mem_difs : ∀ {d : Nat} (a b : Tr d) (h : Nat) (c : Ch), c ∈ difs a b h ↔ ∃ r, r < 16 ^ d ∧ c = (h + r, a.get r, b.get r) ∧ a.get r ≠ b.get r
  | 0, a, b, h, c => by
    have hv : ∀ (t : Tr 0) (r : Nat), t.get r = val0 t := fun t r => rfl
    show c ∈ (if val0 a = val0 b then [] else [(h, val0 a, val0 b)]) ↔ _
    constructor
    · intro hm
      split at hm
      · cases hm
      · rename_i hne
        simp only [List.mem_singleton] at hm
        exact ⟨0, by simp, by rw [hm]; rfl, hne⟩
    · rintro ⟨r, hr, rfl, hne⟩
      have : r = 0 := by simpa using hr
      subst this
      rw [hv, hv] at *
      rw [if_neg hne]
      exact List.mem_singleton.2 rfl
  | d + 1, a, b, h, c => by
    have hpos : 0 < 16 ^ d := Nat.pow_pos (by decide)
    show c ∈ allF.flatMap _ ↔ _
    simp only [List.mem_flatMap]
    constructor
    · rintro ⟨i, _, hi⟩
      obtain ⟨r, hr, rfl, hne⟩ := (mem_difs (a.kid i) (b.kid i) _ c).1 hi
      have h1 : (i.val + 1) * 16 ^ d ≤ 16 * 16 ^ d := Nat.mul_le_mul_right _ i.isLt
      rw [Nat.add_mul, Nat.one_mul] at h1
      have hdiv : (i.val * 16 ^ d + r) / 16 ^ d = i.val := by
        rw [Nat.mul_comm, Nat.mul_add_div hpos, Nat.div_eq_of_lt hr]; rfl
      have hdF : dF (i.val * 16 ^ d + r) d = i := by
        apply Fin.ext
        show (i.val * 16 ^ d + r) / 16 ^ d % 16 = i.val
        rw [hdiv, Nat.mod_eq_of_lt i.isLt]
      have hg : ∀ t : Tr (d + 1), t.get (i.val * 16 ^ d + r) = (t.kid i).get r := by
        intro t
        rw [get_kid, hdF, ← Tr.get_mod (t.kid i), Nat.mul_comm, Nat.mul_add_mod, Nat.mod_eq_of_lt hr]
      refine ⟨i.val * 16 ^ d + r, by rw [Nat.pow_succ]; omega, ?_, ?_⟩
      · rw [hg, hg, Nat.add_assoc]
      · rw [hg, hg]; exact hne
    · rintro ⟨r, hr, rfl, hne⟩
      have hlt : r / 16 ^ d < 16 := by
        rw [Nat.div_lt_iff_lt_mul hpos, Nat.mul_comm, ← Nat.pow_succ]; exact hr
      have hdF : dF r d = ⟨r / 16 ^ d, hlt⟩ := by
        apply Fin.ext
        show r / 16 ^ d % 16 = r / 16 ^ d
        exact Nat.mod_eq_of_lt hlt
      have hg : ∀ t : Tr (d + 1), (t.kid ⟨r / 16 ^ d, hlt⟩).get (r % 16 ^ d) = t.get r := by
        intro t
        rw [Tr.get_mod, get_kid, hdF]
      refine ⟨⟨r / 16 ^ d, hlt⟩, List.mem_finRange _, ?_⟩
      rw [mem_difs]
      refine ⟨r % 16 ^ d, Nat.mod_lt _ hpos, ?_, ?_⟩
      · rw [hg, hg]
        have := Nat.div_add_mod r (16 ^ d)
        rw [Nat.mul_comm] at this
        have h2 : h + r = h + r / 16 ^ d * 16 ^ d + r % 16 ^ d := by rw [Nat.add_assoc, this]
        rw [← h2]
      · rw [hg, hg]; exact hne
def SrtC (l : List Ch) : Prop := l.Pairwise fun x y => x.1 < y.1
theorem difs_range {d : Nat} {a b : Tr d} {h : Nat} {c : Ch} (hc : c ∈ difs a b h) : h ≤ c.1 ∧ c.1 < h + 16 ^ d := by
  obtain ⟨r, hr, rfl, _⟩ := (mem_difs a b h c).1 hc
  exact ⟨Nat.le_add_right _ _, Nat.add_lt_add_left hr _⟩
theorem difsK_srt {d : Nat} (a b : Tr (d + 1)) (h : Nat) (hf : ∀ i h, SrtC (difs (a.kid i) (b.kid i) h)) : ∀ k, k ≤ 16 → SrtC (difsK a b h k) ∧ ∀ e ∈ difsK a b h k, e.1 < h + k * 16 ^ d
  | 0, _ => ⟨List.Pairwise.nil, fun e he => by cases he⟩
  | k + 1, hk => by
    obtain ⟨h1, h2⟩ := difsK_srt a b h hf k (by omega)
    rw [difsK_succ a b h k (by omega)]
    refine ⟨List.pairwise_append.2 ⟨h1, hf _ _, fun x hx y hy => ?_⟩, fun e he => ?_⟩
    · have := h2 x hx
      have := (difs_range hy).1
      omega
    · rw [Nat.add_mul, Nat.one_mul]
      rcases List.mem_append.1 he with he | he
      · exact Nat.lt_of_lt_of_le (h2 e he) (Nat.add_le_add_left (Nat.le_add_right _ _) _)
      · have := (difs_range he).2
        omega
theorem difs_srt : ∀ {d : Nat} (a b : Tr d) (h : Nat), SrtC (difs a b h)
  | 0, a, b, h => by
    show SrtC (if val0 a = val0 b then [] else [(h, val0 a, val0 b)])
    split
    · exact List.Pairwise.nil
    · exact List.pairwise_singleton _ _
  | d + 1, a, b, h => by
    rw [← difsK_all]
    exact (difsK_srt a b h (fun i h => difs_srt _ _ h) 16 (by omega)).1
def swapC (c : Ch) : Ch := (c.1, c.2.2, c.2.1)
theorem difs_swap : ∀ {d : Nat} (a b : Tr d) (h : Nat), difs b a h = (difs a b h).map swapC
  | 0, a, b, h => by
    show (if val0 b = val0 a then [] else [(h, val0 b, val0 a)]) = List.map swapC (if val0 a = val0 b then [] else [(h, val0 a, val0 b)])
    by_cases he : val0 a = val0 b
    · rw [if_pos he, if_pos he.symm]; rfl
    · rw [if_neg he, if_neg (fun e => he e.symm)]; rfl
  | d + 1, a, b, h => by
    show (allF.flatMap fun i => difs (b.kid i) (a.kid i) (h + i.val * 16 ^ d)) = (allF.flatMap fun i => difs (a.kid i) (b.kid i) (h + i.val * 16 ^ d)).map swapC
    rw [List.map_flatMap]
    congr 1
    funext i
    exact difs_swap _ _ _
theorem flatMap_len {α β γ δ : Type} (F : α → List β) (G : α → List γ) (H : α → List δ) : ∀ l : List α, (∀ x ∈ l, (F x).length ≤ (G x).length + (H x).length) → (l.flatMap F).length ≤ (l.flatMap G).length + (l.flatMap H).length
  | [], _ => Nat.zero_le _
  | x :: l, h => by
    have h1 := h x (by simp)
    have h2 := flatMap_len F G H l (fun y hy => h y (List.mem_cons_of_mem _ hy))
    simp only [List.flatMap_cons, List.length_append]
    omega
theorem ents_kids {d : Nat} (t : Tr (d + 1)) (h : Nat) : t.ents h = allF.flatMap fun i => (t.kid i).ents (h + i.val * 16 ^ d) := by
  cases t with
  | none =>
    have hn : ∀ (d : Nat) (h : Nat), (Tr.nil : Tr d).ents h = [] := fun d h => by cases d <;> rfl
    show [] = _
    symm
    rw [List.flatMap_eq_nil_iff]
    exact fun i _ => hn _ _
  | some p => rfl
theorem difs_len : ∀ {d : Nat} (a b : Tr d) (h : Nat), (difs a b h).length ≤ (a.ents h).length + (b.ents h).length
  | 0, a, b, h => by
    show (if val0 a = val0 b then [] else [(h, val0 a, val0 b)]).length ≤ _
    split
    · exact Nat.zero_le _
    · rename_i he
      cases a with
      | none =>
        cases b with
        | none => exact absurd rfl he
        | some q => exact Nat.le_refl _
      | some p => exact Nat.le_add_right 1 _
  | d + 1, a, b, h => by
    rw [ents_kids, ents_kids]
    exact flatMap_len _ _ _ _ (fun i _ => difs_len _ _ _)
/-- At whole maps. -/
theorem mem_difs0 {a b : Tr 8} {c : Ch} : c ∈ difs a b 0 ↔ c.1 < 4294967296 ∧ c.2.1 = a.get c.1 ∧ c.2.2 = b.get c.1 ∧ c.2.1 ≠ c.2.2 := by
  rw [mem_difs]
  constructor
  · rintro ⟨r, hr, rfl, hne⟩
    rw [Nat.zero_add]
    exact ⟨hr, rfl, rfl, hne⟩
  · rintro ⟨h1, h2, h3, h4⟩
    refine ⟨c.1, h1, ?_, ?_⟩
    · rw [Nat.zero_add, ← h2, ← h3]
    · rw [← h2, ← h3]; exact h4
theorem difs_nil_iff {a b : Tr 8} : difs a b 0 = [] ↔ a.ents 0 = b.ents 0 := by
  constructor
  · intro h
    refine eq_of_look (Tr.srt a 0) (Tr.srt b 0) (fun q => ?_)
    by_cases hq : q < 4294967296
    · rw [look_ents a q hq, look_ents b q hq]
      apply Classical.byContradiction
      intro hne
      have : (q, a.get q, b.get q) ∈ difs a b 0 := mem_difs0.2 ⟨hq, rfl, rfl, hne⟩
      rw [h] at this
      cases this
    · rw [look_none (Tr.srt a 0) (fun e he => by have := (mem_ents0.1 he).1; omega), look_none (Tr.srt b 0) (fun e he => by have := (mem_ents0.1 he).1; omega)]
  · intro h
    refine difs_alike a b 0 ?_
    intro k
    rw [← Tr.get_mod a, ← Tr.get_mod b]
    have hk : k % 16 ^ 8 < 4294967296 := Nat.mod_lt _ (by decide)
    rw [← look_ents a _ hk, ← look_ents b _ hk, h]
/-- What is put or dropped for one told thing. -/
def putOf (c : Ch) : Nat × V × Bool := (c.1, vOf c.2.2, c.2.2.isNone)
def layC (l : List (Nat × V)) (c : Ch) : List (Nat × V) := laidL c.1 (vOf c.2.2) c.2.2.isNone l
theorem look_layC {l : List (Nat × V)} (hs : Srt l) (c : Ch) (q : Nat) : look (layC l c) q = if q = c.1 then c.2.2 else look l q := by
  unfold layC
  rw [look_laid hs]
  by_cases h : q = c.1
  · rw [if_pos h, if_pos h]
    cases h2 : c.2.2 with
    | none => rfl
    | some v => rfl
  · rw [if_neg h, if_neg h]
theorem srt_layC {l : List (Nat × V)} (hs : Srt l) (c : Ch) : Srt (layC l c) := srt_laid _ _ _ hs
theorem look_lays : ∀ (cs : List Ch) (l : List (Nat × V)), Srt l → SrtC cs → Srt (cs.foldl layC l) ∧ ∀ q, look (cs.foldl layC l) q = match cs.find? (fun c => c.1 == q) with | some c => c.2.2 | none => look l q
  | [], l, hs, _ => ⟨hs, fun q => rfl⟩
  | c :: cs, l, hs, hc => by
    obtain ⟨h1, h2⟩ := List.pairwise_cons.1 hc
    obtain ⟨h3, h4⟩ := look_lays cs (layC l c) (srt_layC hs c) h2
    refine ⟨h3, fun q => ?_⟩
    rw [List.foldl_cons, h4 q, List.find?_cons]
    by_cases hq : c.1 = q
    · rw [show (c.1 == q) = true by simpa using hq]
      have : cs.find? (fun c => c.1 == q) = none := by
        rw [List.find?_eq_none]
        intro x hx
        have := h1 x hx
        simp
        omega
      rw [this]
      dsimp only
      rw [look_layC hs, if_pos hq.symm]
    · rw [show (c.1 == q) = false by simpa using hq]
      dsimp only
      rw [look_layC hs, if_neg (fun e => hq e.symm)]
/-- Laid into the one, what Diff tells makes the other. -/
theorem lays_difs (a b : Tr 8) : (difs a b 0).foldl layC (a.ents 0) = b.ents 0 := by
  obtain ⟨h1, h2⟩ := look_lays (difs a b 0) (a.ents 0) (Tr.srt a 0) (difs_srt a b 0)
  refine eq_of_look h1 (Tr.srt b 0) (fun q => ?_)
  rw [h2 q]
  cases hf : (difs a b 0).find? (fun c => c.1 == q) with
  | some c =>
    have hc := List.mem_of_find?_eq_some hf
    have hq : c.1 = q := by simpa using List.find?_some hf
    obtain ⟨h3, _, h5, _⟩ := mem_difs0.1 hc
    dsimp only
    rw [h5, ← hq, look_ents b _ h3]
  | none =>
    dsimp only
    by_cases hq : q < 4294967296
    · rw [look_ents a q hq, look_ents b q hq]
      apply Classical.byContradiction
      intro hne
      have hm : (q, a.get q, b.get q) ∈ difs a b 0 := mem_difs0.2 ⟨hq, rfl, rfl, hne⟩
      have := List.find?_eq_none.1 hf _ hm
      simp at this
    · rw [look_none (Tr.srt a 0) (fun e he => by have := (mem_ents0.1 he).1; omega), look_none (Tr.srt b 0) (fun e he => by have := (mem_ents0.1 he).1; omega)]
end Go.Proofs.YtihmhledogppmaaDoor
