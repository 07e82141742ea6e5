/- A map of the program as the list of its entries: what its calls do to the list. -/
import Derived.Test.YtmhhejpokgdjoaaPu
import Derived.Test.YtmhhejpokgdjoaaTrE
namespace Go.Proofs.Ytmhhejpokgdjoaa
open Go Go.RowKit
set_option linter.unusedVariables false
set_option linter.unusedSimpArgs false

def look (l : List (Nat × V)) (k : Nat) : Option V := (l.find? fun e => e.1 == k).map (·.2)
theorem look_mem : ∀ {l : List (Nat × V)} {k : Nat} {v : V}, Srt l → (look l k = some v ↔ (k, v) ∈ l)
  | [], k, v, _ => by simp [look]
  | x :: l, k, v, h => by
    obtain ⟨hx, h'⟩ := List.pairwise_cons.1 h
    obtain ⟨a, u⟩ := x
    by_cases hk : a = k
    · subst hk
      simp only [look, List.find?_cons, beq_self_eq_true, Option.map_some, List.mem_cons, Prod.mk.injEq, true_and]
      constructor
      · intro e; exact .inl (Option.some.inj e).symm
      · rintro (rfl | hm)
        · rfl
        · have := hx _ hm; simp at this
    · have hq : ((a == k) : Bool) = false := by simpa using hk
      have : look ((a, u) :: l) k = look l k := by simp only [look, List.find?_cons, hq]
      rw [this, look_mem h']
      simp only [List.mem_cons, Prod.mk.injEq]
      constructor
      · exact .inr
      · rintro (⟨h1, _⟩ | h1)
        · exact absurd h1.symm hk
        · exact h1
theorem look_ents (t : Tr 8) (k : Nat) (hk : k < 4294967296) : look (t.ents 0) k = t.get k := by
  apply Option.ext
  intro v
  rw [look_mem (Tr.srt t 0), mem_ents0]
  exact ⟨fun h => h.2, fun h => ⟨hk, h⟩⟩
theorem laid_same {l : List (Nat × V)} {k : Nat} {v : V} (hs : Srt l) (h : look l k = some v) : laidL k v false l = l := by
  refine srt_ext (srt_laid k v false hs) hs fun e => ?_
  rw [mem_laid]
  have hm := (look_mem hs).1 h
  constructor
  · rintro (⟨_, rfl⟩ | h)
    · exact hm
    · exact h.1
  · intro he
    by_cases hk : e.1 = k
    · left
      refine ⟨rfl, ?_⟩
      have h2 := (look_mem (k := e.1) (v := e.2) hs).2 he
      rw [hk, h] at h2
      exact Prod.ext hk (Option.some.inj h2).symm
    · exact .inr ⟨he, hk⟩
theorem laid_gone {l : List (Nat × V)} {k : Nat} (v : V) (hs : Srt l) (h : look l k = none) : laidL k v true l = l := by
  refine srt_ext (srt_laid k v true hs) hs fun e => ?_
  rw [mem_laid]
  constructor
  · rintro (⟨h, _⟩ | h)
    · cases h
    · exact h.1
  · intro he
    refine .inr ⟨he, fun hk => ?_⟩
    have h2 := (look_mem (k := e.1) (v := e.2) hs).2 he
    rw [hk, h] at h2; cases h2
theorem laid_len (k : Nat) (v : V) : ∀ (done : Bool) {l : List (Nat × V)}, Srt l → (laidL k v done l).length + (if (look l k).isSome then 1 else 0) = l.length + (if done then 0 else 1)
  | true, [], _ => by simp [laidL, look]
  | false, [], _ => by simp [laidL, look]
  | done, (a, u) :: l, h => by
    obtain ⟨hx, h⟩ := List.pairwise_cons.1 h
    rw [laidL_cons]
    by_cases hk : a = k
    · subst hk
      rw [if_pos rfl]
      have h1 : look ((a, u) :: l) a = some u := by simp [look]
      have h2 : look l a = none := by
        cases hq : look l a with
        | none => rfl
        | some v' => have := hx _ ((look_mem h).1 hq); simp at this
      have ih := laid_len a v done h
      rw [h2] at ih
      rw [h1]
      simp at ih ⊢
      omega
    · have hq : ((a == k) : Bool) = false := by simpa using hk
      have h1 : look ((a, u) :: l) k = look l k := by simp only [look, List.find?_cons, hq]
      rw [if_neg hk, h1]
      split
      · rename_i h2
        have ih := laid_len k v true h
        rw [h2.1]
        simp at ih ⊢
        omega
      · have ih := laid_len k v done h
        simp only [List.length_cons]
        omega

/-- Block b is a map with the entries l. -/
def MapL (w : World) (b : Nat) (l : List (Nat × V)) : Prop := ∃ t : Tr 8, MapAt w b t l.length ∧ t.ents 0 = l
theorem MapL.ext {w w' : World} {b : Nat} {l : List (Nat × V)} (h : MapL w b l) (hb : Below w.heap.size w w') : MapL w' b l := by
  obtain ⟨t, h1, h2⟩ := h
  exact ⟨t, h1.ext hb, h2⟩
theorem MapL.srt {w : World} {b : Nat} {l : List (Nat × V)} (h : MapL w b l) : Srt l := by
  obtain ⟨t, h1, h2⟩ := h
  rw [← h2]; exact Tr.srt t 0
theorem MapL.keys {w : World} {b : Nat} {l : List (Nat × V)} (h : MapL w b l) : ∀ y ∈ l, y.1 < 4294967296 := by
  obtain ⟨t, h1, rfl⟩ := h
  exact fun y hy => (mem_ents0.1 hy).1
theorem MapL.lt {w : World} {b : Nat} {l : List (Nat × V)} (h : MapL w b l) : b < w.heap.size := h.choose_spec.1.map.lt
def ptrV (b : Nat) : Value := .pointer (some ⟨b, 0, none⟩)
theorem empty_l (w : World) : Calls Try.prog 41 #[] w fun e w' => ∃ b, e = .returned (.pointer (some ⟨b, 0, none⟩)) ∧ MapL w' b [] ∧ Below w.heap.size w w' := by
  refine (empty_any w).mono ?_
  rintro e w' ⟨he, h1, h2, _⟩
  exact ⟨_, he, ⟨Tr.nil, ⟨h1, trivial⟩, rfl⟩, h2⟩
theorem put_l (b key : Nat) (l : List (Nat × V)) (v : V) (w : World) (h : MapL w b l) (hn : l.length ≤ 1000000) (hk : key < 4294967296) :
    Calls Try.prog 23 #[.pointer (some ⟨b, 0, none⟩), .int .u32 key, .agg #[.int .i64 v.k, .int .i64 v.n]] w fun e w' =>
      ∃ b', e = .returned (.pointer (some ⟨b', 0, none⟩)) ∧ MapL w' b' (laidL key v false l) ∧ Below w.heap.size w w' := by
  have hs := h.srt
  obtain ⟨t, h1, rfl⟩ := h
  refine (put_any b _ key t v w h1 (by omega) hk).mono ?_
  rintro e w' ⟨hb, h⟩
  split at h
  · rename_i hg
    rw [← look_ents t key hk] at hg
    exact ⟨b, h, ⟨t, by rw [laid_same hs hg]; exact h1.ext hb, (laid_same hs hg).symm⟩, hb⟩
  · obtain ⟨b', B, _, _, he, hm⟩ := h
    refine ⟨b', he, ⟨_, ?_, ents_put t B key v hk⟩, hb⟩
    have hl := laid_len key v false hs
    rw [look_ents t key hk] at hl
    rw [show (laidL key v false (t.ents 0)).length = if (t.get key).isSome then (t.ents 0).length else (t.ents 0).length + 1 by split <;> simp_all <;> omega]
    exact hm
theorem get_l (b key : Nat) (l : List (Nat × V)) (w : World) (h : MapL w b l) (hk : key < 4294967296) :
    Calls Try.prog 45 #[.pointer (some ⟨b, 0, none⟩), .int .u32 key] w fun e w' =>
      e = .returned (.tuple #[.agg #[.int .i64 (gv (look l key)).k, .int .i64 (gv (look l key)).n], .bool (look l key).isSome]) ∧ Below w.heap.size w w' := by
  obtain ⟨t, h1, rfl⟩ := h
  rw [look_ents t key hk]
  exact get_any b _ key t w h1.map h1.tree hk
end Go.Proofs.Ytmhhejpokgdjoaa
