/- Plain law of the trie: what is put and dropped, as lists in order. No program. -/
import Derived.Test.YtmhhejpokgdjoaaTrF
import Derived.Test.YtmhhejpokgdjoaaLd
namespace Go.Proofs.Ytmhhejpokgdjoaa
open Go Go.RowKit
set_option linter.unusedVariables false

/-- The keys rise. -/
def Srt (l : List (Nat × V)) : Prop := l.Pairwise fun a b => a.1 < b.1
theorem srt_ext : ∀ {l1 l2 : List (Nat × V)}, Srt l1 → Srt l2 → (∀ e, e ∈ l1 ↔ e ∈ l2) → l1 = l2
  | [], [], _, _, _ => rfl
  | [], b :: l2, _, _, h => by have := (h b).2 List.mem_cons_self; cases this
  | a :: l1, [], _, _, h => by have := (h a).1 List.mem_cons_self; cases this
  | a :: l1, b :: l2, h1, h2, h => by
    obtain ⟨ha, h1⟩ := List.pairwise_cons.1 h1
    obtain ⟨hb, h2'⟩ := List.pairwise_cons.1 h2
    have hab : a = b := by
      rcases List.mem_cons.1 ((h a).1 List.mem_cons_self) with e | e
      · exact e
      · rcases List.mem_cons.1 ((h b).2 List.mem_cons_self) with e2 | e2
        · exact e2.symm
        · have := hb a e; have := ha b e2; omega
    subst hab
    refine congrArg (a :: ·) (srt_ext h1 h2' fun e => ?_)
    constructor
    · intro he
      rcases List.mem_cons.1 ((h e).1 (List.mem_cons_of_mem _ he)) with e2 | e2
      · subst e2; have := ha _ he; omega
      · exact e2
    · intro he
      rcases List.mem_cons.1 ((h e).2 (List.mem_cons_of_mem _ he)) with e2 | e2
      · subst e2; have := hb _ he; omega
      · exact e2
theorem mem_laid (k : Nat) (v : V) (e : Nat × V) : ∀ (done : Bool) (l : List (Nat × V)), e ∈ laidL k v done l ↔ (done = false ∧ e = (k, v)) ∨ (e ∈ l ∧ e.1 ≠ k)
  | true, [] => by simp [laidL]
  | false, [] => by simp [laidL]
  | done, x :: l => by
    rw [laidL_cons]
    by_cases h : x.1 = k
    · rw [if_pos h, mem_laid k v e done l]
      constructor
      · rintro (h1 | h1)
        · exact .inl h1
        · exact .inr ⟨List.mem_cons_of_mem _ h1.1, h1.2⟩
      · rintro (h1 | ⟨h1, h2⟩)
        · exact .inl h1
        · rcases List.mem_cons.1 h1 with rfl | h3
          · exact absurd h h2
          · exact .inr ⟨h3, h2⟩
    · rw [if_neg h]
      split
      · rename_i h2
        simp only [List.mem_cons, mem_laid k v e true l]
        constructor
        · rintro (h1 | rfl | h1)
          · exact .inl ⟨h2.1, h1⟩
          · exact .inr ⟨.inl rfl, h⟩
          · rcases h1 with h1 | h1
            · exact absurd h1.1 (by simp)
            · exact .inr ⟨.inr h1.1, h1.2⟩
        · rintro (h1 | ⟨h1 | h1, h3⟩)
          · exact .inl h1.2
          · exact .inr (.inl h1)
          · exact .inr (.inr (.inr ⟨h1, h3⟩))
      · simp only [List.mem_cons, mem_laid k v e done l]
        constructor
        · rintro (rfl | h1 | h1)
          · exact .inr ⟨.inl rfl, h⟩
          · exact .inl h1
          · exact .inr ⟨.inr h1.1, h1.2⟩
        · rintro (h1 | ⟨h1 | h1, h3⟩)
          · exact .inr (.inl h1)
          · exact .inl h1
          · exact .inr (.inr ⟨h1, h3⟩)
theorem srt_laid (k : Nat) (v : V) : ∀ (done : Bool) {l : List (Nat × V)}, Srt l → Srt (laidL k v done l)
  | true, [], _ => List.Pairwise.nil
  | false, [], _ => List.pairwise_singleton _ _
  | done, x :: l, h => by
    obtain ⟨hx, h⟩ := List.pairwise_cons.1 h
    rw [laidL_cons]
    split
    · exact srt_laid k v done h
    · rename_i hne
      split
      · rename_i h2
        refine List.pairwise_cons.2 ⟨?_, List.pairwise_cons.2 ⟨?_, srt_laid k v true h⟩⟩
        · intro e he
          rcases List.mem_cons.1 he with rfl | he
          · exact h2.2
          · rcases (mem_laid k v e true l).1 he with h3 | h3
            · exact absurd h3.1 (by simp)
            · have := hx e h3.1; exact Nat.lt_trans h2.2 this
        · intro e he
          rcases (mem_laid k v e true l).1 he with h3 | h3
          · exact absurd h3.1 (by simp)
          · exact hx e h3.1
      · rename_i h2
        refine List.pairwise_cons.2 ⟨?_, srt_laid k v done h⟩
        intro e he
        rcases (mem_laid k v e done l).1 he with h3 | h3
        · obtain ⟨hd, rfl⟩ := h3
          have : ¬ k < x.1 := fun h4 => h2 ⟨hd, h4⟩
          show x.1 < k
          omega
        · exact hx e h3.1
theorem entsK_srt {d : Nat} (f : Fin 16 → Tr d) (h : Nat) (hf : ∀ i h, Srt ((f i).ents h)) : ∀ k, k ≤ 16 → Srt (entsK f h k) ∧ ∀ e ∈ entsK f h k, e.1 < h + k * 16 ^ d
  | 0, _ => ⟨List.Pairwise.nil, fun e he => by cases he⟩
  | k + 1, hk => by
    obtain ⟨h1, h2⟩ := entsK_srt f h hf k (by omega)
    rw [entsK_succ f h k (by omega)]
    refine ⟨List.pairwise_append.2 ⟨h1, hf _ _, fun a ha b hb => ?_⟩, fun e he => ?_⟩
    · have := h2 a ha
      have := (Tr.ents_range (k := b.1) (v := b.2) hb).1
      omega
    · rw [Nat.add_mul, Nat.one_mul]
      rcases List.mem_append.1 he with he | he
      · exact Nat.lt_of_lt_of_le (h2 e he) (Nat.add_le_add_left (Nat.le_add_right _ _) _)
      · have := (Tr.ents_range (k := e.1) (v := e.2) he).2
        omega
theorem Tr.srt : ∀ {d : Nat} (t : Tr d) (h : Nat), Srt (t.ents h)
  | 0, none, _ => List.Pairwise.nil
  | 0, some _, _ => List.pairwise_singleton _ _
  | d + 1, none, _ => List.Pairwise.nil
  | d + 1, some (b, f), h => by
    rw [← entsK_all]
    exact (entsK_srt f h (fun i h => Tr.srt (f i) h) 16 (by omega)).1
theorem dg_mod (r d : Nat) : dg (r % 16 ^ (d + 1)) d = dg r d := by
  unfold dg
  rw [Nat.pow_succ, Nat.mod_mul_right_div_self, Nat.mod_mod]
theorem Tr.get_mod : ∀ {d : Nat} (t : Tr d) (r : Nat), t.get (r % 16 ^ d) = t.get r
  | 0, t, r => rfl
  | d + 1, t, r => by
    show (t.kid (dF _ d)).get _ = (t.kid (dF r d)).get r
    have h1 : dF (r % 16 ^ (d + 1)) d = dF r d := by unfold dF; simp only [dg_mod]
    rw [h1, ← Tr.get_mod (t.kid (dF r d)) (r % 16 ^ (d + 1)), ← Tr.get_mod (t.kid (dF r d)) r]
    congr 1
    rw [Nat.pow_succ]
    exact Nat.mod_mul_right_mod _ _ _
theorem Tr.mem_ents : ∀ {d : Nat} (t : Tr d) (h k : Nat) (v : V), (k, v) ∈ t.ents h ↔ ∃ r, r < 16 ^ d ∧ k = h + r ∧ t.get r = some v
  | 0, none, h, k, v => by
    constructor
    · intro hm; cases hm
    · rintro ⟨r, _, _, hg⟩; cases hg
  | 0, some (b, u), h, k, v => by
    simp only [Tr.ents, List.mem_singleton, Prod.mk.injEq]
    constructor
    · rintro ⟨rfl, rfl⟩; exact ⟨0, by simp, rfl, rfl⟩
    · rintro ⟨r, hr, rfl, hg⟩
      have : r = 0 := by simpa using hr
      subst this
      exact ⟨rfl, (Option.some.inj hg).symm⟩
  | d + 1, none, h, k, v => by
    constructor
    · intro hm; cases hm
    · rintro ⟨r, _, _, hg⟩; rw [Tr.get_none] at hg; cases hg
  | d + 1, some (b, f), h, k, v => by
    have hpos : 0 < 16 ^ d := Nat.pow_pos (by decide)
    simp only [Tr.ents, List.mem_flatMap]
    constructor
    · rintro ⟨i, _, hi⟩
      obtain ⟨r, hr, rfl, hg⟩ := (Tr.mem_ents (f i) _ k v).1 hi
      have h1 : (i.val + 1) * 16 ^ d ≤ 16 * 16 ^ d := Nat.mul_le_mul_right _ i.isLt
      rw [Nat.add_mul, Nat.one_mul] at h1
      refine ⟨i.val * 16 ^ d + r, by rw [Nat.pow_succ]; omega, by omega, ?_⟩
      have hdiv : (i.val * 16 ^ d + r) / 16 ^ d = i.val := by
        rw [Nat.mul_comm, Nat.mul_add_div hpos, Nat.div_eq_of_lt hr]; rfl
      have hdF : dF (i.val * 16 ^ d + r) d = i := by
        apply Fin.ext
        show (i.val * 16 ^ d + r) / 16 ^ d % 16 = i.val
        rw [hdiv, Nat.mod_eq_of_lt i.isLt]
      show (f (dF _ d)).get _ = some v
      rw [hdF, ← Tr.get_mod (f i), Nat.mul_comm, Nat.mul_add_mod, Nat.mod_eq_of_lt hr]
      exact hg
    · rintro ⟨r, hr, rfl, hg⟩
      have hlt : r / 16 ^ d < 16 := by
        rw [Nat.div_lt_iff_lt_mul hpos, Nat.mul_comm, ← Nat.pow_succ]; exact hr
      refine ⟨⟨r / 16 ^ d, hlt⟩, List.mem_finRange _, ?_⟩
      rw [Tr.mem_ents]
      refine ⟨r % 16 ^ d, Nat.mod_lt _ hpos, ?_, ?_⟩
      · have := Nat.div_add_mod r (16 ^ d)
        rw [Nat.mul_comm] at this
        show h + r = h + r / 16 ^ d * 16 ^ d + r % 16 ^ d
        rw [Nat.add_assoc, this]
      · rw [Tr.get_mod]
        have hdF : dF r d = ⟨r / 16 ^ d, hlt⟩ := by
          apply Fin.ext
          show r / 16 ^ d % 16 = r / 16 ^ d
          exact Nat.mod_eq_of_lt hlt
        rw [← hdF]
        exact hg
theorem mod_succ_iff (q k d : Nat) : q % 16 ^ (d + 1) = k % 16 ^ (d + 1) ↔ dg q d = dg k d ∧ q % 16 ^ d = k % 16 ^ d := by
  unfold dg
  have hpos : 0 < 16 ^ d := Nat.pow_pos (by decide)
  rw [Nat.pow_succ, Nat.mod_mul, Nat.mod_mul]
  constructor
  · intro h
    have h1 : (q % 16 ^ d + 16 ^ d * (q / 16 ^ d % 16)) % 16 ^ d = (k % 16 ^ d + 16 ^ d * (k / 16 ^ d % 16)) % 16 ^ d := by rw [h]
    simp only [Nat.add_mul_mod_self_left, Nat.mod_mod] at h1
    rw [h1] at h
    exact ⟨Nat.eq_of_mul_eq_mul_left hpos (Nat.add_left_cancel h), h1⟩
  · rintro ⟨h1, h2⟩; rw [h1, h2]
theorem dF_eq (q k d : Nat) : dF q d = dF k d ↔ dg q d = dg k d := by
  unfold dF; simp
theorem Tr.get_put : ∀ {d : Nat} (t : Tr (d + 1)) (B key : Nat) (v : V) (q : Nat), (t.put B key v).get q = if q % 16 ^ (d + 1) = key % 16 ^ (d + 1) then some v else t.get q
  | 0, t, B, key, v, q => by
    show (if dF q 0 = dF key 0 then Tr.leaf B v else t.kid (dF q 0)).get q = _
    by_cases h : dF q 0 = dF key 0
    · rw [if_pos h, if_pos ((mod_succ_iff q key 0).2 ⟨(dF_eq _ _ _).1 h, by simp [Nat.mod_one]⟩)]
      rfl
    · rw [if_neg h, if_neg fun h2 => h ((dF_eq _ _ _).2 ((mod_succ_iff q key 0).1 h2).1)]
      rfl
  | d + 1, t, B, key, v, q => by
    show (if dF q (d + 1) = dF key (d + 1) then (t.kid (dF key (d + 1))).put (B + 2) key v else t.kid (dF q (d + 1))).get q = _
    by_cases h : dF q (d + 1) = dF key (d + 1)
    · rw [if_pos h, Tr.get_put]
      by_cases h2 : q % 16 ^ (d + 1) = key % 16 ^ (d + 1)
      · rw [if_pos h2, if_pos ((mod_succ_iff q key (d + 1)).2 ⟨(dF_eq _ _ _).1 h, h2⟩)]
      · rw [if_neg h2, if_neg fun h3 => h2 ((mod_succ_iff q key (d + 1)).1 h3).2, ← h]
        rfl
    · rw [if_neg h, if_neg fun h2 => h ((dF_eq _ _ _).2 ((mod_succ_iff q key (d + 1)).1 h2).1)]
      rfl
theorem Tr.blk_none : ∀ {d : Nat} {t : Tr d}, t.blk = none → t = Tr.nil
  | 0, none, _ => rfl
  | 0, some _, h => by cases h
  | d + 1, none, _ => rfl
  | d + 1, some _, h => by cases h
theorem mkNode_get {d : Nat} (B : Nat) (f : Fin 16 → Tr d) (q : Nat) : (mkNode B f).get q = (f (dF q d)).get q := by
  unfold mkNode
  split
  · rename_i h
    rw [Tr.blk_none (h (dF q d)), Tr.nil_get, Tr.nil_get]
  · rfl
theorem Tr.get_drop : ∀ {d : Nat} (t : Tr (d + 1)) (B key q : Nat), (t.drop B key).get q = if q % 16 ^ (d + 1) = key % 16 ^ (d + 1) then none else t.get q
  | 0, t, B, key, q => by
    show (mkNode B _).get q = _
    rw [mkNode_get]
    by_cases h : dF q 0 = dF key 0
    · rw [if_pos h, if_pos ((mod_succ_iff q key 0).2 ⟨(dF_eq _ _ _).1 h, by simp [Nat.mod_one]⟩)]
      rfl
    · rw [if_neg h, if_neg fun h2 => h ((dF_eq _ _ _).2 ((mod_succ_iff q key 0).1 h2).1)]
      rfl
  | d + 1, t, B, key, q => by
    show (mkNode B _).get q = _
    rw [mkNode_get]
    by_cases h : dF q (d + 1) = dF key (d + 1)
    · rw [if_pos h, Tr.get_drop]
      by_cases h2 : q % 16 ^ (d + 1) = key % 16 ^ (d + 1)
      · rw [if_pos h2, if_pos ((mod_succ_iff q key (d + 1)).2 ⟨(dF_eq _ _ _).1 h, h2⟩)]
      · rw [if_neg h2, if_neg fun h3 => h2 ((mod_succ_iff q key (d + 1)).1 h3).2, ← h]
        rfl
    · rw [if_neg h, if_neg fun h2 => h ((dF_eq _ _ _).2 ((mod_succ_iff q key (d + 1)).1 h2).1)]
      rfl
theorem mem_ents0 {t : Tr 8} {e : Nat × V} : e ∈ t.ents 0 ↔ e.1 < 4294967296 ∧ t.get e.1 = some e.2 := by
  rw [show e = (e.1, e.2) from rfl, Tr.mem_ents]
  constructor
  · rintro ⟨r, hr, h1, hg⟩
    have : e.1 = r := by simpa using h1
    rw [this]
    exact ⟨hr, hg⟩
  · rintro ⟨h1, h2⟩
    exact ⟨e.1, h1, by simp, h2⟩
theorem ents_put (t : Tr 8) (B key : Nat) (v : V) (hk : key < 4294967296) : (Tr.put (d := 7) t B key v).ents 0 = laidL key v false (t.ents 0) := by
  refine srt_ext (Tr.srt (d := 8) _ 0) (srt_laid key v false (Tr.srt t 0)) fun e => ?_
  rw [mem_laid, mem_ents0, mem_ents0, Tr.get_put (d := 7)]
  obtain ⟨q, u⟩ := e
  simp only [Prod.mk.injEq, true_and]
  by_cases hq : q < 4294967296
  · have h1 : q % 16 ^ (7 + 1) = key % 16 ^ (7 + 1) ↔ q = key := by rw [Nat.mod_eq_of_lt (by simpa using hq), Nat.mod_eq_of_lt (by simpa using hk)]
    by_cases h2 : q = key
    · rw [if_pos (h1.2 h2)]
      subst h2
      simp [hq, eq_comm]
    · rw [if_neg fun h => h2 (h1.1 h)]
      simp [hq, h2]
  · constructor
    · rintro ⟨h, _⟩; exact absurd h hq
    · rintro (⟨rfl, _⟩ | ⟨⟨h, _⟩, _⟩)
      · exact absurd hk hq
      · exact absurd h hq
theorem ents_drop (t : Tr 8) (B key : Nat) (v : V) (hk : key < 4294967296) : (Tr.drop (d := 7) t B key).ents 0 = laidL key v true (t.ents 0) := by
  refine srt_ext (Tr.srt (d := 8) _ 0) (srt_laid key v true (Tr.srt t 0)) fun e => ?_
  rw [mem_laid, mem_ents0, mem_ents0, Tr.get_drop (d := 7)]
  obtain ⟨q, u⟩ := e
  simp only [Bool.true_eq_false, false_and, false_or]
  by_cases hq : q < 4294967296
  · have h1 : q % 16 ^ (7 + 1) = key % 16 ^ (7 + 1) ↔ q = key := by rw [Nat.mod_eq_of_lt (by simpa using hq), Nat.mod_eq_of_lt (by simpa using hk)]
    by_cases h2 : q = key
    · rw [if_pos (h1.2 h2)]
      simp [h2]
    · rw [if_neg fun h => h2 (h1.1 h)]
      simp [hq, h2]
  · constructor
    · rintro ⟨h, _⟩; exact absurd h hq
    · rintro ⟨⟨h, _⟩, _⟩; exact absurd h hq
end Go.Proofs.Ytmhhejpokgdjoaa
