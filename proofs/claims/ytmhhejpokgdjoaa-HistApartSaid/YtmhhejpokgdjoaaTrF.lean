/- The entries of a trie: their range, their order, and how they come, kid by kid. No program. -/
import Derived.Test.YtmhhejpokgdjoaaTrA
namespace Go.Proofs.Ytmhhejpokgdjoaa
open Go Go.RowKit
set_option linter.unusedVariables false

def entsK {d : Nat} (f : Fin 16 → Tr d) (h k : Nat) : List (Nat × V) := (allF.take k).flatMap fun i => (f i).ents (h + i.val * 16 ^ d)
theorem entsK_zero {d : Nat} (f : Fin 16 → Tr d) (h : Nat) : entsK f h 0 = [] := rfl
theorem allF_get (k : Nat) (h : k < 16) : allF[k]? = some ⟨k, h⟩ := finRange16 k h
theorem entsK_succ {d : Nat} (f : Fin 16 → Tr d) (h k : Nat) (hk : k < 16) : entsK f h (k + 1) = entsK f h k ++ (f ⟨k, hk⟩).ents (h + k * 16 ^ d) := by
  unfold entsK
  have hl : k < allF.length := by simpa [allF] using hk
  have hg : allF[k] = ⟨k, hk⟩ := by
    have := allF_get k hk
    rw [List.getElem?_eq_getElem hl] at this
    exact Option.some.inj this
  rw [List.take_succ_eq_append_getElem hl, List.flatMap_append, hg]
  simp
theorem entsK_all {d : Nat} (b : Nat) (f : Fin 16 → Tr d) (h : Nat) : entsK f h 16 = Tr.ents (d := d + 1) (some (b, f)) h := by
  show (allF.take 16).flatMap _ = allF.flatMap _
  rw [List.take_of_length_le (by simp [allF])]
theorem Tr.ents_nil : ∀ {d : Nat} (h : Nat), (Tr.nil : Tr d).ents h = []
  | 0, _ => rfl
  | _ + 1, _ => rfl
theorem Tr.ents_none {d : Nat} (h : Nat) : Tr.ents (d := d + 1) none h = [] := rfl
theorem pow_le (d : Nat) (hd : d ≤ 8) : 16 ^ d ≤ 4294967296 := by
  have := Nat.pow_le_pow_right (n := 16) (by decide) hd
  simpa using this
theorem Tr.ents_range : ∀ {d : Nat} {t : Tr d} {h k : Nat} {v : V}, (k, v) ∈ t.ents h → h ≤ k ∧ k < h + 16 ^ d
  | 0, none, h, k, v, hm => by simp [Tr.ents] at hm
  | 0, some (b, u), h, k, v, hm => by
    simp only [Tr.ents, List.mem_singleton, Prod.mk.injEq] at hm
    obtain ⟨rfl, _⟩ := hm
    simp
  | d + 1, none, h, k, v, hm => by simp [Tr.ents] at hm
  | d + 1, some (b, f), h, k, v, hm => by
    simp only [Tr.ents, List.mem_flatMap] at hm
    obtain ⟨i, _, hi⟩ := hm
    have := ents_range hi
    have h1 : (i.val + 1) * 16 ^ d ≤ 16 * 16 ^ d := Nat.mul_le_mul_right _ i.isLt
    rw [Nat.add_mul, Nat.one_mul] at h1
    rw [Nat.pow_succ, Nat.mul_comm]
    omega
/-- The entries from low on. -/
def fromL (low : Nat) (l : List (Nat × V)) : List (Nat × V) := l.filter fun e => decide (low ≤ e.1)
theorem fromL_append (low : Nat) (a b : List (Nat × V)) : fromL low (a ++ b) = fromL low a ++ fromL low b := List.filter_append ..
theorem fromL_zero (l : List (Nat × V)) : fromL 0 l = l := by unfold fromL; simp
theorem fromL_none {d low h : Nat} {t : Tr d} (hl : h + 16 ^ d ≤ low) : fromL low (t.ents h) = [] := by
  unfold fromL
  rw [List.filter_eq_nil_iff]
  rintro ⟨k, v⟩ hm
  have := Tr.ents_range hm
  simp; omega
theorem ents_split {d : Nat} (b : Nat) (f : Fin 16 → Tr d) (head low k : Nat) (hk : k < 16) : ∃ q, fromL low (Tr.ents (d := d + 1) (some (b, f)) head) = fromL low (entsK f head k) ++ fromL low ((f ⟨k, hk⟩).ents (head + k * 16 ^ d)) ++ q := by
  refine ⟨fromL low ((allF.drop (k + 1)).flatMap fun i => (f i).ents (head + i.val * 16 ^ d)), ?_⟩
  have h : entsK f head 16 = entsK f head (k + 1) ++ (allF.drop (k + 1)).flatMap fun i => (f i).ents (head + i.val * 16 ^ d) := by
    unfold entsK
    rw [← List.flatMap_append, List.take_append_drop, List.take_of_length_le (by simp [allF])]
  rw [← entsK_all, h, entsK_succ f head k hk, fromL_append, fromL_append]
end Go.Proofs.Ytmhhejpokgdjoaa
