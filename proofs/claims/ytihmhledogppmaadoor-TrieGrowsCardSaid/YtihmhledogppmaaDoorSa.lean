/- How many nodes a tree has, and how many of them another tree has not at the same place: as data. -/
import Derived.Test.YtihmhledogppmaaDoorTrE
namespace Go.Proofs.YtihmhledogppmaaDoor
open Go Go.RowKit
set_option linter.unusedVariables false

def sumK (g : Nat → Nat) : Nat → Nat
  | 0 => 0
  | k + 1 => sumK g k + g k
theorem sumK_le {g h : Nat → Nat} : ∀ n : Nat, (∀ i, i < n → g i ≤ h i) → sumK g n ≤ sumK h n
  | 0, _ => Nat.le_refl _
  | n + 1, hh => Nat.add_le_add (sumK_le n fun i hi => hh i (by omega)) (hh n (by omega))
theorem sumK_mono (g : Nat → Nat) {k n : Nat} (h : k ≤ n) : sumK g k ≤ sumK g n := by
  induction n with
  | zero =>
    have : k = 0 := by omega
    subst this
    exact Nat.le_refl _
  | succ n ih =>
    by_cases hk : k = n + 1
    · subst hk; exact Nat.le_refl _
    · exact Nat.le_trans (ih (by omega)) (Nat.le_add_right _ _)
theorem sumK_const (c : Nat) : ∀ n : Nat, sumK (fun _ => c) n = n * c
  | 0 => by simp [sumK]
  | n + 1 => by simp [sumK, sumK_const c n, Nat.add_mul]
theorem sumK_congr {g h : Nat → Nat} (n : Nat) (hh : ∀ i, i < n → g i = h i) : sumK g n = sumK h n :=
  Nat.le_antisymm (sumK_le n fun i hi => Nat.le_of_eq (hh i hi)) (sumK_le n fun i hi => Nat.le_of_eq (hh i hi).symm)
/-- All but one of them are nothing. -/
theorem sumK_one {g : Nat → Nat} (k : Nat) : ∀ n : Nat, k < n → (∀ i, i < n → i ≠ k → g i = 0) → sumK g n = g k
  | n + 1, hk, hz => by
    by_cases h : k = n
    · subst h
      have : sumK g k = 0 := by
        rw [sumK_congr (h := fun _ => 0) k fun i hi => hz i (by omega) (by omega), sumK_const]; omega
      show sumK g k + g k = g k
      omega
    · show sumK g n + g n = g k
      rw [sumK_one k n (by omega) fun i hi => hz i (by omega), hz n (by omega) (by omega)]
      omega
def onF (g : Fin 16 → Nat) (i : Nat) : Nat := if h : i < 16 then g ⟨i, h⟩ else 0
theorem onF_fin (g : Fin 16 → Nat) (i : Fin 16) : onF g i.val = g i := by unfold onF; rw [dif_pos i.isLt]
def Tr.cnt : {d : Nat} → Tr d → Nat
  | 0, _ => 0
  | _ + 1, t => match t with
    | none => 0
    | some (_, f) => 1 + sumK (onF fun i => (f i).cnt) 16
def Tr.fr : {d : Nat} → Tr d → Tr d → Nat
  | 0, _, _ => 0
  | _ + 1, a, b => match b with
    | none => 0
    | some (bb, g) => if Tr.blk a = some bb then 0 else 1 + sumK (onF fun i => (a.kid i).fr (g i)) 16
theorem Tr.cnt_some {d : Nat} (b : Nat) (f : Fin 16 → Tr d) : Tr.cnt (d := d + 1) (some (b, f)) = 1 + sumK (onF fun i => (f i).cnt) 16 := rfl
theorem Tr.fr_none {d : Nat} (a : Tr (d + 1)) : Tr.fr a (none : Tr (d + 1)) = 0 := rfl
theorem Tr.fr_some {d : Nat} (a : Tr (d + 1)) (bb : Nat) (g : Fin 16 → Tr d) : Tr.fr (d := d + 1) a (some (bb, g)) = if Tr.blk a = some bb then 0 else 1 + sumK (onF fun i => (a.kid i).fr (g i)) 16 := rfl
theorem Tr.cnt_lt : ∀ {d : Nat} (t : Tr (d + 1)), t.cnt + 1 ≤ 2 * 16 ^ d
  | d, none => by
    have : 1 ≤ 16 ^ d := Nat.one_le_pow _ _ (by decide)
    show 0 + 1 ≤ _
    omega
  | 0, some (b, f) => by
    rw [Tr.cnt_some, sumK_congr (h := fun _ => 0) 16 (fun i hi => by unfold onF; rw [dif_pos hi]; rfl), sumK_const]
    decide
  | d + 1, some (b, f) => by
    have h1 : sumK (onF fun i => (f i).cnt) 16 ≤ sumK (fun _ => 2 * 16 ^ d - 1) 16 := sumK_le 16 fun i hi => by
      unfold onF; rw [dif_pos hi]
      have := cnt_lt (f ⟨i, hi⟩)
      show (f ⟨i, hi⟩).cnt ≤ _
      omega
    rw [sumK_const] at h1
    have h2 : 1 ≤ 16 ^ d := Nat.one_le_pow _ _ (by decide)
    rw [Tr.cnt_some, Nat.pow_succ]
    omega
theorem Tr.fr_le : ∀ {d : Nat} (a b : Tr d), a.fr b ≤ b.cnt
  | 0, _, _ => Nat.le_refl _
  | d + 1, a, none => Nat.le_refl _
  | d + 1, a, some (bb, g) => by
    rw [Tr.fr_some, Tr.cnt_some]
    split
    · omega
    · have := sumK_le (g := onF fun i => (a.kid i).fr (g i)) (h := onF fun i => (g i).cnt) 16 fun i hi => by
        unfold onF; rw [dif_pos hi, dif_pos hi]
        exact fr_le _ _
      omega
theorem Tr.fr_self : ∀ {d : Nat} (a : Tr d), a.fr a = 0
  | 0, _ => rfl
  | d + 1, none => rfl
  | d + 1, some (bb, g) => if_pos rfl
/-- A Put makes a node at each level. -/
theorem Tr.fr_put : ∀ {d : Nat} (t : Tr (d + 1)) (B key : Nat) (v : V), t.all (· < B) → t.fr (t.put B key v) = d + 1
  | 0, t, B, key, v, h => by
    have hb : ¬ t.blk = some (B + 1) := by
      cases t with
      | none => simp [Tr.blk]
      | some p => intro e; have := h.1; simp [Tr.blk] at e; omega
    show Tr.fr t (some (B + 1, _)) = 1
    rw [Tr.fr_some, if_neg hb, sumK_congr (h := fun _ => 0) 16 (fun i hi => by unfold onF; rw [dif_pos hi]; rfl), sumK_const]
  | d + 1, t, B, key, v, h => by
    have hb : ¬ t.blk = some (B + 1) := by
      cases t with
      | none => simp [Tr.blk]
      | some p => intro e; have := h.1; simp [Tr.blk] at e; omega
    have hkid := Tr.all_kid h (dF key (d + 1))
    have ih := fr_put (t.kid (dF key (d + 1))) (B + 2) key v (Tr.all_mono (fun b hb => by omega) hkid)
    show Tr.fr t (some (B + 1, _)) = d + 1 + 1
    rw [Tr.fr_some, if_neg hb, sumK_one (dF key (d + 1)).val 16 (dF key (d + 1)).isLt]
    · rw [onF_fin, if_pos rfl, ih]; omega
    · intro i hi hne
      unfold onF
      rw [dif_pos hi]
      show (t.kid ⟨i, hi⟩).fr (if (⟨i, hi⟩ : Fin 16) = dF key (d + 1) then _ else t.kid ⟨i, hi⟩) = 0
      rw [if_neg (fun e => hne (congrArg Fin.val e))]
      exact Tr.fr_self _
end Go.Proofs.YtihmhledogppmaaDoor
