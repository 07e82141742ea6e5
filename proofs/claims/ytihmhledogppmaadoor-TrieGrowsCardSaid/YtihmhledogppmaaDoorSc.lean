/- Trees that stand in one memory at one block are the same; how much is anew, from one to the next and on. -/
import Derived.Test.YtihmhledogppmaaDoorSa
namespace Go.Proofs.YtihmhledogppmaaDoor
open Go Go.RowKit
set_option linter.unusedVariables false

theorem holds_inj {w : World} {b : Nat} {cs ds : List Value} (h : Holds w b cs) (k : Holds w b ds) : cs = ds := by
  obtain ⟨t, h⟩ := h
  obtain ⟨u, k⟩ := k
  rw [h] at k
  simp only [Option.some.injEq, Obj.cells.injEq] at k
  have := congrArg Array.toList k.1
  simpa using this
theorem ptr_inj {d : Nat} {a b : Tr d} (h : a.ptr = b.ptr) : a.blk = b.blk := by
  unfold Tr.ptr ptrOf at h
  cases ha : a.blk <;> cases hb : b.blk <;> rw [ha, hb] at h <;> simp at h ⊢
  exact h
theorem Tr.at_inj : ∀ {d : Nat} {a b : Tr d} {w : World}, a.at w → b.at w → a.blk = b.blk → a = b
  | 0, none, none, w, _, _, _ => rfl
  | 0, none, some (x, v), w, _, _, h => by cases h
  | 0, some (x, v), none, w, _, _, h => by cases h
  | 0, some (x, v), some (y, u), w, ha, hb, h => by
    have hxy : x = y := by simpa [Tr.blk] using h
    subst hxy
    have hc : vCells v = vCells u := holds_inj ha hb
    simp only [vCells, List.cons.injEq, Value.int.injEq, true_and, and_true] at hc
    obtain ⟨h1, h2⟩ := hc
    have : v = u := by cases v; cases u; simp_all
    rw [this]
  | d + 1, none, none, w, _, _, _ => rfl
  | d + 1, none, some (x, f), w, _, _, h => by cases h
  | d + 1, some (x, f), none, w, _, _, h => by cases h
  | d + 1, some (x, f), some (y, g), w, ha, hb, h => by
    have hxy : x = y := by simpa [Tr.blk] using h
    subst hxy
    have hc : nodeCells f = nodeCells g := holds_inj ha.1 hb.1
    have hfg : f = g := by
      funext i
      refine at_inj (ha.2 i) (hb.2 i) (ptr_inj ?_)
      cases d with
      | zero =>
        have h1 := leaf_cell f i
        rw [hc, leaf_cell g i] at h1
        exact (Option.some.inj h1).symm
      | succ d =>
        have h1 := kids_cell f i
        rw [hc, kids_cell g i] at h1
        exact (Option.some.inj h1).symm
    rw [hfg]
theorem sumK_add (g h : Nat → Nat) : ∀ n : Nat, sumK (fun i => g i + h i) n = sumK g n + sumK h n
  | 0 => rfl
  | n + 1 => by
    show sumK _ n + (g n + h n) = (sumK g n + g n) + (sumK h n + h n)
    rw [sumK_add g h n]; omega
theorem Tr.fr_nil : ∀ {d : Nat} (a : Tr d), a.fr Tr.nil = 0
  | 0, _ => rfl
  | _ + 1, _ => rfl
/-- What is anew below the kids is anew. -/
theorem Tr.fr_kids {d : Nat} {a b : Tr (d + 1)} {w : World} (ha : a.at w) (hb : b.at w) : sumK (onF fun i => (a.kid i).fr (b.kid i)) 16 ≤ a.fr b := by
  have hz : (∀ i, (a.kid i).fr (b.kid i) = 0) → sumK (onF fun i => (a.kid i).fr (b.kid i)) 16 = 0 := fun h => by
    rw [sumK_congr (h := fun _ => 0) 16 (fun i hi => by unfold onF; rw [dif_pos hi]; exact h _), sumK_const]
  by_cases he : a.blk = b.blk
  · have := Tr.at_inj ha hb he
    subst this
    rw [hz fun i => Tr.fr_self _]
    exact Nat.zero_le _
  · cases b with
    | none =>
      rw [hz fun i => Tr.fr_nil _]
      exact Nat.zero_le _
    | some p =>
      obtain ⟨bb, g⟩ := p
      have e : a.fr (some (bb, g) : Option (Nat × (Fin 16 → Tr d))) = 1 + sumK (onF fun i => (a.kid i).fr (g i)) 16 := if_neg he
      rw [e]
      exact Nat.le_add_left _ _
/-- From a to c no more is anew than from a to b and from b to c. -/
theorem Tr.fr_tri : ∀ {d : Nat} (a b c : Tr d) {w : World}, a.at w → b.at w → c.at w → a.fr c ≤ a.fr b + b.fr c
  | 0, _, _, _, _, _, _, _ => Nat.zero_le _
  | d + 1, a, b, none, w, _, _, _ => Nat.zero_le _
  | d + 1, a, b, some (cc, h), w, ha, hb, hc => by
    by_cases h1 : a.blk = some cc
    · have e : a.fr (some (cc, h) : Option (Nat × (Fin 16 → Tr d))) = 0 := if_pos h1
      rw [e]; exact Nat.zero_le _
    · by_cases h2 : b.blk = some cc
      · have := Tr.at_inj hb hc h2
        subst this
        exact Nat.le_add_right _ _
      · have e1 : a.fr (some (cc, h) : Option (Nat × (Fin 16 → Tr d))) = 1 + sumK (onF fun i => (a.kid i).fr (h i)) 16 := if_neg h1
        have e2 : b.fr (some (cc, h) : Option (Nat × (Fin 16 → Tr d))) = 1 + sumK (onF fun i => (b.kid i).fr (h i)) 16 := if_neg h2
        have hk := Tr.fr_kids ha hb
        have hs : sumK (onF fun i => (a.kid i).fr (h i)) 16 ≤ sumK (fun i => onF (fun i => (a.kid i).fr (b.kid i)) i + onF (fun i => (b.kid i).fr (h i)) i) 16 := sumK_le 16 fun i hi => by
          unfold onF
          rw [dif_pos hi, dif_pos hi, dif_pos hi]
          exact fr_tri _ _ _ (Tr.at_kid ha _) (Tr.at_kid hb _) (hc.2 _)
        rw [sumK_add] at hs
        rw [e1, e2]
        omega
end Go.Proofs.YtihmhledogppmaaDoor
