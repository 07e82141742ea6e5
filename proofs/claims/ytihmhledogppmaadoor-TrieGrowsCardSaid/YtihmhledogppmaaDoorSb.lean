/- Trees without empty nodes: how many nodes they have, out of their entries alone; what a Drop makes anew. -/
import Derived.Test.YtihmhledogppmaaDoorSa
import Derived.Test.YtihmhledogppmaaDoorMl
namespace Go.Proofs.YtihmhledogppmaaDoor
open Go Go.RowKit
set_option linter.unusedVariables false

/-- No node is empty. -/
def Tr.Cl : {d : Nat} → Tr d → Prop
  | 0, _ => True
  | _ + 1, t => match t with
    | none => True
    | some (_, f) => (¬ ∀ i, (f i).blk = none) ∧ ∀ i, (f i).Cl
theorem Tr.cl_nil : ∀ {d : Nat}, (Tr.nil : Tr d).Cl
  | 0 => trivial
  | _ + 1 => trivial
theorem Tr.cl_kid {d : Nat} {t : Tr (d + 1)} (h : t.Cl) (i : Fin 16) : (t.kid i).Cl := by
  cases t with
  | none => exact Tr.cl_nil
  | some p => exact h.2 i
theorem Tr.cl_put : ∀ {d : Nat} {t : Tr (d + 1)} (B key : Nat) (v : V), t.Cl → (t.put B key v).Cl
  | 0, t, B, key, v, h => by
    refine ⟨fun hh => ?_, fun i => trivial⟩
    have := hh (dF key 0)
    dsimp only at this
    rw [if_pos rfl] at this
    cases this
  | d + 1, t, B, key, v, h => by
    have ih := Tr.cl_put (B + 2) key v (Tr.cl_kid h (dF key (d + 1)))
    refine ⟨fun hh => ?_, fun i => ?_⟩
    · have := hh (dF key (d + 1))
      dsimp only at this
      rw [if_pos rfl] at this
      cases d <;> cases this
    · show Tr.Cl (if i = dF key (d + 1) then (t.kid (dF key (d + 1))).put (B + 2) key v else t.kid i)
      split
      · exact ih
      · exact Tr.cl_kid h i
theorem cl_mkNode {d B : Nat} {f : Fin 16 → Tr d} (h : ∀ i, (f i).Cl) : (mkNode B f).Cl := by
  by_cases hn : ∀ i, (f i).blk = none
  · rw [mkNode_nil hn]; exact Tr.cl_nil
  · rw [mkNode_node hn]; exact ⟨hn, h⟩
theorem Tr.cl_drop : ∀ {d : Nat} {t : Tr (d + 1)} (B key : Nat), t.Cl → (t.drop B key).Cl
  | 0, t, B, key, h => cl_mkNode fun i => trivial
  | d + 1, t, B, key, h => by
    have ih := Tr.cl_drop (B + 1) key (Tr.cl_kid h (dF key (d + 1)))
    refine cl_mkNode fun i => ?_
    split
    · exact ih
    · exact Tr.cl_kid h i
theorem Tr.cl_ents : ∀ {d : Nat} {t : Tr d} (h : Nat), t.Cl → t.blk ≠ none → t.ents h ≠ []
  | 0, none, h, _, hb => absurd rfl hb
  | 0, some (b, v), h, _, _ => by simp [Tr.ents]
  | d + 1, none, h, _, hb => absurd rfl hb
  | d + 1, some (b, f), h, hc, _ => by
    obtain ⟨hn, hk⟩ := hc
    intro he
    apply hn
    intro i
    have hmem : i ∈ allF := List.mem_finRange i
    cases hb : (f i).blk with
    | none => rfl
    | some x =>
      have h1 := cl_ents (h + i.val * 16 ^ d) (hk i) (by rw [hb]; simp)
      have : (f i).ents (h + i.val * 16 ^ d) = [] := by
        have h2 : allF.flatMap (fun i => (f i).ents (h + i.val * 16 ^ d)) = [] := he
        rw [List.flatMap_eq_nil_iff] at h2
        exact h2 i hmem
      exact absurd this h1
/-- A Drop makes at most a node at each level; none just where nothing is left. -/
theorem Tr.fr_mk {d : Nat} (t : Tr (d + 1)) (B : Nat) (F : Fin 16 → Tr d) (ht : t.all (· < B)) (n : Nat) (hF : sumK (onF fun i => (t.kid i).fr (F i)) 16 ≤ n) :
    t.fr (mkNode B F) ≤ n + 1 ∧ (0 < t.fr (mkNode B F) ↔ 0 < (mkNode B F).cnt) := by
  by_cases hn : ∀ i, (F i).blk = none
  · rw [mkNode_nil hn]
    exact ⟨Nat.zero_le _, Iff.rfl⟩
  · rw [mkNode_node hn]
    have hb : ¬ t.blk = some B := by
      cases t with
      | none => simp [Tr.blk]
      | some p => intro e; have := ht.1; simp [Tr.blk] at e; omega
    have e1 : t.fr (Tr.node B F) = 1 + sumK (onF fun i => (t.kid i).fr (F i)) 16 := if_neg hb
    have e2 : (Tr.node B F).cnt = 1 + sumK (onF fun i => (F i).cnt) 16 := rfl
    rw [e1, e2]
    omega
theorem Tr.fr_drop : ∀ {d : Nat} (t : Tr (d + 1)) (B key : Nat), t.all (· < B) → t.fr (t.drop B key) ≤ d + 1 ∧ (0 < t.fr (t.drop B key) ↔ 0 < (t.drop B key).cnt)
  | 0, t, B, key, h => by
    refine Tr.fr_mk t B _ h 0 ?_
    rw [sumK_congr (h := fun _ => 0) 16 (fun i hi => by unfold onF; rw [dif_pos hi]; rfl), sumK_const]
    omega
  | d + 1, t, B, key, h => by
    have ih := (fr_drop (t.kid (dF key (d + 1))) (B + 1) key (Tr.all_mono (fun b hb => by omega) (Tr.all_kid h (dF key (d + 1))))).1
    refine Tr.fr_mk t B _ h (d + 1) ?_
    rw [sumK_one (dF key (d + 1)).val 16 (dF key (d + 1)).isLt]
    · rw [onF_fin, if_pos rfl]; exact ih
    · intro i hi hne
      unfold onF
      rw [dif_pos hi]
      show (t.kid ⟨i, hi⟩).fr (if (⟨i, hi⟩ : Fin 16) = dF key (d + 1) then _ else t.kid ⟨i, hi⟩) = 0
      rw [if_neg (fun e => hne (congrArg Fin.val e))]
      exact Tr.fr_self _
/-! ### The nodes that a list of rising keys asks for -/
/-- At how many of the lowest d levels a key parts from the one ahead of it. -/
def parts (d : Nat) (prev : Option Nat) (x : Nat) : Nat := match prev with
  | none => d
  | some p => sumK (fun j => if p / 16 ^ (j + 1) = x / 16 ^ (j + 1) then 0 else 1) d
def asks (d : Nat) : Option Nat → List Nat → Nat
  | _, [] => 0
  | prev, x :: l => parts d prev x + asks d (some x) l
theorem asks_append (d : Nat) : ∀ (prev : Option Nat) (l m : List Nat), asks d prev (l ++ m) = asks d prev l + asks d (match l.getLast? with | some x => some x | none => prev) m
  | prev, [], m => by simp [asks]
  | prev, x :: l, m => by
    show parts d prev x + asks d (some x) (l ++ m) = parts d prev x + asks d (some x) l + _
    rw [asks_append d (some x) l m, Nat.add_assoc]
    congr 2
    cases l with
    | nil => rfl
    | cons y l => rfl
theorem div_pow_eq {a b i j : Nat} (h : a / 16 ^ i = b / 16 ^ i) (hij : i ≤ j) : a / 16 ^ j = b / 16 ^ j := by
  obtain ⟨k, rfl⟩ : ∃ k, j = i + k := ⟨j - i, by omega⟩
  rw [Nat.pow_add, ← Nat.div_div_eq_div_mul, ← Nat.div_div_eq_div_mul, h]
theorem parts_far {d p x : Nat} (h : p / 16 ^ d ≠ x / 16 ^ d) : parts d (some p) x = d := by
  show sumK _ d = d
  rw [sumK_congr (h := fun _ => 1) d (fun j hj => if_neg fun e => h (div_pow_eq e (by omega))), sumK_const]
  omega
/-- Two groups of keys that part at level d ask for their nodes apart. -/
theorem asks_apart (d : Nat) (l m : List Nat) (h : ∀ x ∈ l, ∀ y ∈ m, x / 16 ^ d ≠ y / 16 ^ d) : asks d none (l ++ m) = asks d none l + asks d none m := by
  rw [asks_append]
  congr 1
  cases hq : l.getLast? with
  | none => rfl
  | some x =>
    cases m with
    | nil => rfl
    | cons y m =>
      show parts d (some x) y + _ = parts d none y + _
      rw [parts_far (h x (List.mem_of_getLast? hq) y List.mem_cons_self)]
      rfl
theorem parts_succ (d : Nat) (prev : Option Nat) (x : Nat) : parts (d + 1) prev x = parts d prev x + (match prev with | none => 1 | some p => if p / 16 ^ (d + 1) = x / 16 ^ (d + 1) then 0 else 1) := by
  cases prev <;> rfl
/-- Keys that don't part at level d + 1 ask for one node there. -/
theorem asks_some (d q : Nat) : ∀ (p : Nat) (l : List Nat), p / 16 ^ (d + 1) = q → (∀ x ∈ l, x / 16 ^ (d + 1) = q) → asks (d + 1) (some p) l = asks d (some p) l
  | p, [], _, _ => rfl
  | p, x :: l, hp, h => by
    have hx := h x List.mem_cons_self
    show parts (d + 1) (some p) x + asks (d + 1) (some x) l = parts d (some p) x + asks d (some x) l
    rw [asks_some d q x l hx (fun y hy => h y (List.mem_cons_of_mem _ hy)), parts_succ]
    simp only [hp, hx, if_true, Nat.add_zero]
theorem asks_none (d q : Nat) (l : List Nat) (hl : l ≠ []) (h : ∀ x ∈ l, x / 16 ^ (d + 1) = q) : asks (d + 1) none l = 1 + asks d none l := by
  cases l with
  | nil => exact absurd rfl hl
  | cons x l =>
    show parts (d + 1) none x + asks (d + 1) (some x) l = 1 + (parts d none x + asks d (some x) l)
    rw [asks_some d q x l (h x List.mem_cons_self) (fun y hy => h y (List.mem_cons_of_mem _ hy))]
    show d + 1 + _ = 1 + (d + _)
    omega
theorem ids_div {d : Nat} {t : Tr d} {h x : Nat} (hh : h % 16 ^ d = 0) (hx : x ∈ (t.ents h).map (·.1)) : x / 16 ^ d = h / 16 ^ d := by
  obtain ⟨e, he, rfl⟩ := List.mem_map.1 hx
  obtain ⟨r, hr, h1, _⟩ := (Tr.mem_ents t h e.1 e.2).1 he
  have hp : 0 < 16 ^ d := Nat.pow_pos (by decide)
  have h2 : h = h / 16 ^ d * 16 ^ d := by have := Nat.div_add_mod h (16 ^ d); rw [hh, Nat.add_zero, Nat.mul_comm] at this; exact this.symm
  rw [h1, h2, Nat.mul_comm, Nat.mul_add_div hp, Nat.mul_div_cancel_left _ hp, Nat.div_eq_of_lt hr, Nat.add_zero]
/-- The nodes of a tree without empty ones are those that its keys ask for. -/
theorem Tr.cnt_asks : ∀ {d : Nat} (t : Tr d) (h : Nat), t.Cl → h % 16 ^ d = 0 → t.cnt = asks d none ((t.ents h).map (·.1))
  | 0, none, h, _, _ => rfl
  | 0, some (b, v), h, _, _ => rfl
  | d + 1, none, h, _, _ => rfl
  | d + 1, some (b, f), h, hc, hh => by
    have hne := Tr.cl_ents h hc (by simp [Tr.blk])
    have hp : 0 < 16 ^ d := Nat.pow_pos (by decide)
    have hhd : ∀ k, (h + k * 16 ^ d) % 16 ^ d = 0 := fun k => by
      rw [Nat.add_mul_mod_self_right]
      have : 16 ^ d ∣ 16 ^ (d + 1) := Nat.pow_dvd_pow 16 (by omega)
      exact Nat.mod_eq_zero_of_dvd (Nat.dvd_trans this (Nat.dvd_of_mod_eq_zero hh))
    have key : ∀ k, k ≤ 16 → asks d none ((entsK f h k).map (·.1)) = sumK (onF fun i => (f i).cnt) k := by
      intro k
      induction k with
      | zero => intro _; rfl
      | succ k ih =>
        intro hk
        rw [entsK_succ f h k (by omega), List.map_append, asks_apart, ih (by omega)]
        · show _ = sumK _ k + onF _ k
          congr 1
          rw [show onF (fun i => (f i).cnt) k = (f ⟨k, by omega⟩).cnt from dif_pos (by omega)]
          exact (cnt_asks (f ⟨k, by omega⟩) (h + k * 16 ^ d) (hc.2 _) (hhd k)).symm
        · intro x hx y hy
          rw [ids_div (hhd k) hy]
          obtain ⟨e, he, rfl⟩ := List.mem_map.1 hx
          unfold entsK at he
          obtain ⟨i, hi, hei⟩ := List.mem_flatMap.1 he
          rw [ids_div (t := f i) (hhd i.val) (List.mem_map_of_mem hei)]
          have hik : i.val < k := by
            obtain ⟨j, hj⟩ := List.getElem?_of_mem hi
            rw [List.getElem?_take] at hj
            split at hj
            · rename_i hjk
              have hj16 : j < 16 := by
                have := (List.getElem?_eq_some_iff.1 hj).1
                simpa [allF] using this
              rw [show allF = List.finRange 16 from rfl, finRange16 j hj16] at hj
              cases hj
              exact hjk
            · cases hj
          rw [Nat.mul_comm i.val, Nat.mul_comm k, Nat.add_mul_div_left _ _ hp, Nat.add_mul_div_left _ _ hp]
          omega
    have e := asks_none d (h / 16 ^ (d + 1)) ((Tr.ents (d := d + 1) (some (b, f)) h).map (·.1)) (by simpa using hne) (fun x hx => ids_div (d := d + 1) (t := some (b, f)) hh hx)
    have k16 := key 16 (Nat.le_refl _)
    rw [entsK_all b f h] at k16
    exact (Tr.cnt_some b f).trans ((congrArg (1 + ·) k16.symm).trans e.symm)
end Go.Proofs.YtihmhledogppmaaDoor
