/- The block of the node on the way to a key, by height; what is fresh in one tree beside another, key by key. -/
import Derived.Test.YtihmhledogppmaaDoorTrX
import Derived.Test.YtihmhledogppmaaDoorTrX
namespace Go.Proofs.YtihmhledogppmaaDoor
open Go Go.RowKit
set_option linter.unusedVariables false

def nb : {d : Nat} → Tr d → Nat → Nat → Option Nat
  | 0, t, _, _ => t.blk
  | d + 1, t, x, j => if j = d + 1 then t.blk else nb (t.kid (dF x d)) x j
theorem nb_top {d : Nat} (t : Tr (d + 1)) (x : Nat) : nb t x (d + 1) = t.blk := by
  show (if d + 1 = d + 1 then _ else _) = _
  rw [if_pos rfl]
theorem nb_low {d : Nat} (t : Tr (d + 1)) (x j : Nat) (h : j ≤ d) : nb t x j = nb (t.kid (dF x d)) x j := by
  show (if j = d + 1 then _ else _) = _
  rw [if_neg (by omega)]
theorem nb_nil : ∀ {d : Nat} (x j : Nat), nb (Tr.nil : Tr d) x j = none
  | 0, _, _ => rfl
  | d + 1, x, j => by
    show (if j = d + 1 then _ else _) = _
    split
    · rfl
    · exact nb_nil (d := d) x j
theorem dg_of_div {x y j i : Nat} (h : x / 16 ^ j = y / 16 ^ j) (hij : j ≤ i) : dg x i = dg y i := by
  unfold dg
  rw [div_pow_eq h hij]
/-- Two keys go the same way in a tree of height d, down to height j. -/
def samP (d x y j : Nat) : Prop := ∀ i, j ≤ i → i < d → dg x i = dg y i
theorem samP_div {d x y j : Nat} (h : x / 16 ^ j = y / 16 ^ j) : samP d x y j := fun i hi _ => dg_of_div h hi
theorem nb_congr : ∀ {d : Nat} (t : Tr d) (x y j : Nat), samP d x y j → j ≤ d → nb t x j = nb t y j
  | 0, t, x, y, j, _, _ => rfl
  | d + 1, t, x, y, j, h, hj => by
    rcases Nat.lt_or_ge j (d + 1) with hl | hl
    · rw [nb_low t x j (by omega), nb_low t y j (by omega), (dF_eq x y d).2 (h d (by omega) (by omega))]
      exact nb_congr _ x y j (fun i h1 h2 => h i h1 (by omega)) (by omega)
    · obtain rfl : j = d + 1 := by omega
      rw [nb_top, nb_top]
theorem nb_put_same : ∀ {d : Nat} (t : Tr (d + 1)) (B key : Nat) (v : V) (x j : Nat), samP (d + 1) x key j → 1 ≤ j → j ≤ d + 1 → nb (t.put B key v) x j = some (B + 2 * (d + 1 - j) + 1)
  | 0, t, B, key, v, x, j, h, h1, h2 => by
    obtain rfl : j = 1 := by omega
    rw [nb_top]
    rfl
  | d + 1, t, B, key, v, x, j, h, h1, h2 => by
    rcases Nat.lt_or_ge j (d + 2) with hl | hl
    · rw [nb_low _ x j (by omega)]
      have hd : dF x (d + 1) = dF key (d + 1) := (dF_eq _ _ _).2 (h (d + 1) (by omega) (by omega))
      rw [show (Tr.put (d := d + 1) t B key v).kid (dF x (d + 1)) = (t.kid (dF key (d + 1))).put (B + 2) key v from if_pos hd]
      rw [nb_put_same _ (B + 2) key v x j (fun i a b => h i a (by omega)) h1 (by omega)]
      congr 1
      omega
    · obtain rfl : j = d + 2 := by omega
      rw [nb_top]
      show some (B + 1) = _
      congr 1
      omega
theorem nb_put_off : ∀ {d : Nat} (t : Tr (d + 1)) (B key : Nat) (v : V) (x j : Nat), ¬ samP (d + 1) x key j → 1 ≤ j → j ≤ d + 1 → nb (t.put B key v) x j = nb t x j
  | 0, t, B, key, v, x, j, h, h1, h2 => by
    obtain rfl : j = 1 := by omega
    exact absurd (fun i a b => absurd b (by omega)) h
  | d + 1, t, B, key, v, x, j, h, h1, h2 => by
    rcases Nat.lt_or_ge j (d + 2) with hl | hl
    · rw [nb_low _ x j (by omega), nb_low t x j (by omega)]
      by_cases hd : dF x (d + 1) = dF key (d + 1)
      · rw [show (Tr.put (d := d + 1) t B key v).kid (dF x (d + 1)) = (t.kid (dF key (d + 1))).put (B + 2) key v from if_pos hd]
        rw [nb_put_off _ (B + 2) key v x j ?_ h1 (by omega), hd]
        intro hs
        apply h
        intro i a b
        rcases Nat.lt_or_ge i (d + 1) with hi | hi
        · exact hs i a hi
        · obtain rfl : i = d + 1 := by omega
          exact (dF_eq _ _ _).1 hd
      · rw [show (Tr.put (d := d + 1) t B key v).kid (dF x (d + 1)) = t.kid (dF x (d + 1)) from if_neg hd]
    · obtain rfl : j = d + 2 := by omega
      exact absurd (fun i a b => absurd b (by omega)) h
theorem mkNode_blk {d : Nat} {B : Nat} {f : Fin 16 → Tr d} {i : Fin 16} (h : f i ≠ Tr.nil) : mkNode B f = Tr.node B f := mkNode_node fun hn => h (Tr.blk_none (hn i))
theorem get_ne_nil {d : Nat} {t : Tr d} {x : Nat} (h : t.get x ≠ none) : t ≠ Tr.nil := by
  intro e
  subst e
  exact h (Tr.nil_get x)
theorem nb_drop_same : ∀ {d : Nat} (t : Tr (d + 1)) (B key : Nat) (x j : Nat), (t.drop B key).get x ≠ none → samP (d + 1) x key j → 1 ≤ j → j ≤ d + 1 → nb (t.drop B key) x j = some (B + (d + 1 - j))
  | 0, t, B, key, x, j, hg, h, h1, h2 => by
    obtain rfl : j = 1 := by omega
    rw [nb_top]
    have hm : Tr.drop (d := 0) t B key = mkNode B fun i => if i = dF key 0 then Tr.nil else t.kid i := rfl
    rw [hm] at hg ⊢
    rw [mkNode_get] at hg
    rw [mkNode_blk (i := dF x 0) (get_ne_nil hg)]
    rfl
  | d + 1, t, B, key, x, j, hg, h, h1, h2 => by
    have hm : Tr.drop (d := d + 1) t B key = mkNode B fun i => if i = dF key (d + 1) then (t.kid (dF key (d + 1))).drop (B + 1) key else t.kid i := rfl
    rw [hm] at hg ⊢
    rw [mkNode_get] at hg
    rw [mkNode_blk (i := dF x (d + 1)) (get_ne_nil hg)]
    rcases Nat.lt_or_ge j (d + 2) with hl | hl
    · rw [nb_low _ x j (by omega)]
      have hd : dF x (d + 1) = dF key (d + 1) := (dF_eq _ _ _).2 (h (d + 1) (by omega) (by omega))
      rw [if_pos hd] at hg
      rw [show (Tr.node B fun i => if i = dF key (d + 1) then (t.kid (dF key (d + 1))).drop (B + 1) key else t.kid i).kid (dF x (d + 1)) = (t.kid (dF key (d + 1))).drop (B + 1) key from if_pos hd]
      rw [nb_drop_same _ (B + 1) key x j hg (fun i a b => h i a (by omega)) h1 (by omega)]
      congr 1
      omega
    · obtain rfl : j = d + 2 := by omega
      rw [nb_top]
      show some B = _
      congr 1
      omega
theorem nb_drop_off : ∀ {d : Nat} (t : Tr (d + 1)) (B key : Nat) (x j : Nat), (t.drop B key).get x ≠ none → ¬ samP (d + 1) x key j → 1 ≤ j → j ≤ d + 1 → nb (t.drop B key) x j = nb t x j
  | 0, t, B, key, x, j, hg, h, h1, h2 => by
    obtain rfl : j = 1 := by omega
    exact absurd (fun i a b => absurd b (by omega)) h
  | d + 1, t, B, key, x, j, hg, h, h1, h2 => by
    have hm : Tr.drop (d := d + 1) t B key = mkNode B fun i => if i = dF key (d + 1) then (t.kid (dF key (d + 1))).drop (B + 1) key else t.kid i := rfl
    rw [hm] at hg ⊢
    rw [mkNode_get] at hg
    rw [mkNode_blk (i := dF x (d + 1)) (get_ne_nil hg)]
    rcases Nat.lt_or_ge j (d + 2) with hl | hl
    · rw [nb_low _ x j (by omega), nb_low t x j (by omega)]
      by_cases hd : dF x (d + 1) = dF key (d + 1)
      · rw [if_pos hd] at hg
        rw [show (Tr.node B fun i => if i = dF key (d + 1) then (t.kid (dF key (d + 1))).drop (B + 1) key else t.kid i).kid (dF x (d + 1)) = (t.kid (dF key (d + 1))).drop (B + 1) key from if_pos hd]
        rw [nb_drop_off _ (B + 1) key x j hg ?_ h1 (by omega), hd]
        intro hs
        apply h
        intro i a b
        rcases Nat.lt_or_ge i (d + 1) with hi | hi
        · exact hs i a hi
        · obtain rfl : i = d + 1 := by omega
          exact (dF_eq _ _ _).1 hd
      · rw [show (Tr.node B fun i => if i = dF key (d + 1) then (t.kid (dF key (d + 1))).drop (B + 1) key else t.kid i).kid (dF x (d + 1)) = t.kid (dF x (d + 1)) from if_neg hd]
    · obtain rfl : j = d + 2 := by omega
      exact absurd (fun i a b => absurd b (by omega)) h
theorem nb_all {p : Nat → Prop} : ∀ {d : Nat} {t : Tr d} {x j c : Nat}, t.all p → nb t x j = some c → p c
  | 0, none, x, j, c, h, hc => by cases hc
  | 0, some (b, v), x, j, c, h, hc => by cases hc; exact h
  | d + 1, t, x, j, c, h, hc => by
    by_cases hj : j = d + 1
    · subst hj
      rw [nb_top] at hc
      cases t with
      | none => cases hc
      | some q => obtain ⟨b, f⟩ := q; cases hc; exact h.1
    · have : nb t x j = nb (t.kid (dF x d)) x j := by
        show (if j = d + 1 then _ else _) = _
        rw [if_neg hj]
      rw [this] at hc
      exact nb_all (Tr.all_kid h _) hc
theorem nb_some : ∀ {d : Nat} {t : Tr d} {x j : Nat}, t.get x ≠ none → j ≤ d → nb t x j ≠ none
  | 0, none, x, j, h, _ => absurd rfl h
  | 0, some (b, v), x, j, h, _ => by simp [nb, Tr.blk]
  | d + 1, t, x, j, h, hj => by
    rcases Nat.lt_or_ge j (d + 1) with hl | hl
    · rw [nb_low t x j (by omega)]
      exact nb_some (t := t.kid (dF x d)) h (by omega)
    · obtain rfl : j = d + 1 := by omega
      rw [nb_top]
      intro e
      exact get_ne_nil h (Tr.blk_none e)
/-! ### What is fresh, key by key -/
def newAt (prev : Option Nat) (x j : Nat) : Bool := match prev with
  | none => true
  | some q => decide (q / 16 ^ j ≠ x / 16 ^ j)
def partP (p : Nat → Nat → Bool) : Nat → Option Nat → Nat → Nat
  | 0, _, _ => 0
  | d + 1, prev, x => partP p d prev x + (if newAt prev x (d + 1) && p x (d + 1) then 1 else 0)
def askP (p : Nat → Nat → Bool) (d : Nat) : Option Nat → List Nat → Nat
  | _, [] => 0
  | prev, x :: l => partP p d prev x + askP p d (some x) l
theorem askP_append (p : Nat → Nat → Bool) (d : Nat) : ∀ (prev : Option Nat) (l m : List Nat), askP p d prev (l ++ m) = askP p d prev l + askP p d (match l.getLast? with | some x => some x | none => prev) m
  | prev, [], m => by simp [askP]
  | prev, x :: l, m => by
    show partP p d prev x + askP p d (some x) (l ++ m) = partP p d prev x + askP p d (some x) l + _
    rw [askP_append p d (some x) l m, Nat.add_assoc]
    congr 2
    cases l with
    | nil => rfl
    | cons y l => rfl
theorem partP_far (p : Nat → Nat → Bool) {q x : Nat} : ∀ {d : Nat}, q / 16 ^ d ≠ x / 16 ^ d → ∀ e, e ≤ d → partP p e (some q) x = partP p e none x
  | d, h, 0, _ => rfl
  | d, h, e + 1, he => by
    show _ + _ = _ + _
    rw [partP_far p h e (by omega)]
    have : q / 16 ^ (e + 1) ≠ x / 16 ^ (e + 1) := fun h2 => h (div_pow_eq h2 he)
    simp [newAt, this]
theorem askP_apart (p : Nat → Nat → Bool) (d : Nat) (l m : List Nat) (h : ∀ x ∈ l, ∀ y ∈ m, x / 16 ^ d ≠ y / 16 ^ d) : askP p d none (l ++ m) = askP p d none l + askP p d none m := by
  rw [askP_append]
  congr 1
  cases hq : l.getLast? with
  | none => rfl
  | some x =>
    cases m with
    | nil => rfl
    | cons y m =>
      show partP p d (some x) y + _ = partP p d none y + _
      rw [partP_far p (h x (List.mem_of_getLast? hq) y List.mem_cons_self) d (Nat.le_refl _)]
theorem askP_some (p : Nat → Nat → Bool) (d q : Nat) : ∀ (y : Nat) (l : List Nat), y / 16 ^ (d + 1) = q → (∀ x ∈ l, x / 16 ^ (d + 1) = q) → askP p (d + 1) (some y) l = askP p d (some y) l
  | y, [], _, _ => rfl
  | y, x :: l, hp, h => by
    have hx := h x List.mem_cons_self
    show partP p d (some y) x + _ + askP p (d + 1) (some x) l = partP p d (some y) x + askP p d (some x) l
    rw [askP_some p d q x l hx (fun z hz => h z (List.mem_cons_of_mem _ hz))]
    simp [newAt, hp, hx]
theorem askP_none (p : Nat → Nat → Bool) (d q : Nat) (x : Nat) (l : List Nat) (h : ∀ y ∈ x :: l, y / 16 ^ (d + 1) = q) : askP p (d + 1) none (x :: l) = (if p x (d + 1) then 1 else 0) + askP p d none (x :: l) := by
  show partP p d none x + _ + askP p (d + 1) (some x) l = _ + (partP p d none x + askP p d (some x) l)
  rw [askP_some p d q x l (h x List.mem_cons_self) (fun y hy => h y (List.mem_cons_of_mem _ hy))]
  simp [newAt]
  omega
theorem askP_zero (p : Nat → Nat → Bool) : ∀ (d : Nat) (prev : Option Nat) (l : List Nat), (∀ x ∈ l, ∀ j, 1 ≤ j → j ≤ d → p x j = false) → askP p d prev l = 0
  | d, prev, [], _ => rfl
  | d, prev, x :: l, h => by
    show partP p d prev x + askP p d (some x) l = 0
    rw [askP_zero p d (some x) l (fun y hy => h y (List.mem_cons_of_mem _ hy))]
    have : ∀ e, e ≤ d → partP p e prev x = 0 := by
      intro e
      induction e with
      | zero => intro _; rfl
      | succ e ih =>
        intro he
        show partP p e prev x + _ = 0
        rw [ih (by omega), h x List.mem_cons_self (e + 1) (by omega) he]
        simp
    rw [this d (Nat.le_refl _)]
theorem askP_congr {p q : Nat → Nat → Bool} : ∀ (d : Nat) (prev : Option Nat) (l : List Nat), (∀ x ∈ l, ∀ j, 1 ≤ j → j ≤ d → p x j = q x j) → askP p d prev l = askP q d prev l
  | d, prev, [], _ => rfl
  | d, prev, x :: l, h => by
    show partP p d prev x + askP p d (some x) l = partP q d prev x + askP q d (some x) l
    rw [askP_congr d (some x) l (fun y hy => h y (List.mem_cons_of_mem _ hy))]
    congr 1
    have : ∀ e, e ≤ d → partP p e prev x = partP q e prev x := by
      intro e
      induction e with
      | zero => intro _; rfl
      | succ e ih =>
        intro he
        show partP p e prev x + _ = partP q e prev x + _
        rw [ih (by omega), h x List.mem_cons_self (e + 1) (by omega) he]
    exact this d (Nat.le_refl _)
theorem Tr.fr_ask : ∀ {d : Nat} (a t : Tr d) (h : Nat) (p : Nat → Nat → Bool) {w : World}, a.at w → t.at w → t.Cl → h % 16 ^ d = 0 → (∀ x ∈ (t.ents h).map (·.1), ∀ j, 1 ≤ j → j ≤ d → p x j = decide (nb a x j ≠ nb t x j)) → a.fr t = askP p d none ((t.ents h).map (·.1))
  | 0, a, t, h, p, w, _, _, _, _, _ => by
    have : ∀ (prev : Option Nat) (l : List Nat), askP p 0 prev l = 0 := fun prev l => askP_zero p 0 prev l (fun x _ j h1 h2 => by omega)
    rw [this]
    rfl
  | d + 1, a, none, h, p, w, _, _, _, _, _ => rfl
  | d + 1, a, some (b, f), h, p, w, ha, ht, hc, hh, hp => by
    have hne := Tr.cl_ents h hc (by simp [Tr.blk])
    by_cases hb : a.blk = some b
    · have hab : a = some (b, f) := Tr.at_inj ha ht hb
      rw [Tr.fr_some, if_pos hb, askP_zero]
      intro x hx j h1 h2
      rw [hp x hx j h1 h2, hab]
      simp
    · have hp0 : 0 < 16 ^ d := Nat.pow_pos (by decide)
      have hhd : ∀ k, (h + k * 16 ^ d) % 16 ^ d = 0 := fun k => by
        rw [Nat.add_mul_mod_self_right]
        have : 16 ^ d ∣ 16 ^ (d + 1) := Nat.pow_dvd_pow 16 (by omega)
        exact Nat.mod_eq_zero_of_dvd (Nat.dvd_trans this (Nat.dvd_of_mod_eq_zero hh))
      have hids : ∀ (i : Fin 16) (x : Nat), x ∈ ((f i).ents (h + i.val * 16 ^ d)).map (·.1) → dF x d = i := by
        intro i x hx
        have h1 := ids_div (hhd i.val) hx
        have h2 : h / 16 ^ d % 16 = 0 := by
          have : 16 ^ (d + 1) ∣ h := Nat.dvd_of_mod_eq_zero hh
          obtain ⟨m, rfl⟩ := this
          rw [Nat.pow_succ, Nat.mul_assoc, Nat.mul_div_cancel_left _ hp0]
          simp
        apply Fin.ext
        show x / 16 ^ d % 16 = i.val
        rw [h1, Nat.add_mul_div_right _ _ hp0, Nat.add_mod, h2, Nat.zero_add, Nat.mod_mod, Nat.mod_eq_of_lt i.isLt]
      have hall : ∀ k, k ≤ 16 → ∀ x ∈ (entsK f h k).map (·.1), ∃ i : Fin 16, i.val < k ∧ x ∈ ((f i).ents (h + i.val * 16 ^ d)).map (·.1) := by
        intro k hk x hx
        obtain ⟨e, he, rfl⟩ := List.mem_map.1 hx
        unfold entsK at he
        obtain ⟨i, hi, hei⟩ := List.mem_flatMap.1 he
        refine ⟨i, ?_, List.mem_map_of_mem hei⟩
        obtain ⟨j, hj⟩ := List.getElem?_of_mem hi
        rw [List.getElem?_take] at hj
        split at hj
        · rename_i hjk
          have hj16 : j < 16 := by
            have := (List.getElem?_eq_some_iff.1 hj).1
            simpa [allF] using this
          rw [show allF = List.finRange 16 from rfl, finRange16 j hj16] at hj
          cases hj
          exact hjk
        · cases hj
      have hmem : ∀ (i : Fin 16) (x : Nat), x ∈ ((f i).ents (h + i.val * 16 ^ d)).map (·.1) → x ∈ ((Tr.ents (d := d + 1) (some (b, f)) h)).map (·.1) := by
        intro i x hx
        obtain ⟨e, he, rfl⟩ := List.mem_map.1 hx
        exact List.mem_map_of_mem (List.mem_flatMap.2 ⟨i, List.mem_finRange i, he⟩)
      have key : ∀ k, k ≤ 16 → askP p d none ((entsK f h k).map (·.1)) = sumK (onF fun i => (a.kid i).fr (f i)) k := by
        intro k
        induction k with
        | zero => intro _; rfl
        | succ k ih =>
          intro hk
          rw [entsK_succ f h k (by omega), List.map_append, askP_apart, ih (by omega)]
          · show _ = sumK _ k + onF _ k
            congr 1
            rw [show onF (fun i => (a.kid i).fr (f i)) k = (a.kid ⟨k, by omega⟩).fr (f ⟨k, by omega⟩) from dif_pos (by omega)]
            refine (fr_ask (a.kid ⟨k, by omega⟩) (f ⟨k, by omega⟩) (h + k * 16 ^ d) p (Tr.at_kid ha _) (ht.2 _) (hc.2 _) (hhd k) ?_).symm
            intro x hx j h1 h2
            have hi := hids ⟨k, by omega⟩ x hx
            refine (hp x (hmem ⟨k, by omega⟩ x hx) j h1 (by omega)).trans ?_
            have e1 : nb a x j = nb (a.kid ⟨k, by omega⟩) x j := by rw [nb_low a x j h2, hi]
            have e2 : nb (d := d + 1) (some (b, f)) x j = nb (f ⟨k, by omega⟩) x j := (nb_low (d := d) (some (b, f)) x j h2).trans (by rw [hi]; rfl)
            exact congr (congrArg (fun u v => decide (u ≠ v)) e1) e2
          · intro x hx y hy
            obtain ⟨i, hik, hxi⟩ := hall k (by omega) x hx
            rw [ids_div (hhd k) hy, ids_div (t := f i) (hhd i.val) hxi, Nat.mul_comm i.val, Nat.mul_comm k, Nat.add_mul_div_left _ _ hp0, Nat.add_mul_div_left _ _ hp0]
            omega
      have k16 := key 16 (Nat.le_refl _)
      rw [entsK_all b f h] at k16
      rw [Tr.fr_some, if_neg hb, ← k16]
      have hdiv : ∀ x ∈ (Tr.ents (d := d + 1) (some (b, f)) h).map (·.1), x / 16 ^ (d + 1) = h / 16 ^ (d + 1) := fun x hx => ids_div (d := d + 1) (t := some (b, f)) hh hx
      cases hl : (Tr.ents (d := d + 1) (some (b, f)) h).map (·.1) with
      | nil => exact absurd (by simpa using hl) hne
      | cons x l =>
        rw [hl] at hdiv hp
        have e1 : p x (d + 1) = true := by
          refine (hp x List.mem_cons_self (d + 1) (by omega) (Nat.le_refl _)).trans ?_
          have e2 : nb (d := d + 1) (some (b, f)) x (d + 1) = some b := nb_top (d := d) (some (b, f)) x
          have e3 : decide (a.blk ≠ some b) = true := by simpa using hb
          exact (congr (congrArg (fun u v => decide (u ≠ v)) (nb_top a x)) e2).trans e3
        rw [askP_none p d _ x l hdiv, e1]
        rfl
end Go.Proofs.YtihmhledogppmaaDoor
