/- The plain law of the reference's map: what PutAs, DropAs make of its entries. -/
import Derived.Test.YtmhhejpokgdjoaaRi
import Derived.Test.YtmhhejpokgdjoaaTrX
import Derived.Test.YtmhhejpokgdjoaaTrX
namespace Go.Proofs.Ytmhhejpokgdjoaa
open Go Go.RowKit
set_option linter.unusedVariables false
set_option linter.unusedSimpArgs false

def SrtE (l : List RE) : Prop := l.Pairwise fun a b => a.id < b.id
theorem srtE_iff {l : List RE} : Srt (l.map entR) ↔ SrtE l := List.pairwise_map
/-- A list that rises, at a key: what is below it, and what isn't. -/
theorem cut_at : ∀ (l : List RE) (id : Nat), SrtE l → ∃ A D, l = A ++ D ∧ plR l id = A.length ∧ (∀ e ∈ A, e.id < id) ∧ (∀ e ∈ D, id ≤ e.id)
  | [], id, _ => ⟨[], [], rfl, rfl, by simp, by simp⟩
  | x :: l, id, hs => by
    have hs2 := List.pairwise_cons.1 hs
    by_cases hx : x.id < id
    · obtain ⟨A, D, h1, h2, h3, h4⟩ := cut_at l id hs2.2
      refine ⟨x :: A, D, by rw [h1]; rfl, ?_, ?_, h4⟩
      · unfold plR at h2 ⊢
        rw [List.takeWhile_cons, if_pos (by simpa using hx), List.length_cons, List.length_cons, h2]
      · intro e he
        rcases List.mem_cons.1 he with rfl | he
        · exact hx
        · exact h3 e he
    · refine ⟨[], x :: l, rfl, ?_, by simp, ?_⟩
      · unfold plR
        rw [List.takeWhile_cons, if_neg (by simpa using hx)]
      · intro e he
        rcases List.mem_cons.1 he with rfl | he
        · omega
        · have := hs2.1 e he; omega
theorem take_app {A D : List RE} : (A ++ D).take A.length = A := List.take_left
theorem drop_app {A D : List RE} : (A ++ D).drop A.length = D := List.drop_left
theorem get_app {A D : List RE} : (A ++ D)[A.length]? = D[0]? := by
  rw [List.getElem?_append_right (Nat.le_refl _), Nat.sub_self]
theorem drop_app1 {A D : List RE} {e : RE} : (A ++ e :: D).drop (A.length + 1) = D := by
  rw [← List.drop_drop, List.drop_left]
  rfl
theorem laidL_below (k : Nat) (v : V) (d : Bool) : ∀ (A D : List (Nat × V)), (∀ x ∈ A, x.1 < k) → laidL k v d (A ++ D) = A ++ laidL k v d D
  | [], D, _ => rfl
  | x :: A, D, h => by
    have hx := h x List.mem_cons_self
    rw [List.cons_append, laidL_cons, if_neg (by omega), if_neg (by rintro ⟨_, h2⟩; omega), laidL_below k v d A D (fun y hy => h y (List.mem_cons_of_mem _ hy))]
    rfl
theorem laidL_above_t (k : Nat) (v : V) : ∀ (D : List (Nat × V)), (∀ x ∈ D, k < x.1) → laidL k v true D = D
  | [], _ => rfl
  | x :: D, h => by
    have hx := h x List.mem_cons_self
    rw [laidL_cons, if_neg (by omega), if_neg (by simp), laidL_above_t k v D (fun y hy => h y (List.mem_cons_of_mem _ hy))]
theorem laidL_above_f (k : Nat) (v : V) (D : List (Nat × V)) (h : ∀ x ∈ D, k < x.1) : laidL k v false D = (k, v) :: D := by
  cases D with
  | nil => rfl
  | cons x D =>
    have hx := h x List.mem_cons_self
    rw [laidL_cons, if_neg (by omega), if_pos ⟨rfl, hx⟩, laidL_above_t k v D (fun y hy => h y (List.mem_cons_of_mem _ hy))]
theorem map_stamp (l : List RE) (id : Nat) (x : Int) : (stampR l id x).map entR = l.map entR := by
  unfold stampR
  rw [List.map_map]
  rfl
theorem below_map {A : List RE} {id : Nat} (h : ∀ e ∈ A, e.id < id) : ∀ x ∈ A.map entR, x.1 < id := by
  intro x hx
  obtain ⟨e, he, rfl⟩ := List.mem_map.1 hx
  exact h e he
theorem above_map {D : List RE} {id : Nat} (h : ∀ e ∈ D, id < e.id) : ∀ x ∈ D.map entR, id < x.1 := by
  intro x hx
  obtain ⟨e, he, rfl⟩ := List.mem_map.1 hx
  exact h e he
theorem putR_ents {l : List RE} (hs : SrtE l) (id : Nat) (v : V) (x : Int) : (putR l id v x).map entR = laidL id v false (l.map entR) := by
  obtain ⟨A, D, hl, hp, hA, hD⟩ := cut_at l id hs
  have hb := below_map hA
  cases D with
  | nil =>
    rw [List.append_nil] at hl
    have hsam : samR l id v = false := by unfold samR; rw [hp, hl, List.getElem?_eq_none (Nat.le_refl _)]
    have hok : okR l id = false := by unfold okR; rw [hp, hl, List.getElem?_eq_none (Nat.le_refl _)]
    unfold putR
    rw [hsam, if_neg (by simp), map_stamp]
    unfold putR0
    rw [hp, hl, List.take_length, List.drop_of_length_le (by omega), ← List.append_nil (A.map entR), laidL_below _ _ _ _ _ hb]
    simp [laidL, entR, newE]
  | cons e D =>
    have he : id ≤ e.id := hD e List.mem_cons_self
    have hDs : ∀ f ∈ D, e.id < f.id := by
      rw [hl] at hs
      have := (List.pairwise_append.1 hs).2.1
      exact (List.pairwise_cons.1 this).1
    have hget : l[plR l id]? = some e := by rw [hp]; subst hl; rw [get_app]; rfl
    by_cases hei : e.id = id
    · have hok : okR l id = true := by unfold okR; rw [hget]; simpa using hei
      have hab : ∀ y ∈ D.map entR, id < y.1 := above_map (fun f hf => by have := hDs f hf; omega)
      have hlaid : laidL id v false (l.map entR) = A.map entR ++ (id, v) :: D.map entR := by
        rw [hl, List.map_append, laidL_below _ _ _ _ _ hb, List.map_cons, laidL_cons, if_pos (show (entR e).1 = id from hei), laidL_above_f _ _ _ hab]
      by_cases hev : e.v = v
      · have hsam : samR l id v = true := by unfold samR; rw [hget]; simp [hei, hev]
        unfold putR
        rw [hsam, if_pos rfl, hlaid, hl, List.map_append, List.map_cons, show entR e = (id, v) by rw [← hei, ← hev]; rfl]
      · have hsam : samR l id v = false := by unfold samR; rw [hget]; simp [hev]
        unfold putR
        rw [hsam, if_neg (by simp), map_stamp, hlaid]
        unfold putR0 skR
        rw [hok, if_pos rfl, hp, hl, take_app, drop_app1, List.map_append, List.map_cons]
        rfl
    · have hok : okR l id = false := by unfold okR; rw [hget]; simpa using hei
      have hsam : samR l id v = false := by unfold samR; rw [hget]; simp [hei]
      have hab : ∀ y ∈ (e :: D).map entR, id < y.1 := above_map (fun f hf => by
        rcases List.mem_cons.1 hf with rfl | hf
        · omega
        · have := hDs f hf; omega)
      unfold putR
      rw [hsam, if_neg (by simp), map_stamp]
      unfold putR0 skR
      rw [hok, if_neg (by simp), Nat.add_zero, hp, hl, take_app, drop_app, List.map_append, List.map_append, laidL_below _ _ _ _ _ hb, laidL_above_f _ _ _ hab]
      rfl
theorem dropR_ents {l : List RE} (hs : SrtE l) (id : Nat) (v : V) (x : Int) : (dropR l id x).map entR = laidL id v true (l.map entR) := by
  obtain ⟨A, D, hl, hp, hA, hD⟩ := cut_at l id hs
  have hb := below_map hA
  cases D with
  | nil =>
    rw [List.append_nil] at hl
    have hok : okR l id = false := by unfold okR; rw [hp, hl, List.getElem?_eq_none (Nat.le_refl _)]
    unfold dropR
    rw [hok, if_neg (by simp), hl, ← List.append_nil (A.map entR), laidL_below _ _ _ _ _ hb]
    simp [laidL]
  | cons e D =>
    have he : id ≤ e.id := hD e List.mem_cons_self
    have hDs : ∀ f ∈ D, e.id < f.id := by
      rw [hl] at hs
      have := (List.pairwise_append.1 hs).2.1
      exact (List.pairwise_cons.1 this).1
    have hget : l[plR l id]? = some e := by rw [hp]; subst hl; rw [get_app]; rfl
    unfold dropR
    by_cases hei : e.id = id
    · have hok : okR l id = true := by unfold okR; rw [hget]; simpa using hei
      have hab : ∀ y ∈ D.map entR, id < y.1 := above_map (fun f hf => by have := hDs f hf; omega)
      rw [hok, if_pos rfl, map_stamp, hp, hl, take_app, drop_app1, List.map_append, List.map_append, laidL_below _ _ _ _ _ hb, List.map_cons, laidL_cons, if_pos (show (entR e).1 = id from hei), laidL_above_t _ _ _ hab]
    · have hok : okR l id = false := by unfold okR; rw [hget]; simpa using hei
      have hab : ∀ y ∈ (e :: D).map entR, id < y.1 := above_map (fun f hf => by
        rcases List.mem_cons.1 hf with rfl | hf
        · omega
        · have := hDs f hf; omega)
      rw [hok, if_neg (by simp), hl, List.map_append, laidL_below _ _ _ _ _ hb, laidL_above_t _ _ _ hab]
theorem putR_srt {l : List RE} (hs : SrtE l) (id : Nat) (v : V) (x : Int) : SrtE (putR l id v x) := by
  rw [← srtE_iff, putR_ents hs]
  exact srt_laid _ _ _ (srtE_iff.2 hs)
theorem dropR_srt {l : List RE} (hs : SrtE l) (id : Nat) (x : Int) : SrtE (dropR l id x) := by
  rw [← srtE_iff, dropR_ents hs id ⟨0, 0⟩]
  exact srt_laid _ _ _ (srtE_iff.2 hs)
theorem getR_look {l : List RE} (hs : SrtE l) (id : Nat) : getR l id = look (l.map entR) id := by
  obtain ⟨A, D, hl, hp, hA, hD⟩ := cut_at l id hs
  have hS := srtE_iff.2 hs
  unfold getR
  cases D with
  | nil =>
    rw [List.append_nil] at hl
    have hok : okR l id = false := by unfold okR; rw [hp, hl, List.getElem?_eq_none (Nat.le_refl _)]
    rw [hok, if_neg (by simp)]
    cases hk : look (l.map entR) id with
    | none => rfl
    | some u =>
      obtain ⟨f, hf, he⟩ := List.mem_map.1 ((look_mem hS).1 hk)
      rw [hl] at hf
      have := hA f hf
      have h2 : f.id = id := congrArg (·.1) he
      omega
  | cons e D =>
    have he : id ≤ e.id := hD e List.mem_cons_self
    have hDs : ∀ f ∈ D, e.id < f.id := by
      rw [hl] at hs
      have := (List.pairwise_append.1 hs).2.1
      exact (List.pairwise_cons.1 this).1
    have hget : l[plR l id]? = some e := by rw [hp]; subst hl; rw [get_app]; rfl
    by_cases hei : e.id = id
    · have hok : okR l id = true := by unfold okR; rw [hget]; simpa using hei
      rw [hok, if_pos rfl, hget]
      refine ((look_mem hS).2 ?_).symm
      rw [show (id, e.v) = entR e by rw [← hei]; rfl]
      exact List.mem_map_of_mem (List.mem_of_getElem? hget)
    · have hok : okR l id = false := by unfold okR; rw [hget]; simpa using hei
      rw [hok, if_neg (by simp)]
      cases hk : look (l.map entR) id with
      | none => rfl
      | some u =>
        obtain ⟨f, hf, h3⟩ := List.mem_map.1 ((look_mem hS).1 hk)
        have h2 : f.id = id := congrArg (·.1) h3
        rw [hl] at hf
        rcases List.mem_append.1 hf with hf | hf
        · have := hA f hf; omega
        · rcases List.mem_cons.1 hf with rfl | hf
          · exact absurd h2 hei
          · have := hDs f hf; omega
theorem drop_from {l : List RE} (hs : SrtE l) (id : Nat) : (l.map entR).drop (plR l id) = (l.map entR).filter fun e => decide (id ≤ e.1) := by
  obtain ⟨A, D, hl, hp, hA, hD⟩ := cut_at l id hs
  rw [hp, hl, List.map_append, List.filter_append, List.drop_left' (by simp)]
  rw [List.filter_eq_nil_iff.2 (by intro x hx; have := below_map hA x hx; simp; omega), List.nil_append]
  refine (List.filter_eq_self.2 ?_).symm
  intro x hx
  obtain ⟨e, he, rfl⟩ := List.mem_map.1 hx
  exact decide_eq_true (hD e he)
/-- What is there behind a change, entry by entry. -/
theorem putR_mem {l : List RE} (hs : SrtE l) {id : Nat} {v : V} {x : Int} (h : samR l id v = false) {e : RE} (he : e ∈ putR l id v x) : ∃ f, e = stE id x f ∧ (f.id = id ∨ (f ∈ l ∧ f.id ≠ id)) := by
  unfold putR at he
  rw [h, if_neg (by simp)] at he
  obtain ⟨f, hf, rfl⟩ := List.mem_map.1 he
  refine ⟨f, rfl, ?_⟩
  by_cases hfi : f.id = id
  · exact .inl hfi
  · right
    refine ⟨?_, hfi⟩
    unfold putR0 at hf
    rcases List.mem_append.1 hf with hf | hf
    · exact List.mem_of_mem_take hf
    · rcases List.mem_cons.1 hf with rfl | hf
      · exact absurd rfl hfi
      · exact List.mem_of_mem_drop hf
theorem dropR_mem {l : List RE} {id : Nat} {x : Int} (h : okR l id = true) {e : RE} (he : e ∈ dropR l id x) : ∃ f, e = stE id x f ∧ f ∈ l := by
  unfold dropR at he
  rw [h, if_pos rfl] at he
  obtain ⟨f, hf, rfl⟩ := List.mem_map.1 he
  refine ⟨f, rfl, ?_⟩
  rcases List.mem_append.1 hf with hf | hf
  · exact List.mem_of_mem_take hf
  · exact List.mem_of_mem_drop hf
theorem samR_look {l : List RE} (hs : SrtE l) (id : Nat) (v : V) : samR l id v = decide (look (l.map entR) id = some v) := by
  rw [← getR_look hs]
  unfold samR getR okR
  cases hq : l[plR l id]? with
  | none => simp
  | some e =>
    by_cases h1 : e.id = id
    · simp [h1]
    · simp [h1]
theorem okR_look {l : List RE} (hs : SrtE l) (id : Nat) : okR l id = (look (l.map entR) id).isSome := by
  rw [← getR_look hs]
  unfold getR
  cases hok : okR l id with
  | false => rfl
  | true =>
    rw [if_pos rfl, List.getElem?_eq_getElem (ok_lt hok)]
    rfl
end Go.Proofs.Ytmhhejpokgdjoaa
