/- A world with some blocks masked (the rows of growing slices): what holds there doesn't lie in them, and stays whatever is written into them. -/
import Derived.Test.YtihmhledogppmaaDoorMl
namespace Go.Proofs.YtihmhledogppmaaDoor
open Go Go.RowKit
set_option linter.unusedVariables false
set_option linter.unusedSimpArgs false

def mask (S : List Nat) (w : World) : World := { w with heap := w.heap.mapIdx fun k o => if k ∈ S then .cells #[] 0 else o }
theorem mask_size (S : List Nat) (w : World) : (mask S w).heap.size = w.heap.size := by simp [mask]
theorem mask_get (S : List Nat) (w : World) (k : Nat) : (mask S w).heap[k]? = if k ∈ S then (w.heap[k]?).map (fun _ => .cells #[] 0) else w.heap[k]? := by
  simp only [mask, Array.getElem?_mapIdx]
  split
  · rename_i h; simp [h]
  · rename_i h; simp [h]
theorem mask_out {S : List Nat} {w : World} {k : Nat} (h : k ∉ S) : (mask S w).heap[k]? = w.heap[k]? := by rw [mask_get, if_neg h]
theorem holds_mask {S : List Nat} {w : World} {b : Nat} {cs : List Value} (h : Holds (mask S w) b cs) (hc : cs ≠ []) : Holds w b cs ∧ b ∉ S := by
  obtain ⟨ty, h⟩ := h
  have hb : b ∉ S := by
    intro hb
    rw [mask_get, if_pos hb] at h
    cases hq : w.heap[b]? with
    | none => rw [hq] at h; cases h
    | some o =>
      rw [hq] at h
      simp only [Option.map_some, Option.some.injEq, Obj.cells.injEq] at h
      have := congrArg Array.toList h.1
      simp at this
      exact hc this
  exact ⟨⟨ty, by rwa [mask_out hb] at h⟩, hb⟩
theorem mask_holds {S : List Nat} {w : World} {b : Nat} {cs : List Value} (h : Holds w b cs) (hb : b ∉ S) : Holds (mask S w) b cs := by
  obtain ⟨ty, h⟩ := h
  exact ⟨ty, by rwa [mask_out hb]⟩
theorem below_mask {S : List Nat} {w W : World} (h : Below w.heap.size w W) (hS : ∀ k ∈ S, k < w.heap.size) : Below (mask S w).heap.size (mask S w) (mask S W) := by
  refine ⟨h.os, h.tape, h.output, by rw [mask_size, mask_size]; exact h.size, fun k hk => ?_⟩
  rw [mask_size] at hk
  rw [mask_get, mask_get, h.block k hk]
/-- A step on a masked row: what is masked grows by the new row, if there is one. -/
theorem grew_mask {S : List Nat} {w W : World} {v v' : Value} {g : Nat} (h : Grew w W v v') (hg : v.ownBlock = some g) (hgS : g ∈ S) (hlt : ∀ k ∈ S, k < w.heap.size) : Below (mask S w).heap.size (mask S w) (mask (S ++ v'.ownBlock.toList) W) := by
  refine ⟨h.step.os, h.step.tape, h.step.output, by rw [mask_size, mask_size]; exact h.step.size, fun k hk => ?_⟩
  rw [mask_size] at hk
  rw [mask_get, mask_get]
  by_cases hkS : k ∈ S
  · rw [if_pos hkS, if_pos (List.mem_append_left _ hkS)]
    have : k < W.heap.size := Nat.lt_of_lt_of_le hk h.step.size
    rw [Array.getElem?_eq_getElem hk, Array.getElem?_eq_getElem this]
    rfl
  · have hno : k ∉ S ++ v'.ownBlock.toList := by
      intro hm
      rcases List.mem_append.1 hm with hm | hm
      · exact hkS hm
      · rcases h.at_ with ha | ha
        · rw [ha, hg] at hm
          have : k = g := by simpa using hm
          subst this; exact hkS hgS
        · rw [ha] at hm
          have : k = w.heap.size := by simpa using hm
          omega
    rw [if_neg hkS, if_neg hno]
    exact h.step.block k hk (by rw [hg]; intro e; cases e; exact hkS hgS)
theorem grew_lt {S : List Nat} {w W : World} {v v' : Value} {base : Nat} {ty : TypeId} {s : Nat} {α : Type} {enc : α → List Value} {l : List α} (h : Grew w W v v') (hO : Own W base ty s enc v' l) (hlt : ∀ k ∈ S, k < w.heap.size) : ∀ k ∈ S ++ v'.ownBlock.toList, k < W.heap.size := by
  intro k hk
  rcases List.mem_append.1 hk with hk | hk
  · exact Nat.lt_of_lt_of_le (hlt k hk) h.step.size
  · have : v'.ownBlock = some k := by simpa using hk
    exact (hO.row.lt k this).2
theorem nodeCells_ne {d : Nat} (f : Fin 16 → Tr d) : nodeCells f ≠ [] := fun h => by have := nodeCells_length f; rw [h] at this; cases this
theorem Tr.at_mask {S : List Nat} {w : World} : ∀ {d : Nat} {t : Tr d}, t.at (mask S w) ↔ t.at w ∧ t.all (· ∉ S)
  | 0, none => ⟨fun _ => ⟨trivial, trivial⟩, fun _ => trivial⟩
  | 0, some (b, v) => ⟨fun h => holds_mask h (by simp [vCells]), fun h => mask_holds h.1 h.2⟩
  | d + 1, none => ⟨fun _ => ⟨trivial, trivial⟩, fun _ => trivial⟩
  | d + 1, some (b, f) => by
    constructor
    · rintro ⟨h1, h2⟩
      have h3 := holds_mask h1 (nodeCells_ne f)
      exact ⟨⟨h3.1, fun i => (Tr.at_mask.1 (h2 i)).1⟩, h3.2, fun i => (Tr.at_mask.1 (h2 i)).2⟩
    · rintro ⟨⟨h1, h2⟩, h3, h4⟩
      exact ⟨mask_holds h1 h3, fun i => Tr.at_mask.2 ⟨h2 i, h4 i⟩⟩
theorem mapCells_ne (t : Tr 8) (n : Nat) : t.mapCells n ≠ [] := by simp [Tr.mapCells]
theorem MapAt.unmask {S : List Nat} {w : World} {b n : Nat} {t : Tr 8} (h : MapAt (mask S w) b t n) : MapAt w b t n ∧ b ∉ S ∧ t.all (· ∉ S) := by
  obtain ⟨h1, h2⟩ := holds_mask h.map (mapCells_ne t n)
  obtain ⟨h3, h4⟩ := Tr.at_mask.1 h.tree
  exact ⟨⟨h1, h3⟩, h2, h4⟩
theorem MapAt.mask {S : List Nat} {w : World} {b n : Nat} {t : Tr 8} (h : MapAt w b t n) (hb : b ∉ S) (ht : t.all (· ∉ S)) : MapAt (mask S w) b t n := ⟨mask_holds h.map hb, Tr.at_mask.2 ⟨h.tree, ht⟩⟩
/-- A map none of whose blocks is masked. -/
def MapM (S : List Nat) (w : World) (b : Nat) (l : List (Nat × V)) : Prop := MapL (mask S w) b l
theorem MapM.map {S : List Nat} {w : World} {b : Nat} {l : List (Nat × V)} (h : MapM S w b l) : MapL w b l := by
  obtain ⟨t, h1, h2⟩ := h
  exact ⟨t, h1.unmask.1, h2⟩
theorem MapM.ext {S : List Nat} {w W : World} {b : Nat} {l : List (Nat × V)} (h : MapM S w b l) (hb : Below w.heap.size w W) (hS : ∀ k ∈ S, k < w.heap.size) : MapM S W b l := MapL.ext h (below_mask hb hS)
theorem put_m (S : List Nat) (b key : Nat) (l : List (Nat × V)) (v : V) (w : World) (h : MapM S w b l) (hS : ∀ k ∈ S, k < w.heap.size) (hn : l.length ≤ 1000000) (hk : key < 4294967296) :
    Calls Tryd.prog 26 #[.pointer (some ⟨b, 0, none⟩), .int .u32 key, .agg #[.int .i64 v.k, .int .i64 v.n]] w fun e w' =>
      ∃ b', e = .returned (.pointer (some ⟨b', 0, none⟩)) ∧ MapM S w' b' (laidL key v false l) ∧ Below w.heap.size w w' := by
  have hs := h.srt
  have h0 := h
  obtain ⟨t, hm, rfl⟩ := h
  obtain ⟨h1, hbS, htS⟩ := hm.unmask
  refine (put_any b _ key t v w h1 (by omega) hk).mono ?_
  rintro e w' ⟨hb, h⟩
  split at h
  · rename_i hg
    rw [← look_ents t key hk] at hg
    exact ⟨b, h, by rw [laid_same hs hg]; exact h0.ext hb hS, hb⟩
  · obtain ⟨b', B, hB, hb', he, hm'⟩ := h
    refine ⟨b', he, ⟨_, ?_, ents_put t B key v hk⟩, hb⟩
    have hl := laid_len key v false hs
    rw [look_ents t key hk] at hl
    rw [show (laidL key v false (t.ents 0)).length = if (t.get key).isSome then (t.ents 0).length else (t.ents 0).length + 1 by split <;> simp_all <;> omega]
    exact hm'.mask (fun hm => by have := hS b' hm; omega) (Tr.put_all (d := 7) htS fun k hk hm => by have := hS k hm; omega)
theorem drop_m (S : List Nat) (b key : Nat) (l : List (Nat × V)) (v : V) (w : World) (h : MapM S w b l) (hS : ∀ k ∈ S, k < w.heap.size) (hn : l.length ≤ 1000000) (hk : key < 4294967296) :
    Calls Tryd.prog 27 #[.pointer (some ⟨b, 0, none⟩), .int .u32 key] w fun e w' =>
      ∃ b', e = .returned (.pointer (some ⟨b', 0, none⟩)) ∧ MapM S w' b' (laidL key v true l) ∧ Below w.heap.size w w' := by
  have hs := h.srt
  have h0 := h
  obtain ⟨t, hm, rfl⟩ := h
  obtain ⟨h1, hbS, htS⟩ := hm.unmask
  have hg := look_ents t key hk
  refine (drop_any b _ key t w h1 (by omega) ?_ hk).mono ?_
  · intro hg2
    rw [← hg] at hg2
    obtain ⟨u, hu⟩ := Option.isSome_iff_exists.1 hg2
    have := List.length_pos_of_mem ((look_mem hs).1 hu)
    omega
  rintro e w' ⟨hb, h⟩
  have hl := laid_len key v true hs
  rw [hg] at hl
  split at h
  · rename_i hg2
    obtain ⟨b', B, hB, hb', he, hm'⟩ := h
    refine ⟨b', he, ⟨_, ?_, ents_drop t B key v hk⟩, hb⟩
    rw [show (laidL key v true (t.ents 0)).length = (t.ents 0).length - 1 by simp [hg2] at hl; omega]
    exact hm'.mask (fun hm => by have := hS b' hm; omega) (Tr.drop_all (d := 7) htS fun k hk hm => by have := hS k hm; omega)
  · rename_i hg2
    have hno : look (t.ents 0) key = none := by rw [hg]; simpa using hg2
    exact ⟨b, h, by rw [laid_gone v hs hno]; exact h0.ext hb hS, hb⟩
set_option maxRecDepth 100000 in
theorem one_m (S : List Nat) (b : Nat) (l : List (Nat × V)) (x : PutL) (w : World) (h : MapM S w b l) (hS : ∀ k ∈ S, k < w.heap.size) (hn : l.length ≤ 1000000) (hk : x.id < 4294967296) :
    Calls Tryd.prog 12 #[.pointer (some ⟨b, 0, none⟩), .agg (putCells x).toArray] w fun e w' =>
      ∃ b', e = .returned (.pointer (some ⟨b', 0, none⟩)) ∧ MapM S w' b' (laidL x.id x.v x.gone l) ∧ Below w.heap.size w w' := by
  obtain ⟨key, v, gone⟩ := x
  have hS' : ∀ (o : Obj), ∀ k ∈ S, k < (w.alloc o).heap.size := fun o k hk => by have := hS k hk; simp; omega
  have HM := Lib.hid h
  have HS := Lib.hid hS
  clear h hS
  simp only [putCells]
  cases gone with
  | true =>
    go_enter Tryd.func12, Tryd.ntmps12
    go_wp2_with (go_at_call 27; refine (drop_m S b key l v _ (HM.out.ext ((Below.refl _ _).alloc (Nat.le_refl _) _) HS.out) (hS' _) hn hk).mono ?_; rintro e w' ⟨b', rfl, h1, h2⟩)
    go_returns
    exact ⟨b', rfl, h1, ((Below.refl _ _).alloc (Nat.le_refl _) _).trans (h2.mono (by simp))⟩
  | false =>
    go_enter Tryd.func12, Tryd.ntmps12
    go_wp2_with (go_at_call 26; refine (put_m S b key l v _ (HM.out.ext ((Below.refl _ _).alloc (Nat.le_refl _) _) HS.out) (hS' _) hn hk).mono ?_; rintro e w' ⟨b', rfl, h1, h2⟩)
    go_returns
    exact ⟨b', rfl, h1, ((Below.refl _ _).alloc (Nat.le_refl _) _).trans (h2.mono (by simp))⟩
section
variable {α : Type}
theorem cell_mask {S : List Nat} {w : World} {p : Addr} {u : Value} (h : (mask S w).cell? p = some u) : w.cell? p = some u := by
  by_cases hp : p.block ∈ S
  · simp only [World.cell?, mask_get, if_pos hp] at h
    cases hq : w.heap[p.block]? with
    | none => rw [hq] at h; simp at h
    | some o => rw [hq] at h; simp at h
  · simpa [World.cell?, mask_out hp] using h
/-- A slice that reads as l, and lies in no masked row. -/
def RdM (S : List Nat) (w : World) (s : Nat) (enc : α → List Value) (v : Value) (l : List α) : Prop := Rd (mask S w) s enc v l
theorem RdM.rd {S : List Nat} {w : World} {s : Nat} {enc : α → List Value} {v : Value} {l : List α} (h : RdM S w s enc v l) : Rd w s enc v l := by
  obtain ⟨a, cap, hv, h⟩ := h
  refine ⟨a, cap, hv, h.imp id ?_⟩
  rintro ⟨b, off, ha, hlt, hc⟩
  exact ⟨b, off, ha, by rwa [mask_size] at hlt, fun i x j u h1 h2 => cell_mask (hc i x j u h1 h2)⟩
theorem RdM.ext {S : List Nat} {w W : World} {s : Nat} {enc : α → List Value} {v : Value} {l : List α} (h : RdM S w s enc v l) (hb : Below w.heap.size w W) (hS : ∀ k ∈ S, k < w.heap.size) : RdM S W s enc v l := Rd.ext h (below_mask hb hS)
theorem Own.rdM {S : List Nat} {w : World} {base : Nat} {ty : TypeId} {s : Nat} {enc : α → List Value} {v : Value} {l : List α} (hs : ∀ x, (enc x).length = s) (h : Own w base ty s enc v l) (hS : ∀ k ∈ S, k < base) : RdM S w s enc v l := by
  obtain ⟨a, cap, rfl, hr⟩ := h.rd hs
  refine ⟨a, cap, rfl, hr.imp id ?_⟩
  rintro ⟨b, off, rfl, hlt, hc⟩
  refine ⟨b, off, rfl, by rwa [mask_size], fun i x j u h1 h2 => ?_⟩
  have hb : b ∉ S := fun hm => by
    have := h.block b rfl
    have := hS b hm
    omega
  simp only [World.cell?, mask_out hb]
  exact hc i x j u h1 h2
end
end Go.Proofs.YtihmhledogppmaaDoor
