/- The walk of trie.without. -/
import Derived.Test.YtmhhejpokgdjoaaTrC
namespace Go.Proofs.Ytmhhejpokgdjoaa
open Go Go.RowKit
set_option linter.unusedVariables false
set_option linter.unusedSimpArgs false

def DropPost {d : Nat} (t : Tr (d + 1)) (w : World) (key : Nat) (e : Ending) (w' : World) : Prop :=
  e = .returned (t.drop w.heap.size key).ptr ∧ (t.drop w.heap.size key).at w' ∧ Below w.heap.size w w' ∧ w'.heap.size = w.heap.size + (d + 1)
theorem nilP_ptr {d : Nat} (t : Tr d) : nilP t.ptr = t.blk.isNone := by
  unfold Tr.ptr ptrOf; cases t.blk <;> rfl
theorem all_map (f : Fin 16 → Bool) : ((List.finRange 16).map f).all id = decide (∀ i, f i = true) := by
  rw [Bool.eq_iff_iff]; simp
theorem half_nil {d : Nat} (f : Fin 16 → Tr d) : ((nodeCells f).take 16).all nilP = true ∧ (((nodeCells f).drop 16).take 16).all nilP = true ↔ ∀ i, (f i).blk = none := by
  have hk : ((List.finRange 16).map fun i => (f i).ptr).all nilP = true ↔ ∀ i, (f i).blk = none := by
    simp only [List.all_eq_true, List.mem_map, List.mem_finRange, true_and, forall_exists_index, forall_apply_eq_imp_iff, nilP_ptr, Option.isNone_iff_eq_none]
  have hr : (List.replicate 16 (Value.pointer none)).all nilP = true := rfl
  unfold nodeCells
  split
  · rw [List.take_left' (by simp), List.drop_left' (by simp), List.take_of_length_le (by simp)]
    simp only [hr, true_and, hk]
  · rw [List.take_left' (by simp), List.drop_left' (by simp), List.take_of_length_le (by simp)]
    simp only [hr, and_true, hk]
theorem half_ptr {d : Nat} (f : Fin 16 → Tr d) (k n : Nat) : ∀ v ∈ ((nodeCells f).drop k).take n, ∃ o, v = .pointer o := by
  intro v hv
  have := List.mem_of_mem_drop (List.mem_of_mem_take hv)
  unfold nodeCells at this
  split at this <;> simp only [List.mem_append, List.mem_map, List.mem_replicate] at this <;> rcases this with h | h <;>
    first | (obtain ⟨_, _, rfl⟩ := h; exact ⟨_, rfl⟩) | exact ⟨_, h.2⟩
theorem half_len {d : Nat} (f : Fin 16 → Tr d) (k : Nat) (hk : k ≤ 16) : (((nodeCells f).drop k).take 16).length = 16 := by simp [nodeCells_length]; omega
theorem info_kids : (Try.prog.info? 130).map (·.size) = some 16 := by kernel_rfl
theorem info_leaf : (Try.prog.info? 131).map (·.size) = some 16 := by kernel_rfl
theorem info_pn : (Try.prog.info? 97).map (·.size) = some 1 := by kernel_rfl
theorem info_pv : (Try.prog.info? 129).map (·.size) = some 1 := by kernel_rfl
theorem eqg_kids : Try.prog.eqGuardType Try.prog.depth 130 = false := by kernel_rfl
theorem eqg_leaf : Try.prog.eqGuardType Try.prog.depth 131 = false := by kernel_rfl
theorem und_kids : Try.prog.underlying 130 = some (.array 16 97) := by kernel_rfl
theorem und_leaf : Try.prog.underlying 131 = some (.array 16 129) := by kernel_rfl
theorem und_pn : Try.prog.underlying 97 = some (.pointer 133) := by kernel_rfl
theorem und_pv : Try.prog.underlying 129 = some (.pointer 50) := by kernel_rfl
/-- What the end comes to, the node's block holding F's cells. -/
theorem drop_end {d : Nat} {t : Tr (d + 1)} {key : Nat} {w W : World} {F : Fin 16 → Tr d} (hF : t.drop w.heap.size key = mkNode w.heap.size F) (hW : Holds W w.heap.size (nodeCells F)) (hk : ∀ i, (F i).at W) (hb : Below w.heap.size w W) (hs : W.heap.size = w.heap.size + (d + 1)) :
    ((∀ i, (F i).blk = none) → DropPost t w key (.returned (.pointer none)) W) ∧ ((¬ ∀ i, (F i).blk = none) → DropPost t w key (.returned (.pointer (some ⟨w.heap.size, 0, none⟩))) W) := by
  constructor
  · intro h
    have e : t.drop w.heap.size key = Tr.nil := by rw [hF, mkNode_nil h]
    exact ⟨by rw [e]; rfl, by rw [e]; trivial, hb, hs⟩
  · intro h
    have e : t.drop w.heap.size key = Tr.node w.heap.size F := by rw [hF, mkNode_node h]
    exact ⟨by rw [e]; rfl, by rw [e]; exact ⟨hW, hk⟩, hb, hs⟩
def upd {d : Nat} (f : Fin 16 → Tr d) (k : Fin 16) (x : Tr d) : Fin 16 → Tr d := fun j => if j = k then x else f j
theorem set_leaf {W : World} {g key : Nat} {f : Fin 16 → Tr 0} (h : Holds W g (nodeCells f)) : Holds (W.setCell ⟨g, 16 + dg key 0, none⟩ (.pointer none)) g (nodeCells (upd f (dF key 0) Tr.nil)) := by
  have := h.setCell (i := 16 + dg key 0) (Tr.ptr (Tr.nil : Tr 0))
  rw [show dg key 0 = (dF key 0).val from rfl, nodeCells_set_leaf f (dF key 0) Tr.nil] at this
  exact this
theorem set_kid {W : World} {g key d : Nat} {f : Fin 16 → Tr (d + 1)} {x : Tr (d + 1)} {p : Option Addr} (hp : x.ptr = .pointer p) (h : Holds W g (nodeCells f)) : Holds (W.setCell ⟨g, dg key (d + 1), none⟩ (.pointer p)) g (nodeCells (upd f (dF key (d + 1)) x)) := by
  have := h.setCell (i := dg key (d + 1)) x.ptr
  rw [show dg key (d + 1) = (dF key (d + 1)).val from rfl, nodeCells_set_kid f (dF key (d + 1)) x] at this
  rw [hp] at this
  exact this
end Go.Proofs.Ytmhhejpokgdjoaa
