/- The trie as data: nodes with the numbers of their blocks; what a key finds, the entries in order, what Put and Drop make of it. No program. -/
import Derived.Test.YtmhhejpokgdjoaaRow
namespace Go.Proofs.Ytmhhejpokgdjoaa
open Go Go.RowKit
set_option linter.unusedVariables false

structure V where
  k : Int
  n : Int
  deriving DecidableEq
/-- A tree of depth d: at 0 a pointer to a value, above it a pointer to a node with sixteen trees. -/
def Tr : Nat → Type
  | 0 => Option (Nat × V)
  | d + 1 => Option (Nat × (Fin 16 → Tr d))
def Tr.nil : {d : Nat} → Tr d
  | 0 => (none : Option (Nat × V))
  | _ + 1 => none
def Tr.leaf (b : Nat) (v : V) : Tr 0 := some (b, v)
def Tr.blk : {d : Nat} → Tr d → Option Nat
  | 0, (t : Option (Nat × V)) => t.map (·.1)
  | _ + 1, (t : Option _) => t.map (·.1)
def Tr.kid : {d : Nat} → Tr (d + 1) → Fin 16 → Tr d
  | _, none, _ => Tr.nil
  | _, some (_, f), i => f i
def dg (key d : Nat) : Nat := key / 16 ^ d % 16
theorem dg_lt (key d : Nat) : dg key d < 16 := Nat.mod_lt _ (by decide)
def dF (key d : Nat) : Fin 16 := ⟨dg key d, dg_lt key d⟩
def Tr.get : {d : Nat} → Tr d → Nat → Option V
  | 0, (t : Option (Nat × V)), _ => t.map (·.2)
  | d + 1, t, key => (t.kid (dF key d)).get key
theorem Tr.nil_get : ∀ {d : Nat} (key : Nat), (Tr.nil : Tr d).get key = none
  | 0, _ => rfl
  | d + 1, key => nil_get (d := d) key
theorem Tr.get_none {d : Nat} (key : Nat) : Tr.get (d := d + 1) none key = none := Tr.nil_get (d := d) key
def allF : List (Fin 16) := List.finRange 16
def Tr.ents : {d : Nat} → Tr d → Nat → List (Nat × V)
  | 0, (t : Option (Nat × V)), h => match t with | none => [] | some (_, v) => [(h, v)]
  | d + 1, t, h => match t with
    | none => []
    | some (_, f) => allF.flatMap fun i => (f i).ents (h + i.val * 16 ^ d)
def Tr.put : {d : Nat} → Tr (d + 1) → Nat → Nat → V → Tr (d + 1)
  | 0, t, B, key, v => some (B + 1, fun i => if i = dF key 0 then Tr.leaf B v else t.kid i)
  | d + 1, t, B, key, v => some (B + 1, fun i => if i = dF key (d + 1) then (t.kid (dF key (d + 1))).put (B + 2) key v else t.kid i)
def Tr.node {d : Nat} (b : Nat) (f : Fin 16 → Tr d) : Tr (d + 1) := some (b, f)
def mkNode {d : Nat} (B : Nat) (f : Fin 16 → Tr d) : Tr (d + 1) := if ∀ i, (f i).blk = none then Tr.nil else Tr.node B f
theorem mkNode_nil {d B : Nat} {f : Fin 16 → Tr d} (h : ∀ i, (f i).blk = none) : mkNode B f = Tr.nil := if_pos h
theorem mkNode_node {d B : Nat} {f : Fin 16 → Tr d} (h : ¬ ∀ i, (f i).blk = none) : mkNode B f = Tr.node B f := if_neg h
def Tr.drop : {d : Nat} → Tr (d + 1) → Nat → Nat → Tr (d + 1)
  | 0, t, B, key => mkNode B fun i => if i = dF key 0 then Tr.nil else t.kid i
  | d + 1, t, B, key => mkNode B fun i => if i = dF key (d + 1) then (t.kid (dF key (d + 1))).drop (B + 1) key else t.kid i

def ptrOf (o : Option Nat) : Value := .pointer (o.map fun b => ⟨b, 0, none⟩)
def Tr.ptr {d : Nat} (t : Tr d) : Value := ptrOf t.blk
theorem Tr.ptr_none {d : Nat} : Tr.ptr (d := d + 1) none = .pointer none := rfl
theorem Tr.ptr_some {d : Nat} (b : Nat) (f : Fin 16 → Tr d) : Tr.ptr (d := d + 1) (some (b, f)) = .pointer (some ⟨b, 0, none⟩) := rfl
/-- The 32 cells of a node. -/
def nodeCells {d : Nat} (f : Fin 16 → Tr d) : List Value :=
  if d = 0 then List.replicate 16 (.pointer none) ++ (List.finRange 16).map fun i => (f i).ptr
  else (List.finRange 16).map (fun i => (f i).ptr) ++ List.replicate 16 (.pointer none)
def vCells (v : V) : List Value := [.int .i64 v.k, .int .i64 v.n]
def Tr.at (w : World) : {d : Nat} → Tr d → Prop
  | 0, (t : Option (Nat × V)) => match t with | none => True | some (b, v) => Holds w b (vCells v)
  | d + 1, t => match t with | none => True | some (b, f) => Holds w b (nodeCells f) ∧ ∀ i, (f i).at w

theorem finRange16 (i : Nat) (h : i < 16) : (List.finRange 16)[i]? = some ⟨i, h⟩ := by
  rw [List.getElem?_eq_getElem (by simpa using h)]; simp
theorem kids_cell {d : Nat} (f : Fin 16 → Tr (d + 1)) (i : Fin 16) : (nodeCells f)[i.val]? = some (f i).ptr := by
  unfold nodeCells
  rw [if_neg (by omega), List.getElem?_append_left (by simp), List.getElem?_map, finRange16 i.val i.isLt]
  rfl
theorem leaf_cell (f : Fin 16 → Tr 0) (i : Fin 16) : (nodeCells f)[16 + i.val]? = some (f i).ptr := by
  unfold nodeCells
  rw [if_pos rfl, List.getElem?_append_right (by simp)]
  simp only [List.length_replicate, Nat.add_sub_cancel_left, List.getElem?_map, finRange16 i.val i.isLt]
  rfl
theorem nodeCells_length {d : Nat} (f : Fin 16 → Tr d) : (nodeCells f).length = 32 := by
  unfold nodeCells; split <;> simp
theorem Tr.at_ext {w w' : World} (hb : Below w.heap.size w w') : ∀ {d : Nat} {t : Tr d}, t.at w → t.at w'
  | 0, none, _ => trivial
  | 0, some (b, v), h => Holds.ext h hb
  | d + 1, none, _ => trivial
  | d + 1, some (b, f), h => ⟨h.1.ext hb, fun i => at_ext hb (h.2 i)⟩
theorem nodeCells_nil {d : Nat} : nodeCells (d := d) (fun _ => Tr.nil) = List.replicate 32 (.pointer none) := by
  unfold nodeCells
  have h : ∀ (d : Nat), (List.finRange 16).map (fun _ => (Tr.nil : Tr d).ptr) = List.replicate 16 (.pointer none) := fun d => by cases d <;> rfl
  rw [h]
  split <;> rfl
theorem set_map {α : Type} (f : Fin 16 → α) (i : Fin 16) (x : α) : ((List.finRange 16).map f).set i.val x = (List.finRange 16).map fun j => if j = i then x else f j := by
  apply List.ext_getElem
  · simp
  · intro k h1 h2
    simp only [List.length_map, List.length_finRange] at h2
    rw [List.getElem_set]
    simp only [List.getElem_map, List.getElem_finRange]
    by_cases hk : i.val = k
    · subst hk; simp
    · rw [if_neg hk, if_neg (by intro e; apply hk; rw [← e]; rfl)]
theorem nodeCells_set_kid {d : Nat} (f : Fin 16 → Tr (d + 1)) (i : Fin 16) (t : Tr (d + 1)) : (nodeCells f).set i.val t.ptr = nodeCells fun j => if j = i then t else f j := by
  unfold nodeCells
  rw [if_neg (by omega), if_neg (by omega), List.set_append_left _ _ (by simp), set_map]
  congr 2
  funext j
  by_cases h : j = i <;> simp only [h, if_true, if_false]
theorem nodeCells_set_leaf (f : Fin 16 → Tr 0) (i : Fin 16) (t : Tr 0) : (nodeCells f).set (16 + i.val) t.ptr = nodeCells fun j => if j = i then t else f j := by
  unfold nodeCells
  rw [if_pos rfl, if_pos rfl, List.set_append_right _ _ (by simp)]
  simp only [List.length_replicate, Nat.add_sub_cancel_left]
  rw [set_map]
  congr 2
  funext j
  by_cases h : j = i <;> simp only [h, if_true, if_false]
theorem Tr.ptr_one {d : Nat} (t : Tr d) : t.ptr.oneCell' = true := rfl
theorem nodeCells_one {d : Nat} (f : Fin 16 → Tr d) : ∀ v ∈ nodeCells f, v.oneCell' = true := by
  intro v hv
  unfold nodeCells at hv
  split at hv <;> simp only [List.mem_append, List.mem_map, List.mem_replicate] at hv <;> rcases hv with h | h <;>
    first | (obtain ⟨_, _, rfl⟩ := h; rfl) | (rw [h.2]; rfl)
theorem Tr.kid_none {d : Nat} : Tr.kid (d := d) none = fun _ => Tr.nil := rfl
theorem Tr.kid_some {d : Nat} (b : Nat) (f : Fin 16 → Tr d) : Tr.kid (d := d) (some (b, f)) = f := rfl
theorem Tr.at_kid {w : World} {d : Nat} {t : Tr (d + 1)} (h : t.at w) (i : Fin 16) : (t.kid i).at w := by
  cases t with
  | none => cases d <;> trivial
  | some p => exact h.2 i
theorem nodeCells_lit {d : Nat} : (nodeCells (d := d) (fun _ => Tr.nil)).toArray = #[.pointer none, .pointer none, .pointer none, .pointer none, .pointer none, .pointer none, .pointer none, .pointer none, .pointer none, .pointer none, .pointer none, .pointer none, .pointer none, .pointer none, .pointer none, .pointer none, .pointer none, .pointer none, .pointer none, .pointer none, .pointer none, .pointer none, .pointer none, .pointer none, .pointer none, .pointer none, .pointer none, .pointer none, .pointer none, .pointer none, .pointer none, .pointer none] := by
  rw [nodeCells_nil]; rfl
/-- All its blocks are so. -/
def Tr.all (p : Nat → Prop) : {d : Nat} → Tr d → Prop
  | 0, (t : Option (Nat × V)) => match t with | none => True | some (b, _) => p b
  | d + 1, t => match t with | none => True | some (b, f) => p b ∧ ∀ i, (f i).all p
theorem Tr.all_mono {p q : Nat → Prop} (h : ∀ b, p b → q b) : ∀ {d : Nat} {t : Tr d}, t.all p → t.all q
  | 0, none, _ => trivial
  | 0, some (b, _), ht => h b ht
  | d + 1, none, _ => trivial
  | d + 1, some (b, f), ht => ⟨h b ht.1, fun i => all_mono h (ht.2 i)⟩
theorem Tr.all_nil {p : Nat → Prop} : ∀ {d : Nat}, (Tr.nil : Tr d).all p
  | 0 => trivial
  | _ + 1 => trivial
theorem Tr.all_kid {p : Nat → Prop} {d : Nat} {t : Tr (d + 1)} (h : t.all p) (i : Fin 16) : (t.kid i).all p := by
  cases t with
  | none => exact Tr.all_nil
  | some q => exact h.2 i
theorem Tr.at_all {w : World} : ∀ {d : Nat} {t : Tr d}, t.at w → t.all (· < w.heap.size)
  | 0, none, _ => trivial
  | 0, some (b, _), h => Holds.lt h
  | d + 1, none, _ => trivial
  | d + 1, some (b, f), h => ⟨h.1.lt, fun i => at_all (h.2 i)⟩
theorem Tr.at_upd {g : Nat} {w w' : World} (hu : Upd g w w') : ∀ {d : Nat} {t : Tr d}, t.at w → t.all (· ≠ g) → t.at w'
  | 0, none, _, _ => trivial
  | 0, some (b, _), h, ha => Holds.upd h hu ha
  | d + 1, none, _, _ => trivial
  | d + 1, some (b, f), h, ha => ⟨h.1.upd hu ha.1, fun i => at_upd hu (h.2 i) (ha.2 i)⟩
theorem Tr.put_all {p : Nat → Prop} {key : Nat} {v : V} : ∀ {d : Nat} {t : Tr (d + 1)} {B : Nat}, t.all p → (∀ b, B ≤ b → p b) → (t.put B key v).all p
  | 0, t, B, h, hp => ⟨hp _ (by omega), fun i => by
      by_cases hi : i = dF key 0
      · simp only [hi, if_true]; exact hp B (Nat.le_refl _)
      · simp only [hi, if_false]; exact Tr.all_kid h i⟩
  | d + 1, t, B, h, hp => ⟨hp _ (by omega), fun i => by
      by_cases hi : i = dF key (d + 1)
      · simp only [hi, if_true]; exact put_all (Tr.all_kid h _) fun b hb => hp b (by omega)
      · simp only [hi, if_false]; exact Tr.all_kid h i⟩
theorem mkNode_all {p : Nat → Prop} {d B : Nat} {f : Fin 16 → Tr d} (hB : p B) (hf : ∀ i, (f i).all p) : (mkNode B f).all p := by
  by_cases h : ∀ i, (f i).blk = none
  · rw [mkNode_nil h]; exact Tr.all_nil
  · rw [mkNode_node h]; exact ⟨hB, hf⟩
theorem Tr.drop_all {p : Nat → Prop} {key : Nat} : ∀ {d : Nat} {t : Tr (d + 1)} {B : Nat}, t.all p → (∀ b, B ≤ b → p b) → (t.drop B key).all p
  | 0, t, B, h, hp => mkNode_all (hp B (Nat.le_refl _)) fun i => by
      by_cases hi : i = dF key 0
      · simp only [hi, if_true]; exact Tr.all_nil
      · simp only [hi, if_false]; exact Tr.all_kid h i
  | d + 1, t, B, h, hp => mkNode_all (hp B (Nat.le_refl _)) fun i => by
      by_cases hi : i = dF key (d + 1)
      · simp only [hi, if_true]; exact drop_all (Tr.all_kid h _) fun b hb => hp b (by omega)
      · simp only [hi, if_false]; exact Tr.all_kid h i
end Go.Proofs.Ytmhhejpokgdjoaa
