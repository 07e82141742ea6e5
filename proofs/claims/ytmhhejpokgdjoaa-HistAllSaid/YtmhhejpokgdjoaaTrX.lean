/- The trie as data: nodes with the numbers of their blocks; what a key finds, the entries in order, what Put and Drop make of it. No program. · The entries of a trie: their range, their order, and how they come, kid by kid. No program. · A list of entries with one put or dropped. No program. · Plain law of the trie: what is put and dropped, as lists in order. No program. · The walks of trie.digit, Empty, Len, Get. · The walks of trie.with, without, Put, Drop. · The walk of trie.without. · The walks of trie.Put and Drop. · A map of the program as the list of its entries: what its calls do to the list. · The value at a key, of a list of entries with one laid. No program. · The walk of trie.walk: the entries from low on, in order, to whatever yield. · The walks of trie.From, All: the iterators and what they give. · How many nodes a tree has, and how many of them another tree has not at the same place: as data. · Trees without empty nodes: how many nodes they have, out of their entries alone; what a Drop makes anew. · Trees that stand in one memory at one block are the same; how much is anew, from one to the next and on. -/
import Derived.Test.YtmhhejpokgdjoaaWk
import Derived.Test.YtmhhejpokgdjoaaReg
import Derived.Test.YtmhhejpokgdjoaaRows
import Derived.ProofKit
import Derived.Handy
import Derived.WalkSmall
import Derived.Deep.Draws
import Derived.Lib.Hide
import Derived.Shelf.Abstract
namespace Go.Proofs.Ytmhhejpokgdjoaa
open Go Go.RowKit
set_option linter.unusedVariables false

structure V where
  k : Int
  n : Int
  deriving DecidableEq
/-- A tree of depth d: at 0 a pointer to a value, above it a pointer to a node with sixteen trees. -/
def Tr : Nat → Type
  | 0 => Option (Nat × V)
  | d + 1 => Option (Nat × (Fin 16 → Tr d))
def Tr.nil : {d : Nat} → Tr d
  | 0 => (none : Option (Nat × V))
  | _ + 1 => none
def Tr.leaf (b : Nat) (v : V) : Tr 0 := some (b, v)
def Tr.blk : {d : Nat} → Tr d → Option Nat
  | 0, (t : Option (Nat × V)) => t.map (·.1)
  | _ + 1, (t : Option _) => t.map (·.1)
def Tr.kid : {d : Nat} → Tr (d + 1) → Fin 16 → Tr d
  | _, none, _ => Tr.nil
  | _, some (_, f), i => f i
def dg (key d : Nat) : Nat := key / 16 ^ d % 16
theorem dg_lt (key d : Nat) : dg key d < 16 := Nat.mod_lt _ (by decide)
def dF (key d : Nat) : Fin 16 := ⟨dg key d, dg_lt key d⟩
def Tr.get : {d : Nat} → Tr d → Nat → Option V
  | 0, (t : Option (Nat × V)), _ => t.map (·.2)
  | d + 1, t, key => (t.kid (dF key d)).get key
theorem Tr.nil_get : ∀ {d : Nat} (key : Nat), (Tr.nil : Tr d).get key = none
  | 0, _ => rfl
  | d + 1, key => nil_get (d := d) key
theorem Tr.get_none {d : Nat} (key : Nat) : Tr.get (d := d + 1) none key = none := Tr.nil_get (d := d) key
def allF : List (Fin 16) := List.finRange 16
def Tr.ents : {d : Nat} → Tr d → Nat → List (Nat × V)
  | 0, (t : Option (Nat × V)), h => match t with | none => [] | some (_, v) => [(h, v)]
  | d + 1, t, h => match t with
    | none => []
    | some (_, f) => allF.flatMap fun i => (f i).ents (h + i.val * 16 ^ d)
def Tr.put : {d : Nat} → Tr (d + 1) → Nat → Nat → V → Tr (d + 1)
  | 0, t, B, key, v => some (B + 1, fun i => if i = dF key 0 then Tr.leaf B v else t.kid i)
  | d + 1, t, B, key, v => some (B + 1, fun i => if i = dF key (d + 1) then (t.kid (dF key (d + 1))).put (B + 2) key v else t.kid i)
def Tr.node {d : Nat} (b : Nat) (f : Fin 16 → Tr d) : Tr (d + 1) := some (b, f)
def mkNode {d : Nat} (B : Nat) (f : Fin 16 → Tr d) : Tr (d + 1) := if ∀ i, (f i).blk = none then Tr.nil else Tr.node B f
theorem mkNode_nil {d B : Nat} {f : Fin 16 → Tr d} (h : ∀ i, (f i).blk = none) : mkNode B f = Tr.nil := if_pos h
theorem mkNode_node {d B : Nat} {f : Fin 16 → Tr d} (h : ¬ ∀ i, (f i).blk = none) : mkNode B f = Tr.node B f := if_neg h
def Tr.drop : {d : Nat} → Tr (d + 1) → Nat → Nat → Tr (d + 1)
  | 0, t, B, key => mkNode B fun i => if i = dF key 0 then Tr.nil else t.kid i
  | d + 1, t, B, key => mkNode B fun i => if i = dF key (d + 1) then (t.kid (dF key (d + 1))).drop (B + 1) key else t.kid i

def ptrOf (o : Option Nat) : Value := .pointer (o.map fun b => ⟨b, 0, none⟩)
def Tr.ptr {d : Nat} (t : Tr d) : Value := ptrOf t.blk
theorem Tr.ptr_none {d : Nat} : Tr.ptr (d := d + 1) none = .pointer none := rfl
theorem Tr.ptr_some {d : Nat} (b : Nat) (f : Fin 16 → Tr d) : Tr.ptr (d := d + 1) (some (b, f)) = .pointer (some ⟨b, 0, none⟩) := rfl
/-- The 32 cells of a node. -/
def nodeCells {d : Nat} (f : Fin 16 → Tr d) : List Value :=
  if d = 0 then List.replicate 16 (.pointer none) ++ (List.finRange 16).map fun i => (f i).ptr
  else (List.finRange 16).map (fun i => (f i).ptr) ++ List.replicate 16 (.pointer none)
def vCells (v : V) : List Value := [.int .i64 v.k, .int .i64 v.n]
def Tr.at (w : World) : {d : Nat} → Tr d → Prop
  | 0, (t : Option (Nat × V)) => match t with | none => True | some (b, v) => Holds w b (vCells v)
  | d + 1, t => match t with | none => True | some (b, f) => Holds w b (nodeCells f) ∧ ∀ i, (f i).at w

theorem finRange16 (i : Nat) (h : i < 16) : (List.finRange 16)[i]? = some ⟨i, h⟩ := by
  rw [List.getElem?_eq_getElem (by simpa using h)]; simp
theorem kids_cell {d : Nat} (f : Fin 16 → Tr (d + 1)) (i : Fin 16) : (nodeCells f)[i.val]? = some (f i).ptr := by
  unfold nodeCells
  rw [if_neg (by omega), List.getElem?_append_left (by simp), List.getElem?_map, finRange16 i.val i.isLt]
  rfl
theorem leaf_cell (f : Fin 16 → Tr 0) (i : Fin 16) : (nodeCells f)[16 + i.val]? = some (f i).ptr := by
  unfold nodeCells
  rw [if_pos rfl, List.getElem?_append_right (by simp)]
  simp only [List.length_replicate, Nat.add_sub_cancel_left, List.getElem?_map, finRange16 i.val i.isLt]
  rfl
theorem nodeCells_length {d : Nat} (f : Fin 16 → Tr d) : (nodeCells f).length = 32 := by
  unfold nodeCells; split <;> simp
theorem Tr.at_ext {w w' : World} (hb : Below w.heap.size w w') : ∀ {d : Nat} {t : Tr d}, t.at w → t.at w'
  | 0, none, _ => trivial
  | 0, some (b, v), h => Holds.ext h hb
  | d + 1, none, _ => trivial
  | d + 1, some (b, f), h => ⟨h.1.ext hb, fun i => at_ext hb (h.2 i)⟩
theorem nodeCells_nil {d : Nat} : nodeCells (d := d) (fun _ => Tr.nil) = List.replicate 32 (.pointer none) := by
  unfold nodeCells
  have h : ∀ (d : Nat), (List.finRange 16).map (fun _ => (Tr.nil : Tr d).ptr) = List.replicate 16 (.pointer none) := fun d => by cases d <;> rfl
  rw [h]
  split <;> rfl
theorem set_map {α : Type} (f : Fin 16 → α) (i : Fin 16) (x : α) : ((List.finRange 16).map f).set i.val x = (List.finRange 16).map fun j => if j = i then x else f j := by
  apply List.ext_getElem
  · simp
  · intro k h1 h2
    simp only [List.length_map, List.length_finRange] at h2
    rw [List.getElem_set]
    simp only [List.getElem_map, List.getElem_finRange]
    by_cases hk : i.val = k
    · subst hk; simp
    · rw [if_neg hk, if_neg (by intro e; apply hk; rw [← e]; rfl)]
theorem nodeCells_set_kid {d : Nat} (f : Fin 16 → Tr (d + 1)) (i : Fin 16) (t : Tr (d + 1)) : (nodeCells f).set i.val t.ptr = nodeCells fun j => if j = i then t else f j := by
  unfold nodeCells
  rw [if_neg (by omega), if_neg (by omega), List.set_append_left _ _ (by simp), set_map]
  congr 2
  funext j
  by_cases h : j = i <;> simp only [h, if_true, if_false]
theorem nodeCells_set_leaf (f : Fin 16 → Tr 0) (i : Fin 16) (t : Tr 0) : (nodeCells f).set (16 + i.val) t.ptr = nodeCells fun j => if j = i then t else f j := by
  unfold nodeCells
  rw [if_pos rfl, if_pos rfl, List.set_append_right _ _ (by simp)]
  simp only [List.length_replicate, Nat.add_sub_cancel_left]
  rw [set_map]
  congr 2
  funext j
  by_cases h : j = i <;> simp only [h, if_true, if_false]
theorem Tr.ptr_one {d : Nat} (t : Tr d) : t.ptr.oneCell' = true := rfl
theorem nodeCells_one {d : Nat} (f : Fin 16 → Tr d) : ∀ v ∈ nodeCells f, v.oneCell' = true := by
  intro v hv
  unfold nodeCells at hv
  split at hv <;> simp only [List.mem_append, List.mem_map, List.mem_replicate] at hv <;> rcases hv with h | h <;>
    first | (obtain ⟨_, _, rfl⟩ := h; rfl) | (rw [h.2]; rfl)
theorem Tr.kid_none {d : Nat} : Tr.kid (d := d) none = fun _ => Tr.nil := rfl
theorem Tr.kid_some {d : Nat} (b : Nat) (f : Fin 16 → Tr d) : Tr.kid (d := d) (some (b, f)) = f := rfl
theorem Tr.at_kid {w : World} {d : Nat} {t : Tr (d + 1)} (h : t.at w) (i : Fin 16) : (t.kid i).at w := by
  cases t with
  | none => cases d <;> trivial
  | some p => exact h.2 i
theorem nodeCells_lit {d : Nat} : (nodeCells (d := d) (fun _ => Tr.nil)).toArray = #[.pointer none, .pointer none, .pointer none, .pointer none, .pointer none, .pointer none, .pointer none, .pointer none, .pointer none, .pointer none, .pointer none, .pointer none, .pointer none, .pointer none, .pointer none, .pointer none, .pointer none, .pointer none, .pointer none, .pointer none, .pointer none, .pointer none, .pointer none, .pointer none, .pointer none, .pointer none, .pointer none, .pointer none, .pointer none, .pointer none, .pointer none, .pointer none] := by
  rw [nodeCells_nil]; rfl
/-- All its blocks are so. -/
def Tr.all (p : Nat → Prop) : {d : Nat} → Tr d → Prop
  | 0, (t : Option (Nat × V)) => match t with | none => True | some (b, _) => p b
  | d + 1, t => match t with | none => True | some (b, f) => p b ∧ ∀ i, (f i).all p
theorem Tr.all_mono {p q : Nat → Prop} (h : ∀ b, p b → q b) : ∀ {d : Nat} {t : Tr d}, t.all p → t.all q
  | 0, none, _ => trivial
  | 0, some (b, _), ht => h b ht
  | d + 1, none, _ => trivial
  | d + 1, some (b, f), ht => ⟨h b ht.1, fun i => all_mono h (ht.2 i)⟩
theorem Tr.all_nil {p : Nat → Prop} : ∀ {d : Nat}, (Tr.nil : Tr d).all p
  | 0 => trivial
  | _ + 1 => trivial
theorem Tr.all_kid {p : Nat → Prop} {d : Nat} {t : Tr (d + 1)} (h : t.all p) (i : Fin 16) : (t.kid i).all p := by
  cases t with
  | none => exact Tr.all_nil
  | some q => exact h.2 i
theorem Tr.at_all {w : World} : ∀ {d : Nat} {t : Tr d}, t.at w → t.all (· < w.heap.size)
  | 0, none, _ => trivial
  | 0, some (b, _), h => Holds.lt h
  | d + 1, none, _ => trivial
  | d + 1, some (b, f), h => ⟨h.1.lt, fun i => at_all (h.2 i)⟩
theorem Tr.at_upd {g : Nat} {w w' : World} (hu : Upd g w w') : ∀ {d : Nat} {t : Tr d}, t.at w → t.all (· ≠ g) → t.at w'
  | 0, none, _, _ => trivial
  | 0, some (b, _), h, ha => Holds.upd h hu ha
  | d + 1, none, _, _ => trivial
  | d + 1, some (b, f), h, ha => ⟨h.1.upd hu ha.1, fun i => at_upd hu (h.2 i) (ha.2 i)⟩
theorem Tr.put_all {p : Nat → Prop} {key : Nat} {v : V} : ∀ {d : Nat} {t : Tr (d + 1)} {B : Nat}, t.all p → (∀ b, B ≤ b → p b) → (t.put B key v).all p
  | 0, t, B, h, hp => ⟨hp _ (by omega), fun i => by
      by_cases hi : i = dF key 0
      · simp only [hi, if_true]; exact hp B (Nat.le_refl _)
      · simp only [hi, if_false]; exact Tr.all_kid h i⟩
  | d + 1, t, B, h, hp => ⟨hp _ (by omega), fun i => by
      by_cases hi : i = dF key (d + 1)
      · simp only [hi, if_true]; exact put_all (Tr.all_kid h _) fun b hb => hp b (by omega)
      · simp only [hi, if_false]; exact Tr.all_kid h i⟩
theorem mkNode_all {p : Nat → Prop} {d B : Nat} {f : Fin 16 → Tr d} (hB : p B) (hf : ∀ i, (f i).all p) : (mkNode B f).all p := by
  by_cases h : ∀ i, (f i).blk = none
  · rw [mkNode_nil h]; exact Tr.all_nil
  · rw [mkNode_node h]; exact ⟨hB, hf⟩
theorem Tr.drop_all {p : Nat → Prop} {key : Nat} : ∀ {d : Nat} {t : Tr (d + 1)} {B : Nat}, t.all p → (∀ b, B ≤ b → p b) → (t.drop B key).all p
  | 0, t, B, h, hp => mkNode_all (hp B (Nat.le_refl _)) fun i => by
      by_cases hi : i = dF key 0
      · simp only [hi, if_true]; exact Tr.all_nil
      · simp only [hi, if_false]; exact Tr.all_kid h i
  | d + 1, t, B, h, hp => mkNode_all (hp B (Nat.le_refl _)) fun i => by
      by_cases hi : i = dF key (d + 1)
      · simp only [hi, if_true]; exact drop_all (Tr.all_kid h _) fun b hb => hp b (by omega)
      · simp only [hi, if_false]; exact Tr.all_kid h i
end Go.Proofs.Ytmhhejpokgdjoaa
namespace Go.Proofs.Ytmhhejpokgdjoaa
open Go Go.RowKit
set_option linter.unusedVariables false

def entsK {d : Nat} (f : Fin 16 → Tr d) (h k : Nat) : List (Nat × V) := (allF.take k).flatMap fun i => (f i).ents (h + i.val * 16 ^ d)
theorem entsK_zero {d : Nat} (f : Fin 16 → Tr d) (h : Nat) : entsK f h 0 = [] := rfl
theorem allF_get (k : Nat) (h : k < 16) : allF[k]? = some ⟨k, h⟩ := finRange16 k h
theorem entsK_succ {d : Nat} (f : Fin 16 → Tr d) (h k : Nat) (hk : k < 16) : entsK f h (k + 1) = entsK f h k ++ (f ⟨k, hk⟩).ents (h + k * 16 ^ d) := by
  unfold entsK
  have hl : k < allF.length := by simpa [allF] using hk
  have hg : allF[k] = ⟨k, hk⟩ := by
    have := allF_get k hk
    rw [List.getElem?_eq_getElem hl] at this
    exact Option.some.inj this
  rw [List.take_succ_eq_append_getElem hl, List.flatMap_append, hg]
  simp
theorem entsK_all {d : Nat} (b : Nat) (f : Fin 16 → Tr d) (h : Nat) : entsK f h 16 = Tr.ents (d := d + 1) (some (b, f)) h := by
  show (allF.take 16).flatMap _ = allF.flatMap _
  rw [List.take_of_length_le (by simp [allF])]
theorem Tr.ents_nil : ∀ {d : Nat} (h : Nat), (Tr.nil : Tr d).ents h = []
  | 0, _ => rfl
  | _ + 1, _ => rfl
theorem Tr.ents_none {d : Nat} (h : Nat) : Tr.ents (d := d + 1) none h = [] := rfl
theorem pow_le (d : Nat) (hd : d ≤ 8) : 16 ^ d ≤ 4294967296 := by
  have := Nat.pow_le_pow_right (n := 16) (by decide) hd
  simpa using this
theorem Tr.ents_range : ∀ {d : Nat} {t : Tr d} {h k : Nat} {v : V}, (k, v) ∈ t.ents h → h ≤ k ∧ k < h + 16 ^ d
  | 0, none, h, k, v, hm => by simp [Tr.ents] at hm
  | 0, some (b, u), h, k, v, hm => by
    simp only [Tr.ents, List.mem_singleton, Prod.mk.injEq] at hm
    obtain ⟨rfl, _⟩ := hm
    simp
  | d + 1, none, h, k, v, hm => by simp [Tr.ents] at hm
  | d + 1, some (b, f), h, k, v, hm => by
    simp only [Tr.ents, List.mem_flatMap] at hm
    obtain ⟨i, _, hi⟩ := hm
    have := ents_range hi
    have h1 : (i.val + 1) * 16 ^ d ≤ 16 * 16 ^ d := Nat.mul_le_mul_right _ i.isLt
    rw [Nat.add_mul, Nat.one_mul] at h1
    rw [Nat.pow_succ, Nat.mul_comm]
    omega
/-- The entries from low on. -/
def fromL (low : Nat) (l : List (Nat × V)) : List (Nat × V) := l.filter fun e => decide (low ≤ e.1)
theorem fromL_append (low : Nat) (a b : List (Nat × V)) : fromL low (a ++ b) = fromL low a ++ fromL low b := List.filter_append ..
theorem fromL_zero (l : List (Nat × V)) : fromL 0 l = l := by unfold fromL; simp
theorem fromL_none {d low h : Nat} {t : Tr d} (hl : h + 16 ^ d ≤ low) : fromL low (t.ents h) = [] := by
  unfold fromL
  rw [List.filter_eq_nil_iff]
  rintro ⟨k, v⟩ hm
  have := Tr.ents_range hm
  simp; omega
theorem ents_split {d : Nat} (b : Nat) (f : Fin 16 → Tr d) (head low k : Nat) (hk : k < 16) : ∃ q, fromL low (Tr.ents (d := d + 1) (some (b, f)) head) = fromL low (entsK f head k) ++ fromL low ((f ⟨k, hk⟩).ents (head + k * 16 ^ d)) ++ q := by
  refine ⟨fromL low ((allF.drop (k + 1)).flatMap fun i => (f i).ents (head + i.val * 16 ^ d)), ?_⟩
  have h : entsK f head 16 = entsK f head (k + 1) ++ (allF.drop (k + 1)).flatMap fun i => (f i).ents (head + i.val * 16 ^ d) := by
    unfold entsK
    rw [← List.flatMap_append, List.take_append_drop, List.take_of_length_le (by simp [allF])]
  rw [← entsK_all, h, entsK_succ f head k hk, fromL_append, fromL_append]
end Go.Proofs.Ytmhhejpokgdjoaa
namespace Go.Proofs.Ytmhhejpokgdjoaa
open Go Go.RowKit
set_option linter.unusedVariables false

/-- The list with the key k put (or just dropped, if 'done'). -/
def laidL (k : Nat) (v : V) : Bool → List (Nat × V) → List (Nat × V)
  | done, [] => if done then [] else [(k, v)]
  | done, x :: l => if x.1 = k then laidL k v done l else if done = false ∧ k < x.1 then (k, v) :: x :: laidL k v true l else x :: laidL k v done l
theorem laidL_cons (k : Nat) (v : V) (done : Bool) (x : Nat × V) (l : List (Nat × V)) : laidL k v done (x :: l) = if x.1 = k then laidL k v done l else if done = false ∧ k < x.1 then (k, v) :: x :: laidL k v true l else x :: laidL k v done l := rfl
end Go.Proofs.Ytmhhejpokgdjoaa
namespace Go.Proofs.Ytmhhejpokgdjoaa
open Go Go.RowKit
set_option linter.unusedVariables false

/-- The keys rise. -/
def Srt (l : List (Nat × V)) : Prop := l.Pairwise fun a b => a.1 < b.1
theorem srt_ext : ∀ {l1 l2 : List (Nat × V)}, Srt l1 → Srt l2 → (∀ e, e ∈ l1 ↔ e ∈ l2) → l1 = l2
  | [], [], _, _, _ => rfl
  | [], b :: l2, _, _, h => by have := (h b).2 List.mem_cons_self; cases this
  | a :: l1, [], _, _, h => by have := (h a).1 List.mem_cons_self; cases this
  | a :: l1, b :: l2, h1, h2, h => by
    obtain ⟨ha, h1⟩ := List.pairwise_cons.1 h1
    obtain ⟨hb, h2'⟩ := List.pairwise_cons.1 h2
    have hab : a = b := by
      rcases List.mem_cons.1 ((h a).1 List.mem_cons_self) with e | e
      · exact e
      · rcases List.mem_cons.1 ((h b).2 List.mem_cons_self) with e2 | e2
        · exact e2.symm
        · have := hb a e; have := ha b e2; omega
    subst hab
    refine congrArg (a :: ·) (srt_ext h1 h2' fun e => ?_)
    constructor
    · intro he
      rcases List.mem_cons.1 ((h e).1 (List.mem_cons_of_mem _ he)) with e2 | e2
      · subst e2; have := ha _ he; omega
      · exact e2
    · intro he
      rcases List.mem_cons.1 ((h e).2 (List.mem_cons_of_mem _ he)) with e2 | e2
      · subst e2; have := hb _ he; omega
      · exact e2
theorem mem_laid (k : Nat) (v : V) (e : Nat × V) : ∀ (done : Bool) (l : List (Nat × V)), e ∈ laidL k v done l ↔ (done = false ∧ e = (k, v)) ∨ (e ∈ l ∧ e.1 ≠ k)
  | true, [] => by simp [laidL]
  | false, [] => by simp [laidL]
  | done, x :: l => by
    rw [laidL_cons]
    by_cases h : x.1 = k
    · rw [if_pos h, mem_laid k v e done l]
      constructor
      · rintro (h1 | h1)
        · exact .inl h1
        · exact .inr ⟨List.mem_cons_of_mem _ h1.1, h1.2⟩
      · rintro (h1 | ⟨h1, h2⟩)
        · exact .inl h1
        · rcases List.mem_cons.1 h1 with rfl | h3
          · exact absurd h h2
          · exact .inr ⟨h3, h2⟩
    · rw [if_neg h]
      split
      · rename_i h2
        simp only [List.mem_cons, mem_laid k v e true l]
        constructor
        · rintro (h1 | rfl | h1)
          · exact .inl ⟨h2.1, h1⟩
          · exact .inr ⟨.inl rfl, h⟩
          · rcases h1 with h1 | h1
            · exact absurd h1.1 (by simp)
            · exact .inr ⟨.inr h1.1, h1.2⟩
        · rintro (h1 | ⟨h1 | h1, h3⟩)
          · exact .inl h1.2
          · exact .inr (.inl h1)
          · exact .inr (.inr (.inr ⟨h1, h3⟩))
      · simp only [List.mem_cons, mem_laid k v e done l]
        constructor
        · rintro (rfl | h1 | h1)
          · exact .inr ⟨.inl rfl, h⟩
          · exact .inl h1
          · exact .inr ⟨.inr h1.1, h1.2⟩
        · rintro (h1 | ⟨h1 | h1, h3⟩)
          · exact .inr (.inl h1)
          · exact .inl h1
          · exact .inr (.inr ⟨h1, h3⟩)
theorem srt_laid (k : Nat) (v : V) : ∀ (done : Bool) {l : List (Nat × V)}, Srt l → Srt (laidL k v done l)
  | true, [], _ => List.Pairwise.nil
  | false, [], _ => List.pairwise_singleton _ _
  | done, x :: l, h => by
    obtain ⟨hx, h⟩ := List.pairwise_cons.1 h
    rw [laidL_cons]
    split
    · exact srt_laid k v done h
    · rename_i hne
      split
      · rename_i h2
        refine List.pairwise_cons.2 ⟨?_, List.pairwise_cons.2 ⟨?_, srt_laid k v true h⟩⟩
        · intro e he
          rcases List.mem_cons.1 he with rfl | he
          · exact h2.2
          · rcases (mem_laid k v e true l).1 he with h3 | h3
            · exact absurd h3.1 (by simp)
            · have := hx e h3.1; exact Nat.lt_trans h2.2 this
        · intro e he
          rcases (mem_laid k v e true l).1 he with h3 | h3
          · exact absurd h3.1 (by simp)
          · exact hx e h3.1
      · rename_i h2
        refine List.pairwise_cons.2 ⟨?_, srt_laid k v done h⟩
        intro e he
        rcases (mem_laid k v e done l).1 he with h3 | h3
        · obtain ⟨hd, rfl⟩ := h3
          have : ¬ k < x.1 := fun h4 => h2 ⟨hd, h4⟩
          show x.1 < k
          omega
        · exact hx e h3.1
theorem entsK_srt {d : Nat} (f : Fin 16 → Tr d) (h : Nat) (hf : ∀ i h, Srt ((f i).ents h)) : ∀ k, k ≤ 16 → Srt (entsK f h k) ∧ ∀ e ∈ entsK f h k, e.1 < h + k * 16 ^ d
  | 0, _ => ⟨List.Pairwise.nil, fun e he => by cases he⟩
  | k + 1, hk => by
    obtain ⟨h1, h2⟩ := entsK_srt f h hf k (by omega)
    rw [entsK_succ f h k (by omega)]
    refine ⟨List.pairwise_append.2 ⟨h1, hf _ _, fun a ha b hb => ?_⟩, fun e he => ?_⟩
    · have := h2 a ha
      have := (Tr.ents_range (k := b.1) (v := b.2) hb).1
      omega
    · rw [Nat.add_mul, Nat.one_mul]
      rcases List.mem_append.1 he with he | he
      · exact Nat.lt_of_lt_of_le (h2 e he) (Nat.add_le_add_left (Nat.le_add_right _ _) _)
      · have := (Tr.ents_range (k := e.1) (v := e.2) he).2
        omega
theorem Tr.srt : ∀ {d : Nat} (t : Tr d) (h : Nat), Srt (t.ents h)
  | 0, none, _ => List.Pairwise.nil
  | 0, some _, _ => List.pairwise_singleton _ _
  | d + 1, none, _ => List.Pairwise.nil
  | d + 1, some (b, f), h => by
    rw [← entsK_all]
    exact (entsK_srt f h (fun i h => Tr.srt (f i) h) 16 (by omega)).1
theorem dg_mod (r d : Nat) : dg (r % 16 ^ (d + 1)) d = dg r d := by
  unfold dg
  rw [Nat.pow_succ, Nat.mod_mul_right_div_self, Nat.mod_mod]
theorem Tr.get_mod : ∀ {d : Nat} (t : Tr d) (r : Nat), t.get (r % 16 ^ d) = t.get r
  | 0, t, r => rfl
  | d + 1, t, r => by
    show (t.kid (dF _ d)).get _ = (t.kid (dF r d)).get r
    have h1 : dF (r % 16 ^ (d + 1)) d = dF r d := by unfold dF; simp only [dg_mod]
    rw [h1, ← Tr.get_mod (t.kid (dF r d)) (r % 16 ^ (d + 1)), ← Tr.get_mod (t.kid (dF r d)) r]
    congr 1
    rw [Nat.pow_succ]
    exact Nat.mod_mul_right_mod _ _ _
theorem Tr.mem_ents : ∀ {d : Nat} (t : Tr d) (h k : Nat) (v : V), (k, v) ∈ t.ents h ↔ ∃ r, r < 16 ^ d ∧ k = h + r ∧ t.get r = some v
  | 0, none, h, k, v => by
    constructor
    · intro hm; cases hm
    · rintro ⟨r, _, _, hg⟩; cases hg
  | 0, some (b, u), h, k, v => by
    simp only [Tr.ents, List.mem_singleton, Prod.mk.injEq]
    constructor
    · rintro ⟨rfl, rfl⟩; exact ⟨0, by simp, rfl, rfl⟩
    · rintro ⟨r, hr, rfl, hg⟩
      have : r = 0 := by simpa using hr
      subst this
      exact ⟨rfl, (Option.some.inj hg).symm⟩
  | d + 1, none, h, k, v => by
    constructor
    · intro hm; cases hm
    · rintro ⟨r, _, _, hg⟩; rw [Tr.get_none] at hg; cases hg
  | d + 1, some (b, f), h, k, v => by
    have hpos : 0 < 16 ^ d := Nat.pow_pos (by decide)
    simp only [Tr.ents, List.mem_flatMap]
    constructor
    · rintro ⟨i, _, hi⟩
      obtain ⟨r, hr, rfl, hg⟩ := (Tr.mem_ents (f i) _ k v).1 hi
      have h1 : (i.val + 1) * 16 ^ d ≤ 16 * 16 ^ d := Nat.mul_le_mul_right _ i.isLt
      rw [Nat.add_mul, Nat.one_mul] at h1
      refine ⟨i.val * 16 ^ d + r, by rw [Nat.pow_succ]; omega, by omega, ?_⟩
      have hdiv : (i.val * 16 ^ d + r) / 16 ^ d = i.val := by
        rw [Nat.mul_comm, Nat.mul_add_div hpos, Nat.div_eq_of_lt hr]; rfl
      have hdF : dF (i.val * 16 ^ d + r) d = i := by
        apply Fin.ext
        show (i.val * 16 ^ d + r) / 16 ^ d % 16 = i.val
        rw [hdiv, Nat.mod_eq_of_lt i.isLt]
      show (f (dF _ d)).get _ = some v
      rw [hdF, ← Tr.get_mod (f i), Nat.mul_comm, Nat.mul_add_mod, Nat.mod_eq_of_lt hr]
      exact hg
    · rintro ⟨r, hr, rfl, hg⟩
      have hlt : r / 16 ^ d < 16 := by
        rw [Nat.div_lt_iff_lt_mul hpos, Nat.mul_comm, ← Nat.pow_succ]; exact hr
      refine ⟨⟨r / 16 ^ d, hlt⟩, List.mem_finRange _, ?_⟩
      rw [Tr.mem_ents]
      refine ⟨r % 16 ^ d, Nat.mod_lt _ hpos, ?_, ?_⟩
      · have := Nat.div_add_mod r (16 ^ d)
        rw [Nat.mul_comm] at this
        show h + r = h + r / 16 ^ d * 16 ^ d + r % 16 ^ d
        rw [Nat.add_assoc, this]
      · rw [Tr.get_mod]
        have hdF : dF r d = ⟨r / 16 ^ d, hlt⟩ := by
          apply Fin.ext
          show r / 16 ^ d % 16 = r / 16 ^ d
          exact Nat.mod_eq_of_lt hlt
        rw [← hdF]
        exact hg
theorem mod_succ_iff (q k d : Nat) : q % 16 ^ (d + 1) = k % 16 ^ (d + 1) ↔ dg q d = dg k d ∧ q % 16 ^ d = k % 16 ^ d := by
  unfold dg
  have hpos : 0 < 16 ^ d := Nat.pow_pos (by decide)
  rw [Nat.pow_succ, Nat.mod_mul, Nat.mod_mul]
  constructor
  · intro h
    have h1 : (q % 16 ^ d + 16 ^ d * (q / 16 ^ d % 16)) % 16 ^ d = (k % 16 ^ d + 16 ^ d * (k / 16 ^ d % 16)) % 16 ^ d := by rw [h]
    simp only [Nat.add_mul_mod_self_left, Nat.mod_mod] at h1
    rw [h1] at h
    exact ⟨Nat.eq_of_mul_eq_mul_left hpos (Nat.add_left_cancel h), h1⟩
  · rintro ⟨h1, h2⟩; rw [h1, h2]
theorem dF_eq (q k d : Nat) : dF q d = dF k d ↔ dg q d = dg k d := by
  unfold dF; simp
theorem Tr.get_put : ∀ {d : Nat} (t : Tr (d + 1)) (B key : Nat) (v : V) (q : Nat), (t.put B key v).get q = if q % 16 ^ (d + 1) = key % 16 ^ (d + 1) then some v else t.get q
  | 0, t, B, key, v, q => by
    show (if dF q 0 = dF key 0 then Tr.leaf B v else t.kid (dF q 0)).get q = _
    by_cases h : dF q 0 = dF key 0
    · rw [if_pos h, if_pos ((mod_succ_iff q key 0).2 ⟨(dF_eq _ _ _).1 h, by simp [Nat.mod_one]⟩)]
      rfl
    · rw [if_neg h, if_neg fun h2 => h ((dF_eq _ _ _).2 ((mod_succ_iff q key 0).1 h2).1)]
      rfl
  | d + 1, t, B, key, v, q => by
    show (if dF q (d + 1) = dF key (d + 1) then (t.kid (dF key (d + 1))).put (B + 2) key v else t.kid (dF q (d + 1))).get q = _
    by_cases h : dF q (d + 1) = dF key (d + 1)
    · rw [if_pos h, Tr.get_put]
      by_cases h2 : q % 16 ^ (d + 1) = key % 16 ^ (d + 1)
      · rw [if_pos h2, if_pos ((mod_succ_iff q key (d + 1)).2 ⟨(dF_eq _ _ _).1 h, h2⟩)]
      · rw [if_neg h2, if_neg fun h3 => h2 ((mod_succ_iff q key (d + 1)).1 h3).2, ← h]
        rfl
    · rw [if_neg h, if_neg fun h2 => h ((dF_eq _ _ _).2 ((mod_succ_iff q key (d + 1)).1 h2).1)]
      rfl
theorem Tr.blk_none : ∀ {d : Nat} {t : Tr d}, t.blk = none → t = Tr.nil
  | 0, none, _ => rfl
  | 0, some _, h => by cases h
  | d + 1, none, _ => rfl
  | d + 1, some _, h => by cases h
theorem mkNode_get {d : Nat} (B : Nat) (f : Fin 16 → Tr d) (q : Nat) : (mkNode B f).get q = (f (dF q d)).get q := by
  unfold mkNode
  split
  · rename_i h
    rw [Tr.blk_none (h (dF q d)), Tr.nil_get, Tr.nil_get]
  · rfl
theorem Tr.get_drop : ∀ {d : Nat} (t : Tr (d + 1)) (B key q : Nat), (t.drop B key).get q = if q % 16 ^ (d + 1) = key % 16 ^ (d + 1) then none else t.get q
  | 0, t, B, key, q => by
    show (mkNode B _).get q = _
    rw [mkNode_get]
    by_cases h : dF q 0 = dF key 0
    · rw [if_pos h, if_pos ((mod_succ_iff q key 0).2 ⟨(dF_eq _ _ _).1 h, by simp [Nat.mod_one]⟩)]
      rfl
    · rw [if_neg h, if_neg fun h2 => h ((dF_eq _ _ _).2 ((mod_succ_iff q key 0).1 h2).1)]
      rfl
  | d + 1, t, B, key, q => by
    show (mkNode B _).get q = _
    rw [mkNode_get]
    by_cases h : dF q (d + 1) = dF key (d + 1)
    · rw [if_pos h, Tr.get_drop]
      by_cases h2 : q % 16 ^ (d + 1) = key % 16 ^ (d + 1)
      · rw [if_pos h2, if_pos ((mod_succ_iff q key (d + 1)).2 ⟨(dF_eq _ _ _).1 h, h2⟩)]
      · rw [if_neg h2, if_neg fun h3 => h2 ((mod_succ_iff q key (d + 1)).1 h3).2, ← h]
        rfl
    · rw [if_neg h, if_neg fun h2 => h ((dF_eq _ _ _).2 ((mod_succ_iff q key (d + 1)).1 h2).1)]
      rfl
theorem mem_ents0 {t : Tr 8} {e : Nat × V} : e ∈ t.ents 0 ↔ e.1 < 4294967296 ∧ t.get e.1 = some e.2 := by
  rw [show e = (e.1, e.2) from rfl, Tr.mem_ents]
  constructor
  · rintro ⟨r, hr, h1, hg⟩
    have : e.1 = r := by simpa using h1
    rw [this]
    exact ⟨hr, hg⟩
  · rintro ⟨h1, h2⟩
    exact ⟨e.1, h1, by simp, h2⟩
theorem ents_put (t : Tr 8) (B key : Nat) (v : V) (hk : key < 4294967296) : (Tr.put (d := 7) t B key v).ents 0 = laidL key v false (t.ents 0) := by
  refine srt_ext (Tr.srt (d := 8) _ 0) (srt_laid key v false (Tr.srt t 0)) fun e => ?_
  rw [mem_laid, mem_ents0, mem_ents0, Tr.get_put (d := 7)]
  obtain ⟨q, u⟩ := e
  simp only [Prod.mk.injEq, true_and]
  by_cases hq : q < 4294967296
  · have h1 : q % 16 ^ (7 + 1) = key % 16 ^ (7 + 1) ↔ q = key := by rw [Nat.mod_eq_of_lt (by simpa using hq), Nat.mod_eq_of_lt (by simpa using hk)]
    by_cases h2 : q = key
    · rw [if_pos (h1.2 h2)]
      subst h2
      simp [hq, eq_comm]
    · rw [if_neg fun h => h2 (h1.1 h)]
      simp [hq, h2]
  · constructor
    · rintro ⟨h, _⟩; exact absurd h hq
    · rintro (⟨rfl, _⟩ | ⟨⟨h, _⟩, _⟩)
      · exact absurd hk hq
      · exact absurd h hq
theorem ents_drop (t : Tr 8) (B key : Nat) (v : V) (hk : key < 4294967296) : (Tr.drop (d := 7) t B key).ents 0 = laidL key v true (t.ents 0) := by
  refine srt_ext (Tr.srt (d := 8) _ 0) (srt_laid key v true (Tr.srt t 0)) fun e => ?_
  rw [mem_laid, mem_ents0, mem_ents0, Tr.get_drop (d := 7)]
  obtain ⟨q, u⟩ := e
  simp only [Bool.true_eq_false, false_and, false_or]
  by_cases hq : q < 4294967296
  · have h1 : q % 16 ^ (7 + 1) = key % 16 ^ (7 + 1) ↔ q = key := by rw [Nat.mod_eq_of_lt (by simpa using hq), Nat.mod_eq_of_lt (by simpa using hk)]
    by_cases h2 : q = key
    · rw [if_pos (h1.2 h2)]
      simp [h2]
    · rw [if_neg fun h => h2 (h1.1 h)]
      simp [hq, h2]
  · constructor
    · rintro ⟨h, _⟩; exact absurd h hq
    · rintro ⟨⟨h, _⟩, _⟩; exact absurd h hq
end Go.Proofs.Ytmhhejpokgdjoaa
namespace Go.Proofs.Ytmhhejpokgdjoaa
open Go Go.RowKit
set_option linter.unusedVariables false
set_option linter.unusedSimpArgs false

theorem dg_bits (key d : Nat) (hd : d ≤ 7) (hk : key < 4294967296) : wrap64 (bits BinOp.and IntKind.u32 ((key : Int) / 2 ^ (28 - 4 * (7 - d))) 15) = ((dg key d : Nat) : Int) := by
  have e : 28 - 4 * (7 - d) = 4 * d := by omega
  have e2 : ((key : Int) / 2 ^ (4 * d)) = ((key / 16 ^ d : Nat) : Int) := by
    rw [Int.pow_mul]; norm_cast
  have hle := Nat.div_le_self key (16 ^ d)
  rw [e, e2]
  have h15 : bits BinOp.and IntKind.u32 ((key / 16 ^ d : Nat) : Int) ((15 : Nat) : Int) = ((key / 16 ^ d &&& 15 : Nat) : Int) := u32_and_nat _ _ (by omega) (by omega)
  have hm : key / 16 ^ d &&& 15 = key / 16 ^ d % 16 := Nat.and_two_pow_sub_one_eq_mod _ 4
  rw [show (15 : Int) = ((15 : Nat) : Int) from rfl, h15, hm]
  unfold wrap64 dg
  omega
theorem digit_any (key d : Nat) (l : Int) (w : World) (hl : l + d = 7) (hd : d ≤ 7) (hk : key < 4294967296) :
    Calls Try.prog 66 #[.int .u32 key, .int .i64 l] w fun e w' => e = .returned (.int .i64 (dg key d : Nat)) ∧ w = w' := by
  obtain rfl : l = ((7 - d : Nat) : Int) := by omega
  have h0 : (0 : Int) ≤ ((7 - d : Nat) : Int) := by omega
  have h1 : ((7 - d : Nat) : Int) ≤ 7 := by omega
  go_enter Try.func66, Try.ntmps66
  go_wp2
  go_ret
  refine ⟨?_, rfl⟩
  simp
  exact dg_bits key d hd hk
def Tr.mapCells (t : Tr 8) (n : Nat) : List Value := [t.ptr, .int .i64 n]
theorem empty_any (w : World) : Calls Try.prog 41 #[] w fun e w' => e = .returned (.pointer (some ⟨w.heap.size, 0, none⟩)) ∧ Holds w' w.heap.size ((Tr.nil : Tr 8).mapCells 0) ∧ Below w.heap.size w w' ∧ w'.heap.size = w.heap.size + 1 := by
  go_enter Try.func41, Try.ntmps41
  go_wp2
  go_ret
  exact ⟨rfl, ⟨_, heap_alloc_new _ _⟩, (Below.refl _ _).alloc (Nat.le_refl _) _, by simp⟩
def gv (o : Option V) : V := o.getD ⟨0, 0⟩
set_option maxRecDepth 100000 in
set_option maxHeartbeats 400000 in
theorem get_any (b n key : Nat) (t : Tr 8) (w : World) (h : Holds w b (t.mapCells n)) (ht : t.at w) (hk : key < 4294967296) :
    Calls Try.prog 45 #[.pointer (some ⟨b, 0, none⟩), .int .u32 key] w fun e w' => e = .returned (.tuple #[.agg #[.int .i64 (gv (t.get key)).k, .int .i64 (gv (t.get key)).n], .bool (t.get key).isSome]) ∧ Below w.heap.size w w' := by
  have h0 := h.cell (i := 0) rfl
  have hlt := h.lt
  go_enter Try.func45, Try.ntmps45
  go_wp2
  go_loopw [6, 7] (fun n l wr => ∃ (d lv : Nat) (t' : Tr (d + 1)), lv + d = 7 ∧ n = t'.ptr ∧ l = .int .i64 (lv : Int) ∧ t'.at w ∧ t'.get key = t.get key ∧ ∃ k, wr = (w.alloc (.cells #[.int .i64 0, .int .i64 0] 50)).drewN k)
    (fun n l wr => 8 - (intOf l).toNat)
  case atStart => exact ⟨7, 0, t, rfl, rfl, rfl, ht, rfl, 0, rfl⟩
  case round =>
    obtain ⟨d, lv, t', hlv, rfl, rfl, ha, hg, k, rfl⟩ := hrel
    have hdig := dg_lt key d
    have HG := Lib.hid hg
    clear hg
    cases t' with
    | none =>
      rw [Tr.ptr_none]
      have hz : t.get key = none := HG.out.symm.trans (Tr.get_none key)
      go_wp2
      go_returns
      refine ⟨by rw [hz]; rfl, ?_⟩
      (repeat' (first | (with_reducible exact Below.refl _ _) | (with_reducible assumption) | (with_reducible refine below_drewN ?_ _) | (with_reducible refine Below.drew ?_) | (with_reducible refine Below.alloc ?_ ?_ _) | (with_reducible refine Below.setCell ?_ ?_ _) | (with_reducible exact Below.size (by assumption)) | go_size))
    | some p =>
      obtain ⟨bn, f⟩ := p
      have hdF : (dF key d).val = dg key d := rfl
      have hbn := ha.1.lt
      rw [Tr.ptr_some]
      cases d with
      | zero =>
        obtain rfl : lv = 7 := by omega
        have hc := ha.1.cell (leaf_cell f (dF key 0))
        rw [hdF] at hc
        clear hdF
        have hav := ha.2 (dF key 0)
        have hz : t.get key = Tr.get (f (dF key 0)) key := HG.out.symm
        generalize f (dF key 0) = leaf at *
        cases leaf with
        | none =>
          have hp : Tr.ptr (d := 0) none = .pointer none := rfl
          rw [hp] at hc
          have HZ := Lib.hid hz
          clear hz hp
          go_wp2
          refine rgn [0, 1, 2, 4, 5, 3, 6, 7, 8] [] (by kernel_rfl) ?_
          simp only [pickL, List.getD_cons_zero, List.getD_cons_succ]
          go_wp2_with (go_at_call 66; refine (digit_any key 0 _ _ (by omega) (by omega) hk).mono ?_; rintro e w' ⟨rfl, rfl⟩)
          refine ⟨rfl, ?_⟩
          go_wp2
          go_returns
          refine ⟨by rw [HZ.out]; rfl, ?_⟩
          (repeat' (first | (with_reducible exact Below.refl _ _) | (with_reducible assumption) | (with_reducible refine below_drewN ?_ _) | (with_reducible refine Below.drew ?_) | (with_reducible refine Below.alloc ?_ ?_ _) | (with_reducible refine Below.setCell ?_ ?_ _) | (with_reducible exact Below.size (by assumption)) | go_size))
        | some p =>
          obtain ⟨bv, v⟩ := p
          have hp : Tr.ptr (d := 0) (some (bv, v)) = .pointer (some ⟨bv, 0, none⟩) := rfl
          rw [hp] at hc
          have h1 := Holds.cell hav (i := 0) rfl
          have h2 := Holds.cell hav (i := 1) rfl
          have hbv := Holds.lt hav
          have HZ := Lib.hid hz
          clear hz hp
          go_wp2
          refine rgn [0, 1, 2, 4, 5, 3, 6, 7, 8] [] (by kernel_rfl) ?_
          simp only [pickL, List.getD_cons_zero, List.getD_cons_succ]
          go_wp2_with (go_at_call 66; refine (digit_any key 0 _ _ (by omega) (by omega) hk).mono ?_; rintro e w' ⟨rfl, rfl⟩)
          refine ⟨rfl, ?_⟩
          go_wp2
          go_returns
          refine ⟨by rw [HZ.out]; rfl, ?_⟩
          (repeat' (first | (with_reducible exact Below.refl _ _) | (with_reducible assumption) | (with_reducible refine below_drewN ?_ _) | (with_reducible refine Below.drew ?_) | (with_reducible refine Below.alloc ?_ ?_ _) | (with_reducible refine Below.setCell ?_ ?_ _) | (with_reducible exact Below.size (by assumption)) | go_size))
      | succ d =>
        have hc := ha.1.cell (kids_cell f (dF key (d + 1)))
        rw [hdF] at hc
        clear hdF
        have hz : (f (dF key (d + 1))).get key = t.get key := HG.out
        have HK := ha.2 (dF key (d + 1))
        generalize f (dF key (d + 1)) = kid at *
        have h7 : ((lv : Int) == 7) = false := by simp; omega
        go_wp2
        refine rgn [0, 1, 2, 4, 5, 3, 6, 7, 8] [] (by kernel_rfl) ?_
        simp only [pickL, List.getD_cons_zero, List.getD_cons_succ]
        go_wp2_with (go_at_call 66; refine (digit_any key (d + 1) _ _ (by omega) (by omega) hk).mono ?_; rintro e w' ⟨rfl, rfl⟩)
        refine ⟨rfl, ?_⟩
        go_wp2
        go_roundw
        case rel => exact ⟨d, lv + 1, kid, by omega, rfl, by go_num, HK, hz, k + 1, rfl⟩
        case measure => simp [intOf]; omega
end Go.Proofs.Ytmhhejpokgdjoaa
namespace Go.Proofs.Ytmhhejpokgdjoaa
open Go Go.RowKit
set_option linter.unusedVariables false
set_option linter.unusedSimpArgs false

def PutPost {d : Nat} (t : Tr (d + 1)) (w : World) (key : Nat) (v : V) (e : Ending) (w' : World) : Prop :=
  e = .returned (t.put w.heap.size key v).ptr ∧ (t.put w.heap.size key v).at w' ∧ Below w.heap.size w w' ∧ w'.heap.size = w.heap.size + 2 * (d + 1)
theorem info_node : (Try.prog.info? 133).map (·.size) = some 32 := by kernel_rfl
theorem und_node : Try.prog.underlying 133 = Try.prog.underlying 133 := rfl
/-- What the end of 'with' comes to, at the lowest level. -/
theorem put0_end {t : Tr 1} {key : Nat} {v : V} {w W : World} (ht : t.at w) (h0 : Holds W w.heap.size (vCells v)) (h1 : Holds W (w.heap.size + 1) (nodeCells t.kid)) (hb : Below w.heap.size w W) (hs : W.heap.size = w.heap.size + 2) :
    PutPost t w key v (.returned (.pointer (some ⟨w.heap.size + 1, 0, none⟩))) (W.setCell ⟨w.heap.size + 1, 16 + dg key 0, none⟩ (.pointer (some ⟨w.heap.size, 0, none⟩))) := by
  have hu := Upd.setCell (w := W) (g := w.heap.size + 1) (i := 16 + dg key 0) (.pointer (some ⟨w.heap.size, 0, none⟩))
  have hbb := hb.trans (hu.below (Nat.le_succ _))
  refine ⟨rfl, ⟨?_, fun i => ?_⟩, hbb, by rw [hu.size, hs]⟩
  · have := h1.setCell (i := 16 + dg key 0) (Tr.ptr (Tr.leaf w.heap.size v))
    rw [show dg key 0 = (dF key 0).val from rfl, nodeCells_set_leaf t.kid (dF key 0) (Tr.leaf w.heap.size v)] at this
    exact this
  · by_cases hi : i = dF key 0
    · simp only [hi, if_true]
      exact h0.upd hu (by omega)
    · simp only [hi, if_false]
      exact Tr.at_ext hbb (Tr.at_kid ht i)
set_option maxRecDepth 100000 in
set_option maxHeartbeats 400000 in
theorem with0 (t : Tr 1) (key : Nat) (v : V) (w : World) (ht : t.at w) (hk : key < 4294967296) :
    Calls Try.prog 46 #[t.ptr, .int .i64 7, .int .u32 key, .agg #[.int .i64 v.k, .int .i64 v.n]] w (PutPost t w key v) := by
  have hdig := dg_lt key 0
  have HT : Hid (t.at w) := ht
  clear ht
  obtain ⟨k0, hk0⟩ : ∃ k0, k0 = dF key 0 := ⟨_, rfl⟩
  have hkv : k0.val = dg key 0 := by rw [hk0]; rfl
  have HK0 := Lib.hid hk0
  cases t with
  | none =>
    clear hk0
    rw [Tr.ptr_none]
    go_enter Try.func46, Try.ntmps46
    go_wp2_with (first | (refine wpList_box_abs rfl 133 _ rfl (nodeCells (d := 0) fun _ => Tr.nil) (congrArg Value.agg nodeCells_lit).symm ?_; intro W hW hB hS; simp only [World.size_alloc] at hW hS; have hc := Holds.cell hW (leaf_cell (fun _ => Tr.nil) k0); rw [hkv] at hc; have hf := Holds.free hW (16 + dg key 0)) | (go_at_call 66; refine (digit_any key 0 _ _ (by omega) (by omega) hk).mono ?_; rintro e w' ⟨rfl, rfl⟩))
    go_returns
    exact put0_end HT.out ((Holds.alloc w (vCells v) _).ext hB) hW (((Below.refl _ _).alloc (Nat.le_refl _) _).trans (hB.mono (by simp))) hS
  | some p =>
    obtain ⟨bn, f⟩ := p
    have hbn := HT.out.1.lt
    have hnode := Lib.hid HT.out.1
    clear hk0
    rw [Tr.ptr_some]
    go_enter Try.func46, Try.ntmps46
    go_wp2_with (first | (refine wpList_box_abs rfl 133 _ rfl (nodeCells (d := 0) fun _ => Tr.nil) (congrArg Value.agg nodeCells_lit).symm ?_; intro W hW hB hS; simp only [World.size_alloc] at hW hS) | (refine wpList_load_abs rfl 133 _ rfl bn rfl (nodeCells f) ((hnode.out.ext ((Below.refl _ _).alloc (Nat.le_refl _) _)).ext (by assumption)) _ rfl rfl info_node ?_) | (refine wpList_store_abs rfl 133 _ _ rfl (w.heap.size + 1) _ (nodeCells f) rfl rfl (by assumption) info_node (by simp [nodeCells_length]) (nodeCells_one f) ?_; intro W2 hW2 hU; have hc := Holds.cell hW2 (leaf_cell f k0); rw [hkv] at hc; have hf := Holds.free hW2 (16 + dg key 0)) | (go_at_call 66; refine (digit_any key 0 _ _ (by omega) (by omega) hk).mono ?_; rintro e w' ⟨rfl, rfl⟩))
    go_returns
    exact put0_end HT.out (((Holds.alloc w (vCells v) _).ext hB).upd hU (by omega)) hW2 ((((Below.refl _ _).alloc (Nat.le_refl _) _).trans (hB.mono (by simp))).trans (hU.below (by omega))) (hU.size.trans hS)
theorem putS_end {d : Nat} {t : Tr (d + 2)} {key : Nat} {v : V} {w W : World} {k0 : Fin 16} (hk0 : k0 = dF key (d + 1)) (ht : t.at w) (h1 : Holds W (w.heap.size + 1) (nodeCells t.kid)) (hb : Below w.heap.size w W) (hs : W.heap.size = w.heap.size + 2 + 2 * (d + 1))
    (hn : ((t.kid k0).put (w.heap.size + 2) key v).at W) :
    PutPost t w key v (.returned (.pointer (some ⟨w.heap.size + 1, 0, none⟩))) (W.setCell ⟨w.heap.size + 1, dg key (d + 1), none⟩ ((t.kid k0).put (w.heap.size + 2) key v).ptr) := by
  subst hk0
  have hu := Upd.setCell (w := W) (g := w.heap.size + 1) (i := dg key (d + 1)) ((t.kid (dF key (d + 1))).put (w.heap.size + 2) key v).ptr
  have hbb := hb.trans (hu.below (Nat.le_succ _))
  refine ⟨rfl, ⟨?_, fun i => ?_⟩, hbb, by rw [hu.size, hs]; omega⟩
  · have := h1.setCell (i := dg key (d + 1)) ((t.kid (dF key (d + 1))).put (w.heap.size + 2) key v).ptr
    rw [show dg key (d + 1) = (dF key (d + 1)).val from rfl, nodeCells_set_kid t.kid (dF key (d + 1))] at this
    exact this
  · by_cases hi : i = dF key (d + 1)
    · simp only [hi, if_true]
      exact Tr.at_upd hu hn (Tr.put_all (Tr.all_mono (fun b hb => by omega) (Tr.all_kid (Tr.at_all ht) _)) fun b hb => by omega)
    · simp only [hi, if_false]
      exact Tr.at_ext hbb (Tr.at_kid ht i)
set_option maxRecDepth 100000 in
set_option maxHeartbeats 400000 in
theorem withS {d : Nat} (ih : ∀ (t : Tr (d + 1)) (lv : Int) (key : Nat) (v : V) (w : World), lv + d = 7 → 0 ≤ lv → t.at w → key < 4294967296 →
      Calls Try.prog 46 #[t.ptr, .int .i64 lv, .int .u32 key, .agg #[.int .i64 v.k, .int .i64 v.n]] w (PutPost t w key v))
    (t : Tr (d + 2)) (lv : Int) (key : Nat) (v : V) (w : World) (hlv : lv + (d + 1) = 7) (hl0 : 0 ≤ lv) (ht : t.at w) (hk : key < 4294967296) :
    Calls Try.prog 46 #[t.ptr, .int .i64 lv, .int .u32 key, .agg #[.int .i64 v.k, .int .i64 v.n]] w (PutPost t w key v) := by
  have hdig := dg_lt key (d + 1)
  have HT : Hid (t.at w) := ht
  clear ht
  have h7 : (lv == 7) = false := by simp; omega
  have hl6 : lv ≤ 6 := by omega
  have HL := Lib.hid hlv
  clear hlv
  obtain ⟨k0, hk0⟩ : ∃ k0, k0 = dF key (d + 1) := ⟨_, rfl⟩
  have hkv : k0.val = dg key (d + 1) := by rw [hk0]; rfl
  have HK0 := Lib.hid hk0
  clear hk0
  cases t with
  | none =>
    rw [Tr.ptr_none]
    go_enter Try.func46, Try.ntmps46
    go_wp2_with (first | (refine wpList_box_abs rfl 133 _ rfl (nodeCells (d := d + 1) fun _ => Tr.nil) (congrArg Value.agg nodeCells_lit).symm ?_; intro W hW hB hS; simp only [World.size_alloc] at hW hS; have hc := Holds.cell hW (kids_cell (fun _ => Tr.nil) k0); rw [hkv] at hc; have hf := Holds.free hW (dg key (d + 1)); have hv := (Holds.alloc w (vCells v) 50).ext hB; have hv0 := hv.cell (i := 0) rfl; have hv1 := hv.cell (i := 1) rfl) | (go_at_call 66; refine (digit_any key (d + 1) _ _ (by have := HL.out; omega) (by have := HL.out; omega) hk).mono ?_; rintro e w' ⟨rfl, rfl⟩))
    refine rgn [0, 1, 2, 3, 4, 5, 6, 7, 8, 9, 10, 11, 13, 14, 12, 15, 16] [9] (by kernel_rfl) ?_
    simp only [pickL, List.getD_cons_zero, List.getD_cons_succ]
    go_wp2_with fail
    refine (ih (Tr.nil) _ key v _ (by have := HL.out; omega) (by omega) trivial hk).mono ?_
    intro e w' hp
    obtain ⟨he, hat, hb2, hs2⟩ := hp
    rw [show W.drew.heap.size = w.heap.size + 2 from hS] at he hat hs2
    change e = .returned (.pointer _) at he
    have hb3 : Below W.heap.size W w' := below_of_drew hb2
    subst he
    have hW3 := hW.ext hb3
    have hc3 := Holds.cell hW3 (kids_cell (fun _ => Tr.nil) k0)
    have hf3 := Holds.free hW3 (dg key (d + 1))
    rw [hkv] at hc3
    have HS2 := Lib.hid hs2
    clear hs2
    go_wp2
    refine ⟨rfl, ?_⟩
    go_wp2
    go_returns
    exact putS_end (k0 := k0) (t := none) HK0.out HT.out hW3 (((((Below.refl _ _).alloc (Nat.le_refl _) _).trans (hB.mono (by simp))).trans (hb3.mono (by omega)))) HS2.out hat
  | some p =>
    obtain ⟨bn, f⟩ := p
    have hbn := HT.out.1.lt
    have hnode := Lib.hid HT.out.1
    have hkid := Lib.hid (HT.out.2 k0)
    rw [Tr.ptr_some]
    go_enter Try.func46, Try.ntmps46
    go_wp2_with (first | (refine wpList_box_abs rfl 133 _ rfl (nodeCells (d := d + 1) fun _ => Tr.nil) (congrArg Value.agg nodeCells_lit).symm ?_; intro W hW hB hS; simp only [World.size_alloc] at hW hS) | (refine wpList_load_abs rfl 133 _ rfl bn rfl (nodeCells f) ((hnode.out.ext ((Below.refl _ _).alloc (Nat.le_refl _) _)).ext (by assumption)) _ rfl rfl info_node ?_) | (refine wpList_store_abs rfl 133 _ _ rfl (w.heap.size + 1) _ (nodeCells f) rfl rfl (by assumption) info_node (by simp [nodeCells_length]) (nodeCells_one f) ?_; intro W2 hW2 hU; have hS2 := hU.size.trans hS; have hc := Holds.cell hW2 (kids_cell f k0); rw [hkv] at hc; have hf := Holds.free hW2 (dg key (d + 1)); have hv := ((Holds.alloc w (vCells v) 50).ext hB).upd hU (by omega); have hv0 := hv.cell (i := 0) rfl; have hv1 := hv.cell (i := 1) rfl; have hB2 := (((Below.refl w.heap.size w).alloc (Nat.le_refl _) (.cells (vCells v).toArray 50)).trans (hB.mono (by simp))).trans (hU.below (by omega)); clear hS) | (go_at_call 66; refine (digit_any key (d + 1) _ _ (by have := HL.out; omega) (by have := HL.out; omega) hk).mono ?_; rintro e w' ⟨rfl, rfl⟩))
    refine rgn [0, 1, 2, 3, 4, 5, 6, 7, 8, 9, 10, 11, 13, 14, 12, 15, 16] [9] (by kernel_rfl) ?_
    simp only [pickL, List.getD_cons_zero, List.getD_cons_succ]
    go_wp2_with fail
    refine (ih (f k0) _ key v _ (by have := HL.out; omega) (by omega) (Tr.at_ext hB2.drew hkid.out) hk).mono ?_
    intro e w' hp
    obtain ⟨he, hat, hb2, hs2⟩ := hp
    rw [show W2.drew.heap.size = w.heap.size + 2 from hS2] at he hat hs2
    change e = .returned (.pointer _) at he
    have hb3 : Below W2.heap.size W2 w' := below_of_drew hb2
    subst he
    have hW3 := hW2.ext hb3
    have hc3 := Holds.cell hW3 (kids_cell f k0)
    have hf3 := Holds.free hW3 (dg key (d + 1))
    rw [hkv] at hc3
    have HS2 := Lib.hid hs2
    clear hs2
    go_wp2
    refine ⟨rfl, ?_⟩
    go_wp2
    go_returns
    exact putS_end (k0 := k0) (t := some (bn, f)) HK0.out HT.out hW3 (hB2.trans (hb3.mono (by omega))) HS2.out hat
theorem with_any : ∀ (d : Nat) (t : Tr (d + 1)) (lv : Int) (key : Nat) (v : V) (w : World), lv + d = 7 → 0 ≤ lv → t.at w → key < 4294967296 →
    Calls Try.prog 46 #[t.ptr, .int .i64 lv, .int .u32 key, .agg #[.int .i64 v.k, .int .i64 v.n]] w (PutPost t w key v)
  | 0, t, lv, key, v, w, h1, h2, h3, h4 => by
    obtain rfl : lv = 7 := by omega
    exact with0 t key v w h3 h4
  | d + 1, t, lv, key, v, w, h1, h2, h3, h4 => withS (with_any d) t lv key v w (by omega) h2 h3 h4
end Go.Proofs.Ytmhhejpokgdjoaa
namespace Go.Proofs.Ytmhhejpokgdjoaa
open Go Go.RowKit
set_option linter.unusedVariables false
set_option linter.unusedSimpArgs false

def DropPost {d : Nat} (t : Tr (d + 1)) (w : World) (key : Nat) (e : Ending) (w' : World) : Prop :=
  e = .returned (t.drop w.heap.size key).ptr ∧ (t.drop w.heap.size key).at w' ∧ Below w.heap.size w w' ∧ w'.heap.size = w.heap.size + (d + 1)
theorem nilP_ptr {d : Nat} (t : Tr d) : nilP t.ptr = t.blk.isNone := by
  unfold Tr.ptr ptrOf; cases t.blk <;> rfl
theorem all_map (f : Fin 16 → Bool) : ((List.finRange 16).map f).all id = decide (∀ i, f i = true) := by
  rw [Bool.eq_iff_iff]; simp
theorem half_nil {d : Nat} (f : Fin 16 → Tr d) : ((nodeCells f).take 16).all nilP = true ∧ (((nodeCells f).drop 16).take 16).all nilP = true ↔ ∀ i, (f i).blk = none := by
  have hk : ((List.finRange 16).map fun i => (f i).ptr).all nilP = true ↔ ∀ i, (f i).blk = none := by
    simp only [List.all_eq_true, List.mem_map, List.mem_finRange, true_and, forall_exists_index, forall_apply_eq_imp_iff, nilP_ptr, Option.isNone_iff_eq_none]
  have hr : (List.replicate 16 (Value.pointer none)).all nilP = true := rfl
  unfold nodeCells
  split
  · rw [List.take_left' (by simp), List.drop_left' (by simp), List.take_of_length_le (by simp)]
    simp only [hr, true_and, hk]
  · rw [List.take_left' (by simp), List.drop_left' (by simp), List.take_of_length_le (by simp)]
    simp only [hr, and_true, hk]
theorem half_ptr {d : Nat} (f : Fin 16 → Tr d) (k n : Nat) : ∀ v ∈ ((nodeCells f).drop k).take n, ∃ o, v = .pointer o := by
  intro v hv
  have := List.mem_of_mem_drop (List.mem_of_mem_take hv)
  unfold nodeCells at this
  split at this <;> simp only [List.mem_append, List.mem_map, List.mem_replicate] at this <;> rcases this with h | h <;>
    first | (obtain ⟨_, _, rfl⟩ := h; exact ⟨_, rfl⟩) | exact ⟨_, h.2⟩
theorem half_len {d : Nat} (f : Fin 16 → Tr d) (k : Nat) (hk : k ≤ 16) : (((nodeCells f).drop k).take 16).length = 16 := by simp [nodeCells_length]; omega
theorem info_kids : (Try.prog.info? 130).map (·.size) = some 16 := by kernel_rfl
theorem info_leaf : (Try.prog.info? 131).map (·.size) = some 16 := by kernel_rfl
theorem info_pn : (Try.prog.info? 97).map (·.size) = some 1 := by kernel_rfl
theorem info_pv : (Try.prog.info? 129).map (·.size) = some 1 := by kernel_rfl
theorem eqg_kids : Try.prog.eqGuardType Try.prog.depth 130 = false := by kernel_rfl
theorem eqg_leaf : Try.prog.eqGuardType Try.prog.depth 131 = false := by kernel_rfl
theorem und_kids : Try.prog.underlying 130 = some (.array 16 97) := by kernel_rfl
theorem und_leaf : Try.prog.underlying 131 = some (.array 16 129) := by kernel_rfl
theorem und_pn : Try.prog.underlying 97 = some (.pointer 133) := by kernel_rfl
theorem und_pv : Try.prog.underlying 129 = some (.pointer 50) := by kernel_rfl
/-- What the end comes to, the node's block holding F's cells. -/
theorem drop_end {d : Nat} {t : Tr (d + 1)} {key : Nat} {w W : World} {F : Fin 16 → Tr d} (hF : t.drop w.heap.size key = mkNode w.heap.size F) (hW : Holds W w.heap.size (nodeCells F)) (hk : ∀ i, (F i).at W) (hb : Below w.heap.size w W) (hs : W.heap.size = w.heap.size + (d + 1)) :
    ((∀ i, (F i).blk = none) → DropPost t w key (.returned (.pointer none)) W) ∧ ((¬ ∀ i, (F i).blk = none) → DropPost t w key (.returned (.pointer (some ⟨w.heap.size, 0, none⟩))) W) := by
  constructor
  · intro h
    have e : t.drop w.heap.size key = Tr.nil := by rw [hF, mkNode_nil h]
    exact ⟨by rw [e]; rfl, by rw [e]; trivial, hb, hs⟩
  · intro h
    have e : t.drop w.heap.size key = Tr.node w.heap.size F := by rw [hF, mkNode_node h]
    exact ⟨by rw [e]; rfl, by rw [e]; exact ⟨hW, hk⟩, hb, hs⟩
def upd {d : Nat} (f : Fin 16 → Tr d) (k : Fin 16) (x : Tr d) : Fin 16 → Tr d := fun j => if j = k then x else f j
theorem set_leaf {W : World} {g key : Nat} {f : Fin 16 → Tr 0} (h : Holds W g (nodeCells f)) : Holds (W.setCell ⟨g, 16 + dg key 0, none⟩ (.pointer none)) g (nodeCells (upd f (dF key 0) Tr.nil)) := by
  have := h.setCell (i := 16 + dg key 0) (Tr.ptr (Tr.nil : Tr 0))
  rw [show dg key 0 = (dF key 0).val from rfl, nodeCells_set_leaf f (dF key 0) Tr.nil] at this
  exact this
theorem set_kid {W : World} {g key d : Nat} {f : Fin 16 → Tr (d + 1)} {x : Tr (d + 1)} {p : Option Addr} (hp : x.ptr = .pointer p) (h : Holds W g (nodeCells f)) : Holds (W.setCell ⟨g, dg key (d + 1), none⟩ (.pointer p)) g (nodeCells (upd f (dF key (d + 1)) x)) := by
  have := h.setCell (i := dg key (d + 1)) x.ptr
  rw [show dg key (d + 1) = (dF key (d + 1)).val from rfl, nodeCells_set_kid f (dF key (d + 1)) x] at this
  rw [hp] at this
  exact this
end Go.Proofs.Ytmhhejpokgdjoaa
namespace Go.Proofs.Ytmhhejpokgdjoaa
open Go Go.RowKit
set_option linter.unusedVariables false
set_option linter.unusedSimpArgs false

/-- Block b is a map with the tree t and n keys. -/
structure MapAt (w : World) (b : Nat) (t : Tr 8) (n : Nat) : Prop where
  map : Holds w b (t.mapCells n)
  tree : t.at w
theorem MapAt.ext {w w' : World} {b n : Nat} {t : Tr 8} (h : MapAt w b t n) (hb : Below w.heap.size w w') : MapAt w' b t n := ⟨h.map.ext hb, Tr.at_ext hb h.tree⟩
/-- Put: the map as it is, if the value is there; else a new one. -/
def PutMap (b n : Nat) (t : Tr 8) (key : Nat) (v : V) (w : World) (e : Ending) (w' : World) : Prop :=
  Below w.heap.size w w' ∧
  if t.get key = some v then e = .returned (.pointer (some ⟨b, 0, none⟩))
  else ∃ b' B, w.heap.size ≤ B ∧ w.heap.size ≤ b' ∧ e = .returned (.pointer (some ⟨b', 0, none⟩)) ∧ MapAt w' b' (t.put B key v) (if (t.get key).isSome then n else n + 1)
set_option maxRecDepth 100000 in
set_option maxHeartbeats 800000 in
theorem put_any (b n key : Nat) (t : Tr 8) (v : V) (w : World) (h : MapAt w b t n) (hn : n ≤ 4294967296) (hk : key < 4294967296) :
    Calls Try.prog 23 #[.pointer (some ⟨b, 0, none⟩), .int .u32 key, .agg #[.int .i64 v.k, .int .i64 v.n]] w (PutMap b n t key v w) := by
  have hlt := h.map.lt
  have h0 := h.map.cell (i := 0) rfl
  have h1 := h.map.cell (i := 1) rfl
  cases hgk : t.get key with
  | none =>
    have HGK := Lib.hid hgk
    go_enter Try.func23, Try.ntmps23
    go_wp2_with fail
    refine (get_any b n key t _ (h.map.ext ((Below.refl _ _).alloc (Nat.le_refl _) _)) (Tr.at_ext ((Below.refl _ _).alloc (Nat.le_refl _) _) h.tree) hk).mono ?_
    rintro e w' ⟨rfl, hb⟩
    have hbox := (Holds.alloc w (vCells v) 50).ext hb
    have hb0 : Below w.heap.size w w' := ((Below.refl _ _).alloc (Nat.le_refl _) _).trans (hb.mono (by simp))
    go_wp2
    refine cutW (fun W => Below w.heap.size w W ∧ Holds W w.heap.size (vCells v)) ⟨?_, hbox.ext ((Below.refl _ _).alloc (Nat.le_refl _) _)⟩ ?_
    · (repeat' (first | (with_reducible exact Below.refl _ _) | (with_reducible assumption) | (with_reducible refine below_drewN ?_ _) | (with_reducible refine Below.drew ?_) | (with_reducible refine Below.alloc ?_ ?_ _) | (with_reducible refine Below.setCell ?_ ?_ _) | (with_reducible exact Below.size (by assumption)) | go_size))
    rintro W ⟨hB, hv⟩
    clear hbox hb hb0 h0 h1
    have hv0 := hv.cell (i := 0) rfl
    have hv1 := hv.cell (i := 1) rfl
    have hlt0 := hv.lt
    have hM := h.ext hB
    have h0 := hM.map.cell (i := 0) rfl
    have h1 := hM.map.cell (i := 1) rfl
    have hltW := hM.map.lt
    refine rgnH [[0, 1, 2, 3, 4, 5, 7, 8, 9, 10, 6], [11, 12], [13]] [] [10] [⟨b, 1, none⟩] (by kernel_rfl) (by simp) ?_ ?_
    · intro p hp
      simp only [List.mem_singleton] at hp
      subst hp
      rw [h1]; rfl
    unfold seg
    simp only [pickL, List.getD_cons_zero, List.getD_cons_succ]
    go_wp2_with fail
    refine (with_any 7 t 0 key v _ (by omega) (by omega) (Tr.at_ext hB.drew h.tree) hk).mono ?_
    intro e w2 hp
    obtain ⟨he, hat, hb2, hs2⟩ := hp
    have hxp : (t.put W.drew.heap.size key v).ptr = .pointer ((t.put W.drew.heap.size key v).blk.map fun b => ⟨b, 0, none⟩) := rfl
    rw [hxp] at he
    have hb3 : Below W.heap.size W w2 := below_of_drew hb2
    subst he
    go_wp2
    refine ⟨?_, ?_⟩
    · intro p hp
      simp only [List.mem_singleton] at hp
      subst hp
      exact hb3.cell hltW
    unfold seg
    simp only [pickL, List.getD_cons_zero, List.getD_cons_succ]
    go_wp2
    refine ⟨?_, ?_⟩
    · intro p hp
      simp only [List.mem_singleton] at hp
      subst hp
      exact (((Below.refl _ _).alloc (Nat.le_refl _) _).cell (by have := hb3.size; simp at this ⊢; omega)).trans (hb3.cell hltW)
    unfold seg
    simp only [pickL, List.getD_cons_zero, List.getD_cons_succ]
    go_wp2
    refine ⟨?_, rfl, ⟨.inl rfl, trivial⟩, ?_⟩
    · intro p hp
      simp only [List.mem_singleton] at hp
      subst hp
      exact (((Below.refl _ _).alloc (Nat.le_refl _) _).cell (by have := hb3.size; simp at this ⊢; omega)).trans (hb3.cell hltW)
    go_wp2
    go_returns
    refine ⟨?_, ?_⟩
    · (repeat' (first | (with_reducible exact Below.refl _ _) | (with_reducible assumption) | (with_reducible refine below_drewN ?_ _) | (with_reducible refine Below.drew ?_) | (with_reducible refine Below.alloc ?_ ?_ _) | (with_reducible refine Below.setCell ?_ ?_ _) | (with_reducible exact Below.size (by assumption)) | go_size))
      exact hB.trans (hb3.mono hB.size)
      exact Nat.le_trans hB.size hb3.size
    rw [if_neg (by rw [HGK.out]; simp)]
    refine ⟨w2.heap.size, W.heap.size, hB.size, Nat.le_trans hB.size hb3.size, by rw [hs2]; rfl, ?_, ?_⟩
    · rw [HGK.out]
      exact Holds.alloc w2 [_, _] _
    · exact Tr.at_ext ((Below.refl _ _).alloc (Nat.le_refl _) _) hat
  | some u =>
    have HGK := Lib.hid hgk
    by_cases huv : u = v
    · subst huv
      go_enter Try.func23, Try.ntmps23
      go_wp2_with fail
      refine (get_any b n key t _ (h.map.ext ((Below.refl _ _).alloc (Nat.le_refl _) _)) (Tr.at_ext ((Below.refl _ _).alloc (Nat.le_refl _) _) h.tree) hk).mono ?_
      rintro e w' ⟨rfl, hb⟩
      rw [hgk, show gv (some u) = u from rfl]
      have hbox := (Holds.alloc w (vCells u) 50).ext hb
      have hv0 := hbox.cell (i := 0) rfl
      have hv1 := hbox.cell (i := 1) rfl
      have hlt0 := hbox.lt
      have hb0 : Below w.heap.size w w' := ((Below.refl _ _).alloc (Nat.le_refl _) _).trans (hb.mono (by simp))
      go_wp2
      go_returns
      refine ⟨?_, by rw [if_pos HGK.out]; rfl⟩
      (repeat' (first | (with_reducible exact Below.refl _ _) | (with_reducible assumption) | (with_reducible refine below_drewN ?_ _) | (with_reducible refine Below.drew ?_) | (with_reducible refine Below.alloc ?_ ?_ _) | (with_reducible refine Below.setCell ?_ ?_ _) | (with_reducible exact Below.size (by assumption)) | go_size))
    · have hne : ∀ (x : Bool), (u.k == v.k) = true → (u.n == v.n) = x → x = false := fun x h1 h2 => by
        cases x
        · rfl
        · exact absurd (by cases u; cases v; simp_all) huv
      have HNE := Lib.hid hne
      clear hne
      have hcase : ∀ (bk : Bool), (u.k == v.k) = bk → ∀ bn, (u.n == v.n) = bn → (bk = true → bn = false) → Calls Try.prog 23 #[.pointer (some ⟨b, 0, none⟩), .int .u32 key, .agg #[.int .i64 v.k, .int .i64 v.n]] w (PutMap b n t key v w) := by
        intro bk hbk bn hbn himp
        have HI := Lib.hid himp
        clear himp
        cases bk
        all_goals first
          | (obtain rfl := HI.out rfl)
          | skip
        all_goals
          go_enter Try.func23, Try.ntmps23
          go_wp2_with fail
          refine (get_any b n key t _ (h.map.ext ((Below.refl _ _).alloc (Nat.le_refl _) _)) (Tr.at_ext ((Below.refl _ _).alloc (Nat.le_refl _) _) h.tree) hk).mono ?_
          rintro e w' ⟨rfl, hb⟩
          have hbox := (Holds.alloc w (vCells v) 50).ext hb
          have hb0 : Below w.heap.size w w' := ((Below.refl _ _).alloc (Nat.le_refl _) _).trans (hb.mono (by simp))
          rw [hgk, show gv (some u) = u from rfl]
          have hx0 := hbox.cell (i := 0) rfl
          have hx1 := hbox.cell (i := 1) rfl
          have hxl := hbox.lt
          go_wp2
          clear hx0 hx1 hxl
          refine cutW (fun W => Below w.heap.size w W ∧ Holds W w.heap.size (vCells v)) ⟨?_, hbox.ext ((Below.refl _ _).alloc (Nat.le_refl _) _)⟩ ?_
          · (repeat' (first | (with_reducible exact Below.refl _ _) | (with_reducible assumption) | (with_reducible refine below_drewN ?_ _) | (with_reducible refine Below.drew ?_) | (with_reducible refine Below.alloc ?_ ?_ _) | (with_reducible refine Below.setCell ?_ ?_ _) | (with_reducible exact Below.size (by assumption)) | go_size))
          rintro W ⟨hB, hv⟩
          clear hbox hb hb0 h0 h1
          have hv0 := hv.cell (i := 0) rfl
          have hv1 := hv.cell (i := 1) rfl
          have hlt0 := hv.lt
          have hM := h.ext hB
          have h0 := hM.map.cell (i := 0) rfl
          have h1 := hM.map.cell (i := 1) rfl
          have hltW := hM.map.lt
          refine rgnH [[0, 1, 2, 3, 4, 5, 7, 8, 9, 10, 6], [11, 12], [13]] [] [10] [⟨b, 1, none⟩] (by kernel_rfl) (by simp) ?_ ?_
          · intro p hp
            simp only [List.mem_singleton] at hp
            subst hp
            rw [h1]; rfl
          unfold seg
          simp only [pickL, List.getD_cons_zero, List.getD_cons_succ]
          go_wp2_with fail
          refine (with_any 7 t 0 key v _ (by omega) (by omega) (Tr.at_ext hB.drew h.tree) hk).mono ?_
          intro e w2 hp
          obtain ⟨he, hat, hb2, hs2⟩ := hp
          have hxp : (t.put W.drew.heap.size key v).ptr = .pointer ((t.put W.drew.heap.size key v).blk.map fun b => ⟨b, 0, none⟩) := rfl
          rw [hxp] at he
          have hb3 : Below W.heap.size W w2 := below_of_drew hb2
          subst he
          go_wp2
          refine ⟨?_, ?_⟩
          · intro p hp
            simp only [List.mem_singleton] at hp
            subst hp
            exact hb3.cell hltW
          unfold seg
          simp only [pickL, List.getD_cons_zero, List.getD_cons_succ]
          go_wp2
          refine ⟨?_, ?_⟩
          · intro p hp
            simp only [List.mem_singleton] at hp
            subst hp
            exact (((Below.refl _ _).alloc (Nat.le_refl _) _).cell (by have := hb3.size; simp at this ⊢; omega)).trans (hb3.cell hltW)
          unfold seg
          simp only [pickL, List.getD_cons_zero, List.getD_cons_succ]
          go_wp2
          refine ⟨?_, rfl, ⟨.inl rfl, trivial⟩, ?_⟩
          · intro p hp
            simp only [List.mem_singleton] at hp
            subst hp
            exact (((Below.refl _ _).alloc (Nat.le_refl _) _).cell (by have := hb3.size; simp at this ⊢; omega)).trans (hb3.cell hltW)
          go_wp2
          go_returns
          refine ⟨?_, ?_⟩
          · (repeat' (first | (with_reducible exact Below.refl _ _) | (with_reducible assumption) | (with_reducible refine below_drewN ?_ _) | (with_reducible refine Below.drew ?_) | (with_reducible refine Below.alloc ?_ ?_ _) | (with_reducible refine Below.setCell ?_ ?_ _) | (with_reducible exact Below.size (by assumption)) | go_size))
            exact hB.trans (hb3.mono hB.size)
            exact Nat.le_trans hB.size hb3.size
          rw [if_neg (by rw [HGK.out]; simp [huv])]
          refine ⟨w2.heap.size, W.heap.size, hB.size, Nat.le_trans hB.size hb3.size, by rw [hs2]; rfl, ?_, ?_⟩
          · rw [HGK.out]
            exact Holds.alloc w2 [_, _] _
          · exact Tr.at_ext ((Below.refl _ _).alloc (Nat.le_refl _) _) hat

      exact hcase _ rfl _ rfl (fun h => HNE.out _ h rfl)
end Go.Proofs.Ytmhhejpokgdjoaa
namespace Go.Proofs.Ytmhhejpokgdjoaa
open Go Go.RowKit
set_option linter.unusedVariables false
set_option linter.unusedSimpArgs false

def look (l : List (Nat × V)) (k : Nat) : Option V := (l.find? fun e => e.1 == k).map (·.2)
theorem look_mem : ∀ {l : List (Nat × V)} {k : Nat} {v : V}, Srt l → (look l k = some v ↔ (k, v) ∈ l)
  | [], k, v, _ => by simp [look]
  | x :: l, k, v, h => by
    obtain ⟨hx, h'⟩ := List.pairwise_cons.1 h
    obtain ⟨a, u⟩ := x
    by_cases hk : a = k
    · subst hk
      simp only [look, List.find?_cons, beq_self_eq_true, Option.map_some, List.mem_cons, Prod.mk.injEq, true_and]
      constructor
      · intro e; exact .inl (Option.some.inj e).symm
      · rintro (rfl | hm)
        · rfl
        · have := hx _ hm; simp at this
    · have hq : ((a == k) : Bool) = false := by simpa using hk
      have : look ((a, u) :: l) k = look l k := by simp only [look, List.find?_cons, hq]
      rw [this, look_mem h']
      simp only [List.mem_cons, Prod.mk.injEq]
      constructor
      · exact .inr
      · rintro (⟨h1, _⟩ | h1)
        · exact absurd h1.symm hk
        · exact h1
theorem look_ents (t : Tr 8) (k : Nat) (hk : k < 4294967296) : look (t.ents 0) k = t.get k := by
  apply Option.ext
  intro v
  rw [look_mem (Tr.srt t 0), mem_ents0]
  exact ⟨fun h => h.2, fun h => ⟨hk, h⟩⟩
theorem laid_same {l : List (Nat × V)} {k : Nat} {v : V} (hs : Srt l) (h : look l k = some v) : laidL k v false l = l := by
  refine srt_ext (srt_laid k v false hs) hs fun e => ?_
  rw [mem_laid]
  have hm := (look_mem hs).1 h
  constructor
  · rintro (⟨_, rfl⟩ | h)
    · exact hm
    · exact h.1
  · intro he
    by_cases hk : e.1 = k
    · left
      refine ⟨rfl, ?_⟩
      have h2 := (look_mem (k := e.1) (v := e.2) hs).2 he
      rw [hk, h] at h2
      exact Prod.ext hk (Option.some.inj h2).symm
    · exact .inr ⟨he, hk⟩
theorem laid_gone {l : List (Nat × V)} {k : Nat} (v : V) (hs : Srt l) (h : look l k = none) : laidL k v true l = l := by
  refine srt_ext (srt_laid k v true hs) hs fun e => ?_
  rw [mem_laid]
  constructor
  · rintro (⟨h, _⟩ | h)
    · cases h
    · exact h.1
  · intro he
    refine .inr ⟨he, fun hk => ?_⟩
    have h2 := (look_mem (k := e.1) (v := e.2) hs).2 he
    rw [hk, h] at h2; cases h2
theorem laid_len (k : Nat) (v : V) : ∀ (done : Bool) {l : List (Nat × V)}, Srt l → (laidL k v done l).length + (if (look l k).isSome then 1 else 0) = l.length + (if done then 0 else 1)
  | true, [], _ => by simp [laidL, look]
  | false, [], _ => by simp [laidL, look]
  | done, (a, u) :: l, h => by
    obtain ⟨hx, h⟩ := List.pairwise_cons.1 h
    rw [laidL_cons]
    by_cases hk : a = k
    · subst hk
      rw [if_pos rfl]
      have h1 : look ((a, u) :: l) a = some u := by simp [look]
      have h2 : look l a = none := by
        cases hq : look l a with
        | none => rfl
        | some v' => have := hx _ ((look_mem h).1 hq); simp at this
      have ih := laid_len a v done h
      rw [h2] at ih
      rw [h1]
      simp at ih ⊢
      omega
    · have hq : ((a == k) : Bool) = false := by simpa using hk
      have h1 : look ((a, u) :: l) k = look l k := by simp only [look, List.find?_cons, hq]
      rw [if_neg hk, h1]
      split
      · rename_i h2
        have ih := laid_len k v true h
        rw [h2.1]
        simp at ih ⊢
        omega
      · have ih := laid_len k v done h
        simp only [List.length_cons]
        omega

/-- Block b is a map with the entries l. -/
def MapL (w : World) (b : Nat) (l : List (Nat × V)) : Prop := ∃ t : Tr 8, MapAt w b t l.length ∧ t.ents 0 = l
theorem MapL.ext {w w' : World} {b : Nat} {l : List (Nat × V)} (h : MapL w b l) (hb : Below w.heap.size w w') : MapL w' b l := by
  obtain ⟨t, h1, h2⟩ := h
  exact ⟨t, h1.ext hb, h2⟩
theorem MapL.srt {w : World} {b : Nat} {l : List (Nat × V)} (h : MapL w b l) : Srt l := by
  obtain ⟨t, h1, h2⟩ := h
  rw [← h2]; exact Tr.srt t 0
theorem MapL.keys {w : World} {b : Nat} {l : List (Nat × V)} (h : MapL w b l) : ∀ y ∈ l, y.1 < 4294967296 := by
  obtain ⟨t, h1, rfl⟩ := h
  exact fun y hy => (mem_ents0.1 hy).1
theorem MapL.lt {w : World} {b : Nat} {l : List (Nat × V)} (h : MapL w b l) : b < w.heap.size := h.choose_spec.1.map.lt
def ptrV (b : Nat) : Value := .pointer (some ⟨b, 0, none⟩)
theorem empty_l (w : World) : Calls Try.prog 41 #[] w fun e w' => ∃ b, e = .returned (.pointer (some ⟨b, 0, none⟩)) ∧ MapL w' b [] ∧ Below w.heap.size w w' := by
  refine (empty_any w).mono ?_
  rintro e w' ⟨he, h1, h2, _⟩
  exact ⟨_, he, ⟨Tr.nil, ⟨h1, trivial⟩, rfl⟩, h2⟩
theorem put_l (b key : Nat) (l : List (Nat × V)) (v : V) (w : World) (h : MapL w b l) (hn : l.length ≤ 1000000) (hk : key < 4294967296) :
    Calls Try.prog 23 #[.pointer (some ⟨b, 0, none⟩), .int .u32 key, .agg #[.int .i64 v.k, .int .i64 v.n]] w fun e w' =>
      ∃ b', e = .returned (.pointer (some ⟨b', 0, none⟩)) ∧ MapL w' b' (laidL key v false l) ∧ Below w.heap.size w w' := by
  have hs := h.srt
  obtain ⟨t, h1, rfl⟩ := h
  refine (put_any b _ key t v w h1 (by omega) hk).mono ?_
  rintro e w' ⟨hb, h⟩
  split at h
  · rename_i hg
    rw [← look_ents t key hk] at hg
    exact ⟨b, h, ⟨t, by rw [laid_same hs hg]; exact h1.ext hb, (laid_same hs hg).symm⟩, hb⟩
  · obtain ⟨b', B, _, _, he, hm⟩ := h
    refine ⟨b', he, ⟨_, ?_, ents_put t B key v hk⟩, hb⟩
    have hl := laid_len key v false hs
    rw [look_ents t key hk] at hl
    rw [show (laidL key v false (t.ents 0)).length = if (t.get key).isSome then (t.ents 0).length else (t.ents 0).length + 1 by split <;> simp_all <;> omega]
    exact hm
theorem get_l (b key : Nat) (l : List (Nat × V)) (w : World) (h : MapL w b l) (hk : key < 4294967296) :
    Calls Try.prog 45 #[.pointer (some ⟨b, 0, none⟩), .int .u32 key] w fun e w' =>
      e = .returned (.tuple #[.agg #[.int .i64 (gv (look l key)).k, .int .i64 (gv (look l key)).n], .bool (look l key).isSome]) ∧ Below w.heap.size w w' := by
  obtain ⟨t, h1, rfl⟩ := h
  rw [look_ents t key hk]
  exact get_any b _ key t w h1.map h1.tree hk
end Go.Proofs.Ytmhhejpokgdjoaa
namespace Go.Proofs.Ytmhhejpokgdjoaa
open Go Go.RowKit
set_option linter.unusedVariables false

theorem look_laid {l : List (Nat × V)} (hs : Srt l) (k : Nat) (v : V) (done : Bool) (q : Nat) : look (laidL k v done l) q = if q = k then (if done then none else some v) else look l q := by
  apply Option.ext
  intro u
  rw [look_mem (srt_laid k v done hs), mem_laid]
  by_cases hq : q = k
  · subst hq
    cases done with
    | true => simp
    | false =>
      simp only [true_and, if_true, Bool.false_eq_true, if_false, Option.some.injEq, ne_eq, not_true_eq_false, and_false, or_false, Prod.mk.injEq]
      exact eq_comm
  · rw [if_neg hq, look_mem hs]
    constructor
    · rintro (⟨_, h⟩ | h)
      · cases h; exact absurd rfl hq
      · exact h.1
    · intro h
      exact .inr ⟨h, hq⟩
theorem eq_of_look {l m : List (Nat × V)} (hl : Srt l) (hm : Srt m) (h : ∀ q, look l q = look m q) : l = m :=
  srt_ext hl hm fun e => by
    rw [show e = (e.1, e.2) from rfl, ← look_mem hl, ← look_mem hm, h]
theorem look_none {l : List (Nat × V)} (hs : Srt l) {q : Nat} (h : ∀ e ∈ l, e.1 ≠ q) : look l q = none := by
  cases hq : look l q with
  | none => rfl
  | some v => exact absurd rfl (h _ ((look_mem hs).1 hq))
end Go.Proofs.Ytmhhejpokgdjoaa
namespace Go.Proofs.Ytmhhejpokgdjoaa
open Go Go.RowKit
set_option linter.unusedVariables false
set_option linter.unusedSimpArgs false
attribute [local go_sem] Oper.semAt_some

def encE (e : Nat × V) : Array Value := #[.int .u32 (e.1 : Nat), .agg #[.int .i64 e.2.k, .int .i64 e.2.n]]
/-- What a walk over es comes to, when pre has been given. -/
def Went {α : Type} (Inv Brk : List α → World → Prop) (pre es : List α) (e : Ending) (w' : World) : Prop :=
  (e = .returned (.bool true) ∧ Inv (pre ++ es) w') ∨ (e = .returned (.bool false) ∧ ∃ p x q, es = p ++ x :: q ∧ Brk (pre ++ p ++ [x]) w')
set_option maxRecDepth 100000 in
set_option maxHeartbeats 800000 in
theorem walk0 (Y : Value) (xs : List (Nat × V)) (Inv Brk : List (Nat × V) → World → Prop) (hY : Yd Try.prog Y encE xs Inv Brk) (bn : Nat) (f : Fin 16 → Tr 0) (head low : Nat) (pre post : List (Nat × V)) (w : World)
    (hI : ∀ pre W, Inv pre W → Tr.at (d := 1) W (some (bn, f))) (hx : xs = pre ++ fromL low (Tr.ents (d := 1) (some (bn, f)) head) ++ post) (hh : head + 16 ≤ 4294967296) (hl : low < 4294967296) (h0 : Inv pre w) :
    Calls Try.prog 77 #[.pointer (some ⟨bn, 0, none⟩), .int .i64 7, .int .u32 head, .int .u32 low, Y] w (Went Inv Brk pre (fromL low (Tr.ents (d := 1) (some (bn, f)) head))) := by
  refine (callsIn_wide (n := 0)).1 (callsIn_of_wp Try.func77 rfl trivial ?_)
  simp only [Try.ntmps77, List.size_toArray, List.length_cons, List.length_nil, Nat.reduceAdd, Nat.reduceSub, Array.replicate_succ, Array.replicate_zero, List.push_toArray, List.append_toArray, List.nil_append, List.cons_append]
  gi_wp2
  gi_loopw [21] (fun i wr => ∃ k : Nat, k ≤ 16 ∧ i = .int .i64 (k : Int) ∧ Inv (pre ++ fromL low (entsK f head k)) wr) (fun i _ => 16 - (intOf i).toNat)
  case atStart => exact ⟨0, by omega, rfl, by rw [entsK_zero]; simpa [fromL] using h0⟩
  case round =>
    obtain ⟨k, hk, rfl, hIk⟩ := hrel
    by_cases hk16 : k < 16
    · have hkE := entsK_succ f head k hk16
      rw [Nat.pow_zero, Nat.mul_one] at hkE
      by_cases hlo : head + k < low
      · have hnil : fromL low (entsK f head (k + 1)) = fromL low (entsK f head k) := by
          rw [hkE, fromL_append, fromL_none (by simp; omega), List.append_nil]
        have HN := Lib.hid hnil
        have HX := Lib.hid hx
        clear hnil hkE hx
        gi_wp2
        go_roundw
        case rel => exact ⟨k + 1, by omega, by go_num, by rw [HN.out]; exact hIk⟩
        case measure => simp [intOf]; omega
      · have hat := hI _ _ hIk
        have hc := hat.1.cell (leaf_cell f ⟨k, hk16⟩)
        have hav := hat.2 ⟨k, hk16⟩
        obtain ⟨q, hes⟩ := ents_split bn f head low k hk16
        rw [Nat.pow_zero, Nat.mul_one] at hes
        have hxs : xs = pre ++ fromL low (entsK f head k) ++ fromL low ((f ⟨k, hk16⟩).ents (head + k)) ++ (q ++ post) := by
          rw [hx, hes]; simp only [List.append_assoc]
        have HES := Lib.hid hes
        clear hes
        dsimp only at hc
        generalize f ⟨k, hk16⟩ = leaf at *
        have HX := Lib.hid hx
        have HK := Lib.hid hkE
        clear hx hkE
        cases leaf with
        | none =>
          have hp : Tr.ptr (d := 0) none = .pointer none := rfl
          rw [hp] at hc
          clear hp hxs
          gi_wp2
          refine ⟨fun _ h => (by cases h), ?_⟩
          gi_wp2
          go_roundw
          case rel => exact ⟨k + 1, by omega, by go_num, by rw [HK.out, fromL_append]; simpa [fromL, Tr.ents] using hIk⟩
          case measure => simp [intOf]; omega
        | some p =>
          obtain ⟨bv, v⟩ := p
          have hp : Tr.ptr (d := 0) (some (bv, v)) = .pointer (some ⟨bv, 0, none⟩) := rfl
          rw [hp] at hc
          have hv0 := Holds.cell hav (i := 0) rfl
          have hv1 := Holds.cell hav (i := 1) rfl
          have he : fromL low (Tr.ents (d := 0) (some (bv, v)) (head + k)) = [(head + k, v)] := by
            show List.filter _ [(head + k, v)] = _
            simp; omega
          rw [he] at hxs
          have hy := hY _ (head + k, v) (q ++ post) (by rw [hxs]; simp) wr hIk
          have HY := Lib.hid hy
          have HE := Lib.hid he
          clear hp hxs he hy
          gi_wp2_with (refine wpListIn_callV (open_wide _) rfl _ _ _ rfl (vs := encE (head + k, v)) rfl (by simp [encE, Act.eval]) ?_; refine HY.out.mono ?_; rintro e W' (⟨rfl, hi⟩ | ⟨rfl, hb⟩))
          · go_roundw
            case rel => exact ⟨k + 1, by omega, by go_num, by rw [HK.out, fromL_append, HE.out, ← List.append_assoc]; exact hi⟩
            case measure => simp [intOf]; omega
          · go_returns
            exact .inr ⟨rfl, fromL low (entsK f head k), (head + k, v), q, by rw [HES.out, HE.out]; simp, hb⟩
    · obtain rfl : k = 16 := by omega
      gi_wp2
      go_returns
      exact .inl ⟨rfl, by rw [← entsK_all]; exact hIk⟩
theorem span_eq (lv d : Nat) (h : lv + (d + 1) = 7) : (2 ^ (28 - 4 * lv) % 4294967296 : Int) = ((16 ^ (d + 1) : Nat) : Int) := by
  have e : 28 - 4 * lv = 4 * (d + 1) := by omega
  have hle : 16 ^ (d + 1) ≤ 16 ^ 7 := Nat.pow_le_pow_right (by decide) (by omega)
  have h7 : (16 : Nat) ^ 7 = 268435456 := by decide
  rw [e, Int.pow_mul]
  have e2 : ((2 : Int) ^ 4) ^ (d + 1) = ((16 ^ (d + 1) : Nat) : Int) := by norm_cast
  rw [e2]
  rw [h7] at hle
  generalize 16 ^ (d + 1) = S at hle ⊢
  omega
set_option maxRecDepth 100000 in
set_option maxHeartbeats 800000 in
theorem walkS {d : Nat} (Y : Value) (xs : List (Nat × V)) (Inv Brk : List (Nat × V) → World → Prop)
    (ih : ∀ (t : Tr (d + 1)) (lv head low : Nat) (pre post : List (Nat × V)) (w : World), lv + d = 7 → (∀ pre W, Inv pre W → t.at W) → xs = pre ++ fromL low (t.ents head) ++ post → head + 16 ^ (d + 1) ≤ 4294967296 → low < 4294967296 → Inv pre w →
      Calls Try.prog 77 #[t.ptr, .int .i64 lv, .int .u32 head, .int .u32 low, Y] w (Went Inv Brk pre (fromL low (t.ents head))))
    (bn : Nat) (f : Fin 16 → Tr (d + 1)) (lv head low : Nat) (pre post : List (Nat × V)) (w : World) (hlv : lv + (d + 1) = 7)
    (hI : ∀ pre W, Inv pre W → Tr.at (d := d + 2) W (some (bn, f))) (hx : xs = pre ++ fromL low (Tr.ents (d := d + 2) (some (bn, f)) head) ++ post) (hh : head + 16 ^ (d + 2) ≤ 4294967296) (hl : low < 4294967296) (h0 : Inv pre w) :
    Calls Try.prog 77 #[.pointer (some ⟨bn, 0, none⟩), .int .i64 lv, .int .u32 head, .int .u32 low, Y] w (Went Inv Brk pre (fromL low (Tr.ents (d := d + 2) (some (bn, f)) head))) := by
  have hl6 : lv ≤ 6 := by omega
  obtain ⟨S, hS⟩ : ∃ S, S = 16 ^ (d + 1) := ⟨_, rfl⟩
  have hS1 : 1 ≤ S := by rw [hS]; exact Nat.one_le_pow _ _ (by decide)
  have h16 : 16 ^ (d + 2) = 16 * S := by rw [hS, Nat.pow_succ, Nat.mul_comm]
  rw [h16] at hh
  have HL := Lib.hid hlv
  have HS := Lib.hid hS
  clear hlv hS h16
  refine (callsIn_wide (n := 0)).1 (callsIn_of_wp Try.func77 rfl trivial ?_)
  simp only [Try.ntmps77, List.size_toArray, List.length_cons, List.length_nil, Nat.reduceAdd, Nat.reduceSub, Array.replicate_succ, Array.replicate_zero, List.push_toArray, List.append_toArray, List.nil_append, List.cons_append]
  gi_wp2
  rw [span_eq lv d HL.out, ← HS.out]
  gi_loopw [21] (fun i wr => ∃ k : Nat, k ≤ 16 ∧ i = .int .i64 (k : Int) ∧ Inv (pre ++ fromL low (entsK f head k)) wr) (fun i _ => 16 - (intOf i).toNat)
  case atStart => exact ⟨0, by omega, rfl, by rw [entsK_zero]; simpa [fromL] using h0⟩
  case round =>
    obtain ⟨k, hk, rfl, hIk⟩ := hrel
    by_cases hk16 : k < 16
    · have hkE := entsK_succ f head k hk16
      rw [← HS.out] at hkE
      obtain ⟨M, hM⟩ : ∃ M, M = k * S := ⟨_, rfl⟩
      have hM16 : M + S ≤ 16 * S := by
        rw [hM]
        have := Nat.mul_le_mul_right S (show k + 1 ≤ 16 by omega)
        rw [Nat.add_mul, Nat.one_mul] at this
        exact this
      have hMi : (k : Int) * (S : Int) = (M : Int) := by rw [hM]; norm_cast
      rw [← hM] at hkE
      by_cases hlo : head + M + (S - 1) < low
      · have hnil : fromL low (entsK f head (k + 1)) = fromL low (entsK f head k) := by
          rw [hkE, fromL_append, fromL_none (by rw [← HS.out]; omega), List.append_nil]
        have HN := Lib.hid hnil
        have HX := Lib.hid hx
        have HM := Lib.hid hM
        clear hnil hkE hx hM
        gi_wp2
        go_roundw
        case rel => exact ⟨k + 1, by omega, by go_num, by rw [HN.out]; exact hIk⟩
        case measure => simp [intOf]; omega
      · have hat := hI _ _ hIk
        have hc := hat.1.cell (kids_cell f ⟨k, hk16⟩)
        obtain ⟨q, hes⟩ := ents_split bn f head low k hk16
        rw [← HS.out, ← hM] at hes
        have hxs : xs = pre ++ fromL low (entsK f head k) ++ fromL low ((f ⟨k, hk16⟩).ents (head + M)) ++ (q ++ post) := by
          rw [hx, hes]; simp only [List.append_assoc]
        have hcall := ih (f ⟨k, hk16⟩) (lv + 1) (head + M) low (pre ++ fromL low (entsK f head k)) (q ++ post) wr (by have := HL.out; omega) (fun pre W h => (hI pre W h).2 ⟨k, hk16⟩) hxs (by rw [← HS.out]; omega) hl hIk
        dsimp only at hc
        generalize f ⟨k, hk16⟩ = kid at *
        have HES := Lib.hid hes
        have HX := Lib.hid hx
        have HK := Lib.hid hkE
        have HM := Lib.hid hM
        have HC := Lib.hid hcall
        clear hx hkE hes hM hxs hcall
        gi_wp2_with (refine ⟨trivial, rfl, ?_⟩; gi_at_call 77; refine (open_wide _).calls (HC.out.mono ?_); rintro e W' (⟨rfl, hi⟩ | ⟨rfl, p, x, qq, hpq, hb⟩))
        · go_roundw
          case rel => exact ⟨k + 1, by omega, by go_num, by rw [HK.out, fromL_append, ← List.append_assoc]; exact hi⟩
          case measure => simp [intOf]; omega
        · go_returns
          refine .inr ⟨rfl, fromL low (entsK f head k) ++ p, x, qq ++ q, ?_, ?_⟩
          · rw [HES.out, hpq]; simp
          · rw [← List.append_assoc]; exact hb
    · obtain rfl : k = 16 := by omega
      gi_wp2
      go_returns
      exact .inl ⟨rfl, by rw [← entsK_all]; exact hIk⟩
theorem walk_any (Y : Value) (xs : List (Nat × V)) (Inv Brk : List (Nat × V) → World → Prop) (hY : Yd Try.prog Y encE xs Inv Brk) : ∀ (d : Nat) (t : Tr (d + 1)) (lv head low : Nat) (pre post : List (Nat × V)) (w : World), lv + d = 7 → (∀ pre W, Inv pre W → t.at W) →
    xs = pre ++ fromL low (t.ents head) ++ post → head + 16 ^ (d + 1) ≤ 4294967296 → low < 4294967296 → Inv pre w → Calls Try.prog 77 #[t.ptr, .int .i64 lv, .int .u32 head, .int .u32 low, Y] w (Went Inv Brk pre (fromL low (t.ents head))) := by
  have hnone : ∀ (d lv head low : Nat) (pre : List (Nat × V)) (w : World), Inv pre w → Calls Try.prog 77 #[.pointer none, .int .i64 lv, .int .u32 head, .int .u32 low, Y] w (Went Inv Brk pre (fromL low (Tr.ents (d := d + 1) none head))) := by
    intro d lv head low pre w h0
    go_enter Try.func77, Try.ntmps77
    go_wp2
    go_returns
    exact .inl ⟨rfl, by rw [Tr.ents_none]; simpa [fromL] using h0⟩
  intro d
  induction d with
  | zero =>
    intro t lv head low pre post w hlv hI hx hh hl h0
    cases t with
    | none => exact hnone 0 lv head low pre w h0
    | some p =>
      obtain ⟨bn, f⟩ := p
      obtain rfl : lv = 7 := by omega
      exact walk0 Y xs Inv Brk hY bn f head low pre post w hI hx (by simpa using hh) hl h0
  | succ d ih =>
    intro t lv head low pre post w hlv hI hx hh hl h0
    cases t with
    | none => exact hnone (d + 1) lv head low pre w h0
    | some p =>
      obtain ⟨bn, f⟩ := p
      exact walkS Y xs Inv Brk ih bn f lv head low pre post w hlv hI hx hh hl h0
end Go.Proofs.Ytmhhejpokgdjoaa
namespace Go.Proofs.Ytmhhejpokgdjoaa
open Go Go.RowKit
set_option linter.unusedVariables false
set_option linter.unusedSimpArgs false

/-- The closure that From makes: its two variables' blocks. -/
def fromV (B1 B2 : Nat) : Value := .func (.func 76) #[] #[.pointer (some ⟨B1, 0, none⟩), .pointer (some ⟨B2, 0, none⟩)]
def FromD (b low : Nat) (t : Tr 8) (B1 B2 : Nat) (W : World) : Prop := Holds W B1 [.pointer (some ⟨b, 0, none⟩)] ∧ Holds W B2 [.int .u32 (low : Nat)] ∧ ∃ n, MapAt W b t n
theorem FromD.ext {b low : Nat} {t : Tr 8} {B1 B2 : Nat} {W W' : World} (h : FromD b low t B1 B2 W) (hb : Below W.heap.size W W') : FromD b low t B1 B2 W' := by
  obtain ⟨h1, h2, n, h3⟩ := h
  exact ⟨h1.ext hb, h2.ext hb, n, h3.ext hb⟩
set_option maxRecDepth 100000 in
theorem from_gives (b low : Nat) (t : Tr 8) (B1 B2 : Nat) (hl : low < 4294967296) : Gives Try.prog (fromV B1 B2) encE (fromL low (t.ents 0)) (FromD b low t B1 B2) := by
  intro Y Inv Brk W hg hD hY h0
  refine callV_func (Go.Proofs.enters_of Try.func76 (by kernel_rfl) rfl) ?_
  obtain ⟨h1, h2, n, h3⟩ := hD _ _ h0
  have hc1 := h1.cell (i := 0) rfl
  have hc2 := h2.cell (i := 0) rfl
  have hc3 := h3.map.cell (i := 0) rfl
  have hw := walk_any Y _ Inv Brk hY 7 t 0 0 low [] [] W.drew (by omega) (fun pre W h => (hD pre W h).2.2.choose_spec.tree) (by simp) (by omega) hl (hg _ _ _ h0 ((Below.refl _ _).drew))
  have HW := Lib.hid hw
  clear hw
  show Calls Try.prog 76 #[Y, .pointer (some ⟨B1, 0, none⟩), .pointer (some ⟨B2, 0, none⟩)] W _
  go_enter Try.func76, Try.ntmps76
  refine rgn [0, 1, 2, 3, 4, 5, 6] [] (by kernel_rfl) ?_
  simp only [pickL, List.getD_cons_zero, List.getD_cons_succ]
  go_wp2_with (go_at_call 77; refine HW.out.mono ?_; rintro e W' (⟨rfl, hi⟩ | ⟨rfl, p, x, q, hpq, hb⟩))
  · refine ⟨rfl, ?_⟩
    go_wp2
    go_returns
    exact ⟨⟨_, rfl⟩, .inl hi⟩
  · refine ⟨rfl, ?_⟩
    go_wp2
    go_returns
    exact ⟨⟨_, rfl⟩, .inr ⟨p, x, q, by simpa using hpq, hb⟩⟩
theorem from_any (b low : Nat) (w : World) : Calls Try.prog 65 #[.pointer (some ⟨b, 0, none⟩), .int .u32 (low : Nat)] w fun e w' =>
    e = .returned (fromV w.heap.size (w.heap.size + 1)) ∧ Below w.heap.size w w' ∧ Holds w' w.heap.size [.pointer (some ⟨b, 0, none⟩)] ∧ Holds w' (w.heap.size + 1) [.int .u32 (low : Nat)] := by
  go_enter Try.func65, Try.ntmps65
  go_wp2
  go_returns
  refine ⟨rfl, ?_, ?_, ?_⟩
  · (repeat' (first | (with_reducible exact Below.refl _ _) | (with_reducible assumption) | (with_reducible refine below_drewN ?_ _) | (with_reducible refine Below.drew ?_) | (with_reducible refine Below.alloc ?_ ?_ _) | (with_reducible refine Below.setCell ?_ ?_ _) | (with_reducible exact Below.size (by assumption)) | go_size))
  · exact (Holds.alloc w [_] _).ext ((Below.refl _ _).alloc (Nat.le_refl _) _)
  · have := Holds.alloc (w.alloc (.cells #[.pointer (some ⟨b, 0, none⟩)] 29)) [.int .u32 (low : Nat)] 48
    simpa using this
theorem all_any (b : Nat) (w : World) : Calls Try.prog 38 #[.pointer (some ⟨b, 0, none⟩)] w fun e w' =>
    e = .returned (fromV w.heap.size (w.heap.size + 1)) ∧ Below w.heap.size w w' ∧ Holds w' w.heap.size [.pointer (some ⟨b, 0, none⟩)] ∧ Holds w' (w.heap.size + 1) [.int .u32 ((0 : Nat) : Int)] := by
  go_enter Try.func38, Try.ntmps38
  go_wp2_with (go_at_call 65; refine (from_any b 0 _).mono ?_; rintro e w' ⟨rfl, h1, h2, h3⟩)
  go_returns
  exact ⟨rfl, h1, h2, h3⟩
end Go.Proofs.Ytmhhejpokgdjoaa
namespace Go.Proofs.Ytmhhejpokgdjoaa
open Go Go.RowKit
set_option linter.unusedVariables false

def sumK (g : Nat → Nat) : Nat → Nat
  | 0 => 0
  | k + 1 => sumK g k + g k
theorem sumK_le {g h : Nat → Nat} : ∀ n : Nat, (∀ i, i < n → g i ≤ h i) → sumK g n ≤ sumK h n
  | 0, _ => Nat.le_refl _
  | n + 1, hh => Nat.add_le_add (sumK_le n fun i hi => hh i (by omega)) (hh n (by omega))
theorem sumK_mono (g : Nat → Nat) {k n : Nat} (h : k ≤ n) : sumK g k ≤ sumK g n := by
  induction n with
  | zero =>
    have : k = 0 := by omega
    subst this
    exact Nat.le_refl _
  | succ n ih =>
    by_cases hk : k = n + 1
    · subst hk; exact Nat.le_refl _
    · exact Nat.le_trans (ih (by omega)) (Nat.le_add_right _ _)
theorem sumK_const (c : Nat) : ∀ n : Nat, sumK (fun _ => c) n = n * c
  | 0 => by simp [sumK]
  | n + 1 => by simp [sumK, sumK_const c n, Nat.add_mul]
theorem sumK_congr {g h : Nat → Nat} (n : Nat) (hh : ∀ i, i < n → g i = h i) : sumK g n = sumK h n :=
  Nat.le_antisymm (sumK_le n fun i hi => Nat.le_of_eq (hh i hi)) (sumK_le n fun i hi => Nat.le_of_eq (hh i hi).symm)
/-- All but one of them are nothing. -/
theorem sumK_one {g : Nat → Nat} (k : Nat) : ∀ n : Nat, k < n → (∀ i, i < n → i ≠ k → g i = 0) → sumK g n = g k
  | n + 1, hk, hz => by
    by_cases h : k = n
    · subst h
      have : sumK g k = 0 := by
        rw [sumK_congr (h := fun _ => 0) k fun i hi => hz i (by omega) (by omega), sumK_const]; omega
      show sumK g k + g k = g k
      omega
    · show sumK g n + g n = g k
      rw [sumK_one k n (by omega) fun i hi => hz i (by omega), hz n (by omega) (by omega)]
      omega
def onF (g : Fin 16 → Nat) (i : Nat) : Nat := if h : i < 16 then g ⟨i, h⟩ else 0
theorem onF_fin (g : Fin 16 → Nat) (i : Fin 16) : onF g i.val = g i := by unfold onF; rw [dif_pos i.isLt]
def Tr.cnt : {d : Nat} → Tr d → Nat
  | 0, _ => 0
  | _ + 1, t => match t with
    | none => 0
    | some (_, f) => 1 + sumK (onF fun i => (f i).cnt) 16
def Tr.fr : {d : Nat} → Tr d → Tr d → Nat
  | 0, _, _ => 0
  | _ + 1, a, b => match b with
    | none => 0
    | some (bb, g) => if Tr.blk a = some bb then 0 else 1 + sumK (onF fun i => (a.kid i).fr (g i)) 16
theorem Tr.cnt_some {d : Nat} (b : Nat) (f : Fin 16 → Tr d) : Tr.cnt (d := d + 1) (some (b, f)) = 1 + sumK (onF fun i => (f i).cnt) 16 := rfl
theorem Tr.fr_none {d : Nat} (a : Tr (d + 1)) : Tr.fr a (none : Tr (d + 1)) = 0 := rfl
theorem Tr.fr_some {d : Nat} (a : Tr (d + 1)) (bb : Nat) (g : Fin 16 → Tr d) : Tr.fr (d := d + 1) a (some (bb, g)) = if Tr.blk a = some bb then 0 else 1 + sumK (onF fun i => (a.kid i).fr (g i)) 16 := rfl
theorem Tr.cnt_lt : ∀ {d : Nat} (t : Tr (d + 1)), t.cnt + 1 ≤ 2 * 16 ^ d
  | d, none => by
    have : 1 ≤ 16 ^ d := Nat.one_le_pow _ _ (by decide)
    show 0 + 1 ≤ _
    omega
  | 0, some (b, f) => by
    rw [Tr.cnt_some, sumK_congr (h := fun _ => 0) 16 (fun i hi => by unfold onF; rw [dif_pos hi]; rfl), sumK_const]
    decide
  | d + 1, some (b, f) => by
    have h1 : sumK (onF fun i => (f i).cnt) 16 ≤ sumK (fun _ => 2 * 16 ^ d - 1) 16 := sumK_le 16 fun i hi => by
      unfold onF; rw [dif_pos hi]
      have := cnt_lt (f ⟨i, hi⟩)
      show (f ⟨i, hi⟩).cnt ≤ _
      omega
    rw [sumK_const] at h1
    have h2 : 1 ≤ 16 ^ d := Nat.one_le_pow _ _ (by decide)
    rw [Tr.cnt_some, Nat.pow_succ]
    omega
theorem Tr.fr_le : ∀ {d : Nat} (a b : Tr d), a.fr b ≤ b.cnt
  | 0, _, _ => Nat.le_refl _
  | d + 1, a, none => Nat.le_refl _
  | d + 1, a, some (bb, g) => by
    rw [Tr.fr_some, Tr.cnt_some]
    split
    · omega
    · have := sumK_le (g := onF fun i => (a.kid i).fr (g i)) (h := onF fun i => (g i).cnt) 16 fun i hi => by
        unfold onF; rw [dif_pos hi, dif_pos hi]
        exact fr_le _ _
      omega
theorem Tr.fr_self : ∀ {d : Nat} (a : Tr d), a.fr a = 0
  | 0, _ => rfl
  | d + 1, none => rfl
  | d + 1, some (bb, g) => if_pos rfl
/-- A Put makes a node at each level. -/
theorem Tr.fr_put : ∀ {d : Nat} (t : Tr (d + 1)) (B key : Nat) (v : V), t.all (· < B) → t.fr (t.put B key v) = d + 1
  | 0, t, B, key, v, h => by
    have hb : ¬ t.blk = some (B + 1) := by
      cases t with
      | none => simp [Tr.blk]
      | some p => intro e; have := h.1; simp [Tr.blk] at e; omega
    show Tr.fr t (some (B + 1, _)) = 1
    rw [Tr.fr_some, if_neg hb, sumK_congr (h := fun _ => 0) 16 (fun i hi => by unfold onF; rw [dif_pos hi]; rfl), sumK_const]
  | d + 1, t, B, key, v, h => by
    have hb : ¬ t.blk = some (B + 1) := by
      cases t with
      | none => simp [Tr.blk]
      | some p => intro e; have := h.1; simp [Tr.blk] at e; omega
    have hkid := Tr.all_kid h (dF key (d + 1))
    have ih := fr_put (t.kid (dF key (d + 1))) (B + 2) key v (Tr.all_mono (fun b hb => by omega) hkid)
    show Tr.fr t (some (B + 1, _)) = d + 1 + 1
    rw [Tr.fr_some, if_neg hb, sumK_one (dF key (d + 1)).val 16 (dF key (d + 1)).isLt]
    · rw [onF_fin, if_pos rfl, ih]; omega
    · intro i hi hne
      unfold onF
      rw [dif_pos hi]
      show (t.kid ⟨i, hi⟩).fr (if (⟨i, hi⟩ : Fin 16) = dF key (d + 1) then _ else t.kid ⟨i, hi⟩) = 0
      rw [if_neg (fun e => hne (congrArg Fin.val e))]
      exact Tr.fr_self _
end Go.Proofs.Ytmhhejpokgdjoaa
namespace Go.Proofs.Ytmhhejpokgdjoaa
open Go Go.RowKit
set_option linter.unusedVariables false

/-- No node is empty. -/
def Tr.Cl : {d : Nat} → Tr d → Prop
  | 0, _ => True
  | _ + 1, t => match t with
    | none => True
    | some (_, f) => (¬ ∀ i, (f i).blk = none) ∧ ∀ i, (f i).Cl
theorem Tr.cl_nil : ∀ {d : Nat}, (Tr.nil : Tr d).Cl
  | 0 => trivial
  | _ + 1 => trivial
theorem Tr.cl_kid {d : Nat} {t : Tr (d + 1)} (h : t.Cl) (i : Fin 16) : (t.kid i).Cl := by
  cases t with
  | none => exact Tr.cl_nil
  | some p => exact h.2 i
theorem Tr.cl_put : ∀ {d : Nat} {t : Tr (d + 1)} (B key : Nat) (v : V), t.Cl → (t.put B key v).Cl
  | 0, t, B, key, v, h => by
    refine ⟨fun hh => ?_, fun i => trivial⟩
    have := hh (dF key 0)
    dsimp only at this
    rw [if_pos rfl] at this
    cases this
  | d + 1, t, B, key, v, h => by
    have ih := Tr.cl_put (B + 2) key v (Tr.cl_kid h (dF key (d + 1)))
    refine ⟨fun hh => ?_, fun i => ?_⟩
    · have := hh (dF key (d + 1))
      dsimp only at this
      rw [if_pos rfl] at this
      cases d <;> cases this
    · show Tr.Cl (if i = dF key (d + 1) then (t.kid (dF key (d + 1))).put (B + 2) key v else t.kid i)
      split
      · exact ih
      · exact Tr.cl_kid h i
theorem cl_mkNode {d B : Nat} {f : Fin 16 → Tr d} (h : ∀ i, (f i).Cl) : (mkNode B f).Cl := by
  by_cases hn : ∀ i, (f i).blk = none
  · rw [mkNode_nil hn]; exact Tr.cl_nil
  · rw [mkNode_node hn]; exact ⟨hn, h⟩
theorem Tr.cl_drop : ∀ {d : Nat} {t : Tr (d + 1)} (B key : Nat), t.Cl → (t.drop B key).Cl
  | 0, t, B, key, h => cl_mkNode fun i => trivial
  | d + 1, t, B, key, h => by
    have ih := Tr.cl_drop (B + 1) key (Tr.cl_kid h (dF key (d + 1)))
    refine cl_mkNode fun i => ?_
    split
    · exact ih
    · exact Tr.cl_kid h i
theorem Tr.cl_ents : ∀ {d : Nat} {t : Tr d} (h : Nat), t.Cl → t.blk ≠ none → t.ents h ≠ []
  | 0, none, h, _, hb => absurd rfl hb
  | 0, some (b, v), h, _, _ => by simp [Tr.ents]
  | d + 1, none, h, _, hb => absurd rfl hb
  | d + 1, some (b, f), h, hc, _ => by
    obtain ⟨hn, hk⟩ := hc
    intro he
    apply hn
    intro i
    have hmem : i ∈ allF := List.mem_finRange i
    cases hb : (f i).blk with
    | none => rfl
    | some x =>
      have h1 := cl_ents (h + i.val * 16 ^ d) (hk i) (by rw [hb]; simp)
      have : (f i).ents (h + i.val * 16 ^ d) = [] := by
        have h2 : allF.flatMap (fun i => (f i).ents (h + i.val * 16 ^ d)) = [] := he
        rw [List.flatMap_eq_nil_iff] at h2
        exact h2 i hmem
      exact absurd this h1
/-- A Drop makes at most a node at each level; none just where nothing is left. -/
theorem Tr.fr_mk {d : Nat} (t : Tr (d + 1)) (B : Nat) (F : Fin 16 → Tr d) (ht : t.all (· < B)) (n : Nat) (hF : sumK (onF fun i => (t.kid i).fr (F i)) 16 ≤ n) :
    t.fr (mkNode B F) ≤ n + 1 ∧ (0 < t.fr (mkNode B F) ↔ 0 < (mkNode B F).cnt) := by
  by_cases hn : ∀ i, (F i).blk = none
  · rw [mkNode_nil hn]
    exact ⟨Nat.zero_le _, Iff.rfl⟩
  · rw [mkNode_node hn]
    have hb : ¬ t.blk = some B := by
      cases t with
      | none => simp [Tr.blk]
      | some p => intro e; have := ht.1; simp [Tr.blk] at e; omega
    have e1 : t.fr (Tr.node B F) = 1 + sumK (onF fun i => (t.kid i).fr (F i)) 16 := if_neg hb
    have e2 : (Tr.node B F).cnt = 1 + sumK (onF fun i => (F i).cnt) 16 := rfl
    rw [e1, e2]
    omega
theorem Tr.fr_drop : ∀ {d : Nat} (t : Tr (d + 1)) (B key : Nat), t.all (· < B) → t.fr (t.drop B key) ≤ d + 1 ∧ (0 < t.fr (t.drop B key) ↔ 0 < (t.drop B key).cnt)
  | 0, t, B, key, h => by
    refine Tr.fr_mk t B _ h 0 ?_
    rw [sumK_congr (h := fun _ => 0) 16 (fun i hi => by unfold onF; rw [dif_pos hi]; rfl), sumK_const]
    omega
  | d + 1, t, B, key, h => by
    have ih := (fr_drop (t.kid (dF key (d + 1))) (B + 1) key (Tr.all_mono (fun b hb => by omega) (Tr.all_kid h (dF key (d + 1))))).1
    refine Tr.fr_mk t B _ h (d + 1) ?_
    rw [sumK_one (dF key (d + 1)).val 16 (dF key (d + 1)).isLt]
    · rw [onF_fin, if_pos rfl]; exact ih
    · intro i hi hne
      unfold onF
      rw [dif_pos hi]
      show (t.kid ⟨i, hi⟩).fr (if (⟨i, hi⟩ : Fin 16) = dF key (d + 1) then _ else t.kid ⟨i, hi⟩) = 0
      rw [if_neg (fun e => hne (congrArg Fin.val e))]
      exact Tr.fr_self _
/-! ### The nodes that a list of rising keys asks for -/
/-- At how many of the lowest d levels a key parts from the one ahead of it. -/
def parts (d : Nat) (prev : Option Nat) (x : Nat) : Nat := match prev with
  | none => d
  | some p => sumK (fun j => if p / 16 ^ (j + 1) = x / 16 ^ (j + 1) then 0 else 1) d
def asks (d : Nat) : Option Nat → List Nat → Nat
  | _, [] => 0
  | prev, x :: l => parts d prev x + asks d (some x) l
theorem asks_append (d : Nat) : ∀ (prev : Option Nat) (l m : List Nat), asks d prev (l ++ m) = asks d prev l + asks d (match l.getLast? with | some x => some x | none => prev) m
  | prev, [], m => by simp [asks]
  | prev, x :: l, m => by
    show parts d prev x + asks d (some x) (l ++ m) = parts d prev x + asks d (some x) l + _
    rw [asks_append d (some x) l m, Nat.add_assoc]
    congr 2
    cases l with
    | nil => rfl
    | cons y l => rfl
theorem div_pow_eq {a b i j : Nat} (h : a / 16 ^ i = b / 16 ^ i) (hij : i ≤ j) : a / 16 ^ j = b / 16 ^ j := by
  obtain ⟨k, rfl⟩ : ∃ k, j = i + k := ⟨j - i, by omega⟩
  rw [Nat.pow_add, ← Nat.div_div_eq_div_mul, ← Nat.div_div_eq_div_mul, h]
theorem parts_far {d p x : Nat} (h : p / 16 ^ d ≠ x / 16 ^ d) : parts d (some p) x = d := by
  show sumK _ d = d
  rw [sumK_congr (h := fun _ => 1) d (fun j hj => if_neg fun e => h (div_pow_eq e (by omega))), sumK_const]
  omega
/-- Two groups of keys that part at level d ask for their nodes apart. -/
theorem asks_apart (d : Nat) (l m : List Nat) (h : ∀ x ∈ l, ∀ y ∈ m, x / 16 ^ d ≠ y / 16 ^ d) : asks d none (l ++ m) = asks d none l + asks d none m := by
  rw [asks_append]
  congr 1
  cases hq : l.getLast? with
  | none => rfl
  | some x =>
    cases m with
    | nil => rfl
    | cons y m =>
      show parts d (some x) y + _ = parts d none y + _
      rw [parts_far (h x (List.mem_of_getLast? hq) y List.mem_cons_self)]
      rfl
theorem parts_succ (d : Nat) (prev : Option Nat) (x : Nat) : parts (d + 1) prev x = parts d prev x + (match prev with | none => 1 | some p => if p / 16 ^ (d + 1) = x / 16 ^ (d + 1) then 0 else 1) := by
  cases prev <;> rfl
/-- Keys that don't part at level d + 1 ask for one node there. -/
theorem asks_some (d q : Nat) : ∀ (p : Nat) (l : List Nat), p / 16 ^ (d + 1) = q → (∀ x ∈ l, x / 16 ^ (d + 1) = q) → asks (d + 1) (some p) l = asks d (some p) l
  | p, [], _, _ => rfl
  | p, x :: l, hp, h => by
    have hx := h x List.mem_cons_self
    show parts (d + 1) (some p) x + asks (d + 1) (some x) l = parts d (some p) x + asks d (some x) l
    rw [asks_some d q x l hx (fun y hy => h y (List.mem_cons_of_mem _ hy)), parts_succ]
    simp only [hp, hx, if_true, Nat.add_zero]
theorem asks_none (d q : Nat) (l : List Nat) (hl : l ≠ []) (h : ∀ x ∈ l, x / 16 ^ (d + 1) = q) : asks (d + 1) none l = 1 + asks d none l := by
  cases l with
  | nil => exact absurd rfl hl
  | cons x l =>
    show parts (d + 1) none x + asks (d + 1) (some x) l = 1 + (parts d none x + asks d (some x) l)
    rw [asks_some d q x l (h x List.mem_cons_self) (fun y hy => h y (List.mem_cons_of_mem _ hy))]
    show d + 1 + _ = 1 + (d + _)
    omega
theorem ids_div {d : Nat} {t : Tr d} {h x : Nat} (hh : h % 16 ^ d = 0) (hx : x ∈ (t.ents h).map (·.1)) : x / 16 ^ d = h / 16 ^ d := by
  obtain ⟨e, he, rfl⟩ := List.mem_map.1 hx
  obtain ⟨r, hr, h1, _⟩ := (Tr.mem_ents t h e.1 e.2).1 he
  have hp : 0 < 16 ^ d := Nat.pow_pos (by decide)
  have h2 : h = h / 16 ^ d * 16 ^ d := by have := Nat.div_add_mod h (16 ^ d); rw [hh, Nat.add_zero, Nat.mul_comm] at this; exact this.symm
  rw [h1, h2, Nat.mul_comm, Nat.mul_add_div hp, Nat.mul_div_cancel_left _ hp, Nat.div_eq_of_lt hr, Nat.add_zero]
/-- The nodes of a tree without empty ones are those that its keys ask for. -/
theorem Tr.cnt_asks : ∀ {d : Nat} (t : Tr d) (h : Nat), t.Cl → h % 16 ^ d = 0 → t.cnt = asks d none ((t.ents h).map (·.1))
  | 0, none, h, _, _ => rfl
  | 0, some (b, v), h, _, _ => rfl
  | d + 1, none, h, _, _ => rfl
  | d + 1, some (b, f), h, hc, hh => by
    have hne := Tr.cl_ents h hc (by simp [Tr.blk])
    have hp : 0 < 16 ^ d := Nat.pow_pos (by decide)
    have hhd : ∀ k, (h + k * 16 ^ d) % 16 ^ d = 0 := fun k => by
      rw [Nat.add_mul_mod_self_right]
      have : 16 ^ d ∣ 16 ^ (d + 1) := Nat.pow_dvd_pow 16 (by omega)
      exact Nat.mod_eq_zero_of_dvd (Nat.dvd_trans this (Nat.dvd_of_mod_eq_zero hh))
    have key : ∀ k, k ≤ 16 → asks d none ((entsK f h k).map (·.1)) = sumK (onF fun i => (f i).cnt) k := by
      intro k
      induction k with
      | zero => intro _; rfl
      | succ k ih =>
        intro hk
        rw [entsK_succ f h k (by omega), List.map_append, asks_apart, ih (by omega)]
        · show _ = sumK _ k + onF _ k
          congr 1
          rw [show onF (fun i => (f i).cnt) k = (f ⟨k, by omega⟩).cnt from dif_pos (by omega)]
          exact (cnt_asks (f ⟨k, by omega⟩) (h + k * 16 ^ d) (hc.2 _) (hhd k)).symm
        · intro x hx y hy
          rw [ids_div (hhd k) hy]
          obtain ⟨e, he, rfl⟩ := List.mem_map.1 hx
          unfold entsK at he
          obtain ⟨i, hi, hei⟩ := List.mem_flatMap.1 he
          rw [ids_div (t := f i) (hhd i.val) (List.mem_map_of_mem hei)]
          have hik : i.val < k := by
            obtain ⟨j, hj⟩ := List.getElem?_of_mem hi
            rw [List.getElem?_take] at hj
            split at hj
            · rename_i hjk
              have hj16 : j < 16 := by
                have := (List.getElem?_eq_some_iff.1 hj).1
                simpa [allF] using this
              rw [show allF = List.finRange 16 from rfl, finRange16 j hj16] at hj
              cases hj
              exact hjk
            · cases hj
          rw [Nat.mul_comm i.val, Nat.mul_comm k, Nat.add_mul_div_left _ _ hp, Nat.add_mul_div_left _ _ hp]
          omega
    have e := asks_none d (h / 16 ^ (d + 1)) ((Tr.ents (d := d + 1) (some (b, f)) h).map (·.1)) (by simpa using hne) (fun x hx => ids_div (d := d + 1) (t := some (b, f)) hh hx)
    have k16 := key 16 (Nat.le_refl _)
    rw [entsK_all b f h] at k16
    exact (Tr.cnt_some b f).trans ((congrArg (1 + ·) k16.symm).trans e.symm)
end Go.Proofs.Ytmhhejpokgdjoaa
namespace Go.Proofs.Ytmhhejpokgdjoaa
open Go Go.RowKit
set_option linter.unusedVariables false

theorem holds_inj {w : World} {b : Nat} {cs ds : List Value} (h : Holds w b cs) (k : Holds w b ds) : cs = ds := by
  obtain ⟨t, h⟩ := h
  obtain ⟨u, k⟩ := k
  rw [h] at k
  simp only [Option.some.injEq, Obj.cells.injEq] at k
  have := congrArg Array.toList k.1
  simpa using this
theorem ptr_inj {d : Nat} {a b : Tr d} (h : a.ptr = b.ptr) : a.blk = b.blk := by
  unfold Tr.ptr ptrOf at h
  cases ha : a.blk <;> cases hb : b.blk <;> rw [ha, hb] at h <;> simp at h ⊢
  exact h
theorem Tr.at_inj : ∀ {d : Nat} {a b : Tr d} {w : World}, a.at w → b.at w → a.blk = b.blk → a = b
  | 0, none, none, w, _, _, _ => rfl
  | 0, none, some (x, v), w, _, _, h => by cases h
  | 0, some (x, v), none, w, _, _, h => by cases h
  | 0, some (x, v), some (y, u), w, ha, hb, h => by
    have hxy : x = y := by simpa [Tr.blk] using h
    subst hxy
    have hc : vCells v = vCells u := holds_inj ha hb
    simp only [vCells, List.cons.injEq, Value.int.injEq, true_and, and_true] at hc
    obtain ⟨h1, h2⟩ := hc
    have : v = u := by cases v; cases u; simp_all
    rw [this]
  | d + 1, none, none, w, _, _, _ => rfl
  | d + 1, none, some (x, f), w, _, _, h => by cases h
  | d + 1, some (x, f), none, w, _, _, h => by cases h
  | d + 1, some (x, f), some (y, g), w, ha, hb, h => by
    have hxy : x = y := by simpa [Tr.blk] using h
    subst hxy
    have hc : nodeCells f = nodeCells g := holds_inj ha.1 hb.1
    have hfg : f = g := by
      funext i
      refine at_inj (ha.2 i) (hb.2 i) (ptr_inj ?_)
      cases d with
      | zero =>
        have h1 := leaf_cell f i
        rw [hc, leaf_cell g i] at h1
        exact (Option.some.inj h1).symm
      | succ d =>
        have h1 := kids_cell f i
        rw [hc, kids_cell g i] at h1
        exact (Option.some.inj h1).symm
    rw [hfg]
theorem sumK_add (g h : Nat → Nat) : ∀ n : Nat, sumK (fun i => g i + h i) n = sumK g n + sumK h n
  | 0 => rfl
  | n + 1 => by
    show sumK _ n + (g n + h n) = (sumK g n + g n) + (sumK h n + h n)
    rw [sumK_add g h n]; omega
theorem Tr.fr_nil : ∀ {d : Nat} (a : Tr d), a.fr Tr.nil = 0
  | 0, _ => rfl
  | _ + 1, _ => rfl
/-- What is anew below the kids is anew. -/
theorem Tr.fr_kids {d : Nat} {a b : Tr (d + 1)} {w : World} (ha : a.at w) (hb : b.at w) : sumK (onF fun i => (a.kid i).fr (b.kid i)) 16 ≤ a.fr b := by
  have hz : (∀ i, (a.kid i).fr (b.kid i) = 0) → sumK (onF fun i => (a.kid i).fr (b.kid i)) 16 = 0 := fun h => by
    rw [sumK_congr (h := fun _ => 0) 16 (fun i hi => by unfold onF; rw [dif_pos hi]; exact h _), sumK_const]
  by_cases he : a.blk = b.blk
  · have := Tr.at_inj ha hb he
    subst this
    rw [hz fun i => Tr.fr_self _]
    exact Nat.zero_le _
  · cases b with
    | none =>
      rw [hz fun i => Tr.fr_nil _]
      exact Nat.zero_le _
    | some p =>
      obtain ⟨bb, g⟩ := p
      have e : a.fr (some (bb, g) : Option (Nat × (Fin 16 → Tr d))) = 1 + sumK (onF fun i => (a.kid i).fr (g i)) 16 := if_neg he
      rw [e]
      exact Nat.le_add_left _ _
/-- From a to c no more is anew than from a to b and from b to c. -/
theorem Tr.fr_tri : ∀ {d : Nat} (a b c : Tr d) {w : World}, a.at w → b.at w → c.at w → a.fr c ≤ a.fr b + b.fr c
  | 0, _, _, _, _, _, _, _ => Nat.zero_le _
  | d + 1, a, b, none, w, _, _, _ => Nat.zero_le _
  | d + 1, a, b, some (cc, h), w, ha, hb, hc => by
    by_cases h1 : a.blk = some cc
    · have e : a.fr (some (cc, h) : Option (Nat × (Fin 16 → Tr d))) = 0 := if_pos h1
      rw [e]; exact Nat.zero_le _
    · by_cases h2 : b.blk = some cc
      · have := Tr.at_inj hb hc h2
        subst this
        exact Nat.le_add_right _ _
      · have e1 : a.fr (some (cc, h) : Option (Nat × (Fin 16 → Tr d))) = 1 + sumK (onF fun i => (a.kid i).fr (h i)) 16 := if_neg h1
        have e2 : b.fr (some (cc, h) : Option (Nat × (Fin 16 → Tr d))) = 1 + sumK (onF fun i => (b.kid i).fr (h i)) 16 := if_neg h2
        have hk := Tr.fr_kids ha hb
        have hs : sumK (onF fun i => (a.kid i).fr (h i)) 16 ≤ sumK (fun i => onF (fun i => (a.kid i).fr (b.kid i)) i + onF (fun i => (b.kid i).fr (h i)) i) 16 := sumK_le 16 fun i hi => by
          unfold onF
          rw [dif_pos hi, dif_pos hi, dif_pos hi]
          exact fr_tri _ _ _ (Tr.at_kid ha _) (Tr.at_kid hb _) (hc.2 _)
        rw [sumK_add] at hs
        rw [e1, e2]
        omega
end Go.Proofs.Ytmhhejpokgdjoaa
