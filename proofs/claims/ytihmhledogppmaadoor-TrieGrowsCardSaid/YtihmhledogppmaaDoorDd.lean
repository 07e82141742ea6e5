/- What differs between two trees, as data, in the order in which it is told; what a yield owes that leaves foreign blocks alone. -/
import Derived.Test.YtihmhledogppmaaDoorDf
namespace Go.Proofs.YtihmhledogppmaaDoor
open Go Go.RowKit
set_option linter.unusedVariables false

abbrev Ch := Nat × Option V × Option V
def chE (c : Ch) : Array Value := #[.agg (chCells c.1 c.2.1 c.2.2).toArray]
def difs : {d : Nat} → Tr d → Tr d → Nat → List Ch
  | 0, a, b, h => if val0 a = val0 b then [] else [(h, val0 a, val0 b)]
  | d + 1, a, b, h => allF.flatMap fun i => difs (a.kid i) (b.kid i) (h + i.val * 16 ^ d)
def difsK {d : Nat} (a b : Tr (d + 1)) (h k : Nat) : List Ch := (allF.take k).flatMap fun i => difs (a.kid i) (b.kid i) (h + i.val * 16 ^ d)
theorem difsK_zero {d : Nat} (a b : Tr (d + 1)) (h : Nat) : difsK a b h 0 = [] := rfl
theorem difsK_succ {d : Nat} (a b : Tr (d + 1)) (h k : Nat) (hk : k < 16) : difsK a b h (k + 1) = difsK a b h k ++ difs (a.kid ⟨k, hk⟩) (b.kid ⟨k, hk⟩) (h + k * 16 ^ d) := by
  unfold difsK
  have hl : k < allF.length := by simpa [allF] using hk
  have he : allF[k] = ⟨k, hk⟩ := by simp [allF]
  rw [List.take_succ_eq_append_getElem hl, List.flatMap_append, he]
  simp
theorem difsK_all {d : Nat} (a b : Tr (d + 1)) (h : Nat) : difsK a b h 16 = difs a b h := by
  unfold difsK
  rw [List.take_of_length_le (by simp [allF])]
  rfl
theorem difs_split {d : Nat} (a b : Tr (d + 1)) (h k : Nat) (hk : k < 16) : ∃ q, difs a b h = difsK a b h k ++ difs (a.kid ⟨k, hk⟩) (b.kid ⟨k, hk⟩) (h + k * 16 ^ d) ++ q := by
  refine ⟨(allF.drop (k + 1)).flatMap fun i => difs (a.kid i) (b.kid i) (h + i.val * 16 ^ d), ?_⟩
  rw [← difsK_succ]
  unfold difsK
  rw [← List.flatMap_append, List.take_append_drop]
  rfl
/-- Trees that hold the same: nothing differs. -/
theorem difs_alike : ∀ {d : Nat} (a b : Tr d) (h : Nat), Alike a b → difs a b h = []
  | 0, a, b, h, hal => if_pos (alike_val hal)
  | d + 1, a, b, h, hal => by
    show allF.flatMap _ = []
    rw [List.flatMap_eq_nil_iff]
    exact fun i _ => difs_alike _ _ _ (alike_kid hal i)
theorem difs_self {d : Nat} (a : Tr d) (h : Nat) : difs a a h = [] := difs_alike a a h fun _ => rfl
/-- From nothing: all that is there. -/
theorem difs_nil : ∀ {d : Nat} (b : Tr d) (h : Nat), difs (Tr.nil : Tr d) b h = (b.ents h).map fun e => (e.1, none, some e.2)
  | 0, none, h => rfl
  | 0, some (b, v), h => rfl
  | d + 1, none, h => by
    show allF.flatMap _ = []
    rw [List.flatMap_eq_nil_iff]
    intro i _
    exact difs_alike _ _ _ (fun _ => rfl)
  | d + 1, some (b, f), h => by
    show (allF.flatMap fun i => difs Tr.nil (f i) (h + i.val * 16 ^ d)) = (allF.flatMap fun i => (f i).ents (h + i.val * 16 ^ d)).map _
    rw [List.map_flatMap]
    congr 1
    funext i
    exact difs_nil (f i) _

/-- What a yield owes that leaves the blocks of Q alone. -/
def YdF {α : Type} (P : Program) (Y : Value) (enc : α → Array Value) (xs : List α) (Inv Brk : List α → (Nat → Prop) → World → Prop) : Prop :=
  ∀ pre x post, xs = pre ++ x :: post → ∀ Q W, Inv pre Q W →
    CallV P Y (enc x) W fun e W' => (∀ k, Q k → W'.heap[k]? = W.heap[k]?) ∧ W.heap.size ≤ W'.heap.size ∧ ((e = .returned (.bool true) ∧ Inv (pre ++ [x]) Q W') ∨ (e = .returned (.bool false) ∧ Brk (pre ++ [x]) Q W'))
/-- Inv hangs on its own blocks alone: whatever else turns, and whatever is new, is foreign. -/
structure Abide {α : Type} (Inv : List α → (Nat → Prop) → World → Prop) : Prop where
  turn : ∀ pre Q W W', Inv pre Q W → (∀ k, k < W.heap.size → ¬ Q k → W'.heap[k]? = W.heap[k]?) → W.heap.size ≤ W'.heap.size → W'.os = W.os → W'.tape = W.tape → W'.output = W.output → Inv pre (fun k => Q k ∨ (W.heap.size ≤ k ∧ k < W'.heap.size)) W'
  less : ∀ pre (Q Q' : Nat → Prop) W, Inv pre Q W → (∀ k, Q' k → Q k) → Inv pre Q' W
theorem Abide.below {α : Type} {Inv : List α → (Nat → Prop) → World → Prop} (h : Abide Inv) {pre : List α} {Q : Nat → Prop} {W W' : World} (hi : Inv pre Q W) (hb : Below W.heap.size W W') : Inv pre (fun k => Q k ∨ (W.heap.size ≤ k ∧ k < W'.heap.size)) W' :=
  h.turn pre Q W W' hi (fun k hk _ => hb.block k hk) hb.size hb.os hb.tape hb.output
theorem Abide.upd {α : Type} {Inv : List α → (Nat → Prop) → World → Prop} (h : Abide Inv) {pre : List α} {Q : Nat → Prop} {W W' : World} {g : Nat} (hi : Inv pre Q W) (hu : Upd g W W') (hg : Q g) : Inv pre Q W' :=
  h.less pre _ Q W' (h.turn pre Q W W' hi (fun k _ hq => hu.block k (fun e => hq (by rw [e]; exact hg))) (Nat.le_of_eq hu.size.symm) hu.os hu.tape hu.output) fun k hk => .inl hk
end Go.Proofs.YtihmhledogppmaaDoor
