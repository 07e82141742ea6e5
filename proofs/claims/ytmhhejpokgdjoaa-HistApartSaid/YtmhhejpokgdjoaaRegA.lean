/- A region whose order Go leaves open, walked in ONE order: operations that neither read nor write memory come up as early as they can, and every other one must stand alone when it comes up. Plain lemmas over any program. -/
import Derived.WalkKit
namespace Go.Proofs.Ytmhhejpokgdjoaa
open Go Go.RowKit

/-- What succeeds in one world succeeds in every world, with the same value, and changes none. -/
structure Steady {α : Type} (P : Program) (s : Sem α) : Prop where
  out : ∀ w v w', s.run P w = .ok v w' → w' = w ∧ ∀ w2, s.run P w2 = .ok v w2
/-- It never succeeds. -/
structure Dead {α : Type} (P : Program) (s : Sem α) : Prop where
  out : ∀ w, ∃ h w', s.run P w = .halt h w'

section
variable {P : Program} {α β : Type}
theorem Dead.steady {s : Sem α} (h : Dead P s) : Steady P s := ⟨fun w v w' e => by
  obtain ⟨x, w1, e1⟩ := h.out w; rw [e1] at e; cases e⟩
theorem Steady.pure (a : α) : Steady P (Pure.pure a : Sem α) := ⟨fun w v w' e => by
  rw [Sem.run_pure] at e; cases e; exact ⟨rfl, fun _ => rfl⟩⟩
theorem Steady.bind {s : Sem α} {f : α → Sem β} (h : Steady P s) (hf : ∀ x, Steady P (f x)) : Steady P (s >>= f) := ⟨fun w v w' e => by
  rw [Sem.run_bind] at e
  cases hr : s.run P w with
  | ok x w1 =>
    rw [hr] at e
    obtain ⟨rfl, h2⟩ := h.out _ _ _ hr
    obtain ⟨rfl, h4⟩ := (hf x).out _ _ _ e
    exact ⟨rfl, fun w2 => by rw [Sem.run_bind, h2]; exact h4 w2⟩
  | halt x w1 => rw [hr] at e; cases e⟩
theorem Steady.program : Steady P Go.program := ⟨fun w v w' e => by
  rw [run_program] at e; cases e; exact ⟨rfl, fun _ => rfl⟩⟩
theorem Dead.halt (h : Halt) : Dead P (Sem.halt h : Sem α) := ⟨fun _ => ⟨_, _, rfl⟩⟩
theorem Dead.bind {s : Sem α} {f : α → Sem β} (h : Dead P s) : Dead P (s >>= f) := ⟨fun w => by
  obtain ⟨x, w1, e1⟩ := h.out w; exact ⟨x, w1, by rw [Sem.run_bind, e1]; rfl⟩⟩
theorem Dead.after {s : Sem α} {f : α → Sem β} (hf : ∀ x, Dead P (f x)) : Dead P (s >>= f) := ⟨fun w => by
  rw [Sem.run_bind]
  cases hr : s.run P w with
  | ok x w1 => exact (hf x).out w1
  | halt x w1 => exact ⟨x, w1, rfl⟩⟩
theorem dead_rt (e : RuntimeError) : Dead P (runtimePanic e : Sem α) := by
  unfold runtimePanic
  refine Dead.after fun p => ?_
  dsimp only
  split <;> first | exact Dead.halt _ | exact Dead.after fun _ => Dead.after fun _ => Dead.halt _ | exact Dead.after fun _ => Dead.halt _
theorem dead_bounds (k : IntKind) (x y : Int) (c : BoundsCode) : Dead P (boundsPanic k x y c : Sem α) := by
  unfold boundsPanic
  dsimp only
  split <;> exact Dead.after fun _ => dead_rt _
theorem st_stuck (s : String) : Steady P (stuck s : Sem α) := (Dead.halt _).steady
theorem st_uns (u : Unsupported) : Steady P (unsupported u : Sem α) := (Dead.halt _).steady
theorem st_rt (e : RuntimeError) : Steady P (runtimePanic e : Sem α) := (dead_rt e).steady
theorem st_bounds (k : IntKind) (x y : Int) (c : BoundsCode) : Steady P (boundsPanic k x y c : Sem α) := (dead_bounds k x y c).steady
theorem st_underlying (t : TypeId) : Steady P (underlying t) := by
  unfold underlying
  refine Steady.program.bind fun p => ?_
  split <;> first | exact Steady.pure _ | exact st_stuck _
theorem st_info (t : TypeId) : Steady P (typeInfo t) := by
  unfold typeInfo
  refine Steady.program.bind fun p => ?_
  split <;> first | exact Steady.pure _ | exact st_stuck _
theorem st_size (t : TypeId) : Steady P (sizeOf t) := (st_info t).bind fun _ => Steady.pure _
theorem st_intOf (v : Value) : Steady P (asIntOf v) := by
  unfold asIntOf; split <;> first | exact Steady.pure _ | exact st_uns _ | exact st_stuck _
theorem st_bool (v : Value) : Steady P (asBool v) := by
  unfold asBool; split <;> first | exact Steady.pure _ | exact st_stuck _
theorem st_agg (v : Value) : Steady P (asAgg v) := by
  unfold asAgg; split <;> first | exact Steady.pure _ | exact st_stuck _
theorem st_addr (v : Value) : Steady P (Instr.sureAddr v) := by
  unfold Instr.sureAddr; split <;> first | exact Steady.pure _ | exact st_stuck _
theorem st_asAddr (v : Value) : Steady P (asAddr v) := by
  unfold asAddr; split <;> first | exact Steady.pure _ | exact st_rt _ | exact st_stuck _
theorem st_isAgg (t : TypeId) : Steady P (isAgg t) := by
  unfold isAgg
  exact (st_underlying t).bind fun d => by split <;> exact Steady.pure _
theorem st_part (t : TypeId) (cs : Array Value) (o : Nat) : Steady P (part t cs o) := by
  unfold part
  refine (st_isAgg t).bind fun b => ?_
  split
  · exact (st_size t).bind fun _ => Steady.pure _
  · split <;> first | exact Steady.pure _ | exact st_stuck _
theorem st_index (t : TypeId) (x i : Value) : Steady P (Instr.indexAt t x i) := by
  unfold Instr.indexAt
  refine (st_intOf i).bind fun ki => (st_underlying t).bind fun d => ?_
  dsimp only
  repeat' (first | exact st_uns _ | exact st_stuck _ | exact st_bounds .. | exact Steady.pure _ | exact st_size _ | exact st_addr _ | exact st_underlying _ | refine Steady.bind ?_ fun _ => ?_ | split | dsimp only)
theorem st_field (t : TypeId) (x : Value) (f : Nat) : Steady P (Instr.field t x f) := by
  unfold Instr.field
  refine (st_underlying t).bind fun d => ?_
  split
  · split
    · exact (st_agg x).bind fun _ => st_part ..
    · exact st_stuck _
  · exact st_stuck _
theorem st_idx (t : TypeId) (x i : Value) : Steady P (Instr.index t x i) := by
  unfold Instr.index
  refine (st_intOf i).bind fun ki => (st_underlying t).bind fun d => ?_
  repeat' (first | exact st_uns _ | exact st_stuck _ | exact st_bounds .. | exact Steady.pure _ | exact st_size _ | exact st_part .. | refine Steady.bind ?_ fun _ => ?_ | split | dsimp only)
theorem st_extract (x : Value) (i : Nat) : Steady P (Instr.extract x i) := by
  unfold Instr.extract
  split
  · split <;> first | exact Steady.pure _ | exact st_stuck _
  · exact st_stuck _
theorem st_iface (t : TypeId) (x : Value) : Steady P (Instr.makeInterface t x) := by
  unfold Instr.makeInterface
  refine (st_underlying t).bind fun d => ?_
  split <;> first | exact Steady.pure _ | exact st_stuck _
theorem st_sliceBound (x : Value) (y : Nat) (c : BoundsCode) : Steady P (Instr.sliceBound x y c) := by
  unfold Instr.sliceBound
  refine (st_intOf x).bind fun ki => ?_
  dsimp only
  split <;> first | exact Steady.pure _ | exact st_bounds ..
theorem st_sliceBounds (b : Bool) (l c : Nat) (lo hi mx : Option Value) : Steady P (Instr.sliceBounds b l c lo hi mx) := by
  unfold Instr.sliceBounds
  dsimp only
  repeat' (first | exact st_sliceBound .. | exact st_stuck _ | exact Steady.pure _ | refine Steady.bind ?_ fun _ => ?_ | split | dsimp only)
theorem st_slice0 (t : TypeId) (x : Value) (lo hi mx : Option Value) : Steady P (Instr.slice t x lo hi mx) := by
  unfold Instr.slice
  refine (st_underlying t).bind fun d => ?_
  repeat' (first | exact st_sliceBounds .. | exact st_stuck _ | exact Steady.pure _ | exact st_size _ | exact st_asAddr _ | exact st_underlying _ | refine Steady.bind ?_ fun _ => ?_ | split | dsimp only)
theorem st_slice (t : TypeId) (x : Value) (lo hi mx : Option Value) : Steady P (Instr.sliceAt t x lo hi mx) := by
  unfold Instr.sliceAt
  refine (st_underlying t).bind fun d => ?_
  repeat' (first | exact st_slice0 .. | exact st_sliceBounds .. | exact st_addr _ | exact st_size _ | exact Steady.pure _ | refine Steady.bind ?_ fun _ => ?_ | split | dsimp only)
theorem st_arith (op : BinOp) (k : IntKind) (x y : Int) : Steady P (Op.intArith op k x y) := by
  unfold Op.intArith; split <;> first | exact Steady.pure _ | exact st_stuck _
theorem st_div (op : BinOp) (k : IntKind) (x y : Int) : Steady P (Op.intDiv op k x y) := by
  unfold Op.intDiv; split
  · exact st_rt _
  · split <;> first | exact Steady.pure _ | exact st_stuck _
theorem st_bits (op : BinOp) (k : IntKind) (x y : Int) : Steady P (Op.intBits op k x y) := by
  unfold Op.intBits; dsimp only; split <;> first | exact Steady.pure _ | exact st_stuck _
theorem st_cmp (op : BinOp) (x y : Int) : Steady P (Op.intCmp op x y) := by
  unfold Op.intCmp; split <;> first | exact Steady.pure _ | exact st_stuck _
theorem st_shift (op : BinOp) (k : IntKind) (x : Int) (k' : IntKind) (y : Int) : Steady P (Op.shift op k x k' y) := by
  unfold Op.shift; split
  · exact st_rt _
  · dsimp only; split <;> first | exact Steady.pure _ | exact st_stuck _
theorem st_str (op : BinOp) (x y : ByteArray) : Steady P (Op.stringOp op x y) := by
  unfold Op.stringOp; dsimp only; split
  · split <;> first | exact Steady.pure _ | exact st_uns _
  all_goals first | exact Steady.pure _ | exact st_stuck _
theorem st_unary (op : UnOp) (x : Value) : Steady P (Op.unary op x) := by
  unfold Op.unary; split <;> first | exact st_arith .. | exact st_bits .. | exact Steady.pure _ | exact st_stuck _ | exact st_uns _
theorem st_followBlind : ∀ (l : List FieldStep) (t : TypeId) (x : Option Value), Steady P (followBlind l t x)
  | [], t, x => Steady.pure _
  | s :: l, t, x => by
    unfold followBlind
    have ih := fun t x => st_followBlind l t x
    repeat' (first | exact ih .. | exact st_stuck _ | exact Steady.pure _ | exact st_underlying _ | exact st_part .. | refine Steady.bind ?_ fun _ => ?_ | split | dsimp only)
theorem st_nilAhead : ∀ (n : Nat) (t : TypeId) (v : Value) (s : String), Steady P (nilAhead n t v s)
  | 0, t, v, s => Steady.pure _
  | n + 1, t, v, s => by
    unfold nilAhead
    have ih := fun t v s => st_nilAhead n t v s
    repeat' (first | exact ih .. | exact st_stuck _ | exact Steady.pure _ | exact st_underlying _ | exact st_info _ | exact st_followBlind .. | refine Steady.bind ?_ fun _ => ?_ | split | dsimp only)
theorem st_zero (t : TypeId) : Steady P (zeroValue t) := by
  unfold zeroValue
  repeat' (first | exact st_uns _ | exact Steady.pure _ | exact st_info _ | refine Steady.bind ?_ fun _ => ?_ | split | dsimp only)
theorem st_mapM {γ : Type} {f : γ → Sem β} (hf : ∀ x, Steady P (f x)) : ∀ l : List γ, Steady P (l.mapM f)
  | [] => by rw [List.mapM_nil]; exact Steady.pure _
  | x :: l => by
    rw [List.mapM_cons]
    exact (hf x).bind fun _ => (st_mapM hf l).bind fun _ => Steady.pure _
theorem st_build (t : TypeId) (ps : Array (Nat × Value)) : Steady P (Instr.build t ps) := by
  unfold Instr.build
  have hm : ∀ (fs : Array Field), Steady P (fs.mapM fun f => do pure (f.offset, ← sizeOf f.type)) := fun fs => by
    rw [Array.mapM_eq_mapM_toList]
    exact ⟨fun w v w' e => by
      rw [Sem.run_map] at e
      have := st_mapM (P := P) (f := fun f : Field => (do pure (f.offset, ← sizeOf f.type) : Sem (Nat × Nat))) (fun f => (st_size _).bind fun _ => Steady.pure _) fs.toList
      cases hr : (List.mapM (fun f : Field => (do pure (f.offset, ← sizeOf f.type) : Sem (Nat × Nat))) fs.toList).run P w with
      | ok x w1 =>
        rw [hr] at e
        obtain ⟨rfl, h2⟩ := this.out _ _ _ hr
        simp only [Result.andThen_ok, Result.ok.injEq] at e
        obtain ⟨rfl, rfl⟩ := e
        exact ⟨rfl, fun w2 => by rw [Sem.run_map, h2]; rfl⟩
      | halt x w1 => rw [hr] at e; cases e⟩
  repeat' (first | exact hm _ | exact st_stuck _ | exact Steady.pure _ | exact st_zero _ | exact st_size _ | exact st_underlying _ | refine Steady.bind ?_ fun _ => ?_ | split | dsimp only)
end
end Go.Proofs.Ytmhhejpokgdjoaa
