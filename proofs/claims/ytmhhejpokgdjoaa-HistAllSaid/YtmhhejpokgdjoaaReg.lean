/- A region whose order Go leaves open, walked in ONE order: operations that neither read nor write memory come up as early as they can, and every other one must stand alone when it comes up. Plain lemmas over any program. · Which operations neither read nor write memory (those of class 0). · A region whose order Go leaves open, walked in one order: what is of class 0 may come up early, what is of class 1 wherever nothing of class 2 can come up beside it, all else alone. · A region whose order Go leaves open: whatever order is drawn, it comes to what ONE order comes to, if in that order each operation of class 0 or 1 may come up where it does, and each other one stands alone. · A region whose order Go leaves open, walked in one order: the rules 'rgn' (a plain frame), 'rgnIn' (inside a fence), and 'rgnH', 'rgnHIn' where a load may come up beside a call or a new block ('held': its cell reads the same behind each such operation). · A region whose order Go leaves open, walked along a plan that may fork: where two operations of class 2 are ready, each comes first once. Rules 'rgnTIn', 'rgnT'. · The check of an order (ordAll), with what waits for what reckoned once: fast. -/
import Derived.WalkKit
import Derived.OrdersIn
import Derived.TacticsIn
namespace Go.Proofs.Ytmhhejpokgdjoaa
open Go Go.RowKit

/-- What succeeds in one world succeeds in every world, with the same value, and changes none. -/
structure Steady {α : Type} (P : Program) (s : Sem α) : Prop where
  out : ∀ w v w', s.run P w = .ok v w' → w' = w ∧ ∀ w2, s.run P w2 = .ok v w2
/-- It never succeeds. -/
structure Dead {α : Type} (P : Program) (s : Sem α) : Prop where
  out : ∀ w, ∃ h w', s.run P w = .halt h w'

section
variable {P : Program} {α β : Type}
theorem Dead.steady {s : Sem α} (h : Dead P s) : Steady P s := ⟨fun w v w' e => by
  obtain ⟨x, w1, e1⟩ := h.out w; rw [e1] at e; cases e⟩
theorem Steady.pure (a : α) : Steady P (Pure.pure a : Sem α) := ⟨fun w v w' e => by
  rw [Sem.run_pure] at e; cases e; exact ⟨rfl, fun _ => rfl⟩⟩
theorem Steady.bind {s : Sem α} {f : α → Sem β} (h : Steady P s) (hf : ∀ x, Steady P (f x)) : Steady P (s >>= f) := ⟨fun w v w' e => by
  rw [Sem.run_bind] at e
  cases hr : s.run P w with
  | ok x w1 =>
    rw [hr] at e
    obtain ⟨rfl, h2⟩ := h.out _ _ _ hr
    obtain ⟨rfl, h4⟩ := (hf x).out _ _ _ e
    exact ⟨rfl, fun w2 => by rw [Sem.run_bind, h2]; exact h4 w2⟩
  | halt x w1 => rw [hr] at e; cases e⟩
theorem Steady.program : Steady P Go.program := ⟨fun w v w' e => by
  rw [run_program] at e; cases e; exact ⟨rfl, fun _ => rfl⟩⟩
theorem Dead.halt (h : Halt) : Dead P (Sem.halt h : Sem α) := ⟨fun _ => ⟨_, _, rfl⟩⟩
theorem Dead.bind {s : Sem α} {f : α → Sem β} (h : Dead P s) : Dead P (s >>= f) := ⟨fun w => by
  obtain ⟨x, w1, e1⟩ := h.out w; exact ⟨x, w1, by rw [Sem.run_bind, e1]; rfl⟩⟩
theorem Dead.after {s : Sem α} {f : α → Sem β} (hf : ∀ x, Dead P (f x)) : Dead P (s >>= f) := ⟨fun w => by
  rw [Sem.run_bind]
  cases hr : s.run P w with
  | ok x w1 => exact (hf x).out w1
  | halt x w1 => exact ⟨x, w1, rfl⟩⟩
theorem dead_rt (e : RuntimeError) : Dead P (runtimePanic e : Sem α) := by
  unfold runtimePanic
  refine Dead.after fun p => ?_
  dsimp only
  split <;> first | exact Dead.halt _ | exact Dead.after fun _ => Dead.after fun _ => Dead.halt _ | exact Dead.after fun _ => Dead.halt _
theorem dead_bounds (k : IntKind) (x y : Int) (c : BoundsCode) : Dead P (boundsPanic k x y c : Sem α) := by
  unfold boundsPanic
  dsimp only
  split <;> exact Dead.after fun _ => dead_rt _
theorem st_stuck (s : String) : Steady P (stuck s : Sem α) := (Dead.halt _).steady
theorem st_uns (u : Unsupported) : Steady P (unsupported u : Sem α) := (Dead.halt _).steady
theorem st_rt (e : RuntimeError) : Steady P (runtimePanic e : Sem α) := (dead_rt e).steady
theorem st_bounds (k : IntKind) (x y : Int) (c : BoundsCode) : Steady P (boundsPanic k x y c : Sem α) := (dead_bounds k x y c).steady
theorem st_underlying (t : TypeId) : Steady P (underlying t) := by
  unfold underlying
  refine Steady.program.bind fun p => ?_
  split <;> first | exact Steady.pure _ | exact st_stuck _
theorem st_info (t : TypeId) : Steady P (typeInfo t) := by
  unfold typeInfo
  refine Steady.program.bind fun p => ?_
  split <;> first | exact Steady.pure _ | exact st_stuck _
theorem st_size (t : TypeId) : Steady P (sizeOf t) := (st_info t).bind fun _ => Steady.pure _
theorem st_intOf (v : Value) : Steady P (asIntOf v) := by
  unfold asIntOf; split <;> first | exact Steady.pure _ | exact st_uns _ | exact st_stuck _
theorem st_bool (v : Value) : Steady P (asBool v) := by
  unfold asBool; split <;> first | exact Steady.pure _ | exact st_stuck _
theorem st_agg (v : Value) : Steady P (asAgg v) := by
  unfold asAgg; split <;> first | exact Steady.pure _ | exact st_stuck _
theorem st_addr (v : Value) : Steady P (Instr.sureAddr v) := by
  unfold Instr.sureAddr; split <;> first | exact Steady.pure _ | exact st_stuck _
theorem st_asAddr (v : Value) : Steady P (asAddr v) := by
  unfold asAddr; split <;> first | exact Steady.pure _ | exact st_rt _ | exact st_stuck _
theorem st_isAgg (t : TypeId) : Steady P (isAgg t) := by
  unfold isAgg
  exact (st_underlying t).bind fun d => by split <;> exact Steady.pure _
theorem st_part (t : TypeId) (cs : Array Value) (o : Nat) : Steady P (part t cs o) := by
  unfold part
  refine (st_isAgg t).bind fun b => ?_
  split
  · exact (st_size t).bind fun _ => Steady.pure _
  · split <;> first | exact Steady.pure _ | exact st_stuck _
theorem st_index (t : TypeId) (x i : Value) : Steady P (Instr.indexAt t x i) := by
  unfold Instr.indexAt
  refine (st_intOf i).bind fun ki => (st_underlying t).bind fun d => ?_
  dsimp only
  repeat' (first | exact st_uns _ | exact st_stuck _ | exact st_bounds .. | exact Steady.pure _ | exact st_size _ | exact st_addr _ | exact st_underlying _ | refine Steady.bind ?_ fun _ => ?_ | split | dsimp only)
theorem st_field (t : TypeId) (x : Value) (f : Nat) : Steady P (Instr.field t x f) := by
  unfold Instr.field
  refine (st_underlying t).bind fun d => ?_
  split
  · split
    · exact (st_agg x).bind fun _ => st_part ..
    · exact st_stuck _
  · exact st_stuck _
theorem st_idx (t : TypeId) (x i : Value) : Steady P (Instr.index t x i) := by
  unfold Instr.index
  refine (st_intOf i).bind fun ki => (st_underlying t).bind fun d => ?_
  repeat' (first | exact st_uns _ | exact st_stuck _ | exact st_bounds .. | exact Steady.pure _ | exact st_size _ | exact st_part .. | refine Steady.bind ?_ fun _ => ?_ | split | dsimp only)
theorem st_extract (x : Value) (i : Nat) : Steady P (Instr.extract x i) := by
  unfold Instr.extract
  split
  · split <;> first | exact Steady.pure _ | exact st_stuck _
  · exact st_stuck _
theorem st_iface (t : TypeId) (x : Value) : Steady P (Instr.makeInterface t x) := by
  unfold Instr.makeInterface
  refine (st_underlying t).bind fun d => ?_
  split <;> first | exact Steady.pure _ | exact st_stuck _
theorem st_sliceBound (x : Value) (y : Nat) (c : BoundsCode) : Steady P (Instr.sliceBound x y c) := by
  unfold Instr.sliceBound
  refine (st_intOf x).bind fun ki => ?_
  dsimp only
  split <;> first | exact Steady.pure _ | exact st_bounds ..
theorem st_sliceBounds (b : Bool) (l c : Nat) (lo hi mx : Option Value) : Steady P (Instr.sliceBounds b l c lo hi mx) := by
  unfold Instr.sliceBounds
  dsimp only
  repeat' (first | exact st_sliceBound .. | exact st_stuck _ | exact Steady.pure _ | refine Steady.bind ?_ fun _ => ?_ | split | dsimp only)
theorem st_slice0 (t : TypeId) (x : Value) (lo hi mx : Option Value) : Steady P (Instr.slice t x lo hi mx) := by
  unfold Instr.slice
  refine (st_underlying t).bind fun d => ?_
  repeat' (first | exact st_sliceBounds .. | exact st_stuck _ | exact Steady.pure _ | exact st_size _ | exact st_asAddr _ | exact st_underlying _ | refine Steady.bind ?_ fun _ => ?_ | split | dsimp only)
theorem st_slice (t : TypeId) (x : Value) (lo hi mx : Option Value) : Steady P (Instr.sliceAt t x lo hi mx) := by
  unfold Instr.sliceAt
  refine (st_underlying t).bind fun d => ?_
  repeat' (first | exact st_slice0 .. | exact st_sliceBounds .. | exact st_addr _ | exact st_size _ | exact Steady.pure _ | refine Steady.bind ?_ fun _ => ?_ | split | dsimp only)
theorem st_arith (op : BinOp) (k : IntKind) (x y : Int) : Steady P (Op.intArith op k x y) := by
  unfold Op.intArith; split <;> first | exact Steady.pure _ | exact st_stuck _
theorem st_div (op : BinOp) (k : IntKind) (x y : Int) : Steady P (Op.intDiv op k x y) := by
  unfold Op.intDiv; split
  · exact st_rt _
  · split <;> first | exact Steady.pure _ | exact st_stuck _
theorem st_bits (op : BinOp) (k : IntKind) (x y : Int) : Steady P (Op.intBits op k x y) := by
  unfold Op.intBits; dsimp only; split <;> first | exact Steady.pure _ | exact st_stuck _
theorem st_cmp (op : BinOp) (x y : Int) : Steady P (Op.intCmp op x y) := by
  unfold Op.intCmp; split <;> first | exact Steady.pure _ | exact st_stuck _
theorem st_shift (op : BinOp) (k : IntKind) (x : Int) (k' : IntKind) (y : Int) : Steady P (Op.shift op k x k' y) := by
  unfold Op.shift; split
  · exact st_rt _
  · dsimp only; split <;> first | exact Steady.pure _ | exact st_stuck _
theorem st_str (op : BinOp) (x y : ByteArray) : Steady P (Op.stringOp op x y) := by
  unfold Op.stringOp; dsimp only; split
  · split <;> first | exact Steady.pure _ | exact st_uns _
  all_goals first | exact Steady.pure _ | exact st_stuck _
theorem st_unary (op : UnOp) (x : Value) : Steady P (Op.unary op x) := by
  unfold Op.unary; split <;> first | exact st_arith .. | exact st_bits .. | exact Steady.pure _ | exact st_stuck _ | exact st_uns _
theorem st_followBlind : ∀ (l : List FieldStep) (t : TypeId) (x : Option Value), Steady P (followBlind l t x)
  | [], t, x => Steady.pure _
  | s :: l, t, x => by
    unfold followBlind
    have ih := fun t x => st_followBlind l t x
    repeat' (first | exact ih .. | exact st_stuck _ | exact Steady.pure _ | exact st_underlying _ | exact st_part .. | refine Steady.bind ?_ fun _ => ?_ | split | dsimp only)
theorem st_nilAhead : ∀ (n : Nat) (t : TypeId) (v : Value) (s : String), Steady P (nilAhead n t v s)
  | 0, t, v, s => Steady.pure _
  | n + 1, t, v, s => by
    unfold nilAhead
    have ih := fun t v s => st_nilAhead n t v s
    repeat' (first | exact ih .. | exact st_stuck _ | exact Steady.pure _ | exact st_underlying _ | exact st_info _ | exact st_followBlind .. | refine Steady.bind ?_ fun _ => ?_ | split | dsimp only)
theorem st_zero (t : TypeId) : Steady P (zeroValue t) := by
  unfold zeroValue
  repeat' (first | exact st_uns _ | exact Steady.pure _ | exact st_info _ | refine Steady.bind ?_ fun _ => ?_ | split | dsimp only)
theorem st_mapM {γ : Type} {f : γ → Sem β} (hf : ∀ x, Steady P (f x)) : ∀ l : List γ, Steady P (l.mapM f)
  | [] => by rw [List.mapM_nil]; exact Steady.pure _
  | x :: l => by
    rw [List.mapM_cons]
    exact (hf x).bind fun _ => (st_mapM hf l).bind fun _ => Steady.pure _
theorem st_build (t : TypeId) (ps : Array (Nat × Value)) : Steady P (Instr.build t ps) := by
  unfold Instr.build
  have hm : ∀ (fs : Array Field), Steady P (fs.mapM fun f => do pure (f.offset, ← sizeOf f.type)) := fun fs => by
    rw [Array.mapM_eq_mapM_toList]
    exact ⟨fun w v w' e => by
      rw [Sem.run_map] at e
      have := st_mapM (P := P) (f := fun f : Field => (do pure (f.offset, ← sizeOf f.type) : Sem (Nat × Nat))) (fun f => (st_size _).bind fun _ => Steady.pure _) fs.toList
      cases hr : (List.mapM (fun f : Field => (do pure (f.offset, ← sizeOf f.type) : Sem (Nat × Nat))) fs.toList).run P w with
      | ok x w1 =>
        rw [hr] at e
        obtain ⟨rfl, h2⟩ := this.out _ _ _ hr
        simp only [Result.andThen_ok, Result.ok.injEq] at e
        obtain ⟨rfl, rfl⟩ := e
        exact ⟨rfl, fun w2 => by rw [Sem.run_map, h2]; rfl⟩
      | halt x w1 => rw [hr] at e; cases e⟩
  repeat' (first | exact hm _ | exact st_stuck _ | exact Steady.pure _ | exact st_zero _ | exact st_size _ | exact st_underlying _ | refine Steady.bind ?_ fun _ => ?_ | split | dsimp only)
end
end Go.Proofs.Ytmhhejpokgdjoaa
namespace Go.Proofs.Ytmhhejpokgdjoaa
open Go Go.RowKit
set_option linter.unusedSimpArgs false
set_option linter.unusedVariables false

/-! ### The kinds of operations -/
def scalarV : Value → Bool
  | .int .. | .bool _ | .string _ => true
  | _ => false
def nilC : Operand → Bool
  | .const (.pointer none) | .const .nilFunc | .const .nilIface | .const (.slice none _ _) | .const (.map none) => true
  | _ => false
def fieldOk (P : Program) (s : TypeId) (f : Nat) : Bool :=
  match P.underlying s with
  | some (.struct fs) => (match fs[f]? with | some f => (match P.info? f.type with | some i => i.size != 0 | none => false) | none => false)
  | _ => false
def intT (P : Program) (t : TypeId) : Bool := match P.underlying t with | some (.int _) => true | _ => false
/-- 0: neither reads nor writes memory (where 'dyn' holds); 1: reads; 2: anything. -/
def structT (P : Program) (t : TypeId) : Bool := match P.underlying t with | some (.struct _) => true | _ => false
def cls (P : Program) (o : Oper) : Nat :=
  match o.op with
  | .move _ | .assign _ | .pick .. | .nilCheck _ | .index .. | .indexAddr .. | .field .. | .extract .. | .makeInterface .. | .makeFunc .. | .slice .. | .unOp .. | .build .. => 0
  | .binOp op t _ _ _ => if (op == .eql || op == .neq) && structT P t then 2 else 0
  | .fieldAddr s _ f => if fieldOk P s f then 0 else 2
  | .convert _ b _ => if intT P b then 0 else 2
  | .call { callee := .builtin .len, .. } => 0
  | .load .. => 1
  | _ => 2
def dyn (o : Oper) (a : Act) : Bool :=
  match o.op with
  | .binOp op _ x y _ => (scalarV (a.eval x) && scalarV (a.eval y)) || ((op == .eql || op == .neq) && (nilC x || nilC y))
  | .convert _ _ x => (match a.eval x with | .int .. => true | _ => false)
  | .call c => c.args.all fun x => match a.eval x with | .slice .. | .string _ => true | _ => false
  | _ => true

section
variable {P : Program}
theorem st_equal_scalar {t : TypeId} {x y : Value} {d : Nat} (hx : scalarV x = true) (hy : scalarV y = true) : Steady P (Op.equalIn (d + 1) t x y) := by
  unfold Op.equalIn
  refine (st_underlying t).bind fun u => ?_
  cases x <;> simp [scalarV] at hx <;> cases y <;> simp [scalarV] at hy <;>
    repeat' (first | exact st_stuck _ | exact Steady.pure _ | exact st_uns _ | contradiction | split)
def nilV (v : Value) : Prop := v = .pointer none ∨ v = .nilFunc ∨ v = .nilIface ∨ (∃ m n, v = .slice none m n) ∨ v = .map none
theorem nilV_of {x : Operand} {a : Act} (h : nilC x = true) : nilV (a.eval x) := by
  unfold nilC at h
  split at h
  · exact .inl rfl
  · exact .inr (.inl rfl)
  · exact .inr (.inr (.inl rfl))
  · exact .inr (.inr (.inr (.inl ⟨_, _, rfl⟩)))
  · exact .inr (.inr (.inr (.inr rfl)))
  · cases h
theorem st_equal_nilL {t : TypeId} {x y : Value} {d : Nat} (hx : nilV x) : Steady P (Op.equalIn (d + 1) t x y) := by
  unfold Op.equalIn
  refine (st_underlying t).bind fun u => ?_
  rcases hx with rfl | rfl | rfl | ⟨m, n, rfl⟩ | rfl <;> split <;>
    first | contradiction | exact st_stuck _ | exact Steady.pure _ | exact st_uns _ | (rename_i h; cases h; done) | (rename_i h; cases h; rename_i b; cases b <;> exact Steady.pure _) | (rename_i h; cases h; rename_i b _; cases b <;> exact Steady.pure _) | trace_state
theorem st_equal_nilR {t : TypeId} {x y : Value} {d : Nat} (hx : nilV y) : Steady P (Op.equalIn (d + 1) t x y) := by
  unfold Op.equalIn
  refine (st_underlying t).bind fun u => ?_
  rcases hx with rfl | rfl | rfl | ⟨m, n, rfl⟩ | rfl <;> split <;>
    first | contradiction | exact st_stuck _ | exact Steady.pure _ | exact st_uns _ | (rename_i h; cases h; done) | (rename_i h; cases h; rename_i b; cases b <;> exact Steady.pure _) | (rename_i h; cases h; rename_i b _; cases b <;> exact Steady.pure _) | trace_state
theorem st_binOp {op : BinOp} {t : TypeId} {x y : Value} (hs : scalarV x = true) (hy : scalarV y = true) : Steady P (binOp op t x y) := by
  unfold binOp
  cases x <;> first | (cases hs; done) | skip
  all_goals cases y <;> first | (cases hy; done) | skip
  all_goals
    repeat' (first | exact st_shift .. | exact st_arith .. | exact st_div .. | exact st_bits .. | exact st_cmp .. | exact st_str .. | exact st_stuck _ | exact st_uns _ | (refine Steady.bind (st_equal_scalar rfl rfl) fun _ => Steady.pure _) | contradiction | split)
theorem st_eqGuard_scalar {op : BinOp} {t : TypeId} {x y : Operand} {a b : Value} (hs : scalarV a = true) : Steady P (eqGuard op t x y a b) := by
  unfold eqGuard
  cases a <;> first | (cases hs; done) | skip
  all_goals cases b <;> repeat' (first | exact Steady.pure _ | exact Steady.bind (Steady.pure _) fun _ => Steady.pure _ | split | dsimp only)
theorem st_binOp_nil {op : BinOp} {t : TypeId} {x y : Value} (ho : op = .eql ∨ op = .neq) (h : nilV x ∨ nilV y) : Steady P (binOp op t x y) := by
  have he : Steady P (Op.equal t x y) := by
    unfold Op.equal Op.maxDepth
    rcases h with h | h
    · exact st_equal_nilL h
    · exact st_equal_nilR h
  have e1 : Steady P (do pure (.bool (← Op.equal t x y)) : Sem Value) := he.bind fun _ => Steady.pure _
  have e2 : Steady P (do pure (.bool (!(← Op.equal t x y))) : Sem Value) := he.bind fun _ => Steady.pure _
  unfold binOp
  rcases ho with rfl | rfl <;> split <;>
    first | exact e1 | exact e2 | contradiction | (rcases h with h | h <;> rcases h with h | h | h | ⟨_, _, h⟩ | h <;> cases h) | exact st_stuck _
theorem nilC_const {x : Operand} (h : nilC x = true) : ∃ v, x = .const v := by
  unfold nilC at h; split at h <;> first | exact ⟨_, rfl⟩ | cases h
theorem st_eqGuard_nil {op : BinOp} {t : TypeId} {x y : Operand} {a : Act} (h : nilC x = true ∨ nilC y = true) : Steady P (eqGuard op t x y (a.eval x) (a.eval y)) := by
  have hn : nilV (a.eval x) ∨ nilV (a.eval y) := h.imp nilV_of nilV_of
  have hc : ∃ v, x = .const v ∨ y = .const v := by
    rcases h with h | h <;> obtain ⟨v, hv⟩ := nilC_const h
    · exact ⟨v, .inl hv⟩
    · exact ⟨v, .inr hv⟩
  generalize a.eval x = v at *
  generalize a.eval y = u at *
  unfold eqGuard
  obtain ⟨c, rfl | rfl⟩ := hc <;> cases op <;> first | exact Steady.pure _ | skip
  all_goals
    change Steady P (match v, u with | .nilIface, .nilIface => _ | .agg _, .agg _ => _ | _, _ => _)
    split
    · first | exact Steady.pure _ | (rw [if_pos (by simp)]; exact Steady.pure _)
    · rcases hn with h | h <;> rcases h with h | h | h | ⟨_, _, h⟩ | h <;> cases h
    · exact Steady.pure _
theorem st_len {ts : Array TypeId} {t : TypeId} {xs : Array Value} (h : xs.all (fun v => match v with | .slice .. | .string _ => true | _ => false) = true) : Steady P (Builtin.len_ ts t xs) := by
  unfold Builtin.len_
  split
  · rename_i ty x h1
    simp only [Prod.mk.injEq] at h1
    have hx := Array.all_eq_true'.1 h _ (Array.mem_of_getElem? h1.2)
    refine (st_underlying _).bind fun d => ?_
    cases x <;> first | (cases hx; done) | skip
    all_goals repeat' (first | exact st_stuck _ | exact Steady.pure _ | exact st_underlying _ | contradiction | refine Steady.bind ?_ fun _ => ?_ | split)
  · exact st_stuck _
theorem st_fieldAt {s : TypeId} {x : Value} {f : Nat} (h : fieldOk P s f = true) : Steady P (Instr.fieldAt s x f) := by
  unfold Instr.fieldAt fieldPlace
  refine ⟨fun w v w' e => ?_⟩
  unfold fieldOk at h
  cases hu : P.underlying s with
  | none => rw [hu] at h; cases h
  | some d =>
    have hrun : ∀ w, (underlying s).run P w = .ok d w := fun w => by unfold underlying; simp [hu]
    rw [hu] at h
    cases d <;> first | (cases h; done) | skip
    rename_i fs
    dsimp only at h
    cases hf : fs[f]? with
    | none => rw [hf] at h; cases h
    | some fd =>
      rw [hf] at h
      dsimp only at h
      cases hi : P.info? fd.type with
      | none => rw [hi] at h; cases h
      | some i =>
        rw [hi] at h
        have hz : i.size ≠ 0 := by simpa using h
        have hsz : ∀ w, (sizeOf fd.type).run P w = .ok i.size w := fun w => by unfold sizeOf typeInfo; simp [hi]
        simp only [Sem.run_bind, hrun, Result.andThen_ok, hf] at e ⊢
        cases x <;> simp only [Instr.sureAddr, run_stuck, Result.andThen_halt, reduceCtorEq] at e
        rename_i ad
        cases ad with
        | none => simp only [run_stuck, Result.andThen_halt, reduceCtorEq] at e
        | some ad =>
          simp only [Sem.run_pure, Result.andThen_ok, Sem.run_bind, hsz, if_neg hz, Result.ok.injEq] at e ⊢
          obtain ⟨rfl, rfl⟩ := e
          exact ⟨rfl, fun w2 => by simp [Instr.sureAddr, hsz, hz]⟩
theorem st_convert {s t : TypeId} {k : IntKind} {n : Int} (h : intT P t = true) : Steady P (convert s t (.int k n)) := by
  unfold intT at h
  unfold convert
  refine (st_underlying _).bind fun d1 => ?_
  refine ⟨fun w v w' e => ?_⟩
  cases hu : P.underlying t with
  | none => rw [hu] at h; cases h
  | some d =>
    have hrun : ∀ w, (underlying t).run P w = .ok d w := fun w => by unfold underlying; simp [hu]
    rw [hu] at h
    cases d <;> first | (cases h; done) | skip
    simp only [Sem.run_bind, hrun, Result.andThen_ok, Conv.intToInt, Sem.run_pure, Result.ok.injEq] at e ⊢
    obtain ⟨rfl, rfl⟩ := e
    exact ⟨rfl, fun _ => by simp⟩
end
end Go.Proofs.Ytmhhejpokgdjoaa
namespace Go.Proofs.Ytmhhejpokgdjoaa
open Go Go.RowKit
set_option linter.unusedSimpArgs false
set_option linter.unusedVariables false

/-- It leaves the world as it is, wherever it succeeds, and gives a value. -/
def Keeps (P : Program) (s : Sem Next) : Prop := ∀ w v w', s.run P w = .ok v w' → w' = w ∧ ∃ u, v = .value u
section
variable {P : Program}
theorem Keeps.of {s : Sem Value} (h : Steady P s) : Keeps P (do pure (.value (← s))) := fun w v w' e => by
  rw [Sem.run_bind] at e
  cases hr : s.run P w with
  | ok x w1 =>
    rw [hr] at e
    simp only [Result.andThen_ok, Sem.run_pure, Result.ok.injEq] at e
    exact ⟨e.2 ▸ (h.out _ _ _ hr).1, x, e.1.symm⟩
  | halt x w1 => rw [hr] at e; cases e
theorem load_keeps {α : Type} {a : Addr} {k : Value → Sem α} {w w' : World} {v : α} (e : (Go.load a >>= k).run P w = .ok v w') : ∃ u, (k u).run P w = .ok v w' := by
  rw [Sem.run_bind] at e
  cases hr : (Go.load a).run P w with
  | ok x w1 =>
    rw [hr] at e
    have : w1 = w := by
      have h0 : (Go.load a).run P w = .ok x w1 := hr
      unfold Go.load at h0
      simp only [Sem.run] at h0
      split at h0
      · cases h0; rfl
      · split at h0
        · cases h0; rfl
        · cases h0
    subst this
    exact ⟨x, e⟩
  | halt x w1 => rw [hr] at e; cases e
theorem loadCells_keeps {a : Addr} : ∀ (n i : Nat) (acc : Array Value) (w w' : World) (v : Array Value), (loadCellsFrom a i n acc).run P w = .ok v w' → w' = w
  | 0, i, acc, w, w', v, e => by cases e; rfl
  | n + 1, i, acc, w, w', v, e => by
    unfold loadCellsFrom at e
    obtain ⟨u, e⟩ := load_keeps e
    exact loadCells_keeps n _ _ _ _ _ e
theorem load_keeps0 {a : Addr} {w w' : World} {v : Value} (e : (Go.load a).run P w = .ok v w') : w' = w := by
  have e' : ((Go.load a) >>= fun x => pure x).run P w = .ok v w' := by rw [Sem.run_bind, e]; rfl
  obtain ⟨u, h⟩ := load_keeps e'
  cases h; rfl
theorem loadVar_keeps {t : TypeId} {a : Addr} {w w' : World} {v : Value} (e : (loadVar t a).run P w = .ok v w') : w' = w := by
  unfold loadVar at e
  rw [Sem.run_bind] at e
  cases hr : (isAgg t).run P w with
  | ok b w1 =>
    rw [hr] at e
    have h1 := (st_isAgg (P := P) t).out _ _ _ hr
    obtain ⟨rfl, _⟩ := h1
    simp only [Result.andThen_ok] at e
    split at e
    · rw [Sem.run_bind] at e
      cases hs : (sizeOf t).run P w1 with
      | ok n w2 =>
        rw [hs] at e
        obtain ⟨rfl, _⟩ := (st_size (P := P) t).out _ _ _ hs
        simp only [Result.andThen_ok, Sem.run_bind] at e
        unfold loadCells at e
        cases hl : (loadCellsFrom a 0 n #[]).run P w2 with
        | ok cs w3 =>
          rw [hl] at e
          have := loadCells_keeps _ _ _ _ _ _ hl
          simp only [Result.andThen_ok, Sem.run_pure, Result.ok.injEq] at e
          rw [← e.2, this]
        | halt x w3 => rw [hl] at e; cases e
      | halt x w2 => rw [hs] at e; cases e
    · exact load_keeps0 e
  | halt x w1 => rw [hr] at e; cases e

theorem st_value {s : Sem Value} (h : Steady P s) : Steady P (do pure (.value (← s)) : Sem Next) := h.bind fun _ => Steady.pure _
/-- Class 0, under 'dyn': steady. -/
theorem steady_of {o : Oper} {a : Act} (h : cls P o = 0) (hd : dyn o a = true) : Steady P (execOp a.eval o) := by
  unfold cls at h
  unfold dyn at hd
  unfold execOp
  cases ho : o.op <;> rw [ho] at h hd <;> (first | (cases h; done) | skip) <;> dsimp only at h hd ⊢
  case move x => exact Steady.pure _
  case assign x => exact Steady.pure _
  case pick c x y => exact (st_bool _).bind fun _ => Steady.pure _
  case build t ps => exact st_value (st_build ..)
  case nilCheck x =>
    repeat' (first | exact st_rt _ | exact Steady.pure _ | exact st_nilAhead .. | exact st_uns _ | exact Steady.program | refine Steady.bind ?_ fun _ => ?_ | split)
  case binOp op t x y t' =>
    simp only [Bool.or_eq_true, Bool.and_eq_true] at hd
    refine st_value ?_
    rcases hd with ⟨hx, hy⟩ | ⟨hop, hn⟩
    · exact (st_eqGuard_scalar hx).bind fun _ => st_binOp hx hy
    · refine (st_eqGuard_nil hn).bind fun _ => st_binOp_nil ?_ (hn.imp nilV_of nilV_of)
      rcases hop with h | h
      · exact .inl (by simpa using h)
      · exact .inr (by simpa using h)
  case unOp op t x => exact st_value (st_unary ..)
  case convert s t x =>
    cases hx : a.eval x <;> rw [hx] at hd <;> (first | (cases hd; done) | skip)
    by_cases hi : intT P t = true
    · exact st_value (st_convert hi)
    · rw [if_neg hi] at h; cases h
  case makeInterface t x => exact st_value (st_iface ..)
  case makeFunc f xs ys => exact st_value (Steady.pure _)
  case slice t x lo hi mx => exact st_value (st_slice ..)
  case fieldAddr s x f =>
    by_cases hi : fieldOk P s f = true
    · exact st_value (st_fieldAt hi)
    · rw [if_neg hi] at h; cases h
  case field t x f => exact st_value (st_field ..)
  case indexAddr t x i => exact st_value (st_index ..)
  case index t x i => exact st_value (st_idx ..)
  case extract x i => exact st_value (st_extract ..)
  case call c =>
    obtain ⟨callee, args, ats⟩ := c
    cases callee with
    | builtin b =>
      cases b <;> (first | (cases h; done) | skip)
      dsimp only at hd
      exact st_value (s := Builtin.len_ _ _ _) (st_len (by simpa using hd))
    | value f => cases h
    | invoke r m => cases h
def Vals (P : Program) (s : Sem Next) : Prop := ∀ w v w', s.run P w = .ok v w' → ∃ u, v = .value u
theorem Vals.pure (u : Value) : Vals P (Pure.pure (Next.value u)) := fun w v w' e => by cases e; exact ⟨u, rfl⟩
theorem Vals.bind {α : Type} {s : Sem α} {f : α → Sem Next} (hf : ∀ x, Vals P (f x)) : Vals P (s >>= f) := fun w v w' e => by
  rw [Sem.run_bind] at e
  cases hr : s.run P w with
  | ok x w1 => rw [hr] at e; exact hf x _ _ _ e
  | halt x w1 => rw [hr] at e; cases e
theorem Vals.dead {s : Sem Next} (h : Dead P s) : Vals P s := fun w v w' e => by
  obtain ⟨x, w1, e1⟩ := h.out w; rw [e1] at e; cases e
theorem vals_of {o : Oper} {ρ : Operand → Value} (h : cls P o ≤ 1) : Vals P (execOp ρ o) := by
  unfold cls at h
  unfold execOp
  cases ho : o.op <;> rw [ho] at h <;> dsimp only at h ⊢ <;> (first | (exact absurd h (by decide)) | skip)
  case nilCheck x =>
    repeat' (first | exact Vals.dead (dead_rt _) | exact Vals.pure _ | exact Vals.dead (Dead.halt _) | exact Vals.dead (Dead.bind (Dead.halt _)) | refine Vals.bind fun _ => ?_ | split)
  case call c =>
    obtain ⟨callee, args, ats⟩ := c
    cases callee with
    | builtin b =>
      cases b <;> dsimp only at h <;> (first | (exact absurd h (by decide)) | skip)
      exact Vals.bind (s := Builtin.len_ _ _ _) fun _ => Vals.pure _
    | value f => dsimp only at h; exact absurd h (by decide)
    | invoke r m => dsimp only at h; exact absurd h (by decide)
  all_goals first | exact Vals.pure _ | exact Vals.bind fun _ => Vals.pure _
/-- Class 0 or 1: the world is left alone, and the result is a value. -/
theorem keeps_of {o : Oper} {a : Act} (h : cls P o ≤ 1) (hd : dyn o a = true) : Keeps P (execOp a.eval o) := by
  intro w v w' e
  refine ⟨?_, vals_of h _ _ _ e⟩
  rcases Nat.lt_or_ge (cls P o) 1 with h0 | h1
  · exact ((steady_of (P := P) (o := o) (a := a) (by omega) hd).out _ _ _ e).1
  · unfold cls at h h1
    unfold execOp at e
    cases ho : o.op <;> rw [ho] at h h1 e <;> dsimp only at h h1 e <;> (first | (exact absurd h1 (by decide)) | (exact absurd h (by decide)) | skip)
    case load t x =>
      rw [Sem.run_bind] at e
      cases hr : (Instr.loadAt t (a.eval x)).run P w with
      | ok u w1 =>
        rw [hr] at e
        cases e
        unfold Instr.loadAt at hr
        rw [Sem.run_bind] at hr
        cases hs : (Instr.sureAddr (a.eval x)).run P w with
        | ok ad w2 =>
          rw [hs] at hr
          obtain ⟨rfl, _⟩ := (st_addr (P := P) (a.eval x)).out _ _ _ hs
          exact loadVar_keeps hr
        | halt y w2 => rw [hs] at hr; cases hr
      | halt y w1 => rw [hr] at e; cases e
    case binOp => split at h1 <;> first | (exact absurd h1 (by decide)) | (rename_i hh; rw [if_pos hh] at h; exact absurd h (by decide))
    case convert => split at h1 <;> first | (exact absurd h1 (by decide)) | (rename_i hh; rw [if_neg hh] at h; exact absurd h (by decide))
    case fieldAddr => split at h1 <;> first | (exact absurd h1 (by decide)) | (rename_i hh; rw [if_neg hh] at h; exact absurd h (by decide))
    case call c =>
      obtain ⟨callee, args, ats⟩ := c
      cases callee with
      | builtin b => cases b <;> dsimp only at h h1 <;> first | (exact absurd h1 (by decide)) | (exact absurd h (by decide))
      | value f => dsimp only at h; exact absurd h (by decide)
      | invoke r m => dsimp only at h; exact absurd h (by decide)
end
end Go.Proofs.Ytmhhejpokgdjoaa
namespace Go.Proofs.Ytmhhejpokgdjoaa
open Go Go.RowKit
set_option linter.unusedSimpArgs false
set_option linter.unusedVariables false

/-- Does j wait for i, through others? -/
def depB (md : Region.Mode) (ops : Array Oper) (i : Nat) : Nat → Nat → Bool
  | 0, _ => false
  | n + 1, j => match ops[j]? with
    | some o => o.after.any fun e => Region.binds md e && (e.on == i || depB md ops i n e.on)
    | none => false
def Shutl (md : Region.Mode) (ops : Array Oper) (listed : Array Bool) : Prop :=
  ∀ j o, ops[j]? = some o → listed.getD j false = true → ∀ e ∈ o.after, Region.binds md e = true → listed.getD e.on false = true

section
variable {F : Fence} {n : Nat} {P : Program} {ops : Array Oper} {Q : Exit → Act → World → Prop} {md : Region.Mode} {S : World → Prop}

theorem dep_listed {listed : Array Bool} (hs : Shutl md ops listed) {i : Nat} : ∀ (k j : Nat) (o : Oper), ops[j]? = some o → (∀ e ∈ o.after, Region.binds md e = true → listed.getD e.on false = true) →
    depB md ops i k j = true → listed.getD i false = true
  | 0, j, o, ho, ha, h => by cases h
  | k + 1, j, o, ho, ha, h => by
    unfold depB at h
    rw [ho] at h
    obtain ⟨e, he, h⟩ := Array.any_eq_true'.1 h
    simp only [Bool.and_eq_true, Bool.or_eq_true, beq_iff_eq] at h
    have hl := ha e he h.1
    rcases h.2 with h2 | h2
    · rw [← h2]; exact hl
    · cases hj : ops[e.on]? with
      | none => cases k <;> simp [depB, hj] at h2
      | some o2 => exact dep_listed hs k e.on o2 hj (hs e.on o2 hj hl) h2

/-- Every order, S holding at each world between two operations. -/
def wpD (F : Fence) (n : Nat) (P : Program) (md : Region.Mode) (ops : Array Oper) (S : World → Prop) (Q : Exit → Act → World → Prop) (B : Array Bool → Act → World → Prop) : Nat → Array Bool → Act → World → Prop
  | 0, listed, a, w => S w ∧ B listed a w
  | k + 1, listed, a, w =>
    S w ∧ (Region.ready md ops listed = [] → Q .normal a w) ∧
    ∀ i ∈ Region.ready md ops listed, ∃ o, ops[i]? = some o ∧ (Region.wanted o (yielded ops a.tmps) = true → cls P o ≤ 1 → dyn o a = true) ∧
      wpOpIn F n P ops Q i (wpD F n P md ops S Q B k (listed.setIfInBounds i true)) a w

theorem wpD_any {B : Array Bool → Act → World → Prop} {m : Nat} (hB : ∀ listed a w, B listed a w → wpAnyIn F n P md ops Q m listed a w) : ∀ (k : Nat) (listed : Array Bool) (a : Act) (w : World), wpD F n P md ops S Q B k listed a w → wpAnyIn F n P md ops Q (k + m) listed a w
  | 0, listed, a, w, h => by rw [Nat.zero_add]; exact hB _ _ _ h.2
  | k + 1, listed, a, w, h => by
    rw [Nat.add_right_comm]
    exact ⟨h.2.1, fun i hi => by
      obtain ⟨o, ho, hd, h2⟩ := h.2.2 i hi
      exact wpOpIn_mono (fun a w => wpD_any hB k _ a w) h2⟩
theorem wpD_S {B : Array Bool → Act → World → Prop} : ∀ {k : Nat} {listed : Array Bool} {a : Act} {w : World}, wpD F n P md ops S Q B k listed a w → S w
  | 0, _, _, _, h => h.1
  | _ + 1, _, _, _, h => h.1

/-- In every world that keeps S it gives what it gives here. -/
def Firm (P : Program) (S : World → Prop) (o : Oper) (a : Act) : Prop :=
  ∀ w w' v, S w → S w' → (execOp a.eval o).run P w = .ok v w → (execOp a.eval o).run P w' = .ok v w'
theorem firm_of {o : Oper} {a : Act} (h : cls P o = 0) (hd : dyn o a = true) : Firm P S o a := fun w w' v _ _ e => ((steady_of h hd).out _ _ _ e).2 w'

theorem dyn_put {o oi : Oper} {a : Act} {v : Value} (h : oi.apart ops o = true) : dyn o (a.put oi.dst v) = dyn o a := by
  obtain ⟨h1, h2, h3⟩ := Oper.apart_spec h
  have he : ∀ x ∈ o.op.operands, (a.put oi.dst v).eval x = a.eval x := fun x hx => Act.eval_put fun d hd hxd => h1 d hd (by
    subst hxd
    exact List.mem_append_left _ (List.mem_filterMap.2 ⟨.tmp d, by simpa using hx, rfl⟩))
  unfold dyn
  cases ho : o.op <;> dsimp only
  case binOp op t x y t' => rw [he x (by rw [ho]; simp [Op.operands]), he y (by rw [ho]; simp [Op.operands])]
  case convert s t x => rw [he x (by rw [ho]; simp [Op.operands])]
  case call c =>
    have : ∀ x ∈ c.args, (a.put oi.dst v).eval x = a.eval x := fun x hx => he x (by rw [ho]; simp [Op.operands, Call.operands, hx])
    rw [Bool.eq_iff_iff, Array.all_eq_true', Array.all_eq_true']
    exact ⟨fun h x hx => by rw [← this x hx]; exact h x hx, fun h x hx => by rw [this x hx]; exact h x hx⟩

def plainOps (ops : Array Oper) : Bool := ops.all fun o => match o.op with | .select .. => false | .defer _ => false | _ => true
theorem plain_sel (h : plainOps ops = true) {i : Nat} {o : Oper} (ho : ops[i]? = some o) : (∀ cs b, o.op ≠ .select cs b) ∧ ∀ c, o.op ≠ .defer c := by
  have := Array.all_eq_true'.1 h o (Array.mem_of_getElem? ho)
  exact ⟨fun cs b e => (by rw [e] at this; cases this), fun c e => (by rw [e] at this; cases this)⟩

theorem ready_step {i j : Nat} {listed : Array Bool} (hj : j ∈ Region.ready md ops listed) (hne : j ≠ i) : j ∈ Region.ready md ops (listed.setIfInBounds i true) := ready_mono hj hne
theorem ready_some {j : Nat} {listed : Array Bool} (h : j ∈ Region.ready md ops listed) : ∃ o, ops[j]? = some o ∧ listed.getD j true = false ∧ ∀ e ∈ o.after, Region.binds md e = true → listed.getD e.on false = true := by
  have := mem_ready.1 h
  simp only [Region.ready, List.mem_filter, List.mem_range, Bool.and_eq_true, Bool.not_eq_true'] at h
  obtain ⟨h1, h2, h3⟩ := h
  refine ⟨ops[j], Array.getElem?_eq_getElem h1, h2, fun e he hb => ?_⟩
  rw [Array.getElem?_eq_getElem h1] at h3
  simp only [Option.map_some, Option.getD_some] at h3
  have := Array.all_eq_true'.1 h3 e he
  rw [hb] at this
  simpa using this
theorem shut_step {i : Nat} {listed : Array Bool} (hs : Shutl md ops listed) (hi : i ∈ Region.ready md ops listed) : Shutl md ops (listed.setIfInBounds i true) := by
  intro j o ho hl e he hb
  by_cases hji : j = i
  · subst hji
    obtain ⟨o', ho', _, ha⟩ := ready_some hi
    rw [ho] at ho'; cases ho'
    exact getD_set_true (ha e he hb)
  · rw [getD_set_ne _ (Ne.symm hji)] at hl
    exact getD_set_true (hs j o ho hl e he hb)

/-- An operation's outcome, in this world: its value; or it is passed over. -/
def Out (P : Program) (ops : Array Oper) (o : Oper) (a : Act) (w : World) (v : Value) : Prop :=
  (Region.wanted o (yielded ops a.tmps) = true ∧ (execOp a.eval o).run P w = .ok (.value v) w) ∨ (Region.wanted o (yielded ops a.tmps) = false ∧ v = undef)

/-- Where B holds, none of two that were ready is left. -/
def Bare (md : Region.Mode) (ops : Array Oper) (B : Array Bool → Act → World → Prop) : Prop :=
  ∀ listed a w i j, Shutl md ops listed → i ∈ Region.ready md ops listed → j ∈ Region.ready md ops listed → j ≠ i → B (listed.setIfInBounds i true) a w → False
theorem bare_end {Q : Act → World → Prop} : Bare md ops fun listed a w => Region.ready md ops listed = [] ∧ Q a w := by
  intro listed a w i j _ _ hj hne h
  have := ready_step hj hne
  rw [h.1] at this; cases this
theorem bare_close {x : Nat} (hx : ∀ i, i < ops.size → i ≠ x → depB md ops i ops.size x = true) {Q : Array Bool → Act → World → Prop} : Bare md ops fun listed a w => Region.ready md ops listed = [x] ∧ Q listed a w := by
  intro listed a w i j hs hi hj hne h
  have h1 := ready_step hj hne
  rw [h.1] at h1
  have : j = x := by simpa using h1
  subst this
  obtain ⟨oj, hoj, _, haf⟩ := ready_some hj
  obtain ⟨oi, hoi, h2, _⟩ := ready_some hi
  have h1 := dep_listed hs _ j oj hoj haf (hx i (Array.getElem?_eq_some_iff.1 hoi).1 (Ne.symm hne))
  rcases Nat.lt_or_ge i listed.size with hlt | hge
  · simp [hlt] at h1 h2
    rw [h1] at h2; cases h2
  · simp [hge] at h2

theorem take {B : Array Bool → Act → World → Prop} (hBare : Bare md ops B) {i : Nat} {oi : Oper} {firm : Bool} (hi : ops[i]? = some oi) (hc : cls P oi ≤ 1) (hp : plainOps ops = true) (hQ : ∀ c a w, ¬ Q (.panic c) a w) (hF : ∀ f, F.fn f) :
    ∀ (k : Nat) (listed : Array Bool) (a : Act) (w : World) (v : Value), Shutl md ops listed → i ∈ Region.ready md ops listed → S w →
      (∀ j oj, ops[j]? = some oj → j ≠ i → listed.getD j true = false → depB md ops i ops.size j = false → oi.apart ops oj = true ∧ (firm = true ∨ cls P oj ≤ 1)) →
      (Region.wanted oi (yielded ops a.tmps) = true → dyn oi a = true ∧ (firm = true → Firm P S oi a)) → Out P ops oi a w v →
      wpD F n P md ops S Q B k (listed.setIfInBounds i true) (a.put oi.dst v) w → wpD F n P md ops S Q B (k + 1) listed a w := by
  intro k listed a w v hs hr hS hap hd ho h
  have self : wpOpIn F n P ops Q i (wpD F n P md ops S Q B k (listed.setIfInBounds i true)) a w := by
    unfold wpOpIn
    rw [hi]
    dsimp only
    rcases ho with ⟨hw, hv⟩ | ⟨hw, rfl⟩
    · rw [if_pos hw]
      refine ⟨fun f _ => hF f, ?_⟩
      rw [Oper.semAt_eq _ _ _ (plain_sel hp hi).2, hv]
      exact h
    · rw [if_neg (by rw [hw]; simp)]
      exact ⟨fun f _ => hF f, h⟩
  refine ⟨hS, fun h0 => (by rw [h0] at hr; cases hr), fun j hj => ?_⟩
  by_cases hne : j = i
  · subst hne
    exact ⟨oi, hi, fun hw _ => (hd hw).1, self⟩
  induction k generalizing listed a w v j with
  | zero =>
    exact (hBare _ _ _ _ _ hs hr hj hne h.2).elim
  | succ k ih =>
    obtain ⟨oj, hoj, hun, haf⟩ := ready_some hj
    have hdep : depB md ops i ops.size j = false := by
      cases hq : depB md ops i ops.size j with
      | false => rfl
      | true =>
        have h1 := dep_listed hs _ j oj hoj haf hq
        obtain ⟨_, _, h2, _⟩ := ready_some hr
        rcases Nat.lt_or_ge i listed.size with hlt | hge
        · simp [hlt] at h1 h2
          rw [h1] at h2; cases h2
        · simp [hge] at h2
    obtain ⟨hapj, hclj⟩ := hap j oj hoj hne hun hdep
    obtain ⟨h1, h2, h3⟩ := Oper.apart_spec hapj
    obtain ⟨oj', hoj', hdj, hop⟩ := h.2.2 j (ready_step hj hne)
    rw [hoj] at hoj'; cases hoj'
    rw [dyn_put hapj, wanted_put oj a oi.dst v h1] at hdj
    refine ⟨oj, hoj, hdj, ?_⟩
    unfold wpOpIn at hop ⊢
    rw [hoj] at hop ⊢
    dsimp only at hop ⊢
    rw [wanted_put oj a oi.dst v h1] at hop
    have hcm : (listed.setIfInBounds i true).setIfInBounds j true = (listed.setIfInBounds j true).setIfInBounds i true := by
      apply Array.ext'
      simp only [Array.toList_setIfInBounds]
      exact List.set_comm _ _ (Ne.symm hne)
    have hap' : ∀ k ok, ops[k]? = some ok → k ≠ i → (listed.setIfInBounds j true).getD k true = false → depB md ops i ops.size k = false → oi.apart ops ok = true ∧ (firm = true ∨ cls P ok ≤ 1) := by
      intro k ok hk hki hkl hkd
      refine hap k ok hk hki ?_ hkd
      by_cases hkj : k = j
      · subst hkj; exact hun
      · rwa [getD_set_ne _ (Ne.symm hkj)] at hkl
    have hap2 : oj.apart ops oi = true := by
      unfold Oper.apart
      rw [Bool.and_eq_true]
      refine ⟨?_, ?_⟩
      · cases hdst : oj.dst with
        | none => rfl
        | some d =>
          have e1 := h3 d hdst
          have e2 : oi.dst ≠ some d := fun e => h2 d e hdst
          simp [e1, e2]
      · cases hdst : oi.dst with
        | none => rfl
        | some d => simp [h1 d hdst]
    have heq : ∀ (b : Act) (u : Value), b.tmps = a.tmps → execOp (b.put oj.dst u).eval oi = execOp a.eval oi := by
      intro b u hb
      have heb : b.eval = a.eval := by funext x; cases x <;> simp [Act.eval, hb]
      rw [execOp_put oi (plain_sel hp hi).1 b oj.dst u h3, heb]
    have keep : ∀ (b : Act) (u : Value) (w' : World), b.tmps = a.tmps → S w' → (firm = true ∨ w' = w) → Out P ops oi (b.put oj.dst u) w' v := by
      intro b u w' hb hS' hw'
      unfold Out
      rw [wanted_put oi b oj.dst u h3, heq b u hb, hb]
      rcases ho with ⟨hw, hv⟩ | ho
      · refine .inl ⟨hw, ?_⟩
        rcases hw' with h0 | rfl
        · exact (hd hw).2 h0 w w' _ hS hS' hv
        · exact hv
      · exact .inr ho
    have go : ∀ (b : Act) (u : Value) (w' : World), b.tmps = a.tmps → (firm = true ∨ w' = w) → wpD F n P md ops S Q B k ((listed.setIfInBounds i true).setIfInBounds j true) ((b.put oi.dst v).put oj.dst u) w' →
        wpD F n P md ops S Q B (k + 1) (listed.setIfInBounds j true) (b.put oj.dst u) w' := by
      intro b u w' hb hw' hq
      have hS' : S w' := wpD_S hq
      have hd' : Region.wanted oi (yielded ops (b.put oj.dst u).tmps) = true → dyn oi (b.put oj.dst u) = true ∧ (firm = true → Firm P S oi (b.put oj.dst u)) := by
        rw [wanted_put oi b oj.dst u h3, hb]
        intro hw
        rw [dyn_put hap2]
        have heb : b.eval = a.eval := by funext x; cases x <;> simp [Act.eval, hb]
        have : dyn oi b = dyn oi a := by unfold dyn; rw [heb]
        rw [this]
        refine ⟨(hd hw).1, fun hf => ?_⟩
        unfold Firm
        rw [heq b u hb]
        exact (hd hw).2 hf
      have hq' : wpD F n P md ops S Q B k ((listed.setIfInBounds j true).setIfInBounds i true) ((b.put oj.dst u).put oi.dst v) w' := by
        rw [← hcm, ← Act.put_comm b v u h2]
        exact hq
      have hr' : i ∈ Region.ready md ops (listed.setIfInBounds j true) := ready_step hr (Ne.symm hne)
      have ho' := keep b u w' hb hS' hw'
      have self' : wpOpIn F n P ops Q i (wpD F n P md ops S Q B k ((listed.setIfInBounds j true).setIfInBounds i true)) (b.put oj.dst u) w' := by
        unfold wpOpIn
        rw [hi]
        dsimp only
        rcases ho' with ⟨hw, hv⟩ | ⟨hw, hv⟩
        · rw [if_pos hw]
          refine ⟨fun f _ => hF f, ?_⟩
          rw [Oper.semAt_eq _ _ _ (plain_sel hp hi).2, hv]
          exact hq'
        · rw [if_neg (by rw [hw]; simp), ← hv]
          exact ⟨fun f _ => hF f, hq'⟩
      refine ⟨hS', fun h0 => (by rw [h0] at hr'; cases hr'), fun j' hj' => ?_⟩
      by_cases hne' : j' = i
      · subst hne'
        exact ⟨oi, hi, fun hw _ => (hd' hw).1, self'⟩
      · exact ih (listed.setIfInBounds j true) (b.put oj.dst u) w' v (shut_step hs hj) hr' hS' hap' hd' ho' hq' self' j' hj' hne'
    by_cases hw : Region.wanted oj (yielded ops a.tmps) = true
    · rw [if_pos hw] at hop ⊢
      refine ⟨fun f _ => hF f, ?_⟩
      have hop := hop.2
      rw [Oper.semAt_eq _ _ _ (plain_sel hp hoj).2, execOp_put oj (plain_sel hp hoj).1 a oi.dst v h1] at hop
      rw [Oper.semAt_eq _ _ _ (plain_sel hp hoj).2]
      have hk : firm = true ∨ Keeps P (execOp a.eval oj) := hclj.imp id fun hc1 => keeps_of hc1 (hdj hw hc1)
      cases hrun : (execOp a.eval oj).run P w with
      | ok x w' =>
        rw [hrun] at hop
        have hk' : firm = true ∨ (w' = w ∧ ∃ u, x = .value u) := hk.imp id fun h => h _ _ _ hrun
        cases x <;> simp only [Oper.uponIn] at hop ⊢
        case value u => exact go a u w' rfl (hk'.imp id (·.1)) hop
        case skip => exact go a undef w' rfl (hk'.imp id (·.1)) hop
        case defer d =>
          refine go { a with defers := d :: a.defers } undef w' rfl (hk'.imp id (·.1)) ?_
          rw [← Act.put_defers]
          exact hop
        case enter f args =>
          have h0 : firm = true := hk'.resolve_right fun h => by obtain ⟨_, u, hu⟩ := h; cases hu
          refine ⟨hop.1, CallsIn.mono hop.2 fun e w'' he => ?_⟩
          cases e with
          | returned u => exact go a u w'' rfl (.inl h0) he
          | panicked c => exact absurd he (hQ _ _ _)
          | outgrown => exact he
        case row row args =>
          have h0 : firm = true := hk'.resolve_right fun h => by obtain ⟨_, u, hu⟩ := h; cases hu
          exact ⟨hop.1, RowsIn.mono hop.2 fun u w'' he => go a u w'' rfl (.inl h0) he⟩
        case round l f tmps assign body =>
          have h0 : firm = true := hk'.resolve_right fun h => by obtain ⟨_, u, hu⟩ := h; cases hu
          refine ⟨hop.1, RoundIn.mono hop.2 fun e w'' he => ?_⟩
          cases e with
          | returned u => exact go a u w'' rfl (.inl h0) he
          | panicked c => exact absurd he (hQ _ _ _)
          | outgrown => exact he
      | halt x w' =>
        rw [hrun] at hop
        cases x <;> simp only [Oper.uponIn] at hop ⊢
        case panic u => exact absurd hop (hQ _ _ _)
    · rw [if_neg hw] at hop ⊢
      exact ⟨fun f _ => hF f, go a undef w rfl (.inr rfl) hop.2⟩
end
end Go.Proofs.Ytmhhejpokgdjoaa
namespace Go.Proofs.Ytmhhejpokgdjoaa
open Go Go.RowKit
set_option linter.unusedSimpArgs false
set_option linter.unusedVariables false

def needsDyn (o : Oper) : Bool := match o.op with | .binOp .. | .convert .. | .call _ => true | _ => false
theorem dyn_free {o : Oper} {a : Act} (h : needsDyn o = false) : dyn o a = true := by
  unfold needsDyn at h; unfold dyn; cases ho : o.op <;> rw [ho] at h <;> first | rfl | cases h
def pickL (l : List Oper) : List Nat → List Oper
  | [] => []
  | i :: r => l.getD i default :: pickL l r
def oneCell (P : Program) (t : TypeId) : Bool := match P.underlying t with | some (.struct _) | some (.array _ _) | none => false | _ => true
def heldOp (P : Program) (o : Oper) : Bool := match o.op with | .load t (.tmp _) => oneCell P t | _ => false
def stepOk (P : Program) (ops : Array Oper) (listed : Array Bool) (D H : List Nat) (i : Nat) : Bool :=
  match ops[i]? with
  | none => false
  | some oi => (Region.ready .any ops listed).contains i && (!(decide (cls P oi ≤ 1) && needsDyn oi) || D.contains i) && (!H.contains i || heldOp P oi) &&
      ((decide (cls P oi ≤ 1) && (List.range ops.size).all fun j => j == i || listed.getD j true || depB .any ops i ops.size j ||
          match ops[j]? with | some oj => oi.apart ops oj && (cls P oi == 0 || H.contains i || decide (cls P oj ≤ 1)) | none => true) || Region.ready .any ops listed == [i])
/-- Nothing that comes later writes what i looks at. -/
def lateOk (ops : Array Oper) (i : Nat) (r : List Nat) : Bool :=
  match ops[i]? with
  | none => true
  | some oi => r.all fun k => match ops[k]? with
    | some ok => (match ok.dst with | some d => !(oi.looksAt ops).contains d | none => true)
    | none => true
def ordOk (P : Program) (ops : Array Oper) (D H X : List Nat) : Array Bool → List Nat → Bool
  | listed, [] => Region.ready .any ops listed == X
  | listed, i :: r => stepOk P ops listed D H i && (!(D.contains i || H.contains i) || lateOk ops i (i :: r)) && ordOk P ops D H X (listed.setIfInBounds i true) r
/-- Where something is held, what is of class 2 stands at its segment's end. -/
def lastOk (P : Program) (ops : Array Oper) : List Nat → Bool
  | [] => true
  | i :: r => (r.isEmpty || match ops[i]? with | some o => decide (cls P o ≤ 1) | none => false) && lastOk P ops r
def ordAll (P : Program) (l : List Oper) (ss : List (List Nat)) (D H : List Nat) (X : List Nat := []) : Bool :=
  plainOps l.toArray && ss.flatten.length + X.length == l.length && ordOk P l.toArray D H X (Array.replicate l.length false) ss.flatten && P.follows .mixedOrders && (H.isEmpty || ss.all (lastOk P l.toArray)) && X.all fun x => (List.range l.length).all fun i => i == x || depB .any l.toArray i l.length x
/-- What the values must show at the end: whole numbers, bools, strings where class 0 needs it. -/
def chkD (l : List Oper) (a : Act) : List Nat → Bool
  | [] => true
  | i :: r => (match l[i]? with | some o => !(Region.wanted o (yielded l.toArray a.tmps)) || dyn o a | none => true) && chkD l a r
/-- The held loads' addresses. -/
def chkH (l : List Oper) (a : Act) : List Nat → List Addr → Prop
  | i :: r, p :: ps => (match l[i]? with | some ⟨_, .load _ x, _, _, _, _⟩ => a.eval x = .pointer (some p) ∨ a.eval x = undef | _ => False) ∧ chkH l a r ps
  | [], [] => True
  | _, _ => False
/-- It ends here, as usual, and K holds. -/
def OnlyN (K : Act → World → Prop) : Exit → Act → World → Prop
  | .normal, a, w => K a w
  | _, _, _ => False
def segIn (F : Fence) (n : Nat) (P : Program) (l : List Oper) (S : World → Prop) (K : Act → World → Prop) : List (List Nat) → Act → World → Prop
  | [], a, w => K a w
  | s :: ss, a, w => wpListIn F n P l.toArray (OnlyN fun a1 w1 => S w1 ∧ segIn F n P l S K ss a1 w1) (pickL l s) a w
def seg (P : Program) (l : List Oper) (S : World → Prop) (K : Act → World → Prop) : List (List Nat) → Act → World → Prop
  | [], a, w => K a w
  | s :: ss, a, w => wpList P l.toArray (OnlyN fun a1 w1 => S w1 ∧ seg P l S K ss a1 w1) (pickL l s) a w

section
variable {F : Fence} {n : Nat} {P : Program} {l : List Oper} {Q : Exit → Act → World → Prop} {D H X : List Nat} {B : Array Bool → Act → World → Prop} {K0 : Act → World → Prop} {S : World → Prop}

theorem only_out : ¬ LetsOut (OnlyN K0) := fun ⟨_, _, h⟩ => h
theorem uponIn_any {o : Oper} {a : Act} {K K' : Act → World → Prop} {r : Result Next} {Q' : Exit → Act → World → Prop} (hK : ∀ a w, K a w → K' a w)
    (h : o.uponIn F n P a K (OnlyN K0) r) : o.uponIn F n P a K' Q' r := by
  cases r with
  | ok x w' =>
    cases x <;> simp only [Oper.uponIn] at h ⊢ <;>
      first
        | exact hK _ _ h
        | exact ⟨h.1, CallsIn.mono h.2 (fun e w'' he => by cases e <;> first | exact hK _ _ he | exact absurd he only_out | exact (he : False).elim)⟩
        | exact ⟨h.1, RowsIn.mono h.2 (fun _ _ he => hK _ _ he)⟩
        | exact ⟨h.1, RoundIn.mono h.2 (fun e w'' he => by cases e <;> first | exact hK _ _ he | exact absurd he only_out | exact (he : False).elim)⟩
  | halt x w' => cases x <;> simp only [Oper.uponIn] at h <;> exact (h : False).elim

theorem upon_next (hD : F.depth = none) {o : Oper} {a : Act} {K : Act → World → Prop} {r : Result Next} (h : o.uponIn F n P a K (OnlyN K0) r) :
    ∃ (b : Act) (v : Value) (w' : World), b.tmps = a.tmps ∧ K (b.put o.dst v) w' := by
  have room : ∀ k, F.room k := fun k d hd => by rw [hD] at hd; cases hd
  cases r with
  | ok x w' =>
    cases x <;> simp only [Oper.uponIn] at h
    case value u => exact ⟨a, u, w', rfl, h⟩
    case skip => exact ⟨a, undef, w', rfl, h⟩
    case defer d => exact ⟨{ a with defers := d :: a.defers }, undef, w', rfl, h⟩
    case enter f args =>
      obtain ⟨e, w'', fr, he, _⟩ := h.2.2 [] (room _)
      cases e with
      | returned u => exact ⟨a, u, w'', rfl, he⟩
      | panicked c => exact (he : False).elim
      | outgrown => exact absurd he only_out
    case row row args =>
      obtain ⟨u, w'', he, _⟩ := h.2 default [] (room _)
      exact ⟨a, u, w'', rfl, he⟩
    case round i f tmps assign body =>
      obtain ⟨e, w'', he, _⟩ := h.2.2 default [] (room _)
      cases e with
      | returned u => exact ⟨a, u, w'', rfl, he⟩
      | panicked c => exact (he : False).elim
      | outgrown => exact absurd he only_out
    all_goals exact (h : False).elim
  | halt x w' => cases x <;> simp only [Oper.uponIn] at h <;> exact (h : False).elim

theorem reach1 (hD : F.depth = none) : ∀ (L : List Nat) (a : Act) (w : World), wpListIn F n P l.toArray (OnlyN K0) (pickL l L) a w →
    ∃ a' w', K0 a' w' ∧ ∀ t, (∀ k ∈ L, ∀ o, l[k]? = some o → o.dst ≠ some t) → (∀ k ∈ L, k < l.length) → a'.tmps[t]? = a.tmps[t]?
  | [], a, w, h => ⟨a, w, h, fun _ _ _ => rfl⟩
  | i :: L, a, w, h => by
    unfold pickL wpListIn at h
    have key : ∃ (b : Act) (v : Value) (w' : World), b.tmps = a.tmps ∧ wpListIn F n P l.toArray (OnlyN K0) (pickL l L) (b.put (l.getD i default).dst v) w' := by
      by_cases hw : Region.wanted (l.getD i default) (yielded l.toArray a.tmps) = true
      · rw [if_pos hw] at h
        exact upon_next hD h.2
      · rw [if_neg hw] at h
        exact ⟨a, undef, w, rfl, h.2⟩
    obtain ⟨b, v, w', hb, hk⟩ := key
    obtain ⟨a', w2, hc, ht⟩ := reach1 hD L _ _ hk
    refine ⟨a', w2, hc, fun t h1 h2 => ?_⟩
    rw [ht t (fun k hk => h1 k (List.mem_cons_of_mem _ hk)) (fun k hk => h2 k (List.mem_cons_of_mem _ hk))]
    have hi := h2 i List.mem_cons_self
    have hg : l[i]? = some (l.getD i default) := by simp [List.getD_eq_getElem?_getD, hi]
    have hne := h1 i List.mem_cons_self _ hg
    cases hd : (l.getD i default).dst with
    | none => simp [Act.put, hb]
    | some d =>
      have : d ≠ t := fun e => hne (by rw [hd, e])
      simp [Act.put, hb, Array.getElem?_setIfInBounds_ne this]
theorem reaches (hD : F.depth = none) : ∀ (ss : List (List Nat)) (a : Act) (w : World), segIn F n P l S K0 ss a w →
    ∃ a' w', K0 a' w' ∧ ∀ t, (∀ k ∈ ss.flatten, ∀ o, l[k]? = some o → o.dst ≠ some t) → (∀ k ∈ ss.flatten, k < l.length) → a'.tmps[t]? = a.tmps[t]?
  | [], a, w, h => ⟨a, w, h, fun _ _ _ => rfl⟩
  | s :: ss, a, w, h => by
    unfold segIn at h
    obtain ⟨a1, w1, ⟨_, h1⟩, t1⟩ := reach1 hD s a w h
    obtain ⟨a2, w2, h2, t2⟩ := reaches hD ss a1 w1 h1
    refine ⟨a2, w2, h2, fun t ht hl => ?_⟩
    simp only [List.flatten_cons, List.mem_append] at ht hl
    rw [t2 t (fun k hk => ht k (.inr hk)) (fun k hk => hl k (.inr hk)), t1 t (fun k hk => ht k (.inl hk)) (fun k hk => hl k (.inl hk))]

theorem chkD_mem {a : Act} : ∀ {D : List Nat} {i : Nat} {o : Oper}, chkD l a D = true → D.contains i = true → l[i]? = some o → Region.wanted o (yielded l.toArray a.tmps) = true → dyn o a = true
  | [], i, o, h, hm, _, _ => by cases hm
  | d :: D, i, o, h, hm, ho, hw => by
    unfold chkD at h
    rw [Bool.and_eq_true] at h
    rw [List.contains_cons, Bool.or_eq_true] at hm
    rcases hm with hm | hm
    · have : i = d := by simpa using hm
      subst this
      have h1 := h.1
      rw [ho] at h1
      simpa [hw] using h1
    · exact chkD_mem h.2 hm ho hw
theorem chkH_mem {a : Act} : ∀ {H : List Nat} {ps : List Addr} {i : Nat} {o : Oper} {t : TypeId} {x : Operand}, chkH l a H ps → H.contains i = true → l[i]? = some o → o.op = .load t x → (∃ p ∈ ps, a.eval x = .pointer (some p)) ∨ a.eval x = undef
  | [], ps, i, o, t, x, h, hm, _, _ => by cases hm
  | d :: H, [], i, o, t, x, h, hm, _, _ => h.elim
  | d :: H, p :: ps, i, o, t, x, h, hm, ho, hx => by
    unfold chkH at h
    rw [List.contains_cons, Bool.or_eq_true] at hm
    rcases hm with hm | hm
    · have : i = d := by simpa using hm
      subst this
      have h1 := h.1
      rw [ho] at h1
      obtain ⟨o1, o2, o3, o4, o5, o6⟩ := o
      dsimp only at hx
      subst hx
      rcases h1 with h1 | h1
      · exact .inl ⟨p, List.mem_cons_self, h1⟩
      · exact .inr h1
    · rcases chkH_mem h.2 hm ho hx with ⟨q, hq, he⟩ | he
      · exact .inl ⟨q, List.mem_cons_of_mem _ hq, he⟩
      · exact .inr he
theorem same_eval {o : Oper} {ops : Array Oper} {a b : Act} (h : ∀ t ∈ o.looksAt ops, b.tmps[t]? = a.tmps[t]?) : (∀ x ∈ o.op.operands, b.eval x = a.eval x) ∧ Region.wanted o (yielded ops b.tmps) = Region.wanted o (yielded ops a.tmps) := by
  constructor
  · intro x hx
    cases x <;> try rfl
    rename_i t
    have := h t (List.mem_append_left _ (List.mem_filterMap.2 ⟨.tmp t, by simpa using hx, rfl⟩))
    simp [Act.eval, Array.getD_eq_getD_getElem?, this]
  · unfold Region.wanted
    cases hg : o.guard with
    | none => rfl
    | some gw =>
      obtain ⟨g, want⟩ := gw
      have hy : yielded ops b.tmps g = yielded ops a.tmps g := by
        unfold yielded
        cases ht : (ops[g]?).bind (·.dst) with
        | none => rfl
        | some t =>
          have := h t (by simp [Oper.looksAt, hg, ht])
          simp [this]
      simp only [hy]
theorem same_dyn {o : Oper} {a b : Act} (h : ∀ x ∈ o.op.operands, b.eval x = a.eval x) : dyn o b = dyn o a := by
  unfold dyn
  cases ho : o.op <;> dsimp only
  case binOp op t x y t' => rw [h x (by rw [ho]; simp [Op.operands]), h y (by rw [ho]; simp [Op.operands])]
  case convert s t x => rw [h x (by rw [ho]; simp [Op.operands])]
  case call c =>
    have : ∀ x ∈ c.args, b.eval x = a.eval x := fun x hx => h x (by rw [ho]; simp [Op.operands, Call.operands, hx])
    rw [Bool.eq_iff_iff, Array.all_eq_true', Array.all_eq_true']
    exact ⟨fun h x hx => by rw [← this x hx]; exact h x hx, fun h x hx => by rw [this x hx]; exact h x hx⟩

/-- The cells at ps read as they do in w0. -/
def SameAt (ps : List Addr) (w0 w : World) : Prop := ∀ p ∈ ps, w.cell? p = w0.cell? p
theorem firm_load {o : Oper} {a : Act} {ps : List Addr} {w0 : World} {t : TypeId} {x : Operand} (ho : o.op = .load t x) (h1 : oneCell P t = true) (hv : ∀ p ∈ ps, (w0.cell? p).isSome = true)
    (ha : (∃ p ∈ ps, a.eval x = .pointer (some p)) ∨ a.eval x = undef) : Firm P (SameAt ps w0) o a := by
  intro w w' v hs hs' e
  unfold execOp at e ⊢
  rw [ho] at e ⊢
  dsimp only at e ⊢
  rcases ha with ⟨p, hp, ha⟩ | ha
  · rw [ha] at e ⊢
    unfold oneCell at h1
    cases hu : P.underlying t with
    | none => rw [hu] at h1; cases h1
    | some d =>
      rw [hu] at h1
      have hag : ∀ w, (isAgg t).run P w = .ok false w := fun w => by
        unfold isAgg underlying
        simp only [Sem.run_bind, run_program, Result.andThen_ok, hu, Sem.run_pure]
        cases d <;> first | rfl | cases h1
      obtain ⟨c, hc⟩ := Option.isSome_iff_exists.1 (hv p hp)
      have e1 : w.cell? p = some c := (hs p hp).trans hc
      have e2 : w'.cell? p = some c := (hs' p hp).trans hc
      simp only [Instr.loadAt, Instr.sureAddr, loadVar, Sem.run_bind, Sem.run_pure, Result.andThen_ok, hag, Bool.false_eq_true, if_false, run_load, e1, e2] at e ⊢
      simpa using e
  · rw [ha] at e
    unfold undef at e
    simp [Instr.loadAt, Instr.sureAddr] at e

theorem ord_idx : ∀ (L : List Nat) (listed : Array Bool), ordOk P l.toArray D H X listed L = true → ∀ k ∈ L, k < l.length := by
  intro L
  induction L with
  | nil => intro _ _ k hk; cases hk
  | cons x L ih =>
    intro listed hq k hk
    unfold ordOk at hq
    simp only [Bool.and_eq_true] at hq
    rcases List.mem_cons.1 hk with rfl | hk
    · have := hq.1.1
      unfold stepOk at this
      cases hx : l.toArray[k]? with
      | none => rw [hx] at this; cases this
      | some o => simpa using (Array.getElem?_eq_some_iff.1 hx).1
    · exact ih _ hq.2 k hk
theorem run_step (hQ : ∀ c a w, ¬ Q (.panic c) a w) (hBare : Bare .any l.toArray B) (hp : plainOps l.toArray = true) (hF : ∀ f, F.fn f) (hD : F.depth = none) {ps : List Addr} {w0 : World} (hv : ∀ p ∈ ps, (w0.cell? p).isSome = true)
    (hS : S = SameAt ps w0) (hK : ∀ a w, K0 a w → chkD l a D = true ∧ chkH l a H ps) {ss : List (List Nat)} {s : List Nat} {i : Nat} {listed : Array Bool} {a : Act} {w : World}
    (ih : ∀ a w, S w → wpListIn F n P l.toArray (OnlyN fun a1 w1 => S w1 ∧ segIn F n P l S K0 ss a1 w1) (pickL l s) a w → wpD F n P .any l.toArray S Q B (s ++ ss.flatten).length (listed.setIfInBounds i true) a w)
    (ho : ordOk P l.toArray D H X listed (i :: s ++ ss.flatten) = true) (hla : ps = [] ∨ lastOk P l.toArray (i :: s) = true) (hs : Shutl .any l.toArray listed) (hSw : S w)
    (h : wpListIn F n P l.toArray (OnlyN fun a1 w1 => S w1 ∧ segIn F n P l S K0 ss a1 w1) (pickL l (i :: s)) a w) : wpD F n P .any l.toArray S Q B (i :: s ++ ss.flatten).length listed a w := by
  rw [List.cons_append] at ho ⊢
  unfold ordOk at ho
  simp only [Bool.and_eq_true] at ho
  obtain ⟨⟨hst, hlt⟩, hrest⟩ := ho
  have hL := ord_idx _ _ hrest
  unfold stepOk at hst
  cases hi : l.toArray[i]? with
  | none => rw [hi] at hst; cases hst
  | some oi =>
    rw [hi] at hst
    simp only [Bool.and_eq_true, Bool.or_eq_true] at hst
    obtain ⟨⟨⟨hrd, hneed⟩, hheld⟩, hch⟩ := hst
    have hr : i ∈ Region.ready .any l.toArray listed := by simpa using hrd
    have hil : l[i]? = some oi := by simpa using hi
    have hg : l.getD i default = oi := by simp [List.getD_eq_getElem?_getD, hil]
    unfold pickL wpListIn at h
    rw [hg] at h
    -- what the end shows
    have hend : (D.contains i || H.contains i) = true → Region.wanted oi (yielded l.toArray a.tmps) = true → ∃ a', chkD l a' D = true ∧ chkH l a' H ps ∧ (∀ x ∈ oi.op.operands, a'.eval x = a.eval x) ∧ Region.wanted oi (yielded l.toArray a'.tmps) = Region.wanted oi (yielded l.toArray a.tmps) := by
      intro hDH hw
      rw [hDH] at hlt
      rw [if_pos hw] at h
      obtain ⟨b, v, w', hb, hk⟩ := upon_next hD h.2
      obtain ⟨a1, w1, ⟨_, h1⟩, t1⟩ := reach1 hD s _ _ hk
      obtain ⟨a', w2, hk0, t2⟩ := reaches hD ss _ _ h1
      obtain ⟨c1, c2⟩ := hK _ _ hk0
      refine ⟨a', c1, c2, ?_⟩
      refine same_eval (o := oi) (ops := l.toArray) fun t htm => ?_
      have hlt : lateOk l.toArray i (i :: (s ++ ss.flatten)) = true := by simpa using hlt
      unfold lateOk at hlt
      rw [hi] at hlt
      have hlt := fun k hk => List.all_eq_true.1 hlt k hk
      have hown : oi.dst ≠ some t := by
        intro e
        have := hlt i List.mem_cons_self
        rw [hi] at this
        dsimp only at this
        rw [e] at this
        simp [htm] at this
      have hno : ∀ k ∈ s ++ ss.flatten, ∀ o, l[k]? = some o → o.dst ≠ some t := by
        intro k hk o ho e
        have := hlt k (List.mem_cons_of_mem _ hk)
        have hk2 : l.toArray[k]? = some o := by simpa using ho
        rw [hk2] at this
        dsimp only at this
        rw [e] at this
        simp [htm] at this
      rw [t2 t (fun k hk => hno k (List.mem_append_right _ hk)) (fun k hk => hL k (List.mem_append_right _ hk)),
        t1 t (fun k hk => hno k (List.mem_append_left _ hk)) (fun k hk => hL k (List.mem_append_left _ hk))]
      cases hd : oi.dst with
      | none => simp [Act.put, hb]
      | some d =>
        have : d ≠ t := fun e => hown (by rw [hd, e])
        simp [Act.put, hb, Array.getElem?_setIfInBounds_ne this]
    have hdy : Region.wanted oi (yielded l.toArray a.tmps) = true → cls P oi ≤ 1 → dyn oi a = true := by
      intro hw hc
      cases hnd : needsDyn oi with
      | false => exact dyn_free hnd
      | true =>
        have hmem : D.contains i = true := by
          rcases hneed with h1 | h1
          · simp [hc, hnd] at h1
          · exact h1
        obtain ⟨a', c1, _, hev, hwd⟩ := hend (by rw [hmem]; rfl) hw
        rw [← same_dyn hev]
        exact chkD_mem c1 hmem hil (by rw [hwd]; exact hw)
    have hfirm : Region.wanted oi (yielded l.toArray a.tmps) = true → H.contains i = true → Firm P S oi a := by
      intro hw hmem
      have hho : heldOp P oi = true := hheld.resolve_left (by rw [hmem]; simp)
      unfold heldOp at hho
      cases hop : oi.op <;> rw [hop] at hho <;> (first | (cases hho; done) | skip)
      rename_i t x
      cases x <;> (first | (cases hho; done) | skip)
      rename_i tt
      obtain ⟨a', _, c2, hev, _⟩ := hend (by rw [hmem, Bool.or_true]) hw
      have hx := hev (.tmp tt) (by rw [hop]; simp [Op.operands])
      rw [hS]
      refine firm_load hop hho hv ?_
      rw [← hx]
      exact chkH_mem c2 hmem hil hop
    have hS1 : ∀ a w1, 1 < cls P oi → wpListIn F n P l.toArray (OnlyN fun a1 w1 => S w1 ∧ segIn F n P l S K0 ss a1 w1) (pickL l s) a w1 → S w1 := by
      intro a w1 hc hr1
      rcases hla with hps | hla
      · rw [hS, hps]; intro p hp; cases hp
      · unfold lastOk at hla
        rw [hi] at hla
        simp only [Bool.and_eq_true, Bool.or_eq_true, decide_eq_true_eq] at hla
        rcases hla.1 with he | he
        · have : s = [] := by simpa using he
          subst this
          exact hr1.1
        · omega
    by_cases hcl : cls P oi ≤ 1
    · have key : ∀ firm, (firm = true → cls P oi = 0 ∨ H.contains i = true) →
          (∀ j oj, l.toArray[j]? = some oj → j ≠ i → listed.getD j true = false → depB .any l.toArray i l.toArray.size j = false → oi.apart l.toArray oj = true ∧ (firm = true ∨ cls P oj ≤ 1)) →
          wpD F n P .any l.toArray S Q B ((i :: (s ++ ss.flatten)).length) listed a w := by
        intro firm hf hap
        have hdd : Region.wanted oi (yielded l.toArray a.tmps) = true → dyn oi a = true ∧ (firm = true → Firm P S oi a) := fun hw =>
          ⟨hdy hw hcl, fun hff => by
            rcases hf hff with h0 | hm
            · exact firm_of h0 (hdy hw hcl)
            · exact hfirm hw hm⟩
        by_cases hw : Region.wanted oi (yielded l.toArray a.tmps) = true
        · rw [if_pos hw] at h
          have hup := h.2
          rw [Oper.semAt_eq _ _ _ (plain_sel hp hi).2] at hup
          cases hrun : (execOp a.eval oi).run P w with
          | ok x w' =>
            obtain ⟨hw', u, hu⟩ := keeps_of hcl (hdy hw hcl) _ _ _ hrun
            subst hu hw'
            rw [hrun] at hup
            exact take hBare hi hcl hp hQ hF _ listed a w' u hs hr hSw hap hdd (.inl ⟨hw, hrun⟩) (ih _ _ hSw hup)
          | halt x w' =>
            rw [hrun] at hup
            cases x <;> simp only [Oper.uponIn] at hup <;> exact (hup : False).elim
        · rw [if_neg hw] at h
          exact take hBare hi hcl hp hQ hF _ listed a w undef hs hr hSw hap hdd (.inr ⟨by simpa using hw, rfl⟩) (ih _ _ hSw h.2)
      rcases hch with ⟨_, hall⟩ | hone
      · refine key (cls P oi == 0 || H.contains i) (fun h => by simpa using h) fun j oj hj hne hun hdep => ?_
        have := List.all_eq_true.1 hall j (List.mem_range.2 (Array.getElem?_eq_some_iff.1 hj).1)
        rw [hj] at this
        simp only [Bool.or_eq_true, beq_iff_eq, hne, hun, hdep, Bool.false_eq_true, false_or, Bool.and_eq_true, decide_eq_true_eq] at this
        exact ⟨this.1, by simpa using this.2⟩
      · have hone : Region.ready .any l.toArray listed = [i] := by simpa using hone
        -- alone: no other is ready, now
        refine ⟨hSw, fun h0 => (by rw [hone] at h0; cases h0), fun j hj => ?_⟩
        rw [hone] at hj
        have : j = i := by simpa using hj
        subst this
        refine ⟨oi, hi, hdy, ?_⟩
        unfold wpOpIn
        rw [hi]
        dsimp only
        by_cases hw : Region.wanted oi (yielded l.toArray a.tmps) = true
        · rw [if_pos hw] at h ⊢
          refine ⟨h.1, ?_⟩
          have hup := h.2
          rw [Oper.semAt_eq _ _ _ (plain_sel hp hi).2] at hup ⊢
          cases hrun : (execOp a.eval oi).run P w with
          | ok x w' =>
            obtain ⟨hw', u, hu⟩ := keeps_of hcl (hdy hw hcl) _ _ _ hrun
            subst hu hw'
            rw [hrun] at hup
            exact ih _ _ hSw hup
          | halt x w' =>
            rw [hrun] at hup
            cases x <;> simp only [Oper.uponIn] at hup <;> exact (hup : False).elim
        · rw [if_neg hw] at h ⊢
          exact ⟨h.1, ih _ _ hSw h.2⟩
    · have hone : Region.ready .any l.toArray listed = [i] := by
        rcases hch with ⟨h1, _⟩ | h1
        · exact absurd (by simpa using h1) hcl
        · simpa using h1
      refine ⟨hSw, fun h0 => (by rw [hone] at h0; cases h0), fun j hj => ?_⟩
      rw [hone] at hj
      have : j = i := by simpa using hj
      subst this
      refine ⟨oi, hi, hdy, ?_⟩
      unfold wpOpIn
      rw [hi]
      dsimp only
      by_cases hw : Region.wanted oi (yielded l.toArray a.tmps) = true
      · rw [if_pos hw] at h ⊢
        exact ⟨h.1, uponIn_any (fun a w hr1 => ih a w (hS1 a w (by omega) hr1) hr1) h.2⟩
      · rw [if_neg hw] at h ⊢
        exact ⟨h.1, ih _ _ hSw h.2⟩

theorem run_list (hQ : ∀ c a w, ¬ Q (.panic c) a w) (hBare : Bare .any l.toArray B) (hBX : ∀ listed a w, Shutl .any l.toArray listed → Region.ready .any l.toArray listed = X → K0 a w → B listed a w) (hp : plainOps l.toArray = true) (hF : ∀ f, F.fn f) (hD : F.depth = none) {ps : List Addr} {w0 : World} (hv : ∀ p ∈ ps, (w0.cell? p).isSome = true)
    (hS : S = SameAt ps w0) (hK : ∀ a w, K0 a w → chkD l a D = true ∧ chkH l a H ps) : ∀ (ss : List (List Nat)) (s : List Nat) (listed : Array Bool) (a : Act) (w : World),
    ordOk P l.toArray D H X listed (s ++ ss.flatten) = true → (ps = [] ∨ (lastOk P l.toArray s = true ∧ ∀ s ∈ ss, lastOk P l.toArray s = true)) → Shutl .any l.toArray listed → S w →
      wpListIn F n P l.toArray (OnlyN fun a1 w1 => S w1 ∧ segIn F n P l S K0 ss a1 w1) (pickL l s) a w → wpD F n P .any l.toArray S Q B (s ++ ss.flatten).length listed a w := by
  have ready_of : ∀ {i : Nat} {listed : Array Bool} {r : List Nat}, ordOk P l.toArray D H X listed (i :: r) = true → i ∈ Region.ready .any l.toArray listed := by
    intro i listed r h
    unfold ordOk stepOk at h
    cases hi : l.toArray[i]? with
    | none => rw [hi] at h; simp at h
    | some o => rw [hi] at h; simp only [Bool.and_eq_true] at h; simpa using h.1.1.1.1.1
  have rest_of : ∀ {i : Nat} {listed : Array Bool} {r : List Nat}, ordOk P l.toArray D H X listed (i :: r) = true → ordOk P l.toArray D H X (listed.setIfInBounds i true) r = true := by
    intro i listed r h
    unfold ordOk at h
    simp only [Bool.and_eq_true] at h
    exact h.2
  intro ss
  induction ss with
  | nil =>
    intro s
    induction s with
    | nil =>
      intro listed a w ho hla hs hSw h
      unfold ordOk at ho
      exact ⟨hSw, hBX _ _ _ hs (by simpa using ho) h.2⟩
    | cons i s ihs =>
      intro listed a w ho hla hs hSw h
      refine run_step hQ hBare hp hF hD hv hS hK (fun a w h1 h2 => ihs _ a w (rest_of ho) ?_ (shut_step hs (ready_of ho)) h1 h2) ho (hla.imp id (·.1)) hs hSw h
      refine hla.imp id fun h => ⟨?_, h.2⟩
      have := h.1
      unfold lastOk at this
      simp only [Bool.and_eq_true] at this
      exact this.2
  | cons s' ss ihss =>
    intro s
    induction s with
    | nil =>
      intro listed a w ho hla hs hSw h
      have h2 := h.2
      unfold segIn at h2
      rw [List.nil_append, List.flatten_cons] at ho ⊢
      exact ihss s' listed a w ho (hla.imp id fun h => ⟨h.2 _ List.mem_cons_self, fun s hs => h.2 s (List.mem_cons_of_mem _ hs)⟩) hs hSw h2
    | cons i s ihs =>
      intro listed a w ho hla hs hSw h
      refine run_step hQ hBare hp hF hD hv hS hK (fun a w h1 h2 => ihs _ a w (rest_of ho) ?_ (shut_step hs (ready_of ho)) h1 h2) ho (hla.imp id (·.1)) hs hSw h
      refine hla.imp id fun h => ⟨?_, h.2⟩
      have := h.1
      unfold lastOk at this
      simp only [Bool.and_eq_true] at this
      exact this.2

theorem shut0 (ops : Array Oper) (k : Nat) : Shutl .any ops (Array.replicate k false) := fun j o _ h => by
  exfalso
  by_cases hj : j < k <;> simp [hj] at h

theorem segs_any {id : Nat} {a : Act} {w : World} {ss : List (List Nat)} {ps : List Addr} (hF : ∀ f, F.fn f) (hd : F.depth = none) (hB : ordAll P l ss D H = true) (hH : H = [] → ps = [])
    (hv : ∀ p ∈ ps, (w.cell? p).isSome = true) (hK : ∀ a w, K0 a w → chkD l a D = true ∧ chkH l a H ps)
    (h : segIn F n P l (SameAt ps w) K0 ss a w.drew) : (Code.region id l.toArray true).wpIn F n P (OnlyN K0) a w := by
  unfold ordAll at hB
  simp only [Bool.and_eq_true, beq_iff_eq] at hB
  obtain ⟨⟨⟨⟨⟨hp, hlen⟩, ho⟩, hm⟩, hla⟩, _⟩ := hB
  have hr := run_list (Q := OnlyN K0) (B := fun listed a w => Region.ready .any l.toArray listed = [] ∧ K0 a w) (fun _ _ _ h => h) bare_end (fun listed a w _ h1 h2 => ⟨h1, h2⟩) (n := n) (l := l) (S := SameAt ps w) (D := D) (H := H) (K0 := K0) hp hF hd (w0 := w) hv rfl hK ss [] (Array.replicate l.length false) a w.drew (by simpa using ho)
    (by
      simp only [Bool.or_eq_true, List.all_eq_true] at hla
      rcases hla with h1 | h1
      · exact .inl (hH (by simpa using h1))
      · exact .inr ⟨rfl, h1⟩) (shut0 _ _) (fun p _ => rfl) ⟨fun p _ => rfl, h⟩
  refine wpIn_region_any hm ?_
  have := wpD_any (m := 0) (fun _ _ _ h => h) _ _ _ _ hr
  rw [List.nil_append] at this
  simp only [List.length_nil, Nat.add_zero] at hlen
  rw [hlen] at this
  simpa using this
/-- With a closing operation x that waits for all others: up to it S holds, behind it nothing is asked. -/
theorem segs_close {id : Nat} {a : Act} {w : World} {ss : List (List Nat)} {ps : List Addr} {x : Nat} {K1 : Act → World → Prop} (hF : ∀ f, F.fn f) (hd : F.depth = none) (hB : ordAll P l ss D H [x] = true) (hH : H = [] → ps = [])
    (hv : ∀ p ∈ ps, (w.cell? p).isSome = true) (hK : ∀ a w, K0 a w → chkD l a D = true ∧ chkH l a H ps) (hx : ∀ a w, K0 a w → wpListIn F n P l.toArray (OnlyN K1) (pickL l [x]) a w)
    (h : segIn F n P l (SameAt ps w) K0 ss a w.drew) : (Code.region id l.toArray true).wpIn F n P (OnlyN K1) a w := by
  unfold ordAll at hB
  simp only [Bool.and_eq_true, beq_iff_eq] at hB
  obtain ⟨⟨⟨⟨⟨hp, hlen⟩, ho⟩, hm⟩, hla⟩, hX⟩ := hB
  have hxd : ∀ i, i < l.toArray.size → i ≠ x → depB .any l.toArray i l.toArray.size x = true := by
    intro i hi hne
    simp only [List.all_cons, List.all_nil, Bool.and_true, List.all_eq_true, List.mem_range, Bool.or_eq_true, beq_iff_eq] at hX
    simpa using (hX i (by simpa using hi)).resolve_left hne
  have hr := run_list (X := [x]) (Q := OnlyN K1) (B := fun listed a w => Region.ready .any l.toArray listed = [x] ∧ Shutl .any l.toArray listed ∧ K0 a w) (fun _ _ _ h => h) (bare_close (Q := fun listed a w => Shutl .any l.toArray listed ∧ K0 a w) hxd) (fun listed a w hs h1 h2 => ⟨h1, hs, h2⟩) (n := n) (l := l) (S := SameAt ps w) (D := D) (H := H) (K0 := K0) hp hF hd (w0 := w) hv rfl hK ss [] (Array.replicate l.length false) a w.drew (by simpa using ho)
    (by
      simp only [Bool.or_eq_true, List.all_eq_true] at hla
      rcases hla with h1 | h1
      · exact .inl (hH (by simpa using h1))
      · exact .inr ⟨rfl, h1⟩) (shut0 _ _) (fun p _ => rfl) ⟨fun p _ => rfl, h⟩
  refine wpIn_region_any hm ?_
  have := wpD_any (m := 1) (fun listed a w h => ?_) _ _ _ _ hr
  · rw [List.nil_append] at this
    simp only [List.length_cons, List.length_nil, Nat.zero_add] at hlen
    rw [hlen] at this
    simpa using this
  · refine ⟨fun h0 => (by rw [h.1] at h0; cases h0), fun i hi => ?_⟩
    rw [h.1] at hi
    have : i = x := by simpa using hi
    subst this
    have h2 := hx _ _ h.2.2
    have hxr : i ∈ Region.ready .any l.toArray listed := by rw [h.1]; exact List.mem_cons_self
    obtain ⟨oi, hoi, hun, haf⟩ := ready_some hxr
    have hle : Region.ready .any l.toArray (listed.setIfInBounds i true) = [] := by
      cases hq : Region.ready .any l.toArray (listed.setIfInBounds i true) with
      | nil => rfl
      | cons j r =>
        exfalso
        have hj : j ∈ Region.ready .any l.toArray (listed.setIfInBounds i true) := by rw [hq]; exact List.mem_cons_self
        obtain ⟨oj, hoj, hjn, _⟩ := ready_some hj
        by_cases hne : j = i
        · subst hne
          rcases Nat.lt_or_ge j listed.size with hlt | hge
          · simp [hlt] at hjn
          · simp [hge] at hun
        · rw [getD_set_ne _ (Ne.symm hne)] at hjn
          have h3 := dep_listed h.2.1 _ i oi hoi haf (hxd j (Array.getElem?_eq_some_iff.1 hoj).1 hne)
          rcases Nat.lt_or_ge j listed.size with hlt | hge
          · simp [hlt] at h3 hjn
            rw [hjn] at h3; cases h3
          · simp [hge] at hjn
    have hil : l[i]? = some oi := by simpa using hoi
    have hg : l.getD i default = oi := by simp [List.getD_eq_getElem?_getD, hil]
    unfold pickL wpListIn at h2
    rw [hg] at h2
    unfold wpOpIn
    rw [hoi]
    dsimp only
    by_cases hw : Region.wanted oi (yielded l.toArray a.tmps) = true
    · rw [if_pos hw] at h2 ⊢
      exact ⟨h2.1, uponIn_any (fun a w h => ⟨hle, h⟩) h2.2⟩
    · rw [if_neg hw] at h2 ⊢
      exact ⟨h2.1, hle, h2.2⟩
/-- The end of a region: what is asked of the values, then what follows. -/
def RQ (l : List Oper) (D : List Nat) (Q : Exit → Act → World → Prop) (a : Act) (w : World) : Prop := chkD l a D = true ∧ Q .normal a w
def RH (l : List Oper) (D H : List Nat) (ps : List Addr) (Q : Exit → Act → World → Prop) (a : Act) (w : World) : Prop := chkD l a D = true ∧ chkH l a H ps ∧ Q .normal a w
theorem only_to {id : Nat} {a : Act} {w : World} {c : Code} (hq : ∀ a w, K0 a w → Q .normal a w) (h : c.wpIn F n P (OnlyN K0) a w) : c.wpIn F n P Q a w :=
  Code.wpIn_mono (Q := OnlyN K0) (fun e a w h => by cases e <;> first | exact hq _ _ h | exact (h : False).elim) h
/-- The rule, inside a fence. -/
theorem rgnIn {id : Nat} {a : Act} {w : World} (L D : List Nat) (hF : ∀ f, F.fn f) (hd : F.depth = none) (hB : ordAll P l [L] D [] = true)
    (h : wpListIn F n P l.toArray (OnlyN (RQ l D Q)) (pickL l L) a w.drew) : (Code.region id l.toArray true).wpIn F n P Q a w := by
  refine only_to (id := id) (K0 := RQ l D Q) (fun a w h => h.2) ?_
  refine segs_any (ps := []) hF hd hB (fun _ => rfl) (fun p hp => by cases hp) (fun a w h => ⟨h.1, trivial⟩) ?_
  unfold segIn
  have hm : ∀ {ls : List Oper} {b : Act} {v : World}, wpListIn F n P l.toArray (OnlyN (RQ l D Q)) ls b v → wpListIn F n P l.toArray (OnlyN fun a1 w1 => SameAt [] w w1 ∧ segIn F n P l (SameAt [] w) (RQ l D Q) [] a1 w1) ls b v := by
    intro ls
    induction ls with
    | nil => intro a w1 h; exact ⟨fun p hp => (by cases hp), h⟩
    | cons o ls ih =>
      intro a w1 h
      unfold wpListIn at h ⊢
      by_cases hw : Region.wanted o (yielded l.toArray a.tmps) = true
      · rw [if_pos hw] at h ⊢
        exact ⟨h.1, uponIn_any (fun _ _ h => ih h) h.2⟩
      · rw [if_neg hw] at h ⊢
        exact ⟨h.1, ih h.2⟩
  exact hm h
/-- Up to the closing operation, the checks; then it, then what follows. -/
def RC (F : Fence) (n : Nat) (P : Program) (l : List Oper) (D H : List Nat) (ps : List Addr) (x : Nat) (Q : Exit → Act → World → Prop) (a : Act) (w : World) : Prop := chkD l a D = true ∧ chkH l a H ps ∧ wpListIn F n P l.toArray (OnlyN fun a w => Q .normal a w) (pickL l [x]) a w
def RCP (P : Program) (l : List Oper) (D H : List Nat) (ps : List Addr) (x : Nat) (Q : Exit → Act → World → Prop) (a : Act) (w : World) : Prop := chkD l a D = true ∧ chkH l a H ps ∧ wpList P l.toArray (OnlyN fun a w => Q .normal a w) (pickL l [x]) a w
theorem rgnCIn {id : Nat} {a : Act} {w : World} (ss : List (List Nat)) (D H : List Nat) (ps : List Addr) (x : Nat) (hF : ∀ f, F.fn f) (hd : F.depth = none) (hB : ordAll P l ss D H [x] = true) (hH : H = [] → ps = [])
    (hv : ∀ p ∈ ps, (w.cell? p).isSome = true) (h : segIn F n P l (SameAt ps w) (RC F n P l D H ps x Q) ss a w.drew) : (Code.region id l.toArray true).wpIn F n P Q a w :=
  only_to (id := id) (K0 := fun a w => Q .normal a w) (fun a w h => h) (segs_close hF hd hB hH hv (fun a w h => ⟨h.1, h.2.1⟩) (fun a w h => h.2.2) h)
/-- The rule with held loads, inside a fence: H the loads, ps their addresses; each segment but the last ends with an operation of class 2. -/
theorem rgnHIn {id : Nat} {a : Act} {w : World} (ss : List (List Nat)) (D H : List Nat) (ps : List Addr) (hF : ∀ f, F.fn f) (hd : F.depth = none) (hB : ordAll P l ss D H = true) (hH : H = [] → ps = [])
    (hv : ∀ p ∈ ps, (w.cell? p).isSome = true) (h : segIn F n P l (SameAt ps w) (RH l D H ps Q) ss a w.drew) : (Code.region id l.toArray true).wpIn F n P Q a w :=
  only_to (id := id) (K0 := RH l D H ps Q) (fun a w h => h.2.2) (segs_any hF hd hB hH hv (fun a w h => ⟨h.1, h.2.1⟩) h)

theorem upon_wide {o : Oper} {a : Act} {K K' : Act → World → Prop} {r : Result Next} (hK : ∀ a w, K a w → K' a w) (h : o.upon P a K (OnlyN K0) r) {K1 : Act → World → Prop} : o.uponIn Fence.wide n P a K' (OnlyN K1) r := by
  cases r with
  | ok x w' =>
    cases x <;> simp only [Oper.upon, Oper.uponIn] at h ⊢ <;> first
      | exact hK _ _ h
      | exact h.elim
      | exact ⟨fun h => (by simp [Fence.wide] at h), callsIn_wide.2 (h.mono fun e w1 he => by cases e <;> first | exact hK _ _ he | exact absurd he only_out | exact (he : False).elim)⟩
      | exact ⟨fun h => (by simp [Fence.wide] at h), fun c cs _ => by
          obtain ⟨v, w2, hr, hs⟩ := h c cs
          exact ⟨v, w2, hK _ _ hr, stepsIn_wide.2 hs⟩⟩
  | halt x w' => cases x <;> simp only [Oper.upon, Oper.uponIn] at h ⊢ <;> exact h
theorem list_wide {K1 : Act → World → Prop} (hK : ∀ a w, K0 a w → K1 a w) : ∀ (ls : List Oper) (a : Act) (w : World), wpList P l.toArray (OnlyN K0) ls a w → wpListIn Fence.wide n P l.toArray (OnlyN K1) ls a w
  | [], a, w, h => hK _ _ h
  | o :: ls, a, w, h => by
    unfold wpList at h
    unfold wpListIn
    by_cases hw : Region.wanted o (yielded l.toArray a.tmps) = true
    · rw [if_pos hw] at h ⊢
      rcases h with h | h
      · refine ⟨fun _ _ => trivial, ?_⟩
        rw [Fence.wide_round, Oper.semAt_none]
        exact upon_wide (fun a w => list_wide hK ls a w) h
      · exact absurd h.2 only_out
    · rw [if_neg hw] at h ⊢
      exact ⟨fun _ _ => trivial, list_wide hK ls _ _ h⟩
theorem seg_wide : ∀ (ss : List (List Nat)) (a : Act) (w : World), seg P l S K0 ss a w → segIn Fence.wide n P l S K0 ss a w
  | [], a, w, h => h
  | s :: ss, a, w, h => by
    unfold seg at h
    unfold segIn
    exact list_wide (fun a w h => ⟨h.1, seg_wide ss a w h.2⟩) _ _ _ h
/-- The rule, for a plain frame. -/
theorem rgn {id : Nat} {a : Act} {w : World} (L D : List Nat) (hB : ordAll P l [L] D [] = true)
    (h : wpList P l.toArray (OnlyN (RQ l D Q)) (pickL l L) a w.drew) : (Code.region id l.toArray true).wp P Q a w :=
  (wpIn_wide (n := 0)).1 (rgnIn L D (fun _ => trivial) rfl hB (list_wide (fun _ _ h => h) _ _ _ h))
/-- The rule with held loads, for a plain frame. -/
theorem rgnH {id : Nat} {a : Act} {w : World} (ss : List (List Nat)) (D H : List Nat) (ps : List Addr) (hB : ordAll P l ss D H = true) (hH : H = [] → ps = [])
    (hv : ∀ p ∈ ps, (w.cell? p).isSome = true) (h : seg P l (SameAt ps w) (RH l D H ps Q) ss a w.drew) : (Code.region id l.toArray true).wp P Q a w :=
  (wpIn_wide (n := 0)).1 (rgnHIn ss D H ps (fun _ => trivial) rfl hB hH hv (seg_wide _ _ _ h))
theorem segs_wide {K1 : Act → World → Prop} (hK : ∀ a w, K0 a w → K1 a w) : ∀ (ss : List (List Nat)) (a : Act) (w : World), seg P l S K0 ss a w → segIn Fence.wide n P l S K1 ss a w
  | [], a, w, h => hK _ _ h
  | s :: ss, a, w, h => by
    unfold seg at h
    unfold segIn
    exact list_wide (fun a w h => ⟨h.1, segs_wide hK ss a w h.2⟩) _ _ _ h
/-- The rule with held loads and a closing operation, for a plain frame. -/
theorem rgnC {id : Nat} {a : Act} {w : World} (ss : List (List Nat)) (D H : List Nat) (ps : List Addr) (x : Nat) (hB : ordAll P l ss D H [x] = true) (hH : H = [] → ps = [])
    (hv : ∀ p ∈ ps, (w.cell? p).isSome = true) (h : seg P l (SameAt ps w) (RCP P l D H ps x Q) ss a w.drew) : (Code.region id l.toArray true).wp P Q a w :=
  (wpIn_wide (n := 0)).1 (rgnCIn ss D H ps x (fun _ => trivial) rfl hB hH hv (segs_wide (fun _ _ h => ⟨h.1, h.2.1, list_wide (fun _ _ h => h) _ _ _ h.2.2⟩) _ _ _ h))
end
end Go.Proofs.Ytmhhejpokgdjoaa
namespace Go.Proofs.Ytmhhejpokgdjoaa
open Go Go.RowKit
set_option linter.unusedSimpArgs false
set_option linter.unusedVariables false

/-- A plan: some operations, then on; or one of two, each with its own way on. -/
inductive Pl where
  | fin
  | seg (s : List Nat) (p : Pl)
  | two (i j : Nat) (p q : Pl)
  | three (i j k : Nat) (p q r : Pl)
def Pl.path : Pl → List Nat
  | .fin => []
  | .seg s p => s ++ p.path
  | .two i _ p _ => i :: p.path
  | .three i _ _ p _ _ => i :: p.path
def Pl.len : Pl → Nat
  | .fin => 0
  | .seg s p => s.length + p.len
  | .two _ _ p _ => p.len + 1
  | .three _ _ _ p _ _ => p.len + 1
def ordL (P : Program) (ops : Array Oper) (D H : List Nat) (rest : List Nat) (k : Array Bool → Bool) : Array Bool → List Nat → Bool
  | listed, [] => k listed
  | listed, i :: r => stepOk P ops listed D H i && (!(D.contains i || H.contains i) || lateOk ops i (i :: (r ++ rest))) && ordL P ops D H rest k (listed.setIfInBounds i true) r
def ordP (P : Program) (ops : Array Oper) (D H X : List Nat) (any : Bool) : Pl → Array Bool → Bool
  | .fin, listed => Region.ready .any ops listed == X
  | .seg s p, listed => (!any || lastOk P ops s) && ordL P ops D H p.path (ordP P ops D H X any p) listed s
  | .two i j p q, listed => Region.ready .any ops listed == [i, j] && (match ops[i]?, ops[j]? with | some oi, some oj => (decide (1 < cls P oi) || !needsDyn oi) && (decide (1 < cls P oj) || !needsDyn oj) | _, _ => false) && p.len == q.len && q.path.all (fun k => decide (k < ops.size)) && ordP P ops D H X any p (listed.setIfInBounds i true) && ordP P ops D H X any q (listed.setIfInBounds j true)
  | .three i j k p q r, listed => Region.ready .any ops listed == [i, j, k] && (match ops[i]?, ops[j]?, ops[k]? with | some oi, some oj, some ok => (decide (1 < cls P oi) || !needsDyn oi) && (decide (1 < cls P oj) || !needsDyn oj) && (decide (1 < cls P ok) || !needsDyn ok) | _, _, _ => false) && p.len == q.len && p.len == r.len && q.path.all (fun k => decide (k < ops.size)) && r.path.all (fun k => decide (k < ops.size)) && ordP P ops D H X any p (listed.setIfInBounds i true) && ordP P ops D H X any q (listed.setIfInBounds j true) && ordP P ops D H X any r (listed.setIfInBounds k true)
def ordT (P : Program) (l : List Oper) (p : Pl) (D H X : List Nat) : Bool :=
  plainOps l.toArray && p.len + X.length == l.length && p.path.all (fun k => decide (k < l.length)) && ordP P l.toArray D H X (!H.isEmpty) p (Array.replicate l.length false) && P.follows .mixedOrders && X.all fun x => (List.range l.length).all fun i => i == x || depB .any l.toArray i l.length x
def plIn (F : Fence) (n : Nat) (P : Program) (l : List Oper) (S : World → Prop) (K : Act → World → Prop) : Pl → Act → World → Prop
  | .fin, a, w => K a w
  | .seg s p, a, w => wpListIn F n P l.toArray (OnlyN fun a1 w1 => S w1 ∧ plIn F n P l S K p a1 w1) (pickL l s) a w
  | .two i j p q, a, w => wpListIn F n P l.toArray (OnlyN fun a1 w1 => S w1 ∧ plIn F n P l S K p a1 w1) (pickL l [i]) a w ∧ wpListIn F n P l.toArray (OnlyN fun a1 w1 => S w1 ∧ plIn F n P l S K q a1 w1) (pickL l [j]) a w
  | .three i j k p q r, a, w => wpListIn F n P l.toArray (OnlyN fun a1 w1 => S w1 ∧ plIn F n P l S K p a1 w1) (pickL l [i]) a w ∧ wpListIn F n P l.toArray (OnlyN fun a1 w1 => S w1 ∧ plIn F n P l S K q a1 w1) (pickL l [j]) a w ∧ wpListIn F n P l.toArray (OnlyN fun a1 w1 => S w1 ∧ plIn F n P l S K r a1 w1) (pickL l [k]) a w
def pl (P : Program) (l : List Oper) (S : World → Prop) (K : Act → World → Prop) : Pl → Act → World → Prop
  | .fin, a, w => K a w
  | .seg s p, a, w => wpList P l.toArray (OnlyN fun a1 w1 => S w1 ∧ pl P l S K p a1 w1) (pickL l s) a w
  | .two i j p q, a, w => wpList P l.toArray (OnlyN fun a1 w1 => S w1 ∧ pl P l S K p a1 w1) (pickL l [i]) a w ∧ wpList P l.toArray (OnlyN fun a1 w1 => S w1 ∧ pl P l S K q a1 w1) (pickL l [j]) a w
  | .three i j k p q r, a, w => wpList P l.toArray (OnlyN fun a1 w1 => S w1 ∧ pl P l S K p a1 w1) (pickL l [i]) a w ∧ wpList P l.toArray (OnlyN fun a1 w1 => S w1 ∧ pl P l S K q a1 w1) (pickL l [j]) a w ∧ wpList P l.toArray (OnlyN fun a1 w1 => S w1 ∧ pl P l S K r a1 w1) (pickL l [k]) a w

section
variable {F : Fence} {n : Nat} {P : Program} {l : List Oper} {Q : Exit → Act → World → Prop} {D H X : List Nat} {B : Array Bool → Act → World → Prop} {K0 : Act → World → Prop} {S : World → Prop}

theorem reachesP (hD : F.depth = none) : ∀ (p : Pl) (a : Act) (w : World), plIn F n P l S K0 p a w →
    ∃ a' w', K0 a' w' ∧ ∀ t, (∀ k ∈ p.path, ∀ o, l[k]? = some o → o.dst ≠ some t) → (∀ k ∈ p.path, k < l.length) → a'.tmps[t]? = a.tmps[t]?
  | .fin, a, w, h => ⟨a, w, h, fun _ _ _ => rfl⟩
  | .seg s p, a, w, h => by
    unfold plIn at h
    obtain ⟨a1, w1, ⟨_, h1⟩, t1⟩ := reach1 hD s a w h
    obtain ⟨a2, w2, h2, t2⟩ := reachesP hD p a1 w1 h1
    refine ⟨a2, w2, h2, fun t ht hl => ?_⟩
    simp only [Pl.path, List.mem_append] at ht hl
    rw [t2 t (fun k hk => ht k (.inr hk)) (fun k hk => hl k (.inr hk)), t1 t (fun k hk => ht k (.inl hk)) (fun k hk => hl k (.inl hk))]
  | .two i j p q, a, w, h => by
    unfold plIn at h
    obtain ⟨a1, w1, ⟨_, h1⟩, t1⟩ := reach1 hD [i] a w h.1
    obtain ⟨a2, w2, h2, t2⟩ := reachesP hD p a1 w1 h1
    refine ⟨a2, w2, h2, fun t ht hl => ?_⟩
    simp only [Pl.path, List.mem_cons] at ht hl
    rw [t2 t (fun k hk => ht k (.inr hk)) (fun k hk => hl k (.inr hk)), t1 t (fun k hk => ht k (.inl (by simpa using hk))) (fun k hk => hl k (.inl (by simpa using hk)))]
  | .three i j k p q r, a, w, h => by
    unfold plIn at h
    obtain ⟨a1, w1, ⟨_, h1⟩, t1⟩ := reach1 hD [i] a w h.1
    obtain ⟨a2, w2, h2, t2⟩ := reachesP hD p a1 w1 h1
    refine ⟨a2, w2, h2, fun t ht hl => ?_⟩
    simp only [Pl.path, List.mem_cons] at ht hl
    rw [t2 t (fun k hk => ht k (.inr hk)) (fun k hk => hl k (.inr hk)), t1 t (fun k hk => ht k (.inl (by simpa using hk))) (fun k hk => hl k (.inl (by simpa using hk)))]

theorem run_stepP (hQ : ∀ c a w, ¬ Q (.panic c) a w) (hBare : Bare .any l.toArray B) (hp : plainOps l.toArray = true) (hF : ∀ f, F.fn f) (hD : F.depth = none) {ps : List Addr} {w0 : World} (hv : ∀ p ∈ ps, (w0.cell? p).isSome = true)
    (hS : S = SameAt ps w0) (hK : ∀ a w, K0 a w → chkD l a D = true ∧ chkH l a H ps) {p : Pl} {m : Nat} {s : List Nat} {i : Nat} {listed : Array Bool} {a : Act} {w : World}
    (ih : ∀ a w, S w → wpListIn F n P l.toArray (OnlyN fun a1 w1 => S w1 ∧ plIn F n P l S K0 p a1 w1) (pickL l s) a w → wpD F n P .any l.toArray S Q B m (listed.setIfInBounds i true) a w)
    (hst : stepOk P l.toArray listed D H i = true) (hlt : (!(D.contains i || H.contains i) || lateOk l.toArray i (i :: (s ++ p.path))) = true) (hL : ∀ k ∈ s ++ p.path, k < l.length) (hla : ps = [] ∨ lastOk P l.toArray (i :: s) = true) (hs : Shutl .any l.toArray listed) (hSw : S w)
    (h : wpListIn F n P l.toArray (OnlyN fun a1 w1 => S w1 ∧ plIn F n P l S K0 p a1 w1) (pickL l (i :: s)) a w) : wpD F n P .any l.toArray S Q B (m + 1) listed a w := by
  unfold stepOk at hst
  cases hi : l.toArray[i]? with
  | none => rw [hi] at hst; cases hst
  | some oi =>
    rw [hi] at hst
    simp only [Bool.and_eq_true, Bool.or_eq_true] at hst
    obtain ⟨⟨⟨hrd, hneed⟩, hheld⟩, hch⟩ := hst
    have hr : i ∈ Region.ready .any l.toArray listed := by simpa using hrd
    have hil : l[i]? = some oi := by simpa using hi
    have hg : l.getD i default = oi := by simp [List.getD_eq_getElem?_getD, hil]
    unfold pickL wpListIn at h
    rw [hg] at h
    -- what the end shows
    have hend : (D.contains i || H.contains i) = true → Region.wanted oi (yielded l.toArray a.tmps) = true → ∃ a', chkD l a' D = true ∧ chkH l a' H ps ∧ (∀ x ∈ oi.op.operands, a'.eval x = a.eval x) ∧ Region.wanted oi (yielded l.toArray a'.tmps) = Region.wanted oi (yielded l.toArray a.tmps) := by
      intro hDH hw
      rw [hDH] at hlt
      rw [if_pos hw] at h
      obtain ⟨b, v, w', hb, hk⟩ := upon_next hD h.2
      obtain ⟨a1, w1, ⟨_, h1⟩, t1⟩ := reach1 hD s _ _ hk
      obtain ⟨a', w2, hk0, t2⟩ := reachesP hD p _ _ h1
      obtain ⟨c1, c2⟩ := hK _ _ hk0
      refine ⟨a', c1, c2, ?_⟩
      refine same_eval (o := oi) (ops := l.toArray) fun t htm => ?_
      have hlt : lateOk l.toArray i (i :: (s ++ p.path)) = true := by simpa using hlt
      unfold lateOk at hlt
      rw [hi] at hlt
      have hlt := fun k hk => List.all_eq_true.1 hlt k hk
      have hown : oi.dst ≠ some t := by
        intro e
        have := hlt i List.mem_cons_self
        rw [hi] at this
        dsimp only at this
        rw [e] at this
        simp [htm] at this
      have hno : ∀ k ∈ s ++ p.path, ∀ o, l[k]? = some o → o.dst ≠ some t := by
        intro k hk o ho e
        have := hlt k (List.mem_cons_of_mem _ hk)
        have hk2 : l.toArray[k]? = some o := by simpa using ho
        rw [hk2] at this
        dsimp only at this
        rw [e] at this
        simp [htm] at this
      rw [t2 t (fun k hk => hno k (List.mem_append_right _ hk)) (fun k hk => hL k (List.mem_append_right _ hk)),
        t1 t (fun k hk => hno k (List.mem_append_left _ hk)) (fun k hk => hL k (List.mem_append_left _ hk))]
      cases hd : oi.dst with
      | none => simp [Act.put, hb]
      | some d =>
        have : d ≠ t := fun e => hown (by rw [hd, e])
        simp [Act.put, hb, Array.getElem?_setIfInBounds_ne this]
    have hdy : Region.wanted oi (yielded l.toArray a.tmps) = true → cls P oi ≤ 1 → dyn oi a = true := by
      intro hw hc
      cases hnd : needsDyn oi with
      | false => exact dyn_free hnd
      | true =>
        have hmem : D.contains i = true := by
          rcases hneed with h1 | h1
          · simp [hc, hnd] at h1
          · exact h1
        obtain ⟨a', c1, _, hev, hwd⟩ := hend (by rw [hmem]; rfl) hw
        rw [← same_dyn hev]
        exact chkD_mem c1 hmem hil (by rw [hwd]; exact hw)
    have hfirm : Region.wanted oi (yielded l.toArray a.tmps) = true → H.contains i = true → Firm P S oi a := by
      intro hw hmem
      have hho : heldOp P oi = true := hheld.resolve_left (by rw [hmem]; simp)
      unfold heldOp at hho
      cases hop : oi.op <;> rw [hop] at hho <;> (first | (cases hho; done) | skip)
      rename_i t x
      cases x <;> (first | (cases hho; done) | skip)
      rename_i tt
      obtain ⟨a', _, c2, hev, _⟩ := hend (by rw [hmem, Bool.or_true]) hw
      have hx := hev (.tmp tt) (by rw [hop]; simp [Op.operands])
      rw [hS]
      refine firm_load hop hho hv ?_
      rw [← hx]
      exact chkH_mem c2 hmem hil hop
    have hS1 : ∀ a w1, 1 < cls P oi → wpListIn F n P l.toArray (OnlyN fun a1 w1 => S w1 ∧ plIn F n P l S K0 p a1 w1) (pickL l s) a w1 → S w1 := by
      intro a w1 hc hr1
      rcases hla with hps | hla
      · rw [hS, hps]; intro p hp; cases hp
      · unfold lastOk at hla
        rw [hi] at hla
        simp only [Bool.and_eq_true, Bool.or_eq_true, decide_eq_true_eq] at hla
        rcases hla.1 with he | he
        · have : s = [] := by simpa using he
          subst this
          exact hr1.1
        · omega
    by_cases hcl : cls P oi ≤ 1
    · have key : ∀ firm, (firm = true → cls P oi = 0 ∨ H.contains i = true) →
          (∀ j oj, l.toArray[j]? = some oj → j ≠ i → listed.getD j true = false → depB .any l.toArray i l.toArray.size j = false → oi.apart l.toArray oj = true ∧ (firm = true ∨ cls P oj ≤ 1)) →
          wpD F n P .any l.toArray S Q B (m + 1) listed a w := by
        intro firm hf hap
        have hdd : Region.wanted oi (yielded l.toArray a.tmps) = true → dyn oi a = true ∧ (firm = true → Firm P S oi a) := fun hw =>
          ⟨hdy hw hcl, fun hff => by
            rcases hf hff with h0 | hm
            · exact firm_of h0 (hdy hw hcl)
            · exact hfirm hw hm⟩
        by_cases hw : Region.wanted oi (yielded l.toArray a.tmps) = true
        · rw [if_pos hw] at h
          have hup := h.2
          rw [Oper.semAt_eq _ _ _ (plain_sel hp hi).2] at hup
          cases hrun : (execOp a.eval oi).run P w with
          | ok x w' =>
            obtain ⟨hw', u, hu⟩ := keeps_of hcl (hdy hw hcl) _ _ _ hrun
            subst hu hw'
            rw [hrun] at hup
            exact take hBare hi hcl hp hQ hF _ listed a w' u hs hr hSw hap hdd (.inl ⟨hw, hrun⟩) (ih _ _ hSw hup)
          | halt x w' =>
            rw [hrun] at hup
            cases x <;> simp only [Oper.uponIn] at hup <;> exact (hup : False).elim
        · rw [if_neg hw] at h
          exact take hBare hi hcl hp hQ hF _ listed a w undef hs hr hSw hap hdd (.inr ⟨by simpa using hw, rfl⟩) (ih _ _ hSw h.2)
      rcases hch with ⟨_, hall⟩ | hone
      · refine key (cls P oi == 0 || H.contains i) (fun h => by simpa using h) fun j oj hj hne hun hdep => ?_
        have := List.all_eq_true.1 hall j (List.mem_range.2 (Array.getElem?_eq_some_iff.1 hj).1)
        rw [hj] at this
        simp only [Bool.or_eq_true, beq_iff_eq, hne, hun, hdep, Bool.false_eq_true, false_or, Bool.and_eq_true, decide_eq_true_eq] at this
        exact ⟨this.1, by simpa using this.2⟩
      · have hone : Region.ready .any l.toArray listed = [i] := by simpa using hone
        -- alone: no other is ready, now
        refine ⟨hSw, fun h0 => (by rw [hone] at h0; cases h0), fun j hj => ?_⟩
        rw [hone] at hj
        have : j = i := by simpa using hj
        subst this
        refine ⟨oi, hi, hdy, ?_⟩
        unfold wpOpIn
        rw [hi]
        dsimp only
        by_cases hw : Region.wanted oi (yielded l.toArray a.tmps) = true
        · rw [if_pos hw] at h ⊢
          refine ⟨h.1, ?_⟩
          have hup := h.2
          rw [Oper.semAt_eq _ _ _ (plain_sel hp hi).2] at hup ⊢
          cases hrun : (execOp a.eval oi).run P w with
          | ok x w' =>
            obtain ⟨hw', u, hu⟩ := keeps_of hcl (hdy hw hcl) _ _ _ hrun
            subst hu hw'
            rw [hrun] at hup
            exact ih _ _ hSw hup
          | halt x w' =>
            rw [hrun] at hup
            cases x <;> simp only [Oper.uponIn] at hup <;> exact (hup : False).elim
        · rw [if_neg hw] at h ⊢
          exact ⟨h.1, ih _ _ hSw h.2⟩
    · have hone : Region.ready .any l.toArray listed = [i] := by
        rcases hch with ⟨h1, _⟩ | h1
        · exact absurd (by simpa using h1) hcl
        · simpa using h1
      refine ⟨hSw, fun h0 => (by rw [hone] at h0; cases h0), fun j hj => ?_⟩
      rw [hone] at hj
      have : j = i := by simpa using hj
      subst this
      refine ⟨oi, hi, hdy, ?_⟩
      unfold wpOpIn
      rw [hi]
      dsimp only
      by_cases hw : Region.wanted oi (yielded l.toArray a.tmps) = true
      · rw [if_pos hw] at h ⊢
        exact ⟨h.1, uponIn_any (fun a w hr1 => ih a w (hS1 a w (by omega) hr1) hr1) h.2⟩
      · rw [if_neg hw] at h ⊢
        exact ⟨h.1, ih _ _ hSw h.2⟩


theorem run_P (hQ : ∀ c a w, ¬ Q (.panic c) a w) (hBare : Bare .any l.toArray B) (hBX : ∀ listed a w, Shutl .any l.toArray listed → Region.ready .any l.toArray listed = X → K0 a w → B listed a w) (hp : plainOps l.toArray = true) (hF : ∀ f, F.fn f) (hD : F.depth = none) {ps : List Addr} {w0 : World} (hv : ∀ p ∈ ps, (w0.cell? p).isSome = true)
    (hS : S = SameAt ps w0) (hK : ∀ a w, K0 a w → chkD l a D = true ∧ chkH l a H ps) {any : Bool} (hany : ps = [] ∨ any = true) : ∀ (p : Pl) (listed : Array Bool) (a : Act) (w : World),
    ordP P l.toArray D H X any p listed = true → (∀ k ∈ p.path, k < l.length) → Shutl .any l.toArray listed → S w → plIn F n P l S K0 p a w → wpD F n P .any l.toArray S Q B p.len listed a w := by
  intro p
  induction p with
  | fin =>
    intro listed a w ho _ hs hSw h
    unfold ordP at ho
    exact ⟨hSw, hBX _ _ _ hs (by simpa using ho) h⟩
  | seg s p ihp =>
    intro listed a w ho hL hs hSw h
    unfold ordP at ho
    simp only [Bool.and_eq_true, Bool.or_eq_true, Bool.not_eq_true'] at ho
    obtain ⟨hla0, ho⟩ := ho
    have hla : ps = [] ∨ lastOk P l.toArray s = true := by
      rcases hany with h1 | h1
      · exact .inl h1
      · rcases hla0 with h2 | h2
        · rw [h1] at h2; cases h2
        · exact .inr h2
    clear hla0
    unfold plIn at h
    unfold Pl.path at hL
    unfold Pl.len
    induction s generalizing listed a w with
    | nil =>
      unfold ordL at ho
      simp only [List.length_nil, Nat.zero_add]
      exact ihp listed a w ho (fun k hk => hL k (by simpa using hk)) hs hSw h.2
    | cons i s ihs =>
      unfold ordL at ho
      simp only [Bool.and_eq_true] at ho
      obtain ⟨⟨hst, hlt⟩, ho⟩ := ho
      have hr : i ∈ Region.ready .any l.toArray listed := by
        unfold stepOk at hst
        cases hi : l.toArray[i]? with
        | none => rw [hi] at hst; cases hst
        | some o => rw [hi] at hst; simp only [Bool.and_eq_true] at hst; simpa using hst.1.1.1
      rw [List.length_cons, Nat.add_right_comm]
      refine run_stepP hQ hBare hp hF hD hv hS hK (fun a w h1 h2 => ihs _ a w (shut_step hs hr) h1 ho ?_ h2 (fun k hk => hL k (List.mem_cons_of_mem _ hk))) hst hlt (fun k hk => hL k (List.mem_cons_of_mem _ hk)) hla hs hSw h
      refine hla.imp id fun h => ?_
      unfold lastOk at h
      simp only [Bool.and_eq_true] at h
      exact h.2
  | two i j p q ihp ihq =>
    intro listed a w ho hL hs hSw h
    unfold ordP at ho
    simp only [Bool.and_eq_true, beq_iff_eq] at ho
    obtain ⟨⟨⟨⟨⟨hrd, hcl⟩, hln⟩, hqL⟩, hop⟩, hoq⟩ := ho
    unfold plIn at h
    unfold Pl.len
    have one : ∀ (x : Nat) (r : Pl), x ∈ Region.ready .any l.toArray listed → (∀ o, l.toArray[x]? = some o → 1 < cls P o ∨ needsDyn o = false) → (∀ a w, S w → plIn F n P l S K0 r a w → wpD F n P .any l.toArray S Q B p.len (listed.setIfInBounds x true) a w) →
        wpListIn F n P l.toArray (OnlyN fun a1 w1 => S w1 ∧ plIn F n P l S K0 r a1 w1) (pickL l [x]) a w →
        ∃ o, l.toArray[x]? = some o ∧ (Region.wanted o (yielded l.toArray a.tmps) = true → cls P o ≤ 1 → dyn o a = true) ∧ wpOpIn F n P l.toArray Q x (wpD F n P .any l.toArray S Q B p.len (listed.setIfInBounds x true)) a w := by
      intro x r hx hc hk h
      obtain ⟨o, ho, _, _⟩ := ready_some hx
      have hil : l[x]? = some o := by simpa using ho
      have hg : l.getD x default = o := by simp [List.getD_eq_getElem?_getD, hil]
      refine ⟨o, ho, fun _ h1 => (hc o ho).elim (fun h => by omega) (fun h => dyn_free h), ?_⟩
      unfold pickL wpListIn at h
      rw [hg] at h
      unfold wpOpIn
      rw [ho]
      dsimp only
      by_cases hw : Region.wanted o (yielded l.toArray a.tmps) = true
      · rw [if_pos hw] at h ⊢
        exact ⟨h.1, uponIn_any (fun a w h => hk a w h.1 h.2) h.2⟩
      · rw [if_neg hw] at h ⊢
        exact ⟨h.1, hk _ _ h.2.1 h.2.2⟩
    have hpi : i ∈ Region.ready .any l.toArray listed := by rw [hrd]; simp
    have hpj : j ∈ Region.ready .any l.toArray listed := by rw [hrd]; simp
    have hci : (∀ o, l.toArray[i]? = some o → 1 < cls P o ∨ needsDyn o = false) ∧ ∀ o, l.toArray[j]? = some o → 1 < cls P o ∨ needsDyn o = false := by
      constructor <;> intro o ho <;> split at hcl <;> simp_all
    refine ⟨hSw, fun h0 => (by rw [hrd] at h0; cases h0), fun x hx => ?_⟩
    rw [hrd] at hx
    have hx : x = i ∨ x = j := by simpa using hx
    rcases hx with rfl | rfl
    · exact one x p hpi hci.1 (fun a w hS h => ihp _ a w hop (fun k hk => hL k (List.mem_cons_of_mem _ hk)) (shut_step hs hpi) hS h) h.1
    · refine one x q hpj hci.2 (fun a w hS h => ?_) h.2
      rw [hln]
      exact ihq _ a w hoq (fun k hk => by simpa using List.all_eq_true.1 hqL k hk) (shut_step hs hpj) hS h
  | three i j k p q r ihp ihq ihr =>
    intro listed a w ho hL hs hSw h
    unfold ordP at ho
    simp only [Bool.and_eq_true, beq_iff_eq] at ho
    obtain ⟨⟨⟨⟨⟨⟨⟨⟨hrd, hcl⟩, hln⟩, hlr⟩, hqL⟩, hrL⟩, hop⟩, hoq⟩, hor⟩ := ho
    unfold plIn at h
    unfold Pl.len
    have one : ∀ (x : Nat) (r : Pl), x ∈ Region.ready .any l.toArray listed → (∀ o, l.toArray[x]? = some o → 1 < cls P o ∨ needsDyn o = false) → (∀ a w, S w → plIn F n P l S K0 r a w → wpD F n P .any l.toArray S Q B p.len (listed.setIfInBounds x true) a w) →
        wpListIn F n P l.toArray (OnlyN fun a1 w1 => S w1 ∧ plIn F n P l S K0 r a1 w1) (pickL l [x]) a w →
        ∃ o, l.toArray[x]? = some o ∧ (Region.wanted o (yielded l.toArray a.tmps) = true → cls P o ≤ 1 → dyn o a = true) ∧ wpOpIn F n P l.toArray Q x (wpD F n P .any l.toArray S Q B p.len (listed.setIfInBounds x true)) a w := by
      intro x r hx hc hk h
      obtain ⟨o, ho, _, _⟩ := ready_some hx
      have hil : l[x]? = some o := by simpa using ho
      have hg : l.getD x default = o := by simp [List.getD_eq_getElem?_getD, hil]
      refine ⟨o, ho, fun _ h1 => (hc o ho).elim (fun h => by omega) (fun h => dyn_free h), ?_⟩
      unfold pickL wpListIn at h
      rw [hg] at h
      unfold wpOpIn
      rw [ho]
      dsimp only
      by_cases hw : Region.wanted o (yielded l.toArray a.tmps) = true
      · rw [if_pos hw] at h ⊢
        exact ⟨h.1, uponIn_any (fun a w h => hk a w h.1 h.2) h.2⟩
      · rw [if_neg hw] at h ⊢
        exact ⟨h.1, hk _ _ h.2.1 h.2.2⟩
    have hpi : i ∈ Region.ready .any l.toArray listed := by rw [hrd]; simp
    have hpj : j ∈ Region.ready .any l.toArray listed := by rw [hrd]; simp
    have hpk : k ∈ Region.ready .any l.toArray listed := by rw [hrd]; simp
    have hci : (∀ o, l.toArray[i]? = some o → 1 < cls P o ∨ needsDyn o = false) ∧ (∀ o, l.toArray[j]? = some o → 1 < cls P o ∨ needsDyn o = false) ∧ ∀ o, l.toArray[k]? = some o → 1 < cls P o ∨ needsDyn o = false := by
      refine ⟨?_, ?_, ?_⟩ <;> intro o ho <;> split at hcl <;> simp_all
    refine ⟨hSw, fun h0 => (by rw [hrd] at h0; cases h0), fun x hx => ?_⟩
    rw [hrd] at hx
    have hx : x = i ∨ x = j ∨ x = k := by simpa using hx
    rcases hx with rfl | rfl | rfl
    · exact one x p hpi hci.1 (fun a w hS h => ihp _ a w hop (fun k hk => hL k (List.mem_cons_of_mem _ hk)) (shut_step hs hpi) hS h) h.1
    · refine one x q hpj hci.2.1 (fun a w hS h => ?_) h.2.1
      rw [hln]
      exact ihq _ a w hoq (fun k hk => by simpa using List.all_eq_true.1 hqL k hk) (shut_step hs hpj) hS h
    · refine one x r hpk hci.2.2 (fun a w hS h => ?_) h.2.2
      rw [hlr]
      exact ihr _ a w hor (fun k hk => by simpa using List.all_eq_true.1 hrL k hk) (shut_step hs hpk) hS h

theorem close_end {x : Nat} {listed : Array Bool} {a : Act} {w : World} {K1 : Act → World → Prop} (hxd : ∀ i, i < l.toArray.size → i ≠ x → depB .any l.toArray i l.toArray.size x = true) (hrd : Region.ready .any l.toArray listed = [x]) (hsh : Shutl .any l.toArray listed)
    (h2 : wpListIn F n P l.toArray (OnlyN K1) (pickL l [x]) a w) : wpAnyIn F n P .any l.toArray (OnlyN K1) 1 listed a w := by
  refine ⟨fun h0 => (by rw [hrd] at h0; cases h0), fun i hi => ?_⟩
  rw [hrd] at hi
  have : i = x := by simpa using hi
  subst this
  have hxr : i ∈ Region.ready .any l.toArray listed := by rw [hrd]; exact List.mem_cons_self
  obtain ⟨oi, hoi, hun, haf⟩ := ready_some hxr
  have hle : Region.ready .any l.toArray (listed.setIfInBounds i true) = [] := by
    cases hq : Region.ready .any l.toArray (listed.setIfInBounds i true) with
    | nil => rfl
    | cons j r =>
      exfalso
      have hj : j ∈ Region.ready .any l.toArray (listed.setIfInBounds i true) := by rw [hq]; exact List.mem_cons_self
      obtain ⟨oj, hoj, hjn, _⟩ := ready_some hj
      by_cases hne : j = i
      · subst hne
        rcases Nat.lt_or_ge j listed.size with hlt | hge
        · simp [hlt] at hjn
        · simp [hge] at hun
      · rw [getD_set_ne _ (Ne.symm hne)] at hjn
        have h3 := dep_listed hsh _ i oi hoi haf (hxd j (Array.getElem?_eq_some_iff.1 hoj).1 hne)
        rcases Nat.lt_or_ge j listed.size with hlt | hge
        · simp [hlt] at h3 hjn
          rw [hjn] at h3; cases h3
        · simp [hge] at hjn
  have hil : l[i]? = some oi := by simpa using hoi
  have hg : l.getD i default = oi := by simp [List.getD_eq_getElem?_getD, hil]
  unfold pickL wpListIn at h2
  rw [hg] at h2
  unfold wpOpIn
  rw [hoi]
  dsimp only
  by_cases hw : Region.wanted oi (yielded l.toArray a.tmps) = true
  · rw [if_pos hw] at h2 ⊢
    exact ⟨h2.1, uponIn_any (fun a w h => ⟨hle, h⟩) h2.2⟩
  · rw [if_neg hw] at h2 ⊢
    exact ⟨h2.1, hle, h2.2⟩
theorem plan_any {id : Nat} {a : Act} {w : World} {p : Pl} {ps : List Addr} (hF : ∀ f, F.fn f) (hd : F.depth = none) (hB : ordT P l p D H [] = true) (hH : H = [] → ps = [])
    (hv : ∀ p ∈ ps, (w.cell? p).isSome = true) (hK : ∀ a w, K0 a w → chkD l a D = true ∧ chkH l a H ps)
    (h : plIn F n P l (SameAt ps w) K0 p a w.drew) : (Code.region id l.toArray true).wpIn F n P (OnlyN K0) a w := by
  unfold ordT at hB
  simp only [Bool.and_eq_true, beq_iff_eq] at hB
  obtain ⟨⟨⟨⟨⟨hp, hlen⟩, hpath⟩, ho⟩, hm⟩, _⟩ := hB
  have hr := run_P (Q := OnlyN K0) (B := fun listed a w => Region.ready .any l.toArray listed = [] ∧ K0 a w) (fun _ _ _ h => h) bare_end (fun listed a w _ h1 h2 => ⟨h1, h2⟩) (n := n) (l := l) (S := SameAt ps w) (D := D) (H := H) (K0 := K0) hp hF hd (w0 := w) hv rfl hK (any := !H.isEmpty)
    (by
      cases H with
      | nil => exact .inl (hH rfl)
      | cons _ _ => exact .inr rfl) p (Array.replicate l.length false) a w.drew (by simpa using ho) (fun k hk => by simpa using List.all_eq_true.1 hpath k hk) (shut0 _ _) (fun p _ => rfl) h
  refine wpIn_region_any hm ?_
  have := wpD_any (m := 0) (fun _ _ _ h => h) _ _ _ _ hr
  simp only [List.length_nil, Nat.add_zero] at hlen
  rw [hlen] at this
  simpa using this
theorem plan_close {id : Nat} {a : Act} {w : World} {p : Pl} {ps : List Addr} {x : Nat} {K1 : Act → World → Prop} (hF : ∀ f, F.fn f) (hd : F.depth = none) (hB : ordT P l p D H [x] = true) (hH : H = [] → ps = [])
    (hv : ∀ p ∈ ps, (w.cell? p).isSome = true) (hK : ∀ a w, K0 a w → chkD l a D = true ∧ chkH l a H ps) (hx : ∀ a w, K0 a w → wpListIn F n P l.toArray (OnlyN K1) (pickL l [x]) a w)
    (h : plIn F n P l (SameAt ps w) K0 p a w.drew) : (Code.region id l.toArray true).wpIn F n P (OnlyN K1) a w := by
  unfold ordT at hB
  simp only [Bool.and_eq_true, beq_iff_eq] at hB
  obtain ⟨⟨⟨⟨⟨hp, hlen⟩, hpath⟩, ho⟩, hm⟩, hX⟩ := hB
  have hxd : ∀ i, i < l.toArray.size → i ≠ x → depB .any l.toArray i l.toArray.size x = true := by
    intro i hi hne
    simp only [List.all_cons, List.all_nil, Bool.and_true, List.all_eq_true, List.mem_range, Bool.or_eq_true, beq_iff_eq] at hX
    simpa using (hX i (by simpa using hi)).resolve_left hne
  have hr := run_P (X := [x]) (Q := OnlyN K1) (B := fun listed a w => Region.ready .any l.toArray listed = [x] ∧ Shutl .any l.toArray listed ∧ K0 a w) (fun _ _ _ h => h) (bare_close (Q := fun listed a w => Shutl .any l.toArray listed ∧ K0 a w) hxd) (fun listed a w hs h1 h2 => ⟨h1, hs, h2⟩) (n := n) (l := l) (S := SameAt ps w) (D := D) (H := H) (K0 := K0) hp hF hd (w0 := w) hv rfl hK (any := !H.isEmpty)
    (by
      cases H with
      | nil => exact .inl (hH rfl)
      | cons _ _ => exact .inr rfl) p (Array.replicate l.length false) a w.drew (by simpa using ho) (fun k hk => by simpa using List.all_eq_true.1 hpath k hk) (shut0 _ _) (fun p _ => rfl) h
  refine wpIn_region_any hm ?_
  have := wpD_any (m := 1) (fun listed a w h => ?_) _ _ _ _ hr
  · simp only [List.length_cons, List.length_nil, Nat.zero_add] at hlen
    rw [hlen] at this
    simpa using this
  · exact close_end hxd h.1 h.2.1 (hx _ _ h.2.2)
/-- The rule along a plan, inside a fence. -/
theorem rgnTIn {id : Nat} {a : Act} {w : World} (p : Pl) (D H : List Nat) (ps : List Addr) (hF : ∀ f, F.fn f) (hd : F.depth = none) (hB : ordT P l p D H [] = true) (hH : H = [] → ps = [])
    (hv : ∀ p ∈ ps, (w.cell? p).isSome = true) (h : plIn F n P l (SameAt ps w) (RH l D H ps Q) p a w.drew) : (Code.region id l.toArray true).wpIn F n P Q a w :=
  only_to (id := id) (K0 := RH l D H ps Q) (fun a w h => h.2.2) (plan_any hF hd hB hH hv (fun a w h => ⟨h.1, h.2.1⟩) h)
theorem rgnTCIn {id : Nat} {a : Act} {w : World} (p : Pl) (D H : List Nat) (ps : List Addr) (x : Nat) (hF : ∀ f, F.fn f) (hd : F.depth = none) (hB : ordT P l p D H [x] = true) (hH : H = [] → ps = [])
    (hv : ∀ p ∈ ps, (w.cell? p).isSome = true) (h : plIn F n P l (SameAt ps w) (RC F n P l D H ps x Q) p a w.drew) : (Code.region id l.toArray true).wpIn F n P Q a w :=
  only_to (id := id) (K0 := fun a w => Q .normal a w) (fun a w h => h) (plan_close hF hd hB hH hv (fun a w h => ⟨h.1, h.2.1⟩) (fun a w h => h.2.2) h)
theorem plan_wide {K1 : Act → World → Prop} (hK : ∀ a w, K0 a w → K1 a w) : ∀ (p : Pl) (a : Act) (w : World), pl P l S K0 p a w → plIn Fence.wide n P l S K1 p a w
  | .fin, a, w, h => hK _ _ h
  | .seg s p, a, w, h => by
    unfold pl at h
    unfold plIn
    exact list_wide (fun a w h => ⟨h.1, plan_wide hK p a w h.2⟩) _ _ _ h
  | .two i j p q, a, w, h => by
    unfold pl at h
    unfold plIn
    exact ⟨list_wide (fun a w h => ⟨h.1, plan_wide hK p a w h.2⟩) _ _ _ h.1, list_wide (fun a w h => ⟨h.1, plan_wide hK q a w h.2⟩) _ _ _ h.2⟩
  | .three i j k p q r, a, w, h => by
    unfold pl at h
    unfold plIn
    exact ⟨list_wide (fun a w h => ⟨h.1, plan_wide hK p a w h.2⟩) _ _ _ h.1, list_wide (fun a w h => ⟨h.1, plan_wide hK q a w h.2⟩) _ _ _ h.2.1, list_wide (fun a w h => ⟨h.1, plan_wide hK r a w h.2⟩) _ _ _ h.2.2⟩
/-- The rule along a plan, for a plain frame. -/
theorem rgnT {id : Nat} {a : Act} {w : World} (p : Pl) (D H : List Nat) (ps : List Addr) (hB : ordT P l p D H [] = true) (hH : H = [] → ps = [])
    (hv : ∀ p ∈ ps, (w.cell? p).isSome = true) (h : pl P l (SameAt ps w) (RH l D H ps Q) p a w.drew) : (Code.region id l.toArray true).wp P Q a w :=
  (wpIn_wide (n := 0)).1 (rgnTIn p D H ps (fun _ => trivial) rfl hB hH hv (plan_wide (fun _ _ h => h) _ _ _ h))
/-- The same with a closing operation. -/
theorem rgnTC {id : Nat} {a : Act} {w : World} (p : Pl) (D H : List Nat) (ps : List Addr) (x : Nat) (hB : ordT P l p D H [x] = true) (hH : H = [] → ps = [])
    (hv : ∀ p ∈ ps, (w.cell? p).isSome = true) (h : pl P l (SameAt ps w) (RCP P l D H ps x Q) p a w.drew) : (Code.region id l.toArray true).wp P Q a w :=
  (wpIn_wide (n := 0)).1 (rgnTCIn p D H ps x (fun _ => trivial) rfl hB hH hv (plan_wide (fun _ _ h => ⟨h.1, h.2.1, list_wide (fun _ _ h => h) _ _ _ h.2.2⟩) _ _ _ h))
end
end Go.Proofs.Ytmhhejpokgdjoaa
namespace Go.Proofs.Ytmhhejpokgdjoaa
open Go Go.RowKit
set_option linter.unusedVariables false

/-- Which operations stand ahead of one, as bits. -/
def ancO (acc : List Nat) (es : List Edge) : Nat := es.foldl (fun m e => if Region.binds .any e then m ||| (2 ^ e.on ||| acc.getD e.on 0) else m) 0
def ancL : List Oper → List Nat → List Nat
  | [], acc => acc
  | o :: r, acc => ancL r (acc ++ [ancO acc o.after.toList])
theorem ancO_bit {acc : List Nat} {i : Nat} : ∀ (es : List Edge) (m : Nat), (es.foldl (fun m e => if Region.binds .any e then m ||| (2 ^ e.on ||| acc.getD e.on 0) else m) m).testBit i = true →
    m.testBit i = true ∨ ∃ e ∈ es, Region.binds .any e = true ∧ (e.on = i ∨ (acc.getD e.on 0).testBit i = true)
  | [], m, h => .inl h
  | e :: es, m, h => by
    rw [List.foldl_cons] at h
    rcases ancO_bit es _ h with h1 | ⟨e', he', h2⟩
    · by_cases hb : Region.binds .any e = true
      · rw [if_pos hb, Nat.testBit_or, Nat.testBit_or] at h1
        simp only [Bool.or_eq_true] at h1
        rcases h1 with h1 | h1 | h1
        · exact .inl h1
        · rw [Nat.testBit_two_pow] at h1
          exact .inr ⟨e, List.mem_cons_self .., hb, .inl (by simpa using h1)⟩
        · exact .inr ⟨e, List.mem_cons_self .., hb, .inr h1⟩
      · rw [if_neg hb] at h1
        exact .inl h1
    · exact .inr ⟨e', List.mem_cons_of_mem _ he', h2⟩
theorem depB_succ {ops : Array Oper} {i : Nat} : ∀ (n j : Nat), depB .any ops i n j = true → depB .any ops i (n + 1) j = true
  | 0, j, h => by cases h
  | n + 1, j, h => by
    unfold depB at h ⊢
    cases ho : ops[j]? with
    | none => rw [ho] at h; cases h
    | some o =>
      rw [ho] at h
      dsimp only at h ⊢
      obtain ⟨e, he, h⟩ := Array.any_eq_true'.1 h
      refine Array.any_eq_true'.2 ⟨e, he, ?_⟩
      simp only [Bool.and_eq_true, Bool.or_eq_true] at h ⊢
      exact ⟨h.1, h.2.imp id (depB_succ n e.on)⟩
theorem depB_le {ops : Array Oper} {i n m j : Nat} (h : depB .any ops i n j = true) (hm : n ≤ m) : depB .any ops i m j = true := by
  induction hm with
  | refl => exact h
  | step _ ih => exact depB_succ _ _ ih
theorem ancL_bit {ops : Array Oper} : ∀ (r pre : List Oper) (acc : List Nat), ops.toList = pre ++ r → acc.length = pre.length → (∀ j m i, acc[j]? = some m → m.testBit i = true → depB .any ops i (j + 1) j = true) →
    ∀ j m i, (ancL r acc)[j]? = some m → m.testBit i = true → depB .any ops i (j + 1) j = true
  | [], pre, acc, _, _, h => h
  | o :: r, pre, acc, ho, hl, h => by
    refine ancL_bit r (pre ++ [o]) _ (by rw [ho]; simp) (by simp [hl]) ?_
    intro j m i hj hm
    rcases Nat.lt_or_ge j acc.length with hlt | hge
    · rw [List.getElem?_append_left hlt] at hj
      exact h j m i hj hm
    · have hjl : j = acc.length := by
        have := (List.getElem?_eq_some_iff.1 hj).1
        simp at this
        omega
      subst hjl
      rw [List.getElem?_append_right (Nat.le_refl _), Nat.sub_self, List.getElem?_cons_zero] at hj
      cases hj
      have hoj : ops[acc.length]? = some o := by
        rw [← Array.getElem?_toList, ho, hl, List.getElem?_append_right (Nat.le_refl _), Nat.sub_self]
        rfl
      rcases ancO_bit _ _ hm with h0 | ⟨e, he, hb, h1⟩
      · simp at h0
      · unfold depB
        rw [hoj]
        dsimp only
        refine Array.any_eq_true'.2 ⟨e, by simpa using he, ?_⟩
        simp only [Bool.and_eq_true, Bool.or_eq_true, beq_iff_eq]
        refine ⟨hb, h1.imp id fun h2 => ?_⟩
        have hlt : e.on < acc.length := by
          apply Classical.byContradiction
          intro hn
          rw [List.getD_eq_getElem?_getD, List.getElem?_eq_none (by omega)] at h2
          simp at h2
        rw [List.getD_eq_getElem?_getD, List.getElem?_eq_getElem hlt] at h2
        exact depB_le (h e.on _ i (List.getElem?_eq_getElem hlt) h2) (by omega)
theorem anc_dep {l : List Oper} {i j : Nat} (h : ((ancL l []).getD j 0).testBit i = true) : depB .any l.toArray i l.toArray.size j = true := by
  have hj : j < (ancL l []).length := by
    apply Classical.byContradiction
    intro hn
    rw [List.getD_eq_getElem?_getD, List.getElem?_eq_none (by omega)] at h
    simp at h
  have hlen : ∀ (r : List Oper) (acc : List Nat), (ancL r acc).length = acc.length + r.length := by
    intro r
    induction r with
    | nil => intro acc; rfl
    | cons o r ih =>
      intro acc
      show (ancL r _).length = _
      rw [ih]
      simp
      omega
  rw [List.getD_eq_getElem?_getD, List.getElem?_eq_getElem hj] at h
  have := ancL_bit (ops := l.toArray) l [] [] (by simp) rfl (by simp) j _ i (List.getElem?_eq_getElem hj) h
  refine depB_le this ?_
  rw [hlen] at hj
  simp at hj ⊢
  omega
def stepOkF (P : Program) (ops : Array Oper) (anc : List Nat) (listed : Array Bool) (D H : List Nat) (i : Nat) : Bool :=
  match ops[i]? with
  | none => false
  | some oi => (Region.ready .any ops listed).contains i && (!(decide (cls P oi ≤ 1) && needsDyn oi) || D.contains i) && (!H.contains i || heldOp P oi) &&
      ((decide (cls P oi ≤ 1) && (List.range ops.size).all fun j => j == i || listed.getD j true || (anc.getD j 0).testBit i ||
          match ops[j]? with | some oj => oi.apart ops oj && (cls P oi == 0 || H.contains i || decide (cls P oj ≤ 1)) | none => true) || Region.ready .any ops listed == [i])
def ordOkF (P : Program) (ops : Array Oper) (anc D H X : List Nat) : Array Bool → List Nat → Bool
  | listed, [] => Region.ready .any ops listed == X
  | listed, i :: r => stepOkF P ops anc listed D H i && (!(D.contains i || H.contains i) || lateOk ops i (i :: r)) && ordOkF P ops anc D H X (listed.setIfInBounds i true) r
def ordAllF (P : Program) (l : List Oper) (ss : List (List Nat)) (D H : List Nat) (X : List Nat := []) : Bool :=
  plainOps l.toArray && ss.flatten.length + X.length == l.length && ordOkF P l.toArray (ancL l []) D H X (Array.replicate l.length false) ss.flatten && P.follows .mixedOrders && (H.isEmpty || ss.all (lastOk P l.toArray)) && X.all fun x => (List.range l.length).all fun i => i == x || ((ancL l []).getD x 0).testBit i
theorem stepOk_of {P : Program} {l : List Oper} {listed : Array Bool} {D H : List Nat} {i : Nat} (h : stepOkF P l.toArray (ancL l []) listed D H i = true) : stepOk P l.toArray listed D H i = true := by
  unfold stepOkF at h
  unfold stepOk
  cases ho : l.toArray[i]? with
  | none => rw [ho] at h; cases h
  | some oi =>
    rw [ho] at h
    dsimp only at h ⊢
    simp only [Bool.and_eq_true, Bool.or_eq_true, List.all_eq_true] at h ⊢
    refine ⟨h.1, h.2.imp (fun ⟨h1, h2⟩ => ⟨h1, fun j hj => ?_⟩) id⟩
    rcases h2 j hj with (h3 | h3) | h3
    · exact .inl (.inl h3)
    · exact .inl (.inr (anc_dep h3))
    · exact .inr h3
theorem ordOk_of {P : Program} {l : List Oper} {D H X : List Nat} : ∀ (r : List Nat) (listed : Array Bool), ordOkF P l.toArray (ancL l []) D H X listed r = true → ordOk P l.toArray D H X listed r = true
  | [], listed, h => h
  | i :: r, listed, h => by
    unfold ordOkF at h
    unfold ordOk
    simp only [Bool.and_eq_true] at h ⊢
    exact ⟨⟨stepOk_of h.1.1, h.1.2⟩, ordOk_of r _ h.2⟩
theorem ord_fast {P : Program} {l : List Oper} {ss : List (List Nat)} {D H X : List Nat} (h : ordAllF P l ss D H X = true) : ordAll P l ss D H X = true := by
  unfold ordAllF at h
  unfold ordAll
  simp only [Bool.and_eq_true] at h ⊢
  obtain ⟨⟨⟨⟨⟨h1, h2⟩, h3⟩, h4⟩, h5⟩, h6⟩ := h
  refine ⟨⟨⟨⟨⟨h1, h2⟩, ordOk_of _ _ h3⟩, h4⟩, h5⟩, ?_⟩
  rw [List.all_eq_true] at h6 ⊢
  intro x hx
  have := h6 x hx
  rw [List.all_eq_true] at this ⊢
  intro i hi
  have := this i hi
  simp only [Bool.or_eq_true] at this ⊢
  refine this.imp id fun h => ?_
  have := anc_dep h
  simpa using this
end Go.Proofs.Ytmhhejpokgdjoaa
