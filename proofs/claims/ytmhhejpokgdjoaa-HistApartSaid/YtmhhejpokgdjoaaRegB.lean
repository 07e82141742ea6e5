/- Which operations neither read nor write memory (those of class 0). -/
import Derived.Test.YtmhhejpokgdjoaaRegA
namespace Go.Proofs.Ytmhhejpokgdjoaa
open Go Go.RowKit
set_option linter.unusedSimpArgs false
set_option linter.unusedVariables false

/-! ### The kinds of operations -/
def scalarV : Value → Bool
  | .int .. | .bool _ | .string _ => true
  | _ => false
def nilC : Operand → Bool
  | .const (.pointer none) | .const .nilFunc | .const .nilIface | .const (.slice none _ _) | .const (.map none) => true
  | _ => false
def fieldOk (P : Program) (s : TypeId) (f : Nat) : Bool :=
  match P.underlying s with
  | some (.struct fs) => (match fs[f]? with | some f => (match P.info? f.type with | some i => i.size != 0 | none => false) | none => false)
  | _ => false
def intT (P : Program) (t : TypeId) : Bool := match P.underlying t with | some (.int _) => true | _ => false
/-- 0: neither reads nor writes memory (where 'dyn' holds); 1: reads; 2: anything. -/
def structT (P : Program) (t : TypeId) : Bool := match P.underlying t with | some (.struct _) => true | _ => false
def cls (P : Program) (o : Oper) : Nat :=
  match o.op with
  | .move _ | .assign _ | .pick .. | .nilCheck _ | .index .. | .indexAddr .. | .field .. | .extract .. | .makeInterface .. | .makeFunc .. | .slice .. | .unOp .. | .build .. => 0
  | .binOp op t _ _ _ => if (op == .eql || op == .neq) && structT P t then 2 else 0
  | .fieldAddr s _ f => if fieldOk P s f then 0 else 2
  | .convert _ b _ => if intT P b then 0 else 2
  | .call { callee := .builtin .len, .. } => 0
  | .load .. => 1
  | _ => 2
def dyn (o : Oper) (a : Act) : Bool :=
  match o.op with
  | .binOp op _ x y _ => (scalarV (a.eval x) && scalarV (a.eval y)) || ((op == .eql || op == .neq) && (nilC x || nilC y))
  | .convert _ _ x => (match a.eval x with | .int .. => true | _ => false)
  | .call c => c.args.all fun x => match a.eval x with | .slice .. | .string _ => true | _ => false
  | _ => true

section
variable {P : Program}
theorem st_equal_scalar {t : TypeId} {x y : Value} {d : Nat} (hx : scalarV x = true) (hy : scalarV y = true) : Steady P (Op.equalIn (d + 1) t x y) := by
  unfold Op.equalIn
  refine (st_underlying t).bind fun u => ?_
  cases x <;> simp [scalarV] at hx <;> cases y <;> simp [scalarV] at hy <;>
    repeat' (first | exact st_stuck _ | exact Steady.pure _ | exact st_uns _ | contradiction | split)
def nilV (v : Value) : Prop := v = .pointer none ∨ v = .nilFunc ∨ v = .nilIface ∨ (∃ m n, v = .slice none m n) ∨ v = .map none
theorem nilV_of {x : Operand} {a : Act} (h : nilC x = true) : nilV (a.eval x) := by
  unfold nilC at h
  split at h
  · exact .inl rfl
  · exact .inr (.inl rfl)
  · exact .inr (.inr (.inl rfl))
  · exact .inr (.inr (.inr (.inl ⟨_, _, rfl⟩)))
  · exact .inr (.inr (.inr (.inr rfl)))
  · cases h
theorem st_equal_nilL {t : TypeId} {x y : Value} {d : Nat} (hx : nilV x) : Steady P (Op.equalIn (d + 1) t x y) := by
  unfold Op.equalIn
  refine (st_underlying t).bind fun u => ?_
  rcases hx with rfl | rfl | rfl | ⟨m, n, rfl⟩ | rfl <;> split <;>
    first | contradiction | exact st_stuck _ | exact Steady.pure _ | exact st_uns _ | (rename_i h; cases h; done) | (rename_i h; cases h; rename_i b; cases b <;> exact Steady.pure _) | (rename_i h; cases h; rename_i b _; cases b <;> exact Steady.pure _) | trace_state
theorem st_equal_nilR {t : TypeId} {x y : Value} {d : Nat} (hx : nilV y) : Steady P (Op.equalIn (d + 1) t x y) := by
  unfold Op.equalIn
  refine (st_underlying t).bind fun u => ?_
  rcases hx with rfl | rfl | rfl | ⟨m, n, rfl⟩ | rfl <;> split <;>
    first | contradiction | exact st_stuck _ | exact Steady.pure _ | exact st_uns _ | (rename_i h; cases h; done) | (rename_i h; cases h; rename_i b; cases b <;> exact Steady.pure _) | (rename_i h; cases h; rename_i b _; cases b <;> exact Steady.pure _) | trace_state
theorem st_binOp {op : BinOp} {t : TypeId} {x y : Value} (hs : scalarV x = true) (hy : scalarV y = true) : Steady P (binOp op t x y) := by
  unfold binOp
  cases x <;> first | (cases hs; done) | skip
  all_goals cases y <;> first | (cases hy; done) | skip
  all_goals
    repeat' (first | exact st_shift .. | exact st_arith .. | exact st_div .. | exact st_bits .. | exact st_cmp .. | exact st_str .. | exact st_stuck _ | exact st_uns _ | (refine Steady.bind (st_equal_scalar rfl rfl) fun _ => Steady.pure _) | contradiction | split)
theorem st_eqGuard_scalar {op : BinOp} {t : TypeId} {x y : Operand} {a b : Value} (hs : scalarV a = true) : Steady P (eqGuard op t x y a b) := by
  unfold eqGuard
  cases a <;> first | (cases hs; done) | skip
  all_goals cases b <;> repeat' (first | exact Steady.pure _ | exact Steady.bind (Steady.pure _) fun _ => Steady.pure _ | split | dsimp only)
theorem st_binOp_nil {op : BinOp} {t : TypeId} {x y : Value} (ho : op = .eql ∨ op = .neq) (h : nilV x ∨ nilV y) : Steady P (binOp op t x y) := by
  have he : Steady P (Op.equal t x y) := by
    unfold Op.equal Op.maxDepth
    rcases h with h | h
    · exact st_equal_nilL h
    · exact st_equal_nilR h
  have e1 : Steady P (do pure (.bool (← Op.equal t x y)) : Sem Value) := he.bind fun _ => Steady.pure _
  have e2 : Steady P (do pure (.bool (!(← Op.equal t x y))) : Sem Value) := he.bind fun _ => Steady.pure _
  unfold binOp
  rcases ho with rfl | rfl <;> split <;>
    first | exact e1 | exact e2 | contradiction | (rcases h with h | h <;> rcases h with h | h | h | ⟨_, _, h⟩ | h <;> cases h) | exact st_stuck _
theorem nilC_const {x : Operand} (h : nilC x = true) : ∃ v, x = .const v := by
  unfold nilC at h; split at h <;> first | exact ⟨_, rfl⟩ | cases h
theorem st_eqGuard_nil {op : BinOp} {t : TypeId} {x y : Operand} {a : Act} (h : nilC x = true ∨ nilC y = true) : Steady P (eqGuard op t x y (a.eval x) (a.eval y)) := by
  have hn : nilV (a.eval x) ∨ nilV (a.eval y) := h.imp nilV_of nilV_of
  have hc : ∃ v, x = .const v ∨ y = .const v := by
    rcases h with h | h <;> obtain ⟨v, hv⟩ := nilC_const h
    · exact ⟨v, .inl hv⟩
    · exact ⟨v, .inr hv⟩
  generalize a.eval x = v at *
  generalize a.eval y = u at *
  unfold eqGuard
  obtain ⟨c, rfl | rfl⟩ := hc <;> cases op <;> first | exact Steady.pure _ | skip
  all_goals
    change Steady P (match v, u with | .nilIface, .nilIface => _ | .agg _, .agg _ => _ | _, _ => _)
    split
    · first | exact Steady.pure _ | (rw [if_pos (by simp)]; exact Steady.pure _)
    · rcases hn with h | h <;> rcases h with h | h | h | ⟨_, _, h⟩ | h <;> cases h
    · exact Steady.pure _
theorem st_len {ts : Array TypeId} {t : TypeId} {xs : Array Value} (h : xs.all (fun v => match v with | .slice .. | .string _ => true | _ => false) = true) : Steady P (Builtin.len_ ts t xs) := by
  unfold Builtin.len_
  split
  · rename_i ty x h1
    simp only [Prod.mk.injEq] at h1
    have hx := Array.all_eq_true'.1 h _ (Array.mem_of_getElem? h1.2)
    refine (st_underlying _).bind fun d => ?_
    cases x <;> first | (cases hx; done) | skip
    all_goals repeat' (first | exact st_stuck _ | exact Steady.pure _ | exact st_underlying _ | contradiction | refine Steady.bind ?_ fun _ => ?_ | split)
  · exact st_stuck _
theorem st_fieldAt {s : TypeId} {x : Value} {f : Nat} (h : fieldOk P s f = true) : Steady P (Instr.fieldAt s x f) := by
  unfold Instr.fieldAt fieldPlace
  refine ⟨fun w v w' e => ?_⟩
  unfold fieldOk at h
  cases hu : P.underlying s with
  | none => rw [hu] at h; cases h
  | some d =>
    have hrun : ∀ w, (underlying s).run P w = .ok d w := fun w => by unfold underlying; simp [hu]
    rw [hu] at h
    cases d <;> first | (cases h; done) | skip
    rename_i fs
    dsimp only at h
    cases hf : fs[f]? with
    | none => rw [hf] at h; cases h
    | some fd =>
      rw [hf] at h
      dsimp only at h
      cases hi : P.info? fd.type with
      | none => rw [hi] at h; cases h
      | some i =>
        rw [hi] at h
        have hz : i.size ≠ 0 := by simpa using h
        have hsz : ∀ w, (sizeOf fd.type).run P w = .ok i.size w := fun w => by unfold sizeOf typeInfo; simp [hi]
        simp only [Sem.run_bind, hrun, Result.andThen_ok, hf] at e ⊢
        cases x <;> simp only [Instr.sureAddr, run_stuck, Result.andThen_halt, reduceCtorEq] at e
        rename_i ad
        cases ad with
        | none => simp only [run_stuck, Result.andThen_halt, reduceCtorEq] at e
        | some ad =>
          simp only [Sem.run_pure, Result.andThen_ok, Sem.run_bind, hsz, if_neg hz, Result.ok.injEq] at e ⊢
          obtain ⟨rfl, rfl⟩ := e
          exact ⟨rfl, fun w2 => by simp [Instr.sureAddr, hsz, hz]⟩
theorem st_convert {s t : TypeId} {k : IntKind} {n : Int} (h : intT P t = true) : Steady P (convert s t (.int k n)) := by
  unfold intT at h
  unfold convert
  refine (st_underlying _).bind fun d1 => ?_
  refine ⟨fun w v w' e => ?_⟩
  cases hu : P.underlying t with
  | none => rw [hu] at h; cases h
  | some d =>
    have hrun : ∀ w, (underlying t).run P w = .ok d w := fun w => by unfold underlying; simp [hu]
    rw [hu] at h
    cases d <;> first | (cases h; done) | skip
    simp only [Sem.run_bind, hrun, Result.andThen_ok, Conv.intToInt, Sem.run_pure, Result.ok.injEq] at e ⊢
    obtain ⟨rfl, rfl⟩ := e
    exact ⟨rfl, fun _ => by simp⟩
end
end Go.Proofs.Ytmhhejpokgdjoaa
