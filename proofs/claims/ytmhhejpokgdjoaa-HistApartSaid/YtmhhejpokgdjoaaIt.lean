/- A call of a function VALUE of which only a contract is known (a yield, an iterator, a bound method), inside the wide fence. -/
import Derived.Test.YtmhhejpokgdjoaaRow
import Derived.Test.YtmhhejpokgdjoaaRegE
import Derived.RangeFuncNested
import Derived.BigFrameIn
import Derived.TacticsInMore
import Derived.LoopIn
namespace Go.Proofs.Ytmhhejpokgdjoaa
open Go Go.RowKit
set_option linter.unusedVariables false

/-- A fence that shuts nothing out. -/
structure Open (P : Program) (F : Fence) : Prop where
  fn : ∀ f, F.fn f
  depth : F.depth = none
  all : ∀ m, Machine.fenced P F m
theorem open_wide (P : Program) : Open P Fence.wide := ⟨fun _ => trivial, rfl, fenced_wide P⟩
theorem open_round (P : Program) (l : Nat) : Open P (Fence.wide.inRound l) := ⟨fun _ => trivial, rfl, fenced_wide P⟩
theorem Open.room {P : Program} {F : Fence} (h : Open P F) (k : Nat) : F.room k := fun d hd => by rw [h.depth] at hd; cases hd
theorem Open.steps {P : Program} {F : Fence} (h : Open P F) {m m' : Machine} (s : Steps P m m') : StepsIn (Machine.fenced P F) P m m' := (StepsIn.of_steps s).mono fun m _ => h.all m
theorem Open.calls {P : Program} {F : Fence} (h : Open P F) {n : Nat} {f : FuncId} {args : Array Value} {w : World} {R : Ending → World → Prop} (hc : Calls P f args w R) : CallsIn F n P f args w R :=
  ⟨h.fn f, fun cs _ => by
    obtain ⟨e, w', fr, r, s, x⟩ := hc cs
    refine ⟨e, w', fr, r, ?_, x⟩
    cases e <;> first | exact h.steps s | exact s⟩
theorem Open.calls' {P : Program} {F : Fence} (h : Open P F) {n : Nat} {f : FuncId} {args : Array Value} {w : World} {R : Ending → World → Prop} (hc : CallsIn F n P f args w R) : Calls P f args w R := fun cs => by
  obtain ⟨e, w', fr, r, s, x⟩ := hc.2 cs (h.room _)
  exact ⟨e, w', fr, r, s.comes, x⟩
theorem Open.round {P : Program} {F F' : Fence} (h : Open P F) (h' : Open P F') {n n' l : Nat} {f : FuncId} {tmps : Array Value} {assign body : Code} {w : World} {R : Ending → World → Prop} (hc : RoundIn F n P l f tmps assign body w R) : RoundIn F' n' P l f tmps assign body w R :=
  ⟨h'.fn f, fun c cs _ => by
    obtain ⟨e, w', r, s⟩ := hc.2 c cs (h.room _)
    refine ⟨e, w', r, ?_⟩
    have s' := s.comes
    cases e <;> first | exact h'.steps s' | exact s'⟩

/-- A call of the function value fv. -/
def CallV (P : Program) (fv : Value) (args : Array Value) (w : World) (R : Ending → World → Prop) : Prop :=
  ∃ nx, (do let d ← Deferred.ofValue fv args; invoke d.target d.args : Sem Next).run P w = .ok nx w ∧
    match nx with
    | .enter f as => Calls P f as w R
    | .round l f tmps asg body => RoundIn Fence.wide 0 P l f tmps asg body w R
    | _ => False
theorem CallV.mono {P : Program} {fv : Value} {args : Array Value} {w : World} {R R' : Ending → World → Prop} (h : CallV P fv args w R) (hr : ∀ e w', R e w' → R' e w') : CallV P fv args w R' := by
  obtain ⟨nx, hn, h⟩ := h
  refine ⟨nx, hn, ?_⟩
  cases nx <;> first | exact Calls.mono h hr | exact RoundIn.mono h hr | exact h
theorem callV_func {P : Program} {f : FuncId} {first cap args : Array Value} {w : World} {R : Ending → World → Prop} (he : ∀ as w, (callFunc f as).run P w = .ok (.enter f as) w)
    (h : Calls P f (first ++ args ++ cap) w R) : CallV P (.func (.func f) first cap) args w R :=
  ⟨.enter f (first ++ args ++ cap), by simp [Deferred.ofValue, invoke, he], h⟩
theorem wpListIn_callV {P : Program} {F : Fence} (hO : Open P F) {n : Nat} {ops : Array Oper} {rest : List Oper} {o : Oper} {a : Act} {w : World} {Q : Exit → Act → World → Prop} (hgd : Region.wanted o (yielded ops a.tmps) = true)
    (x : Operand) (xs : Array Operand) (ats : Array TypeId) (ho : o.op = .call ⟨.value x, xs, ats⟩) {fv : Value} {vs : Array Value} (hx : a.eval x = fv) (hxs : xs.map a.eval = vs)
    (h : CallV P fv vs w fun e w' => match e with | .returned v => wpListIn F n P ops Q rest (a.put o.dst v) w' | .panicked c => Q (.panic c) a w' | .outgrown => LetsOut Q) :
    wpListIn F n P ops Q (o :: rest) a w := by
  unfold wpListIn
  rw [if_pos hgd]
  refine ⟨fun f _ => hO.fn f, ?_⟩
  obtain ⟨nx, hn, h⟩ := h
  rw [Oper.semAt_eq _ _ _ (fun c e => by rw [ho] at e; cases e)]
  unfold execOp
  have hr : (do let d ← resolve a.eval ⟨.value x, xs, ats⟩ o.type; invoke d.target d.args : Sem Next).run P w = .ok nx w := by
    unfold resolve
    dsimp only
    rw [hx, hxs]
    exact hn
  rw [ho]
  dsimp only
  rw [hr]
  cases nx <;> dsimp only at h <;> (first | exact h.elim | skip)
  case enter f as =>
    refine ⟨fun hd => (by rw [hO.depth] at hd; cases hd), hO.calls (h.mono fun e w' he => ?_)⟩
    cases e <;> exact he
  case round l f tmps asg body =>
    refine ⟨fun hd => (by rw [hO.depth] at hd; cases hd), (open_wide P).round hO (h.mono fun e w' he => ?_)⟩
    cases e <;> exact he

/-- What a yield owes an iterator over xs: at each step it goes on, or says 'no more'. -/
def Yd {α : Type} (P : Program) (Y : Value) (enc : α → Array Value) (xs : List α) (Inv Brk : List α → World → Prop) : Prop :=
  ∀ pre x post, xs = pre ++ x :: post → ∀ W, Inv pre W →
    CallV P Y (enc x) W fun e W' => (e = .returned (.bool true) ∧ Inv (pre ++ [x]) W') ∨ (e = .returned (.bool false) ∧ Brk (pre ++ [x]) W')
/-- Inv abides whatever is new. -/
def Grows {α : Type} (Inv : List α → World → Prop) : Prop := ∀ pre W W', Inv pre W → Below W.heap.size W W' → Inv pre W'
/-- The iterator fv gives xs, in this order, as long as D holds: to whatever yield. -/
def Gives {α : Type} (P : Program) (fv : Value) (enc : α → Array Value) (xs : List α) (D : World → Prop) : Prop :=
  ∀ (Y : Value) (Inv Brk : List α → World → Prop) (W : World), Grows Inv → (∀ pre W, Inv pre W → D W) → Yd P Y enc xs Inv Brk → Inv [] W →
    CallV P fv #[Y] W fun e W' => (∃ v, e = .returned v) ∧ (Inv xs W' ∨ ∃ pre x post, xs = pre ++ x :: post ∧ Brk (pre ++ [x]) W')
end Go.Proofs.Ytmhhejpokgdjoaa
