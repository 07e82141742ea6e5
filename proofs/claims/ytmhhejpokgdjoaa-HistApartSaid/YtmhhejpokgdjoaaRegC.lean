/- A region whose order Go leaves open, walked in one order: what is of class 0 may come up early, what is of class 1 wherever nothing of class 2 can come up beside it, all else alone. -/
import Derived.Test.YtmhhejpokgdjoaaRegB
import Derived.OrdersIn
import Derived.TacticsIn
namespace Go.Proofs.Ytmhhejpokgdjoaa
open Go Go.RowKit
set_option linter.unusedSimpArgs false
set_option linter.unusedVariables false

/-- It leaves the world as it is, wherever it succeeds, and gives a value. -/
def Keeps (P : Program) (s : Sem Next) : Prop := ∀ w v w', s.run P w = .ok v w' → w' = w ∧ ∃ u, v = .value u
section
variable {P : Program}
theorem Keeps.of {s : Sem Value} (h : Steady P s) : Keeps P (do pure (.value (← s))) := fun w v w' e => by
  rw [Sem.run_bind] at e
  cases hr : s.run P w with
  | ok x w1 =>
    rw [hr] at e
    simp only [Result.andThen_ok, Sem.run_pure, Result.ok.injEq] at e
    exact ⟨e.2 ▸ (h.out _ _ _ hr).1, x, e.1.symm⟩
  | halt x w1 => rw [hr] at e; cases e
theorem load_keeps {α : Type} {a : Addr} {k : Value → Sem α} {w w' : World} {v : α} (e : (Go.load a >>= k).run P w = .ok v w') : ∃ u, (k u).run P w = .ok v w' := by
  rw [Sem.run_bind] at e
  cases hr : (Go.load a).run P w with
  | ok x w1 =>
    rw [hr] at e
    have : w1 = w := by
      have h0 : (Go.load a).run P w = .ok x w1 := hr
      unfold Go.load at h0
      simp only [Sem.run] at h0
      split at h0
      · cases h0; rfl
      · split at h0
        · cases h0; rfl
        · cases h0
    subst this
    exact ⟨x, e⟩
  | halt x w1 => rw [hr] at e; cases e
theorem loadCells_keeps {a : Addr} : ∀ (n i : Nat) (acc : Array Value) (w w' : World) (v : Array Value), (loadCellsFrom a i n acc).run P w = .ok v w' → w' = w
  | 0, i, acc, w, w', v, e => by cases e; rfl
  | n + 1, i, acc, w, w', v, e => by
    unfold loadCellsFrom at e
    obtain ⟨u, e⟩ := load_keeps e
    exact loadCells_keeps n _ _ _ _ _ e
theorem load_keeps0 {a : Addr} {w w' : World} {v : Value} (e : (Go.load a).run P w = .ok v w') : w' = w := by
  have e' : ((Go.load a) >>= fun x => pure x).run P w = .ok v w' := by rw [Sem.run_bind, e]; rfl
  obtain ⟨u, h⟩ := load_keeps e'
  cases h; rfl
theorem loadVar_keeps {t : TypeId} {a : Addr} {w w' : World} {v : Value} (e : (loadVar t a).run P w = .ok v w') : w' = w := by
  unfold loadVar at e
  rw [Sem.run_bind] at e
  cases hr : (isAgg t).run P w with
  | ok b w1 =>
    rw [hr] at e
    have h1 := (st_isAgg (P := P) t).out _ _ _ hr
    obtain ⟨rfl, _⟩ := h1
    simp only [Result.andThen_ok] at e
    split at e
    · rw [Sem.run_bind] at e
      cases hs : (sizeOf t).run P w1 with
      | ok n w2 =>
        rw [hs] at e
        obtain ⟨rfl, _⟩ := (st_size (P := P) t).out _ _ _ hs
        simp only [Result.andThen_ok, Sem.run_bind] at e
        unfold loadCells at e
        cases hl : (loadCellsFrom a 0 n #[]).run P w2 with
        | ok cs w3 =>
          rw [hl] at e
          have := loadCells_keeps _ _ _ _ _ _ hl
          simp only [Result.andThen_ok, Sem.run_pure, Result.ok.injEq] at e
          rw [← e.2, this]
        | halt x w3 => rw [hl] at e; cases e
      | halt x w2 => rw [hs] at e; cases e
    · exact load_keeps0 e
  | halt x w1 => rw [hr] at e; cases e

theorem st_value {s : Sem Value} (h : Steady P s) : Steady P (do pure (.value (← s)) : Sem Next) := h.bind fun _ => Steady.pure _
/-- Class 0, under 'dyn': steady. -/
theorem steady_of {o : Oper} {a : Act} (h : cls P o = 0) (hd : dyn o a = true) : Steady P (execOp a.eval o) := by
  unfold cls at h
  unfold dyn at hd
  unfold execOp
  cases ho : o.op <;> rw [ho] at h hd <;> (first | (cases h; done) | skip) <;> dsimp only at h hd ⊢
  case move x => exact Steady.pure _
  case assign x => exact Steady.pure _
  case pick c x y => exact (st_bool _).bind fun _ => Steady.pure _
  case build t ps => exact st_value (st_build ..)
  case nilCheck x =>
    repeat' (first | exact st_rt _ | exact Steady.pure _ | exact st_nilAhead .. | exact st_uns _ | exact Steady.program | refine Steady.bind ?_ fun _ => ?_ | split)
  case binOp op t x y t' =>
    simp only [Bool.or_eq_true, Bool.and_eq_true] at hd
    refine st_value ?_
    rcases hd with ⟨hx, hy⟩ | ⟨hop, hn⟩
    · exact (st_eqGuard_scalar hx).bind fun _ => st_binOp hx hy
    · refine (st_eqGuard_nil hn).bind fun _ => st_binOp_nil ?_ (hn.imp nilV_of nilV_of)
      rcases hop with h | h
      · exact .inl (by simpa using h)
      · exact .inr (by simpa using h)
  case unOp op t x => exact st_value (st_unary ..)
  case convert s t x =>
    cases hx : a.eval x <;> rw [hx] at hd <;> (first | (cases hd; done) | skip)
    by_cases hi : intT P t = true
    · exact st_value (st_convert hi)
    · rw [if_neg hi] at h; cases h
  case makeInterface t x => exact st_value (st_iface ..)
  case makeFunc f xs ys => exact st_value (Steady.pure _)
  case slice t x lo hi mx => exact st_value (st_slice ..)
  case fieldAddr s x f =>
    by_cases hi : fieldOk P s f = true
    · exact st_value (st_fieldAt hi)
    · rw [if_neg hi] at h; cases h
  case field t x f => exact st_value (st_field ..)
  case indexAddr t x i => exact st_value (st_index ..)
  case index t x i => exact st_value (st_idx ..)
  case extract x i => exact st_value (st_extract ..)
  case call c =>
    obtain ⟨callee, args, ats⟩ := c
    cases callee with
    | builtin b =>
      cases b <;> (first | (cases h; done) | skip)
      dsimp only at hd
      exact st_value (s := Builtin.len_ _ _ _) (st_len (by simpa using hd))
    | value f => cases h
    | invoke r m => cases h
def Vals (P : Program) (s : Sem Next) : Prop := ∀ w v w', s.run P w = .ok v w' → ∃ u, v = .value u
theorem Vals.pure (u : Value) : Vals P (Pure.pure (Next.value u)) := fun w v w' e => by cases e; exact ⟨u, rfl⟩
theorem Vals.bind {α : Type} {s : Sem α} {f : α → Sem Next} (hf : ∀ x, Vals P (f x)) : Vals P (s >>= f) := fun w v w' e => by
  rw [Sem.run_bind] at e
  cases hr : s.run P w with
  | ok x w1 => rw [hr] at e; exact hf x _ _ _ e
  | halt x w1 => rw [hr] at e; cases e
theorem Vals.dead {s : Sem Next} (h : Dead P s) : Vals P s := fun w v w' e => by
  obtain ⟨x, w1, e1⟩ := h.out w; rw [e1] at e; cases e
theorem vals_of {o : Oper} {ρ : Operand → Value} (h : cls P o ≤ 1) : Vals P (execOp ρ o) := by
  unfold cls at h
  unfold execOp
  cases ho : o.op <;> rw [ho] at h <;> dsimp only at h ⊢ <;> (first | (exact absurd h (by decide)) | skip)
  case nilCheck x =>
    repeat' (first | exact Vals.dead (dead_rt _) | exact Vals.pure _ | exact Vals.dead (Dead.halt _) | exact Vals.dead (Dead.bind (Dead.halt _)) | refine Vals.bind fun _ => ?_ | split)
  case call c =>
    obtain ⟨callee, args, ats⟩ := c
    cases callee with
    | builtin b =>
      cases b <;> dsimp only at h <;> (first | (exact absurd h (by decide)) | skip)
      exact Vals.bind (s := Builtin.len_ _ _ _) fun _ => Vals.pure _
    | value f => dsimp only at h; exact absurd h (by decide)
    | invoke r m => dsimp only at h; exact absurd h (by decide)
  all_goals first | exact Vals.pure _ | exact Vals.bind fun _ => Vals.pure _
/-- Class 0 or 1: the world is left alone, and the result is a value. -/
theorem keeps_of {o : Oper} {a : Act} (h : cls P o ≤ 1) (hd : dyn o a = true) : Keeps P (execOp a.eval o) := by
  intro w v w' e
  refine ⟨?_, vals_of h _ _ _ e⟩
  rcases Nat.lt_or_ge (cls P o) 1 with h0 | h1
  · exact ((steady_of (P := P) (o := o) (a := a) (by omega) hd).out _ _ _ e).1
  · unfold cls at h h1
    unfold execOp at e
    cases ho : o.op <;> rw [ho] at h h1 e <;> dsimp only at h h1 e <;> (first | (exact absurd h1 (by decide)) | (exact absurd h (by decide)) | skip)
    case load t x =>
      rw [Sem.run_bind] at e
      cases hr : (Instr.loadAt t (a.eval x)).run P w with
      | ok u w1 =>
        rw [hr] at e
        cases e
        unfold Instr.loadAt at hr
        rw [Sem.run_bind] at hr
        cases hs : (Instr.sureAddr (a.eval x)).run P w with
        | ok ad w2 =>
          rw [hs] at hr
          obtain ⟨rfl, _⟩ := (st_addr (P := P) (a.eval x)).out _ _ _ hs
          exact loadVar_keeps hr
        | halt y w2 => rw [hs] at hr; cases hr
      | halt y w1 => rw [hr] at e; cases e
    case binOp => split at h1 <;> first | (exact absurd h1 (by decide)) | (rename_i hh; rw [if_pos hh] at h; exact absurd h (by decide))
    case convert => split at h1 <;> first | (exact absurd h1 (by decide)) | (rename_i hh; rw [if_neg hh] at h; exact absurd h (by decide))
    case fieldAddr => split at h1 <;> first | (exact absurd h1 (by decide)) | (rename_i hh; rw [if_neg hh] at h; exact absurd h (by decide))
    case call c =>
      obtain ⟨callee, args, ats⟩ := c
      cases callee with
      | builtin b => cases b <;> dsimp only at h h1 <;> first | (exact absurd h1 (by decide)) | (exact absurd h (by decide))
      | value f => dsimp only at h; exact absurd h (by decide)
      | invoke r m => dsimp only at h; exact absurd h (by decide)
end
end Go.Proofs.Ytmhhejpokgdjoaa
