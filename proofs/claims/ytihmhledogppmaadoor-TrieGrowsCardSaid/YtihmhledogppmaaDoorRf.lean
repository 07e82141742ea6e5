/- An iterator's contract (Gives) as the kit's contract for a range over a function. -/
import Derived.Test.YtihmhledogppmaaDoorBe
namespace Go.Proofs.YtihmhledogppmaaDoor
open Go Go.RowKit
set_option linter.unusedVariables false

theorem callV_yield {P : Program} {l : Nat} {args : Array Value} {W : World} {m : Nat} {R : Ending → World → Prop} (h : YieldAt Fence.wide m P l args W R) : CallV P (.func (.yield l) #[] #[]) args W R := by
  obtain ⟨fn, tmps, asg, body, hy, hR⟩ := h
  refine ⟨.round l fn tmps asg body, ?_, (open_wide P).round (open_wide P) hR⟩
  simp [Deferred.ofValue, invoke, callFunc, hy]
theorem callV_calls' {P : Program} {f : FuncId} {fst cap args : Array Value} {w : World} {R : Ending → World → Prop} (he : ∀ xs w, (callFunc f xs).run P w = .ok (.enter f xs) w) (h : CallV P (.func (.func f) fst cap) args w R) :
    Calls P f (fst ++ args ++ cap) w R := by
  obtain ⟨nx, hn, h⟩ := h
  have : (do let d ← Deferred.ofValue (.func (.func f) fst cap) args; invoke d.target d.args : Sem Next).run P w = .ok (.enter f (fst ++ args ++ cap)) w := by simp [Deferred.ofValue, invoke, he]
  rw [this] at hn
  cases hn
  exact h
theorem seq_of_gives {α : Type} {P : Program} {gf : FuncId} {lb : Array Value} {enc : α → Array Value} {xs : List α} {D : World → Prop} (hG : Gives P (.func (.func gf) #[] lb) enc xs D) (he : ∀ ys w, (callFunc gf ys).run P w = .ok (.enter gf ys) w)
    {n : Nat} {w0 : World} (hD : ∀ W, Below w0.heap.size w0 W → D W) : SeqStopsK Fence.wide n P gf lb enc (Below w0.heap.size) (fun ys => ys = xs) (fun _ => True) (xs.length + 1) w0 := by
  intro l J Jx W hW hJ hJx hY h0
  have hc := hG (.func (.yield l) #[] #[]) (fun pre W1 => J pre W1 ∧ Below w0.heap.size w0 W1) Jx W
    (fun pre X X' h hb => ⟨hJ pre X X' none h.1 ⟨hb.os, hb.tape, hb.output, hb.size, fun k hk _ => hb.block k hk⟩ (fun r e => by cases e), h.2.trans (hb.mono h.2.size)⟩)
    (fun pre X h => hD X h.2)
    (fun pre x post hx X h => (callV_yield (hY pre x X h.1 (by rw [hx]; simp; omega))).mono fun e X' hr => hr.imp (fun ⟨h1, h2, h3⟩ => ⟨h1, h2, h.2.trans h3⟩) id)
    ⟨h0, hW⟩
  have hq := callV_calls' he hc
  rw [Array.empty_append] at hq
  refine (open_wide P).calls (hq.mono fun e X hr => ⟨hr.1, ?_⟩)
  rcases hr.2 with h | ⟨pre, x, post, _, h⟩
  · exact .inl ⟨xs, rfl, h.1⟩
  · exact .inr ⟨_, trivial, h⟩
end Go.Proofs.YtihmhledogppmaaDoor
