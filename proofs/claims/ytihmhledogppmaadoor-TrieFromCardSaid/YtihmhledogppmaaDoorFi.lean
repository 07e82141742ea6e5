/- The bound method within.step as what an iterator's yield owes; the capacity of an own slice. -/
import Derived.Test.YtihmhledogppmaaDoorWi
import Derived.Test.YtihmhledogppmaaDoorFp
namespace Go.Proofs.YtihmhledogppmaaDoor
open Go Go.RowKit
set_option linter.unusedVariables false

def stepV (b : Nat) : Value := .func (.func 22) #[.pointer (some ⟨b, 0, none⟩)] #[]
structure StepI (bm B1 B2 : Nat) (va vp : Value) (id : Nat) (stop : Int) (w0 : World) (pre : List (Nat × V)) (W : World) : Prop where
  below : Below w0.heap.size w0 W
  held : Holds W w0.heap.size (wtCells bm va vp id stop pre.length)
  one : Holds W B1 [.pointer (some ⟨bm, 0, none⟩)]
  two : Holds W B2 [.int .u32 ((0 : Nat) : Int)]
theorem Holds.of_block {w w' : World} {b : Nat} {cs : List Value} (h : Holds w b cs) (he : w'.heap[b]? = w.heap[b]?) : Holds w' b cs := by
  obtain ⟨ty, h⟩ := h
  exact ⟨ty, he.trans h⟩
theorem StepI.grows (bm B1 B2 : Nat) (va vp : Value) (id : Nat) (stop : Int) (w0 : World) : Grows (StepI bm B1 B2 va vp id stop w0) := by
  intro pre W W' h hb
  exact ⟨h.below.trans (hb.mono h.below.size), h.held.ext hb, h.one.ext hb, h.two.ext hb⟩
theorem step_yd (bm B1 B2 : Nat) (va vp : Value) (id : Nat) (stop : Int) (l : List (Nat × V)) (w0 : World) (hM : MapL w0 bm l) (hA : Rd w0 3 encL va l) (hP : Rd w0 3 encL vp (cutL (fromL id l) stop))
    (hid : id < 4294967296) (hn : l.length ≤ 5000) (h1 : B1 ≠ w0.heap.size) (h2 : B2 ≠ w0.heap.size) :
    Yd Tryd.prog (stepV w0.heap.size) encE l (StepI bm B1 B2 va vp id stop w0) (fun _ _ => False) := by
  intro pre x post he W h
  refine callV_func (Go.Proofs.enters_of Tryd.func22 (by kernel_rfl) rfl) ?_
  refine (step_any w0.heap.size bm va vp id stop l pre post x w0 W he hM hA hP hid hn rfl h.below h.held).mono ?_
  rintro e W' ⟨rfl, g1, g2, g3⟩
  left
  refine ⟨rfl, g1, ?_, h.one.of_block (g3 B1 h.one.lt h1), h.two.of_block (g3 B2 h.two.lt h2)⟩
  rw [List.length_append, List.length_singleton]
  exact g2
/-- A function value whose function is known is called by its number. -/
theorem callV_calls {P : Program} {f : FuncId} {fst cap args : Array Value} {w : World} {R : Ending → World → Prop} (he : ∀ xs w, (callFunc f xs).run P w = .ok (.enter f xs) w) (h : CallV P (.func (.func f) fst cap) args w R) :
    Calls P f (fst ++ args ++ cap) w R := by
  obtain ⟨nx, hn, h⟩ := h
  have : (do let d ← Deferred.ofValue (.func (.func f) fst cap) args; invoke d.target d.args : Sem Next).run P w = .ok (.enter f (fst ++ args ++ cap)) w := by simp [Deferred.ofValue, invoke, he]
  rw [this] at hn
  cases hn
  exact h
/-- The iterator All of a map, gone through by within.step. -/
theorem all_step (bm B1 B2 : Nat) (va vp : Value) (id : Nat) (stop : Int) (l : List (Nat × V)) (w0 W : World) (hM : MapL w0 bm l) (hA : Rd w0 3 encL va l) (hP : Rd w0 3 encL vp (cutL (fromL id l) stop))
    (hid : id < 4294967296) (hn : l.length ≤ 5000) (h1 : B1 ≠ w0.heap.size) (h2 : B2 ≠ w0.heap.size) (h0 : StepI bm B1 B2 va vp id stop w0 [] W) :
    Calls Tryd.prog 51 #[stepV w0.heap.size, .pointer (some ⟨B1, 0, none⟩), .pointer (some ⟨B2, 0, none⟩)] W fun e W' => (∃ v, e = .returned v) ∧ StepI bm B1 B2 va vp id stop w0 l W' := by
  have hY := step_yd bm B1 B2 va vp id stop l w0 hM hA hP hid hn h1 h2
  have hM2 := hM
  obtain ⟨t, hm, he⟩ := hM2
  have hz := fromL_zero (t.ents 0)
  rw [he] at hz
  have hg := from_gives bm 0 t B1 B2 (by omega) (stepV w0.heap.size) (StepI bm B1 B2 va vp id stop w0) (fun _ _ => False) W (StepI.grows _ _ _ _ _ _ _ _)
    (fun pre W h => ⟨h.one, h.two, _, hm.ext h.below⟩) (by rw [he, hz]; exact hY) h0
  have hc := callV_calls (Go.Proofs.enters_of Tryd.func51 (by kernel_rfl) rfl) hg
  refine Calls.mono hc ?_
  rintro e W' ⟨hv, hi | ⟨_, _, _, _, hf⟩⟩
  · rw [he, hz] at hi
    exact ⟨hv, hi⟩
  · exact hf.elim
theorem Own.fits {α : Type} {w : World} {base : Nat} {ty : TypeId} {s : Nat} {enc : α → List Value} {a : Option Addr} {n c : Nat} {l : List α} (h : Own w base ty s enc (.slice a n c) l) : n ≤ c := by
  rcases h.row.2 with ⟨h1, h0⟩ | ⟨g, cap, cur, h1, _, _, hn, _⟩
  · simp only [Value.slice.injEq] at h1
    omega
  · simp only [Value.slice.injEq] at h1
    obtain ⟨_, rfl, rfl⟩ := h1
    exact hn
end Go.Proofs.YtihmhledogppmaaDoor
