/- What the rows of this seat share: the opening of their arguments, the witness world. -/
import Derived.Test.YtihmhledogppmaaDoorOp
import Derived.Test.YtihmhledogppmaaDoorLaE
import Derived.Test.YtihmhledogppmaaDoorRows
import Derived.OpenShut
import Derived.ProofKit
import Derived.Deep.Strs
import Derived.Deep.DeepHandedRow
import Derived.Lib.LaidTab
namespace Go.Proofs.YtihmhledogppmaaDoor
open Go Go.ChangeShapes Go.WideShapes Go.ChangeAt Go.RowKit
set_option linter.unusedVariables false

theorem own : ownKnob Tryd.prog.godebug = none := by kernel_rfl
theorem laidOut : laidOutB Tryd.prog = true := by kernel_rfl
theorem gNone : Tryd.prog.globalNamed "levy/levylaw3.none" = some 0 := by kernel_rfl
theorem cellsPut : Tryd.prog.cellsOf 34 = 4 := by kernel_rfl
theorem cellsInt : Tryd.prog.cellsOf 3 = 1 := by kernel_rfl
theorem cellsU32 : Tryd.prog.cellsOf 30 = 1 := by kernel_rfl
theorem cellsI64 : Tryd.prog.cellsOf 2 = 1 := by kernel_rfl
theorem cellsBool : Tryd.prog.cellsOf 4 = 1 := by kernel_rfl
theorem cellsVal : Tryd.prog.cellsOf 32 = 2 := by kernel_rfl

theorem two {cs : List Value} (h : cs.length = 2) : ∃ a b, cs = [a, b] := by
  match cs, h with
  | [a, b], _ => exact ⟨a, b, rfl⟩
theorem four {cs : List Value} (h : cs.length = 4) : ∃ a b c d, cs = [a, b, c, d] := by
  match cs, h with
  | [a, b, c, d], _ => exact ⟨a, b, c, d, rfl⟩
section
variable {H : Type} {enc0 : TypeId × Value → H} {w : World} {base : Nat} {spare : Nat → Bool} {held : Bool}
set_option maxRecDepth 100000 in
theorem val_dec {n : Nat} {cs : List Value} {y : DataW H × List MemPlace} (hl : cs.length = 2) (h : DataW.trod enc0 Tryd.prog w base spare held n 32 cs = some y) : ∃ v : V, cs = vCells v := by
  obtain ⟨y0, y1, m, _, _, h0, h1⟩ := trod_struct2 Tryd.underlying32 h
  · obtain ⟨c0, c1, rfl⟩ := two hl
    simp only [cellsInt, cellsI64, List.drop_zero, List.drop_succ_cons, List.take_succ_cons, List.take_zero] at h0 h1
    obtain ⟨k, h0, _, _⟩ := DataW.trod_int Tryd.underlying3 h0
    obtain ⟨m', h1, _, _⟩ := DataW.trod_int Tryd.underlying2 h1
    simp only [List.cons.injEq, and_true] at h0 h1
    subst h0 h1
    exact ⟨⟨k, m'⟩, rfl⟩
set_option maxRecDepth 100000 in
theorem put_dec (n : Nat) (cs : List Value) (y : DataW H × List MemPlace) (hl : cs.length = 4) (h : DataW.trod enc0 Tryd.prog w base spare held n 34 cs = some y) : ∃ x : PutL, cs = putCells x ∧ x.id < 4294967296 := by
  obtain ⟨y0, y1, y2, m, _, _, h0, h1, h2⟩ := Go.Deep.trod_struct3 Tryd.underlying34 h
  · obtain ⟨c0, c1, c2, c3, rfl⟩ := four hl
    simp only [cellsU32, cellsVal, cellsBool, List.drop_zero, List.drop_succ_cons, List.take_succ_cons, List.take_zero] at h0 h1 h2
    obtain ⟨k, h0, _, hw⟩ := DataW.trod_int Tryd.underlying30 h0
    obtain ⟨v, h1⟩ := val_dec rfl h1
    obtain ⟨b, h2, _⟩ := DataW.trod_bool Tryd.underlying4 h2
    simp only [vCells, List.cons.injEq, and_true] at h0 h1 h2
    obtain ⟨rfl, rfl⟩ := h1
    subst h0 h2
    simp [Lit.wf, IntKind.min, IntKind.max, IntKind.signed, IntKind.bits] at hw
    obtain ⟨k', rfl⟩ : ∃ k' : Nat, k = (k' : Int) := ⟨k.toNat, by omega⟩
    exact ⟨⟨k', v, b⟩, rfl, by show k' < _; omega⟩
theorem rd_puts {v : Value} {d : DataW H} {p : List MemPlace} (hv : ∃ a len cap, v = .slice a len cap) (h : DataW.Trod enc0 Tryd.prog w 0 (fun _ => true) true 22 v d p) :
    ∃ l, Rd w 4 putCells v l ∧ (∀ x ∈ l, x.id < 4294967296) :=
  rd_of_trod Tryd.underlying22 cellsPut (by omega) (fun n cs y hl hy => put_dec n cs y hl hy) hv h
theorem rd_intsA {v : Value} {d : DataW H} {p : List MemPlace} (hv : ∃ a len cap, v = .slice a len cap) (h : DataW.Trod enc0 Tryd.prog w 0 (fun _ => true) true 23 v d p) :
    ∃ l : List Int, Rd w 1 (fun n => [.int .i64 n]) v l ∧ (∀ x ∈ l, -9223372036854775808 ≤ x ∧ x ≤ 9223372036854775807) :=
  rd_ints Tryd.underlying23 Tryd.underlying3 cellsInt hv h
set_option maxRecDepth 100000 in
theorem int_of {t : TypeId} {v : Value} {d : DataW H} {p : List MemPlace} (ht : Tryd.prog.underlying t = some (.int .i64)) (hv : Value.okWide Tryd.prog w .any base t v) (h : DataW.Trod enc0 Tryd.prog w 0 (fun _ => true) true t v d p) :
    ∃ n : Int, v = .int .i64 n ∧ (-9223372036854775808 ≤ n ∧ n ≤ 9223372036854775807) := by
  obtain ⟨n, rfl⟩ := okWide_int ht hv
  obtain ⟨fuel, hf⟩ := h
  obtain ⟨m, hm, _, hw⟩ := DataW.trod_int ht hf
  refine ⟨n, rfl, ?_⟩
  simp [Value.cells] at hm
  subst hm
  simpa [Lit.wf, IntKind.min, IntKind.max, IntKind.signed, IntKind.bits] using hw
set_option maxRecDepth 100000 in
theorem u32_of {t : TypeId} {v : Value} {d : DataW H} {p : List MemPlace} (ht : Tryd.prog.underlying t = some (.int .u32)) (hv : Value.okWide Tryd.prog w .any base t v) (h : DataW.Trod enc0 Tryd.prog w 0 (fun _ => true) true t v d p) :
    ∃ n : Nat, v = .int .u32 (n : Nat) ∧ n < 4294967296 := by
  obtain ⟨n, rfl⟩ := okWide_int ht hv
  obtain ⟨fuel, hf⟩ := h
  obtain ⟨m, hm, _, hw⟩ := DataW.trod_int ht hf
  simp [Value.cells] at hm
  subst hm
  simp [Lit.wf, IntKind.min, IntKind.max, IntKind.signed, IntKind.bits] at hw
  exact ⟨n.toNat, by rw [Int.toNat_of_nonneg hw.1], by omega⟩
set_option maxRecDepth 100000 in
theorem put_of {v : Value} {d : DataW H} {p : List MemPlace} (hv : Value.okWide Tryd.prog w .any base 34 v) (h : DataW.Trod enc0 Tryd.prog w 0 (fun _ => true) true 34 v d p) :
    ∃ x : PutL, v = .agg (putCells x).toArray ∧ x.id < 4294967296 := by
  obtain ⟨cs, rfl, hs⟩ := okWide_struct Tryd.underlying34 hv
  obtain ⟨fuel, hf⟩ := h
  have hf' : DataW.trod enc0 Tryd.prog w 0 (fun _ => true) true fuel 34 cs.toList = some (d, p) := hf
  obtain ⟨x, hx, hid⟩ := put_dec fuel cs.toList _ (by rw [Array.length_toList, hs]; exact cellsPut) hf'
  exact ⟨x, by rw [← hx], hid⟩
end

/-- A world for the witness: the settled one, the variable 'none' (block 0) holding what its initialiser lays. -/
noncomputable def laidWorld (os : Os) : World :=
  { World.holding Tryd.prog os ⟨#[], #[], []⟩ with heap := (World.holding Tryd.prog os ⟨#[], #[], []⟩).heap.modify 0 fun
      | .cells _ t frozen => .cells #[.int .u32 4000000001, .int .i64 (-77), .int .i64 (-77)] t frozen
      | o => o }
end Go.Proofs.YtihmhledogppmaaDoor
