/- What the rows of this seat share: the opening of their arguments. -/
import Derived.Test.YtmhhejpokgdjoaaOp
import Derived.Test.YtmhhejpokgdjoaaKaX
import Derived.Test.YtmhhejpokgdjoaaRows
import Derived.OpenShut
import Derived.ProofKit
import Derived.Deep.Strs
import Derived.Deep.DeepHandedRow
import Derived.Lib.LaidTab
import Derived.Lib.SmallJoins
namespace Go.Proofs.Ytmhhejpokgdjoaa
open Go Go.ChangeShapes Go.WideShapes Go.ChangeAt Go.RowKit
set_option linter.unusedVariables false

theorem own : ownKnob Try.prog.godebug = none := by kernel_rfl
theorem laidOut : laidOutB Try.prog = true := by kernel_rfl
theorem cellsEnt : Try.prog.cellsOf 59 = 3 := by kernel_rfl
theorem cellsEnts : Try.prog.cellsOf 23 = 1 := by kernel_rfl
theorem cellsOp : Try.prog.cellsOf 73 = 6 := by kernel_rfl
theorem cellsInt : Try.prog.cellsOf 3 = 1 := by kernel_rfl
theorem cellsU32 : Try.prog.cellsOf 48 = 1 := by kernel_rfl
theorem cellsI64 : Try.prog.cellsOf 2 = 1 := by kernel_rfl
theorem cellsBool : Try.prog.cellsOf 4 = 1 := by kernel_rfl
theorem cellsVal : Try.prog.cellsOf 50 = 2 := by kernel_rfl
theorem trod_struct6 {H : Type} {enc : TypeId × Value → H} {P : Program} {w : World} {base : Nat} {spare : Nat → Bool} {held : Bool} {t : TypeId} {f0 f1 f2 f3 f4 f5 : Field} {fuel : Nat} {cs : List Value} {x : DataW H × List MemPlace} (ht : P.underlying t = some (.struct #[f0, f1, f2, f3, f4, f5])) (h : DataW.trod enc P w base spare held fuel t cs = some x) :
    ∃ y0 y1 y2 y3 y4 y5 n, DataW.trod enc P w base spare held n f0.type ((cs.drop f0.offset).take (P.cellsOf f0.type)) = some y0 ∧
      DataW.trod enc P w base spare held n f1.type ((cs.drop f1.offset).take (P.cellsOf f1.type)) = some y1 ∧ DataW.trod enc P w base spare held n f2.type ((cs.drop f2.offset).take (P.cellsOf f2.type)) = some y2 ∧
      DataW.trod enc P w base spare held n f3.type ((cs.drop f3.offset).take (P.cellsOf f3.type)) = some y3 ∧ DataW.trod enc P w base spare held n f4.type ((cs.drop f4.offset).take (P.cellsOf f4.type)) = some y4 ∧
      DataW.trod enc P w base spare held n f5.type ((cs.drop f5.offset).take (P.cellsOf f5.type)) = some y5 := by
  obtain ⟨xs, n, _, rfl, hl, hlen, hf⟩ := DataW.trod_struct ht h
  match xs, hlen with
  | [y0, y1, y2, y3, y4, y5], _ => exact ⟨y0, y1, y2, y3, y4, y5, n, by simpa using hf 0 f0 rfl, by simpa using hf 1 f1 rfl, by simpa using hf 2 f2 rfl, by simpa using hf 3 f3 rfl, by simpa using hf 4 f4 rfl, by simpa using hf 5 f5 rfl⟩
section
variable {H : Type} {enc0 : TypeId × Value → H} {w : World} {base : Nat} {spare : Nat → Bool} {held : Bool}
set_option maxRecDepth 100000 in
theorem val_dec {n : Nat} {cs : List Value} {y : DataW H × List MemPlace} (hl : cs.length = 2) (h : DataW.trod enc0 Try.prog w base spare held n 50 cs = some y) : ∃ v : V, cs = vCells v := by
  obtain ⟨y0, y1, m, _, _, h0, h1⟩ := trod_struct2 Try.underlying50 h
  · match cs, hl with
    | [c0, c1], _ =>
      simp only [cellsInt, cellsI64, List.drop_zero, List.drop_succ_cons, List.take_succ_cons, List.take_zero] at h0 h1
      obtain ⟨k, h0, _, _⟩ := DataW.trod_int Try.underlying3 h0
      obtain ⟨m', h1, _, _⟩ := DataW.trod_int Try.underlying2 h1
      simp only [List.cons.injEq, and_true] at h0 h1
      subst h0 h1
      exact ⟨⟨k, m'⟩, rfl⟩
set_option maxRecDepth 100000 in
theorem ent_dec (n : Nat) (cs : List Value) (y : DataW H × List MemPlace) (hl : cs.length = 3) (h : DataW.trod enc0 Try.prog w base spare held n 59 cs = some y) : ∃ x : E, cs = encL x ∧ x.1 < 4294967296 := by
  obtain ⟨y0, y1, m, _, _, h0, h1⟩ := trod_struct2 Try.underlying59 h
  · match cs, hl with
    | [c0, c1, c2], _ =>
      simp only [cellsU32, cellsVal, List.drop_zero, List.drop_succ_cons, List.take_succ_cons, List.take_zero] at h0 h1
      obtain ⟨k, h0, _, hw⟩ := DataW.trod_int Try.underlying48 h0
      obtain ⟨v, h1⟩ := val_dec rfl h1
      simp only [vCells, List.cons.injEq, and_true] at h0 h1
      obtain ⟨rfl, rfl⟩ := h1
      subst h0
      simp [Lit.wf, IntKind.min, IntKind.max, IntKind.signed, IntKind.bits] at hw
      obtain ⟨k', rfl⟩ : ∃ k' : Nat, k = (k' : Int) := ⟨k.toNat, by omega⟩
      exact ⟨(k', v), rfl, by show k' < _; omega⟩
theorem cap_le {P : Program} {t e : TypeId} {a : Option Addr} {n c : Nat} {d : DataW H} {p : List MemPlace} (ht : P.underlying t = some (.slice e)) (h : DataW.Trod enc0 P w 0 (fun _ => true) true t (.slice a n c) d p) : n ≤ c ∧ c ≤ 9223372036854775807 := by
  obtain ⟨fuel, hf⟩ := h
  rcases Go.Deep.open_slice ht hf with ⟨hcs, _⟩ | ⟨a', len, cap, m, n', D, Pl, hcs, _, hl, hm, _⟩
  · simp [Value.cells] at hcs
    obtain ⟨_, rfl, rfl⟩ := hcs
    exact ⟨Nat.le_refl _, by omega⟩
  · simp only [Value.cells, List.cons.injEq, and_true, Value.slice.injEq] at hcs
    obtain ⟨_, rfl, rfl⟩ := hcs
    simp only [maxLen] at hm
    exact ⟨hl, by omega⟩
theorem rd_ents {v : Value} {d : DataW H} {p : List MemPlace} (hv : ∃ a len cap, v = .slice a len cap) (h : DataW.Trod enc0 Try.prog w 0 (fun _ => true) true 23 v d p) :
    ∃ l, RdF w v l ∧ (∀ x ∈ l, x.1 < 4294967296) := by
  obtain ⟨l, h1, h2⟩ := rd_of_trod Try.underlying23 cellsEnt (by omega) (fun n cs y hl hy => ent_dec n cs y hl hy) hv h
  have h1' := h1
  obtain ⟨a, c, rfl, _⟩ := h1'
  exact ⟨l, ⟨a, c, rfl, (cap_le Try.underlying23 h).1, h1⟩, h2⟩
set_option maxRecDepth 100000 in
theorem op_dec (n : Nat) (cs : List Value) (y : DataW H × List MemPlace) (hl : cs.length = 6) (h : DataW.trod enc0 Try.prog w 0 (fun _ => true) true n 73 cs = some y) : ∃ x : OpL, cs = opCells x ∧ (RdF w x.lv x.l ∧ ∀ y ∈ x.l, y.1 < 4294967296) := by
  obtain ⟨y0, y1, y2, y3, y4, y5, m, h0, h1, h2, h3, h4, h5⟩ := trod_struct6 Try.underlying73 h
  match cs, hl with
  | [c0, c1, c2, c3, c4, c5], _ =>
      simp only [cellsInt, cellsBool, cellsEnts, List.drop_zero, List.drop_succ_cons, List.take_succ_cons, List.take_zero] at h0 h1 h2 h3 h4 h5
      obtain ⟨k0, h0, _, _⟩ := DataW.trod_int Try.underlying3 h0
      obtain ⟨k1, h1, _, _⟩ := DataW.trod_int Try.underlying3 h1
      obtain ⟨k2, h2, _, _⟩ := DataW.trod_int Try.underlying3 h2
      obtain ⟨k3, h3, _⟩ := DataW.trod_bool Try.underlying4 h3
      obtain ⟨k4, h4, _⟩ := DataW.trod_bool Try.underlying4 h4
      simp only [List.cons.injEq, and_true] at h0 h1 h2 h3 h4
      subst h0 h1 h2 h3 h4
      have hs : ∃ a len cap, c5 = .slice a len cap := by
        rcases Go.Deep.open_slice Try.underlying23 h5 with ⟨hcs, _⟩ | ⟨a', len, cap, m, n', D, Pl, hcs, _⟩
        · simp only [List.cons.injEq, and_true] at hcs
          exact ⟨_, _, _, hcs⟩
        · simp only [List.cons.injEq, and_true] at hcs
          exact ⟨_, _, _, hcs⟩
      obtain ⟨a, len, cap, rfl⟩ := hs
      obtain ⟨l, q1, q2⟩ := rd_ents ⟨a, len, cap, rfl⟩ (d := y5.1) (p := y5.2) ⟨_, by simpa [Value.cells] using h5⟩
      exact ⟨⟨k0, k1, k2, k3, k4, .slice a len cap, l⟩, rfl, q1, q2⟩
theorem rd_script {v : Value} {d : DataW H} {p : List MemPlace} (hv : ∃ a len cap, v = .slice a len cap) (h : DataW.Trod enc0 Try.prog w 0 (fun _ => true) true 22 v d p) :
    ∃ l, Script w v l := by
  obtain ⟨l, h1, h2⟩ := rd_of_trod Try.underlying22 cellsOp (by omega) (fun n cs y hl hy => op_dec n cs y hl hy) hv h
  have h1' := h1
  obtain ⟨a, c, rfl, _⟩ := h1'
  have := cap_le Try.underlying22 h
  exact ⟨l, h1, h2, by omega⟩
set_option maxRecDepth 100000 in
theorem int_of {t : TypeId} {v : Value} {d : DataW H} {p : List MemPlace} (ht : Try.prog.underlying t = some (.int .i64)) (hv : Value.okWide Try.prog w .any base t v) (h : DataW.Trod enc0 Try.prog w 0 (fun _ => true) true t v d p) :
    ∃ n : Int, v = .int .i64 n ∧ (-9223372036854775808 ≤ n ∧ n ≤ 9223372036854775807) := by
  obtain ⟨n, rfl⟩ := okWide_int ht hv
  obtain ⟨fuel, hf⟩ := h
  obtain ⟨m, hm, _, hw⟩ := DataW.trod_int ht hf
  refine ⟨n, rfl, ?_⟩
  simp [Value.cells] at hm
  subst hm
  simpa [Lit.wf, IntKind.min, IntKind.max, IntKind.signed, IntKind.bits] using hw
end
end Go.Proofs.Ytmhhejpokgdjoaa
