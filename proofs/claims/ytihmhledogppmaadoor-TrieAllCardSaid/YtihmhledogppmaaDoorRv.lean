/- A script of TrieAll out of the row's reading; its length out of the row's reach. -/
import Derived.Test.YtihmhledogppmaaDoorRw
import Derived.Test.YtihmhledogppmaaDoorQa
import Derived.SizedLaws
namespace Go.Proofs.YtihmhledogppmaaDoor
open Go Go.ChangeShapes Go.WideShapes Go.ChangeAt Go.RowKit
set_option linter.unusedVariables false

theorem cellsOpT : Tryd.prog.cellsOf 74 = 6 := by kernel_rfl
theorem bytesOpT : Tryd.prog.bytesOf 74 = 48 := by kernel_rfl
theorem trod_struct5 {H : Type} {enc : TypeId × Value → H} {P : Program} {w : World} {base : Nat} {spare : Nat → Bool} {held : Bool} {t : TypeId} {f0 f1 f2 f3 f4 : Field} {fuel : Nat} {cs : List Value} {x : DataW H × List MemPlace} (ht : P.underlying t = some (.struct #[f0, f1, f2, f3, f4])) (h : DataW.trod enc P w base spare held fuel t cs = some x) :
    ∃ y0 y1 y2 y3 y4 n, DataW.trod enc P w base spare held n f0.type ((cs.drop f0.offset).take (P.cellsOf f0.type)) = some y0 ∧
      DataW.trod enc P w base spare held n f1.type ((cs.drop f1.offset).take (P.cellsOf f1.type)) = some y1 ∧ DataW.trod enc P w base spare held n f2.type ((cs.drop f2.offset).take (P.cellsOf f2.type)) = some y2 ∧
      DataW.trod enc P w base spare held n f3.type ((cs.drop f3.offset).take (P.cellsOf f3.type)) = some y3 ∧ DataW.trod enc P w base spare held n f4.type ((cs.drop f4.offset).take (P.cellsOf f4.type)) = some y4 := by
  obtain ⟨xs, n, _, rfl, hl, hlen, hf⟩ := DataW.trod_struct ht h
  match xs, hlen with
  | [y0, y1, y2, y3, y4], _ => exact ⟨y0, y1, y2, y3, y4, n, by simpa using hf 0 f0 rfl, by simpa using hf 1 f1 rfl, by simpa using hf 2 f2 rfl, by simpa using hf 3 f3 rfl, by simpa using hf 4 f4 rfl⟩
section
variable {H : Type} {enc0 : TypeId × Value → H} {w : World} {base : Nat} {spare : Nat → Bool} {held : Bool}
set_option maxRecDepth 100000 in
theorem op_dec (n : Nat) (cs : List Value) (y : DataW H × List MemPlace) (hl : cs.length = 6) (h : DataW.trod enc0 Tryd.prog w base spare held n 74 cs = some y) : ∃ x : OpS, cs = opS x ∧ x.id < 4294967296 := by
  obtain ⟨y0, y1, y2, y3, y4, m, h0, h1, h2, h3, h4⟩ := trod_struct5 Tryd.underlying74 h
  match cs, hl with
  | [c0, c1, c2, c3, c4, c5], _ =>
    simp only [cellsInt, cellsU32, cellsVal, List.drop_zero, List.drop_succ_cons, List.take_succ_cons, List.take_zero] at h0 h1 h2 h3 h4
    obtain ⟨k0, h0, _, _⟩ := DataW.trod_int Tryd.underlying3 h0
    obtain ⟨k1, h1, _, _⟩ := DataW.trod_int Tryd.underlying3 h1
    obtain ⟨k2, h2, _, _⟩ := DataW.trod_int Tryd.underlying3 h2
    obtain ⟨k, h3, _, hw⟩ := DataW.trod_int Tryd.underlying30 h3
    obtain ⟨v, h4⟩ := val_dec rfl h4
    simp only [vCells, List.cons.injEq, and_true] at h0 h1 h2 h3 h4
    obtain ⟨rfl, rfl⟩ := h4
    subst h0 h1 h2 h3
    simp [Lit.wf, IntKind.min, IntKind.max, IntKind.signed, IntKind.bits] at hw
    obtain ⟨k', rfl⟩ : ∃ k' : Nat, k = (k' : Int) := ⟨k.toNat, by omega⟩
    exact ⟨⟨k0, k1, k2, k', v⟩, rfl, by show k' < _; omega⟩
theorem rd_ops {v : Value} {d : DataW H} {p : List MemPlace} (hv : ∃ a len cap, v = .slice a len cap) (h : DataW.Trod enc0 Tryd.prog w 0 (fun _ => true) true 69 v d p) :
    ∃ l, Rd w 6 opS v l ∧ (∀ x ∈ l, x.id < 4294967296) :=
  rd_of_trod Tryd.underlying69 cellsOpT (by omega) (fun n cs y hl hy => op_dec n cs y hl hy) hv h
/-- A slice's length out of the row's reach. -/
theorem len_reach {P : Program} {ts : List TypeId} {ds : List (DataW H)} {t e : TypeId} {v : Value} {n c : Nat} {a : Option Addr} {d : DataW H} {p : List MemPlace} (ht : P.underlying t = some (.slice e)) (h : DataW.Trod enc0 P w 0 (fun _ => true) true t v d p)
    (hsz : (DataW.weightsEach P ts ds).all (· ≤ reachBytes) = true) {j : Nat} (hj : ts[j]? = some t) (hd : ds[j]? = some d) (hv : v = .slice a n c) : n * P.bytesOf e ≤ reachBytes := by
  subst hv
  obtain ⟨fuel, hf⟩ := h
  rcases Go.Deep.open_slice ht hf with ⟨hcs, _⟩ | ⟨a', len, cap, m, n', D, Pl, hcs, _, hl, hm, hmm, hx, _⟩
  · simp [Value.cells] at hcs
    obtain ⟨_, rfl, _⟩ := hcs
    simp
  · simp only [Value.cells, List.cons.injEq, and_true, Value.slice.injEq] at hcs
    obtain ⟨_, rfl, rfl⟩ := hcs
    simp only [Prod.mk.injEq] at hx
    obtain ⟨rfl, _⟩ := hx
    have := sized_slice hsz hj hd ht
    refine Nat.le_trans (Nat.mul_le_mul_right _ ?_) this
    simp
end
end Go.Proofs.YtihmhledogppmaaDoor
