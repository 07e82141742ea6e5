/- append of one element of s cells onto a slice of the call's own, with the place of the new slice. -/
import Derived.Test.YtmhhejpokgdjoaaSl
import Derived.Maps.AppendAt
namespace Go.Proofs.Ytmhhejpokgdjoaa
open Go Go.RowKit
set_option linter.unusedVariables false

/-- What an append leaves: the slice v' lies in the old one's block or in a new one, and no other block was touched. -/
structure Grew (w W : World) (v v' : Value) : Prop where
  step : w.grownBy W v.ownBlock
  at_ : v'.ownBlock = v.ownBlock ∨ v'.ownBlock = some w.heap.size
theorem Grew.below {w W : World} {v v' : Value} (h : Grew w W v v') {B : Nat} (hB : B ≤ w.heap.size) (hv : ∀ k, v.ownBlock = some k → B ≤ k) : Below B w W :=
  ⟨h.step.os, h.step.tape, h.step.output, h.step.size, fun k hk => h.step.block k (Nat.lt_of_lt_of_le hk hB) (fun e => by have := hv k e.symm; omega)⟩
section
variable {α : Type}
theorem Own.block {w : World} {base : Nat} {ty : TypeId} {s : Nat} {enc : α → List Value} {v : Value} {l : List α} (h : Own w base ty s enc v l) : ∀ k, v.ownBlock = some k → base ≤ k := fun k hk => (h.row.lt k hk).1
/-- Two slices of the call's own in two blocks: a step on one leaves the other. -/
theorem Own.grew {w W : World} {base : Nat} {ty : TypeId} {s : Nat} {enc : α → List Value} {v u u' : Value} {l : List α} (h : Own w base ty s enc v l) (hg : Grew w W u u') (hne : v.ownBlock = none ∨ v.ownBlock ≠ u.ownBlock) : Own W base ty s enc v l :=
  ⟨h.row.kept hg.step hne, h.nil⟩
theorem wpList_append_one {P : Program} {ops : Array Oper} {rest : List Oper} {o : Oper} {a : Act} {w : World} {Q : Exit → Act → World → Prop} (hgd : o.guard = none) (s x : Operand) (t : TypeId)
    (ho : o.op = .call { callee := .builtin .append, args := #[s, x], argTypes := #[t, t] })
    (base : Nat) (e : TypeId) (i : TypeInfo) (z : Value) (size bytes : Nat) (ht : P.underlying t = some (.slice e)) (hi : P.info? e = some i) (hz : i.zero = some z)
    (hsize : i.size = size) (hby : i.bytes = bytes) (hzs : z.cells.size = size) (hsz : 0 < size)
    (enc : α → List Value) (v : Value) (l : List α) (y : α) (hs : a.eval s = v) (hown : Own w base e size enc v l)
    (ad : Nat) (hx : a.eval x = .slice (some ⟨ad, 0, none⟩) 1 1) (hrow : Holds w ad (enc y)) (hl : (enc y).length = size) (h1 : ∀ u ∈ enc y, u.oneCell' = true)
    (h63 : l.length + 1 ≤ maxLen) (hbytes : (l.length + 1) * bytes ≤ 140737488355328) (hbase : base ≤ w.heap.size)
    (h : ∀ v' W, Own W base e size enc v' (l ++ [y]) → Grew w W v v' → wpList P ops Q rest (a.put o.dst v') W) :
    wpList P ops Q (o :: rest) a w := by
  refine wpList_append_own_at w hgd s x t ho base e i z size bytes ht hi hz hsize hby hzs hsz v l.length (l.flatMap enc) hs hown.row ⟨ad, 0, none⟩ 1 1 (enc y) hx (by rw [hl, Nat.one_mul]) ?_ h1 h63 hbytes hbase ?_
  · intro j u hj
    have hadd : (⟨ad, 0, none⟩ : Addr).add j = ⟨ad, j, none⟩ := by unfold Addr.add; split <;> simp_all
    rw [hadd]
    exact hrow.cell hj
  · intro v' W h2 h3 h4 h5
    refine h v' W ⟨?_, ?_⟩ ⟨h3, h5⟩
    · rw [List.length_append, List.length_singleton, List.flatMap_append, List.flatMap_singleton]
      exact h2
    · rw [h4]
      simp
end
end Go.Proofs.Ytmhhejpokgdjoaa
