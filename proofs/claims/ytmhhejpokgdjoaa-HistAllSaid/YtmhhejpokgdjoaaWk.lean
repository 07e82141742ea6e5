/- A whole block stored or loaded at once (a struct or an array by value), and small laws of worlds. · An array value of one-cell pointers is read at an index. · Slices whose elements are structs of s cells: what they read as ('Rd'), and those of the call's own ('Own'). · append of one element of s cells onto a slice of the call's own, with the place of the new slice. · Parts of slices that read as lists. · A call of a function VALUE of which only a contract is known (a yield, an iterator, a bound method), inside the wide fence. -/
import Derived.WalkKit
import Derived.WalkSmall
import Derived.Laws.CopyOwn
import Derived.BigFrame
import Derived.Laws.AppendOwn
import Derived.Laws.OwnMore
import Derived.Maps.AppendAt
import Derived.Test.YtmhhejpokgdjoaaReg
import Derived.RangeFuncNested
import Derived.BigFrameIn
import Derived.TacticsInMore
import Derived.LoopIn
namespace Go.Proofs.Ytmhhejpokgdjoaa
open Go Go.RowKit
set_option linter.unusedVariables false

theorem wpList_store_row {P : Program} {ops : Array Oper} {rest : List Oper} {o : Oper} {a : Act} {w : World} {Q : Exit → Act → World → Prop} (hgd : Region.wanted o (yielded ops a.tmps) = true) (ty : TypeId) (x y : Operand) (ho : o.op = .store ty x y)
    (g : Nat) (t : TypeId) (cur cs : Array Value) (hx : a.eval x = .pointer (some ⟨g, 0, none⟩)) (hy : a.eval y = .agg cs) (hg : w.heap[g]? = some (.cells cur t (0, 0)))
    (hi : (P.info? ty).map (·.size) = some cs.size) (hc : cur.size = cs.size) (h1 : ∀ v ∈ cs.toList, v.oneCell' = true)
    (h : wpList P ops Q rest (a.put o.dst undef) (w.setRow g cs)) : wpList P ops Q (o :: rest) a w := by
  refine BigFrame.wpList_want hgd fun K hK => ?_
  unfold Oper.wp execOp
  cases hq : P.info? ty with
  | none => simp [hq] at hi
  | some i =>
    have hs : i.size = cs.size := by simpa [hq] using hi
    have hst := run_storeCells_at (P := P) g 0 t cs.toList 0 cur w hg (by simp [hc]) h1
    have hdr : List.drop cs.size cur.toList = [] := List.drop_eq_nil_of_le (by simp [hc])
    simp only [Nat.add_zero, List.take_zero, List.nil_append, Nat.zero_add, Array.length_toList, hdr, List.append_nil] at hst
    have : (Instr.storeAt ty (.pointer (some ⟨g, 0, none⟩)) (.agg cs)).run P w = .ok () (w.setRow g cs) := by
      simp only [Instr.storeAt, Instr.sureAddr, Sem.run_bind, Sem.run_pure, Result.andThen_ok, storeVar, Value.cells, sizeOf, typeInfo, run_program, hq, hs]
      simp only [ne_eq, not_true_eq_false, if_false]
      rw [hst]
    simp only [ho, hx, hy, Sem.run_bind, this, Result.andThen_ok, Sem.run_pure]
    exact hK _ _ h

theorem setRow_alloc (w : World) (cur cs : Array Value) (t : TypeId) : (w.alloc (.cells cur t)).setRow w.heap.size cs = w.alloc (.cells cs t) := by
  unfold World.setRow World.alloc
  congr 1
  apply Array.ext
  · simp
  · intro i h1 h2
    simp only [Array.size_modify, Array.size_push] at h1
    rw [Array.getElem_modify]
    by_cases hi : w.heap.size = i
    · subst hi; simp
    · have : i < w.heap.size := by omega
      simp [hi, Array.getElem_push, this]
theorem setCell_alloc_row (w : World) (cur : Array Value) (t : TypeId) (i : Nat) (v : Value) : (w.alloc (.cells cur t)).setCell ⟨w.heap.size, i, none⟩ v = w.alloc (.cells (cur.setIfInBounds i v) t) := by
  rw [setCell_eq_setRow _ _ _ cur t (0, 0) v (heap_alloc_new _ _), setRow_alloc]
/-- Block b holds these cells, and none is frozen. -/
def Holds (w : World) (b : Nat) (cs : List Value) : Prop := ∃ ty, w.heap[b]? = some (.cells cs.toArray ty)
/-- Block g alone may have turned. -/
structure Upd (g : Nat) (w w' : World) : Prop where
  os : w'.os = w.os
  tape : w'.tape = w.tape
  output : w'.output = w.output
  size : w'.heap.size = w.heap.size
  block : ∀ k, k ≠ g → w'.heap[k]? = w.heap[k]?
theorem Upd.below {g B : Nat} {w w' : World} (h : Upd g w w') (hB : B ≤ g) : Below B w w' := ⟨h.os, h.tape, h.output, Nat.le_of_eq h.size.symm, fun k hk => h.block k (by omega)⟩
theorem Holds.cell {w : World} {b : Nat} {cs : List Value} (h : Holds w b cs) {i : Nat} {v : Value} (hi : cs[i]? = some v) : w.cell? ⟨b, i, none⟩ = some v := by
  obtain ⟨ty, h⟩ := h
  simp [World.cell?, h, hi]
theorem Holds.free {w : World} {b : Nat} {cs : List Value} (h : Holds w b cs) (i : Nat) : w.frozen? ⟨b, i, none⟩ = false := by
  obtain ⟨ty, h⟩ := h
  simp [World.frozen?, h]
theorem Holds.lt {w : World} {b : Nat} {cs : List Value} (h : Holds w b cs) : b < w.heap.size := by
  obtain ⟨ty, h⟩ := h
  exact (Array.getElem?_eq_some_iff.1 h).1
theorem Holds.below {w w' : World} {B b : Nat} {cs : List Value} (h : Holds w b cs) (hb : Below B w w') (hlt : b < B) : Holds w' b cs := by
  obtain ⟨ty, h⟩ := h
  exact ⟨ty, (hb.block b hlt).trans h⟩
theorem Holds.ext {w w' : World} {b : Nat} {cs : List Value} (h : Holds w b cs) (hb : Below w.heap.size w w') : Holds w' b cs := h.below hb h.lt
theorem Holds.upd {w w' : World} {g b : Nat} {cs : List Value} (h : Holds w b cs) (hu : Upd g w w') (hne : b ≠ g) : Holds w' b cs := by
  obtain ⟨ty, h⟩ := h
  exact ⟨ty, (hu.block b hne).trans h⟩
theorem Holds.drew {w : World} {b : Nat} {cs : List Value} (h : Holds w b cs) : Holds w.drew b cs := h
theorem Upd.setCell {w : World} {g i : Nat} (v : Value) : Upd g w (w.setCell ⟨g, i, none⟩ v) :=
  ⟨rfl, rfl, rfl, by simp [World.setCell], fun k hk => heap_setCell_other w ⟨g, i, none⟩ k v hk⟩
theorem Holds.setCell {w : World} {g i : Nat} {cs : List Value} (h : Holds w g cs) (v : Value) : Holds (w.setCell ⟨g, i, none⟩ v) g (cs.set i v) := by
  obtain ⟨ty, h⟩ := h
  refine ⟨ty, ?_⟩
  rw [heap_setCell_same w g i cs.toArray ty v h]
  simp
theorem Holds.alloc (w : World) (cs : List Value) (ty : TypeId) : Holds (w.alloc (.cells cs.toArray ty)) w.heap.size cs := ⟨ty, heap_alloc_new _ _⟩
theorem below_of_drew {B : Nat} {w w' : World} (h : Below B w.drew w') : Below B w w' := ⟨h.os, h.tape, h.output, h.size, h.block⟩
theorem below_to_drew {B : Nat} {w w' : World} (h : Below B w w') : Below B w.drew w' := ⟨h.os, h.tape, h.output, h.size, h.block⟩
/-- A new block of several cells, its world under a name. -/
theorem wpList_box_abs {P : Program} {ops : Array Oper} {rest : List Oper} {o : Oper} {a : Act} {w : World} {Q : Exit → Act → World → Prop} (hgd : Region.wanted o (yielded ops a.tmps) = true) (ty : TypeId) (x : Operand) (ho : o.op = .box ty x)
    (cs : List Value) (hx : a.eval x = .agg cs.toArray)
    (h : ∀ W, Holds W w.heap.size cs → Below w.heap.size w W → W.heap.size = w.heap.size + 1 → wpList P ops Q rest (a.put o.dst (.pointer (some ⟨w.heap.size, 0, none⟩))) W) : wpList P ops Q (o :: rest) a w := by
  refine BigFrame.wpList_want hgd fun K hK => ?_
  unfold Oper.wp execOp
  simp only [ho, hx, Instr.box, newVar, newRow, Value.cells, Sem.run_bind, run_newObj, Result.andThen_ok, Sem.run_pure]
  exact hK _ _ (h _ (Holds.alloc w cs ty) ((Below.refl _ _).alloc (Nat.le_refl _) _) (by simp))
/-- A struct or an array stored into a block, its world under a name. -/
theorem wpList_store_abs {P : Program} {ops : Array Oper} {rest : List Oper} {o : Oper} {a : Act} {w : World} {Q : Exit → Act → World → Prop} (hgd : Region.wanted o (yielded ops a.tmps) = true) (ty : TypeId) (x y : Operand) (ho : o.op = .store ty x y)
    (g : Nat) (cur cs : List Value) (hx : a.eval x = .pointer (some ⟨g, 0, none⟩)) (hy : a.eval y = .agg cs.toArray) (hg : Holds w g cur)
    (hi : (P.info? ty).map (·.size) = some cs.length) (hc : cur.length = cs.length) (h1 : ∀ v ∈ cs, v.oneCell' = true)
    (h : ∀ W, Holds W g cs → Upd g w W → wpList P ops Q rest (a.put o.dst undef) W) : wpList P ops Q (o :: rest) a w := by
  obtain ⟨t, hg⟩ := hg
  refine wpList_store_row hgd ty x y ho g t cur.toArray cs.toArray hx hy hg (by simpa using hi) (by simpa using hc) (by simpa using h1) ?_
  refine h _ ⟨t, setRow_heap w g _ _ t _ hg⟩ ⟨rfl, rfl, rfl, by simp, fun k hk => setRow_other w g k _ hk⟩
/-- Part of a block read at once: an array or a struct within it. -/
theorem run_load_seg {P : Program} {w : World} {g off : Nat} {cs : List Value} (hg : Holds w g cs) {ty : TypeId} {n : Nat} {d : TypeDesc} (hu : P.underlying ty = some d) (hd : (match d with | .struct _ | .array _ _ => true | _ => false) = true)
    (hi : (P.info? ty).map (·.size) = some n) (hn : off + n ≤ cs.length) : (loadVar ty ⟨g, off, none⟩).run P w = .ok (.agg ((cs.drop off).take n).toArray) w := by
  have hlen : ((cs.drop off).take n).length = n := by simp; omega
  have hl : (loadCells ⟨g, off, none⟩ ((cs.drop off).take n).length).run P w = .ok ((cs.drop off).take n).toArray w :=
    run_loadCells_list (P := P) w ⟨g, off, none⟩ _ (fun j v hv => by
      have hadd : (⟨g, off, none⟩ : Addr).add j = ⟨g, off + j, none⟩ := by unfold Addr.add; split <;> simp_all
      rw [hadd]
      refine hg.cell ?_
      have hj : j < n := by have := (List.getElem?_eq_some_iff.1 hv).1; omega
      rw [List.getElem?_take_of_lt hj, List.getElem?_drop] at hv
      exact hv)
  rw [hlen] at hl
  cases hq : P.info? ty with
  | none => simp [hq] at hi
  | some i =>
    have hs : i.size = n := by simpa [hq] using hi
    have hagg : (isAgg ty).run P w = .ok true w := by
      unfold isAgg
      rw [Sem.run_bind, run_underlying hu w]
      cases d <;> simp_all
    simp [loadVar, Sem.run_bind, hagg, sizeOf, typeInfo, hq, hs, hl]
theorem wpList_load_seg {P : Program} {ops : Array Oper} {rest : List Oper} {o : Oper} {a : Act} {w : World} {Q : Exit → Act → World → Prop} (hgd : Region.wanted o (yielded ops a.tmps) = true) (ty : TypeId) (x : Operand) (ho : o.op = .load ty x)
    (g off n : Nat) (hx : a.eval x = .pointer (some ⟨g, off, none⟩)) (cs : List Value) (hg : Holds w g cs) (d : TypeDesc)
    (hu : P.underlying ty = some d) (hd : (match d with | .struct _ | .array _ _ => true | _ => false) = true) (hi : (P.info? ty).map (·.size) = some n) (hn : off + n ≤ cs.length)
    (h : wpList P ops Q rest (a.put o.dst (.agg ((cs.drop off).take n).toArray)) w) : wpList P ops Q (o :: rest) a w := by
  refine BigFrame.wpList_want hgd fun K hK => ?_
  unfold Oper.wp execOp
  simp only [ho, hx, Instr.loadAt, Instr.sureAddr, Sem.run_bind, Sem.run_pure, Result.andThen_ok, run_load_seg hg hu hd hi hn]
  exact hK _ _ h
theorem wpList_load_abs {P : Program} {ops : Array Oper} {rest : List Oper} {o : Oper} {a : Act} {w : World} {Q : Exit → Act → World → Prop} (hgd : Region.wanted o (yielded ops a.tmps) = true) (ty : TypeId) (x : Operand) (ho : o.op = .load ty x)
    (g : Nat) (hx : a.eval x = .pointer (some ⟨g, 0, none⟩)) (cs : List Value) (hg : Holds w g cs) (d : TypeDesc)
    (hu : P.underlying ty = some d) (hd : (match d with | .struct _ | .array _ _ => true | _ => false) = true) (hi : (P.info? ty).map (·.size) = some cs.length)
    (h : wpList P ops Q rest (a.put o.dst (.agg cs.toArray)) w) : wpList P ops Q (o :: rest) a w := by
  refine wpList_load_seg hgd ty x ho g 0 cs.length hx cs hg d hu hd hi (by omega) ?_
  simpa using h
/-! ### An array of pointers held against one of nils -/
def nilP : Value → Bool
  | .pointer none => true
  | _ => false
theorem forIn_all {P : Program} {w : World} {g : Nat → Option Bool × Unit → Sem (ForInStep (Option Bool × Unit))} {b : Nat → Bool} : ∀ (l : List Nat),
    (∀ i ∈ l, (g i (none, ())).run P w = .ok (if b i then .yield (none, ()) else .done (some false, ())) w) →
    (forIn l ((none, ()) : Option Bool × Unit) g).run P w = .ok (if l.all b then (none, ()) else (some false, ())) w
  | [], _ => rfl
  | i :: l, h => by
    rw [List.forIn_cons]
    simp only [Sem.run_bind, h i List.mem_cons_self, Result.andThen_ok]
    cases hb : b i
    · simp [hb]
    · simp only [if_true]
      rw [forIn_all l (fun j hj => h j (List.mem_cons_of_mem _ hj))]
      simp [hb]
theorem run_eq_ptr_nil {P : Program} {w : World} {d : Nat} {t e : TypeId} (hu : P.underlying t = some (.pointer e)) {v : Value} (hv : ∃ o, v = .pointer o) : (Op.equalIn (d + 1) t v (.pointer none)).run P w = .ok (nilP v) w := by
  obtain ⟨o, rfl⟩ := hv
  unfold Op.equalIn
  rw [Sem.run_bind, run_underlying hu w, Result.andThen_ok]
  cases o <;> rfl
theorem run_eql_nils {P : Program} {w : World} {ta te tp : TypeId} {n : Nat} (hu : P.underlying ta = some (.array n te)) (he : P.underlying te = some (.pointer tp)) (hs : (P.info? te).map (·.size) = some 1) {cs : List Value}
    (hn : cs.length = n) (hv : ∀ v ∈ cs, ∃ o, v = .pointer o) : (Op.equal ta (.agg cs.toArray) (.agg (List.replicate n (.pointer none)).toArray)).run P w = .ok (cs.all nilP) w := by
  unfold Op.equal Op.maxDepth Op.equalIn
  rw [Sem.run_bind, run_underlying hu w, Result.andThen_ok]
  have hsz : ∀ w, (sizeOf te).run P w = .ok 1 w := fun w => by
    cases hq : P.info? te with
    | none => simp [hq] at hs
    | some i => simp [sizeOf, typeInfo, hq] at hs ⊢; exact hs
  have hag : ∀ w, (isAgg te).run P w = .ok false w := fun w => by
    unfold isAgg; rw [Sem.run_bind, run_underlying he w]; rfl
  have hpart : ∀ (l : List Value) (i : Nat) (v : Value), l[i]? = some v → (part te l.toArray (i * 1)).run P w = .ok v w := fun l i v hl => by
    unfold part
    rw [Sem.run_bind, hag, Result.andThen_ok]
    simp [hl]
  have hall : (List.range n).all (fun i => nilP (cs.getD i (.pointer none))) = cs.all nilP := by
    subst hn
    rw [Bool.eq_iff_iff, List.all_eq_true, List.all_eq_true]
    constructor
    · intro h v hv
      obtain ⟨i, hi, rfl⟩ := List.getElem_of_mem hv
      have := h i (List.mem_range.2 hi)
      simpa [List.getD_eq_getElem?_getD, hi] using this
    · intro h i hi
      have hi : i < cs.length := List.mem_range.1 hi
      simpa [List.getD_eq_getElem?_getD, hi] using h cs[i] (List.getElem_mem _)
  simp only [Sem.run_bind, hsz, Result.andThen_ok]
  rw [Std.Legacy.Range.forIn_eq_forIn_range']
  rw [forIn_all (P := P) (w := w) (b := fun i => nilP (cs.getD i (.pointer none))) _ (fun i hi => ?_)]
  · simp only [Std.Legacy.Range.size, Nat.sub_zero, Nat.add_one_sub_one, Nat.div_one, ← List.range_eq_range', hall, Result.andThen_ok]
    cases cs.all nilP <;> rfl
  · have hi : i < n := by
      simpa [Std.Legacy.Range.size] using hi
    have h1 : cs[i]? = some cs[i] := List.getElem?_eq_getElem (by omega)
    have h2 : (List.replicate n (Value.pointer none))[i]? = some (.pointer none) := by simp [hi]
    simp only [Sem.run_bind, hpart _ _ _ h1, hpart _ _ _ h2, Result.andThen_ok]
    rw [run_eq_ptr_nil he (hv _ (List.getElem_mem _)), List.getD_eq_getElem?_getD, h1]
    simp only [Result.andThen_ok, Option.getD_some]
    by_cases hb : nilP cs[i] = true
    · rw [if_pos hb, if_neg (by simp [hb])]; rfl
    · rw [if_neg hb, if_pos (by simpa using hb)]; rfl
/-- 'a == [n]*T{}', in the walk. -/
theorem wpList_eql_nils {P : Program} {ops : Array Oper} {rest : List Oper} {o : Oper} {a : Act} {w : World} {Q : Exit → Act → World → Prop} (hgd : Region.wanted o (yielded ops a.tmps) = true) (ta : TypeId) (x y : Operand) (ty : TypeId) (ho : o.op = .binOp .eql ta x y ty)
    {te tp : TypeId} {n : Nat} {cs : List Value} (hx : a.eval x = .agg cs.toArray) (hy : a.eval y = .agg (List.replicate n (.pointer none)).toArray) (hu : P.underlying ta = some (.array n te)) (he : P.underlying te = some (.pointer tp)) (hs : (P.info? te).map (·.size) = some 1)
    (heq : P.eqGuardType P.depth ta = false) (hn : cs.length = n) (hv : ∀ v ∈ cs, ∃ o, v = .pointer o)
    (h : wpList P ops Q rest (a.put o.dst (.bool (cs.all nilP))) w) : wpList P ops Q (o :: rest) a w := by
  refine BigFrame.wpList_want hgd fun K hK => ?_
  unfold Oper.wp execOp
  have h1 : (eqGuard .eql ta x y (.agg cs.toArray) (.agg (List.replicate n (.pointer none)).toArray)).run P w = .ok () w := by
    simp [eqGuard, heq]
  have h2 : (binOp .eql ta (.agg cs.toArray) (.agg (List.replicate n (.pointer none)).toArray)).run P w = .ok (.bool (cs.all nilP)) w := by
    simp only [binOp, Sem.run_bind, run_eql_nils hu he hs hn hv, Result.andThen_ok, Sem.run_pure]
  simp only [ho, hx, hy, Sem.run_bind, h1, h2, Result.andThen_ok, Sem.run_pure]
  exact hK _ _ h
/-- The world under a name, with what is known of it. -/
theorem cutW {P : Program} {c : Code} {Q : Exit → Act → World → Prop} {a : Act} {w : World} (p : World → Prop) (h0 : p w) (h : ∀ W, p W → c.wp P Q a W) : c.wp P Q a w := h w h0
end Go.Proofs.Ytmhhejpokgdjoaa
namespace Go.Proofs.Ytmhhejpokgdjoaa
open Go Go.RowKit
set_option linter.unusedVariables false

theorem run_index_agg {P : Program} {ty e p : TypeId} {n : Nat} (cs : List Value) (k : Nat) (v : Value) (hu : P.underlying ty = some (.array n e)) (he : P.underlying e = some (.pointer p)) (hi : (P.info? e).map (·.size) = some 1) (hk : k < n) (hv : cs[k]? = some v) (w : World) :
    (Instr.index ty (.agg cs.toArray) (.int .i64 (k : Int))).run P w = .ok v w := by
  have hin : (0 : Int) ≤ (k : Int) ∧ (k : Int) < (n : Int) := by omega
  cases hq : P.info? e with
  | none => simp [hq] at hi
  | some i =>
    have hs : i.size = 1 := by simpa [hq] using hi
    have hagg : (isAgg e).run P w = .ok false w := by
      unfold isAgg
      rw [Sem.run_bind, run_underlying he w]
      rfl
    simp [Instr.index, Sem.run_bind, run_underlying hu, asIntOf, hin, sizeOf, typeInfo, hq, hs, part, hagg, hv]
    intro h
    exact absurd h (by omega)
theorem wpList_index_agg {P : Program} {ops : Array Oper} {rest : List Oper} {o : Oper} {a : Act} {w : World} {Q : Exit → Act → World → Prop} (hgd : Region.wanted o (yielded ops a.tmps) = true) (ty : TypeId) (x i : Operand) (ho : o.op = .index ty x i)
    {e p : TypeId} {n : Nat} (cs : List Value) (k : Nat) (v : Value) (hx : a.eval x = .agg cs.toArray) (hk : a.eval i = .int .i64 (k : Int)) (hu : P.underlying ty = some (.array n e)) (he : P.underlying e = some (.pointer p)) (hi : (P.info? e).map (·.size) = some 1) (hn : k < n) (hv : cs[k]? = some v)
    (h : wpList P ops Q rest (a.put o.dst v) w) : wpList P ops Q (o :: rest) a w := by
  refine BigFrame.wpList_want hgd fun K hK => ?_
  unfold Oper.wp execOp
  simp only [ho, hx, hk, Sem.run_bind, Sem.run_pure, Result.andThen_ok, run_index_agg cs k v hu he hi hn hv w]
  exact hK _ _ h
end Go.Proofs.Ytmhhejpokgdjoaa
namespace Go.Proofs.Ytmhhejpokgdjoaa
open Go Go.RowKit
set_option linter.unusedVariables false

section
variable {α : Type}
/-- The slice v reads as the list l, element i lying in s cells. -/
def Rd (w : World) (s : Nat) (enc : α → List Value) (v : Value) (l : List α) : Prop :=
  ∃ a cap, v = .slice a l.length cap ∧ (l = [] ∨ ∃ b off, a = some ⟨b, off, none⟩ ∧ b < w.heap.size ∧ ∀ i x j u, l[i]? = some x → (enc x)[j]? = some u → w.cell? ⟨b, off + i * s + j, none⟩ = some u)
theorem Rd.ext {w w' : World} {s : Nat} {enc : α → List Value} {v : Value} {l : List α} (h : Rd w s enc v l) (hb : Below w.heap.size w w') : Rd w' s enc v l := by
  obtain ⟨a, cap, hv, h⟩ := h
  refine ⟨a, cap, hv, h.imp id ?_⟩
  rintro ⟨b, off, ha, hlt, hc⟩
  exact ⟨b, off, ha, Nat.lt_of_lt_of_le hlt hb.size, fun i x j u h1 h2 => (hb.cell (p := ⟨b, _, none⟩) hlt).trans (hc i x j u h1 h2)⟩
theorem rd_nil (w : World) (s : Nat) (enc : α → List Value) : Rd w s enc (.slice none 0 0) [] := ⟨none, 0, rfl, .inl rfl⟩
/-- The slice v is the call's own (from block base on), and reads as l. -/
structure Own (w : World) (base : Nat) (ty : TypeId) (s : Nat) (enc : α → List Value) (v : Value) (l : List α) : Prop where
  row : w.ownsRow base ty s v l.length (l.flatMap enc)
  nil : v = .slice none 0 0 ↔ l = []
theorem own_nil (w : World) (base : Nat) (ty : TypeId) (s : Nat) (enc : α → List Value) : Own w base ty s enc (.slice none 0 0) ([] : List α) := ⟨World.ownsRow_nil w base ty s, by simp⟩
theorem flatMap_get {enc : α → List Value} {s : Nat} (hs : ∀ x, (enc x).length = s) : ∀ (l : List α) (i j : Nat) (x : α) (u : Value), l[i]? = some x → (enc x)[j]? = some u → (l.flatMap enc)[i * s + j]? = some u
  | [], i, j, x, u, h1, h2 => by simp at h1
  | y :: l, 0, j, x, u, h1, h2 => by
    simp only [List.getElem?_cons_zero, Option.some.injEq] at h1
    subst h1
    have hj : j < (enc y).length := (List.getElem?_eq_some_iff.1 h2).1
    rw [List.flatMap_cons, Nat.zero_mul, Nat.zero_add, List.getElem?_append_left hj]
    exact h2
  | y :: l, i + 1, j, x, u, h1, h2 => by
    simp only [List.getElem?_cons_succ] at h1
    rw [List.flatMap_cons, List.getElem?_append_right (by rw [hs]; rw [Nat.add_mul]; omega), hs]
    rw [show (i + 1) * s + j - s = i * s + j by rw [Nat.add_mul]; omega]
    exact flatMap_get hs l i j x u h1 h2
theorem Own.rd {w : World} {base : Nat} {ty : TypeId} {s : Nat} {enc : α → List Value} {v : Value} {l : List α} (hs : ∀ x, (enc x).length = s) (h : Own w base ty s enc v l) : Rd w s enc v l := by
  obtain ⟨hlen, hr⟩ := h.row
  rcases hr with ⟨rfl, h0⟩ | ⟨g, cap, cur, rfl, hbg, hg, hn, hm, hsz, htk⟩
  · have : l = [] := List.length_eq_zero_iff.1 h0
    subst this
    exact rd_nil w s enc
  · refine ⟨some ⟨g, 0, none⟩, cap, rfl, .inr ⟨g, 0, rfl, (Array.getElem?_eq_some_iff.1 hg).1, fun i x j u h1 h2 => ?_⟩⟩
    have := flatMap_get hs l i j x u h1 h2
    rw [← htk] at this
    rw [Nat.zero_add]
    have hj := (List.getElem?_eq_some_iff.1 this).1
    rw [List.getElem?_take_of_lt (by simp at hj; omega)] at this
    simp only [World.cell?, hg]
    simpa using this
theorem Own.below {w w' : World} {base : Nat} {ty : TypeId} {s : Nat} {enc : α → List Value} {v : Value} {l : List α} (h : Own w base ty s enc v l) (hb : Below w.heap.size w w') : Own w' base ty s enc v l :=
  ⟨h.row.kept (row := none) ⟨hb.os, hb.tape, hb.output, hb.size, fun k hk _ => hb.block k hk⟩ (by cases hq : v.ownBlock <;> simp), h.nil⟩
theorem Own.upd {w w' : World} {base g : Nat} {ty : TypeId} {s : Nat} {enc : α → List Value} {v : Value} {l : List α} (h : Own w base ty s enc v l) (hu : Upd g w w') (hg : g < base) : Own w' base ty s enc v l :=
  ⟨h.row.kept (row := some g) ⟨hu.os, hu.tape, hu.output, Nat.le_of_eq hu.size.symm, fun k hk hne => hu.block k (fun e => hne (by rw [e]))⟩ (by
    cases hq : v.ownBlock with
    | none => exact .inl rfl
    | some k => exact .inr (fun e => by cases e; have := (h.row.lt g hq).1; omega)), h.nil⟩
theorem Own.shape {w : World} {base : Nat} {ty : TypeId} {s : Nat} {enc : α → List Value} {v : Value} {l : List α} (h : Own w base ty s enc v l) : ∃ a n c, v = .slice a n c := by
  rcases h.row.2 with ⟨rfl, _⟩ | ⟨g, cap, cur, rfl, _⟩
  · exact ⟨_, _, _, rfl⟩
  · exact ⟨_, _, _, rfl⟩
end
end Go.Proofs.Ytmhhejpokgdjoaa
namespace Go.Proofs.Ytmhhejpokgdjoaa
open Go Go.RowKit
set_option linter.unusedVariables false

/-- What an append leaves: the slice v' lies in the old one's block or in a new one, and no other block was touched. -/
structure Grew (w W : World) (v v' : Value) : Prop where
  step : w.grownBy W v.ownBlock
  at_ : v'.ownBlock = v.ownBlock ∨ v'.ownBlock = some w.heap.size
theorem Grew.below {w W : World} {v v' : Value} (h : Grew w W v v') {B : Nat} (hB : B ≤ w.heap.size) (hv : ∀ k, v.ownBlock = some k → B ≤ k) : Below B w W :=
  ⟨h.step.os, h.step.tape, h.step.output, h.step.size, fun k hk => h.step.block k (Nat.lt_of_lt_of_le hk hB) (fun e => by have := hv k e.symm; omega)⟩
section
variable {α : Type}
theorem Own.block {w : World} {base : Nat} {ty : TypeId} {s : Nat} {enc : α → List Value} {v : Value} {l : List α} (h : Own w base ty s enc v l) : ∀ k, v.ownBlock = some k → base ≤ k := fun k hk => (h.row.lt k hk).1
/-- Two slices of the call's own in two blocks: a step on one leaves the other. -/
theorem Own.grew {w W : World} {base : Nat} {ty : TypeId} {s : Nat} {enc : α → List Value} {v u u' : Value} {l : List α} (h : Own w base ty s enc v l) (hg : Grew w W u u') (hne : v.ownBlock = none ∨ v.ownBlock ≠ u.ownBlock) : Own W base ty s enc v l :=
  ⟨h.row.kept hg.step hne, h.nil⟩
theorem wpList_append_one {P : Program} {ops : Array Oper} {rest : List Oper} {o : Oper} {a : Act} {w : World} {Q : Exit → Act → World → Prop} (hgd : o.guard = none) (s x : Operand) (t : TypeId)
    (ho : o.op = .call { callee := .builtin .append, args := #[s, x], argTypes := #[t, t] })
    (base : Nat) (e : TypeId) (i : TypeInfo) (z : Value) (size bytes : Nat) (ht : P.underlying t = some (.slice e)) (hi : P.info? e = some i) (hz : i.zero = some z)
    (hsize : i.size = size) (hby : i.bytes = bytes) (hzs : z.cells.size = size) (hsz : 0 < size)
    (enc : α → List Value) (v : Value) (l : List α) (y : α) (hs : a.eval s = v) (hown : Own w base e size enc v l)
    (ad : Nat) (hx : a.eval x = .slice (some ⟨ad, 0, none⟩) 1 1) (hrow : Holds w ad (enc y)) (hl : (enc y).length = size) (h1 : ∀ u ∈ enc y, u.oneCell' = true)
    (h63 : l.length + 1 ≤ maxLen) (hbytes : (l.length + 1) * bytes ≤ 140737488355328) (hbase : base ≤ w.heap.size)
    (h : ∀ v' W, Own W base e size enc v' (l ++ [y]) → Grew w W v v' → wpList P ops Q rest (a.put o.dst v') W) :
    wpList P ops Q (o :: rest) a w := by
  refine wpList_append_own_at w hgd s x t ho base e i z size bytes ht hi hz hsize hby hzs hsz v l.length (l.flatMap enc) hs hown.row ⟨ad, 0, none⟩ 1 1 (enc y) hx (by rw [hl, Nat.one_mul]) ?_ h1 h63 hbytes hbase ?_
  · intro j u hj
    have hadd : (⟨ad, 0, none⟩ : Addr).add j = ⟨ad, j, none⟩ := by unfold Addr.add; split <;> simp_all
    rw [hadd]
    exact hrow.cell hj
  · intro v' W h2 h3 h4 h5
    refine h v' W ⟨?_, ?_⟩ ⟨h3, h5⟩
    · rw [List.length_append, List.length_singleton, List.flatMap_append, List.flatMap_singleton]
      exact h2
    · rw [h4]
      simp
end
end Go.Proofs.Ytmhhejpokgdjoaa
namespace Go.Proofs.Ytmhhejpokgdjoaa
open Go Go.RowKit
set_option linter.unusedVariables false

section
variable {α : Type}
theorem rd_drop {w : World} {s : Nat} {enc : α → List Value} {a : Option Addr} {cap : Nat} {l : List α} (h : Rd w s enc (.slice a l.length cap) l) (i : Nat) (hi : i ≤ l.length) (hc : l.length ≤ cap) :
    Rd w s enc (.slice (if cap = i then a else a.map (·.add (i * s))) (l.length - i) (cap - i)) (l.drop i) := by
  obtain ⟨a', cap', hv, h⟩ := h
  simp only [Value.slice.injEq, true_and] at hv
  obtain ⟨rfl, rfl⟩ := hv
  refine ⟨_, _, by rw [List.length_drop], ?_⟩
  by_cases hd : l.drop i = []
  · exact .inl hd
  · right
    have hil : i < l.length := by
      rcases Nat.lt_or_ge i l.length with h | h
      · exact h
      · exact absurd (List.drop_of_length_le h) hd
    rcases h with rfl | ⟨b, off, rfl, hb, hcell⟩
    · simp at hil
    · refine ⟨b, off + i * s, ?_, hb, fun j x k u hj hk => ?_⟩
      · rw [if_neg (by omega)]
        simp only [Option.map_some, Addr.add]
        by_cases h0 : i * s = 0 <;> simp [h0]
      · rw [List.getElem?_drop] at hj
        have := hcell (i + j) x k u hj hk
        rw [show off + i * s + j * s + k = off + (i + j) * s + k by rw [Nat.add_mul]; omega]
        exact this
theorem rd_take {w : World} {s : Nat} {enc : α → List Value} {a : Option Addr} {cap : Nat} {l : List α} (h : Rd w s enc (.slice a l.length cap) l) (k : Nat) (hk : k ≤ l.length) (cap' : Nat) : Rd w s enc (.slice a k cap') (l.take k) := by
  obtain ⟨a', c', hv, h⟩ := h
  simp only [Value.slice.injEq, true_and] at hv
  obtain ⟨rfl, rfl⟩ := hv
  refine ⟨_, _, by rw [List.length_take, Nat.min_eq_left hk], ?_⟩
  rcases h with rfl | ⟨b, off, rfl, hb, hcell⟩
  · left; simp
  · refine .inr ⟨b, off, rfl, hb, fun j x i u hj hi => ?_⟩
    rw [List.getElem?_take] at hj
    split at hj
    · exact hcell j x i u hj hi
    · cases hj
end
end Go.Proofs.Ytmhhejpokgdjoaa
namespace Go.Proofs.Ytmhhejpokgdjoaa
open Go Go.RowKit
set_option linter.unusedVariables false

/-- A fence that shuts nothing out. -/
structure Open (P : Program) (F : Fence) : Prop where
  fn : ∀ f, F.fn f
  depth : F.depth = none
  all : ∀ m, Machine.fenced P F m
theorem open_wide (P : Program) : Open P Fence.wide := ⟨fun _ => trivial, rfl, fenced_wide P⟩
theorem open_round (P : Program) (l : Nat) : Open P (Fence.wide.inRound l) := ⟨fun _ => trivial, rfl, fenced_wide P⟩
theorem Open.room {P : Program} {F : Fence} (h : Open P F) (k : Nat) : F.room k := fun d hd => by rw [h.depth] at hd; cases hd
theorem Open.steps {P : Program} {F : Fence} (h : Open P F) {m m' : Machine} (s : Steps P m m') : StepsIn (Machine.fenced P F) P m m' := (StepsIn.of_steps s).mono fun m _ => h.all m
theorem Open.calls {P : Program} {F : Fence} (h : Open P F) {n : Nat} {f : FuncId} {args : Array Value} {w : World} {R : Ending → World → Prop} (hc : Calls P f args w R) : CallsIn F n P f args w R :=
  ⟨h.fn f, fun cs _ => by
    obtain ⟨e, w', fr, r, s, x⟩ := hc cs
    refine ⟨e, w', fr, r, ?_, x⟩
    cases e <;> first | exact h.steps s | exact s⟩
theorem Open.calls' {P : Program} {F : Fence} (h : Open P F) {n : Nat} {f : FuncId} {args : Array Value} {w : World} {R : Ending → World → Prop} (hc : CallsIn F n P f args w R) : Calls P f args w R := fun cs => by
  obtain ⟨e, w', fr, r, s, x⟩ := hc.2 cs (h.room _)
  exact ⟨e, w', fr, r, s.comes, x⟩
theorem Open.round {P : Program} {F F' : Fence} (h : Open P F) (h' : Open P F') {n n' l : Nat} {f : FuncId} {tmps : Array Value} {assign body : Code} {w : World} {R : Ending → World → Prop} (hc : RoundIn F n P l f tmps assign body w R) : RoundIn F' n' P l f tmps assign body w R :=
  ⟨h'.fn f, fun c cs _ => by
    obtain ⟨e, w', r, s⟩ := hc.2 c cs (h.room _)
    refine ⟨e, w', r, ?_⟩
    have s' := s.comes
    cases e <;> first | exact h'.steps s' | exact s'⟩

/-- A call of the function value fv. -/
def CallV (P : Program) (fv : Value) (args : Array Value) (w : World) (R : Ending → World → Prop) : Prop :=
  ∃ nx, (do let d ← Deferred.ofValue fv args; invoke d.target d.args : Sem Next).run P w = .ok nx w ∧
    match nx with
    | .enter f as => Calls P f as w R
    | .round l f tmps asg body => RoundIn Fence.wide 0 P l f tmps asg body w R
    | _ => False
theorem CallV.mono {P : Program} {fv : Value} {args : Array Value} {w : World} {R R' : Ending → World → Prop} (h : CallV P fv args w R) (hr : ∀ e w', R e w' → R' e w') : CallV P fv args w R' := by
  obtain ⟨nx, hn, h⟩ := h
  refine ⟨nx, hn, ?_⟩
  cases nx <;> first | exact Calls.mono h hr | exact RoundIn.mono h hr | exact h
theorem callV_func {P : Program} {f : FuncId} {first cap args : Array Value} {w : World} {R : Ending → World → Prop} (he : ∀ as w, (callFunc f as).run P w = .ok (.enter f as) w)
    (h : Calls P f (first ++ args ++ cap) w R) : CallV P (.func (.func f) first cap) args w R :=
  ⟨.enter f (first ++ args ++ cap), by simp [Deferred.ofValue, invoke, he], h⟩
theorem wpListIn_callV {P : Program} {F : Fence} (hO : Open P F) {n : Nat} {ops : Array Oper} {rest : List Oper} {o : Oper} {a : Act} {w : World} {Q : Exit → Act → World → Prop} (hgd : Region.wanted o (yielded ops a.tmps) = true)
    (x : Operand) (xs : Array Operand) (ats : Array TypeId) (ho : o.op = .call ⟨.value x, xs, ats⟩) {fv : Value} {vs : Array Value} (hx : a.eval x = fv) (hxs : xs.map a.eval = vs)
    (h : CallV P fv vs w fun e w' => match e with | .returned v => wpListIn F n P ops Q rest (a.put o.dst v) w' | .panicked c => Q (.panic c) a w' | .outgrown => LetsOut Q) :
    wpListIn F n P ops Q (o :: rest) a w := by
  unfold wpListIn
  rw [if_pos hgd]
  refine ⟨fun f _ => hO.fn f, ?_⟩
  obtain ⟨nx, hn, h⟩ := h
  rw [Oper.semAt_eq _ _ _ (fun c e => by rw [ho] at e; cases e)]
  unfold execOp
  have hr : (do let d ← resolve a.eval ⟨.value x, xs, ats⟩ o.type; invoke d.target d.args : Sem Next).run P w = .ok nx w := by
    unfold resolve
    dsimp only
    rw [hx, hxs]
    exact hn
  rw [ho]
  dsimp only
  rw [hr]
  cases nx <;> dsimp only at h <;> (first | exact h.elim | skip)
  case enter f as =>
    refine ⟨fun hd => (by rw [hO.depth] at hd; cases hd), hO.calls (h.mono fun e w' he => ?_)⟩
    cases e <;> exact he
  case round l f tmps asg body =>
    refine ⟨fun hd => (by rw [hO.depth] at hd; cases hd), (open_wide P).round hO (h.mono fun e w' he => ?_)⟩
    cases e <;> exact he

/-- What a yield owes an iterator over xs: at each step it goes on, or says 'no more'. -/
def Yd {α : Type} (P : Program) (Y : Value) (enc : α → Array Value) (xs : List α) (Inv Brk : List α → World → Prop) : Prop :=
  ∀ pre x post, xs = pre ++ x :: post → ∀ W, Inv pre W →
    CallV P Y (enc x) W fun e W' => (e = .returned (.bool true) ∧ Inv (pre ++ [x]) W') ∨ (e = .returned (.bool false) ∧ Brk (pre ++ [x]) W')
/-- Inv abides whatever is new. -/
def Grows {α : Type} (Inv : List α → World → Prop) : Prop := ∀ pre W W', Inv pre W → Below W.heap.size W W' → Inv pre W'
/-- The iterator fv gives xs, in this order, as long as D holds: to whatever yield. -/
def Gives {α : Type} (P : Program) (fv : Value) (enc : α → Array Value) (xs : List α) (D : World → Prop) : Prop :=
  ∀ (Y : Value) (Inv Brk : List α → World → Prop) (W : World), Grows Inv → (∀ pre W, Inv pre W → D W) → Yd P Y enc xs Inv Brk → Inv [] W →
    CallV P fv #[Y] W fun e W' => (∃ v, e = .returned v) ∧ (Inv xs W' ∨ ∃ pre x post, xs = pre ++ x :: post ∧ Brk (pre ++ [x]) W')
end Go.Proofs.Ytmhhejpokgdjoaa
