/- A whole block stored or loaded at once (a struct or an array by value), and small laws of worlds. -/
import Derived.WalkKit
import Derived.WalkSmall
import Derived.Laws.CopyOwn
import Derived.BigFrame
namespace Go.Proofs.Ytmhhejpokgdjoaa
open Go Go.RowKit
set_option linter.unusedVariables false

theorem wpList_store_row {P : Program} {ops : Array Oper} {rest : List Oper} {o : Oper} {a : Act} {w : World} {Q : Exit → Act → World → Prop} (hgd : Region.wanted o (yielded ops a.tmps) = true) (ty : TypeId) (x y : Operand) (ho : o.op = .store ty x y)
    (g : Nat) (t : TypeId) (cur cs : Array Value) (hx : a.eval x = .pointer (some ⟨g, 0, none⟩)) (hy : a.eval y = .agg cs) (hg : w.heap[g]? = some (.cells cur t (0, 0)))
    (hi : (P.info? ty).map (·.size) = some cs.size) (hc : cur.size = cs.size) (h1 : ∀ v ∈ cs.toList, v.oneCell' = true)
    (h : wpList P ops Q rest (a.put o.dst undef) (w.setRow g cs)) : wpList P ops Q (o :: rest) a w := by
  refine BigFrame.wpList_want hgd fun K hK => ?_
  unfold Oper.wp execOp
  cases hq : P.info? ty with
  | none => simp [hq] at hi
  | some i =>
    have hs : i.size = cs.size := by simpa [hq] using hi
    have hst := run_storeCells_at (P := P) g 0 t cs.toList 0 cur w hg (by simp [hc]) h1
    have hdr : List.drop cs.size cur.toList = [] := List.drop_eq_nil_of_le (by simp [hc])
    simp only [Nat.add_zero, List.take_zero, List.nil_append, Nat.zero_add, Array.length_toList, hdr, List.append_nil] at hst
    have : (Instr.storeAt ty (.pointer (some ⟨g, 0, none⟩)) (.agg cs)).run P w = .ok () (w.setRow g cs) := by
      simp only [Instr.storeAt, Instr.sureAddr, Sem.run_bind, Sem.run_pure, Result.andThen_ok, storeVar, Value.cells, sizeOf, typeInfo, run_program, hq, hs]
      simp only [ne_eq, not_true_eq_false, if_false]
      rw [hst]
    simp only [ho, hx, hy, Sem.run_bind, this, Result.andThen_ok, Sem.run_pure]
    exact hK _ _ h

theorem setRow_alloc (w : World) (cur cs : Array Value) (t : TypeId) : (w.alloc (.cells cur t)).setRow w.heap.size cs = w.alloc (.cells cs t) := by
  unfold World.setRow World.alloc
  congr 1
  apply Array.ext
  · simp
  · intro i h1 h2
    simp only [Array.size_modify, Array.size_push] at h1
    rw [Array.getElem_modify]
    by_cases hi : w.heap.size = i
    · subst hi; simp
    · have : i < w.heap.size := by omega
      simp [hi, Array.getElem_push, this]
theorem setCell_alloc_row (w : World) (cur : Array Value) (t : TypeId) (i : Nat) (v : Value) : (w.alloc (.cells cur t)).setCell ⟨w.heap.size, i, none⟩ v = w.alloc (.cells (cur.setIfInBounds i v) t) := by
  rw [setCell_eq_setRow _ _ _ cur t (0, 0) v (heap_alloc_new _ _), setRow_alloc]
/-- Block b holds these cells, and none is frozen. -/
def Holds (w : World) (b : Nat) (cs : List Value) : Prop := ∃ ty, w.heap[b]? = some (.cells cs.toArray ty)
/-- Block g alone may have turned. -/
structure Upd (g : Nat) (w w' : World) : Prop where
  os : w'.os = w.os
  tape : w'.tape = w.tape
  output : w'.output = w.output
  size : w'.heap.size = w.heap.size
  block : ∀ k, k ≠ g → w'.heap[k]? = w.heap[k]?
theorem Upd.below {g B : Nat} {w w' : World} (h : Upd g w w') (hB : B ≤ g) : Below B w w' := ⟨h.os, h.tape, h.output, Nat.le_of_eq h.size.symm, fun k hk => h.block k (by omega)⟩
theorem Holds.cell {w : World} {b : Nat} {cs : List Value} (h : Holds w b cs) {i : Nat} {v : Value} (hi : cs[i]? = some v) : w.cell? ⟨b, i, none⟩ = some v := by
  obtain ⟨ty, h⟩ := h
  simp [World.cell?, h, hi]
theorem Holds.free {w : World} {b : Nat} {cs : List Value} (h : Holds w b cs) (i : Nat) : w.frozen? ⟨b, i, none⟩ = false := by
  obtain ⟨ty, h⟩ := h
  simp [World.frozen?, h]
theorem Holds.lt {w : World} {b : Nat} {cs : List Value} (h : Holds w b cs) : b < w.heap.size := by
  obtain ⟨ty, h⟩ := h
  exact (Array.getElem?_eq_some_iff.1 h).1
theorem Holds.below {w w' : World} {B b : Nat} {cs : List Value} (h : Holds w b cs) (hb : Below B w w') (hlt : b < B) : Holds w' b cs := by
  obtain ⟨ty, h⟩ := h
  exact ⟨ty, (hb.block b hlt).trans h⟩
theorem Holds.ext {w w' : World} {b : Nat} {cs : List Value} (h : Holds w b cs) (hb : Below w.heap.size w w') : Holds w' b cs := h.below hb h.lt
theorem Holds.upd {w w' : World} {g b : Nat} {cs : List Value} (h : Holds w b cs) (hu : Upd g w w') (hne : b ≠ g) : Holds w' b cs := by
  obtain ⟨ty, h⟩ := h
  exact ⟨ty, (hu.block b hne).trans h⟩
theorem Holds.drew {w : World} {b : Nat} {cs : List Value} (h : Holds w b cs) : Holds w.drew b cs := h
theorem Upd.setCell {w : World} {g i : Nat} (v : Value) : Upd g w (w.setCell ⟨g, i, none⟩ v) :=
  ⟨rfl, rfl, rfl, by simp [World.setCell], fun k hk => heap_setCell_other w ⟨g, i, none⟩ k v hk⟩
theorem Holds.setCell {w : World} {g i : Nat} {cs : List Value} (h : Holds w g cs) (v : Value) : Holds (w.setCell ⟨g, i, none⟩ v) g (cs.set i v) := by
  obtain ⟨ty, h⟩ := h
  refine ⟨ty, ?_⟩
  rw [heap_setCell_same w g i cs.toArray ty v h]
  simp
theorem Holds.alloc (w : World) (cs : List Value) (ty : TypeId) : Holds (w.alloc (.cells cs.toArray ty)) w.heap.size cs := ⟨ty, heap_alloc_new _ _⟩
theorem below_of_drew {B : Nat} {w w' : World} (h : Below B w.drew w') : Below B w w' := ⟨h.os, h.tape, h.output, h.size, h.block⟩
theorem below_to_drew {B : Nat} {w w' : World} (h : Below B w w') : Below B w.drew w' := ⟨h.os, h.tape, h.output, h.size, h.block⟩
/-- A new block of several cells, its world under a name. -/
theorem wpList_box_abs {P : Program} {ops : Array Oper} {rest : List Oper} {o : Oper} {a : Act} {w : World} {Q : Exit → Act → World → Prop} (hgd : Region.wanted o (yielded ops a.tmps) = true) (ty : TypeId) (x : Operand) (ho : o.op = .box ty x)
    (cs : List Value) (hx : a.eval x = .agg cs.toArray)
    (h : ∀ W, Holds W w.heap.size cs → Below w.heap.size w W → W.heap.size = w.heap.size + 1 → wpList P ops Q rest (a.put o.dst (.pointer (some ⟨w.heap.size, 0, none⟩))) W) : wpList P ops Q (o :: rest) a w := by
  refine BigFrame.wpList_want hgd fun K hK => ?_
  unfold Oper.wp execOp
  simp only [ho, hx, Instr.box, newVar, newRow, Value.cells, Sem.run_bind, run_newObj, Result.andThen_ok, Sem.run_pure]
  exact hK _ _ (h _ (Holds.alloc w cs ty) ((Below.refl _ _).alloc (Nat.le_refl _) _) (by simp))
/-- A struct or an array stored into a block, its world under a name. -/
theorem wpList_store_abs {P : Program} {ops : Array Oper} {rest : List Oper} {o : Oper} {a : Act} {w : World} {Q : Exit → Act → World → Prop} (hgd : Region.wanted o (yielded ops a.tmps) = true) (ty : TypeId) (x y : Operand) (ho : o.op = .store ty x y)
    (g : Nat) (cur cs : List Value) (hx : a.eval x = .pointer (some ⟨g, 0, none⟩)) (hy : a.eval y = .agg cs.toArray) (hg : Holds w g cur)
    (hi : (P.info? ty).map (·.size) = some cs.length) (hc : cur.length = cs.length) (h1 : ∀ v ∈ cs, v.oneCell' = true)
    (h : ∀ W, Holds W g cs → Upd g w W → wpList P ops Q rest (a.put o.dst undef) W) : wpList P ops Q (o :: rest) a w := by
  obtain ⟨t, hg⟩ := hg
  refine wpList_store_row hgd ty x y ho g t cur.toArray cs.toArray hx hy hg (by simpa using hi) (by simpa using hc) (by simpa using h1) ?_
  refine h _ ⟨t, setRow_heap w g _ _ t _ hg⟩ ⟨rfl, rfl, rfl, by simp, fun k hk => setRow_other w g k _ hk⟩
/-- Part of a block read at once: an array or a struct within it. -/
theorem run_load_seg {P : Program} {w : World} {g off : Nat} {cs : List Value} (hg : Holds w g cs) {ty : TypeId} {n : Nat} {d : TypeDesc} (hu : P.underlying ty = some d) (hd : (match d with | .struct _ | .array _ _ => true | _ => false) = true)
    (hi : (P.info? ty).map (·.size) = some n) (hn : off + n ≤ cs.length) : (loadVar ty ⟨g, off, none⟩).run P w = .ok (.agg ((cs.drop off).take n).toArray) w := by
  have hlen : ((cs.drop off).take n).length = n := by simp; omega
  have hl : (loadCells ⟨g, off, none⟩ ((cs.drop off).take n).length).run P w = .ok ((cs.drop off).take n).toArray w :=
    run_loadCells_list (P := P) w ⟨g, off, none⟩ _ (fun j v hv => by
      have hadd : (⟨g, off, none⟩ : Addr).add j = ⟨g, off + j, none⟩ := by unfold Addr.add; split <;> simp_all
      rw [hadd]
      refine hg.cell ?_
      have hj : j < n := by have := (List.getElem?_eq_some_iff.1 hv).1; omega
      rw [List.getElem?_take_of_lt hj, List.getElem?_drop] at hv
      exact hv)
  rw [hlen] at hl
  cases hq : P.info? ty with
  | none => simp [hq] at hi
  | some i =>
    have hs : i.size = n := by simpa [hq] using hi
    have hagg : (isAgg ty).run P w = .ok true w := by
      unfold isAgg
      rw [Sem.run_bind, run_underlying hu w]
      cases d <;> simp_all
    simp [loadVar, Sem.run_bind, hagg, sizeOf, typeInfo, hq, hs, hl]
theorem wpList_load_seg {P : Program} {ops : Array Oper} {rest : List Oper} {o : Oper} {a : Act} {w : World} {Q : Exit → Act → World → Prop} (hgd : Region.wanted o (yielded ops a.tmps) = true) (ty : TypeId) (x : Operand) (ho : o.op = .load ty x)
    (g off n : Nat) (hx : a.eval x = .pointer (some ⟨g, off, none⟩)) (cs : List Value) (hg : Holds w g cs) (d : TypeDesc)
    (hu : P.underlying ty = some d) (hd : (match d with | .struct _ | .array _ _ => true | _ => false) = true) (hi : (P.info? ty).map (·.size) = some n) (hn : off + n ≤ cs.length)
    (h : wpList P ops Q rest (a.put o.dst (.agg ((cs.drop off).take n).toArray)) w) : wpList P ops Q (o :: rest) a w := by
  refine BigFrame.wpList_want hgd fun K hK => ?_
  unfold Oper.wp execOp
  simp only [ho, hx, Instr.loadAt, Instr.sureAddr, Sem.run_bind, Sem.run_pure, Result.andThen_ok, run_load_seg hg hu hd hi hn]
  exact hK _ _ h
theorem wpList_load_abs {P : Program} {ops : Array Oper} {rest : List Oper} {o : Oper} {a : Act} {w : World} {Q : Exit → Act → World → Prop} (hgd : Region.wanted o (yielded ops a.tmps) = true) (ty : TypeId) (x : Operand) (ho : o.op = .load ty x)
    (g : Nat) (hx : a.eval x = .pointer (some ⟨g, 0, none⟩)) (cs : List Value) (hg : Holds w g cs) (d : TypeDesc)
    (hu : P.underlying ty = some d) (hd : (match d with | .struct _ | .array _ _ => true | _ => false) = true) (hi : (P.info? ty).map (·.size) = some cs.length)
    (h : wpList P ops Q rest (a.put o.dst (.agg cs.toArray)) w) : wpList P ops Q (o :: rest) a w := by
  refine wpList_load_seg hgd ty x ho g 0 cs.length hx cs hg d hu hd hi (by omega) ?_
  simpa using h
/-! ### An array of pointers held against one of nils -/
def nilP : Value → Bool
  | .pointer none => true
  | _ => false
theorem forIn_all {P : Program} {w : World} {g : Nat → Option Bool × Unit → Sem (ForInStep (Option Bool × Unit))} {b : Nat → Bool} : ∀ (l : List Nat),
    (∀ i ∈ l, (g i (none, ())).run P w = .ok (if b i then .yield (none, ()) else .done (some false, ())) w) →
    (forIn l ((none, ()) : Option Bool × Unit) g).run P w = .ok (if l.all b then (none, ()) else (some false, ())) w
  | [], _ => rfl
  | i :: l, h => by
    rw [List.forIn_cons]
    simp only [Sem.run_bind, h i List.mem_cons_self, Result.andThen_ok]
    cases hb : b i
    · simp [hb]
    · simp only [if_true]
      rw [forIn_all l (fun j hj => h j (List.mem_cons_of_mem _ hj))]
      simp [hb]
theorem run_eq_ptr_nil {P : Program} {w : World} {d : Nat} {t e : TypeId} (hu : P.underlying t = some (.pointer e)) {v : Value} (hv : ∃ o, v = .pointer o) : (Op.equalIn (d + 1) t v (.pointer none)).run P w = .ok (nilP v) w := by
  obtain ⟨o, rfl⟩ := hv
  unfold Op.equalIn
  rw [Sem.run_bind, run_underlying hu w, Result.andThen_ok]
  cases o <;> rfl
theorem run_eql_nils {P : Program} {w : World} {ta te tp : TypeId} {n : Nat} (hu : P.underlying ta = some (.array n te)) (he : P.underlying te = some (.pointer tp)) (hs : (P.info? te).map (·.size) = some 1) {cs : List Value}
    (hn : cs.length = n) (hv : ∀ v ∈ cs, ∃ o, v = .pointer o) : (Op.equal ta (.agg cs.toArray) (.agg (List.replicate n (.pointer none)).toArray)).run P w = .ok (cs.all nilP) w := by
  unfold Op.equal Op.maxDepth Op.equalIn
  rw [Sem.run_bind, run_underlying hu w, Result.andThen_ok]
  have hsz : ∀ w, (sizeOf te).run P w = .ok 1 w := fun w => by
    cases hq : P.info? te with
    | none => simp [hq] at hs
    | some i => simp [sizeOf, typeInfo, hq] at hs ⊢; exact hs
  have hag : ∀ w, (isAgg te).run P w = .ok false w := fun w => by
    unfold isAgg; rw [Sem.run_bind, run_underlying he w]; rfl
  have hpart : ∀ (l : List Value) (i : Nat) (v : Value), l[i]? = some v → (part te l.toArray (i * 1)).run P w = .ok v w := fun l i v hl => by
    unfold part
    rw [Sem.run_bind, hag, Result.andThen_ok]
    simp [hl]
  have hall : (List.range n).all (fun i => nilP (cs.getD i (.pointer none))) = cs.all nilP := by
    subst hn
    rw [Bool.eq_iff_iff, List.all_eq_true, List.all_eq_true]
    constructor
    · intro h v hv
      obtain ⟨i, hi, rfl⟩ := List.getElem_of_mem hv
      have := h i (List.mem_range.2 hi)
      simpa [List.getD_eq_getElem?_getD, hi] using this
    · intro h i hi
      have hi : i < cs.length := List.mem_range.1 hi
      simpa [List.getD_eq_getElem?_getD, hi] using h cs[i] (List.getElem_mem _)
  simp only [Sem.run_bind, hsz, Result.andThen_ok]
  rw [Std.Legacy.Range.forIn_eq_forIn_range']
  rw [forIn_all (P := P) (w := w) (b := fun i => nilP (cs.getD i (.pointer none))) _ (fun i hi => ?_)]
  · simp only [Std.Legacy.Range.size, Nat.sub_zero, Nat.add_one_sub_one, Nat.div_one, ← List.range_eq_range', hall, Result.andThen_ok]
    cases cs.all nilP <;> rfl
  · have hi : i < n := by
      simpa [Std.Legacy.Range.size] using hi
    have h1 : cs[i]? = some cs[i] := List.getElem?_eq_getElem (by omega)
    have h2 : (List.replicate n (Value.pointer none))[i]? = some (.pointer none) := by simp [hi]
    simp only [Sem.run_bind, hpart _ _ _ h1, hpart _ _ _ h2, Result.andThen_ok]
    rw [run_eq_ptr_nil he (hv _ (List.getElem_mem _)), List.getD_eq_getElem?_getD, h1]
    simp only [Result.andThen_ok, Option.getD_some]
    by_cases hb : nilP cs[i] = true
    · rw [if_pos hb, if_neg (by simp [hb])]; rfl
    · rw [if_neg hb, if_pos (by simpa using hb)]; rfl
/-- 'a == [n]*T{}', in the walk. -/
theorem wpList_eql_nils {P : Program} {ops : Array Oper} {rest : List Oper} {o : Oper} {a : Act} {w : World} {Q : Exit → Act → World → Prop} (hgd : Region.wanted o (yielded ops a.tmps) = true) (ta : TypeId) (x y : Operand) (ty : TypeId) (ho : o.op = .binOp .eql ta x y ty)
    {te tp : TypeId} {n : Nat} {cs : List Value} (hx : a.eval x = .agg cs.toArray) (hy : a.eval y = .agg (List.replicate n (.pointer none)).toArray) (hu : P.underlying ta = some (.array n te)) (he : P.underlying te = some (.pointer tp)) (hs : (P.info? te).map (·.size) = some 1)
    (heq : P.eqGuardType P.depth ta = false) (hn : cs.length = n) (hv : ∀ v ∈ cs, ∃ o, v = .pointer o)
    (h : wpList P ops Q rest (a.put o.dst (.bool (cs.all nilP))) w) : wpList P ops Q (o :: rest) a w := by
  refine BigFrame.wpList_want hgd fun K hK => ?_
  unfold Oper.wp execOp
  have h1 : (eqGuard .eql ta x y (.agg cs.toArray) (.agg (List.replicate n (.pointer none)).toArray)).run P w = .ok () w := by
    simp [eqGuard, heq]
  have h2 : (binOp .eql ta (.agg cs.toArray) (.agg (List.replicate n (.pointer none)).toArray)).run P w = .ok (.bool (cs.all nilP)) w := by
    simp only [binOp, Sem.run_bind, run_eql_nils hu he hs hn hv, Result.andThen_ok, Sem.run_pure]
  simp only [ho, hx, hy, Sem.run_bind, h1, h2, Result.andThen_ok, Sem.run_pure]
  exact hK _ _ h
/-- The world under a name, with what is known of it. -/
theorem cutW {P : Program} {c : Code} {Q : Exit → Act → World → Prop} {a : Act} {w : World} (p : World → Prop) (h0 : p w) (h : ∀ W, p W → c.wp P Q a W) : c.wp P Q a w := h w h0
end Go.Proofs.Ytmhhejpokgdjoaa
