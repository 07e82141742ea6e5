/- trie.differ where the first tree has no node: a range over below. -/
import Derived.Test.YtihmhledogppmaaDoorDi
import Derived.Test.YtihmhledogppmaaDoorRf
import Derived.RangeFuncNested
import Derived.RangeFuncBound
import Derived.RangeFuncCalls
import Derived.RangeFuncLeaves
namespace Go.Proofs.YtihmhledogppmaaDoor
open Go Go.RowKit
set_option linter.unusedVariables false
set_option linter.unusedSimpArgs false
attribute [local go_sem] Oper.semAt_some

/-- What a yield owes at whatever it is handed, no more than N of them: it leaves alone the blocks of Q and whatever is no cells. -/
def YdN {α : Type} (P : Program) (Y : Value) (enc : α → Array Value) (N : Nat) (Inv Brk : List α → (Nat → Prop) → World → Prop) : Prop :=
  ∀ pre x Q W, pre.length < N → Inv pre Q W →
    CallV P Y (enc x) W fun e W' => FrQ Q W W' ∧ KeepsOthers W W' ∧ ((e = .returned (.bool true) ∧ Inv (pre ++ [x]) Q W') ∨ (e = .returned (.bool false) ∧ Brk (pre ++ [x]) Q W'))
theorem YdN.ydF {α : Type} {P : Program} {Y : Value} {enc : α → Array Value} {N : Nat} {xs : List α} {Inv Brk : List α → (Nat → Prop) → World → Prop} (h : YdN P Y enc N Inv Brk) (hx : xs.length ≤ N) : YdF P Y enc xs Inv Brk := by
  intro pre x post hxs Q W hi
  refine (h pre x Q W (by rw [hxs] at hx; simp at hx; omega) hi).mono ?_
  rintro e W' ⟨h1, _, h2⟩
  exact ⟨h1.1, h1.2, h2⟩
theorem ownFrom_frQ {β : Type} {Q : Nat → Prop} {w : World} {B : Nat} (hQ : ∀ k, Q k → k < w.heap.size) (hB : w.heap.size ≤ B) : OwnFrom B (fun (_ : β) W => FrQ Q w W) := fun s X Y row hs hg hr =>
  ⟨fun k hk => (hg.block k (by have := hQ k hk; have := hs.2; omega) (fun e => by have := (hr k e.symm).1; have := hQ k hk; omega)).trans (hs.1 k hk), Nat.le_trans hs.2 hg.size⟩
theorem FrQ.alloc {Q : Nat → Prop} {w w' : World} (h : FrQ Q w w') (o : Obj) (hQ : ∀ k, Q k → k < w.heap.size) : FrQ Q w (w'.alloc o) := by
  refine ⟨fun k hk => ?_, by have := h.2; simp; omega⟩
  exact (Below.heap_alloc w' o k (by have := hQ k hk; have := h.2; omega)).trans (h.1 k hk)
theorem Holds.same {w w' : World} {b : Nat} {cs : List Value} (h : Holds w b cs) (he : w'.heap[b]? = w.heap[b]?) : Holds w' b cs := by
  obtain ⟨ty, h1⟩ := h
  exact ⟨ty, he.trans h1⟩
theorem Holds.isCells {w : World} {b : Nat} {cs : List Value} (h : Holds w b cs) {o : Obj} (ho : w.heap[b]? = some o) : o.isCells = true := by
  obtain ⟨ty, h1⟩ := h
  rw [h1] at ho
  cases ho
  rfl
theorem Holds.own {w w' : World} {b : Nat} {cs : List Value} {row : Option Nat} (h : Holds w b cs) (hg : w.grownBy w' row) (hr : ∀ r, row = some r → ∃ o : Obj, w.heap[r]? = some o ∧ o.isCells = false) : Holds w' b cs :=
  h.same (grownBy_keeps_cells hg hr (Array.getElem?_eq_getElem h.lt) (h.isCells (Array.getElem?_eq_getElem h.lt)))
/-- An iterator's contract, where a round keeps the blocks of Q alone. -/
theorem seq_of_givesQ {α : Type} {P : Program} {gf : FuncId} {lb : Array Value} {enc : α → Array Value} {xs : List α} {D : World → Prop} (hG : Gives P (.func (.func gf) #[] lb) enc xs D) (he : ∀ ys w, (callFunc gf ys).run P w = .ok (.enter gf ys) w)
    {n : Nat} {w0 : World} {Q : Nat → Prop} (hQ : ∀ k, Q k → k < w0.heap.size) (hD : ∀ W, FrQ Q w0 W → D W) : SeqStopsK Fence.wide n P gf lb enc (FrQ Q) (fun ys => ys = xs) (fun ys => ∃ p x q, xs = p ++ x :: q ∧ ys = p ++ [x]) xs.length w0 := by
  intro l J Jx W hW hJ hJx hY h0
  have hc := hG (.func (.yield l) #[] #[]) (fun pre W1 => J pre W1 ∧ FrQ Q w0 W1) Jx W
    (fun pre X X' h hb => ⟨hJ pre X X' none h.1 ⟨hb.os, hb.tape, hb.output, hb.size, fun k hk _ => hb.block k hk⟩ (fun r e => by cases e), h.2.trans ⟨fun k hk => hb.block k (by have := hQ k hk; have := h.2.2; omega), hb.size⟩⟩)
    (fun pre X h => hD X h.2)
    (fun pre x post hx X h => (callV_yield (hY pre x X h.1 (by rw [hx]; simp))).mono fun e X' hr => hr.imp (fun ⟨h1, h2, h3⟩ => ⟨h1, h2, h.2.trans h3⟩) id)
    ⟨h0, ⟨fun k hk => hW.block k (hQ k hk), hW.size⟩⟩
  have hq := callV_calls' he hc
  rw [Array.empty_append] at hq
  refine (open_wide P).calls (hq.mono fun e X hr => ⟨hr.1, ?_⟩)
  rcases hr.2 with h | ⟨pre, x, post, hp, h⟩
  · exact .inl ⟨xs, rfl, h.1⟩
  · exact .inr ⟨_, ⟨pre, x, post, hp, rfl⟩, h⟩
def dnTmps (bb lv head wsz B B1 B2 : Nat) (fn : Fn) (fst cap : Array Value) (x : Nat × V) (Bx : Nat) : Array Value := #[.pointer none, .pointer (some ⟨bb, 0, none⟩), .int .i64 (lv : Nat), .int .u32 (head : Nat), .func fn fst cap, undef, undef, undef, undef, .pointer (some ⟨wsz, 0, none⟩), .pointer (some ⟨wsz + 1, 0, none⟩), .int .u32 (x.1 : Nat), .pointer (some ⟨Bx, 0, none⟩), undef, undef, undef, undef, undef, undef, undef, .pointer none, .pointer (some ⟨bb, 0, none⟩), .bool false, .pointer none, .bool true, .pointer (some ⟨bb, 0, none⟩), .int .i64 (lv : Nat), .int .u32 (head : Nat), belowV B B1 B2, .int .u32 (x.1 : Nat), .agg #[.int .i64 x.2.k, .int .i64 x.2.n], undef, undef, undef, undef, undef, undef, undef, undef, undef, undef, undef, undef, undef, undef, undef, undef, undef, undef, undef, undef, undef, undef, undef, undef, undef, undef, undef, undef, undef, undef, undef, undef, undef, undef, undef, undef, undef, undef, undef, undef, undef, undef, undef, undef, undef, undef, undef, undef, undef, undef, undef, undef, undef, undef, undef]
def newCh (e : Nat × V) : Ch := (e.1, none, some e.2)
set_option maxRecDepth 100000 in
set_option maxHeartbeats 4000000 in
theorem nil_F (fn : Fn) (fst cap : Array Value) (xs : List Ch) (N : Nat) (hN : xs.length ≤ N) (Inv Brk : List Ch → (Nat → Prop) → World → Prop) (hY : YdN Tryd.prog (.func fn fst cap) chE N Inv Brk) (hI : Abide Inv) (hK : Abide Brk)
    (hIo : ∀ Q, Go.Own (fun pre W => Inv pre Q W)) (hKo : ∀ Q, Go.Own (fun pre W => Brk pre Q W)) : NilF fn fst cap xs Inv Brk := by
  intro d lv bb b head pre post Q w hlv hbp hQ hb hbQ hx hh h0
  rw [difs_nil] at hx ⊢
  obtain ⟨b0, r0, c0⟩ := two_blocks w [.func fn fst cap] [.bool false] 115 4
  have B0 := Lib.hid b0
  have R0 := Lib.hid r0
  have C0 := Lib.hid c0
  have HB := Lib.hid hb
  have HBQ := Lib.hid hbQ
  have HX := Lib.hid hx
  have HQ := Lib.hid hQ
  have H0 := Lib.hid h0
  have e1 := fun W => eql_nn (w := W) und_pn
  have e2 : ∀ W, (binOp .eql 77 (.pointer none) (.pointer (some ⟨bb, 0, none⟩))).run Tryd.prog W = .ok (.bool false) W := fun W => eql_nil_ptr _ und_pn W
  clear b0 r0 c0 hb hbQ hx h0 hQ
  refine (callsIn_wide (n := 3)).1 (callsIn_of_wp_marks Tryd.func62 rfl trivial ?_)
  simp only [Tryd.ntmps62, List.size_toArray, List.length_cons, List.length_nil, Nat.reduceAdd, Nat.reduceSub, Array.replicate_succ, Array.replicate_zero, List.push_toArray, List.append_toArray, List.nil_append, List.cons_append]
  gi_wp2_with fail
  refine ⟨trivial, (open_wide _).calls ((below_any (some ⟨bb, 0, none⟩) lv head _).mono ?_)⟩
  rintro e W1 ⟨rfl, hb1, hv1, hv2, hv3⟩
  obtain ⟨W0, hW0⟩ : ∃ W0, W0 = (w.alloc (.cells #[.func fn fst cap] 115)).alloc (.cells #[.bool false] 4) := ⟨_, rfl⟩
  have hsz0 : W0.heap.size = w.heap.size + 2 := by rw [hW0]; simp
  rw [← hW0] at hb1 hv1 hv2 hv3 ⊢
  rw [hsz0] at hv1 hv2 hv3 ⊢
  have B0' := B0.out
  have R0' := R0.out
  have C0' := C0.out
  rw [show [Value.func fn fst cap].toArray = #[.func fn fst cap] from rfl, show [Value.bool false].toArray = #[.bool false] from rfl, ← hW0] at B0'
  rw [← hW0] at R0' C0'
  clear B0 R0 C0 hW0
  have hbw : Below w.heap.size w W1 := B0'.trans (hb1.mono B0'.size)
  have hR1 : Holds W1 w.heap.size [.func fn fst cap] := R0'.ext hb1
  have hC1 : Holds W1 (w.heap.size + 1) [.bool false] := C0'.ext hb1
  obtain ⟨Q1, hQ1⟩ : ∃ Q1 : Nat → Prop, Q1 = fun k => Q k ∨ (w.heap.size ≤ k ∧ k < W1.heap.size) := ⟨_, rfl⟩
  have hI1 : Inv pre Q1 W1 := by rw [hQ1]; exact hI.below H0.out hbw
  have hq1 : ∀ j, Q j → Q1 j := fun j hj => by rw [hQ1]; exact .inl hj
  have hqn : ∀ j, w.heap.size ≤ j → j < W1.heap.size → Q1 j := fun j h1 h2 => by rw [hQ1]; exact .inr ⟨h1, h2⟩
  have hQ1s : ∀ k, Q1 k → k < W1.heap.size := fun k hk => by
    rw [hQ1] at hk
    rcases hk with hk | hk
    · have := HQ.out k hk; have := hbw.size; omega
    · exact hk.2
  have hFw : FrQ Q w W1 := FrQ.below hbw HQ.out
  have hD : ∀ W, FrQ Q1 W1 W → BelowD b lv head (w.heap.size + 2) ((w.heap.size + 2) + 1) ((w.heap.size + 2) + 2) W := by
    intro W hF
    refine ⟨?_, ?_, ?_, ?_⟩
    · rw [hbp]; exact hF.holds (hqn _ (by omega) hv1.lt) hv1
    · exact hF.holds (hqn _ (by omega) hv2.lt) hv2
    · exact hF.holds (hqn _ (by omega) hv3.lt) hv3
    · exact (hFw.trans (hF.less hq1)).tree HB.out HBQ.out
  have hes : (xs.length : Nat) = pre.length + ((b.ents head).length + post.length) := by rw [HX.out]; simp
  have he := enters_of (P := Tryd.prog) Tryd.func66 (by kernel_rfl) rfl
  gi_wp2_with fail
  refine wpIn_rangeFunc_ownH (F := Fence.wide) rfl (by decide) (gf := 66) (lb := #[.pointer (some ⟨(w.heap.size + 2), 0, none⟩), .pointer (some ⟨(w.heap.size + 2) + 1, 0, none⟩), .pointer (some ⟨(w.heap.size + 2) + 2, 0, none⟩)]) rfl trivial he
    (seq_of_givesQ (below_gives b lv head _ _ _ hlv hh) he hQ1s hD) (fun h k => h.trans k) ?hkb (Below.refl _ _) (fun _ => rfl)
    (fun ys W => FrQ Q1 W1 W ∧ Inv (pre ++ ys.map newCh) Q1 W)
    (fun c ys W => c = .ret ∧ FrQ Q w W ∧ Holds W (w.heap.size + 1) [.bool false] ∧ Brk (pre ++ ys.map newCh) Q W)
    ?hI ?hIx ⟨FrQ.refl _ _, by simpa using hI1⟩
    (fun x a' W => ∃ Bx, Holds W Bx (vCells x.2) ∧ a' = { tmps := dnTmps bb lv head w.heap.size (w.heap.size + 2) ((w.heap.size + 2) + 1) ((w.heap.size + 2) + 2) fn fst cap x Bx, defers := [] }) ?hAx ?assign ?body ?done ?stop
  case hkb => exact fun W l o o' hl ho _ _ => ⟨fun k hk => World.putObj_heap_other (by have := hQ1s k hk; omega), by simp⟩
  case hI =>
    rintro ys W W' row ⟨h1, h2⟩ hg hr
    exact ⟨ownFrom_frQ hQ1s (Nat.le_refl _) () W W' row h1 hg hr, hIo Q1 _ W W' row h2 hg (fun r e => (hr r e).2)⟩
  case hIx =>
    rintro c ys W W' row ⟨h1, h2, h3, h4⟩ hg hr
    exact ⟨h1, ownFrom_frQ HQ.out hbw.size () W W' row h2 hg hr, h3.own hg (fun r e => (hr r e).2), hKo Q _ W W' row h4 hg (fun r e => (hr r e).2)⟩
  case hAx =>
    rintro x a' _ W W' row ⟨Bx, h1, h2⟩ hg hr
    exact ⟨Bx, h1.own hg (fun r e => (hr r e).2), h2⟩
  case assign =>
    rintro l ys x W K ⟨hF, hi⟩ hK
    unfold encE
    gi_wp2
    refine hK _ _ ((KeepsOthers.alloc _ _).from _) (FrQ.alloc (FrQ.refl _ _) _ (fun k hk => by have := hQ1s k hk; have := hF.2; omega)) ⟨hF.alloc _ hQ1s, hI.less _ _ _ _ (hI.below hi ((Below.refl _ _).alloc (Nat.le_refl _) _)) (fun j hj => .inl hj)⟩ ⟨W.heap.size, Holds.alloc W (vCells x.2) 32, rfl⟩
  case body =>
    rintro l ys x a' W hl ⟨r, hr⟩ ⟨hF, hi⟩ ⟨Bx, hBx, rfl⟩ hlt
    have hRl : Holds W w.heap.size [.func fn fst cap] := hF.holds (hqn _ (by omega) hR1.lt) hR1
    have hCl : Holds W (w.heap.size + 1) [.bool false] := hF.holds (hqn _ (by omega) hC1.lt) hC1
    have hto := told_any x.1 (none : Option (Nat × V)) (some (Bx, x.2) : Option (Nat × V)) W trivial hBx
    rw [val0_none, val0_some] at hto
    simp only [chCells] at hto
    have HTO := Lib.hid hto
    have HF := Lib.hid hF
    have HI := Lib.hid hi
    unfold dnTmps
    gi_wp2_with fail
    refine ⟨trivial, (open_round _ l).calls (HTO.out.mono ?_)⟩
    rintro e w2 ⟨rfl, hb2⟩
    have hz : Below W.heap.size W (w2.alloc (.cells (chCells x.1 none (some x.2)).toArray 64)) := hb2.alloc hb2.size _
    have hIz := hI.less _ _ Q1 _ (hI.below HI.out hz) (fun j hj => .inl hj)
    have hyc := hY _ (x.1, none, some x.2) _ _ (by simp; omega) hIz
    have hyR : (w2.alloc (.cells (chCells x.1 none (some x.2)).toArray 64)).cell? ⟨w.heap.size, 0, none⟩ = some (.func fn fst cap) := (hRl.ext hz).cell (i := 0) rfl
    have hyR2 : w2.cell? ⟨w.heap.size, 0, none⟩ = some (.func fn fst cap) := (hRl.ext hb2).cell (i := 0) rfl
    have hlt2 : w.heap.size < w2.heap.size := Nat.lt_of_lt_of_le hRl.lt hb2.size
    have HZ := Lib.hid hz
    have HYC := Lib.hid hyc
    have hCz : ∀ W', FrQ Q1 (w2.alloc (.cells (chCells x.1 none (some x.2)).toArray 64)) W' → Holds W' (w.heap.size + 1) [.bool false] := fun W' h => h.holds (hqn _ (by omega) hC1.lt) (hCl.ext hz)
    have hFz : FrQ Q1 W (w2.alloc (.cells (chCells x.1 none (some x.2)).toArray 64)) := ⟨fun k hk => hz.block k (by have := hQ1s k hk; have := HF.out.2; omega), hz.size⟩
    have hoz : KeepsOthers W (w2.alloc (.cells (chCells x.1 none (some x.2)).toArray 64)) := ⟨hz.size, fun k o hk _ => (hz.block k (Array.getElem?_eq_some_iff.1 hk).1).trans hk⟩
    have HCZ := Lib.hid hCz
    have HFZ := Lib.hid hFz
    have HOZ := Lib.hid hoz
    clear hz hyc hIz hb2 HTO hCl hCz hFz hoz
    gi_wp2_with (refine wpListIn_callV (open_round _ l) rfl _ _ _ rfl (vs := chE (x.1, none, some x.2)) rfl (by simp [chE, chCells, Act.eval]) ?_; refine HYC.out.mono ?_; rintro e W' ⟨hfr, hko, hor⟩; have hC' := HCZ.out W' hfr; have cc := hC'.cell (i := 0) rfl; have cf := hC'.free 0; have HC' := Lib.hid hC'; have HFr := Lib.hid (HFZ.out.trans hfr); have HKo := Lib.hid (HOZ.out.trans hko); clear hfr hko hC'; rcases hor with ⟨rfl, hi⟩ | ⟨rfl, hbk⟩)
    · exact ⟨HKo.out.from _, HFr.out, HF.out.trans HFr.out, by rw [List.map_append, ← List.append_assoc]; exact hi⟩
    · have hd := HC'.out.setCell (i := 0) (.bool false)
      have hu := Upd.setCell (w := W') (g := w.heap.size + 1) (i := 0) (.bool false)
      have hF3 : FrQ Q w (W'.setCell ⟨w.heap.size + 1, 0, none⟩ (.bool false)) := hFw.trans (((HF.out.trans HFr.out).less hq1).trans ⟨fun j hj => hu.block j (fun e => by have := HQ.out j hj; omega), Nat.le_of_eq hu.size.symm⟩)
      have hb3 := hK.less _ _ Q _ (hK.upd hbk hu (hqn _ (by omega) hC1.lt)) hq1
      exact ⟨(HKo.out.trans (KeepsOthers.setCell _ _ _)).from _, rfl, hF3, hd, by rw [List.map_append, ← List.append_assoc]; exact hb3⟩
  case done =>
    rintro D ys W hD rfl ⟨hF, hi⟩ hKd
    have hCl : Holds W (w.heap.size + 1) [.bool false] := hF.holds (hqn _ (by omega) hC1.lt) hC1
    have cc := hCl.cell (i := 0) rfl
    have cf := hCl.free 0
    have hd := hCl.setCell (i := 0) (.bool true)
    have hu := Upd.setCell (w := W) (g := w.heap.size + 1) (i := 0) (.bool true)
    have hKd' : (W.setCell ⟨w.heap.size + 1, 0, none⟩ (.bool true)).heap[D]? = some (.deferred (some [])) := (hu.block D (by have := hC1.lt; omega)).trans hKd
    have hKD := Lib.hid hKd'
    have hcc := (hd.same (w' := (W.setCell ⟨w.heap.size + 1, 0, none⟩ (.bool true)).putObj D (.deferred none)) (World.putObj_heap_other (by have := hC1.lt; omega))).cell (i := 0) rfl
    have hI2 := hI.less _ _ Q _ (hI.upd hi hu (hqn _ (by omega) hC1.lt)) hq1
    have hI3 := Go.Own.putObj (hIo Q) (.deferred none) hI2 hKd' rfl
    have hF3 : FrQ Q w ((W.setCell ⟨w.heap.size + 1, 0, none⟩ (.bool true)).putObj D (.deferred none)) := hFw.trans ((hF.less hq1).trans ⟨fun j hj => (World.putObj_heap_other (by have := HQ.out j hj; have := hbw.size; omega)).trans (hu.block j (fun e => by have := HQ.out j hj; omega)), by simp [hu.size]⟩)
    have HI3 := Lib.hid hI3
    have HF3 := Lib.hid hF3
    have HCC := Lib.hid hcc
    clear hI2 hI3 hF3 hcc hKd' hKd hu hd
    gi_wp2
    refine ⟨by simp, .inl ⟨_, _, rfl, run_takeDeferred hKD.out, ?_⟩⟩
    exact ⟨.bool true, by simp [results, Tryd.results62, go_sem, HCC.out], HF3.out, .inl ⟨rfl, HI3.out⟩⟩
  case stop =>
    rintro D c ys W hD ⟨p, x, q, hpq, rfl⟩ ⟨rfl, hF, hC, hbk⟩ hKd
    have hcc := (hC.same (w' := W.putObj D (.deferred none)) (World.putObj_heap_other (by have := hC1.lt; omega))).cell (i := 0) rfl
    have hI3 := Go.Own.putObj (hKo Q) (.deferred none) hbk hKd rfl
    have hF3 : FrQ Q w (W.putObj D (.deferred none)) := hF.trans ⟨fun j hj => World.putObj_heap_other (by have := HQ.out j hj; have := hbw.size; omega), by simp⟩
    gi_wp2
    refine ⟨by simp, .inl ⟨_, _, rfl, run_takeDeferred hKd, ?_⟩⟩
    refine ⟨.bool false, by simp [results, Tryd.results62, go_sem, hcc], hF3, .inr ⟨rfl, p.map newCh, newCh x, q.map newCh, ?_, ?_⟩⟩
    · rw [hpq, List.map_append]; rfl
    · rw [List.map_append, ← List.append_assoc] at hI3; exact hI3
end Go.Proofs.YtihmhledogppmaaDoor
