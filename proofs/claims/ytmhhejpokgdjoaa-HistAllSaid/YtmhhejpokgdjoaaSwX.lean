/- The walks of trie.count, child, fresh, Shared. · The walks of trie.below: the iterator over the entries below a node. · An iterator's contract (Gives) as the kit's contract for a range over a function. -/
import Derived.Test.YtmhhejpokgdjoaaTrX
import Derived.Test.YtmhhejpokgdjoaaWk
import Derived.LaidEqlPtr
namespace Go.Proofs.Ytmhhejpokgdjoaa
open Go Go.RowKit
set_option linter.unusedVariables false
set_option linter.unusedSimpArgs false

theorem low_cell (f : Fin 16 → Tr 0) (i : Fin 16) : (nodeCells f)[i.val]? = some (.pointer none) := by
  unfold nodeCells
  rw [if_pos rfl, List.getElem?_append_left (by simp), List.getElem?_replicate, if_pos i.isLt]
theorem pow_le7 {d : Nat} (h : d ≤ 7) : 16 ^ d ≤ 268435456 := by
  have h1 := Nat.pow_le_pow_right (n := 16) (by decide) h
  have h2 : 16 ^ 7 = 268435456 := by decide
  omega
/-- What hangs at a digit, of no node nothing. -/
def kp {d : Nat} (a : Tr (d + 1)) (k : Fin 16) : Value := match a with
  | none => .pointer none
  | some (_, f) => (nodeCells f).getD k.val (.pointer none)
theorem child_any {d : Nat} (a : Tr (d + 1)) (k : Fin 16) (w : World) (h : a.at w) : Calls Try.prog 81 #[a.ptr, .int .i64 (k.val : Nat)] w fun e w' => e = .returned (kp a k) ∧ w = w' := by
  cases a with
  | none =>
    rw [Tr.ptr_none]
    go_enter Try.func81, Try.ntmps81
    go_wp2
    go_returns
    exact ⟨rfl, rfl⟩
  | some p =>
    obtain ⟨b, f⟩ := p
    rw [Tr.ptr_some]
    have hc : w.cell? ⟨b, k.val, none⟩ = some (kp (d := d) (some (b, f)) k) := by
      refine Holds.cell h.1 ?_
      show _ = some ((nodeCells f).getD k.val (.pointer none))
      rw [List.getD_eq_getElem?_getD, List.getElem?_eq_getElem (by rw [nodeCells_length]; omega)]
      rfl
    generalize kp (d := d) (some (b, f)) k = v at hc ⊢
    obtain ⟨k, hk⟩ := k
    dsimp only at hc ⊢
    clear h
    go_enter Try.func81, Try.ntmps81
    go_wp2
    go_returns
    exact ⟨rfl, rfl⟩
theorem eql_nil_ptr {P : Program} {tp te : TypeId} (a : Addr) (hp : P.underlying tp = some (.pointer te)) (w : World) : (binOp .eql tp (.pointer none) (.pointer (some a))).run P w = .ok (.bool false) w := by
  have h : ∀ d : Nat, (Op.equalIn (d + 1) tp (.pointer none) (.pointer (some a))).run P w = .ok false w := fun d => by
    simp [Op.equalIn, run_underlying hp]
  simp only [binOp]
  simp [Op.equal, Op.maxDepth, h 9999]
theorem info_some {P : Program} {t : TypeId} {n : Nat} (h : (P.info? t).map (·.size) = some n) : ∃ j, P.info? t = some j ∧ j.size = n := by
  cases hq : P.info? t with
  | none => rw [hq] at h; cases h
  | some j => exact ⟨j, rfl, by rw [hq] at h; simpa using h⟩
theorem eql_node {d : Nat} (a : Tr (d + 1)) (bb : Nat) (cs : List Value) (w : World) (ha : a.at w) (h : Holds w bb cs) (hne : ¬ Tr.blk a = some bb) :
    (binOp .eql 97 a.ptr (.pointer (some ⟨bb, 0, none⟩))).run Try.prog w = .ok (.bool false) w := by
  cases a with
  | none => exact eql_nil_ptr _ und_pn w
  | some p =>
    obtain ⟨ba, f⟩ := p
    obtain ⟨j, hj, hs⟩ := info_some info_node
    obtain ⟨ta, h1⟩ := ha.1
    obtain ⟨tb, h2⟩ := h
    exact run_eql_ptr_other w und_pn hj (by omega) (fun e => hne (by cases e; rfl)) h1 h2
theorem eql_self (b : Nat) (w : World) : (binOp .eql 97 (.pointer (some ⟨b, 0, none⟩)) (.pointer (some ⟨b, 0, none⟩))).run Try.prog w = .ok (.bool true) w := by
  obtain ⟨j, hj, _⟩ := info_some info_node
  exact run_eql_ptr_same w _ und_pn hj
theorem kp_kid {d : Nat} (a : Tr (d + 2)) (k : Fin 16) : kp a k = (a.kid k).ptr := by
  cases a with
  | none => rfl
  | some p =>
    obtain ⟨b, f⟩ := p
    show (nodeCells f).getD k.val (.pointer none) = (f k).ptr
    rw [List.getD_eq_getElem?_getD, kids_cell f k]
    rfl
end Go.Proofs.Ytmhhejpokgdjoaa
namespace Go.Proofs.Ytmhhejpokgdjoaa
open Go Go.RowKit
set_option linter.unusedVariables false
set_option linter.unusedSimpArgs false

def belowV (B1 B2 B3 : Nat) : Value := .func (.func 85) #[] #[.pointer (some ⟨B1, 0, none⟩), .pointer (some ⟨B2, 0, none⟩), .pointer (some ⟨B3, 0, none⟩)]
def BelowD {d : Nat} (t : Tr (d + 1)) (lv head B1 B2 B3 : Nat) (W : World) : Prop := Holds W B1 [t.ptr] ∧ Holds W B2 [.int .i64 (lv : Nat)] ∧ Holds W B3 [.int .u32 (head : Nat)] ∧ t.at W
set_option maxRecDepth 100000 in
theorem below_gives {d : Nat} (t : Tr (d + 1)) (lv head B1 B2 B3 : Nat) (hl : lv + d = 7) (hh : head + 16 ^ (d + 1) ≤ 4294967296) : Gives Try.prog (belowV B1 B2 B3) encE (t.ents head) (BelowD t lv head B1 B2 B3) := by
  intro Y Inv Brk W hg hD hY h0
  refine callV_func (Go.Proofs.enters_of Try.func85 (by kernel_rfl) rfl) ?_
  obtain ⟨h1, h2, h3, h4⟩ := hD _ _ h0
  have hc1 := h1.cell (i := 0) rfl
  have hc2 := h2.cell (i := 0) rfl
  have hc3 := h3.cell (i := 0) rfl
  rw [← fromL_zero (t.ents head)] at hY ⊢
  have hw := walk_any Y _ Inv Brk hY d t lv head 0 [] [] W hl (fun pre W h => (hD pre W h).2.2.2) (by simp) hh (by omega) h0
  have HW := Lib.hid hw
  clear hw
  show Calls Try.prog 85 #[Y, .pointer (some ⟨B1, 0, none⟩), .pointer (some ⟨B2, 0, none⟩), .pointer (some ⟨B3, 0, none⟩)] W _
  generalize t.ptr = pt at hc1 HW
  go_enter Try.func85, Try.ntmps85
  go_wp2_with (go_at_call 77; refine HW.out.mono ?_; rintro e W' (⟨rfl, hi⟩ | ⟨rfl, p, x, q, hpq, hb⟩))
  · go_returns
    exact ⟨⟨_, rfl⟩, .inl hi⟩
  · go_returns
    exact ⟨⟨_, rfl⟩, .inr ⟨p, x, q, by simpa using hpq, hb⟩⟩
theorem below_any (o : Option Addr) (lv head : Nat) (w : World) : Calls Try.prog 79 #[.pointer o, .int .i64 (lv : Nat), .int .u32 (head : Nat)] w fun e w' =>
    e = .returned (belowV w.heap.size (w.heap.size + 1) (w.heap.size + 2)) ∧ Below w.heap.size w w' ∧ Holds w' w.heap.size [.pointer o] ∧ Holds w' (w.heap.size + 1) [.int .i64 (lv : Nat)] ∧ Holds w' (w.heap.size + 2) [.int .u32 (head : Nat)] := by
  go_enter Try.func79, Try.ntmps79
  go_wp2
  go_returns
  refine ⟨rfl, ?_, ?_, ?_, ?_⟩
  · (repeat' (first | (with_reducible exact Below.refl _ _) | (with_reducible assumption) | (with_reducible refine below_drewN ?_ _) | (with_reducible refine Below.drew ?_) | (with_reducible refine Below.alloc ?_ ?_ _) | (with_reducible refine Below.setCell ?_ ?_ _) | (with_reducible exact Below.size (by assumption)) | go_size))
  · exact ((Holds.alloc w [_] _).ext ((Below.refl _ _).alloc (Nat.le_refl _) _)).ext ((Below.refl _ _).alloc (Nat.le_refl _) _)
  · have := Holds.alloc (w.alloc (.cells #[.pointer o] 97)) [.int .i64 (lv : Nat)] 3
    rw [World.size_alloc] at this
    exact this.ext ((Below.refl _ _).alloc (Nat.le_refl _) _)
  · have := Holds.alloc ((w.alloc (.cells #[.pointer o] 97)).alloc (.cells #[.int .i64 (lv : Nat)] 3)) [.int .u32 (head : Nat)] 48
    rw [World.size_alloc, World.size_alloc] at this
    exact this
end Go.Proofs.Ytmhhejpokgdjoaa
namespace Go.Proofs.Ytmhhejpokgdjoaa
open Go Go.RowKit
set_option linter.unusedVariables false

theorem callV_yield {P : Program} {l : Nat} {args : Array Value} {W : World} {m : Nat} {R : Ending → World → Prop} (h : YieldAt Fence.wide m P l args W R) : CallV P (.func (.yield l) #[] #[]) args W R := by
  obtain ⟨fn, tmps, asg, body, hy, hR⟩ := h
  refine ⟨.round l fn tmps asg body, ?_, (open_wide P).round (open_wide P) hR⟩
  simp [Deferred.ofValue, invoke, callFunc, hy]
theorem callV_calls' {P : Program} {f : FuncId} {fst cap args : Array Value} {w : World} {R : Ending → World → Prop} (he : ∀ xs w, (callFunc f xs).run P w = .ok (.enter f xs) w) (h : CallV P (.func (.func f) fst cap) args w R) :
    Calls P f (fst ++ args ++ cap) w R := by
  obtain ⟨nx, hn, h⟩ := h
  have : (do let d ← Deferred.ofValue (.func (.func f) fst cap) args; invoke d.target d.args : Sem Next).run P w = .ok (.enter f (fst ++ args ++ cap)) w := by simp [Deferred.ofValue, invoke, he]
  rw [this] at hn
  cases hn
  exact h
theorem seq_of_gives {α : Type} {P : Program} {gf : FuncId} {lb : Array Value} {enc : α → Array Value} {xs : List α} {D : World → Prop} (hG : Gives P (.func (.func gf) #[] lb) enc xs D) (he : ∀ ys w, (callFunc gf ys).run P w = .ok (.enter gf ys) w)
    {n : Nat} {w0 : World} (hD : ∀ W, Below w0.heap.size w0 W → D W) : SeqStopsK Fence.wide n P gf lb enc (Below w0.heap.size) (fun ys => ys = xs) (fun _ => True) (xs.length + 1) w0 := by
  intro l J Jx W hW hJ hJx hY h0
  have hc := hG (.func (.yield l) #[] #[]) (fun pre W1 => J pre W1 ∧ Below w0.heap.size w0 W1) Jx W
    (fun pre X X' h hb => ⟨hJ pre X X' none h.1 ⟨hb.os, hb.tape, hb.output, hb.size, fun k hk _ => hb.block k hk⟩ (fun r e => by cases e), h.2.trans (hb.mono h.2.size)⟩)
    (fun pre X h => hD X h.2)
    (fun pre x post hx X h => (callV_yield (hY pre x X h.1 (by rw [hx]; simp; omega))).mono fun e X' hr => hr.imp (fun ⟨h1, h2, h3⟩ => ⟨h1, h2, h.2.trans h3⟩) id)
    ⟨h0, hW⟩
  have hq := callV_calls' he hc
  rw [Array.empty_append] at hq
  refine (open_wide P).calls (hq.mono fun e X hr => ⟨hr.1, ?_⟩)
  rcases hr.2 with h | ⟨pre, x, post, _, h⟩
  · exact .inl ⟨xs, rfl, h.1⟩
  · exact .inr ⟨_, trivial, h⟩
end Go.Proofs.Ytmhhejpokgdjoaa
