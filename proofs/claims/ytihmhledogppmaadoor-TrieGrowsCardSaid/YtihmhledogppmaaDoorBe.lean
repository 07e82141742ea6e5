/- The walks of trie.below: the iterator over the entries below a node. -/
import Derived.Test.YtihmhledogppmaaDoorTrH
import Derived.Test.YtihmhledogppmaaDoorSw
namespace Go.Proofs.YtihmhledogppmaaDoor
open Go Go.RowKit
set_option linter.unusedVariables false
set_option linter.unusedSimpArgs false

def belowV (B1 B2 B3 : Nat) : Value := .func (.func 66) #[] #[.pointer (some ⟨B1, 0, none⟩), .pointer (some ⟨B2, 0, none⟩), .pointer (some ⟨B3, 0, none⟩)]
def BelowD {d : Nat} (t : Tr (d + 1)) (lv head B1 B2 B3 : Nat) (W : World) : Prop := Holds W B1 [t.ptr] ∧ Holds W B2 [.int .i64 (lv : Nat)] ∧ Holds W B3 [.int .u32 (head : Nat)] ∧ t.at W
set_option maxRecDepth 100000 in
theorem below_gives {d : Nat} (t : Tr (d + 1)) (lv head B1 B2 B3 : Nat) (hl : lv + d = 7) (hh : head + 16 ^ (d + 1) ≤ 4294967296) : Gives Tryd.prog (belowV B1 B2 B3) encE (t.ents head) (BelowD t lv head B1 B2 B3) := by
  intro Y Inv Brk W hg hD hY h0
  refine callV_func (Go.Proofs.enters_of Tryd.func66 (by kernel_rfl) rfl) ?_
  obtain ⟨h1, h2, h3, h4⟩ := hD _ _ h0
  have hc1 := h1.cell (i := 0) rfl
  have hc2 := h2.cell (i := 0) rfl
  have hc3 := h3.cell (i := 0) rfl
  rw [← fromL_zero (t.ents head)] at hY ⊢
  have hw := walk_any Y _ Inv Brk hY d t lv head 0 [] [] W hl (fun pre W h => (hD pre W h).2.2.2) (by simp) hh (by omega) h0
  have HW := Lib.hid hw
  clear hw
  show Calls Tryd.prog 66 #[Y, .pointer (some ⟨B1, 0, none⟩), .pointer (some ⟨B2, 0, none⟩), .pointer (some ⟨B3, 0, none⟩)] W _
  generalize t.ptr = pt at hc1 HW
  go_enter Tryd.func66, Tryd.ntmps66
  go_wp2_with (go_at_call 52; refine HW.out.mono ?_; rintro e W' (⟨rfl, hi⟩ | ⟨rfl, p, x, q, hpq, hb⟩))
  · go_returns
    exact ⟨⟨_, rfl⟩, .inl hi⟩
  · go_returns
    exact ⟨⟨_, rfl⟩, .inr ⟨p, x, q, by simpa using hpq, hb⟩⟩
theorem below_any (o : Option Addr) (lv head : Nat) (w : World) : Calls Tryd.prog 63 #[.pointer o, .int .i64 (lv : Nat), .int .u32 (head : Nat)] w fun e w' =>
    e = .returned (belowV w.heap.size (w.heap.size + 1) (w.heap.size + 2)) ∧ Below w.heap.size w w' ∧ Holds w' w.heap.size [.pointer o] ∧ Holds w' (w.heap.size + 1) [.int .i64 (lv : Nat)] ∧ Holds w' (w.heap.size + 2) [.int .u32 (head : Nat)] := by
  go_enter Tryd.func63, Tryd.ntmps63
  go_wp2
  go_returns
  refine ⟨rfl, ?_, ?_, ?_, ?_⟩
  · (repeat' (first | (with_reducible exact Below.refl _ _) | (with_reducible assumption) | (with_reducible refine below_drewN ?_ _) | (with_reducible refine Below.drew ?_) | (with_reducible refine Below.alloc ?_ ?_ _) | (with_reducible refine Below.setCell ?_ ?_ _) | (with_reducible exact Below.size (by assumption)) | go_size))
  · exact ((Holds.alloc w [_] _).ext ((Below.refl _ _).alloc (Nat.le_refl _) _)).ext ((Below.refl _ _).alloc (Nat.le_refl _) _)
  · have := Holds.alloc (w.alloc (.cells #[.pointer o] 77)) [.int .i64 (lv : Nat)] 3
    rw [World.size_alloc] at this
    exact this.ext ((Below.refl _ _).alloc (Nat.le_refl _) _)
  · have := Holds.alloc ((w.alloc (.cells #[.pointer o] 77)).alloc (.cells #[.int .i64 (lv : Nat)] 3)) [.int .u32 (head : Nat)] 30
    rw [World.size_alloc, World.size_alloc] at this
    exact this
end Go.Proofs.YtihmhledogppmaaDoor
