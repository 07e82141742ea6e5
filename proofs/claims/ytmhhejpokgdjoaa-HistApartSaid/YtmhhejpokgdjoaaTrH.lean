/- The walks of trie.From, All: the iterators and what they give. -/
import Derived.Test.YtmhhejpokgdjoaaTrG
namespace Go.Proofs.Ytmhhejpokgdjoaa
open Go Go.RowKit
set_option linter.unusedVariables false
set_option linter.unusedSimpArgs false

/-- The closure that From makes: its two variables' blocks. -/
def fromV (B1 B2 : Nat) : Value := .func (.func 76) #[] #[.pointer (some ⟨B1, 0, none⟩), .pointer (some ⟨B2, 0, none⟩)]
def FromD (b low : Nat) (t : Tr 8) (B1 B2 : Nat) (W : World) : Prop := Holds W B1 [.pointer (some ⟨b, 0, none⟩)] ∧ Holds W B2 [.int .u32 (low : Nat)] ∧ ∃ n, MapAt W b t n
theorem FromD.ext {b low : Nat} {t : Tr 8} {B1 B2 : Nat} {W W' : World} (h : FromD b low t B1 B2 W) (hb : Below W.heap.size W W') : FromD b low t B1 B2 W' := by
  obtain ⟨h1, h2, n, h3⟩ := h
  exact ⟨h1.ext hb, h2.ext hb, n, h3.ext hb⟩
set_option maxRecDepth 100000 in
theorem from_gives (b low : Nat) (t : Tr 8) (B1 B2 : Nat) (hl : low < 4294967296) : Gives Try.prog (fromV B1 B2) encE (fromL low (t.ents 0)) (FromD b low t B1 B2) := by
  intro Y Inv Brk W hg hD hY h0
  refine callV_func (Go.Proofs.enters_of Try.func76 (by kernel_rfl) rfl) ?_
  obtain ⟨h1, h2, n, h3⟩ := hD _ _ h0
  have hc1 := h1.cell (i := 0) rfl
  have hc2 := h2.cell (i := 0) rfl
  have hc3 := h3.map.cell (i := 0) rfl
  have hw := walk_any Y _ Inv Brk hY 7 t 0 0 low [] [] W.drew (by omega) (fun pre W h => (hD pre W h).2.2.choose_spec.tree) (by simp) (by omega) hl (hg _ _ _ h0 ((Below.refl _ _).drew))
  have HW := Lib.hid hw
  clear hw
  show Calls Try.prog 76 #[Y, .pointer (some ⟨B1, 0, none⟩), .pointer (some ⟨B2, 0, none⟩)] W _
  go_enter Try.func76, Try.ntmps76
  refine rgn [0, 1, 2, 3, 4, 5, 6] [] (by kernel_rfl) ?_
  simp only [pickL, List.getD_cons_zero, List.getD_cons_succ]
  go_wp2_with (go_at_call 77; refine HW.out.mono ?_; rintro e W' (⟨rfl, hi⟩ | ⟨rfl, p, x, q, hpq, hb⟩))
  · refine ⟨rfl, ?_⟩
    go_wp2
    go_returns
    exact ⟨⟨_, rfl⟩, .inl hi⟩
  · refine ⟨rfl, ?_⟩
    go_wp2
    go_returns
    exact ⟨⟨_, rfl⟩, .inr ⟨p, x, q, by simpa using hpq, hb⟩⟩
theorem from_any (b low : Nat) (w : World) : Calls Try.prog 65 #[.pointer (some ⟨b, 0, none⟩), .int .u32 (low : Nat)] w fun e w' =>
    e = .returned (fromV w.heap.size (w.heap.size + 1)) ∧ Below w.heap.size w w' ∧ Holds w' w.heap.size [.pointer (some ⟨b, 0, none⟩)] ∧ Holds w' (w.heap.size + 1) [.int .u32 (low : Nat)] := by
  go_enter Try.func65, Try.ntmps65
  go_wp2
  go_returns
  refine ⟨rfl, ?_, ?_, ?_⟩
  · (repeat' (first | (with_reducible exact Below.refl _ _) | (with_reducible assumption) | (with_reducible refine below_drewN ?_ _) | (with_reducible refine Below.drew ?_) | (with_reducible refine Below.alloc ?_ ?_ _) | (with_reducible refine Below.setCell ?_ ?_ _) | (with_reducible exact Below.size (by assumption)) | go_size))
  · exact (Holds.alloc w [_] _).ext ((Below.refl _ _).alloc (Nat.le_refl _) _)
  · have := Holds.alloc (w.alloc (.cells #[.pointer (some ⟨b, 0, none⟩)] 29)) [.int .u32 (low : Nat)] 48
    simpa using this
theorem all_any (b : Nat) (w : World) : Calls Try.prog 38 #[.pointer (some ⟨b, 0, none⟩)] w fun e w' =>
    e = .returned (fromV w.heap.size (w.heap.size + 1)) ∧ Below w.heap.size w w' ∧ Holds w' w.heap.size [.pointer (some ⟨b, 0, none⟩)] ∧ Holds w' (w.heap.size + 1) [.int .u32 ((0 : Nat) : Int)] := by
  go_enter Try.func38, Try.ntmps38
  go_wp2_with (go_at_call 65; refine (from_any b 0 _).mono ?_; rintro e w' ⟨rfl, h1, h2, h3⟩)
  go_returns
  exact ⟨rfl, h1, h2, h3⟩
end Go.Proofs.Ytmhhejpokgdjoaa
