/- A map of the program as the list of its entries: the law's list, from, one. -/
import Derived.Test.YtihmhledogppmaaDoorTrX
import Derived.Test.YtihmhledogppmaaDoorLaE
namespace Go.Proofs.YtihmhledogppmaaDoor
open Go Go.RowKit
set_option linter.unusedVariables false
set_option linter.unusedSimpArgs false

theorem list_l (b : Nat) (l : List (Nat × V)) (stop : Int) (w : World) (h : MapL w b l) (hx : l.length ≤ 5000) :
    Calls Tryd.prog 14 #[.pointer (some ⟨b, 0, none⟩), .int .i64 stop] w fun e w' =>
      ∃ es, e = .returned es ∧ Own w' w.heap.size 43 3 encL es (cutL l stop) ∧ Below w.heap.size w w' := by
  obtain ⟨t, h1, rfl⟩ := h
  exact list_any b t _ stop w h1 hx
theorem from_l (b low : Nat) (l : List (Nat × V)) (stop : Int) (w : World) (hl : low < 4294967296) (h : MapL w b l) (hx : l.length ≤ 5000) :
    Calls Tryd.prog 20 #[.pointer (some ⟨b, 0, none⟩), .int .u32 (low : Nat), .int .i64 stop] w fun e w' =>
      ∃ es, e = .returned es ∧ Own w' w.heap.size 43 3 encL es (cutL (fromL low l) stop) ∧ Below w.heap.size w w' := by
  obtain ⟨t, h1, rfl⟩ := h
  exact from_any' b low t _ stop w hl h1 (Nat.le_trans (List.length_filter_le _ _) hx)
set_option maxRecDepth 100000 in
theorem one_l (b : Nat) (l : List (Nat × V)) (x : PutL) (w : World) (h : MapL w b l) (hn : l.length ≤ 1000000) (hk : x.id < 4294967296) :
    Calls Tryd.prog 12 #[.pointer (some ⟨b, 0, none⟩), .agg (putCells x).toArray] w fun e w' =>
      ∃ b', e = .returned (.pointer (some ⟨b', 0, none⟩)) ∧ MapL w' b' (laidL x.id x.v x.gone l) ∧ Below w.heap.size w w' := by
  obtain ⟨key, v, gone⟩ := x
  have HM := Lib.hid h
  clear h
  simp only [putCells]
  cases gone with
  | true =>
    go_enter Tryd.func12, Tryd.ntmps12
    go_wp2_with (go_at_call 27; refine (drop_l b key l v _ (HM.out.ext ((Below.refl _ _).alloc (Nat.le_refl _) _)) hn hk).mono ?_; rintro e w' ⟨b', rfl, h1, h2⟩)
    go_returns
    exact ⟨b', rfl, h1, ((Below.refl _ _).alloc (Nat.le_refl _) _).trans (h2.mono (by simp))⟩
  | false =>
    go_enter Tryd.func12, Tryd.ntmps12
    go_wp2_with (go_at_call 26; refine (put_l b key l v _ (HM.out.ext ((Below.refl _ _).alloc (Nat.le_refl _) _)) hn hk).mono ?_; rintro e w' ⟨b', rfl, h1, h2⟩)
    go_returns
    exact ⟨b', rfl, h1, ((Below.refl _ _).alloc (Nat.le_refl _) _).trans (h2.mono (by simp))⟩
end Go.Proofs.YtihmhledogppmaaDoor
