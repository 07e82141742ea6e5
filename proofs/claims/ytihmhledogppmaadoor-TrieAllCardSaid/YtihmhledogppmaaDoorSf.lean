/- The walk of the law's cut. -/
import Derived.Test.YtihmhledogppmaaDoorLaC
import Derived.Test.YtihmhledogppmaaDoorWk
import Derived.Test.YtihmhledogppmaaDoorRi
namespace Go.Proofs.YtihmhledogppmaaDoor
open Go Go.RowKit
set_option linter.unusedVariables false
set_option linter.unusedSimpArgs false

theorem cut_any (a : Option Addr) (cap : Nat) (l : List (Nat × V)) (n : Int) (w : World) (h : Rd w 3 encL (.slice a l.length cap) l) (hc : l.length ≤ cap) (hl : l.length ≤ 1099511627776) :
    Calls Tryd.prog 44 #[.slice a l.length cap, .int .i64 n] w fun e w' => ∃ r, e = .returned r ∧ Rd w' 3 encL r (cutL l n) ∧ Below w.heap.size w w' := by
  have HR := Lib.hid h
  clear h
  by_cases h0 : n < 0
  · have hcut : Hid (cutL l n = l) := Lib.hid (by simp [cutL, h0])
    go_enter Tryd.func44, Tryd.ntmps44
    go_wp2
    go_returns
    exact ⟨_, rfl, by rw [hcut.out]; exact HR.out, Below.refl _ _⟩
  · obtain ⟨k, rfl⟩ : ∃ k : Nat, n = (k : Int) := ⟨n.toNat, by omega⟩
    have hcut : Hid (cutL l (k : Int) = l.take k) := Lib.hid (by simp [cutL, h0])
    by_cases h1 : (k : Int) > (l.length : Int)
    · have hk : Hid (l.take k = l) := Lib.hid (List.take_of_length_le (by omega))
      go_enter Tryd.func44, Tryd.ntmps44
      go_wp2
      go_returns
      exact ⟨_, rfl, by rw [hcut.out, hk.out]; exact HR.out, Below.refl _ _⟩
    · have HD := Lib.hid (rd_take HR.out k (by omega) cap)
      go_enter Tryd.func44, Tryd.ntmps44
      go_wp2
      go_returns
      exact ⟨_, rfl, by rw [hcut.out]; exact HD.out, Below.refl _ _⟩
end Go.Proofs.YtihmhledogppmaaDoor
