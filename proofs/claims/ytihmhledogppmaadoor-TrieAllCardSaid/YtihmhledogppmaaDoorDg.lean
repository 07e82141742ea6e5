/- The walks of trie.Diff, differs and changes over two maps that hold the same: nothing is told. -/
import Derived.Test.YtihmhledogppmaaDoorDmX
import Derived.Test.YtihmhledogppmaaDoorDmX
import Derived.Test.YtihmhledogppmaaDoorSt
namespace Go.Proofs.YtihmhledogppmaaDoor
open Go Go.RowKit
set_option linter.unusedVariables false
set_option linter.unusedSimpArgs false

set_option maxRecDepth 100000 in
theorem diff1_same (ba bb B1 B2 : Nat) (a b : Tr 8) (fn : Fn) (fst cap : Array Value) (w : World) (ha : MapT w ba a) (hb : MapT w bb b) (h1 : Holds w B1 [.pointer (some ⟨ba, 0, none⟩)]) (h2 : Holds w B2 [.pointer (some ⟨bb, 0, none⟩)]) (hal : Alike a b) :
    Calls Tryd.prog 61 #[.func fn fst cap, .pointer (some ⟨B1, 0, none⟩), .pointer (some ⟨B2, 0, none⟩)] w fun e w' => (∃ v, e = .returned v) ∧ Below w.heap.size w w' := by
  have c1 := h1.cell (i := 0) rfl
  have c2 := h2.cell (i := 0) rfl
  have c3 := ha.map.map.cell (i := 0) rfl
  have c4 := hb.map.map.cell (i := 0) rfl
  have hd := Lib.hid (differ_same fn fst cap 7 a b 0 0 w.drew (by omega) (Tr.at_ext (Below.refl _ _).drew ha.map.tree) (Tr.at_ext (Below.refl _ _).drew hb.map.tree) ha.cl hb.cl hal (by decide))
  generalize a.ptr = pa at *
  generalize b.ptr = pb at *
  clear ha hb h1 h2 hal
  go_enter Tryd.func61, Tryd.ntmps61
  refine rgn [0, 1, 2, 3, 4, 5, 6, 7, 8, 9] [] (by kernel_rfl) ?_
  simp only [pickL, List.getD_cons_zero, List.getD_cons_succ]
  go_wp2_with (go_at_call 62; refine hd.out.mono ?_; rintro e w1 ⟨rfl, hb1⟩)
  refine ⟨rfl, ?_⟩
  go_wp2
  go_returns
  exact ⟨⟨_, rfl⟩, below_of_drew hb1⟩
set_option maxRecDepth 100000 in
set_option maxHeartbeats 800000 in
theorem differs_same (ba bb : Nat) (a b : Tr 8) (w : World) (ha : MapT w ba a) (hb : MapT w bb b) (hal : Alike a b) :
    Calls Tryd.prog 35 #[.pointer (some ⟨ba, 0, none⟩), .pointer (some ⟨bb, 0, none⟩), .int .i64 (-1), .int .i64 5000] w fun e w' => e = .returned (.slice none 0 0) ∧ Below w.heap.size w w' := by
  have hE : ∀ x y w, (binOp .eql 113 (.func (.func 61) #[] #[.pointer (some ⟨x, 0, none⟩), .pointer (some ⟨y, 0, none⟩)]) .nilFunc).run Tryd.prog w = .ok (.bool false) w := fun x y w => run_eql_func (P := Tryd.prog) (t := 113) (by kernel_rfl) _ _ _ w
  have HA := Lib.hid ha
  have HB := Lib.hid hb
  have HAL := Lib.hid hal
  clear ha hb hal
  go_enter Tryd.func35, Tryd.ntmps35
  go_wp2_with fail
  refine (diff_any ba bb w).mono ?_
  rintro e w1 ⟨rfl, hb1, h1, h2⟩
  have A1 := HA.out.ext hb1
  have B1 := HB.out.ext hb1
  have hal0 := Holds.alloc w1 (tkCells (.slice none 0 0) (.slice none 0 0) (-1) 5000 0 false false) 109
  have hbal : Below w1.heap.size w1 (w1.alloc (.cells (tkCells (.slice none 0 0) (.slice none 0 0) (-1) 5000 0 false false).toArray 109)) := (Below.refl _ _).alloc (Nat.le_refl _) _
  have hc := diff1_same ba bb w.heap.size (w.heap.size + 1) a b (.func 55) #[.pointer (some ⟨w1.heap.size, 0, none⟩)] #[] _ (A1.ext hbal) (B1.ext hbal) (h1.ext hbal) (h2.ext hbal) HAL.out
  have HC := Lib.hid hc
  have HT := Lib.hid hal0
  have HW := Lib.hid hbal
  have hsz := Lib.hid hb1
  clear A1 B1 hal0 hbal hc h1 h2 HA HB HAL hb1
  unfold diffV
  go_wp2_with fail
  refine HC.out.mono ?_
  rintro e w2 ⟨⟨v, rfl⟩, hb2⟩
  have hT2 := HT.out.ext hb2
  have c1 := hT2.cell (i := 1) rfl
  have c6 := hT2.cell (i := 6) rfl
  have G := Lib.hid (hsz.out.trans ((HW.out.trans (hb2.mono (by simp))).mono hsz.out.size))
  clear hT2 hb2 HT HW hsz HC
  go_wp2
  go_returns
  exact ⟨rfl, G.out⟩
theorem changes_same (ba bb : Nat) (a b : Tr 8) (w : World) (ha : MapT w ba a) (hb : MapT w bb b) (hal : Alike a b) :
    Calls Tryd.prog 25 #[.pointer (some ⟨ba, 0, none⟩), .pointer (some ⟨bb, 0, none⟩), .int .i64 (-1)] w fun e w' => e = .returned (.slice none 0 0) ∧ Below w.heap.size w w' := by
  have hd := Lib.hid (differs_same ba bb a b w ha hb hal)
  clear ha hb hal
  go_enter Tryd.func25, Tryd.ntmps25
  go_wp2_with (go_at_call 35; refine hd.out.mono ?_; rintro e w1 ⟨rfl, hb1⟩)
  go_returns
  exact ⟨rfl, hb1⟩
/-- The same entries: the same at every key. -/
theorem alike_of {a b : Tr 8} (h : a.ents 0 = b.ents 0) : Alike a b := by
  intro k
  rw [← Tr.get_mod a, ← Tr.get_mod b]
  have hk : k % 16 ^ 8 < 4294967296 := Nat.mod_lt _ (by decide)
  rw [← look_ents a _ hk, ← look_ents b _ hk, h]
end Go.Proofs.YtihmhledogppmaaDoor
