/- The walks of trie.Diff's iterator, differs and changes over any two maps: what is told is difs. -/
import Derived.Test.YtihmhledogppmaaDoorTd
import Derived.Test.YtihmhledogppmaaDoorDg
import Derived.Test.YtihmhledogppmaaDoorDmX
namespace Go.Proofs.YtihmhledogppmaaDoor
open Go Go.RowKit
set_option linter.unusedVariables false
set_option linter.unusedSimpArgs false

set_option maxRecDepth 100000 in
set_option maxHeartbeats 800000 in
theorem differs_gen (ba bb : Nat) (a b : Tr 8) (stop most : Int) (hs : stop ≠ 0) (hm : ((difs a b 0).length : Int) ≤ most ∨ (0 < stop ∧ stop ≤ most)) (w : World) (ha : MapT w ba a) (hb : MapT w bb b) (hN : (difs a b 0).length ≤ 8589934600) :
    Calls Tryd.prog 35 #[.pointer (some ⟨ba, 0, none⟩), .pointer (some ⟨bb, 0, none⟩), .int .i64 stop, .int .i64 most] w fun e w' => ∃ cs, e = .returned cs ∧ Own w' w.heap.size 64 7 encC cs (cutL (difs a b 0) stop) ∧ Below w.heap.size w w' := by
  have hE : ∀ x y w, (binOp .eql 113 (.func (.func 61) #[] #[.pointer (some ⟨x, 0, none⟩), .pointer (some ⟨y, 0, none⟩)]) .nilFunc).run Tryd.prog w = .ok (.bool false) w := fun x y w => run_eql_func (P := Tryd.prog) (t := 113) (by kernel_rfl) _ _ _ w
  have hq : (stop == 0) = false := by simpa using hs
  have HA := Lib.hid ha
  have HB := Lib.hid hb
  have HN := Lib.hid hN
  have HS := Lib.hid hs
  have HM := Lib.hid hm
  clear ha hb hN hs hm
  go_enter Tryd.func35, Tryd.ntmps35
  go_wp2_with fail
  refine (diff_any ba bb w).mono ?_
  rintro e w1 ⟨rfl, hb1, h1, h2⟩
  have A1 := HA.out.ext hb1
  have B1 := HB.out.ext hb1
  have hal0 := Holds.alloc w1 (tkCells (.slice none 0 0) (.slice none 0 0) stop most 0 false false) 109
  have hbal : Below w1.heap.size w1 (w1.alloc (.cells (tkCells (.slice none 0 0) (.slice none 0 0) stop most 0 false false).toArray 109)) := (Below.refl _ _).alloc (Nat.le_refl _) _
  obtain ⟨W2, hW2⟩ : ∃ W2, W2 = w1.alloc (.cells (tkCells (.slice none 0 0) (.slice none 0 0) stop most 0 false false).toArray 109) := ⟨_, rfl⟩
  have hal : ∀ {d : Nat} {t : Tr d}, t.at w1 → t.all (fun k => k < w1.heap.size) := fun h => Tr.at_all h
  have hc := diff1_F ba bb w.heap.size (w.heap.size + 1) a b _ _ (.func 55) #[.pointer (some ⟨w1.heap.size, 0, none⟩)] #[] 8589934600 HN.out _ _ 0 (change_yd w1.heap.size w1 stop most) (RunC.abide _ _ _ _ _) (RunC.abide _ _ _ _ _) (fun Q => (RunC.own _ _ _ _ _ Q).from 0) (fun Q => (RunC.own _ _ _ _ _ Q).from 0) (fun _ _ _ _ => Nat.zero_le _)
    (fun k => k < w1.heap.size) W2 (fun k hk => by rw [hW2]; simp; omega) (by rw [hW2]; exact (A1.ext hbal).map) (by rw [hW2]; exact (B1.ext hbal).map) (Tr.at_all A1.map.tree) (Tr.at_all B1.map.tree) (by rw [hW2]; exact h1.ext hbal) (by rw [hW2]; exact h2.ext hbal)
    ⟨⟨_, by rw [hW2]; exact hal0, own_nil _ _ _ _ _, by simp [Value.ownBlock]⟩, by simp, fun k hk => by rw [hW2]; simp; omega, by rw [hW2]; exact ⟨rfl, rfl, rfl⟩, by simp, by simp⟩
  have hbW : Below w1.heap.size w1 W2 := by rw [hW2]; exact hbal
  rw [hW2] at hc
  rw [hW2] at hbW
  have HC := Lib.hid hc
  have HW := Lib.hid hbW
  have hsz := Lib.hid hb1
  clear A1 B1 hal0 hbal hc h1 h2 HA HB hb1 hal hW2 hbW
  unfold diffV
  go_wp2_with fail
  refine HC.out.mono ?_
  rintro e w2 ⟨⟨v, rfl⟩, hF, hr⟩
  obtain ⟨hsm, cs, n, ov, hH, hO⟩ := runC_end HS.out HM.out hr
  have hB : Below w1.heap.size w1 w2 := ⟨hsm.1, hsm.2.1, hsm.2.2, Nat.le_trans HW.out.size hF.2, fun k hk => (hF.1 k hk).trans (HW.out.block k hk)⟩
  have c1 := hH.cell (i := 1) rfl
  have c6 := hH.cell (i := 6) rfl
  have G := Lib.hid (hsz.out.trans (hB.mono hsz.out.size))
  have O := Lib.hid (hO.base (base' := w.heap.size) (by have := hsz.out.size; omega))
  clear hH hO hB hF hr hsz HW HC hsm
  go_wp2
  go_returns
  exact ⟨_, rfl, O.out, G.out⟩
theorem differs_any (ba bb : Nat) (a b : Tr 8) (stop : Int) (hs : stop ≠ 0) (w : World) (ha : MapT w ba a) (hb : MapT w bb b) (hN : (difs a b 0).length ≤ 5000) :
    Calls Tryd.prog 35 #[.pointer (some ⟨ba, 0, none⟩), .pointer (some ⟨bb, 0, none⟩), .int .i64 stop, .int .i64 5000] w fun e w' => ∃ cs, e = .returned cs ∧ Own w' w.heap.size 64 7 encC cs (cutL (difs a b 0) stop) ∧ Below w.heap.size w w' :=
  differs_gen ba bb a b stop 5000 hs (.inl (by omega)) w ha hb (by omega)
theorem changes_any (ba bb : Nat) (a b : Tr 8) (stop : Int) (hs : stop ≠ 0) (w : World) (ha : MapT w ba a) (hb : MapT w bb b) (hN : (difs a b 0).length ≤ 5000) :
    Calls Tryd.prog 25 #[.pointer (some ⟨ba, 0, none⟩), .pointer (some ⟨bb, 0, none⟩), .int .i64 stop] w fun e w' => ∃ cs, e = .returned cs ∧ Own w' w.heap.size 64 7 encC cs (cutL (difs a b 0) stop) ∧ Below w.heap.size w w' := by
  have hd := Lib.hid (differs_any ba bb a b stop hs w ha hb hN)
  clear ha hb hN
  go_enter Tryd.func25, Tryd.ntmps25
  go_wp2_with (go_at_call 35; refine hd.out.mono ?_; rintro e w1 ⟨cs, rfl, hO, hb1⟩)
  go_returns
  exact ⟨_, rfl, hO, hb1⟩
end Go.Proofs.YtihmhledogppmaaDoor
