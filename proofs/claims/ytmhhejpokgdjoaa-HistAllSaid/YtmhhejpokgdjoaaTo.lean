/- The walks of trie.leaf and trie.told: a change, and whether it is one. -/
import Derived.Test.YtmhhejpokgdjoaaSwX
import Derived.Test.YtmhhejpokgdjoaaReg
import Derived.Deep.DeepCutAuto
import Derived.Deep.CutBlock
namespace Go.Proofs.Ytmhhejpokgdjoaa
open Go Go.RowKit
set_option linter.unusedVariables false
set_option linter.unusedSimpArgs false

def vOf (o : Option V) : V := o.getD ⟨0, 0⟩
/-- The cells of a change. -/
def chCells (id : Nat) (was now : Option V) : List Value := [.int .u32 (id : Nat), .bool was.isSome, .bool now.isSome, .int .i64 (vOf was).k, .int .i64 (vOf was).n, .int .i64 (vOf now).k, .int .i64 (vOf now).n]
def val0 (t : Tr 0) : Option V := Option.map (·.2) (t : Option (Nat × V))
theorem val0_none : val0 (none : Option (Nat × V)) = none := rfl
theorem val0_some (b : Nat) (v : V) : val0 (some (b, v) : Option (Nat × V)) = some v := rfl
theorem info_change : (Try.prog.info? 113).map (·.size) = some 7 := by kernel_rfl
theorem chCells_one (id : Nat) (x y : Option V) : ∀ v ∈ chCells id x y, v.oneCell' = true := by
  intro v hv
  simp only [chCells, List.mem_cons, List.not_mem_nil, or_false] at hv
  rcases hv with rfl | rfl | rfl | rfl | rfl | rfl | rfl <;> rfl
theorem two_blocks (w : World) (cs ds : List Value) (t u : TypeId) : Below w.heap.size w ((w.alloc (.cells cs.toArray t)).alloc (.cells ds.toArray u)) ∧ Holds ((w.alloc (.cells cs.toArray t)).alloc (.cells ds.toArray u)) w.heap.size cs ∧ Holds ((w.alloc (.cells cs.toArray t)).alloc (.cells ds.toArray u)) (w.heap.size + 1) ds := by
  refine ⟨((Below.refl _ _).alloc (Nat.le_refl _) _).alloc (by simp) _, (Holds.alloc w _ _).ext ((Below.refl _ _).alloc (Nat.le_refl _) _), ?_⟩
  have := Holds.alloc (w.alloc (.cells cs.toArray t)) ds u
  rwa [World.size_alloc] at this
theorem ptr0_none {o : Option Addr} (h : Tr.ptr (d := 0) none = .pointer o) : o = none := by simpa [Tr.ptr, ptrOf, Tr.blk] using h.symm
theorem ptr0_some {b : Nat} {v : V} {o : Option Addr} (h : Tr.ptr (d := 0) (some (b, v)) = .pointer o) : o = some ⟨b, 0, none⟩ := by simpa [Tr.ptr, ptrOf, Tr.blk] using h.symm
set_option maxRecDepth 100000 in
set_option maxHeartbeats 4000000 in
theorem told_any (id : Nat) (a b : Tr 0) (w : World) (ha : a.at w) (hb : b.at w) :
    Calls Try.prog 80 #[.int .u32 (id : Nat), a.ptr, b.ptr] w fun e w' =>
      e = .returned (.tuple #[.agg (chCells id (val0 a) (val0 b)).toArray, .bool (decide (val0 a ≠ val0 b))]) ∧ Below w.heap.size w w' := by
  have HA := Lib.hid ha
  have HB := Lib.hid hb
  clear ha hb
  obtain ⟨oa, hoa⟩ : ∃ o : Option Addr, a.ptr = .pointer o := ⟨_, rfl⟩
  obtain ⟨ob, hob⟩ : ∃ o : Option Addr, b.ptr = .pointer o := ⟨_, rfl⟩
  have HOA := Lib.hid hoa
  have HOB := Lib.hid hob
  rw [hoa, hob]
  clear hoa hob
  go_enter Try.func80, Try.ntmps80
  go_upto_if 12 with fail
  go_cut [] (fun wc => Below w.heap.size w wc ∧ Holds wc w.heap.size (chCells 0 none none) ∧ Holds wc (w.heap.size + 1) (chCells id (val0 a) none))
  case first =>
    cases a with
    | none =>
      obtain rfl := ptr0_none HOA.out
      go_wp2
      go_meet
      case rel => exact two_blocks w (chCells 0 none none) (chCells id none none) _ _
    | some p =>
      obtain ⟨ba, v⟩ := p
      obtain rfl := ptr0_some HOA.out
      have hlt : ba < w.heap.size := Holds.lt HA.out
      have a0 := Holds.cell HA.out (i := 0) rfl
      have a1 := Holds.cell HA.out (i := 1) rfl
      go_wp2
      refine rgnT (.seg [0, 1, 3] (.two 2 4 (.seg [4, 5, 6] .fin) (.seg [2, 5, 6] .fin))) [] [] [] (by kernel_rfl) (by simp) ?_ ?_
      · intro p hp; cases hp
      unfold pl
      simp only [pickL, List.getD_cons_zero, List.getD_cons_succ]
      go_wp2
      refine ⟨fun p hp => (by cases hp), ?_⟩
      unfold pl
      refine ⟨?_, ?_⟩
      all_goals
        simp only [pickL, List.getD_cons_zero, List.getD_cons_succ]
        go_wp2
        refine ⟨fun p hp => (by cases hp), ?_⟩
        unfold pl
        simp only [pickL, List.getD_cons_zero, List.getD_cons_succ]
        go_wp2
        refine ⟨fun p hp => (by cases hp), ?_⟩
        unfold pl
        refine ⟨rfl, trivial, ?_⟩
        go_wp2
        go_meet
        case rel => exact ⟨(two_blocks w (chCells 0 none none) (chCells id (some v) none) _ _).1.drew, (two_blocks w (chCells 0 none none) (chCells id (some v) none) _ _).2⟩
  case rest =>
    obtain ⟨g1, r1, c1⟩ := hcut
    obtain ⟨wA, rfl⟩ : ∃ x, x = wc := ⟨wc, rfl⟩
    have G1 := Lib.hid g1
    have R1 := Lib.hid r1
    have C1 := Lib.hid c1
    clear g1 r1 c1
    go_upto_if 19 with fail
    go_cut [] (fun wc => Below w.heap.size w wc ∧ Holds wc w.heap.size (chCells 0 none none) ∧ Holds wc (w.heap.size + 1) (chCells id (val0 a) (val0 b)))
    case first =>
      cases b with
      | none =>
        obtain rfl := ptr0_none HOB.out
        go_wp2
        go_meet
        case rel => exact ⟨G1.out, R1.out, C1.out⟩
      | some p =>
        obtain ⟨bb, v⟩ := p
        obtain rfl := ptr0_some HOB.out
        have hB := Holds.ext HB.out G1.out
        have hlt : bb < w.heap.size := Holds.lt HB.out
        have a0 := Holds.cell hB (i := 0) rfl
        have a1 := Holds.cell hB (i := 1) rfl
        have f2 := C1.out.free 2
        have f5 := C1.out.free 5
        have f6 := C1.out.free 6
        have c2 := C1.out.cell (i := 2) rfl
        have c5 := C1.out.cell (i := 5) rfl
        have c6 := C1.out.cell (i := 6) rfl
        have hne : bb ≠ w.heap.size + 1 := by omega
        clear hB
        go_wp2
        refine rgnT (.seg [0, 1, 3] (.two 2 4 (.seg [4, 5, 6] .fin) (.seg [2, 5, 6] .fin))) [] [] [] (by kernel_rfl) (by simp) ?_ ?_
        · intro p hp; cases hp
        unfold pl
        simp only [pickL, List.getD_cons_zero, List.getD_cons_succ]
        go_wp2
        refine ⟨fun p hp => (by cases hp), ?_⟩
        unfold pl
        refine ⟨?_, ?_⟩
        all_goals
          simp only [pickL, List.getD_cons_zero, List.getD_cons_succ]
          go_wp2
          refine ⟨fun p hp => (by cases hp), ?_⟩
          unfold pl
          simp only [pickL, List.getD_cons_zero, List.getD_cons_succ]
          go_wp2
          refine ⟨fun p hp => (by cases hp), ?_⟩
          unfold pl
          refine ⟨rfl, trivial, ?_⟩
          go_wp2
          go_meet
          case rel =>
            refine ⟨?_, ?_, ?_⟩
            · have hG := G1.out
              (repeat' (first | (with_reducible exact Below.refl _ _) | (with_reducible assumption) | (with_reducible refine below_drewN ?_ _) | (with_reducible refine Below.drew ?_) | (with_reducible refine Below.alloc ?_ ?_ _) | (with_reducible refine Below.setCell ?_ ?_ _) | (with_reducible exact Below.size (by assumption)) | go_size))
            · exact ((R1.out.drew.upd (Upd.setCell _) (by omega)).upd (Upd.setCell _) (by omega)).upd (Upd.setCell _) (by omega)
            · exact ((C1.out.drew.setCell (i := 2) (.bool true)).setCell (i := 5) (.int .i64 v.k)).setCell (i := 6) (.int .i64 v.n)
    case rest =>
      obtain ⟨g2, r2, c2⟩ := hcut
      obtain ⟨wB, rfl⟩ : ∃ x, x = wc := ⟨wc, rfl⟩
      clear G1 R1 C1 HOA HOB HA HB
      obtain ⟨X, hX⟩ : ∃ X, X = val0 a := ⟨_, rfl⟩
      obtain ⟨Y, hY⟩ : ∃ Y, Y = val0 b := ⟨_, rfl⟩
      rw [← hX, ← hY] at c2
      have HXX := Lib.hid hX
      have HYY := Lib.hid hY
      clear hX hY
      go_upto_region 6 with fail
      go_cut [7] (fun v wc => v = .bool (decide (X ≠ Y)) ∧ Below w.heap.size w wc ∧ Holds wc w.heap.size (chCells id X Y))
      case first =>
        have HG := Lib.hid g2.drew
        have HR := Lib.hid r2.drew
        have HCc := Lib.hid c2.drew
        have c0 := c2.cell (i := 0) rfl
        have c1 := c2.cell (i := 1) rfl
        have c2' := c2.cell (i := 2) rfl
        have c3 := c2.cell (i := 3) rfl
        have c4 := c2.cell (i := 4) rfl
        have c5 := c2.cell (i := 5) rfl
        have c6 := c2.cell (i := 6) rfl
        clear g2 r2 c2
        have HY : Hid (Value.agg (chCells id X Y).toArray = Value.agg (chCells id X Y).toArray) := Lib.hid rfl
        cases X with
        | none =>
          cases Y with
          | none =>
            have hd : decide ((none : Option V) ≠ none) = false := by simp
            have HD := Lib.hid hd
            clear hd
            simp only [vOf, Option.getD_none, Option.getD_some, Option.isSome_none, Option.isSome_some] at c0 c1 c2' c3 c4 c5 c6
            refine rgnT (.seg [1, 2, 3, 4, 5, 6, 7, 9] (.three 0 8 10 (.three 8 10 13 (.two 10 13 (.two 11 13 (.seg [12, 13, 14] .fin) (.seg [11, 12, 14] .fin)) (.seg [10, 11, 12, 14] .fin)) (.two 8 13 (.two 11 13 (.seg [12, 13, 14] .fin) (.seg [11, 12, 14] .fin)) (.seg [8, 11, 12, 14] .fin)) (.seg [8, 10, 11, 12, 14] .fin)) (.two 0 10 (.two 10 13 (.two 11 13 (.seg [12, 13, 14] .fin) (.seg [11, 12, 14] .fin)) (.seg [10, 11, 12, 14] .fin)) (.two 0 11 (.two 11 13 (.seg [12, 13, 14] .fin) (.seg [11, 12, 14] .fin)) (.seg [0, 12, 13, 14] .fin))) (.two 0 8 (.two 8 13 (.two 11 13 (.seg [12, 13, 14] .fin) (.seg [11, 12, 14] .fin)) (.seg [8, 11, 12, 14] .fin)) (.two 0 11 (.two 11 13 (.seg [12, 13, 14] .fin) (.seg [11, 12, 14] .fin)) (.seg [0, 12, 13, 14] .fin))))) [5] [] [] (by kernel_rfl) (by simp) ?_ ?_
            · intro p hp; cases hp
            unfold pl
            simp only [pickL, List.getD_cons_zero, List.getD_cons_succ]
            go_wp2_with (refine wpList_store_abs rfl 113 _ _ rfl w.heap.size _ (chCells id none none) rfl rfl HR.out info_change rfl (chCells_one id none none) ?_; intro W2 hW2 hU; have C3 := HCc.out.upd hU (by omega); have e1 := C3.cell (i := 1) rfl; have e2 := C3.cell (i := 2) rfl; have e3 := C3.cell (i := 3) rfl; have e4 := C3.cell (i := 4) rfl; have e5 := C3.cell (i := 5) rfl; have e6 := C3.cell (i := 6) rfl; simp only [vOf, Option.getD_none, Option.getD_some, Option.isSome_none, Option.isSome_some] at e1 e2 e3 e4 e5 e6)
            refine ⟨fun p hp => (by cases hp), ?_⟩
            unfold pl
            refine ⟨?_, ?_, ?_⟩
            · simp only [pickL, List.getD_cons_zero, List.getD_cons_succ]
              go_wp2_with (refine wpList_store_abs rfl 113 _ _ rfl w.heap.size _ (chCells id none none) rfl rfl HR.out info_change rfl (chCells_one id none none) ?_; intro W2 hW2 hU; have C3 := HCc.out.upd hU (by omega); have e1 := C3.cell (i := 1) rfl; have e2 := C3.cell (i := 2) rfl; have e3 := C3.cell (i := 3) rfl; have e4 := C3.cell (i := 4) rfl; have e5 := C3.cell (i := 5) rfl; have e6 := C3.cell (i := 6) rfl; simp only [vOf, Option.getD_none, Option.getD_some, Option.isSome_none, Option.isSome_some] at e1 e2 e3 e4 e5 e6)
              refine ⟨fun p hp => (by cases hp), ?_⟩
              unfold pl
              refine ⟨?_, ?_, ?_⟩
              · simp only [pickL, List.getD_cons_zero, List.getD_cons_succ]
                go_wp2_with (refine wpList_store_abs rfl 113 _ _ rfl w.heap.size _ (chCells id none none) rfl rfl HR.out info_change rfl (chCells_one id none none) ?_; intro W2 hW2 hU; have C3 := HCc.out.upd hU (by omega); have e1 := C3.cell (i := 1) rfl; have e2 := C3.cell (i := 2) rfl; have e3 := C3.cell (i := 3) rfl; have e4 := C3.cell (i := 4) rfl; have e5 := C3.cell (i := 5) rfl; have e6 := C3.cell (i := 6) rfl; simp only [vOf, Option.getD_none, Option.getD_some, Option.isSome_none, Option.isSome_some] at e1 e2 e3 e4 e5 e6)
                refine ⟨fun p hp => (by cases hp), ?_⟩
                unfold pl
                refine ⟨?_, ?_⟩
                · simp only [pickL, List.getD_cons_zero, List.getD_cons_succ]
                  go_wp2_with (refine wpList_store_abs rfl 113 _ _ rfl w.heap.size _ (chCells id none none) rfl rfl HR.out info_change rfl (chCells_one id none none) ?_; intro W2 hW2 hU; have C3 := HCc.out.upd hU (by omega); have e1 := C3.cell (i := 1) rfl; have e2 := C3.cell (i := 2) rfl; have e3 := C3.cell (i := 3) rfl; have e4 := C3.cell (i := 4) rfl; have e5 := C3.cell (i := 5) rfl; have e6 := C3.cell (i := 6) rfl; simp only [vOf, Option.getD_none, Option.getD_some, Option.isSome_none, Option.isSome_some] at e1 e2 e3 e4 e5 e6)
                  refine ⟨fun p hp => (by cases hp), ?_⟩
                  unfold pl
                  refine ⟨?_, ?_⟩
                  · simp only [pickL, List.getD_cons_zero, List.getD_cons_succ]
                    go_wp2_with (refine wpList_store_abs rfl 113 _ _ rfl w.heap.size _ (chCells id none none) rfl rfl HR.out info_change rfl (chCells_one id none none) ?_; intro W2 hW2 hU; have C3 := HCc.out.upd hU (by omega); have e1 := C3.cell (i := 1) rfl; have e2 := C3.cell (i := 2) rfl; have e3 := C3.cell (i := 3) rfl; have e4 := C3.cell (i := 4) rfl; have e5 := C3.cell (i := 5) rfl; have e6 := C3.cell (i := 6) rfl; simp only [vOf, Option.getD_none, Option.getD_some, Option.isSome_none, Option.isSome_some] at e1 e2 e3 e4 e5 e6)
                    refine ⟨fun p hp => (by cases hp), ?_⟩
                    unfold pl
                    simp only [pickL, List.getD_cons_zero, List.getD_cons_succ]
                    go_wp2_with (refine wpList_store_abs rfl 113 _ _ rfl w.heap.size _ (chCells id none none) rfl rfl HR.out info_change rfl (chCells_one id none none) ?_; intro W2 hW2 hU; have C3 := HCc.out.upd hU (by omega); have e1 := C3.cell (i := 1) rfl; have e2 := C3.cell (i := 2) rfl; have e3 := C3.cell (i := 3) rfl; have e4 := C3.cell (i := 4) rfl; have e5 := C3.cell (i := 5) rfl; have e6 := C3.cell (i := 6) rfl; simp only [vOf, Option.getD_none, Option.getD_some, Option.isSome_none, Option.isSome_some] at e1 e2 e3 e4 e5 e6)
                    refine ⟨fun p hp => (by cases hp), ?_⟩
                    unfold pl
                    refine ⟨rfl, trivial, ?_⟩
                    go_wp2
                    go_meet
                    case rel => exact ⟨by rw [HD.out], HG.out.trans (hU.below (Nat.le_refl _)), hW2⟩
                  · simp only [pickL, List.getD_cons_zero, List.getD_cons_succ]
                    go_wp2_with (refine wpList_store_abs rfl 113 _ _ rfl w.heap.size _ (chCells id none none) rfl rfl HR.out info_change rfl (chCells_one id none none) ?_; intro W2 hW2 hU; have C3 := HCc.out.upd hU (by omega); have e1 := C3.cell (i := 1) rfl; have e2 := C3.cell (i := 2) rfl; have e3 := C3.cell (i := 3) rfl; have e4 := C3.cell (i := 4) rfl; have e5 := C3.cell (i := 5) rfl; have e6 := C3.cell (i := 6) rfl; simp only [vOf, Option.getD_none, Option.getD_some, Option.isSome_none, Option.isSome_some] at e1 e2 e3 e4 e5 e6)
                    refine ⟨fun p hp => (by cases hp), ?_⟩
                    unfold pl
                    simp only [pickL, List.getD_cons_zero, List.getD_cons_succ]
                    go_wp2_with (refine wpList_store_abs rfl 113 _ _ rfl w.heap.size _ (chCells id none none) rfl rfl HR.out info_change rfl (chCells_one id none none) ?_; intro W2 hW2 hU; have C3 := HCc.out.upd hU (by omega); have e1 := C3.cell (i := 1) rfl; have e2 := C3.cell (i := 2) rfl; have e3 := C3.cell (i := 3) rfl; have e4 := C3.cell (i := 4) rfl; have e5 := C3.cell (i := 5) rfl; have e6 := C3.cell (i := 6) rfl; simp only [vOf, Option.getD_none, Option.getD_some, Option.isSome_none, Option.isSome_some] at e1 e2 e3 e4 e5 e6)
                    refine ⟨fun p hp => (by cases hp), ?_⟩
                    unfold pl
                    refine ⟨rfl, trivial, ?_⟩
                    go_wp2
                    go_meet
                    case rel => exact ⟨by rw [HD.out], HG.out.trans (hU.below (Nat.le_refl _)), hW2⟩
                · simp only [pickL, List.getD_cons_zero, List.getD_cons_succ]
                  go_wp2_with (refine wpList_store_abs rfl 113 _ _ rfl w.heap.size _ (chCells id none none) rfl rfl HR.out info_change rfl (chCells_one id none none) ?_; intro W2 hW2 hU; have C3 := HCc.out.upd hU (by omega); have e1 := C3.cell (i := 1) rfl; have e2 := C3.cell (i := 2) rfl; have e3 := C3.cell (i := 3) rfl; have e4 := C3.cell (i := 4) rfl; have e5 := C3.cell (i := 5) rfl; have e6 := C3.cell (i := 6) rfl; simp only [vOf, Option.getD_none, Option.getD_some, Option.isSome_none, Option.isSome_some] at e1 e2 e3 e4 e5 e6)
                  refine ⟨fun p hp => (by cases hp), ?_⟩
                  unfold pl
                  simp only [pickL, List.getD_cons_zero, List.getD_cons_succ]
                  go_wp2_with (refine wpList_store_abs rfl 113 _ _ rfl w.heap.size _ (chCells id none none) rfl rfl HR.out info_change rfl (chCells_one id none none) ?_; intro W2 hW2 hU; have C3 := HCc.out.upd hU (by omega); have e1 := C3.cell (i := 1) rfl; have e2 := C3.cell (i := 2) rfl; have e3 := C3.cell (i := 3) rfl; have e4 := C3.cell (i := 4) rfl; have e5 := C3.cell (i := 5) rfl; have e6 := C3.cell (i := 6) rfl; simp only [vOf, Option.getD_none, Option.getD_some, Option.isSome_none, Option.isSome_some] at e1 e2 e3 e4 e5 e6)
                  refine ⟨fun p hp => (by cases hp), ?_⟩
                  unfold pl
                  refine ⟨rfl, trivial, ?_⟩
                  go_wp2
                  go_meet
                  case rel => exact ⟨by rw [HD.out], HG.out.trans (hU.below (Nat.le_refl _)), hW2⟩
              · simp only [pickL, List.getD_cons_zero, List.getD_cons_succ]
                go_wp2_with (refine wpList_store_abs rfl 113 _ _ rfl w.heap.size _ (chCells id none none) rfl rfl HR.out info_change rfl (chCells_one id none none) ?_; intro W2 hW2 hU; have C3 := HCc.out.upd hU (by omega); have e1 := C3.cell (i := 1) rfl; have e2 := C3.cell (i := 2) rfl; have e3 := C3.cell (i := 3) rfl; have e4 := C3.cell (i := 4) rfl; have e5 := C3.cell (i := 5) rfl; have e6 := C3.cell (i := 6) rfl; simp only [vOf, Option.getD_none, Option.getD_some, Option.isSome_none, Option.isSome_some] at e1 e2 e3 e4 e5 e6)
                refine ⟨fun p hp => (by cases hp), ?_⟩
                unfold pl
                refine ⟨?_, ?_⟩
                · simp only [pickL, List.getD_cons_zero, List.getD_cons_succ]
                  go_wp2_with (refine wpList_store_abs rfl 113 _ _ rfl w.heap.size _ (chCells id none none) rfl rfl HR.out info_change rfl (chCells_one id none none) ?_; intro W2 hW2 hU; have C3 := HCc.out.upd hU (by omega); have e1 := C3.cell (i := 1) rfl; have e2 := C3.cell (i := 2) rfl; have e3 := C3.cell (i := 3) rfl; have e4 := C3.cell (i := 4) rfl; have e5 := C3.cell (i := 5) rfl; have e6 := C3.cell (i := 6) rfl; simp only [vOf, Option.getD_none, Option.getD_some, Option.isSome_none, Option.isSome_some] at e1 e2 e3 e4 e5 e6)
                  refine ⟨fun p hp => (by cases hp), ?_⟩
                  unfold pl
                  refine ⟨?_, ?_⟩
                  · simp only [pickL, List.getD_cons_zero, List.getD_cons_succ]
                    go_wp2_with (refine wpList_store_abs rfl 113 _ _ rfl w.heap.size _ (chCells id none none) rfl rfl HR.out info_change rfl (chCells_one id none none) ?_; intro W2 hW2 hU; have C3 := HCc.out.upd hU (by omega); have e1 := C3.cell (i := 1) rfl; have e2 := C3.cell (i := 2) rfl; have e3 := C3.cell (i := 3) rfl; have e4 := C3.cell (i := 4) rfl; have e5 := C3.cell (i := 5) rfl; have e6 := C3.cell (i := 6) rfl; simp only [vOf, Option.getD_none, Option.getD_some, Option.isSome_none, Option.isSome_some] at e1 e2 e3 e4 e5 e6)
                    refine ⟨fun p hp => (by cases hp), ?_⟩
                    unfold pl
                    simp only [pickL, List.getD_cons_zero, List.getD_cons_succ]
                    go_wp2_with (refine wpList_store_abs rfl 113 _ _ rfl w.heap.size _ (chCells id none none) rfl rfl HR.out info_change rfl (chCells_one id none none) ?_; intro W2 hW2 hU; have C3 := HCc.out.upd hU (by omega); have e1 := C3.cell (i := 1) rfl; have e2 := C3.cell (i := 2) rfl; have e3 := C3.cell (i := 3) rfl; have e4 := C3.cell (i := 4) rfl; have e5 := C3.cell (i := 5) rfl; have e6 := C3.cell (i := 6) rfl; simp only [vOf, Option.getD_none, Option.getD_some, Option.isSome_none, Option.isSome_some] at e1 e2 e3 e4 e5 e6)
                    refine ⟨fun p hp => (by cases hp), ?_⟩
                    unfold pl
                    refine ⟨rfl, trivial, ?_⟩
                    go_wp2
                    go_meet
                    case rel => exact ⟨by rw [HD.out], HG.out.trans (hU.below (Nat.le_refl _)), hW2⟩
                  · simp only [pickL, List.getD_cons_zero, List.getD_cons_succ]
                    go_wp2_with (refine wpList_store_abs rfl 113 _ _ rfl w.heap.size _ (chCells id none none) rfl rfl HR.out info_change rfl (chCells_one id none none) ?_; intro W2 hW2 hU; have C3 := HCc.out.upd hU (by omega); have e1 := C3.cell (i := 1) rfl; have e2 := C3.cell (i := 2) rfl; have e3 := C3.cell (i := 3) rfl; have e4 := C3.cell (i := 4) rfl; have e5 := C3.cell (i := 5) rfl; have e6 := C3.cell (i := 6) rfl; simp only [vOf, Option.getD_none, Option.getD_some, Option.isSome_none, Option.isSome_some] at e1 e2 e3 e4 e5 e6)
                    refine ⟨fun p hp => (by cases hp), ?_⟩
                    unfold pl
                    simp only [pickL, List.getD_cons_zero, List.getD_cons_succ]
                    go_wp2_with (refine wpList_store_abs rfl 113 _ _ rfl w.heap.size _ (chCells id none none) rfl rfl HR.out info_change rfl (chCells_one id none none) ?_; intro W2 hW2 hU; have C3 := HCc.out.upd hU (by omega); have e1 := C3.cell (i := 1) rfl; have e2 := C3.cell (i := 2) rfl; have e3 := C3.cell (i := 3) rfl; have e4 := C3.cell (i := 4) rfl; have e5 := C3.cell (i := 5) rfl; have e6 := C3.cell (i := 6) rfl; simp only [vOf, Option.getD_none, Option.getD_some, Option.isSome_none, Option.isSome_some] at e1 e2 e3 e4 e5 e6)
                    refine ⟨fun p hp => (by cases hp), ?_⟩
                    unfold pl
                    refine ⟨rfl, trivial, ?_⟩
                    go_wp2
                    go_meet
                    case rel => exact ⟨by rw [HD.out], HG.out.trans (hU.below (Nat.le_refl _)), hW2⟩
                · simp only [pickL, List.getD_cons_zero, List.getD_cons_succ]
                  go_wp2_with (refine wpList_store_abs rfl 113 _ _ rfl w.heap.size _ (chCells id none none) rfl rfl HR.out info_change rfl (chCells_one id none none) ?_; intro W2 hW2 hU; have C3 := HCc.out.upd hU (by omega); have e1 := C3.cell (i := 1) rfl; have e2 := C3.cell (i := 2) rfl; have e3 := C3.cell (i := 3) rfl; have e4 := C3.cell (i := 4) rfl; have e5 := C3.cell (i := 5) rfl; have e6 := C3.cell (i := 6) rfl; simp only [vOf, Option.getD_none, Option.getD_some, Option.isSome_none, Option.isSome_some] at e1 e2 e3 e4 e5 e6)
                  refine ⟨fun p hp => (by cases hp), ?_⟩
                  unfold pl
                  simp only [pickL, List.getD_cons_zero, List.getD_cons_succ]
                  go_wp2_with (refine wpList_store_abs rfl 113 _ _ rfl w.heap.size _ (chCells id none none) rfl rfl HR.out info_change rfl (chCells_one id none none) ?_; intro W2 hW2 hU; have C3 := HCc.out.upd hU (by omega); have e1 := C3.cell (i := 1) rfl; have e2 := C3.cell (i := 2) rfl; have e3 := C3.cell (i := 3) rfl; have e4 := C3.cell (i := 4) rfl; have e5 := C3.cell (i := 5) rfl; have e6 := C3.cell (i := 6) rfl; simp only [vOf, Option.getD_none, Option.getD_some, Option.isSome_none, Option.isSome_some] at e1 e2 e3 e4 e5 e6)
                  refine ⟨fun p hp => (by cases hp), ?_⟩
                  unfold pl
                  refine ⟨rfl, trivial, ?_⟩
                  go_wp2
                  go_meet
                  case rel => exact ⟨by rw [HD.out], HG.out.trans (hU.below (Nat.le_refl _)), hW2⟩
              · simp only [pickL, List.getD_cons_zero, List.getD_cons_succ]
                go_wp2_with (refine wpList_store_abs rfl 113 _ _ rfl w.heap.size _ (chCells id none none) rfl rfl HR.out info_change rfl (chCells_one id none none) ?_; intro W2 hW2 hU; have C3 := HCc.out.upd hU (by omega); have e1 := C3.cell (i := 1) rfl; have e2 := C3.cell (i := 2) rfl; have e3 := C3.cell (i := 3) rfl; have e4 := C3.cell (i := 4) rfl; have e5 := C3.cell (i := 5) rfl; have e6 := C3.cell (i := 6) rfl; simp only [vOf, Option.getD_none, Option.getD_some, Option.isSome_none, Option.isSome_some] at e1 e2 e3 e4 e5 e6)
                refine ⟨fun p hp => (by cases hp), ?_⟩
                unfold pl
                simp only [pickL, List.getD_cons_zero, List.getD_cons_succ]
                go_wp2_with (refine wpList_store_abs rfl 113 _ _ rfl w.heap.size _ (chCells id none none) rfl rfl HR.out info_change rfl (chCells_one id none none) ?_; intro W2 hW2 hU; have C3 := HCc.out.upd hU (by omega); have e1 := C3.cell (i := 1) rfl; have e2 := C3.cell (i := 2) rfl; have e3 := C3.cell (i := 3) rfl; have e4 := C3.cell (i := 4) rfl; have e5 := C3.cell (i := 5) rfl; have e6 := C3.cell (i := 6) rfl; simp only [vOf, Option.getD_none, Option.getD_some, Option.isSome_none, Option.isSome_some] at e1 e2 e3 e4 e5 e6)
                refine ⟨fun p hp => (by cases hp), ?_⟩
                unfold pl
                refine ⟨rfl, trivial, ?_⟩
                go_wp2
                go_meet
                case rel => exact ⟨by rw [HD.out], HG.out.trans (hU.below (Nat.le_refl _)), hW2⟩
            · simp only [pickL, List.getD_cons_zero, List.getD_cons_succ]
              go_wp2_with (refine wpList_store_abs rfl 113 _ _ rfl w.heap.size _ (chCells id none none) rfl rfl HR.out info_change rfl (chCells_one id none none) ?_; intro W2 hW2 hU; have C3 := HCc.out.upd hU (by omega); have e1 := C3.cell (i := 1) rfl; have e2 := C3.cell (i := 2) rfl; have e3 := C3.cell (i := 3) rfl; have e4 := C3.cell (i := 4) rfl; have e5 := C3.cell (i := 5) rfl; have e6 := C3.cell (i := 6) rfl; simp only [vOf, Option.getD_none, Option.getD_some, Option.isSome_none, Option.isSome_some] at e1 e2 e3 e4 e5 e6)
              refine ⟨fun p hp => (by cases hp), ?_⟩
              unfold pl
              refine ⟨?_, ?_⟩
              · simp only [pickL, List.getD_cons_zero, List.getD_cons_succ]
                go_wp2_with (refine wpList_store_abs rfl 113 _ _ rfl w.heap.size _ (chCells id none none) rfl rfl HR.out info_change rfl (chCells_one id none none) ?_; intro W2 hW2 hU; have C3 := HCc.out.upd hU (by omega); have e1 := C3.cell (i := 1) rfl; have e2 := C3.cell (i := 2) rfl; have e3 := C3.cell (i := 3) rfl; have e4 := C3.cell (i := 4) rfl; have e5 := C3.cell (i := 5) rfl; have e6 := C3.cell (i := 6) rfl; simp only [vOf, Option.getD_none, Option.getD_some, Option.isSome_none, Option.isSome_some] at e1 e2 e3 e4 e5 e6)
                refine ⟨fun p hp => (by cases hp), ?_⟩
                unfold pl
                refine ⟨?_, ?_⟩
                · simp only [pickL, List.getD_cons_zero, List.getD_cons_succ]
                  go_wp2_with (refine wpList_store_abs rfl 113 _ _ rfl w.heap.size _ (chCells id none none) rfl rfl HR.out info_change rfl (chCells_one id none none) ?_; intro W2 hW2 hU; have C3 := HCc.out.upd hU (by omega); have e1 := C3.cell (i := 1) rfl; have e2 := C3.cell (i := 2) rfl; have e3 := C3.cell (i := 3) rfl; have e4 := C3.cell (i := 4) rfl; have e5 := C3.cell (i := 5) rfl; have e6 := C3.cell (i := 6) rfl; simp only [vOf, Option.getD_none, Option.getD_some, Option.isSome_none, Option.isSome_some] at e1 e2 e3 e4 e5 e6)
                  refine ⟨fun p hp => (by cases hp), ?_⟩
                  unfold pl
                  refine ⟨?_, ?_⟩
                  · simp only [pickL, List.getD_cons_zero, List.getD_cons_succ]
                    go_wp2_with (refine wpList_store_abs rfl 113 _ _ rfl w.heap.size _ (chCells id none none) rfl rfl HR.out info_change rfl (chCells_one id none none) ?_; intro W2 hW2 hU; have C3 := HCc.out.upd hU (by omega); have e1 := C3.cell (i := 1) rfl; have e2 := C3.cell (i := 2) rfl; have e3 := C3.cell (i := 3) rfl; have e4 := C3.cell (i := 4) rfl; have e5 := C3.cell (i := 5) rfl; have e6 := C3.cell (i := 6) rfl; simp only [vOf, Option.getD_none, Option.getD_some, Option.isSome_none, Option.isSome_some] at e1 e2 e3 e4 e5 e6)
                    refine ⟨fun p hp => (by cases hp), ?_⟩
                    unfold pl
                    simp only [pickL, List.getD_cons_zero, List.getD_cons_succ]
                    go_wp2_with (refine wpList_store_abs rfl 113 _ _ rfl w.heap.size _ (chCells id none none) rfl rfl HR.out info_change rfl (chCells_one id none none) ?_; intro W2 hW2 hU; have C3 := HCc.out.upd hU (by omega); have e1 := C3.cell (i := 1) rfl; have e2 := C3.cell (i := 2) rfl; have e3 := C3.cell (i := 3) rfl; have e4 := C3.cell (i := 4) rfl; have e5 := C3.cell (i := 5) rfl; have e6 := C3.cell (i := 6) rfl; simp only [vOf, Option.getD_none, Option.getD_some, Option.isSome_none, Option.isSome_some] at e1 e2 e3 e4 e5 e6)
                    refine ⟨fun p hp => (by cases hp), ?_⟩
                    unfold pl
                    refine ⟨rfl, trivial, ?_⟩
                    go_wp2
                    go_meet
                    case rel => exact ⟨by rw [HD.out], HG.out.trans (hU.below (Nat.le_refl _)), hW2⟩
                  · simp only [pickL, List.getD_cons_zero, List.getD_cons_succ]
                    go_wp2_with (refine wpList_store_abs rfl 113 _ _ rfl w.heap.size _ (chCells id none none) rfl rfl HR.out info_change rfl (chCells_one id none none) ?_; intro W2 hW2 hU; have C3 := HCc.out.upd hU (by omega); have e1 := C3.cell (i := 1) rfl; have e2 := C3.cell (i := 2) rfl; have e3 := C3.cell (i := 3) rfl; have e4 := C3.cell (i := 4) rfl; have e5 := C3.cell (i := 5) rfl; have e6 := C3.cell (i := 6) rfl; simp only [vOf, Option.getD_none, Option.getD_some, Option.isSome_none, Option.isSome_some] at e1 e2 e3 e4 e5 e6)
                    refine ⟨fun p hp => (by cases hp), ?_⟩
                    unfold pl
                    simp only [pickL, List.getD_cons_zero, List.getD_cons_succ]
                    go_wp2_with (refine wpList_store_abs rfl 113 _ _ rfl w.heap.size _ (chCells id none none) rfl rfl HR.out info_change rfl (chCells_one id none none) ?_; intro W2 hW2 hU; have C3 := HCc.out.upd hU (by omega); have e1 := C3.cell (i := 1) rfl; have e2 := C3.cell (i := 2) rfl; have e3 := C3.cell (i := 3) rfl; have e4 := C3.cell (i := 4) rfl; have e5 := C3.cell (i := 5) rfl; have e6 := C3.cell (i := 6) rfl; simp only [vOf, Option.getD_none, Option.getD_some, Option.isSome_none, Option.isSome_some] at e1 e2 e3 e4 e5 e6)
                    refine ⟨fun p hp => (by cases hp), ?_⟩
                    unfold pl
                    refine ⟨rfl, trivial, ?_⟩
                    go_wp2
                    go_meet
                    case rel => exact ⟨by rw [HD.out], HG.out.trans (hU.below (Nat.le_refl _)), hW2⟩
                · simp only [pickL, List.getD_cons_zero, List.getD_cons_succ]
                  go_wp2_with (refine wpList_store_abs rfl 113 _ _ rfl w.heap.size _ (chCells id none none) rfl rfl HR.out info_change rfl (chCells_one id none none) ?_; intro W2 hW2 hU; have C3 := HCc.out.upd hU (by omega); have e1 := C3.cell (i := 1) rfl; have e2 := C3.cell (i := 2) rfl; have e3 := C3.cell (i := 3) rfl; have e4 := C3.cell (i := 4) rfl; have e5 := C3.cell (i := 5) rfl; have e6 := C3.cell (i := 6) rfl; simp only [vOf, Option.getD_none, Option.getD_some, Option.isSome_none, Option.isSome_some] at e1 e2 e3 e4 e5 e6)
                  refine ⟨fun p hp => (by cases hp), ?_⟩
                  unfold pl
                  simp only [pickL, List.getD_cons_zero, List.getD_cons_succ]
                  go_wp2_with (refine wpList_store_abs rfl 113 _ _ rfl w.heap.size _ (chCells id none none) rfl rfl HR.out info_change rfl (chCells_one id none none) ?_; intro W2 hW2 hU; have C3 := HCc.out.upd hU (by omega); have e1 := C3.cell (i := 1) rfl; have e2 := C3.cell (i := 2) rfl; have e3 := C3.cell (i := 3) rfl; have e4 := C3.cell (i := 4) rfl; have e5 := C3.cell (i := 5) rfl; have e6 := C3.cell (i := 6) rfl; simp only [vOf, Option.getD_none, Option.getD_some, Option.isSome_none, Option.isSome_some] at e1 e2 e3 e4 e5 e6)
                  refine ⟨fun p hp => (by cases hp), ?_⟩
                  unfold pl
                  refine ⟨rfl, trivial, ?_⟩
                  go_wp2
                  go_meet
                  case rel => exact ⟨by rw [HD.out], HG.out.trans (hU.below (Nat.le_refl _)), hW2⟩
              · simp only [pickL, List.getD_cons_zero, List.getD_cons_succ]
                go_wp2_with (refine wpList_store_abs rfl 113 _ _ rfl w.heap.size _ (chCells id none none) rfl rfl HR.out info_change rfl (chCells_one id none none) ?_; intro W2 hW2 hU; have C3 := HCc.out.upd hU (by omega); have e1 := C3.cell (i := 1) rfl; have e2 := C3.cell (i := 2) rfl; have e3 := C3.cell (i := 3) rfl; have e4 := C3.cell (i := 4) rfl; have e5 := C3.cell (i := 5) rfl; have e6 := C3.cell (i := 6) rfl; simp only [vOf, Option.getD_none, Option.getD_some, Option.isSome_none, Option.isSome_some] at e1 e2 e3 e4 e5 e6)
                refine ⟨fun p hp => (by cases hp), ?_⟩
                unfold pl
                refine ⟨?_, ?_⟩
                · simp only [pickL, List.getD_cons_zero, List.getD_cons_succ]
                  go_wp2_with (refine wpList_store_abs rfl 113 _ _ rfl w.heap.size _ (chCells id none none) rfl rfl HR.out info_change rfl (chCells_one id none none) ?_; intro W2 hW2 hU; have C3 := HCc.out.upd hU (by omega); have e1 := C3.cell (i := 1) rfl; have e2 := C3.cell (i := 2) rfl; have e3 := C3.cell (i := 3) rfl; have e4 := C3.cell (i := 4) rfl; have e5 := C3.cell (i := 5) rfl; have e6 := C3.cell (i := 6) rfl; simp only [vOf, Option.getD_none, Option.getD_some, Option.isSome_none, Option.isSome_some] at e1 e2 e3 e4 e5 e6)
                  refine ⟨fun p hp => (by cases hp), ?_⟩
                  unfold pl
                  refine ⟨?_, ?_⟩
                  · simp only [pickL, List.getD_cons_zero, List.getD_cons_succ]
                    go_wp2_with (refine wpList_store_abs rfl 113 _ _ rfl w.heap.size _ (chCells id none none) rfl rfl HR.out info_change rfl (chCells_one id none none) ?_; intro W2 hW2 hU; have C3 := HCc.out.upd hU (by omega); have e1 := C3.cell (i := 1) rfl; have e2 := C3.cell (i := 2) rfl; have e3 := C3.cell (i := 3) rfl; have e4 := C3.cell (i := 4) rfl; have e5 := C3.cell (i := 5) rfl; have e6 := C3.cell (i := 6) rfl; simp only [vOf, Option.getD_none, Option.getD_some, Option.isSome_none, Option.isSome_some] at e1 e2 e3 e4 e5 e6)
                    refine ⟨fun p hp => (by cases hp), ?_⟩
                    unfold pl
                    simp only [pickL, List.getD_cons_zero, List.getD_cons_succ]
                    go_wp2_with (refine wpList_store_abs rfl 113 _ _ rfl w.heap.size _ (chCells id none none) rfl rfl HR.out info_change rfl (chCells_one id none none) ?_; intro W2 hW2 hU; have C3 := HCc.out.upd hU (by omega); have e1 := C3.cell (i := 1) rfl; have e2 := C3.cell (i := 2) rfl; have e3 := C3.cell (i := 3) rfl; have e4 := C3.cell (i := 4) rfl; have e5 := C3.cell (i := 5) rfl; have e6 := C3.cell (i := 6) rfl; simp only [vOf, Option.getD_none, Option.getD_some, Option.isSome_none, Option.isSome_some] at e1 e2 e3 e4 e5 e6)
                    refine ⟨fun p hp => (by cases hp), ?_⟩
                    unfold pl
                    refine ⟨rfl, trivial, ?_⟩
                    go_wp2
                    go_meet
                    case rel => exact ⟨by rw [HD.out], HG.out.trans (hU.below (Nat.le_refl _)), hW2⟩
                  · simp only [pickL, List.getD_cons_zero, List.getD_cons_succ]
                    go_wp2_with (refine wpList_store_abs rfl 113 _ _ rfl w.heap.size _ (chCells id none none) rfl rfl HR.out info_change rfl (chCells_one id none none) ?_; intro W2 hW2 hU; have C3 := HCc.out.upd hU (by omega); have e1 := C3.cell (i := 1) rfl; have e2 := C3.cell (i := 2) rfl; have e3 := C3.cell (i := 3) rfl; have e4 := C3.cell (i := 4) rfl; have e5 := C3.cell (i := 5) rfl; have e6 := C3.cell (i := 6) rfl; simp only [vOf, Option.getD_none, Option.getD_some, Option.isSome_none, Option.isSome_some] at e1 e2 e3 e4 e5 e6)
                    refine ⟨fun p hp => (by cases hp), ?_⟩
                    unfold pl
                    simp only [pickL, List.getD_cons_zero, List.getD_cons_succ]
                    go_wp2_with (refine wpList_store_abs rfl 113 _ _ rfl w.heap.size _ (chCells id none none) rfl rfl HR.out info_change rfl (chCells_one id none none) ?_; intro W2 hW2 hU; have C3 := HCc.out.upd hU (by omega); have e1 := C3.cell (i := 1) rfl; have e2 := C3.cell (i := 2) rfl; have e3 := C3.cell (i := 3) rfl; have e4 := C3.cell (i := 4) rfl; have e5 := C3.cell (i := 5) rfl; have e6 := C3.cell (i := 6) rfl; simp only [vOf, Option.getD_none, Option.getD_some, Option.isSome_none, Option.isSome_some] at e1 e2 e3 e4 e5 e6)
                    refine ⟨fun p hp => (by cases hp), ?_⟩
                    unfold pl
                    refine ⟨rfl, trivial, ?_⟩
                    go_wp2
                    go_meet
                    case rel => exact ⟨by rw [HD.out], HG.out.trans (hU.below (Nat.le_refl _)), hW2⟩
                · simp only [pickL, List.getD_cons_zero, List.getD_cons_succ]
                  go_wp2_with (refine wpList_store_abs rfl 113 _ _ rfl w.heap.size _ (chCells id none none) rfl rfl HR.out info_change rfl (chCells_one id none none) ?_; intro W2 hW2 hU; have C3 := HCc.out.upd hU (by omega); have e1 := C3.cell (i := 1) rfl; have e2 := C3.cell (i := 2) rfl; have e3 := C3.cell (i := 3) rfl; have e4 := C3.cell (i := 4) rfl; have e5 := C3.cell (i := 5) rfl; have e6 := C3.cell (i := 6) rfl; simp only [vOf, Option.getD_none, Option.getD_some, Option.isSome_none, Option.isSome_some] at e1 e2 e3 e4 e5 e6)
                  refine ⟨fun p hp => (by cases hp), ?_⟩
                  unfold pl
                  simp only [pickL, List.getD_cons_zero, List.getD_cons_succ]
                  go_wp2_with (refine wpList_store_abs rfl 113 _ _ rfl w.heap.size _ (chCells id none none) rfl rfl HR.out info_change rfl (chCells_one id none none) ?_; intro W2 hW2 hU; have C3 := HCc.out.upd hU (by omega); have e1 := C3.cell (i := 1) rfl; have e2 := C3.cell (i := 2) rfl; have e3 := C3.cell (i := 3) rfl; have e4 := C3.cell (i := 4) rfl; have e5 := C3.cell (i := 5) rfl; have e6 := C3.cell (i := 6) rfl; simp only [vOf, Option.getD_none, Option.getD_some, Option.isSome_none, Option.isSome_some] at e1 e2 e3 e4 e5 e6)
                  refine ⟨fun p hp => (by cases hp), ?_⟩
                  unfold pl
                  refine ⟨rfl, trivial, ?_⟩
                  go_wp2
                  go_meet
                  case rel => exact ⟨by rw [HD.out], HG.out.trans (hU.below (Nat.le_refl _)), hW2⟩
            · simp only [pickL, List.getD_cons_zero, List.getD_cons_succ]
              go_wp2_with (refine wpList_store_abs rfl 113 _ _ rfl w.heap.size _ (chCells id none none) rfl rfl HR.out info_change rfl (chCells_one id none none) ?_; intro W2 hW2 hU; have C3 := HCc.out.upd hU (by omega); have e1 := C3.cell (i := 1) rfl; have e2 := C3.cell (i := 2) rfl; have e3 := C3.cell (i := 3) rfl; have e4 := C3.cell (i := 4) rfl; have e5 := C3.cell (i := 5) rfl; have e6 := C3.cell (i := 6) rfl; simp only [vOf, Option.getD_none, Option.getD_some, Option.isSome_none, Option.isSome_some] at e1 e2 e3 e4 e5 e6)
              refine ⟨fun p hp => (by cases hp), ?_⟩
              unfold pl
              refine ⟨?_, ?_⟩
              · simp only [pickL, List.getD_cons_zero, List.getD_cons_succ]
                go_wp2_with (refine wpList_store_abs rfl 113 _ _ rfl w.heap.size _ (chCells id none none) rfl rfl HR.out info_change rfl (chCells_one id none none) ?_; intro W2 hW2 hU; have C3 := HCc.out.upd hU (by omega); have e1 := C3.cell (i := 1) rfl; have e2 := C3.cell (i := 2) rfl; have e3 := C3.cell (i := 3) rfl; have e4 := C3.cell (i := 4) rfl; have e5 := C3.cell (i := 5) rfl; have e6 := C3.cell (i := 6) rfl; simp only [vOf, Option.getD_none, Option.getD_some, Option.isSome_none, Option.isSome_some] at e1 e2 e3 e4 e5 e6)
                refine ⟨fun p hp => (by cases hp), ?_⟩
                unfold pl
                refine ⟨?_, ?_⟩
                · simp only [pickL, List.getD_cons_zero, List.getD_cons_succ]
                  go_wp2_with (refine wpList_store_abs rfl 113 _ _ rfl w.heap.size _ (chCells id none none) rfl rfl HR.out info_change rfl (chCells_one id none none) ?_; intro W2 hW2 hU; have C3 := HCc.out.upd hU (by omega); have e1 := C3.cell (i := 1) rfl; have e2 := C3.cell (i := 2) rfl; have e3 := C3.cell (i := 3) rfl; have e4 := C3.cell (i := 4) rfl; have e5 := C3.cell (i := 5) rfl; have e6 := C3.cell (i := 6) rfl; simp only [vOf, Option.getD_none, Option.getD_some, Option.isSome_none, Option.isSome_some] at e1 e2 e3 e4 e5 e6)
                  refine ⟨fun p hp => (by cases hp), ?_⟩
                  unfold pl
                  refine ⟨?_, ?_⟩
                  · simp only [pickL, List.getD_cons_zero, List.getD_cons_succ]
                    go_wp2_with (refine wpList_store_abs rfl 113 _ _ rfl w.heap.size _ (chCells id none none) rfl rfl HR.out info_change rfl (chCells_one id none none) ?_; intro W2 hW2 hU; have C3 := HCc.out.upd hU (by omega); have e1 := C3.cell (i := 1) rfl; have e2 := C3.cell (i := 2) rfl; have e3 := C3.cell (i := 3) rfl; have e4 := C3.cell (i := 4) rfl; have e5 := C3.cell (i := 5) rfl; have e6 := C3.cell (i := 6) rfl; simp only [vOf, Option.getD_none, Option.getD_some, Option.isSome_none, Option.isSome_some] at e1 e2 e3 e4 e5 e6)
                    refine ⟨fun p hp => (by cases hp), ?_⟩
                    unfold pl
                    simp only [pickL, List.getD_cons_zero, List.getD_cons_succ]
                    go_wp2_with (refine wpList_store_abs rfl 113 _ _ rfl w.heap.size _ (chCells id none none) rfl rfl HR.out info_change rfl (chCells_one id none none) ?_; intro W2 hW2 hU; have C3 := HCc.out.upd hU (by omega); have e1 := C3.cell (i := 1) rfl; have e2 := C3.cell (i := 2) rfl; have e3 := C3.cell (i := 3) rfl; have e4 := C3.cell (i := 4) rfl; have e5 := C3.cell (i := 5) rfl; have e6 := C3.cell (i := 6) rfl; simp only [vOf, Option.getD_none, Option.getD_some, Option.isSome_none, Option.isSome_some] at e1 e2 e3 e4 e5 e6)
                    refine ⟨fun p hp => (by cases hp), ?_⟩
                    unfold pl
                    refine ⟨rfl, trivial, ?_⟩
                    go_wp2
                    go_meet
                    case rel => exact ⟨by rw [HD.out], HG.out.trans (hU.below (Nat.le_refl _)), hW2⟩
                  · simp only [pickL, List.getD_cons_zero, List.getD_cons_succ]
                    go_wp2_with (refine wpList_store_abs rfl 113 _ _ rfl w.heap.size _ (chCells id none none) rfl rfl HR.out info_change rfl (chCells_one id none none) ?_; intro W2 hW2 hU; have C3 := HCc.out.upd hU (by omega); have e1 := C3.cell (i := 1) rfl; have e2 := C3.cell (i := 2) rfl; have e3 := C3.cell (i := 3) rfl; have e4 := C3.cell (i := 4) rfl; have e5 := C3.cell (i := 5) rfl; have e6 := C3.cell (i := 6) rfl; simp only [vOf, Option.getD_none, Option.getD_some, Option.isSome_none, Option.isSome_some] at e1 e2 e3 e4 e5 e6)
                    refine ⟨fun p hp => (by cases hp), ?_⟩
                    unfold pl
                    simp only [pickL, List.getD_cons_zero, List.getD_cons_succ]
                    go_wp2_with (refine wpList_store_abs rfl 113 _ _ rfl w.heap.size _ (chCells id none none) rfl rfl HR.out info_change rfl (chCells_one id none none) ?_; intro W2 hW2 hU; have C3 := HCc.out.upd hU (by omega); have e1 := C3.cell (i := 1) rfl; have e2 := C3.cell (i := 2) rfl; have e3 := C3.cell (i := 3) rfl; have e4 := C3.cell (i := 4) rfl; have e5 := C3.cell (i := 5) rfl; have e6 := C3.cell (i := 6) rfl; simp only [vOf, Option.getD_none, Option.getD_some, Option.isSome_none, Option.isSome_some] at e1 e2 e3 e4 e5 e6)
                    refine ⟨fun p hp => (by cases hp), ?_⟩
                    unfold pl
                    refine ⟨rfl, trivial, ?_⟩
                    go_wp2
                    go_meet
                    case rel => exact ⟨by rw [HD.out], HG.out.trans (hU.below (Nat.le_refl _)), hW2⟩
                · simp only [pickL, List.getD_cons_zero, List.getD_cons_succ]
                  go_wp2_with (refine wpList_store_abs rfl 113 _ _ rfl w.heap.size _ (chCells id none none) rfl rfl HR.out info_change rfl (chCells_one id none none) ?_; intro W2 hW2 hU; have C3 := HCc.out.upd hU (by omega); have e1 := C3.cell (i := 1) rfl; have e2 := C3.cell (i := 2) rfl; have e3 := C3.cell (i := 3) rfl; have e4 := C3.cell (i := 4) rfl; have e5 := C3.cell (i := 5) rfl; have e6 := C3.cell (i := 6) rfl; simp only [vOf, Option.getD_none, Option.getD_some, Option.isSome_none, Option.isSome_some] at e1 e2 e3 e4 e5 e6)
                  refine ⟨fun p hp => (by cases hp), ?_⟩
                  unfold pl
                  simp only [pickL, List.getD_cons_zero, List.getD_cons_succ]
                  go_wp2_with (refine wpList_store_abs rfl 113 _ _ rfl w.heap.size _ (chCells id none none) rfl rfl HR.out info_change rfl (chCells_one id none none) ?_; intro W2 hW2 hU; have C3 := HCc.out.upd hU (by omega); have e1 := C3.cell (i := 1) rfl; have e2 := C3.cell (i := 2) rfl; have e3 := C3.cell (i := 3) rfl; have e4 := C3.cell (i := 4) rfl; have e5 := C3.cell (i := 5) rfl; have e6 := C3.cell (i := 6) rfl; simp only [vOf, Option.getD_none, Option.getD_some, Option.isSome_none, Option.isSome_some] at e1 e2 e3 e4 e5 e6)
                  refine ⟨fun p hp => (by cases hp), ?_⟩
                  unfold pl
                  refine ⟨rfl, trivial, ?_⟩
                  go_wp2
                  go_meet
                  case rel => exact ⟨by rw [HD.out], HG.out.trans (hU.below (Nat.le_refl _)), hW2⟩
              · simp only [pickL, List.getD_cons_zero, List.getD_cons_succ]
                go_wp2_with (refine wpList_store_abs rfl 113 _ _ rfl w.heap.size _ (chCells id none none) rfl rfl HR.out info_change rfl (chCells_one id none none) ?_; intro W2 hW2 hU; have C3 := HCc.out.upd hU (by omega); have e1 := C3.cell (i := 1) rfl; have e2 := C3.cell (i := 2) rfl; have e3 := C3.cell (i := 3) rfl; have e4 := C3.cell (i := 4) rfl; have e5 := C3.cell (i := 5) rfl; have e6 := C3.cell (i := 6) rfl; simp only [vOf, Option.getD_none, Option.getD_some, Option.isSome_none, Option.isSome_some] at e1 e2 e3 e4 e5 e6)
                refine ⟨fun p hp => (by cases hp), ?_⟩
                unfold pl
                refine ⟨?_, ?_⟩
                · simp only [pickL, List.getD_cons_zero, List.getD_cons_succ]
                  go_wp2_with (refine wpList_store_abs rfl 113 _ _ rfl w.heap.size _ (chCells id none none) rfl rfl HR.out info_change rfl (chCells_one id none none) ?_; intro W2 hW2 hU; have C3 := HCc.out.upd hU (by omega); have e1 := C3.cell (i := 1) rfl; have e2 := C3.cell (i := 2) rfl; have e3 := C3.cell (i := 3) rfl; have e4 := C3.cell (i := 4) rfl; have e5 := C3.cell (i := 5) rfl; have e6 := C3.cell (i := 6) rfl; simp only [vOf, Option.getD_none, Option.getD_some, Option.isSome_none, Option.isSome_some] at e1 e2 e3 e4 e5 e6)
                  refine ⟨fun p hp => (by cases hp), ?_⟩
                  unfold pl
                  refine ⟨?_, ?_⟩
                  · simp only [pickL, List.getD_cons_zero, List.getD_cons_succ]
                    go_wp2_with (refine wpList_store_abs rfl 113 _ _ rfl w.heap.size _ (chCells id none none) rfl rfl HR.out info_change rfl (chCells_one id none none) ?_; intro W2 hW2 hU; have C3 := HCc.out.upd hU (by omega); have e1 := C3.cell (i := 1) rfl; have e2 := C3.cell (i := 2) rfl; have e3 := C3.cell (i := 3) rfl; have e4 := C3.cell (i := 4) rfl; have e5 := C3.cell (i := 5) rfl; have e6 := C3.cell (i := 6) rfl; simp only [vOf, Option.getD_none, Option.getD_some, Option.isSome_none, Option.isSome_some] at e1 e2 e3 e4 e5 e6)
                    refine ⟨fun p hp => (by cases hp), ?_⟩
                    unfold pl
                    simp only [pickL, List.getD_cons_zero, List.getD_cons_succ]
                    go_wp2_with (refine wpList_store_abs rfl 113 _ _ rfl w.heap.size _ (chCells id none none) rfl rfl HR.out info_change rfl (chCells_one id none none) ?_; intro W2 hW2 hU; have C3 := HCc.out.upd hU (by omega); have e1 := C3.cell (i := 1) rfl; have e2 := C3.cell (i := 2) rfl; have e3 := C3.cell (i := 3) rfl; have e4 := C3.cell (i := 4) rfl; have e5 := C3.cell (i := 5) rfl; have e6 := C3.cell (i := 6) rfl; simp only [vOf, Option.getD_none, Option.getD_some, Option.isSome_none, Option.isSome_some] at e1 e2 e3 e4 e5 e6)
                    refine ⟨fun p hp => (by cases hp), ?_⟩
                    unfold pl
                    refine ⟨rfl, trivial, ?_⟩
                    go_wp2
                    go_meet
                    case rel => exact ⟨by rw [HD.out], HG.out.trans (hU.below (Nat.le_refl _)), hW2⟩
                  · simp only [pickL, List.getD_cons_zero, List.getD_cons_succ]
                    go_wp2_with (refine wpList_store_abs rfl 113 _ _ rfl w.heap.size _ (chCells id none none) rfl rfl HR.out info_change rfl (chCells_one id none none) ?_; intro W2 hW2 hU; have C3 := HCc.out.upd hU (by omega); have e1 := C3.cell (i := 1) rfl; have e2 := C3.cell (i := 2) rfl; have e3 := C3.cell (i := 3) rfl; have e4 := C3.cell (i := 4) rfl; have e5 := C3.cell (i := 5) rfl; have e6 := C3.cell (i := 6) rfl; simp only [vOf, Option.getD_none, Option.getD_some, Option.isSome_none, Option.isSome_some] at e1 e2 e3 e4 e5 e6)
                    refine ⟨fun p hp => (by cases hp), ?_⟩
                    unfold pl
                    simp only [pickL, List.getD_cons_zero, List.getD_cons_succ]
                    go_wp2_with (refine wpList_store_abs rfl 113 _ _ rfl w.heap.size _ (chCells id none none) rfl rfl HR.out info_change rfl (chCells_one id none none) ?_; intro W2 hW2 hU; have C3 := HCc.out.upd hU (by omega); have e1 := C3.cell (i := 1) rfl; have e2 := C3.cell (i := 2) rfl; have e3 := C3.cell (i := 3) rfl; have e4 := C3.cell (i := 4) rfl; have e5 := C3.cell (i := 5) rfl; have e6 := C3.cell (i := 6) rfl; simp only [vOf, Option.getD_none, Option.getD_some, Option.isSome_none, Option.isSome_some] at e1 e2 e3 e4 e5 e6)
                    refine ⟨fun p hp => (by cases hp), ?_⟩
                    unfold pl
                    refine ⟨rfl, trivial, ?_⟩
                    go_wp2
                    go_meet
                    case rel => exact ⟨by rw [HD.out], HG.out.trans (hU.below (Nat.le_refl _)), hW2⟩
                · simp only [pickL, List.getD_cons_zero, List.getD_cons_succ]
                  go_wp2_with (refine wpList_store_abs rfl 113 _ _ rfl w.heap.size _ (chCells id none none) rfl rfl HR.out info_change rfl (chCells_one id none none) ?_; intro W2 hW2 hU; have C3 := HCc.out.upd hU (by omega); have e1 := C3.cell (i := 1) rfl; have e2 := C3.cell (i := 2) rfl; have e3 := C3.cell (i := 3) rfl; have e4 := C3.cell (i := 4) rfl; have e5 := C3.cell (i := 5) rfl; have e6 := C3.cell (i := 6) rfl; simp only [vOf, Option.getD_none, Option.getD_some, Option.isSome_none, Option.isSome_some] at e1 e2 e3 e4 e5 e6)
                  refine ⟨fun p hp => (by cases hp), ?_⟩
                  unfold pl
                  simp only [pickL, List.getD_cons_zero, List.getD_cons_succ]
                  go_wp2_with (refine wpList_store_abs rfl 113 _ _ rfl w.heap.size _ (chCells id none none) rfl rfl HR.out info_change rfl (chCells_one id none none) ?_; intro W2 hW2 hU; have C3 := HCc.out.upd hU (by omega); have e1 := C3.cell (i := 1) rfl; have e2 := C3.cell (i := 2) rfl; have e3 := C3.cell (i := 3) rfl; have e4 := C3.cell (i := 4) rfl; have e5 := C3.cell (i := 5) rfl; have e6 := C3.cell (i := 6) rfl; simp only [vOf, Option.getD_none, Option.getD_some, Option.isSome_none, Option.isSome_some] at e1 e2 e3 e4 e5 e6)
                  refine ⟨fun p hp => (by cases hp), ?_⟩
                  unfold pl
                  refine ⟨rfl, trivial, ?_⟩
                  go_wp2
                  go_meet
                  case rel => exact ⟨by rw [HD.out], HG.out.trans (hU.below (Nat.le_refl _)), hW2⟩
          | some v =>
            have hd : decide ((none : Option V) ≠ some v) = true := by simp
            have HD := Lib.hid hd
            clear hd
            simp only [vOf, Option.getD_none, Option.getD_some, Option.isSome_none, Option.isSome_some] at c0 c1 c2' c3 c4 c5 c6
            refine rgnT (.seg [1, 2, 3, 4, 5, 6, 7, 9] (.three 0 8 10 (.three 8 10 13 (.two 10 13 (.two 11 13 (.seg [12, 13, 14] .fin) (.seg [11, 12, 14] .fin)) (.seg [10, 11, 12, 14] .fin)) (.two 8 13 (.two 11 13 (.seg [12, 13, 14] .fin) (.seg [11, 12, 14] .fin)) (.seg [8, 11, 12, 14] .fin)) (.seg [8, 10, 11, 12, 14] .fin)) (.two 0 10 (.two 10 13 (.two 11 13 (.seg [12, 13, 14] .fin) (.seg [11, 12, 14] .fin)) (.seg [10, 11, 12, 14] .fin)) (.two 0 11 (.two 11 13 (.seg [12, 13, 14] .fin) (.seg [11, 12, 14] .fin)) (.seg [0, 12, 13, 14] .fin))) (.two 0 8 (.two 8 13 (.two 11 13 (.seg [12, 13, 14] .fin) (.seg [11, 12, 14] .fin)) (.seg [8, 11, 12, 14] .fin)) (.two 0 11 (.two 11 13 (.seg [12, 13, 14] .fin) (.seg [11, 12, 14] .fin)) (.seg [0, 12, 13, 14] .fin))))) [5] [] [] (by kernel_rfl) (by simp) ?_ ?_
            · intro p hp; cases hp
            unfold pl
            simp only [pickL, List.getD_cons_zero, List.getD_cons_succ]
            go_wp2_with (refine wpList_store_abs rfl 113 _ _ rfl w.heap.size _ (chCells id none (some v)) rfl rfl HR.out info_change rfl (chCells_one id none (some v)) ?_; intro W2 hW2 hU; have C3 := HCc.out.upd hU (by omega); have e1 := C3.cell (i := 1) rfl; have e2 := C3.cell (i := 2) rfl; have e3 := C3.cell (i := 3) rfl; have e4 := C3.cell (i := 4) rfl; have e5 := C3.cell (i := 5) rfl; have e6 := C3.cell (i := 6) rfl; simp only [vOf, Option.getD_none, Option.getD_some, Option.isSome_none, Option.isSome_some] at e1 e2 e3 e4 e5 e6)
            refine ⟨fun p hp => (by cases hp), ?_⟩
            unfold pl
            refine ⟨?_, ?_, ?_⟩
            · simp only [pickL, List.getD_cons_zero, List.getD_cons_succ]
              go_wp2_with (refine wpList_store_abs rfl 113 _ _ rfl w.heap.size _ (chCells id none (some v)) rfl rfl HR.out info_change rfl (chCells_one id none (some v)) ?_; intro W2 hW2 hU; have C3 := HCc.out.upd hU (by omega); have e1 := C3.cell (i := 1) rfl; have e2 := C3.cell (i := 2) rfl; have e3 := C3.cell (i := 3) rfl; have e4 := C3.cell (i := 4) rfl; have e5 := C3.cell (i := 5) rfl; have e6 := C3.cell (i := 6) rfl; simp only [vOf, Option.getD_none, Option.getD_some, Option.isSome_none, Option.isSome_some] at e1 e2 e3 e4 e5 e6)
              refine ⟨fun p hp => (by cases hp), ?_⟩
              unfold pl
              refine ⟨?_, ?_, ?_⟩
              · simp only [pickL, List.getD_cons_zero, List.getD_cons_succ]
                go_wp2_with (refine wpList_store_abs rfl 113 _ _ rfl w.heap.size _ (chCells id none (some v)) rfl rfl HR.out info_change rfl (chCells_one id none (some v)) ?_; intro W2 hW2 hU; have C3 := HCc.out.upd hU (by omega); have e1 := C3.cell (i := 1) rfl; have e2 := C3.cell (i := 2) rfl; have e3 := C3.cell (i := 3) rfl; have e4 := C3.cell (i := 4) rfl; have e5 := C3.cell (i := 5) rfl; have e6 := C3.cell (i := 6) rfl; simp only [vOf, Option.getD_none, Option.getD_some, Option.isSome_none, Option.isSome_some] at e1 e2 e3 e4 e5 e6)
                refine ⟨fun p hp => (by cases hp), ?_⟩
                unfold pl
                refine ⟨?_, ?_⟩
                · simp only [pickL, List.getD_cons_zero, List.getD_cons_succ]
                  go_wp2_with (refine wpList_store_abs rfl 113 _ _ rfl w.heap.size _ (chCells id none (some v)) rfl rfl HR.out info_change rfl (chCells_one id none (some v)) ?_; intro W2 hW2 hU; have C3 := HCc.out.upd hU (by omega); have e1 := C3.cell (i := 1) rfl; have e2 := C3.cell (i := 2) rfl; have e3 := C3.cell (i := 3) rfl; have e4 := C3.cell (i := 4) rfl; have e5 := C3.cell (i := 5) rfl; have e6 := C3.cell (i := 6) rfl; simp only [vOf, Option.getD_none, Option.getD_some, Option.isSome_none, Option.isSome_some] at e1 e2 e3 e4 e5 e6)
                  refine ⟨fun p hp => (by cases hp), ?_⟩
                  unfold pl
                  refine ⟨?_, ?_⟩
                  · simp only [pickL, List.getD_cons_zero, List.getD_cons_succ]
                    go_wp2_with (refine wpList_store_abs rfl 113 _ _ rfl w.heap.size _ (chCells id none (some v)) rfl rfl HR.out info_change rfl (chCells_one id none (some v)) ?_; intro W2 hW2 hU; have C3 := HCc.out.upd hU (by omega); have e1 := C3.cell (i := 1) rfl; have e2 := C3.cell (i := 2) rfl; have e3 := C3.cell (i := 3) rfl; have e4 := C3.cell (i := 4) rfl; have e5 := C3.cell (i := 5) rfl; have e6 := C3.cell (i := 6) rfl; simp only [vOf, Option.getD_none, Option.getD_some, Option.isSome_none, Option.isSome_some] at e1 e2 e3 e4 e5 e6)
                    refine ⟨fun p hp => (by cases hp), ?_⟩
                    unfold pl
                    simp only [pickL, List.getD_cons_zero, List.getD_cons_succ]
                    go_wp2_with (refine wpList_store_abs rfl 113 _ _ rfl w.heap.size _ (chCells id none (some v)) rfl rfl HR.out info_change rfl (chCells_one id none (some v)) ?_; intro W2 hW2 hU; have C3 := HCc.out.upd hU (by omega); have e1 := C3.cell (i := 1) rfl; have e2 := C3.cell (i := 2) rfl; have e3 := C3.cell (i := 3) rfl; have e4 := C3.cell (i := 4) rfl; have e5 := C3.cell (i := 5) rfl; have e6 := C3.cell (i := 6) rfl; simp only [vOf, Option.getD_none, Option.getD_some, Option.isSome_none, Option.isSome_some] at e1 e2 e3 e4 e5 e6)
                    refine ⟨fun p hp => (by cases hp), ?_⟩
                    unfold pl
                    refine ⟨rfl, trivial, ?_⟩
                    go_wp2
                    go_meet
                    case rel => exact ⟨by rw [HD.out], HG.out.trans (hU.below (Nat.le_refl _)), hW2⟩
                  · simp only [pickL, List.getD_cons_zero, List.getD_cons_succ]
                    go_wp2_with (refine wpList_store_abs rfl 113 _ _ rfl w.heap.size _ (chCells id none (some v)) rfl rfl HR.out info_change rfl (chCells_one id none (some v)) ?_; intro W2 hW2 hU; have C3 := HCc.out.upd hU (by omega); have e1 := C3.cell (i := 1) rfl; have e2 := C3.cell (i := 2) rfl; have e3 := C3.cell (i := 3) rfl; have e4 := C3.cell (i := 4) rfl; have e5 := C3.cell (i := 5) rfl; have e6 := C3.cell (i := 6) rfl; simp only [vOf, Option.getD_none, Option.getD_some, Option.isSome_none, Option.isSome_some] at e1 e2 e3 e4 e5 e6)
                    refine ⟨fun p hp => (by cases hp), ?_⟩
                    unfold pl
                    simp only [pickL, List.getD_cons_zero, List.getD_cons_succ]
                    go_wp2_with (refine wpList_store_abs rfl 113 _ _ rfl w.heap.size _ (chCells id none (some v)) rfl rfl HR.out info_change rfl (chCells_one id none (some v)) ?_; intro W2 hW2 hU; have C3 := HCc.out.upd hU (by omega); have e1 := C3.cell (i := 1) rfl; have e2 := C3.cell (i := 2) rfl; have e3 := C3.cell (i := 3) rfl; have e4 := C3.cell (i := 4) rfl; have e5 := C3.cell (i := 5) rfl; have e6 := C3.cell (i := 6) rfl; simp only [vOf, Option.getD_none, Option.getD_some, Option.isSome_none, Option.isSome_some] at e1 e2 e3 e4 e5 e6)
                    refine ⟨fun p hp => (by cases hp), ?_⟩
                    unfold pl
                    refine ⟨rfl, trivial, ?_⟩
                    go_wp2
                    go_meet
                    case rel => exact ⟨by rw [HD.out], HG.out.trans (hU.below (Nat.le_refl _)), hW2⟩
                · simp only [pickL, List.getD_cons_zero, List.getD_cons_succ]
                  go_wp2_with (refine wpList_store_abs rfl 113 _ _ rfl w.heap.size _ (chCells id none (some v)) rfl rfl HR.out info_change rfl (chCells_one id none (some v)) ?_; intro W2 hW2 hU; have C3 := HCc.out.upd hU (by omega); have e1 := C3.cell (i := 1) rfl; have e2 := C3.cell (i := 2) rfl; have e3 := C3.cell (i := 3) rfl; have e4 := C3.cell (i := 4) rfl; have e5 := C3.cell (i := 5) rfl; have e6 := C3.cell (i := 6) rfl; simp only [vOf, Option.getD_none, Option.getD_some, Option.isSome_none, Option.isSome_some] at e1 e2 e3 e4 e5 e6)
                  refine ⟨fun p hp => (by cases hp), ?_⟩
                  unfold pl
                  simp only [pickL, List.getD_cons_zero, List.getD_cons_succ]
                  go_wp2_with (refine wpList_store_abs rfl 113 _ _ rfl w.heap.size _ (chCells id none (some v)) rfl rfl HR.out info_change rfl (chCells_one id none (some v)) ?_; intro W2 hW2 hU; have C3 := HCc.out.upd hU (by omega); have e1 := C3.cell (i := 1) rfl; have e2 := C3.cell (i := 2) rfl; have e3 := C3.cell (i := 3) rfl; have e4 := C3.cell (i := 4) rfl; have e5 := C3.cell (i := 5) rfl; have e6 := C3.cell (i := 6) rfl; simp only [vOf, Option.getD_none, Option.getD_some, Option.isSome_none, Option.isSome_some] at e1 e2 e3 e4 e5 e6)
                  refine ⟨fun p hp => (by cases hp), ?_⟩
                  unfold pl
                  refine ⟨rfl, trivial, ?_⟩
                  go_wp2
                  go_meet
                  case rel => exact ⟨by rw [HD.out], HG.out.trans (hU.below (Nat.le_refl _)), hW2⟩
              · simp only [pickL, List.getD_cons_zero, List.getD_cons_succ]
                go_wp2_with (refine wpList_store_abs rfl 113 _ _ rfl w.heap.size _ (chCells id none (some v)) rfl rfl HR.out info_change rfl (chCells_one id none (some v)) ?_; intro W2 hW2 hU; have C3 := HCc.out.upd hU (by omega); have e1 := C3.cell (i := 1) rfl; have e2 := C3.cell (i := 2) rfl; have e3 := C3.cell (i := 3) rfl; have e4 := C3.cell (i := 4) rfl; have e5 := C3.cell (i := 5) rfl; have e6 := C3.cell (i := 6) rfl; simp only [vOf, Option.getD_none, Option.getD_some, Option.isSome_none, Option.isSome_some] at e1 e2 e3 e4 e5 e6)
                refine ⟨fun p hp => (by cases hp), ?_⟩
                unfold pl
                refine ⟨?_, ?_⟩
                · simp only [pickL, List.getD_cons_zero, List.getD_cons_succ]
                  go_wp2_with (refine wpList_store_abs rfl 113 _ _ rfl w.heap.size _ (chCells id none (some v)) rfl rfl HR.out info_change rfl (chCells_one id none (some v)) ?_; intro W2 hW2 hU; have C3 := HCc.out.upd hU (by omega); have e1 := C3.cell (i := 1) rfl; have e2 := C3.cell (i := 2) rfl; have e3 := C3.cell (i := 3) rfl; have e4 := C3.cell (i := 4) rfl; have e5 := C3.cell (i := 5) rfl; have e6 := C3.cell (i := 6) rfl; simp only [vOf, Option.getD_none, Option.getD_some, Option.isSome_none, Option.isSome_some] at e1 e2 e3 e4 e5 e6)
                  refine ⟨fun p hp => (by cases hp), ?_⟩
                  unfold pl
                  refine ⟨?_, ?_⟩
                  · simp only [pickL, List.getD_cons_zero, List.getD_cons_succ]
                    go_wp2_with (refine wpList_store_abs rfl 113 _ _ rfl w.heap.size _ (chCells id none (some v)) rfl rfl HR.out info_change rfl (chCells_one id none (some v)) ?_; intro W2 hW2 hU; have C3 := HCc.out.upd hU (by omega); have e1 := C3.cell (i := 1) rfl; have e2 := C3.cell (i := 2) rfl; have e3 := C3.cell (i := 3) rfl; have e4 := C3.cell (i := 4) rfl; have e5 := C3.cell (i := 5) rfl; have e6 := C3.cell (i := 6) rfl; simp only [vOf, Option.getD_none, Option.getD_some, Option.isSome_none, Option.isSome_some] at e1 e2 e3 e4 e5 e6)
                    refine ⟨fun p hp => (by cases hp), ?_⟩
                    unfold pl
                    simp only [pickL, List.getD_cons_zero, List.getD_cons_succ]
                    go_wp2_with (refine wpList_store_abs rfl 113 _ _ rfl w.heap.size _ (chCells id none (some v)) rfl rfl HR.out info_change rfl (chCells_one id none (some v)) ?_; intro W2 hW2 hU; have C3 := HCc.out.upd hU (by omega); have e1 := C3.cell (i := 1) rfl; have e2 := C3.cell (i := 2) rfl; have e3 := C3.cell (i := 3) rfl; have e4 := C3.cell (i := 4) rfl; have e5 := C3.cell (i := 5) rfl; have e6 := C3.cell (i := 6) rfl; simp only [vOf, Option.getD_none, Option.getD_some, Option.isSome_none, Option.isSome_some] at e1 e2 e3 e4 e5 e6)
                    refine ⟨fun p hp => (by cases hp), ?_⟩
                    unfold pl
                    refine ⟨rfl, trivial, ?_⟩
                    go_wp2
                    go_meet
                    case rel => exact ⟨by rw [HD.out], HG.out.trans (hU.below (Nat.le_refl _)), hW2⟩
                  · simp only [pickL, List.getD_cons_zero, List.getD_cons_succ]
                    go_wp2_with (refine wpList_store_abs rfl 113 _ _ rfl w.heap.size _ (chCells id none (some v)) rfl rfl HR.out info_change rfl (chCells_one id none (some v)) ?_; intro W2 hW2 hU; have C3 := HCc.out.upd hU (by omega); have e1 := C3.cell (i := 1) rfl; have e2 := C3.cell (i := 2) rfl; have e3 := C3.cell (i := 3) rfl; have e4 := C3.cell (i := 4) rfl; have e5 := C3.cell (i := 5) rfl; have e6 := C3.cell (i := 6) rfl; simp only [vOf, Option.getD_none, Option.getD_some, Option.isSome_none, Option.isSome_some] at e1 e2 e3 e4 e5 e6)
                    refine ⟨fun p hp => (by cases hp), ?_⟩
                    unfold pl
                    simp only [pickL, List.getD_cons_zero, List.getD_cons_succ]
                    go_wp2_with (refine wpList_store_abs rfl 113 _ _ rfl w.heap.size _ (chCells id none (some v)) rfl rfl HR.out info_change rfl (chCells_one id none (some v)) ?_; intro W2 hW2 hU; have C3 := HCc.out.upd hU (by omega); have e1 := C3.cell (i := 1) rfl; have e2 := C3.cell (i := 2) rfl; have e3 := C3.cell (i := 3) rfl; have e4 := C3.cell (i := 4) rfl; have e5 := C3.cell (i := 5) rfl; have e6 := C3.cell (i := 6) rfl; simp only [vOf, Option.getD_none, Option.getD_some, Option.isSome_none, Option.isSome_some] at e1 e2 e3 e4 e5 e6)
                    refine ⟨fun p hp => (by cases hp), ?_⟩
                    unfold pl
                    refine ⟨rfl, trivial, ?_⟩
                    go_wp2
                    go_meet
                    case rel => exact ⟨by rw [HD.out], HG.out.trans (hU.below (Nat.le_refl _)), hW2⟩
                · simp only [pickL, List.getD_cons_zero, List.getD_cons_succ]
                  go_wp2_with (refine wpList_store_abs rfl 113 _ _ rfl w.heap.size _ (chCells id none (some v)) rfl rfl HR.out info_change rfl (chCells_one id none (some v)) ?_; intro W2 hW2 hU; have C3 := HCc.out.upd hU (by omega); have e1 := C3.cell (i := 1) rfl; have e2 := C3.cell (i := 2) rfl; have e3 := C3.cell (i := 3) rfl; have e4 := C3.cell (i := 4) rfl; have e5 := C3.cell (i := 5) rfl; have e6 := C3.cell (i := 6) rfl; simp only [vOf, Option.getD_none, Option.getD_some, Option.isSome_none, Option.isSome_some] at e1 e2 e3 e4 e5 e6)
                  refine ⟨fun p hp => (by cases hp), ?_⟩
                  unfold pl
                  simp only [pickL, List.getD_cons_zero, List.getD_cons_succ]
                  go_wp2_with (refine wpList_store_abs rfl 113 _ _ rfl w.heap.size _ (chCells id none (some v)) rfl rfl HR.out info_change rfl (chCells_one id none (some v)) ?_; intro W2 hW2 hU; have C3 := HCc.out.upd hU (by omega); have e1 := C3.cell (i := 1) rfl; have e2 := C3.cell (i := 2) rfl; have e3 := C3.cell (i := 3) rfl; have e4 := C3.cell (i := 4) rfl; have e5 := C3.cell (i := 5) rfl; have e6 := C3.cell (i := 6) rfl; simp only [vOf, Option.getD_none, Option.getD_some, Option.isSome_none, Option.isSome_some] at e1 e2 e3 e4 e5 e6)
                  refine ⟨fun p hp => (by cases hp), ?_⟩
                  unfold pl
                  refine ⟨rfl, trivial, ?_⟩
                  go_wp2
                  go_meet
                  case rel => exact ⟨by rw [HD.out], HG.out.trans (hU.below (Nat.le_refl _)), hW2⟩
              · simp only [pickL, List.getD_cons_zero, List.getD_cons_succ]
                go_wp2_with (refine wpList_store_abs rfl 113 _ _ rfl w.heap.size _ (chCells id none (some v)) rfl rfl HR.out info_change rfl (chCells_one id none (some v)) ?_; intro W2 hW2 hU; have C3 := HCc.out.upd hU (by omega); have e1 := C3.cell (i := 1) rfl; have e2 := C3.cell (i := 2) rfl; have e3 := C3.cell (i := 3) rfl; have e4 := C3.cell (i := 4) rfl; have e5 := C3.cell (i := 5) rfl; have e6 := C3.cell (i := 6) rfl; simp only [vOf, Option.getD_none, Option.getD_some, Option.isSome_none, Option.isSome_some] at e1 e2 e3 e4 e5 e6)
                refine ⟨fun p hp => (by cases hp), ?_⟩
                unfold pl
                simp only [pickL, List.getD_cons_zero, List.getD_cons_succ]
                go_wp2_with (refine wpList_store_abs rfl 113 _ _ rfl w.heap.size _ (chCells id none (some v)) rfl rfl HR.out info_change rfl (chCells_one id none (some v)) ?_; intro W2 hW2 hU; have C3 := HCc.out.upd hU (by omega); have e1 := C3.cell (i := 1) rfl; have e2 := C3.cell (i := 2) rfl; have e3 := C3.cell (i := 3) rfl; have e4 := C3.cell (i := 4) rfl; have e5 := C3.cell (i := 5) rfl; have e6 := C3.cell (i := 6) rfl; simp only [vOf, Option.getD_none, Option.getD_some, Option.isSome_none, Option.isSome_some] at e1 e2 e3 e4 e5 e6)
                refine ⟨fun p hp => (by cases hp), ?_⟩
                unfold pl
                refine ⟨rfl, trivial, ?_⟩
                go_wp2
                go_meet
                case rel => exact ⟨by rw [HD.out], HG.out.trans (hU.below (Nat.le_refl _)), hW2⟩
            · simp only [pickL, List.getD_cons_zero, List.getD_cons_succ]
              go_wp2_with (refine wpList_store_abs rfl 113 _ _ rfl w.heap.size _ (chCells id none (some v)) rfl rfl HR.out info_change rfl (chCells_one id none (some v)) ?_; intro W2 hW2 hU; have C3 := HCc.out.upd hU (by omega); have e1 := C3.cell (i := 1) rfl; have e2 := C3.cell (i := 2) rfl; have e3 := C3.cell (i := 3) rfl; have e4 := C3.cell (i := 4) rfl; have e5 := C3.cell (i := 5) rfl; have e6 := C3.cell (i := 6) rfl; simp only [vOf, Option.getD_none, Option.getD_some, Option.isSome_none, Option.isSome_some] at e1 e2 e3 e4 e5 e6)
              refine ⟨fun p hp => (by cases hp), ?_⟩
              unfold pl
              refine ⟨?_, ?_⟩
              · simp only [pickL, List.getD_cons_zero, List.getD_cons_succ]
                go_wp2_with (refine wpList_store_abs rfl 113 _ _ rfl w.heap.size _ (chCells id none (some v)) rfl rfl HR.out info_change rfl (chCells_one id none (some v)) ?_; intro W2 hW2 hU; have C3 := HCc.out.upd hU (by omega); have e1 := C3.cell (i := 1) rfl; have e2 := C3.cell (i := 2) rfl; have e3 := C3.cell (i := 3) rfl; have e4 := C3.cell (i := 4) rfl; have e5 := C3.cell (i := 5) rfl; have e6 := C3.cell (i := 6) rfl; simp only [vOf, Option.getD_none, Option.getD_some, Option.isSome_none, Option.isSome_some] at e1 e2 e3 e4 e5 e6)
                refine ⟨fun p hp => (by cases hp), ?_⟩
                unfold pl
                refine ⟨?_, ?_⟩
                · simp only [pickL, List.getD_cons_zero, List.getD_cons_succ]
                  go_wp2_with (refine wpList_store_abs rfl 113 _ _ rfl w.heap.size _ (chCells id none (some v)) rfl rfl HR.out info_change rfl (chCells_one id none (some v)) ?_; intro W2 hW2 hU; have C3 := HCc.out.upd hU (by omega); have e1 := C3.cell (i := 1) rfl; have e2 := C3.cell (i := 2) rfl; have e3 := C3.cell (i := 3) rfl; have e4 := C3.cell (i := 4) rfl; have e5 := C3.cell (i := 5) rfl; have e6 := C3.cell (i := 6) rfl; simp only [vOf, Option.getD_none, Option.getD_some, Option.isSome_none, Option.isSome_some] at e1 e2 e3 e4 e5 e6)
                  refine ⟨fun p hp => (by cases hp), ?_⟩
                  unfold pl
                  refine ⟨?_, ?_⟩
                  · simp only [pickL, List.getD_cons_zero, List.getD_cons_succ]
                    go_wp2_with (refine wpList_store_abs rfl 113 _ _ rfl w.heap.size _ (chCells id none (some v)) rfl rfl HR.out info_change rfl (chCells_one id none (some v)) ?_; intro W2 hW2 hU; have C3 := HCc.out.upd hU (by omega); have e1 := C3.cell (i := 1) rfl; have e2 := C3.cell (i := 2) rfl; have e3 := C3.cell (i := 3) rfl; have e4 := C3.cell (i := 4) rfl; have e5 := C3.cell (i := 5) rfl; have e6 := C3.cell (i := 6) rfl; simp only [vOf, Option.getD_none, Option.getD_some, Option.isSome_none, Option.isSome_some] at e1 e2 e3 e4 e5 e6)
                    refine ⟨fun p hp => (by cases hp), ?_⟩
                    unfold pl
                    simp only [pickL, List.getD_cons_zero, List.getD_cons_succ]
                    go_wp2_with (refine wpList_store_abs rfl 113 _ _ rfl w.heap.size _ (chCells id none (some v)) rfl rfl HR.out info_change rfl (chCells_one id none (some v)) ?_; intro W2 hW2 hU; have C3 := HCc.out.upd hU (by omega); have e1 := C3.cell (i := 1) rfl; have e2 := C3.cell (i := 2) rfl; have e3 := C3.cell (i := 3) rfl; have e4 := C3.cell (i := 4) rfl; have e5 := C3.cell (i := 5) rfl; have e6 := C3.cell (i := 6) rfl; simp only [vOf, Option.getD_none, Option.getD_some, Option.isSome_none, Option.isSome_some] at e1 e2 e3 e4 e5 e6)
                    refine ⟨fun p hp => (by cases hp), ?_⟩
                    unfold pl
                    refine ⟨rfl, trivial, ?_⟩
                    go_wp2
                    go_meet
                    case rel => exact ⟨by rw [HD.out], HG.out.trans (hU.below (Nat.le_refl _)), hW2⟩
                  · simp only [pickL, List.getD_cons_zero, List.getD_cons_succ]
                    go_wp2_with (refine wpList_store_abs rfl 113 _ _ rfl w.heap.size _ (chCells id none (some v)) rfl rfl HR.out info_change rfl (chCells_one id none (some v)) ?_; intro W2 hW2 hU; have C3 := HCc.out.upd hU (by omega); have e1 := C3.cell (i := 1) rfl; have e2 := C3.cell (i := 2) rfl; have e3 := C3.cell (i := 3) rfl; have e4 := C3.cell (i := 4) rfl; have e5 := C3.cell (i := 5) rfl; have e6 := C3.cell (i := 6) rfl; simp only [vOf, Option.getD_none, Option.getD_some, Option.isSome_none, Option.isSome_some] at e1 e2 e3 e4 e5 e6)
                    refine ⟨fun p hp => (by cases hp), ?_⟩
                    unfold pl
                    simp only [pickL, List.getD_cons_zero, List.getD_cons_succ]
                    go_wp2_with (refine wpList_store_abs rfl 113 _ _ rfl w.heap.size _ (chCells id none (some v)) rfl rfl HR.out info_change rfl (chCells_one id none (some v)) ?_; intro W2 hW2 hU; have C3 := HCc.out.upd hU (by omega); have e1 := C3.cell (i := 1) rfl; have e2 := C3.cell (i := 2) rfl; have e3 := C3.cell (i := 3) rfl; have e4 := C3.cell (i := 4) rfl; have e5 := C3.cell (i := 5) rfl; have e6 := C3.cell (i := 6) rfl; simp only [vOf, Option.getD_none, Option.getD_some, Option.isSome_none, Option.isSome_some] at e1 e2 e3 e4 e5 e6)
                    refine ⟨fun p hp => (by cases hp), ?_⟩
                    unfold pl
                    refine ⟨rfl, trivial, ?_⟩
                    go_wp2
                    go_meet
                    case rel => exact ⟨by rw [HD.out], HG.out.trans (hU.below (Nat.le_refl _)), hW2⟩
                · simp only [pickL, List.getD_cons_zero, List.getD_cons_succ]
                  go_wp2_with (refine wpList_store_abs rfl 113 _ _ rfl w.heap.size _ (chCells id none (some v)) rfl rfl HR.out info_change rfl (chCells_one id none (some v)) ?_; intro W2 hW2 hU; have C3 := HCc.out.upd hU (by omega); have e1 := C3.cell (i := 1) rfl; have e2 := C3.cell (i := 2) rfl; have e3 := C3.cell (i := 3) rfl; have e4 := C3.cell (i := 4) rfl; have e5 := C3.cell (i := 5) rfl; have e6 := C3.cell (i := 6) rfl; simp only [vOf, Option.getD_none, Option.getD_some, Option.isSome_none, Option.isSome_some] at e1 e2 e3 e4 e5 e6)
                  refine ⟨fun p hp => (by cases hp), ?_⟩
                  unfold pl
                  simp only [pickL, List.getD_cons_zero, List.getD_cons_succ]
                  go_wp2_with (refine wpList_store_abs rfl 113 _ _ rfl w.heap.size _ (chCells id none (some v)) rfl rfl HR.out info_change rfl (chCells_one id none (some v)) ?_; intro W2 hW2 hU; have C3 := HCc.out.upd hU (by omega); have e1 := C3.cell (i := 1) rfl; have e2 := C3.cell (i := 2) rfl; have e3 := C3.cell (i := 3) rfl; have e4 := C3.cell (i := 4) rfl; have e5 := C3.cell (i := 5) rfl; have e6 := C3.cell (i := 6) rfl; simp only [vOf, Option.getD_none, Option.getD_some, Option.isSome_none, Option.isSome_some] at e1 e2 e3 e4 e5 e6)
                  refine ⟨fun p hp => (by cases hp), ?_⟩
                  unfold pl
                  refine ⟨rfl, trivial, ?_⟩
                  go_wp2
                  go_meet
                  case rel => exact ⟨by rw [HD.out], HG.out.trans (hU.below (Nat.le_refl _)), hW2⟩
              · simp only [pickL, List.getD_cons_zero, List.getD_cons_succ]
                go_wp2_with (refine wpList_store_abs rfl 113 _ _ rfl w.heap.size _ (chCells id none (some v)) rfl rfl HR.out info_change rfl (chCells_one id none (some v)) ?_; intro W2 hW2 hU; have C3 := HCc.out.upd hU (by omega); have e1 := C3.cell (i := 1) rfl; have e2 := C3.cell (i := 2) rfl; have e3 := C3.cell (i := 3) rfl; have e4 := C3.cell (i := 4) rfl; have e5 := C3.cell (i := 5) rfl; have e6 := C3.cell (i := 6) rfl; simp only [vOf, Option.getD_none, Option.getD_some, Option.isSome_none, Option.isSome_some] at e1 e2 e3 e4 e5 e6)
                refine ⟨fun p hp => (by cases hp), ?_⟩
                unfold pl
                refine ⟨?_, ?_⟩
                · simp only [pickL, List.getD_cons_zero, List.getD_cons_succ]
                  go_wp2_with (refine wpList_store_abs rfl 113 _ _ rfl w.heap.size _ (chCells id none (some v)) rfl rfl HR.out info_change rfl (chCells_one id none (some v)) ?_; intro W2 hW2 hU; have C3 := HCc.out.upd hU (by omega); have e1 := C3.cell (i := 1) rfl; have e2 := C3.cell (i := 2) rfl; have e3 := C3.cell (i := 3) rfl; have e4 := C3.cell (i := 4) rfl; have e5 := C3.cell (i := 5) rfl; have e6 := C3.cell (i := 6) rfl; simp only [vOf, Option.getD_none, Option.getD_some, Option.isSome_none, Option.isSome_some] at e1 e2 e3 e4 e5 e6)
                  refine ⟨fun p hp => (by cases hp), ?_⟩
                  unfold pl
                  refine ⟨?_, ?_⟩
                  · simp only [pickL, List.getD_cons_zero, List.getD_cons_succ]
                    go_wp2_with (refine wpList_store_abs rfl 113 _ _ rfl w.heap.size _ (chCells id none (some v)) rfl rfl HR.out info_change rfl (chCells_one id none (some v)) ?_; intro W2 hW2 hU; have C3 := HCc.out.upd hU (by omega); have e1 := C3.cell (i := 1) rfl; have e2 := C3.cell (i := 2) rfl; have e3 := C3.cell (i := 3) rfl; have e4 := C3.cell (i := 4) rfl; have e5 := C3.cell (i := 5) rfl; have e6 := C3.cell (i := 6) rfl; simp only [vOf, Option.getD_none, Option.getD_some, Option.isSome_none, Option.isSome_some] at e1 e2 e3 e4 e5 e6)
                    refine ⟨fun p hp => (by cases hp), ?_⟩
                    unfold pl
                    simp only [pickL, List.getD_cons_zero, List.getD_cons_succ]
                    go_wp2_with (refine wpList_store_abs rfl 113 _ _ rfl w.heap.size _ (chCells id none (some v)) rfl rfl HR.out info_change rfl (chCells_one id none (some v)) ?_; intro W2 hW2 hU; have C3 := HCc.out.upd hU (by omega); have e1 := C3.cell (i := 1) rfl; have e2 := C3.cell (i := 2) rfl; have e3 := C3.cell (i := 3) rfl; have e4 := C3.cell (i := 4) rfl; have e5 := C3.cell (i := 5) rfl; have e6 := C3.cell (i := 6) rfl; simp only [vOf, Option.getD_none, Option.getD_some, Option.isSome_none, Option.isSome_some] at e1 e2 e3 e4 e5 e6)
                    refine ⟨fun p hp => (by cases hp), ?_⟩
                    unfold pl
                    refine ⟨rfl, trivial, ?_⟩
                    go_wp2
                    go_meet
                    case rel => exact ⟨by rw [HD.out], HG.out.trans (hU.below (Nat.le_refl _)), hW2⟩
                  · simp only [pickL, List.getD_cons_zero, List.getD_cons_succ]
                    go_wp2_with (refine wpList_store_abs rfl 113 _ _ rfl w.heap.size _ (chCells id none (some v)) rfl rfl HR.out info_change rfl (chCells_one id none (some v)) ?_; intro W2 hW2 hU; have C3 := HCc.out.upd hU (by omega); have e1 := C3.cell (i := 1) rfl; have e2 := C3.cell (i := 2) rfl; have e3 := C3.cell (i := 3) rfl; have e4 := C3.cell (i := 4) rfl; have e5 := C3.cell (i := 5) rfl; have e6 := C3.cell (i := 6) rfl; simp only [vOf, Option.getD_none, Option.getD_some, Option.isSome_none, Option.isSome_some] at e1 e2 e3 e4 e5 e6)
                    refine ⟨fun p hp => (by cases hp), ?_⟩
                    unfold pl
                    simp only [pickL, List.getD_cons_zero, List.getD_cons_succ]
                    go_wp2_with (refine wpList_store_abs rfl 113 _ _ rfl w.heap.size _ (chCells id none (some v)) rfl rfl HR.out info_change rfl (chCells_one id none (some v)) ?_; intro W2 hW2 hU; have C3 := HCc.out.upd hU (by omega); have e1 := C3.cell (i := 1) rfl; have e2 := C3.cell (i := 2) rfl; have e3 := C3.cell (i := 3) rfl; have e4 := C3.cell (i := 4) rfl; have e5 := C3.cell (i := 5) rfl; have e6 := C3.cell (i := 6) rfl; simp only [vOf, Option.getD_none, Option.getD_some, Option.isSome_none, Option.isSome_some] at e1 e2 e3 e4 e5 e6)
                    refine ⟨fun p hp => (by cases hp), ?_⟩
                    unfold pl
                    refine ⟨rfl, trivial, ?_⟩
                    go_wp2
                    go_meet
                    case rel => exact ⟨by rw [HD.out], HG.out.trans (hU.below (Nat.le_refl _)), hW2⟩
                · simp only [pickL, List.getD_cons_zero, List.getD_cons_succ]
                  go_wp2_with (refine wpList_store_abs rfl 113 _ _ rfl w.heap.size _ (chCells id none (some v)) rfl rfl HR.out info_change rfl (chCells_one id none (some v)) ?_; intro W2 hW2 hU; have C3 := HCc.out.upd hU (by omega); have e1 := C3.cell (i := 1) rfl; have e2 := C3.cell (i := 2) rfl; have e3 := C3.cell (i := 3) rfl; have e4 := C3.cell (i := 4) rfl; have e5 := C3.cell (i := 5) rfl; have e6 := C3.cell (i := 6) rfl; simp only [vOf, Option.getD_none, Option.getD_some, Option.isSome_none, Option.isSome_some] at e1 e2 e3 e4 e5 e6)
                  refine ⟨fun p hp => (by cases hp), ?_⟩
                  unfold pl
                  simp only [pickL, List.getD_cons_zero, List.getD_cons_succ]
                  go_wp2_with (refine wpList_store_abs rfl 113 _ _ rfl w.heap.size _ (chCells id none (some v)) rfl rfl HR.out info_change rfl (chCells_one id none (some v)) ?_; intro W2 hW2 hU; have C3 := HCc.out.upd hU (by omega); have e1 := C3.cell (i := 1) rfl; have e2 := C3.cell (i := 2) rfl; have e3 := C3.cell (i := 3) rfl; have e4 := C3.cell (i := 4) rfl; have e5 := C3.cell (i := 5) rfl; have e6 := C3.cell (i := 6) rfl; simp only [vOf, Option.getD_none, Option.getD_some, Option.isSome_none, Option.isSome_some] at e1 e2 e3 e4 e5 e6)
                  refine ⟨fun p hp => (by cases hp), ?_⟩
                  unfold pl
                  refine ⟨rfl, trivial, ?_⟩
                  go_wp2
                  go_meet
                  case rel => exact ⟨by rw [HD.out], HG.out.trans (hU.below (Nat.le_refl _)), hW2⟩
            · simp only [pickL, List.getD_cons_zero, List.getD_cons_succ]
              go_wp2_with (refine wpList_store_abs rfl 113 _ _ rfl w.heap.size _ (chCells id none (some v)) rfl rfl HR.out info_change rfl (chCells_one id none (some v)) ?_; intro W2 hW2 hU; have C3 := HCc.out.upd hU (by omega); have e1 := C3.cell (i := 1) rfl; have e2 := C3.cell (i := 2) rfl; have e3 := C3.cell (i := 3) rfl; have e4 := C3.cell (i := 4) rfl; have e5 := C3.cell (i := 5) rfl; have e6 := C3.cell (i := 6) rfl; simp only [vOf, Option.getD_none, Option.getD_some, Option.isSome_none, Option.isSome_some] at e1 e2 e3 e4 e5 e6)
              refine ⟨fun p hp => (by cases hp), ?_⟩
              unfold pl
              refine ⟨?_, ?_⟩
              · simp only [pickL, List.getD_cons_zero, List.getD_cons_succ]
                go_wp2_with (refine wpList_store_abs rfl 113 _ _ rfl w.heap.size _ (chCells id none (some v)) rfl rfl HR.out info_change rfl (chCells_one id none (some v)) ?_; intro W2 hW2 hU; have C3 := HCc.out.upd hU (by omega); have e1 := C3.cell (i := 1) rfl; have e2 := C3.cell (i := 2) rfl; have e3 := C3.cell (i := 3) rfl; have e4 := C3.cell (i := 4) rfl; have e5 := C3.cell (i := 5) rfl; have e6 := C3.cell (i := 6) rfl; simp only [vOf, Option.getD_none, Option.getD_some, Option.isSome_none, Option.isSome_some] at e1 e2 e3 e4 e5 e6)
                refine ⟨fun p hp => (by cases hp), ?_⟩
                unfold pl
                refine ⟨?_, ?_⟩
                · simp only [pickL, List.getD_cons_zero, List.getD_cons_succ]
                  go_wp2_with (refine wpList_store_abs rfl 113 _ _ rfl w.heap.size _ (chCells id none (some v)) rfl rfl HR.out info_change rfl (chCells_one id none (some v)) ?_; intro W2 hW2 hU; have C3 := HCc.out.upd hU (by omega); have e1 := C3.cell (i := 1) rfl; have e2 := C3.cell (i := 2) rfl; have e3 := C3.cell (i := 3) rfl; have e4 := C3.cell (i := 4) rfl; have e5 := C3.cell (i := 5) rfl; have e6 := C3.cell (i := 6) rfl; simp only [vOf, Option.getD_none, Option.getD_some, Option.isSome_none, Option.isSome_some] at e1 e2 e3 e4 e5 e6)
                  refine ⟨fun p hp => (by cases hp), ?_⟩
                  unfold pl
                  refine ⟨?_, ?_⟩
                  · simp only [pickL, List.getD_cons_zero, List.getD_cons_succ]
                    go_wp2_with (refine wpList_store_abs rfl 113 _ _ rfl w.heap.size _ (chCells id none (some v)) rfl rfl HR.out info_change rfl (chCells_one id none (some v)) ?_; intro W2 hW2 hU; have C3 := HCc.out.upd hU (by omega); have e1 := C3.cell (i := 1) rfl; have e2 := C3.cell (i := 2) rfl; have e3 := C3.cell (i := 3) rfl; have e4 := C3.cell (i := 4) rfl; have e5 := C3.cell (i := 5) rfl; have e6 := C3.cell (i := 6) rfl; simp only [vOf, Option.getD_none, Option.getD_some, Option.isSome_none, Option.isSome_some] at e1 e2 e3 e4 e5 e6)
                    refine ⟨fun p hp => (by cases hp), ?_⟩
                    unfold pl
                    simp only [pickL, List.getD_cons_zero, List.getD_cons_succ]
                    go_wp2_with (refine wpList_store_abs rfl 113 _ _ rfl w.heap.size _ (chCells id none (some v)) rfl rfl HR.out info_change rfl (chCells_one id none (some v)) ?_; intro W2 hW2 hU; have C3 := HCc.out.upd hU (by omega); have e1 := C3.cell (i := 1) rfl; have e2 := C3.cell (i := 2) rfl; have e3 := C3.cell (i := 3) rfl; have e4 := C3.cell (i := 4) rfl; have e5 := C3.cell (i := 5) rfl; have e6 := C3.cell (i := 6) rfl; simp only [vOf, Option.getD_none, Option.getD_some, Option.isSome_none, Option.isSome_some] at e1 e2 e3 e4 e5 e6)
                    refine ⟨fun p hp => (by cases hp), ?_⟩
                    unfold pl
                    refine ⟨rfl, trivial, ?_⟩
                    go_wp2
                    go_meet
                    case rel => exact ⟨by rw [HD.out], HG.out.trans (hU.below (Nat.le_refl _)), hW2⟩
                  · simp only [pickL, List.getD_cons_zero, List.getD_cons_succ]
                    go_wp2_with (refine wpList_store_abs rfl 113 _ _ rfl w.heap.size _ (chCells id none (some v)) rfl rfl HR.out info_change rfl (chCells_one id none (some v)) ?_; intro W2 hW2 hU; have C3 := HCc.out.upd hU (by omega); have e1 := C3.cell (i := 1) rfl; have e2 := C3.cell (i := 2) rfl; have e3 := C3.cell (i := 3) rfl; have e4 := C3.cell (i := 4) rfl; have e5 := C3.cell (i := 5) rfl; have e6 := C3.cell (i := 6) rfl; simp only [vOf, Option.getD_none, Option.getD_some, Option.isSome_none, Option.isSome_some] at e1 e2 e3 e4 e5 e6)
                    refine ⟨fun p hp => (by cases hp), ?_⟩
                    unfold pl
                    simp only [pickL, List.getD_cons_zero, List.getD_cons_succ]
                    go_wp2_with (refine wpList_store_abs rfl 113 _ _ rfl w.heap.size _ (chCells id none (some v)) rfl rfl HR.out info_change rfl (chCells_one id none (some v)) ?_; intro W2 hW2 hU; have C3 := HCc.out.upd hU (by omega); have e1 := C3.cell (i := 1) rfl; have e2 := C3.cell (i := 2) rfl; have e3 := C3.cell (i := 3) rfl; have e4 := C3.cell (i := 4) rfl; have e5 := C3.cell (i := 5) rfl; have e6 := C3.cell (i := 6) rfl; simp only [vOf, Option.getD_none, Option.getD_some, Option.isSome_none, Option.isSome_some] at e1 e2 e3 e4 e5 e6)
                    refine ⟨fun p hp => (by cases hp), ?_⟩
                    unfold pl
                    refine ⟨rfl, trivial, ?_⟩
                    go_wp2
                    go_meet
                    case rel => exact ⟨by rw [HD.out], HG.out.trans (hU.below (Nat.le_refl _)), hW2⟩
                · simp only [pickL, List.getD_cons_zero, List.getD_cons_succ]
                  go_wp2_with (refine wpList_store_abs rfl 113 _ _ rfl w.heap.size _ (chCells id none (some v)) rfl rfl HR.out info_change rfl (chCells_one id none (some v)) ?_; intro W2 hW2 hU; have C3 := HCc.out.upd hU (by omega); have e1 := C3.cell (i := 1) rfl; have e2 := C3.cell (i := 2) rfl; have e3 := C3.cell (i := 3) rfl; have e4 := C3.cell (i := 4) rfl; have e5 := C3.cell (i := 5) rfl; have e6 := C3.cell (i := 6) rfl; simp only [vOf, Option.getD_none, Option.getD_some, Option.isSome_none, Option.isSome_some] at e1 e2 e3 e4 e5 e6)
                  refine ⟨fun p hp => (by cases hp), ?_⟩
                  unfold pl
                  simp only [pickL, List.getD_cons_zero, List.getD_cons_succ]
                  go_wp2_with (refine wpList_store_abs rfl 113 _ _ rfl w.heap.size _ (chCells id none (some v)) rfl rfl HR.out info_change rfl (chCells_one id none (some v)) ?_; intro W2 hW2 hU; have C3 := HCc.out.upd hU (by omega); have e1 := C3.cell (i := 1) rfl; have e2 := C3.cell (i := 2) rfl; have e3 := C3.cell (i := 3) rfl; have e4 := C3.cell (i := 4) rfl; have e5 := C3.cell (i := 5) rfl; have e6 := C3.cell (i := 6) rfl; simp only [vOf, Option.getD_none, Option.getD_some, Option.isSome_none, Option.isSome_some] at e1 e2 e3 e4 e5 e6)
                  refine ⟨fun p hp => (by cases hp), ?_⟩
                  unfold pl
                  refine ⟨rfl, trivial, ?_⟩
                  go_wp2
                  go_meet
                  case rel => exact ⟨by rw [HD.out], HG.out.trans (hU.below (Nat.le_refl _)), hW2⟩
              · simp only [pickL, List.getD_cons_zero, List.getD_cons_succ]
                go_wp2_with (refine wpList_store_abs rfl 113 _ _ rfl w.heap.size _ (chCells id none (some v)) rfl rfl HR.out info_change rfl (chCells_one id none (some v)) ?_; intro W2 hW2 hU; have C3 := HCc.out.upd hU (by omega); have e1 := C3.cell (i := 1) rfl; have e2 := C3.cell (i := 2) rfl; have e3 := C3.cell (i := 3) rfl; have e4 := C3.cell (i := 4) rfl; have e5 := C3.cell (i := 5) rfl; have e6 := C3.cell (i := 6) rfl; simp only [vOf, Option.getD_none, Option.getD_some, Option.isSome_none, Option.isSome_some] at e1 e2 e3 e4 e5 e6)
                refine ⟨fun p hp => (by cases hp), ?_⟩
                unfold pl
                refine ⟨?_, ?_⟩
                · simp only [pickL, List.getD_cons_zero, List.getD_cons_succ]
                  go_wp2_with (refine wpList_store_abs rfl 113 _ _ rfl w.heap.size _ (chCells id none (some v)) rfl rfl HR.out info_change rfl (chCells_one id none (some v)) ?_; intro W2 hW2 hU; have C3 := HCc.out.upd hU (by omega); have e1 := C3.cell (i := 1) rfl; have e2 := C3.cell (i := 2) rfl; have e3 := C3.cell (i := 3) rfl; have e4 := C3.cell (i := 4) rfl; have e5 := C3.cell (i := 5) rfl; have e6 := C3.cell (i := 6) rfl; simp only [vOf, Option.getD_none, Option.getD_some, Option.isSome_none, Option.isSome_some] at e1 e2 e3 e4 e5 e6)
                  refine ⟨fun p hp => (by cases hp), ?_⟩
                  unfold pl
                  refine ⟨?_, ?_⟩
                  · simp only [pickL, List.getD_cons_zero, List.getD_cons_succ]
                    go_wp2_with (refine wpList_store_abs rfl 113 _ _ rfl w.heap.size _ (chCells id none (some v)) rfl rfl HR.out info_change rfl (chCells_one id none (some v)) ?_; intro W2 hW2 hU; have C3 := HCc.out.upd hU (by omega); have e1 := C3.cell (i := 1) rfl; have e2 := C3.cell (i := 2) rfl; have e3 := C3.cell (i := 3) rfl; have e4 := C3.cell (i := 4) rfl; have e5 := C3.cell (i := 5) rfl; have e6 := C3.cell (i := 6) rfl; simp only [vOf, Option.getD_none, Option.getD_some, Option.isSome_none, Option.isSome_some] at e1 e2 e3 e4 e5 e6)
                    refine ⟨fun p hp => (by cases hp), ?_⟩
                    unfold pl
                    simp only [pickL, List.getD_cons_zero, List.getD_cons_succ]
                    go_wp2_with (refine wpList_store_abs rfl 113 _ _ rfl w.heap.size _ (chCells id none (some v)) rfl rfl HR.out info_change rfl (chCells_one id none (some v)) ?_; intro W2 hW2 hU; have C3 := HCc.out.upd hU (by omega); have e1 := C3.cell (i := 1) rfl; have e2 := C3.cell (i := 2) rfl; have e3 := C3.cell (i := 3) rfl; have e4 := C3.cell (i := 4) rfl; have e5 := C3.cell (i := 5) rfl; have e6 := C3.cell (i := 6) rfl; simp only [vOf, Option.getD_none, Option.getD_some, Option.isSome_none, Option.isSome_some] at e1 e2 e3 e4 e5 e6)
                    refine ⟨fun p hp => (by cases hp), ?_⟩
                    unfold pl
                    refine ⟨rfl, trivial, ?_⟩
                    go_wp2
                    go_meet
                    case rel => exact ⟨by rw [HD.out], HG.out.trans (hU.below (Nat.le_refl _)), hW2⟩
                  · simp only [pickL, List.getD_cons_zero, List.getD_cons_succ]
                    go_wp2_with (refine wpList_store_abs rfl 113 _ _ rfl w.heap.size _ (chCells id none (some v)) rfl rfl HR.out info_change rfl (chCells_one id none (some v)) ?_; intro W2 hW2 hU; have C3 := HCc.out.upd hU (by omega); have e1 := C3.cell (i := 1) rfl; have e2 := C3.cell (i := 2) rfl; have e3 := C3.cell (i := 3) rfl; have e4 := C3.cell (i := 4) rfl; have e5 := C3.cell (i := 5) rfl; have e6 := C3.cell (i := 6) rfl; simp only [vOf, Option.getD_none, Option.getD_some, Option.isSome_none, Option.isSome_some] at e1 e2 e3 e4 e5 e6)
                    refine ⟨fun p hp => (by cases hp), ?_⟩
                    unfold pl
                    simp only [pickL, List.getD_cons_zero, List.getD_cons_succ]
                    go_wp2_with (refine wpList_store_abs rfl 113 _ _ rfl w.heap.size _ (chCells id none (some v)) rfl rfl HR.out info_change rfl (chCells_one id none (some v)) ?_; intro W2 hW2 hU; have C3 := HCc.out.upd hU (by omega); have e1 := C3.cell (i := 1) rfl; have e2 := C3.cell (i := 2) rfl; have e3 := C3.cell (i := 3) rfl; have e4 := C3.cell (i := 4) rfl; have e5 := C3.cell (i := 5) rfl; have e6 := C3.cell (i := 6) rfl; simp only [vOf, Option.getD_none, Option.getD_some, Option.isSome_none, Option.isSome_some] at e1 e2 e3 e4 e5 e6)
                    refine ⟨fun p hp => (by cases hp), ?_⟩
                    unfold pl
                    refine ⟨rfl, trivial, ?_⟩
                    go_wp2
                    go_meet
                    case rel => exact ⟨by rw [HD.out], HG.out.trans (hU.below (Nat.le_refl _)), hW2⟩
                · simp only [pickL, List.getD_cons_zero, List.getD_cons_succ]
                  go_wp2_with (refine wpList_store_abs rfl 113 _ _ rfl w.heap.size _ (chCells id none (some v)) rfl rfl HR.out info_change rfl (chCells_one id none (some v)) ?_; intro W2 hW2 hU; have C3 := HCc.out.upd hU (by omega); have e1 := C3.cell (i := 1) rfl; have e2 := C3.cell (i := 2) rfl; have e3 := C3.cell (i := 3) rfl; have e4 := C3.cell (i := 4) rfl; have e5 := C3.cell (i := 5) rfl; have e6 := C3.cell (i := 6) rfl; simp only [vOf, Option.getD_none, Option.getD_some, Option.isSome_none, Option.isSome_some] at e1 e2 e3 e4 e5 e6)
                  refine ⟨fun p hp => (by cases hp), ?_⟩
                  unfold pl
                  simp only [pickL, List.getD_cons_zero, List.getD_cons_succ]
                  go_wp2_with (refine wpList_store_abs rfl 113 _ _ rfl w.heap.size _ (chCells id none (some v)) rfl rfl HR.out info_change rfl (chCells_one id none (some v)) ?_; intro W2 hW2 hU; have C3 := HCc.out.upd hU (by omega); have e1 := C3.cell (i := 1) rfl; have e2 := C3.cell (i := 2) rfl; have e3 := C3.cell (i := 3) rfl; have e4 := C3.cell (i := 4) rfl; have e5 := C3.cell (i := 5) rfl; have e6 := C3.cell (i := 6) rfl; simp only [vOf, Option.getD_none, Option.getD_some, Option.isSome_none, Option.isSome_some] at e1 e2 e3 e4 e5 e6)
                  refine ⟨fun p hp => (by cases hp), ?_⟩
                  unfold pl
                  refine ⟨rfl, trivial, ?_⟩
                  go_wp2
                  go_meet
                  case rel => exact ⟨by rw [HD.out], HG.out.trans (hU.below (Nat.le_refl _)), hW2⟩
        | some u =>
          cases Y with
          | none =>
            have hd : decide (some u ≠ (none : Option V)) = true := by simp
            have HD := Lib.hid hd
            clear hd
            simp only [vOf, Option.getD_none, Option.getD_some, Option.isSome_none, Option.isSome_some] at c0 c1 c2' c3 c4 c5 c6
            refine rgnT (.seg [1, 2, 3, 4, 5, 6, 7, 9] (.three 0 8 10 (.three 8 10 13 (.two 10 13 (.two 11 13 (.seg [12, 13, 14] .fin) (.seg [11, 12, 14] .fin)) (.seg [10, 11, 12, 14] .fin)) (.two 8 13 (.two 11 13 (.seg [12, 13, 14] .fin) (.seg [11, 12, 14] .fin)) (.seg [8, 11, 12, 14] .fin)) (.seg [8, 10, 11, 12, 14] .fin)) (.two 0 10 (.two 10 13 (.two 11 13 (.seg [12, 13, 14] .fin) (.seg [11, 12, 14] .fin)) (.seg [10, 11, 12, 14] .fin)) (.two 0 11 (.two 11 13 (.seg [12, 13, 14] .fin) (.seg [11, 12, 14] .fin)) (.seg [0, 12, 13, 14] .fin))) (.two 0 8 (.two 8 13 (.two 11 13 (.seg [12, 13, 14] .fin) (.seg [11, 12, 14] .fin)) (.seg [8, 11, 12, 14] .fin)) (.two 0 11 (.two 11 13 (.seg [12, 13, 14] .fin) (.seg [11, 12, 14] .fin)) (.seg [0, 12, 13, 14] .fin))))) [5] [] [] (by kernel_rfl) (by simp) ?_ ?_
            · intro p hp; cases hp
            unfold pl
            simp only [pickL, List.getD_cons_zero, List.getD_cons_succ]
            go_wp2_with (refine wpList_store_abs rfl 113 _ _ rfl w.heap.size _ (chCells id (some u) none) rfl rfl HR.out info_change rfl (chCells_one id (some u) none) ?_; intro W2 hW2 hU; have C3 := HCc.out.upd hU (by omega); have e1 := C3.cell (i := 1) rfl; have e2 := C3.cell (i := 2) rfl; have e3 := C3.cell (i := 3) rfl; have e4 := C3.cell (i := 4) rfl; have e5 := C3.cell (i := 5) rfl; have e6 := C3.cell (i := 6) rfl; simp only [vOf, Option.getD_none, Option.getD_some, Option.isSome_none, Option.isSome_some] at e1 e2 e3 e4 e5 e6)
            refine ⟨fun p hp => (by cases hp), ?_⟩
            unfold pl
            refine ⟨?_, ?_, ?_⟩
            · simp only [pickL, List.getD_cons_zero, List.getD_cons_succ]
              go_wp2_with (refine wpList_store_abs rfl 113 _ _ rfl w.heap.size _ (chCells id (some u) none) rfl rfl HR.out info_change rfl (chCells_one id (some u) none) ?_; intro W2 hW2 hU; have C3 := HCc.out.upd hU (by omega); have e1 := C3.cell (i := 1) rfl; have e2 := C3.cell (i := 2) rfl; have e3 := C3.cell (i := 3) rfl; have e4 := C3.cell (i := 4) rfl; have e5 := C3.cell (i := 5) rfl; have e6 := C3.cell (i := 6) rfl; simp only [vOf, Option.getD_none, Option.getD_some, Option.isSome_none, Option.isSome_some] at e1 e2 e3 e4 e5 e6)
              refine ⟨fun p hp => (by cases hp), ?_⟩
              unfold pl
              refine ⟨?_, ?_, ?_⟩
              · simp only [pickL, List.getD_cons_zero, List.getD_cons_succ]
                go_wp2_with (refine wpList_store_abs rfl 113 _ _ rfl w.heap.size _ (chCells id (some u) none) rfl rfl HR.out info_change rfl (chCells_one id (some u) none) ?_; intro W2 hW2 hU; have C3 := HCc.out.upd hU (by omega); have e1 := C3.cell (i := 1) rfl; have e2 := C3.cell (i := 2) rfl; have e3 := C3.cell (i := 3) rfl; have e4 := C3.cell (i := 4) rfl; have e5 := C3.cell (i := 5) rfl; have e6 := C3.cell (i := 6) rfl; simp only [vOf, Option.getD_none, Option.getD_some, Option.isSome_none, Option.isSome_some] at e1 e2 e3 e4 e5 e6)
                refine ⟨fun p hp => (by cases hp), ?_⟩
                unfold pl
                refine ⟨?_, ?_⟩
                · simp only [pickL, List.getD_cons_zero, List.getD_cons_succ]
                  go_wp2_with (refine wpList_store_abs rfl 113 _ _ rfl w.heap.size _ (chCells id (some u) none) rfl rfl HR.out info_change rfl (chCells_one id (some u) none) ?_; intro W2 hW2 hU; have C3 := HCc.out.upd hU (by omega); have e1 := C3.cell (i := 1) rfl; have e2 := C3.cell (i := 2) rfl; have e3 := C3.cell (i := 3) rfl; have e4 := C3.cell (i := 4) rfl; have e5 := C3.cell (i := 5) rfl; have e6 := C3.cell (i := 6) rfl; simp only [vOf, Option.getD_none, Option.getD_some, Option.isSome_none, Option.isSome_some] at e1 e2 e3 e4 e5 e6)
                  refine ⟨fun p hp => (by cases hp), ?_⟩
                  unfold pl
                  refine ⟨?_, ?_⟩
                  · simp only [pickL, List.getD_cons_zero, List.getD_cons_succ]
                    go_wp2_with (refine wpList_store_abs rfl 113 _ _ rfl w.heap.size _ (chCells id (some u) none) rfl rfl HR.out info_change rfl (chCells_one id (some u) none) ?_; intro W2 hW2 hU; have C3 := HCc.out.upd hU (by omega); have e1 := C3.cell (i := 1) rfl; have e2 := C3.cell (i := 2) rfl; have e3 := C3.cell (i := 3) rfl; have e4 := C3.cell (i := 4) rfl; have e5 := C3.cell (i := 5) rfl; have e6 := C3.cell (i := 6) rfl; simp only [vOf, Option.getD_none, Option.getD_some, Option.isSome_none, Option.isSome_some] at e1 e2 e3 e4 e5 e6)
                    refine ⟨fun p hp => (by cases hp), ?_⟩
                    unfold pl
                    simp only [pickL, List.getD_cons_zero, List.getD_cons_succ]
                    go_wp2_with (refine wpList_store_abs rfl 113 _ _ rfl w.heap.size _ (chCells id (some u) none) rfl rfl HR.out info_change rfl (chCells_one id (some u) none) ?_; intro W2 hW2 hU; have C3 := HCc.out.upd hU (by omega); have e1 := C3.cell (i := 1) rfl; have e2 := C3.cell (i := 2) rfl; have e3 := C3.cell (i := 3) rfl; have e4 := C3.cell (i := 4) rfl; have e5 := C3.cell (i := 5) rfl; have e6 := C3.cell (i := 6) rfl; simp only [vOf, Option.getD_none, Option.getD_some, Option.isSome_none, Option.isSome_some] at e1 e2 e3 e4 e5 e6)
                    refine ⟨fun p hp => (by cases hp), ?_⟩
                    unfold pl
                    refine ⟨rfl, trivial, ?_⟩
                    go_wp2
                    go_meet
                    case rel => exact ⟨by rw [HD.out], HG.out.trans (hU.below (Nat.le_refl _)), hW2⟩
                  · simp only [pickL, List.getD_cons_zero, List.getD_cons_succ]
                    go_wp2_with (refine wpList_store_abs rfl 113 _ _ rfl w.heap.size _ (chCells id (some u) none) rfl rfl HR.out info_change rfl (chCells_one id (some u) none) ?_; intro W2 hW2 hU; have C3 := HCc.out.upd hU (by omega); have e1 := C3.cell (i := 1) rfl; have e2 := C3.cell (i := 2) rfl; have e3 := C3.cell (i := 3) rfl; have e4 := C3.cell (i := 4) rfl; have e5 := C3.cell (i := 5) rfl; have e6 := C3.cell (i := 6) rfl; simp only [vOf, Option.getD_none, Option.getD_some, Option.isSome_none, Option.isSome_some] at e1 e2 e3 e4 e5 e6)
                    refine ⟨fun p hp => (by cases hp), ?_⟩
                    unfold pl
                    simp only [pickL, List.getD_cons_zero, List.getD_cons_succ]
                    go_wp2_with (refine wpList_store_abs rfl 113 _ _ rfl w.heap.size _ (chCells id (some u) none) rfl rfl HR.out info_change rfl (chCells_one id (some u) none) ?_; intro W2 hW2 hU; have C3 := HCc.out.upd hU (by omega); have e1 := C3.cell (i := 1) rfl; have e2 := C3.cell (i := 2) rfl; have e3 := C3.cell (i := 3) rfl; have e4 := C3.cell (i := 4) rfl; have e5 := C3.cell (i := 5) rfl; have e6 := C3.cell (i := 6) rfl; simp only [vOf, Option.getD_none, Option.getD_some, Option.isSome_none, Option.isSome_some] at e1 e2 e3 e4 e5 e6)
                    refine ⟨fun p hp => (by cases hp), ?_⟩
                    unfold pl
                    refine ⟨rfl, trivial, ?_⟩
                    go_wp2
                    go_meet
                    case rel => exact ⟨by rw [HD.out], HG.out.trans (hU.below (Nat.le_refl _)), hW2⟩
                · simp only [pickL, List.getD_cons_zero, List.getD_cons_succ]
                  go_wp2_with (refine wpList_store_abs rfl 113 _ _ rfl w.heap.size _ (chCells id (some u) none) rfl rfl HR.out info_change rfl (chCells_one id (some u) none) ?_; intro W2 hW2 hU; have C3 := HCc.out.upd hU (by omega); have e1 := C3.cell (i := 1) rfl; have e2 := C3.cell (i := 2) rfl; have e3 := C3.cell (i := 3) rfl; have e4 := C3.cell (i := 4) rfl; have e5 := C3.cell (i := 5) rfl; have e6 := C3.cell (i := 6) rfl; simp only [vOf, Option.getD_none, Option.getD_some, Option.isSome_none, Option.isSome_some] at e1 e2 e3 e4 e5 e6)
                  refine ⟨fun p hp => (by cases hp), ?_⟩
                  unfold pl
                  simp only [pickL, List.getD_cons_zero, List.getD_cons_succ]
                  go_wp2_with (refine wpList_store_abs rfl 113 _ _ rfl w.heap.size _ (chCells id (some u) none) rfl rfl HR.out info_change rfl (chCells_one id (some u) none) ?_; intro W2 hW2 hU; have C3 := HCc.out.upd hU (by omega); have e1 := C3.cell (i := 1) rfl; have e2 := C3.cell (i := 2) rfl; have e3 := C3.cell (i := 3) rfl; have e4 := C3.cell (i := 4) rfl; have e5 := C3.cell (i := 5) rfl; have e6 := C3.cell (i := 6) rfl; simp only [vOf, Option.getD_none, Option.getD_some, Option.isSome_none, Option.isSome_some] at e1 e2 e3 e4 e5 e6)
                  refine ⟨fun p hp => (by cases hp), ?_⟩
                  unfold pl
                  refine ⟨rfl, trivial, ?_⟩
                  go_wp2
                  go_meet
                  case rel => exact ⟨by rw [HD.out], HG.out.trans (hU.below (Nat.le_refl _)), hW2⟩
              · simp only [pickL, List.getD_cons_zero, List.getD_cons_succ]
                go_wp2_with (refine wpList_store_abs rfl 113 _ _ rfl w.heap.size _ (chCells id (some u) none) rfl rfl HR.out info_change rfl (chCells_one id (some u) none) ?_; intro W2 hW2 hU; have C3 := HCc.out.upd hU (by omega); have e1 := C3.cell (i := 1) rfl; have e2 := C3.cell (i := 2) rfl; have e3 := C3.cell (i := 3) rfl; have e4 := C3.cell (i := 4) rfl; have e5 := C3.cell (i := 5) rfl; have e6 := C3.cell (i := 6) rfl; simp only [vOf, Option.getD_none, Option.getD_some, Option.isSome_none, Option.isSome_some] at e1 e2 e3 e4 e5 e6)
                refine ⟨fun p hp => (by cases hp), ?_⟩
                unfold pl
                refine ⟨?_, ?_⟩
                · simp only [pickL, List.getD_cons_zero, List.getD_cons_succ]
                  go_wp2_with (refine wpList_store_abs rfl 113 _ _ rfl w.heap.size _ (chCells id (some u) none) rfl rfl HR.out info_change rfl (chCells_one id (some u) none) ?_; intro W2 hW2 hU; have C3 := HCc.out.upd hU (by omega); have e1 := C3.cell (i := 1) rfl; have e2 := C3.cell (i := 2) rfl; have e3 := C3.cell (i := 3) rfl; have e4 := C3.cell (i := 4) rfl; have e5 := C3.cell (i := 5) rfl; have e6 := C3.cell (i := 6) rfl; simp only [vOf, Option.getD_none, Option.getD_some, Option.isSome_none, Option.isSome_some] at e1 e2 e3 e4 e5 e6)
                  refine ⟨fun p hp => (by cases hp), ?_⟩
                  unfold pl
                  refine ⟨?_, ?_⟩
                  · simp only [pickL, List.getD_cons_zero, List.getD_cons_succ]
                    go_wp2_with (refine wpList_store_abs rfl 113 _ _ rfl w.heap.size _ (chCells id (some u) none) rfl rfl HR.out info_change rfl (chCells_one id (some u) none) ?_; intro W2 hW2 hU; have C3 := HCc.out.upd hU (by omega); have e1 := C3.cell (i := 1) rfl; have e2 := C3.cell (i := 2) rfl; have e3 := C3.cell (i := 3) rfl; have e4 := C3.cell (i := 4) rfl; have e5 := C3.cell (i := 5) rfl; have e6 := C3.cell (i := 6) rfl; simp only [vOf, Option.getD_none, Option.getD_some, Option.isSome_none, Option.isSome_some] at e1 e2 e3 e4 e5 e6)
                    refine ⟨fun p hp => (by cases hp), ?_⟩
                    unfold pl
                    simp only [pickL, List.getD_cons_zero, List.getD_cons_succ]
                    go_wp2_with (refine wpList_store_abs rfl 113 _ _ rfl w.heap.size _ (chCells id (some u) none) rfl rfl HR.out info_change rfl (chCells_one id (some u) none) ?_; intro W2 hW2 hU; have C3 := HCc.out.upd hU (by omega); have e1 := C3.cell (i := 1) rfl; have e2 := C3.cell (i := 2) rfl; have e3 := C3.cell (i := 3) rfl; have e4 := C3.cell (i := 4) rfl; have e5 := C3.cell (i := 5) rfl; have e6 := C3.cell (i := 6) rfl; simp only [vOf, Option.getD_none, Option.getD_some, Option.isSome_none, Option.isSome_some] at e1 e2 e3 e4 e5 e6)
                    refine ⟨fun p hp => (by cases hp), ?_⟩
                    unfold pl
                    refine ⟨rfl, trivial, ?_⟩
                    go_wp2
                    go_meet
                    case rel => exact ⟨by rw [HD.out], HG.out.trans (hU.below (Nat.le_refl _)), hW2⟩
                  · simp only [pickL, List.getD_cons_zero, List.getD_cons_succ]
                    go_wp2_with (refine wpList_store_abs rfl 113 _ _ rfl w.heap.size _ (chCells id (some u) none) rfl rfl HR.out info_change rfl (chCells_one id (some u) none) ?_; intro W2 hW2 hU; have C3 := HCc.out.upd hU (by omega); have e1 := C3.cell (i := 1) rfl; have e2 := C3.cell (i := 2) rfl; have e3 := C3.cell (i := 3) rfl; have e4 := C3.cell (i := 4) rfl; have e5 := C3.cell (i := 5) rfl; have e6 := C3.cell (i := 6) rfl; simp only [vOf, Option.getD_none, Option.getD_some, Option.isSome_none, Option.isSome_some] at e1 e2 e3 e4 e5 e6)
                    refine ⟨fun p hp => (by cases hp), ?_⟩
                    unfold pl
                    simp only [pickL, List.getD_cons_zero, List.getD_cons_succ]
                    go_wp2_with (refine wpList_store_abs rfl 113 _ _ rfl w.heap.size _ (chCells id (some u) none) rfl rfl HR.out info_change rfl (chCells_one id (some u) none) ?_; intro W2 hW2 hU; have C3 := HCc.out.upd hU (by omega); have e1 := C3.cell (i := 1) rfl; have e2 := C3.cell (i := 2) rfl; have e3 := C3.cell (i := 3) rfl; have e4 := C3.cell (i := 4) rfl; have e5 := C3.cell (i := 5) rfl; have e6 := C3.cell (i := 6) rfl; simp only [vOf, Option.getD_none, Option.getD_some, Option.isSome_none, Option.isSome_some] at e1 e2 e3 e4 e5 e6)
                    refine ⟨fun p hp => (by cases hp), ?_⟩
                    unfold pl
                    refine ⟨rfl, trivial, ?_⟩
                    go_wp2
                    go_meet
                    case rel => exact ⟨by rw [HD.out], HG.out.trans (hU.below (Nat.le_refl _)), hW2⟩
                · simp only [pickL, List.getD_cons_zero, List.getD_cons_succ]
                  go_wp2_with (refine wpList_store_abs rfl 113 _ _ rfl w.heap.size _ (chCells id (some u) none) rfl rfl HR.out info_change rfl (chCells_one id (some u) none) ?_; intro W2 hW2 hU; have C3 := HCc.out.upd hU (by omega); have e1 := C3.cell (i := 1) rfl; have e2 := C3.cell (i := 2) rfl; have e3 := C3.cell (i := 3) rfl; have e4 := C3.cell (i := 4) rfl; have e5 := C3.cell (i := 5) rfl; have e6 := C3.cell (i := 6) rfl; simp only [vOf, Option.getD_none, Option.getD_some, Option.isSome_none, Option.isSome_some] at e1 e2 e3 e4 e5 e6)
                  refine ⟨fun p hp => (by cases hp), ?_⟩
                  unfold pl
                  simp only [pickL, List.getD_cons_zero, List.getD_cons_succ]
                  go_wp2_with (refine wpList_store_abs rfl 113 _ _ rfl w.heap.size _ (chCells id (some u) none) rfl rfl HR.out info_change rfl (chCells_one id (some u) none) ?_; intro W2 hW2 hU; have C3 := HCc.out.upd hU (by omega); have e1 := C3.cell (i := 1) rfl; have e2 := C3.cell (i := 2) rfl; have e3 := C3.cell (i := 3) rfl; have e4 := C3.cell (i := 4) rfl; have e5 := C3.cell (i := 5) rfl; have e6 := C3.cell (i := 6) rfl; simp only [vOf, Option.getD_none, Option.getD_some, Option.isSome_none, Option.isSome_some] at e1 e2 e3 e4 e5 e6)
                  refine ⟨fun p hp => (by cases hp), ?_⟩
                  unfold pl
                  refine ⟨rfl, trivial, ?_⟩
                  go_wp2
                  go_meet
                  case rel => exact ⟨by rw [HD.out], HG.out.trans (hU.below (Nat.le_refl _)), hW2⟩
              · simp only [pickL, List.getD_cons_zero, List.getD_cons_succ]
                go_wp2_with (refine wpList_store_abs rfl 113 _ _ rfl w.heap.size _ (chCells id (some u) none) rfl rfl HR.out info_change rfl (chCells_one id (some u) none) ?_; intro W2 hW2 hU; have C3 := HCc.out.upd hU (by omega); have e1 := C3.cell (i := 1) rfl; have e2 := C3.cell (i := 2) rfl; have e3 := C3.cell (i := 3) rfl; have e4 := C3.cell (i := 4) rfl; have e5 := C3.cell (i := 5) rfl; have e6 := C3.cell (i := 6) rfl; simp only [vOf, Option.getD_none, Option.getD_some, Option.isSome_none, Option.isSome_some] at e1 e2 e3 e4 e5 e6)
                refine ⟨fun p hp => (by cases hp), ?_⟩
                unfold pl
                simp only [pickL, List.getD_cons_zero, List.getD_cons_succ]
                go_wp2_with (refine wpList_store_abs rfl 113 _ _ rfl w.heap.size _ (chCells id (some u) none) rfl rfl HR.out info_change rfl (chCells_one id (some u) none) ?_; intro W2 hW2 hU; have C3 := HCc.out.upd hU (by omega); have e1 := C3.cell (i := 1) rfl; have e2 := C3.cell (i := 2) rfl; have e3 := C3.cell (i := 3) rfl; have e4 := C3.cell (i := 4) rfl; have e5 := C3.cell (i := 5) rfl; have e6 := C3.cell (i := 6) rfl; simp only [vOf, Option.getD_none, Option.getD_some, Option.isSome_none, Option.isSome_some] at e1 e2 e3 e4 e5 e6)
                refine ⟨fun p hp => (by cases hp), ?_⟩
                unfold pl
                refine ⟨rfl, trivial, ?_⟩
                go_wp2
                go_meet
                case rel => exact ⟨by rw [HD.out], HG.out.trans (hU.below (Nat.le_refl _)), hW2⟩
            · simp only [pickL, List.getD_cons_zero, List.getD_cons_succ]
              go_wp2_with (refine wpList_store_abs rfl 113 _ _ rfl w.heap.size _ (chCells id (some u) none) rfl rfl HR.out info_change rfl (chCells_one id (some u) none) ?_; intro W2 hW2 hU; have C3 := HCc.out.upd hU (by omega); have e1 := C3.cell (i := 1) rfl; have e2 := C3.cell (i := 2) rfl; have e3 := C3.cell (i := 3) rfl; have e4 := C3.cell (i := 4) rfl; have e5 := C3.cell (i := 5) rfl; have e6 := C3.cell (i := 6) rfl; simp only [vOf, Option.getD_none, Option.getD_some, Option.isSome_none, Option.isSome_some] at e1 e2 e3 e4 e5 e6)
              refine ⟨fun p hp => (by cases hp), ?_⟩
              unfold pl
              refine ⟨?_, ?_⟩
              · simp only [pickL, List.getD_cons_zero, List.getD_cons_succ]
                go_wp2_with (refine wpList_store_abs rfl 113 _ _ rfl w.heap.size _ (chCells id (some u) none) rfl rfl HR.out info_change rfl (chCells_one id (some u) none) ?_; intro W2 hW2 hU; have C3 := HCc.out.upd hU (by omega); have e1 := C3.cell (i := 1) rfl; have e2 := C3.cell (i := 2) rfl; have e3 := C3.cell (i := 3) rfl; have e4 := C3.cell (i := 4) rfl; have e5 := C3.cell (i := 5) rfl; have e6 := C3.cell (i := 6) rfl; simp only [vOf, Option.getD_none, Option.getD_some, Option.isSome_none, Option.isSome_some] at e1 e2 e3 e4 e5 e6)
                refine ⟨fun p hp => (by cases hp), ?_⟩
                unfold pl
                refine ⟨?_, ?_⟩
                · simp only [pickL, List.getD_cons_zero, List.getD_cons_succ]
                  go_wp2_with (refine wpList_store_abs rfl 113 _ _ rfl w.heap.size _ (chCells id (some u) none) rfl rfl HR.out info_change rfl (chCells_one id (some u) none) ?_; intro W2 hW2 hU; have C3 := HCc.out.upd hU (by omega); have e1 := C3.cell (i := 1) rfl; have e2 := C3.cell (i := 2) rfl; have e3 := C3.cell (i := 3) rfl; have e4 := C3.cell (i := 4) rfl; have e5 := C3.cell (i := 5) rfl; have e6 := C3.cell (i := 6) rfl; simp only [vOf, Option.getD_none, Option.getD_some, Option.isSome_none, Option.isSome_some] at e1 e2 e3 e4 e5 e6)
                  refine ⟨fun p hp => (by cases hp), ?_⟩
                  unfold pl
                  refine ⟨?_, ?_⟩
                  · simp only [pickL, List.getD_cons_zero, List.getD_cons_succ]
                    go_wp2_with (refine wpList_store_abs rfl 113 _ _ rfl w.heap.size _ (chCells id (some u) none) rfl rfl HR.out info_change rfl (chCells_one id (some u) none) ?_; intro W2 hW2 hU; have C3 := HCc.out.upd hU (by omega); have e1 := C3.cell (i := 1) rfl; have e2 := C3.cell (i := 2) rfl; have e3 := C3.cell (i := 3) rfl; have e4 := C3.cell (i := 4) rfl; have e5 := C3.cell (i := 5) rfl; have e6 := C3.cell (i := 6) rfl; simp only [vOf, Option.getD_none, Option.getD_some, Option.isSome_none, Option.isSome_some] at e1 e2 e3 e4 e5 e6)
                    refine ⟨fun p hp => (by cases hp), ?_⟩
                    unfold pl
                    simp only [pickL, List.getD_cons_zero, List.getD_cons_succ]
                    go_wp2_with (refine wpList_store_abs rfl 113 _ _ rfl w.heap.size _ (chCells id (some u) none) rfl rfl HR.out info_change rfl (chCells_one id (some u) none) ?_; intro W2 hW2 hU; have C3 := HCc.out.upd hU (by omega); have e1 := C3.cell (i := 1) rfl; have e2 := C3.cell (i := 2) rfl; have e3 := C3.cell (i := 3) rfl; have e4 := C3.cell (i := 4) rfl; have e5 := C3.cell (i := 5) rfl; have e6 := C3.cell (i := 6) rfl; simp only [vOf, Option.getD_none, Option.getD_some, Option.isSome_none, Option.isSome_some] at e1 e2 e3 e4 e5 e6)
                    refine ⟨fun p hp => (by cases hp), ?_⟩
                    unfold pl
                    refine ⟨rfl, trivial, ?_⟩
                    go_wp2
                    go_meet
                    case rel => exact ⟨by rw [HD.out], HG.out.trans (hU.below (Nat.le_refl _)), hW2⟩
                  · simp only [pickL, List.getD_cons_zero, List.getD_cons_succ]
                    go_wp2_with (refine wpList_store_abs rfl 113 _ _ rfl w.heap.size _ (chCells id (some u) none) rfl rfl HR.out info_change rfl (chCells_one id (some u) none) ?_; intro W2 hW2 hU; have C3 := HCc.out.upd hU (by omega); have e1 := C3.cell (i := 1) rfl; have e2 := C3.cell (i := 2) rfl; have e3 := C3.cell (i := 3) rfl; have e4 := C3.cell (i := 4) rfl; have e5 := C3.cell (i := 5) rfl; have e6 := C3.cell (i := 6) rfl; simp only [vOf, Option.getD_none, Option.getD_some, Option.isSome_none, Option.isSome_some] at e1 e2 e3 e4 e5 e6)
                    refine ⟨fun p hp => (by cases hp), ?_⟩
                    unfold pl
                    simp only [pickL, List.getD_cons_zero, List.getD_cons_succ]
                    go_wp2_with (refine wpList_store_abs rfl 113 _ _ rfl w.heap.size _ (chCells id (some u) none) rfl rfl HR.out info_change rfl (chCells_one id (some u) none) ?_; intro W2 hW2 hU; have C3 := HCc.out.upd hU (by omega); have e1 := C3.cell (i := 1) rfl; have e2 := C3.cell (i := 2) rfl; have e3 := C3.cell (i := 3) rfl; have e4 := C3.cell (i := 4) rfl; have e5 := C3.cell (i := 5) rfl; have e6 := C3.cell (i := 6) rfl; simp only [vOf, Option.getD_none, Option.getD_some, Option.isSome_none, Option.isSome_some] at e1 e2 e3 e4 e5 e6)
                    refine ⟨fun p hp => (by cases hp), ?_⟩
                    unfold pl
                    refine ⟨rfl, trivial, ?_⟩
                    go_wp2
                    go_meet
                    case rel => exact ⟨by rw [HD.out], HG.out.trans (hU.below (Nat.le_refl _)), hW2⟩
                · simp only [pickL, List.getD_cons_zero, List.getD_cons_succ]
                  go_wp2_with (refine wpList_store_abs rfl 113 _ _ rfl w.heap.size _ (chCells id (some u) none) rfl rfl HR.out info_change rfl (chCells_one id (some u) none) ?_; intro W2 hW2 hU; have C3 := HCc.out.upd hU (by omega); have e1 := C3.cell (i := 1) rfl; have e2 := C3.cell (i := 2) rfl; have e3 := C3.cell (i := 3) rfl; have e4 := C3.cell (i := 4) rfl; have e5 := C3.cell (i := 5) rfl; have e6 := C3.cell (i := 6) rfl; simp only [vOf, Option.getD_none, Option.getD_some, Option.isSome_none, Option.isSome_some] at e1 e2 e3 e4 e5 e6)
                  refine ⟨fun p hp => (by cases hp), ?_⟩
                  unfold pl
                  simp only [pickL, List.getD_cons_zero, List.getD_cons_succ]
                  go_wp2_with (refine wpList_store_abs rfl 113 _ _ rfl w.heap.size _ (chCells id (some u) none) rfl rfl HR.out info_change rfl (chCells_one id (some u) none) ?_; intro W2 hW2 hU; have C3 := HCc.out.upd hU (by omega); have e1 := C3.cell (i := 1) rfl; have e2 := C3.cell (i := 2) rfl; have e3 := C3.cell (i := 3) rfl; have e4 := C3.cell (i := 4) rfl; have e5 := C3.cell (i := 5) rfl; have e6 := C3.cell (i := 6) rfl; simp only [vOf, Option.getD_none, Option.getD_some, Option.isSome_none, Option.isSome_some] at e1 e2 e3 e4 e5 e6)
                  refine ⟨fun p hp => (by cases hp), ?_⟩
                  unfold pl
                  refine ⟨rfl, trivial, ?_⟩
                  go_wp2
                  go_meet
                  case rel => exact ⟨by rw [HD.out], HG.out.trans (hU.below (Nat.le_refl _)), hW2⟩
              · simp only [pickL, List.getD_cons_zero, List.getD_cons_succ]
                go_wp2_with (refine wpList_store_abs rfl 113 _ _ rfl w.heap.size _ (chCells id (some u) none) rfl rfl HR.out info_change rfl (chCells_one id (some u) none) ?_; intro W2 hW2 hU; have C3 := HCc.out.upd hU (by omega); have e1 := C3.cell (i := 1) rfl; have e2 := C3.cell (i := 2) rfl; have e3 := C3.cell (i := 3) rfl; have e4 := C3.cell (i := 4) rfl; have e5 := C3.cell (i := 5) rfl; have e6 := C3.cell (i := 6) rfl; simp only [vOf, Option.getD_none, Option.getD_some, Option.isSome_none, Option.isSome_some] at e1 e2 e3 e4 e5 e6)
                refine ⟨fun p hp => (by cases hp), ?_⟩
                unfold pl
                refine ⟨?_, ?_⟩
                · simp only [pickL, List.getD_cons_zero, List.getD_cons_succ]
                  go_wp2_with (refine wpList_store_abs rfl 113 _ _ rfl w.heap.size _ (chCells id (some u) none) rfl rfl HR.out info_change rfl (chCells_one id (some u) none) ?_; intro W2 hW2 hU; have C3 := HCc.out.upd hU (by omega); have e1 := C3.cell (i := 1) rfl; have e2 := C3.cell (i := 2) rfl; have e3 := C3.cell (i := 3) rfl; have e4 := C3.cell (i := 4) rfl; have e5 := C3.cell (i := 5) rfl; have e6 := C3.cell (i := 6) rfl; simp only [vOf, Option.getD_none, Option.getD_some, Option.isSome_none, Option.isSome_some] at e1 e2 e3 e4 e5 e6)
                  refine ⟨fun p hp => (by cases hp), ?_⟩
                  unfold pl
                  refine ⟨?_, ?_⟩
                  · simp only [pickL, List.getD_cons_zero, List.getD_cons_succ]
                    go_wp2_with (refine wpList_store_abs rfl 113 _ _ rfl w.heap.size _ (chCells id (some u) none) rfl rfl HR.out info_change rfl (chCells_one id (some u) none) ?_; intro W2 hW2 hU; have C3 := HCc.out.upd hU (by omega); have e1 := C3.cell (i := 1) rfl; have e2 := C3.cell (i := 2) rfl; have e3 := C3.cell (i := 3) rfl; have e4 := C3.cell (i := 4) rfl; have e5 := C3.cell (i := 5) rfl; have e6 := C3.cell (i := 6) rfl; simp only [vOf, Option.getD_none, Option.getD_some, Option.isSome_none, Option.isSome_some] at e1 e2 e3 e4 e5 e6)
                    refine ⟨fun p hp => (by cases hp), ?_⟩
                    unfold pl
                    simp only [pickL, List.getD_cons_zero, List.getD_cons_succ]
                    go_wp2_with (refine wpList_store_abs rfl 113 _ _ rfl w.heap.size _ (chCells id (some u) none) rfl rfl HR.out info_change rfl (chCells_one id (some u) none) ?_; intro W2 hW2 hU; have C3 := HCc.out.upd hU (by omega); have e1 := C3.cell (i := 1) rfl; have e2 := C3.cell (i := 2) rfl; have e3 := C3.cell (i := 3) rfl; have e4 := C3.cell (i := 4) rfl; have e5 := C3.cell (i := 5) rfl; have e6 := C3.cell (i := 6) rfl; simp only [vOf, Option.getD_none, Option.getD_some, Option.isSome_none, Option.isSome_some] at e1 e2 e3 e4 e5 e6)
                    refine ⟨fun p hp => (by cases hp), ?_⟩
                    unfold pl
                    refine ⟨rfl, trivial, ?_⟩
                    go_wp2
                    go_meet
                    case rel => exact ⟨by rw [HD.out], HG.out.trans (hU.below (Nat.le_refl _)), hW2⟩
                  · simp only [pickL, List.getD_cons_zero, List.getD_cons_succ]
                    go_wp2_with (refine wpList_store_abs rfl 113 _ _ rfl w.heap.size _ (chCells id (some u) none) rfl rfl HR.out info_change rfl (chCells_one id (some u) none) ?_; intro W2 hW2 hU; have C3 := HCc.out.upd hU (by omega); have e1 := C3.cell (i := 1) rfl; have e2 := C3.cell (i := 2) rfl; have e3 := C3.cell (i := 3) rfl; have e4 := C3.cell (i := 4) rfl; have e5 := C3.cell (i := 5) rfl; have e6 := C3.cell (i := 6) rfl; simp only [vOf, Option.getD_none, Option.getD_some, Option.isSome_none, Option.isSome_some] at e1 e2 e3 e4 e5 e6)
                    refine ⟨fun p hp => (by cases hp), ?_⟩
                    unfold pl
                    simp only [pickL, List.getD_cons_zero, List.getD_cons_succ]
                    go_wp2_with (refine wpList_store_abs rfl 113 _ _ rfl w.heap.size _ (chCells id (some u) none) rfl rfl HR.out info_change rfl (chCells_one id (some u) none) ?_; intro W2 hW2 hU; have C3 := HCc.out.upd hU (by omega); have e1 := C3.cell (i := 1) rfl; have e2 := C3.cell (i := 2) rfl; have e3 := C3.cell (i := 3) rfl; have e4 := C3.cell (i := 4) rfl; have e5 := C3.cell (i := 5) rfl; have e6 := C3.cell (i := 6) rfl; simp only [vOf, Option.getD_none, Option.getD_some, Option.isSome_none, Option.isSome_some] at e1 e2 e3 e4 e5 e6)
                    refine ⟨fun p hp => (by cases hp), ?_⟩
                    unfold pl
                    refine ⟨rfl, trivial, ?_⟩
                    go_wp2
                    go_meet
                    case rel => exact ⟨by rw [HD.out], HG.out.trans (hU.below (Nat.le_refl _)), hW2⟩
                · simp only [pickL, List.getD_cons_zero, List.getD_cons_succ]
                  go_wp2_with (refine wpList_store_abs rfl 113 _ _ rfl w.heap.size _ (chCells id (some u) none) rfl rfl HR.out info_change rfl (chCells_one id (some u) none) ?_; intro W2 hW2 hU; have C3 := HCc.out.upd hU (by omega); have e1 := C3.cell (i := 1) rfl; have e2 := C3.cell (i := 2) rfl; have e3 := C3.cell (i := 3) rfl; have e4 := C3.cell (i := 4) rfl; have e5 := C3.cell (i := 5) rfl; have e6 := C3.cell (i := 6) rfl; simp only [vOf, Option.getD_none, Option.getD_some, Option.isSome_none, Option.isSome_some] at e1 e2 e3 e4 e5 e6)
                  refine ⟨fun p hp => (by cases hp), ?_⟩
                  unfold pl
                  simp only [pickL, List.getD_cons_zero, List.getD_cons_succ]
                  go_wp2_with (refine wpList_store_abs rfl 113 _ _ rfl w.heap.size _ (chCells id (some u) none) rfl rfl HR.out info_change rfl (chCells_one id (some u) none) ?_; intro W2 hW2 hU; have C3 := HCc.out.upd hU (by omega); have e1 := C3.cell (i := 1) rfl; have e2 := C3.cell (i := 2) rfl; have e3 := C3.cell (i := 3) rfl; have e4 := C3.cell (i := 4) rfl; have e5 := C3.cell (i := 5) rfl; have e6 := C3.cell (i := 6) rfl; simp only [vOf, Option.getD_none, Option.getD_some, Option.isSome_none, Option.isSome_some] at e1 e2 e3 e4 e5 e6)
                  refine ⟨fun p hp => (by cases hp), ?_⟩
                  unfold pl
                  refine ⟨rfl, trivial, ?_⟩
                  go_wp2
                  go_meet
                  case rel => exact ⟨by rw [HD.out], HG.out.trans (hU.below (Nat.le_refl _)), hW2⟩
            · simp only [pickL, List.getD_cons_zero, List.getD_cons_succ]
              go_wp2_with (refine wpList_store_abs rfl 113 _ _ rfl w.heap.size _ (chCells id (some u) none) rfl rfl HR.out info_change rfl (chCells_one id (some u) none) ?_; intro W2 hW2 hU; have C3 := HCc.out.upd hU (by omega); have e1 := C3.cell (i := 1) rfl; have e2 := C3.cell (i := 2) rfl; have e3 := C3.cell (i := 3) rfl; have e4 := C3.cell (i := 4) rfl; have e5 := C3.cell (i := 5) rfl; have e6 := C3.cell (i := 6) rfl; simp only [vOf, Option.getD_none, Option.getD_some, Option.isSome_none, Option.isSome_some] at e1 e2 e3 e4 e5 e6)
              refine ⟨fun p hp => (by cases hp), ?_⟩
              unfold pl
              refine ⟨?_, ?_⟩
              · simp only [pickL, List.getD_cons_zero, List.getD_cons_succ]
                go_wp2_with (refine wpList_store_abs rfl 113 _ _ rfl w.heap.size _ (chCells id (some u) none) rfl rfl HR.out info_change rfl (chCells_one id (some u) none) ?_; intro W2 hW2 hU; have C3 := HCc.out.upd hU (by omega); have e1 := C3.cell (i := 1) rfl; have e2 := C3.cell (i := 2) rfl; have e3 := C3.cell (i := 3) rfl; have e4 := C3.cell (i := 4) rfl; have e5 := C3.cell (i := 5) rfl; have e6 := C3.cell (i := 6) rfl; simp only [vOf, Option.getD_none, Option.getD_some, Option.isSome_none, Option.isSome_some] at e1 e2 e3 e4 e5 e6)
                refine ⟨fun p hp => (by cases hp), ?_⟩
                unfold pl
                refine ⟨?_, ?_⟩
                · simp only [pickL, List.getD_cons_zero, List.getD_cons_succ]
                  go_wp2_with (refine wpList_store_abs rfl 113 _ _ rfl w.heap.size _ (chCells id (some u) none) rfl rfl HR.out info_change rfl (chCells_one id (some u) none) ?_; intro W2 hW2 hU; have C3 := HCc.out.upd hU (by omega); have e1 := C3.cell (i := 1) rfl; have e2 := C3.cell (i := 2) rfl; have e3 := C3.cell (i := 3) rfl; have e4 := C3.cell (i := 4) rfl; have e5 := C3.cell (i := 5) rfl; have e6 := C3.cell (i := 6) rfl; simp only [vOf, Option.getD_none, Option.getD_some, Option.isSome_none, Option.isSome_some] at e1 e2 e3 e4 e5 e6)
                  refine ⟨fun p hp => (by cases hp), ?_⟩
                  unfold pl
                  refine ⟨?_, ?_⟩
                  · simp only [pickL, List.getD_cons_zero, List.getD_cons_succ]
                    go_wp2_with (refine wpList_store_abs rfl 113 _ _ rfl w.heap.size _ (chCells id (some u) none) rfl rfl HR.out info_change rfl (chCells_one id (some u) none) ?_; intro W2 hW2 hU; have C3 := HCc.out.upd hU (by omega); have e1 := C3.cell (i := 1) rfl; have e2 := C3.cell (i := 2) rfl; have e3 := C3.cell (i := 3) rfl; have e4 := C3.cell (i := 4) rfl; have e5 := C3.cell (i := 5) rfl; have e6 := C3.cell (i := 6) rfl; simp only [vOf, Option.getD_none, Option.getD_some, Option.isSome_none, Option.isSome_some] at e1 e2 e3 e4 e5 e6)
                    refine ⟨fun p hp => (by cases hp), ?_⟩
                    unfold pl
                    simp only [pickL, List.getD_cons_zero, List.getD_cons_succ]
                    go_wp2_with (refine wpList_store_abs rfl 113 _ _ rfl w.heap.size _ (chCells id (some u) none) rfl rfl HR.out info_change rfl (chCells_one id (some u) none) ?_; intro W2 hW2 hU; have C3 := HCc.out.upd hU (by omega); have e1 := C3.cell (i := 1) rfl; have e2 := C3.cell (i := 2) rfl; have e3 := C3.cell (i := 3) rfl; have e4 := C3.cell (i := 4) rfl; have e5 := C3.cell (i := 5) rfl; have e6 := C3.cell (i := 6) rfl; simp only [vOf, Option.getD_none, Option.getD_some, Option.isSome_none, Option.isSome_some] at e1 e2 e3 e4 e5 e6)
                    refine ⟨fun p hp => (by cases hp), ?_⟩
                    unfold pl
                    refine ⟨rfl, trivial, ?_⟩
                    go_wp2
                    go_meet
                    case rel => exact ⟨by rw [HD.out], HG.out.trans (hU.below (Nat.le_refl _)), hW2⟩
                  · simp only [pickL, List.getD_cons_zero, List.getD_cons_succ]
                    go_wp2_with (refine wpList_store_abs rfl 113 _ _ rfl w.heap.size _ (chCells id (some u) none) rfl rfl HR.out info_change rfl (chCells_one id (some u) none) ?_; intro W2 hW2 hU; have C3 := HCc.out.upd hU (by omega); have e1 := C3.cell (i := 1) rfl; have e2 := C3.cell (i := 2) rfl; have e3 := C3.cell (i := 3) rfl; have e4 := C3.cell (i := 4) rfl; have e5 := C3.cell (i := 5) rfl; have e6 := C3.cell (i := 6) rfl; simp only [vOf, Option.getD_none, Option.getD_some, Option.isSome_none, Option.isSome_some] at e1 e2 e3 e4 e5 e6)
                    refine ⟨fun p hp => (by cases hp), ?_⟩
                    unfold pl
                    simp only [pickL, List.getD_cons_zero, List.getD_cons_succ]
                    go_wp2_with (refine wpList_store_abs rfl 113 _ _ rfl w.heap.size _ (chCells id (some u) none) rfl rfl HR.out info_change rfl (chCells_one id (some u) none) ?_; intro W2 hW2 hU; have C3 := HCc.out.upd hU (by omega); have e1 := C3.cell (i := 1) rfl; have e2 := C3.cell (i := 2) rfl; have e3 := C3.cell (i := 3) rfl; have e4 := C3.cell (i := 4) rfl; have e5 := C3.cell (i := 5) rfl; have e6 := C3.cell (i := 6) rfl; simp only [vOf, Option.getD_none, Option.getD_some, Option.isSome_none, Option.isSome_some] at e1 e2 e3 e4 e5 e6)
                    refine ⟨fun p hp => (by cases hp), ?_⟩
                    unfold pl
                    refine ⟨rfl, trivial, ?_⟩
                    go_wp2
                    go_meet
                    case rel => exact ⟨by rw [HD.out], HG.out.trans (hU.below (Nat.le_refl _)), hW2⟩
                · simp only [pickL, List.getD_cons_zero, List.getD_cons_succ]
                  go_wp2_with (refine wpList_store_abs rfl 113 _ _ rfl w.heap.size _ (chCells id (some u) none) rfl rfl HR.out info_change rfl (chCells_one id (some u) none) ?_; intro W2 hW2 hU; have C3 := HCc.out.upd hU (by omega); have e1 := C3.cell (i := 1) rfl; have e2 := C3.cell (i := 2) rfl; have e3 := C3.cell (i := 3) rfl; have e4 := C3.cell (i := 4) rfl; have e5 := C3.cell (i := 5) rfl; have e6 := C3.cell (i := 6) rfl; simp only [vOf, Option.getD_none, Option.getD_some, Option.isSome_none, Option.isSome_some] at e1 e2 e3 e4 e5 e6)
                  refine ⟨fun p hp => (by cases hp), ?_⟩
                  unfold pl
                  simp only [pickL, List.getD_cons_zero, List.getD_cons_succ]
                  go_wp2_with (refine wpList_store_abs rfl 113 _ _ rfl w.heap.size _ (chCells id (some u) none) rfl rfl HR.out info_change rfl (chCells_one id (some u) none) ?_; intro W2 hW2 hU; have C3 := HCc.out.upd hU (by omega); have e1 := C3.cell (i := 1) rfl; have e2 := C3.cell (i := 2) rfl; have e3 := C3.cell (i := 3) rfl; have e4 := C3.cell (i := 4) rfl; have e5 := C3.cell (i := 5) rfl; have e6 := C3.cell (i := 6) rfl; simp only [vOf, Option.getD_none, Option.getD_some, Option.isSome_none, Option.isSome_some] at e1 e2 e3 e4 e5 e6)
                  refine ⟨fun p hp => (by cases hp), ?_⟩
                  unfold pl
                  refine ⟨rfl, trivial, ?_⟩
                  go_wp2
                  go_meet
                  case rel => exact ⟨by rw [HD.out], HG.out.trans (hU.below (Nat.le_refl _)), hW2⟩
              · simp only [pickL, List.getD_cons_zero, List.getD_cons_succ]
                go_wp2_with (refine wpList_store_abs rfl 113 _ _ rfl w.heap.size _ (chCells id (some u) none) rfl rfl HR.out info_change rfl (chCells_one id (some u) none) ?_; intro W2 hW2 hU; have C3 := HCc.out.upd hU (by omega); have e1 := C3.cell (i := 1) rfl; have e2 := C3.cell (i := 2) rfl; have e3 := C3.cell (i := 3) rfl; have e4 := C3.cell (i := 4) rfl; have e5 := C3.cell (i := 5) rfl; have e6 := C3.cell (i := 6) rfl; simp only [vOf, Option.getD_none, Option.getD_some, Option.isSome_none, Option.isSome_some] at e1 e2 e3 e4 e5 e6)
                refine ⟨fun p hp => (by cases hp), ?_⟩
                unfold pl
                refine ⟨?_, ?_⟩
                · simp only [pickL, List.getD_cons_zero, List.getD_cons_succ]
                  go_wp2_with (refine wpList_store_abs rfl 113 _ _ rfl w.heap.size _ (chCells id (some u) none) rfl rfl HR.out info_change rfl (chCells_one id (some u) none) ?_; intro W2 hW2 hU; have C3 := HCc.out.upd hU (by omega); have e1 := C3.cell (i := 1) rfl; have e2 := C3.cell (i := 2) rfl; have e3 := C3.cell (i := 3) rfl; have e4 := C3.cell (i := 4) rfl; have e5 := C3.cell (i := 5) rfl; have e6 := C3.cell (i := 6) rfl; simp only [vOf, Option.getD_none, Option.getD_some, Option.isSome_none, Option.isSome_some] at e1 e2 e3 e4 e5 e6)
                  refine ⟨fun p hp => (by cases hp), ?_⟩
                  unfold pl
                  refine ⟨?_, ?_⟩
                  · simp only [pickL, List.getD_cons_zero, List.getD_cons_succ]
                    go_wp2_with (refine wpList_store_abs rfl 113 _ _ rfl w.heap.size _ (chCells id (some u) none) rfl rfl HR.out info_change rfl (chCells_one id (some u) none) ?_; intro W2 hW2 hU; have C3 := HCc.out.upd hU (by omega); have e1 := C3.cell (i := 1) rfl; have e2 := C3.cell (i := 2) rfl; have e3 := C3.cell (i := 3) rfl; have e4 := C3.cell (i := 4) rfl; have e5 := C3.cell (i := 5) rfl; have e6 := C3.cell (i := 6) rfl; simp only [vOf, Option.getD_none, Option.getD_some, Option.isSome_none, Option.isSome_some] at e1 e2 e3 e4 e5 e6)
                    refine ⟨fun p hp => (by cases hp), ?_⟩
                    unfold pl
                    simp only [pickL, List.getD_cons_zero, List.getD_cons_succ]
                    go_wp2_with (refine wpList_store_abs rfl 113 _ _ rfl w.heap.size _ (chCells id (some u) none) rfl rfl HR.out info_change rfl (chCells_one id (some u) none) ?_; intro W2 hW2 hU; have C3 := HCc.out.upd hU (by omega); have e1 := C3.cell (i := 1) rfl; have e2 := C3.cell (i := 2) rfl; have e3 := C3.cell (i := 3) rfl; have e4 := C3.cell (i := 4) rfl; have e5 := C3.cell (i := 5) rfl; have e6 := C3.cell (i := 6) rfl; simp only [vOf, Option.getD_none, Option.getD_some, Option.isSome_none, Option.isSome_some] at e1 e2 e3 e4 e5 e6)
                    refine ⟨fun p hp => (by cases hp), ?_⟩
                    unfold pl
                    refine ⟨rfl, trivial, ?_⟩
                    go_wp2
                    go_meet
                    case rel => exact ⟨by rw [HD.out], HG.out.trans (hU.below (Nat.le_refl _)), hW2⟩
                  · simp only [pickL, List.getD_cons_zero, List.getD_cons_succ]
                    go_wp2_with (refine wpList_store_abs rfl 113 _ _ rfl w.heap.size _ (chCells id (some u) none) rfl rfl HR.out info_change rfl (chCells_one id (some u) none) ?_; intro W2 hW2 hU; have C3 := HCc.out.upd hU (by omega); have e1 := C3.cell (i := 1) rfl; have e2 := C3.cell (i := 2) rfl; have e3 := C3.cell (i := 3) rfl; have e4 := C3.cell (i := 4) rfl; have e5 := C3.cell (i := 5) rfl; have e6 := C3.cell (i := 6) rfl; simp only [vOf, Option.getD_none, Option.getD_some, Option.isSome_none, Option.isSome_some] at e1 e2 e3 e4 e5 e6)
                    refine ⟨fun p hp => (by cases hp), ?_⟩
                    unfold pl
                    simp only [pickL, List.getD_cons_zero, List.getD_cons_succ]
                    go_wp2_with (refine wpList_store_abs rfl 113 _ _ rfl w.heap.size _ (chCells id (some u) none) rfl rfl HR.out info_change rfl (chCells_one id (some u) none) ?_; intro W2 hW2 hU; have C3 := HCc.out.upd hU (by omega); have e1 := C3.cell (i := 1) rfl; have e2 := C3.cell (i := 2) rfl; have e3 := C3.cell (i := 3) rfl; have e4 := C3.cell (i := 4) rfl; have e5 := C3.cell (i := 5) rfl; have e6 := C3.cell (i := 6) rfl; simp only [vOf, Option.getD_none, Option.getD_some, Option.isSome_none, Option.isSome_some] at e1 e2 e3 e4 e5 e6)
                    refine ⟨fun p hp => (by cases hp), ?_⟩
                    unfold pl
                    refine ⟨rfl, trivial, ?_⟩
                    go_wp2
                    go_meet
                    case rel => exact ⟨by rw [HD.out], HG.out.trans (hU.below (Nat.le_refl _)), hW2⟩
                · simp only [pickL, List.getD_cons_zero, List.getD_cons_succ]
                  go_wp2_with (refine wpList_store_abs rfl 113 _ _ rfl w.heap.size _ (chCells id (some u) none) rfl rfl HR.out info_change rfl (chCells_one id (some u) none) ?_; intro W2 hW2 hU; have C3 := HCc.out.upd hU (by omega); have e1 := C3.cell (i := 1) rfl; have e2 := C3.cell (i := 2) rfl; have e3 := C3.cell (i := 3) rfl; have e4 := C3.cell (i := 4) rfl; have e5 := C3.cell (i := 5) rfl; have e6 := C3.cell (i := 6) rfl; simp only [vOf, Option.getD_none, Option.getD_some, Option.isSome_none, Option.isSome_some] at e1 e2 e3 e4 e5 e6)
                  refine ⟨fun p hp => (by cases hp), ?_⟩
                  unfold pl
                  simp only [pickL, List.getD_cons_zero, List.getD_cons_succ]
                  go_wp2_with (refine wpList_store_abs rfl 113 _ _ rfl w.heap.size _ (chCells id (some u) none) rfl rfl HR.out info_change rfl (chCells_one id (some u) none) ?_; intro W2 hW2 hU; have C3 := HCc.out.upd hU (by omega); have e1 := C3.cell (i := 1) rfl; have e2 := C3.cell (i := 2) rfl; have e3 := C3.cell (i := 3) rfl; have e4 := C3.cell (i := 4) rfl; have e5 := C3.cell (i := 5) rfl; have e6 := C3.cell (i := 6) rfl; simp only [vOf, Option.getD_none, Option.getD_some, Option.isSome_none, Option.isSome_some] at e1 e2 e3 e4 e5 e6)
                  refine ⟨fun p hp => (by cases hp), ?_⟩
                  unfold pl
                  refine ⟨rfl, trivial, ?_⟩
                  go_wp2
                  go_meet
                  case rel => exact ⟨by rw [HD.out], HG.out.trans (hU.below (Nat.le_refl _)), hW2⟩
          | some v =>
            by_cases hk : u.k = v.k
            · by_cases hn : u.n = v.n
              · obtain rfl : u = v := by cases u; cases v; simp at hk hn; rw [hk, hn]
                clear hk hn
                have hd : decide (some u ≠ some u) = false := by simp
                have HD := Lib.hid hd
                clear hd
                simp only [vOf, Option.getD_none, Option.getD_some, Option.isSome_none, Option.isSome_some] at c0 c1 c2' c3 c4 c5 c6
                refine rgnT (.seg [1, 2, 3, 4, 5, 6, 7, 9] (.three 0 8 10 (.three 8 10 13 (.two 10 13 (.two 11 13 (.seg [12, 13, 14] .fin) (.seg [11, 12, 14] .fin)) (.seg [10, 11, 12, 14] .fin)) (.two 8 13 (.two 11 13 (.seg [12, 13, 14] .fin) (.seg [11, 12, 14] .fin)) (.seg [8, 11, 12, 14] .fin)) (.seg [8, 10, 11, 12, 14] .fin)) (.two 0 10 (.two 10 13 (.two 11 13 (.seg [12, 13, 14] .fin) (.seg [11, 12, 14] .fin)) (.seg [10, 11, 12, 14] .fin)) (.two 0 11 (.two 11 13 (.seg [12, 13, 14] .fin) (.seg [11, 12, 14] .fin)) (.seg [0, 12, 13, 14] .fin))) (.two 0 8 (.two 8 13 (.two 11 13 (.seg [12, 13, 14] .fin) (.seg [11, 12, 14] .fin)) (.seg [8, 11, 12, 14] .fin)) (.two 0 11 (.two 11 13 (.seg [12, 13, 14] .fin) (.seg [11, 12, 14] .fin)) (.seg [0, 12, 13, 14] .fin))))) [5] [] [] (by kernel_rfl) (by simp) ?_ ?_
                · intro p hp; cases hp
                unfold pl
                simp only [pickL, List.getD_cons_zero, List.getD_cons_succ]
                go_wp2_with (refine wpList_store_abs rfl 113 _ _ rfl w.heap.size _ (chCells id (some u) (some u)) rfl rfl HR.out info_change rfl (chCells_one id (some u) (some u)) ?_; intro W2 hW2 hU; have C3 := HCc.out.upd hU (by omega); have e1 := C3.cell (i := 1) rfl; have e2 := C3.cell (i := 2) rfl; have e3 := C3.cell (i := 3) rfl; have e4 := C3.cell (i := 4) rfl; have e5 := C3.cell (i := 5) rfl; have e6 := C3.cell (i := 6) rfl; simp only [vOf, Option.getD_none, Option.getD_some, Option.isSome_none, Option.isSome_some] at e1 e2 e3 e4 e5 e6)
                refine ⟨fun p hp => (by cases hp), ?_⟩
                unfold pl
                refine ⟨?_, ?_, ?_⟩
                · simp only [pickL, List.getD_cons_zero, List.getD_cons_succ]
                  go_wp2_with (refine wpList_store_abs rfl 113 _ _ rfl w.heap.size _ (chCells id (some u) (some u)) rfl rfl HR.out info_change rfl (chCells_one id (some u) (some u)) ?_; intro W2 hW2 hU; have C3 := HCc.out.upd hU (by omega); have e1 := C3.cell (i := 1) rfl; have e2 := C3.cell (i := 2) rfl; have e3 := C3.cell (i := 3) rfl; have e4 := C3.cell (i := 4) rfl; have e5 := C3.cell (i := 5) rfl; have e6 := C3.cell (i := 6) rfl; simp only [vOf, Option.getD_none, Option.getD_some, Option.isSome_none, Option.isSome_some] at e1 e2 e3 e4 e5 e6)
                  refine ⟨fun p hp => (by cases hp), ?_⟩
                  unfold pl
                  refine ⟨?_, ?_, ?_⟩
                  · simp only [pickL, List.getD_cons_zero, List.getD_cons_succ]
                    go_wp2_with (refine wpList_store_abs rfl 113 _ _ rfl w.heap.size _ (chCells id (some u) (some u)) rfl rfl HR.out info_change rfl (chCells_one id (some u) (some u)) ?_; intro W2 hW2 hU; have C3 := HCc.out.upd hU (by omega); have e1 := C3.cell (i := 1) rfl; have e2 := C3.cell (i := 2) rfl; have e3 := C3.cell (i := 3) rfl; have e4 := C3.cell (i := 4) rfl; have e5 := C3.cell (i := 5) rfl; have e6 := C3.cell (i := 6) rfl; simp only [vOf, Option.getD_none, Option.getD_some, Option.isSome_none, Option.isSome_some] at e1 e2 e3 e4 e5 e6)
                    refine ⟨fun p hp => (by cases hp), ?_⟩
                    unfold pl
                    refine ⟨?_, ?_⟩
                    · simp only [pickL, List.getD_cons_zero, List.getD_cons_succ]
                      go_wp2_with (refine wpList_store_abs rfl 113 _ _ rfl w.heap.size _ (chCells id (some u) (some u)) rfl rfl HR.out info_change rfl (chCells_one id (some u) (some u)) ?_; intro W2 hW2 hU; have C3 := HCc.out.upd hU (by omega); have e1 := C3.cell (i := 1) rfl; have e2 := C3.cell (i := 2) rfl; have e3 := C3.cell (i := 3) rfl; have e4 := C3.cell (i := 4) rfl; have e5 := C3.cell (i := 5) rfl; have e6 := C3.cell (i := 6) rfl; simp only [vOf, Option.getD_none, Option.getD_some, Option.isSome_none, Option.isSome_some] at e1 e2 e3 e4 e5 e6)
                      refine ⟨fun p hp => (by cases hp), ?_⟩
                      unfold pl
                      refine ⟨?_, ?_⟩
                      · simp only [pickL, List.getD_cons_zero, List.getD_cons_succ]
                        go_wp2_with (refine wpList_store_abs rfl 113 _ _ rfl w.heap.size _ (chCells id (some u) (some u)) rfl rfl HR.out info_change rfl (chCells_one id (some u) (some u)) ?_; intro W2 hW2 hU; have C3 := HCc.out.upd hU (by omega); have e1 := C3.cell (i := 1) rfl; have e2 := C3.cell (i := 2) rfl; have e3 := C3.cell (i := 3) rfl; have e4 := C3.cell (i := 4) rfl; have e5 := C3.cell (i := 5) rfl; have e6 := C3.cell (i := 6) rfl; simp only [vOf, Option.getD_none, Option.getD_some, Option.isSome_none, Option.isSome_some] at e1 e2 e3 e4 e5 e6)
                        refine ⟨fun p hp => (by cases hp), ?_⟩
                        unfold pl
                        simp only [pickL, List.getD_cons_zero, List.getD_cons_succ]
                        go_wp2_with (refine wpList_store_abs rfl 113 _ _ rfl w.heap.size _ (chCells id (some u) (some u)) rfl rfl HR.out info_change rfl (chCells_one id (some u) (some u)) ?_; intro W2 hW2 hU; have C3 := HCc.out.upd hU (by omega); have e1 := C3.cell (i := 1) rfl; have e2 := C3.cell (i := 2) rfl; have e3 := C3.cell (i := 3) rfl; have e4 := C3.cell (i := 4) rfl; have e5 := C3.cell (i := 5) rfl; have e6 := C3.cell (i := 6) rfl; simp only [vOf, Option.getD_none, Option.getD_some, Option.isSome_none, Option.isSome_some] at e1 e2 e3 e4 e5 e6)
                        refine ⟨fun p hp => (by cases hp), ?_⟩
                        unfold pl
                        refine ⟨rfl, trivial, ?_⟩
                        go_wp2
                        go_meet
                        case rel => exact ⟨by rw [HD.out], HG.out.trans (hU.below (Nat.le_refl _)), hW2⟩
                      · simp only [pickL, List.getD_cons_zero, List.getD_cons_succ]
                        go_wp2_with (refine wpList_store_abs rfl 113 _ _ rfl w.heap.size _ (chCells id (some u) (some u)) rfl rfl HR.out info_change rfl (chCells_one id (some u) (some u)) ?_; intro W2 hW2 hU; have C3 := HCc.out.upd hU (by omega); have e1 := C3.cell (i := 1) rfl; have e2 := C3.cell (i := 2) rfl; have e3 := C3.cell (i := 3) rfl; have e4 := C3.cell (i := 4) rfl; have e5 := C3.cell (i := 5) rfl; have e6 := C3.cell (i := 6) rfl; simp only [vOf, Option.getD_none, Option.getD_some, Option.isSome_none, Option.isSome_some] at e1 e2 e3 e4 e5 e6)
                        refine ⟨fun p hp => (by cases hp), ?_⟩
                        unfold pl
                        simp only [pickL, List.getD_cons_zero, List.getD_cons_succ]
                        go_wp2_with (refine wpList_store_abs rfl 113 _ _ rfl w.heap.size _ (chCells id (some u) (some u)) rfl rfl HR.out info_change rfl (chCells_one id (some u) (some u)) ?_; intro W2 hW2 hU; have C3 := HCc.out.upd hU (by omega); have e1 := C3.cell (i := 1) rfl; have e2 := C3.cell (i := 2) rfl; have e3 := C3.cell (i := 3) rfl; have e4 := C3.cell (i := 4) rfl; have e5 := C3.cell (i := 5) rfl; have e6 := C3.cell (i := 6) rfl; simp only [vOf, Option.getD_none, Option.getD_some, Option.isSome_none, Option.isSome_some] at e1 e2 e3 e4 e5 e6)
                        refine ⟨fun p hp => (by cases hp), ?_⟩
                        unfold pl
                        refine ⟨rfl, trivial, ?_⟩
                        go_wp2
                        go_meet
                        case rel => exact ⟨by rw [HD.out], HG.out.trans (hU.below (Nat.le_refl _)), hW2⟩
                    · simp only [pickL, List.getD_cons_zero, List.getD_cons_succ]
                      go_wp2_with (refine wpList_store_abs rfl 113 _ _ rfl w.heap.size _ (chCells id (some u) (some u)) rfl rfl HR.out info_change rfl (chCells_one id (some u) (some u)) ?_; intro W2 hW2 hU; have C3 := HCc.out.upd hU (by omega); have e1 := C3.cell (i := 1) rfl; have e2 := C3.cell (i := 2) rfl; have e3 := C3.cell (i := 3) rfl; have e4 := C3.cell (i := 4) rfl; have e5 := C3.cell (i := 5) rfl; have e6 := C3.cell (i := 6) rfl; simp only [vOf, Option.getD_none, Option.getD_some, Option.isSome_none, Option.isSome_some] at e1 e2 e3 e4 e5 e6)
                      refine ⟨fun p hp => (by cases hp), ?_⟩
                      unfold pl
                      simp only [pickL, List.getD_cons_zero, List.getD_cons_succ]
                      go_wp2_with (refine wpList_store_abs rfl 113 _ _ rfl w.heap.size _ (chCells id (some u) (some u)) rfl rfl HR.out info_change rfl (chCells_one id (some u) (some u)) ?_; intro W2 hW2 hU; have C3 := HCc.out.upd hU (by omega); have e1 := C3.cell (i := 1) rfl; have e2 := C3.cell (i := 2) rfl; have e3 := C3.cell (i := 3) rfl; have e4 := C3.cell (i := 4) rfl; have e5 := C3.cell (i := 5) rfl; have e6 := C3.cell (i := 6) rfl; simp only [vOf, Option.getD_none, Option.getD_some, Option.isSome_none, Option.isSome_some] at e1 e2 e3 e4 e5 e6)
                      refine ⟨fun p hp => (by cases hp), ?_⟩
                      unfold pl
                      refine ⟨rfl, trivial, ?_⟩
                      go_wp2
                      go_meet
                      case rel => exact ⟨by rw [HD.out], HG.out.trans (hU.below (Nat.le_refl _)), hW2⟩
                  · simp only [pickL, List.getD_cons_zero, List.getD_cons_succ]
                    go_wp2_with (refine wpList_store_abs rfl 113 _ _ rfl w.heap.size _ (chCells id (some u) (some u)) rfl rfl HR.out info_change rfl (chCells_one id (some u) (some u)) ?_; intro W2 hW2 hU; have C3 := HCc.out.upd hU (by omega); have e1 := C3.cell (i := 1) rfl; have e2 := C3.cell (i := 2) rfl; have e3 := C3.cell (i := 3) rfl; have e4 := C3.cell (i := 4) rfl; have e5 := C3.cell (i := 5) rfl; have e6 := C3.cell (i := 6) rfl; simp only [vOf, Option.getD_none, Option.getD_some, Option.isSome_none, Option.isSome_some] at e1 e2 e3 e4 e5 e6)
                    refine ⟨fun p hp => (by cases hp), ?_⟩
                    unfold pl
                    refine ⟨?_, ?_⟩
                    · simp only [pickL, List.getD_cons_zero, List.getD_cons_succ]
                      go_wp2_with (refine wpList_store_abs rfl 113 _ _ rfl w.heap.size _ (chCells id (some u) (some u)) rfl rfl HR.out info_change rfl (chCells_one id (some u) (some u)) ?_; intro W2 hW2 hU; have C3 := HCc.out.upd hU (by omega); have e1 := C3.cell (i := 1) rfl; have e2 := C3.cell (i := 2) rfl; have e3 := C3.cell (i := 3) rfl; have e4 := C3.cell (i := 4) rfl; have e5 := C3.cell (i := 5) rfl; have e6 := C3.cell (i := 6) rfl; simp only [vOf, Option.getD_none, Option.getD_some, Option.isSome_none, Option.isSome_some] at e1 e2 e3 e4 e5 e6)
                      refine ⟨fun p hp => (by cases hp), ?_⟩
                      unfold pl
                      refine ⟨?_, ?_⟩
                      · simp only [pickL, List.getD_cons_zero, List.getD_cons_succ]
                        go_wp2_with (refine wpList_store_abs rfl 113 _ _ rfl w.heap.size _ (chCells id (some u) (some u)) rfl rfl HR.out info_change rfl (chCells_one id (some u) (some u)) ?_; intro W2 hW2 hU; have C3 := HCc.out.upd hU (by omega); have e1 := C3.cell (i := 1) rfl; have e2 := C3.cell (i := 2) rfl; have e3 := C3.cell (i := 3) rfl; have e4 := C3.cell (i := 4) rfl; have e5 := C3.cell (i := 5) rfl; have e6 := C3.cell (i := 6) rfl; simp only [vOf, Option.getD_none, Option.getD_some, Option.isSome_none, Option.isSome_some] at e1 e2 e3 e4 e5 e6)
                        refine ⟨fun p hp => (by cases hp), ?_⟩
                        unfold pl
                        simp only [pickL, List.getD_cons_zero, List.getD_cons_succ]
                        go_wp2_with (refine wpList_store_abs rfl 113 _ _ rfl w.heap.size _ (chCells id (some u) (some u)) rfl rfl HR.out info_change rfl (chCells_one id (some u) (some u)) ?_; intro W2 hW2 hU; have C3 := HCc.out.upd hU (by omega); have e1 := C3.cell (i := 1) rfl; have e2 := C3.cell (i := 2) rfl; have e3 := C3.cell (i := 3) rfl; have e4 := C3.cell (i := 4) rfl; have e5 := C3.cell (i := 5) rfl; have e6 := C3.cell (i := 6) rfl; simp only [vOf, Option.getD_none, Option.getD_some, Option.isSome_none, Option.isSome_some] at e1 e2 e3 e4 e5 e6)
                        refine ⟨fun p hp => (by cases hp), ?_⟩
                        unfold pl
                        refine ⟨rfl, trivial, ?_⟩
                        go_wp2
                        go_meet
                        case rel => exact ⟨by rw [HD.out], HG.out.trans (hU.below (Nat.le_refl _)), hW2⟩
                      · simp only [pickL, List.getD_cons_zero, List.getD_cons_succ]
                        go_wp2_with (refine wpList_store_abs rfl 113 _ _ rfl w.heap.size _ (chCells id (some u) (some u)) rfl rfl HR.out info_change rfl (chCells_one id (some u) (some u)) ?_; intro W2 hW2 hU; have C3 := HCc.out.upd hU (by omega); have e1 := C3.cell (i := 1) rfl; have e2 := C3.cell (i := 2) rfl; have e3 := C3.cell (i := 3) rfl; have e4 := C3.cell (i := 4) rfl; have e5 := C3.cell (i := 5) rfl; have e6 := C3.cell (i := 6) rfl; simp only [vOf, Option.getD_none, Option.getD_some, Option.isSome_none, Option.isSome_some] at e1 e2 e3 e4 e5 e6)
                        refine ⟨fun p hp => (by cases hp), ?_⟩
                        unfold pl
                        simp only [pickL, List.getD_cons_zero, List.getD_cons_succ]
                        go_wp2_with (refine wpList_store_abs rfl 113 _ _ rfl w.heap.size _ (chCells id (some u) (some u)) rfl rfl HR.out info_change rfl (chCells_one id (some u) (some u)) ?_; intro W2 hW2 hU; have C3 := HCc.out.upd hU (by omega); have e1 := C3.cell (i := 1) rfl; have e2 := C3.cell (i := 2) rfl; have e3 := C3.cell (i := 3) rfl; have e4 := C3.cell (i := 4) rfl; have e5 := C3.cell (i := 5) rfl; have e6 := C3.cell (i := 6) rfl; simp only [vOf, Option.getD_none, Option.getD_some, Option.isSome_none, Option.isSome_some] at e1 e2 e3 e4 e5 e6)
                        refine ⟨fun p hp => (by cases hp), ?_⟩
                        unfold pl
                        refine ⟨rfl, trivial, ?_⟩
                        go_wp2
                        go_meet
                        case rel => exact ⟨by rw [HD.out], HG.out.trans (hU.below (Nat.le_refl _)), hW2⟩
                    · simp only [pickL, List.getD_cons_zero, List.getD_cons_succ]
                      go_wp2_with (refine wpList_store_abs rfl 113 _ _ rfl w.heap.size _ (chCells id (some u) (some u)) rfl rfl HR.out info_change rfl (chCells_one id (some u) (some u)) ?_; intro W2 hW2 hU; have C3 := HCc.out.upd hU (by omega); have e1 := C3.cell (i := 1) rfl; have e2 := C3.cell (i := 2) rfl; have e3 := C3.cell (i := 3) rfl; have e4 := C3.cell (i := 4) rfl; have e5 := C3.cell (i := 5) rfl; have e6 := C3.cell (i := 6) rfl; simp only [vOf, Option.getD_none, Option.getD_some, Option.isSome_none, Option.isSome_some] at e1 e2 e3 e4 e5 e6)
                      refine ⟨fun p hp => (by cases hp), ?_⟩
                      unfold pl
                      simp only [pickL, List.getD_cons_zero, List.getD_cons_succ]
                      go_wp2_with (refine wpList_store_abs rfl 113 _ _ rfl w.heap.size _ (chCells id (some u) (some u)) rfl rfl HR.out info_change rfl (chCells_one id (some u) (some u)) ?_; intro W2 hW2 hU; have C3 := HCc.out.upd hU (by omega); have e1 := C3.cell (i := 1) rfl; have e2 := C3.cell (i := 2) rfl; have e3 := C3.cell (i := 3) rfl; have e4 := C3.cell (i := 4) rfl; have e5 := C3.cell (i := 5) rfl; have e6 := C3.cell (i := 6) rfl; simp only [vOf, Option.getD_none, Option.getD_some, Option.isSome_none, Option.isSome_some] at e1 e2 e3 e4 e5 e6)
                      refine ⟨fun p hp => (by cases hp), ?_⟩
                      unfold pl
                      refine ⟨rfl, trivial, ?_⟩
                      go_wp2
                      go_meet
                      case rel => exact ⟨by rw [HD.out], HG.out.trans (hU.below (Nat.le_refl _)), hW2⟩
                  · simp only [pickL, List.getD_cons_zero, List.getD_cons_succ]
                    go_wp2_with (refine wpList_store_abs rfl 113 _ _ rfl w.heap.size _ (chCells id (some u) (some u)) rfl rfl HR.out info_change rfl (chCells_one id (some u) (some u)) ?_; intro W2 hW2 hU; have C3 := HCc.out.upd hU (by omega); have e1 := C3.cell (i := 1) rfl; have e2 := C3.cell (i := 2) rfl; have e3 := C3.cell (i := 3) rfl; have e4 := C3.cell (i := 4) rfl; have e5 := C3.cell (i := 5) rfl; have e6 := C3.cell (i := 6) rfl; simp only [vOf, Option.getD_none, Option.getD_some, Option.isSome_none, Option.isSome_some] at e1 e2 e3 e4 e5 e6)
                    refine ⟨fun p hp => (by cases hp), ?_⟩
                    unfold pl
                    simp only [pickL, List.getD_cons_zero, List.getD_cons_succ]
                    go_wp2_with (refine wpList_store_abs rfl 113 _ _ rfl w.heap.size _ (chCells id (some u) (some u)) rfl rfl HR.out info_change rfl (chCells_one id (some u) (some u)) ?_; intro W2 hW2 hU; have C3 := HCc.out.upd hU (by omega); have e1 := C3.cell (i := 1) rfl; have e2 := C3.cell (i := 2) rfl; have e3 := C3.cell (i := 3) rfl; have e4 := C3.cell (i := 4) rfl; have e5 := C3.cell (i := 5) rfl; have e6 := C3.cell (i := 6) rfl; simp only [vOf, Option.getD_none, Option.getD_some, Option.isSome_none, Option.isSome_some] at e1 e2 e3 e4 e5 e6)
                    refine ⟨fun p hp => (by cases hp), ?_⟩
                    unfold pl
                    refine ⟨rfl, trivial, ?_⟩
                    go_wp2
                    go_meet
                    case rel => exact ⟨by rw [HD.out], HG.out.trans (hU.below (Nat.le_refl _)), hW2⟩
                · simp only [pickL, List.getD_cons_zero, List.getD_cons_succ]
                  go_wp2_with (refine wpList_store_abs rfl 113 _ _ rfl w.heap.size _ (chCells id (some u) (some u)) rfl rfl HR.out info_change rfl (chCells_one id (some u) (some u)) ?_; intro W2 hW2 hU; have C3 := HCc.out.upd hU (by omega); have e1 := C3.cell (i := 1) rfl; have e2 := C3.cell (i := 2) rfl; have e3 := C3.cell (i := 3) rfl; have e4 := C3.cell (i := 4) rfl; have e5 := C3.cell (i := 5) rfl; have e6 := C3.cell (i := 6) rfl; simp only [vOf, Option.getD_none, Option.getD_some, Option.isSome_none, Option.isSome_some] at e1 e2 e3 e4 e5 e6)
                  refine ⟨fun p hp => (by cases hp), ?_⟩
                  unfold pl
                  refine ⟨?_, ?_⟩
                  · simp only [pickL, List.getD_cons_zero, List.getD_cons_succ]
                    go_wp2_with (refine wpList_store_abs rfl 113 _ _ rfl w.heap.size _ (chCells id (some u) (some u)) rfl rfl HR.out info_change rfl (chCells_one id (some u) (some u)) ?_; intro W2 hW2 hU; have C3 := HCc.out.upd hU (by omega); have e1 := C3.cell (i := 1) rfl; have e2 := C3.cell (i := 2) rfl; have e3 := C3.cell (i := 3) rfl; have e4 := C3.cell (i := 4) rfl; have e5 := C3.cell (i := 5) rfl; have e6 := C3.cell (i := 6) rfl; simp only [vOf, Option.getD_none, Option.getD_some, Option.isSome_none, Option.isSome_some] at e1 e2 e3 e4 e5 e6)
                    refine ⟨fun p hp => (by cases hp), ?_⟩
                    unfold pl
                    refine ⟨?_, ?_⟩
                    · simp only [pickL, List.getD_cons_zero, List.getD_cons_succ]
                      go_wp2_with (refine wpList_store_abs rfl 113 _ _ rfl w.heap.size _ (chCells id (some u) (some u)) rfl rfl HR.out info_change rfl (chCells_one id (some u) (some u)) ?_; intro W2 hW2 hU; have C3 := HCc.out.upd hU (by omega); have e1 := C3.cell (i := 1) rfl; have e2 := C3.cell (i := 2) rfl; have e3 := C3.cell (i := 3) rfl; have e4 := C3.cell (i := 4) rfl; have e5 := C3.cell (i := 5) rfl; have e6 := C3.cell (i := 6) rfl; simp only [vOf, Option.getD_none, Option.getD_some, Option.isSome_none, Option.isSome_some] at e1 e2 e3 e4 e5 e6)
                      refine ⟨fun p hp => (by cases hp), ?_⟩
                      unfold pl
                      refine ⟨?_, ?_⟩
                      · simp only [pickL, List.getD_cons_zero, List.getD_cons_succ]
                        go_wp2_with (refine wpList_store_abs rfl 113 _ _ rfl w.heap.size _ (chCells id (some u) (some u)) rfl rfl HR.out info_change rfl (chCells_one id (some u) (some u)) ?_; intro W2 hW2 hU; have C3 := HCc.out.upd hU (by omega); have e1 := C3.cell (i := 1) rfl; have e2 := C3.cell (i := 2) rfl; have e3 := C3.cell (i := 3) rfl; have e4 := C3.cell (i := 4) rfl; have e5 := C3.cell (i := 5) rfl; have e6 := C3.cell (i := 6) rfl; simp only [vOf, Option.getD_none, Option.getD_some, Option.isSome_none, Option.isSome_some] at e1 e2 e3 e4 e5 e6)
                        refine ⟨fun p hp => (by cases hp), ?_⟩
                        unfold pl
                        simp only [pickL, List.getD_cons_zero, List.getD_cons_succ]
                        go_wp2_with (refine wpList_store_abs rfl 113 _ _ rfl w.heap.size _ (chCells id (some u) (some u)) rfl rfl HR.out info_change rfl (chCells_one id (some u) (some u)) ?_; intro W2 hW2 hU; have C3 := HCc.out.upd hU (by omega); have e1 := C3.cell (i := 1) rfl; have e2 := C3.cell (i := 2) rfl; have e3 := C3.cell (i := 3) rfl; have e4 := C3.cell (i := 4) rfl; have e5 := C3.cell (i := 5) rfl; have e6 := C3.cell (i := 6) rfl; simp only [vOf, Option.getD_none, Option.getD_some, Option.isSome_none, Option.isSome_some] at e1 e2 e3 e4 e5 e6)
                        refine ⟨fun p hp => (by cases hp), ?_⟩
                        unfold pl
                        refine ⟨rfl, trivial, ?_⟩
                        go_wp2
                        go_meet
                        case rel => exact ⟨by rw [HD.out], HG.out.trans (hU.below (Nat.le_refl _)), hW2⟩
                      · simp only [pickL, List.getD_cons_zero, List.getD_cons_succ]
                        go_wp2_with (refine wpList_store_abs rfl 113 _ _ rfl w.heap.size _ (chCells id (some u) (some u)) rfl rfl HR.out info_change rfl (chCells_one id (some u) (some u)) ?_; intro W2 hW2 hU; have C3 := HCc.out.upd hU (by omega); have e1 := C3.cell (i := 1) rfl; have e2 := C3.cell (i := 2) rfl; have e3 := C3.cell (i := 3) rfl; have e4 := C3.cell (i := 4) rfl; have e5 := C3.cell (i := 5) rfl; have e6 := C3.cell (i := 6) rfl; simp only [vOf, Option.getD_none, Option.getD_some, Option.isSome_none, Option.isSome_some] at e1 e2 e3 e4 e5 e6)
                        refine ⟨fun p hp => (by cases hp), ?_⟩
                        unfold pl
                        simp only [pickL, List.getD_cons_zero, List.getD_cons_succ]
                        go_wp2_with (refine wpList_store_abs rfl 113 _ _ rfl w.heap.size _ (chCells id (some u) (some u)) rfl rfl HR.out info_change rfl (chCells_one id (some u) (some u)) ?_; intro W2 hW2 hU; have C3 := HCc.out.upd hU (by omega); have e1 := C3.cell (i := 1) rfl; have e2 := C3.cell (i := 2) rfl; have e3 := C3.cell (i := 3) rfl; have e4 := C3.cell (i := 4) rfl; have e5 := C3.cell (i := 5) rfl; have e6 := C3.cell (i := 6) rfl; simp only [vOf, Option.getD_none, Option.getD_some, Option.isSome_none, Option.isSome_some] at e1 e2 e3 e4 e5 e6)
                        refine ⟨fun p hp => (by cases hp), ?_⟩
                        unfold pl
                        refine ⟨rfl, trivial, ?_⟩
                        go_wp2
                        go_meet
                        case rel => exact ⟨by rw [HD.out], HG.out.trans (hU.below (Nat.le_refl _)), hW2⟩
                    · simp only [pickL, List.getD_cons_zero, List.getD_cons_succ]
                      go_wp2_with (refine wpList_store_abs rfl 113 _ _ rfl w.heap.size _ (chCells id (some u) (some u)) rfl rfl HR.out info_change rfl (chCells_one id (some u) (some u)) ?_; intro W2 hW2 hU; have C3 := HCc.out.upd hU (by omega); have e1 := C3.cell (i := 1) rfl; have e2 := C3.cell (i := 2) rfl; have e3 := C3.cell (i := 3) rfl; have e4 := C3.cell (i := 4) rfl; have e5 := C3.cell (i := 5) rfl; have e6 := C3.cell (i := 6) rfl; simp only [vOf, Option.getD_none, Option.getD_some, Option.isSome_none, Option.isSome_some] at e1 e2 e3 e4 e5 e6)
                      refine ⟨fun p hp => (by cases hp), ?_⟩
                      unfold pl
                      simp only [pickL, List.getD_cons_zero, List.getD_cons_succ]
                      go_wp2_with (refine wpList_store_abs rfl 113 _ _ rfl w.heap.size _ (chCells id (some u) (some u)) rfl rfl HR.out info_change rfl (chCells_one id (some u) (some u)) ?_; intro W2 hW2 hU; have C3 := HCc.out.upd hU (by omega); have e1 := C3.cell (i := 1) rfl; have e2 := C3.cell (i := 2) rfl; have e3 := C3.cell (i := 3) rfl; have e4 := C3.cell (i := 4) rfl; have e5 := C3.cell (i := 5) rfl; have e6 := C3.cell (i := 6) rfl; simp only [vOf, Option.getD_none, Option.getD_some, Option.isSome_none, Option.isSome_some] at e1 e2 e3 e4 e5 e6)
                      refine ⟨fun p hp => (by cases hp), ?_⟩
                      unfold pl
                      refine ⟨rfl, trivial, ?_⟩
                      go_wp2
                      go_meet
                      case rel => exact ⟨by rw [HD.out], HG.out.trans (hU.below (Nat.le_refl _)), hW2⟩
                  · simp only [pickL, List.getD_cons_zero, List.getD_cons_succ]
                    go_wp2_with (refine wpList_store_abs rfl 113 _ _ rfl w.heap.size _ (chCells id (some u) (some u)) rfl rfl HR.out info_change rfl (chCells_one id (some u) (some u)) ?_; intro W2 hW2 hU; have C3 := HCc.out.upd hU (by omega); have e1 := C3.cell (i := 1) rfl; have e2 := C3.cell (i := 2) rfl; have e3 := C3.cell (i := 3) rfl; have e4 := C3.cell (i := 4) rfl; have e5 := C3.cell (i := 5) rfl; have e6 := C3.cell (i := 6) rfl; simp only [vOf, Option.getD_none, Option.getD_some, Option.isSome_none, Option.isSome_some] at e1 e2 e3 e4 e5 e6)
                    refine ⟨fun p hp => (by cases hp), ?_⟩
                    unfold pl
                    refine ⟨?_, ?_⟩
                    · simp only [pickL, List.getD_cons_zero, List.getD_cons_succ]
                      go_wp2_with (refine wpList_store_abs rfl 113 _ _ rfl w.heap.size _ (chCells id (some u) (some u)) rfl rfl HR.out info_change rfl (chCells_one id (some u) (some u)) ?_; intro W2 hW2 hU; have C3 := HCc.out.upd hU (by omega); have e1 := C3.cell (i := 1) rfl; have e2 := C3.cell (i := 2) rfl; have e3 := C3.cell (i := 3) rfl; have e4 := C3.cell (i := 4) rfl; have e5 := C3.cell (i := 5) rfl; have e6 := C3.cell (i := 6) rfl; simp only [vOf, Option.getD_none, Option.getD_some, Option.isSome_none, Option.isSome_some] at e1 e2 e3 e4 e5 e6)
                      refine ⟨fun p hp => (by cases hp), ?_⟩
                      unfold pl
                      refine ⟨?_, ?_⟩
                      · simp only [pickL, List.getD_cons_zero, List.getD_cons_succ]
                        go_wp2_with (refine wpList_store_abs rfl 113 _ _ rfl w.heap.size _ (chCells id (some u) (some u)) rfl rfl HR.out info_change rfl (chCells_one id (some u) (some u)) ?_; intro W2 hW2 hU; have C3 := HCc.out.upd hU (by omega); have e1 := C3.cell (i := 1) rfl; have e2 := C3.cell (i := 2) rfl; have e3 := C3.cell (i := 3) rfl; have e4 := C3.cell (i := 4) rfl; have e5 := C3.cell (i := 5) rfl; have e6 := C3.cell (i := 6) rfl; simp only [vOf, Option.getD_none, Option.getD_some, Option.isSome_none, Option.isSome_some] at e1 e2 e3 e4 e5 e6)
                        refine ⟨fun p hp => (by cases hp), ?_⟩
                        unfold pl
                        simp only [pickL, List.getD_cons_zero, List.getD_cons_succ]
                        go_wp2_with (refine wpList_store_abs rfl 113 _ _ rfl w.heap.size _ (chCells id (some u) (some u)) rfl rfl HR.out info_change rfl (chCells_one id (some u) (some u)) ?_; intro W2 hW2 hU; have C3 := HCc.out.upd hU (by omega); have e1 := C3.cell (i := 1) rfl; have e2 := C3.cell (i := 2) rfl; have e3 := C3.cell (i := 3) rfl; have e4 := C3.cell (i := 4) rfl; have e5 := C3.cell (i := 5) rfl; have e6 := C3.cell (i := 6) rfl; simp only [vOf, Option.getD_none, Option.getD_some, Option.isSome_none, Option.isSome_some] at e1 e2 e3 e4 e5 e6)
                        refine ⟨fun p hp => (by cases hp), ?_⟩
                        unfold pl
                        refine ⟨rfl, trivial, ?_⟩
                        go_wp2
                        go_meet
                        case rel => exact ⟨by rw [HD.out], HG.out.trans (hU.below (Nat.le_refl _)), hW2⟩
                      · simp only [pickL, List.getD_cons_zero, List.getD_cons_succ]
                        go_wp2_with (refine wpList_store_abs rfl 113 _ _ rfl w.heap.size _ (chCells id (some u) (some u)) rfl rfl HR.out info_change rfl (chCells_one id (some u) (some u)) ?_; intro W2 hW2 hU; have C3 := HCc.out.upd hU (by omega); have e1 := C3.cell (i := 1) rfl; have e2 := C3.cell (i := 2) rfl; have e3 := C3.cell (i := 3) rfl; have e4 := C3.cell (i := 4) rfl; have e5 := C3.cell (i := 5) rfl; have e6 := C3.cell (i := 6) rfl; simp only [vOf, Option.getD_none, Option.getD_some, Option.isSome_none, Option.isSome_some] at e1 e2 e3 e4 e5 e6)
                        refine ⟨fun p hp => (by cases hp), ?_⟩
                        unfold pl
                        simp only [pickL, List.getD_cons_zero, List.getD_cons_succ]
                        go_wp2_with (refine wpList_store_abs rfl 113 _ _ rfl w.heap.size _ (chCells id (some u) (some u)) rfl rfl HR.out info_change rfl (chCells_one id (some u) (some u)) ?_; intro W2 hW2 hU; have C3 := HCc.out.upd hU (by omega); have e1 := C3.cell (i := 1) rfl; have e2 := C3.cell (i := 2) rfl; have e3 := C3.cell (i := 3) rfl; have e4 := C3.cell (i := 4) rfl; have e5 := C3.cell (i := 5) rfl; have e6 := C3.cell (i := 6) rfl; simp only [vOf, Option.getD_none, Option.getD_some, Option.isSome_none, Option.isSome_some] at e1 e2 e3 e4 e5 e6)
                        refine ⟨fun p hp => (by cases hp), ?_⟩
                        unfold pl
                        refine ⟨rfl, trivial, ?_⟩
                        go_wp2
                        go_meet
                        case rel => exact ⟨by rw [HD.out], HG.out.trans (hU.below (Nat.le_refl _)), hW2⟩
                    · simp only [pickL, List.getD_cons_zero, List.getD_cons_succ]
                      go_wp2_with (refine wpList_store_abs rfl 113 _ _ rfl w.heap.size _ (chCells id (some u) (some u)) rfl rfl HR.out info_change rfl (chCells_one id (some u) (some u)) ?_; intro W2 hW2 hU; have C3 := HCc.out.upd hU (by omega); have e1 := C3.cell (i := 1) rfl; have e2 := C3.cell (i := 2) rfl; have e3 := C3.cell (i := 3) rfl; have e4 := C3.cell (i := 4) rfl; have e5 := C3.cell (i := 5) rfl; have e6 := C3.cell (i := 6) rfl; simp only [vOf, Option.getD_none, Option.getD_some, Option.isSome_none, Option.isSome_some] at e1 e2 e3 e4 e5 e6)
                      refine ⟨fun p hp => (by cases hp), ?_⟩
                      unfold pl
                      simp only [pickL, List.getD_cons_zero, List.getD_cons_succ]
                      go_wp2_with (refine wpList_store_abs rfl 113 _ _ rfl w.heap.size _ (chCells id (some u) (some u)) rfl rfl HR.out info_change rfl (chCells_one id (some u) (some u)) ?_; intro W2 hW2 hU; have C3 := HCc.out.upd hU (by omega); have e1 := C3.cell (i := 1) rfl; have e2 := C3.cell (i := 2) rfl; have e3 := C3.cell (i := 3) rfl; have e4 := C3.cell (i := 4) rfl; have e5 := C3.cell (i := 5) rfl; have e6 := C3.cell (i := 6) rfl; simp only [vOf, Option.getD_none, Option.getD_some, Option.isSome_none, Option.isSome_some] at e1 e2 e3 e4 e5 e6)
                      refine ⟨fun p hp => (by cases hp), ?_⟩
                      unfold pl
                      refine ⟨rfl, trivial, ?_⟩
                      go_wp2
                      go_meet
                      case rel => exact ⟨by rw [HD.out], HG.out.trans (hU.below (Nat.le_refl _)), hW2⟩
                · simp only [pickL, List.getD_cons_zero, List.getD_cons_succ]
                  go_wp2_with (refine wpList_store_abs rfl 113 _ _ rfl w.heap.size _ (chCells id (some u) (some u)) rfl rfl HR.out info_change rfl (chCells_one id (some u) (some u)) ?_; intro W2 hW2 hU; have C3 := HCc.out.upd hU (by omega); have e1 := C3.cell (i := 1) rfl; have e2 := C3.cell (i := 2) rfl; have e3 := C3.cell (i := 3) rfl; have e4 := C3.cell (i := 4) rfl; have e5 := C3.cell (i := 5) rfl; have e6 := C3.cell (i := 6) rfl; simp only [vOf, Option.getD_none, Option.getD_some, Option.isSome_none, Option.isSome_some] at e1 e2 e3 e4 e5 e6)
                  refine ⟨fun p hp => (by cases hp), ?_⟩
                  unfold pl
                  refine ⟨?_, ?_⟩
                  · simp only [pickL, List.getD_cons_zero, List.getD_cons_succ]
                    go_wp2_with (refine wpList_store_abs rfl 113 _ _ rfl w.heap.size _ (chCells id (some u) (some u)) rfl rfl HR.out info_change rfl (chCells_one id (some u) (some u)) ?_; intro W2 hW2 hU; have C3 := HCc.out.upd hU (by omega); have e1 := C3.cell (i := 1) rfl; have e2 := C3.cell (i := 2) rfl; have e3 := C3.cell (i := 3) rfl; have e4 := C3.cell (i := 4) rfl; have e5 := C3.cell (i := 5) rfl; have e6 := C3.cell (i := 6) rfl; simp only [vOf, Option.getD_none, Option.getD_some, Option.isSome_none, Option.isSome_some] at e1 e2 e3 e4 e5 e6)
                    refine ⟨fun p hp => (by cases hp), ?_⟩
                    unfold pl
                    refine ⟨?_, ?_⟩
                    · simp only [pickL, List.getD_cons_zero, List.getD_cons_succ]
                      go_wp2_with (refine wpList_store_abs rfl 113 _ _ rfl w.heap.size _ (chCells id (some u) (some u)) rfl rfl HR.out info_change rfl (chCells_one id (some u) (some u)) ?_; intro W2 hW2 hU; have C3 := HCc.out.upd hU (by omega); have e1 := C3.cell (i := 1) rfl; have e2 := C3.cell (i := 2) rfl; have e3 := C3.cell (i := 3) rfl; have e4 := C3.cell (i := 4) rfl; have e5 := C3.cell (i := 5) rfl; have e6 := C3.cell (i := 6) rfl; simp only [vOf, Option.getD_none, Option.getD_some, Option.isSome_none, Option.isSome_some] at e1 e2 e3 e4 e5 e6)
                      refine ⟨fun p hp => (by cases hp), ?_⟩
                      unfold pl
                      refine ⟨?_, ?_⟩
                      · simp only [pickL, List.getD_cons_zero, List.getD_cons_succ]
                        go_wp2_with (refine wpList_store_abs rfl 113 _ _ rfl w.heap.size _ (chCells id (some u) (some u)) rfl rfl HR.out info_change rfl (chCells_one id (some u) (some u)) ?_; intro W2 hW2 hU; have C3 := HCc.out.upd hU (by omega); have e1 := C3.cell (i := 1) rfl; have e2 := C3.cell (i := 2) rfl; have e3 := C3.cell (i := 3) rfl; have e4 := C3.cell (i := 4) rfl; have e5 := C3.cell (i := 5) rfl; have e6 := C3.cell (i := 6) rfl; simp only [vOf, Option.getD_none, Option.getD_some, Option.isSome_none, Option.isSome_some] at e1 e2 e3 e4 e5 e6)
                        refine ⟨fun p hp => (by cases hp), ?_⟩
                        unfold pl
                        simp only [pickL, List.getD_cons_zero, List.getD_cons_succ]
                        go_wp2_with (refine wpList_store_abs rfl 113 _ _ rfl w.heap.size _ (chCells id (some u) (some u)) rfl rfl HR.out info_change rfl (chCells_one id (some u) (some u)) ?_; intro W2 hW2 hU; have C3 := HCc.out.upd hU (by omega); have e1 := C3.cell (i := 1) rfl; have e2 := C3.cell (i := 2) rfl; have e3 := C3.cell (i := 3) rfl; have e4 := C3.cell (i := 4) rfl; have e5 := C3.cell (i := 5) rfl; have e6 := C3.cell (i := 6) rfl; simp only [vOf, Option.getD_none, Option.getD_some, Option.isSome_none, Option.isSome_some] at e1 e2 e3 e4 e5 e6)
                        refine ⟨fun p hp => (by cases hp), ?_⟩
                        unfold pl
                        refine ⟨rfl, trivial, ?_⟩
                        go_wp2
                        go_meet
                        case rel => exact ⟨by rw [HD.out], HG.out.trans (hU.below (Nat.le_refl _)), hW2⟩
                      · simp only [pickL, List.getD_cons_zero, List.getD_cons_succ]
                        go_wp2_with (refine wpList_store_abs rfl 113 _ _ rfl w.heap.size _ (chCells id (some u) (some u)) rfl rfl HR.out info_change rfl (chCells_one id (some u) (some u)) ?_; intro W2 hW2 hU; have C3 := HCc.out.upd hU (by omega); have e1 := C3.cell (i := 1) rfl; have e2 := C3.cell (i := 2) rfl; have e3 := C3.cell (i := 3) rfl; have e4 := C3.cell (i := 4) rfl; have e5 := C3.cell (i := 5) rfl; have e6 := C3.cell (i := 6) rfl; simp only [vOf, Option.getD_none, Option.getD_some, Option.isSome_none, Option.isSome_some] at e1 e2 e3 e4 e5 e6)
                        refine ⟨fun p hp => (by cases hp), ?_⟩
                        unfold pl
                        simp only [pickL, List.getD_cons_zero, List.getD_cons_succ]
                        go_wp2_with (refine wpList_store_abs rfl 113 _ _ rfl w.heap.size _ (chCells id (some u) (some u)) rfl rfl HR.out info_change rfl (chCells_one id (some u) (some u)) ?_; intro W2 hW2 hU; have C3 := HCc.out.upd hU (by omega); have e1 := C3.cell (i := 1) rfl; have e2 := C3.cell (i := 2) rfl; have e3 := C3.cell (i := 3) rfl; have e4 := C3.cell (i := 4) rfl; have e5 := C3.cell (i := 5) rfl; have e6 := C3.cell (i := 6) rfl; simp only [vOf, Option.getD_none, Option.getD_some, Option.isSome_none, Option.isSome_some] at e1 e2 e3 e4 e5 e6)
                        refine ⟨fun p hp => (by cases hp), ?_⟩
                        unfold pl
                        refine ⟨rfl, trivial, ?_⟩
                        go_wp2
                        go_meet
                        case rel => exact ⟨by rw [HD.out], HG.out.trans (hU.below (Nat.le_refl _)), hW2⟩
                    · simp only [pickL, List.getD_cons_zero, List.getD_cons_succ]
                      go_wp2_with (refine wpList_store_abs rfl 113 _ _ rfl w.heap.size _ (chCells id (some u) (some u)) rfl rfl HR.out info_change rfl (chCells_one id (some u) (some u)) ?_; intro W2 hW2 hU; have C3 := HCc.out.upd hU (by omega); have e1 := C3.cell (i := 1) rfl; have e2 := C3.cell (i := 2) rfl; have e3 := C3.cell (i := 3) rfl; have e4 := C3.cell (i := 4) rfl; have e5 := C3.cell (i := 5) rfl; have e6 := C3.cell (i := 6) rfl; simp only [vOf, Option.getD_none, Option.getD_some, Option.isSome_none, Option.isSome_some] at e1 e2 e3 e4 e5 e6)
                      refine ⟨fun p hp => (by cases hp), ?_⟩
                      unfold pl
                      simp only [pickL, List.getD_cons_zero, List.getD_cons_succ]
                      go_wp2_with (refine wpList_store_abs rfl 113 _ _ rfl w.heap.size _ (chCells id (some u) (some u)) rfl rfl HR.out info_change rfl (chCells_one id (some u) (some u)) ?_; intro W2 hW2 hU; have C3 := HCc.out.upd hU (by omega); have e1 := C3.cell (i := 1) rfl; have e2 := C3.cell (i := 2) rfl; have e3 := C3.cell (i := 3) rfl; have e4 := C3.cell (i := 4) rfl; have e5 := C3.cell (i := 5) rfl; have e6 := C3.cell (i := 6) rfl; simp only [vOf, Option.getD_none, Option.getD_some, Option.isSome_none, Option.isSome_some] at e1 e2 e3 e4 e5 e6)
                      refine ⟨fun p hp => (by cases hp), ?_⟩
                      unfold pl
                      refine ⟨rfl, trivial, ?_⟩
                      go_wp2
                      go_meet
                      case rel => exact ⟨by rw [HD.out], HG.out.trans (hU.below (Nat.le_refl _)), hW2⟩
                  · simp only [pickL, List.getD_cons_zero, List.getD_cons_succ]
                    go_wp2_with (refine wpList_store_abs rfl 113 _ _ rfl w.heap.size _ (chCells id (some u) (some u)) rfl rfl HR.out info_change rfl (chCells_one id (some u) (some u)) ?_; intro W2 hW2 hU; have C3 := HCc.out.upd hU (by omega); have e1 := C3.cell (i := 1) rfl; have e2 := C3.cell (i := 2) rfl; have e3 := C3.cell (i := 3) rfl; have e4 := C3.cell (i := 4) rfl; have e5 := C3.cell (i := 5) rfl; have e6 := C3.cell (i := 6) rfl; simp only [vOf, Option.getD_none, Option.getD_some, Option.isSome_none, Option.isSome_some] at e1 e2 e3 e4 e5 e6)
                    refine ⟨fun p hp => (by cases hp), ?_⟩
                    unfold pl
                    refine ⟨?_, ?_⟩
                    · simp only [pickL, List.getD_cons_zero, List.getD_cons_succ]
                      go_wp2_with (refine wpList_store_abs rfl 113 _ _ rfl w.heap.size _ (chCells id (some u) (some u)) rfl rfl HR.out info_change rfl (chCells_one id (some u) (some u)) ?_; intro W2 hW2 hU; have C3 := HCc.out.upd hU (by omega); have e1 := C3.cell (i := 1) rfl; have e2 := C3.cell (i := 2) rfl; have e3 := C3.cell (i := 3) rfl; have e4 := C3.cell (i := 4) rfl; have e5 := C3.cell (i := 5) rfl; have e6 := C3.cell (i := 6) rfl; simp only [vOf, Option.getD_none, Option.getD_some, Option.isSome_none, Option.isSome_some] at e1 e2 e3 e4 e5 e6)
                      refine ⟨fun p hp => (by cases hp), ?_⟩
                      unfold pl
                      refine ⟨?_, ?_⟩
                      · simp only [pickL, List.getD_cons_zero, List.getD_cons_succ]
                        go_wp2_with (refine wpList_store_abs rfl 113 _ _ rfl w.heap.size _ (chCells id (some u) (some u)) rfl rfl HR.out info_change rfl (chCells_one id (some u) (some u)) ?_; intro W2 hW2 hU; have C3 := HCc.out.upd hU (by omega); have e1 := C3.cell (i := 1) rfl; have e2 := C3.cell (i := 2) rfl; have e3 := C3.cell (i := 3) rfl; have e4 := C3.cell (i := 4) rfl; have e5 := C3.cell (i := 5) rfl; have e6 := C3.cell (i := 6) rfl; simp only [vOf, Option.getD_none, Option.getD_some, Option.isSome_none, Option.isSome_some] at e1 e2 e3 e4 e5 e6)
                        refine ⟨fun p hp => (by cases hp), ?_⟩
                        unfold pl
                        simp only [pickL, List.getD_cons_zero, List.getD_cons_succ]
                        go_wp2_with (refine wpList_store_abs rfl 113 _ _ rfl w.heap.size _ (chCells id (some u) (some u)) rfl rfl HR.out info_change rfl (chCells_one id (some u) (some u)) ?_; intro W2 hW2 hU; have C3 := HCc.out.upd hU (by omega); have e1 := C3.cell (i := 1) rfl; have e2 := C3.cell (i := 2) rfl; have e3 := C3.cell (i := 3) rfl; have e4 := C3.cell (i := 4) rfl; have e5 := C3.cell (i := 5) rfl; have e6 := C3.cell (i := 6) rfl; simp only [vOf, Option.getD_none, Option.getD_some, Option.isSome_none, Option.isSome_some] at e1 e2 e3 e4 e5 e6)
                        refine ⟨fun p hp => (by cases hp), ?_⟩
                        unfold pl
                        refine ⟨rfl, trivial, ?_⟩
                        go_wp2
                        go_meet
                        case rel => exact ⟨by rw [HD.out], HG.out.trans (hU.below (Nat.le_refl _)), hW2⟩
                      · simp only [pickL, List.getD_cons_zero, List.getD_cons_succ]
                        go_wp2_with (refine wpList_store_abs rfl 113 _ _ rfl w.heap.size _ (chCells id (some u) (some u)) rfl rfl HR.out info_change rfl (chCells_one id (some u) (some u)) ?_; intro W2 hW2 hU; have C3 := HCc.out.upd hU (by omega); have e1 := C3.cell (i := 1) rfl; have e2 := C3.cell (i := 2) rfl; have e3 := C3.cell (i := 3) rfl; have e4 := C3.cell (i := 4) rfl; have e5 := C3.cell (i := 5) rfl; have e6 := C3.cell (i := 6) rfl; simp only [vOf, Option.getD_none, Option.getD_some, Option.isSome_none, Option.isSome_some] at e1 e2 e3 e4 e5 e6)
                        refine ⟨fun p hp => (by cases hp), ?_⟩
                        unfold pl
                        simp only [pickL, List.getD_cons_zero, List.getD_cons_succ]
                        go_wp2_with (refine wpList_store_abs rfl 113 _ _ rfl w.heap.size _ (chCells id (some u) (some u)) rfl rfl HR.out info_change rfl (chCells_one id (some u) (some u)) ?_; intro W2 hW2 hU; have C3 := HCc.out.upd hU (by omega); have e1 := C3.cell (i := 1) rfl; have e2 := C3.cell (i := 2) rfl; have e3 := C3.cell (i := 3) rfl; have e4 := C3.cell (i := 4) rfl; have e5 := C3.cell (i := 5) rfl; have e6 := C3.cell (i := 6) rfl; simp only [vOf, Option.getD_none, Option.getD_some, Option.isSome_none, Option.isSome_some] at e1 e2 e3 e4 e5 e6)
                        refine ⟨fun p hp => (by cases hp), ?_⟩
                        unfold pl
                        refine ⟨rfl, trivial, ?_⟩
                        go_wp2
                        go_meet
                        case rel => exact ⟨by rw [HD.out], HG.out.trans (hU.below (Nat.le_refl _)), hW2⟩
                    · simp only [pickL, List.getD_cons_zero, List.getD_cons_succ]
                      go_wp2_with (refine wpList_store_abs rfl 113 _ _ rfl w.heap.size _ (chCells id (some u) (some u)) rfl rfl HR.out info_change rfl (chCells_one id (some u) (some u)) ?_; intro W2 hW2 hU; have C3 := HCc.out.upd hU (by omega); have e1 := C3.cell (i := 1) rfl; have e2 := C3.cell (i := 2) rfl; have e3 := C3.cell (i := 3) rfl; have e4 := C3.cell (i := 4) rfl; have e5 := C3.cell (i := 5) rfl; have e6 := C3.cell (i := 6) rfl; simp only [vOf, Option.getD_none, Option.getD_some, Option.isSome_none, Option.isSome_some] at e1 e2 e3 e4 e5 e6)
                      refine ⟨fun p hp => (by cases hp), ?_⟩
                      unfold pl
                      simp only [pickL, List.getD_cons_zero, List.getD_cons_succ]
                      go_wp2_with (refine wpList_store_abs rfl 113 _ _ rfl w.heap.size _ (chCells id (some u) (some u)) rfl rfl HR.out info_change rfl (chCells_one id (some u) (some u)) ?_; intro W2 hW2 hU; have C3 := HCc.out.upd hU (by omega); have e1 := C3.cell (i := 1) rfl; have e2 := C3.cell (i := 2) rfl; have e3 := C3.cell (i := 3) rfl; have e4 := C3.cell (i := 4) rfl; have e5 := C3.cell (i := 5) rfl; have e6 := C3.cell (i := 6) rfl; simp only [vOf, Option.getD_none, Option.getD_some, Option.isSome_none, Option.isSome_some] at e1 e2 e3 e4 e5 e6)
                      refine ⟨fun p hp => (by cases hp), ?_⟩
                      unfold pl
                      refine ⟨rfl, trivial, ?_⟩
                      go_wp2
                      go_meet
                      case rel => exact ⟨by rw [HD.out], HG.out.trans (hU.below (Nat.le_refl _)), hW2⟩
              · have hd : decide (some u ≠ some v) = true := decide_eq_true fun e => hn (by cases e; rfl)
                have hk1 : (u.k == v.k) = true := by simpa using hk
                have hn1 : (u.n == v.n) = false := by simpa using hn
                clear hk hn
                have HD := Lib.hid hd
                clear hd
                simp only [vOf, Option.getD_none, Option.getD_some, Option.isSome_none, Option.isSome_some] at c0 c1 c2' c3 c4 c5 c6
                refine rgnT (.seg [1, 2, 3, 4, 5, 6, 7, 9] (.three 0 8 10 (.three 8 10 13 (.two 10 13 (.two 11 13 (.seg [12, 13, 14] .fin) (.seg [11, 12, 14] .fin)) (.seg [10, 11, 12, 14] .fin)) (.two 8 13 (.two 11 13 (.seg [12, 13, 14] .fin) (.seg [11, 12, 14] .fin)) (.seg [8, 11, 12, 14] .fin)) (.seg [8, 10, 11, 12, 14] .fin)) (.two 0 10 (.two 10 13 (.two 11 13 (.seg [12, 13, 14] .fin) (.seg [11, 12, 14] .fin)) (.seg [10, 11, 12, 14] .fin)) (.two 0 11 (.two 11 13 (.seg [12, 13, 14] .fin) (.seg [11, 12, 14] .fin)) (.seg [0, 12, 13, 14] .fin))) (.two 0 8 (.two 8 13 (.two 11 13 (.seg [12, 13, 14] .fin) (.seg [11, 12, 14] .fin)) (.seg [8, 11, 12, 14] .fin)) (.two 0 11 (.two 11 13 (.seg [12, 13, 14] .fin) (.seg [11, 12, 14] .fin)) (.seg [0, 12, 13, 14] .fin))))) [5] [] [] (by kernel_rfl) (by simp) ?_ ?_
                · intro p hp; cases hp
                unfold pl
                simp only [pickL, List.getD_cons_zero, List.getD_cons_succ]
                go_wp2_with (refine wpList_store_abs rfl 113 _ _ rfl w.heap.size _ (chCells id (some u) (some v)) rfl rfl HR.out info_change rfl (chCells_one id (some u) (some v)) ?_; intro W2 hW2 hU; have C3 := HCc.out.upd hU (by omega); have e1 := C3.cell (i := 1) rfl; have e2 := C3.cell (i := 2) rfl; have e3 := C3.cell (i := 3) rfl; have e4 := C3.cell (i := 4) rfl; have e5 := C3.cell (i := 5) rfl; have e6 := C3.cell (i := 6) rfl; simp only [vOf, Option.getD_none, Option.getD_some, Option.isSome_none, Option.isSome_some] at e1 e2 e3 e4 e5 e6)
                refine ⟨fun p hp => (by cases hp), ?_⟩
                unfold pl
                refine ⟨?_, ?_, ?_⟩
                · simp only [pickL, List.getD_cons_zero, List.getD_cons_succ]
                  go_wp2_with (refine wpList_store_abs rfl 113 _ _ rfl w.heap.size _ (chCells id (some u) (some v)) rfl rfl HR.out info_change rfl (chCells_one id (some u) (some v)) ?_; intro W2 hW2 hU; have C3 := HCc.out.upd hU (by omega); have e1 := C3.cell (i := 1) rfl; have e2 := C3.cell (i := 2) rfl; have e3 := C3.cell (i := 3) rfl; have e4 := C3.cell (i := 4) rfl; have e5 := C3.cell (i := 5) rfl; have e6 := C3.cell (i := 6) rfl; simp only [vOf, Option.getD_none, Option.getD_some, Option.isSome_none, Option.isSome_some] at e1 e2 e3 e4 e5 e6)
                  refine ⟨fun p hp => (by cases hp), ?_⟩
                  unfold pl
                  refine ⟨?_, ?_, ?_⟩
                  · simp only [pickL, List.getD_cons_zero, List.getD_cons_succ]
                    go_wp2_with (refine wpList_store_abs rfl 113 _ _ rfl w.heap.size _ (chCells id (some u) (some v)) rfl rfl HR.out info_change rfl (chCells_one id (some u) (some v)) ?_; intro W2 hW2 hU; have C3 := HCc.out.upd hU (by omega); have e1 := C3.cell (i := 1) rfl; have e2 := C3.cell (i := 2) rfl; have e3 := C3.cell (i := 3) rfl; have e4 := C3.cell (i := 4) rfl; have e5 := C3.cell (i := 5) rfl; have e6 := C3.cell (i := 6) rfl; simp only [vOf, Option.getD_none, Option.getD_some, Option.isSome_none, Option.isSome_some] at e1 e2 e3 e4 e5 e6)
                    refine ⟨fun p hp => (by cases hp), ?_⟩
                    unfold pl
                    refine ⟨?_, ?_⟩
                    · simp only [pickL, List.getD_cons_zero, List.getD_cons_succ]
                      go_wp2_with (refine wpList_store_abs rfl 113 _ _ rfl w.heap.size _ (chCells id (some u) (some v)) rfl rfl HR.out info_change rfl (chCells_one id (some u) (some v)) ?_; intro W2 hW2 hU; have C3 := HCc.out.upd hU (by omega); have e1 := C3.cell (i := 1) rfl; have e2 := C3.cell (i := 2) rfl; have e3 := C3.cell (i := 3) rfl; have e4 := C3.cell (i := 4) rfl; have e5 := C3.cell (i := 5) rfl; have e6 := C3.cell (i := 6) rfl; simp only [vOf, Option.getD_none, Option.getD_some, Option.isSome_none, Option.isSome_some] at e1 e2 e3 e4 e5 e6)
                      refine ⟨fun p hp => (by cases hp), ?_⟩
                      unfold pl
                      refine ⟨?_, ?_⟩
                      · simp only [pickL, List.getD_cons_zero, List.getD_cons_succ]
                        go_wp2_with (refine wpList_store_abs rfl 113 _ _ rfl w.heap.size _ (chCells id (some u) (some v)) rfl rfl HR.out info_change rfl (chCells_one id (some u) (some v)) ?_; intro W2 hW2 hU; have C3 := HCc.out.upd hU (by omega); have e1 := C3.cell (i := 1) rfl; have e2 := C3.cell (i := 2) rfl; have e3 := C3.cell (i := 3) rfl; have e4 := C3.cell (i := 4) rfl; have e5 := C3.cell (i := 5) rfl; have e6 := C3.cell (i := 6) rfl; simp only [vOf, Option.getD_none, Option.getD_some, Option.isSome_none, Option.isSome_some] at e1 e2 e3 e4 e5 e6)
                        refine ⟨fun p hp => (by cases hp), ?_⟩
                        unfold pl
                        simp only [pickL, List.getD_cons_zero, List.getD_cons_succ]
                        go_wp2_with (refine wpList_store_abs rfl 113 _ _ rfl w.heap.size _ (chCells id (some u) (some v)) rfl rfl HR.out info_change rfl (chCells_one id (some u) (some v)) ?_; intro W2 hW2 hU; have C3 := HCc.out.upd hU (by omega); have e1 := C3.cell (i := 1) rfl; have e2 := C3.cell (i := 2) rfl; have e3 := C3.cell (i := 3) rfl; have e4 := C3.cell (i := 4) rfl; have e5 := C3.cell (i := 5) rfl; have e6 := C3.cell (i := 6) rfl; simp only [vOf, Option.getD_none, Option.getD_some, Option.isSome_none, Option.isSome_some] at e1 e2 e3 e4 e5 e6)
                        refine ⟨fun p hp => (by cases hp), ?_⟩
                        unfold pl
                        refine ⟨rfl, trivial, ?_⟩
                        go_wp2
                        go_meet
                        case rel => exact ⟨by rw [HD.out], HG.out.trans (hU.below (Nat.le_refl _)), hW2⟩
                      · simp only [pickL, List.getD_cons_zero, List.getD_cons_succ]
                        go_wp2_with (refine wpList_store_abs rfl 113 _ _ rfl w.heap.size _ (chCells id (some u) (some v)) rfl rfl HR.out info_change rfl (chCells_one id (some u) (some v)) ?_; intro W2 hW2 hU; have C3 := HCc.out.upd hU (by omega); have e1 := C3.cell (i := 1) rfl; have e2 := C3.cell (i := 2) rfl; have e3 := C3.cell (i := 3) rfl; have e4 := C3.cell (i := 4) rfl; have e5 := C3.cell (i := 5) rfl; have e6 := C3.cell (i := 6) rfl; simp only [vOf, Option.getD_none, Option.getD_some, Option.isSome_none, Option.isSome_some] at e1 e2 e3 e4 e5 e6)
                        refine ⟨fun p hp => (by cases hp), ?_⟩
                        unfold pl
                        simp only [pickL, List.getD_cons_zero, List.getD_cons_succ]
                        go_wp2_with (refine wpList_store_abs rfl 113 _ _ rfl w.heap.size _ (chCells id (some u) (some v)) rfl rfl HR.out info_change rfl (chCells_one id (some u) (some v)) ?_; intro W2 hW2 hU; have C3 := HCc.out.upd hU (by omega); have e1 := C3.cell (i := 1) rfl; have e2 := C3.cell (i := 2) rfl; have e3 := C3.cell (i := 3) rfl; have e4 := C3.cell (i := 4) rfl; have e5 := C3.cell (i := 5) rfl; have e6 := C3.cell (i := 6) rfl; simp only [vOf, Option.getD_none, Option.getD_some, Option.isSome_none, Option.isSome_some] at e1 e2 e3 e4 e5 e6)
                        refine ⟨fun p hp => (by cases hp), ?_⟩
                        unfold pl
                        refine ⟨rfl, trivial, ?_⟩
                        go_wp2
                        go_meet
                        case rel => exact ⟨by rw [HD.out], HG.out.trans (hU.below (Nat.le_refl _)), hW2⟩
                    · simp only [pickL, List.getD_cons_zero, List.getD_cons_succ]
                      go_wp2_with (refine wpList_store_abs rfl 113 _ _ rfl w.heap.size _ (chCells id (some u) (some v)) rfl rfl HR.out info_change rfl (chCells_one id (some u) (some v)) ?_; intro W2 hW2 hU; have C3 := HCc.out.upd hU (by omega); have e1 := C3.cell (i := 1) rfl; have e2 := C3.cell (i := 2) rfl; have e3 := C3.cell (i := 3) rfl; have e4 := C3.cell (i := 4) rfl; have e5 := C3.cell (i := 5) rfl; have e6 := C3.cell (i := 6) rfl; simp only [vOf, Option.getD_none, Option.getD_some, Option.isSome_none, Option.isSome_some] at e1 e2 e3 e4 e5 e6)
                      refine ⟨fun p hp => (by cases hp), ?_⟩
                      unfold pl
                      simp only [pickL, List.getD_cons_zero, List.getD_cons_succ]
                      go_wp2_with (refine wpList_store_abs rfl 113 _ _ rfl w.heap.size _ (chCells id (some u) (some v)) rfl rfl HR.out info_change rfl (chCells_one id (some u) (some v)) ?_; intro W2 hW2 hU; have C3 := HCc.out.upd hU (by omega); have e1 := C3.cell (i := 1) rfl; have e2 := C3.cell (i := 2) rfl; have e3 := C3.cell (i := 3) rfl; have e4 := C3.cell (i := 4) rfl; have e5 := C3.cell (i := 5) rfl; have e6 := C3.cell (i := 6) rfl; simp only [vOf, Option.getD_none, Option.getD_some, Option.isSome_none, Option.isSome_some] at e1 e2 e3 e4 e5 e6)
                      refine ⟨fun p hp => (by cases hp), ?_⟩
                      unfold pl
                      refine ⟨rfl, trivial, ?_⟩
                      go_wp2
                      go_meet
                      case rel => exact ⟨by rw [HD.out], HG.out.trans (hU.below (Nat.le_refl _)), hW2⟩
                  · simp only [pickL, List.getD_cons_zero, List.getD_cons_succ]
                    go_wp2_with (refine wpList_store_abs rfl 113 _ _ rfl w.heap.size _ (chCells id (some u) (some v)) rfl rfl HR.out info_change rfl (chCells_one id (some u) (some v)) ?_; intro W2 hW2 hU; have C3 := HCc.out.upd hU (by omega); have e1 := C3.cell (i := 1) rfl; have e2 := C3.cell (i := 2) rfl; have e3 := C3.cell (i := 3) rfl; have e4 := C3.cell (i := 4) rfl; have e5 := C3.cell (i := 5) rfl; have e6 := C3.cell (i := 6) rfl; simp only [vOf, Option.getD_none, Option.getD_some, Option.isSome_none, Option.isSome_some] at e1 e2 e3 e4 e5 e6)
                    refine ⟨fun p hp => (by cases hp), ?_⟩
                    unfold pl
                    refine ⟨?_, ?_⟩
                    · simp only [pickL, List.getD_cons_zero, List.getD_cons_succ]
                      go_wp2_with (refine wpList_store_abs rfl 113 _ _ rfl w.heap.size _ (chCells id (some u) (some v)) rfl rfl HR.out info_change rfl (chCells_one id (some u) (some v)) ?_; intro W2 hW2 hU; have C3 := HCc.out.upd hU (by omega); have e1 := C3.cell (i := 1) rfl; have e2 := C3.cell (i := 2) rfl; have e3 := C3.cell (i := 3) rfl; have e4 := C3.cell (i := 4) rfl; have e5 := C3.cell (i := 5) rfl; have e6 := C3.cell (i := 6) rfl; simp only [vOf, Option.getD_none, Option.getD_some, Option.isSome_none, Option.isSome_some] at e1 e2 e3 e4 e5 e6)
                      refine ⟨fun p hp => (by cases hp), ?_⟩
                      unfold pl
                      refine ⟨?_, ?_⟩
                      · simp only [pickL, List.getD_cons_zero, List.getD_cons_succ]
                        go_wp2_with (refine wpList_store_abs rfl 113 _ _ rfl w.heap.size _ (chCells id (some u) (some v)) rfl rfl HR.out info_change rfl (chCells_one id (some u) (some v)) ?_; intro W2 hW2 hU; have C3 := HCc.out.upd hU (by omega); have e1 := C3.cell (i := 1) rfl; have e2 := C3.cell (i := 2) rfl; have e3 := C3.cell (i := 3) rfl; have e4 := C3.cell (i := 4) rfl; have e5 := C3.cell (i := 5) rfl; have e6 := C3.cell (i := 6) rfl; simp only [vOf, Option.getD_none, Option.getD_some, Option.isSome_none, Option.isSome_some] at e1 e2 e3 e4 e5 e6)
                        refine ⟨fun p hp => (by cases hp), ?_⟩
                        unfold pl
                        simp only [pickL, List.getD_cons_zero, List.getD_cons_succ]
                        go_wp2_with (refine wpList_store_abs rfl 113 _ _ rfl w.heap.size _ (chCells id (some u) (some v)) rfl rfl HR.out info_change rfl (chCells_one id (some u) (some v)) ?_; intro W2 hW2 hU; have C3 := HCc.out.upd hU (by omega); have e1 := C3.cell (i := 1) rfl; have e2 := C3.cell (i := 2) rfl; have e3 := C3.cell (i := 3) rfl; have e4 := C3.cell (i := 4) rfl; have e5 := C3.cell (i := 5) rfl; have e6 := C3.cell (i := 6) rfl; simp only [vOf, Option.getD_none, Option.getD_some, Option.isSome_none, Option.isSome_some] at e1 e2 e3 e4 e5 e6)
                        refine ⟨fun p hp => (by cases hp), ?_⟩
                        unfold pl
                        refine ⟨rfl, trivial, ?_⟩
                        go_wp2
                        go_meet
                        case rel => exact ⟨by rw [HD.out], HG.out.trans (hU.below (Nat.le_refl _)), hW2⟩
                      · simp only [pickL, List.getD_cons_zero, List.getD_cons_succ]
                        go_wp2_with (refine wpList_store_abs rfl 113 _ _ rfl w.heap.size _ (chCells id (some u) (some v)) rfl rfl HR.out info_change rfl (chCells_one id (some u) (some v)) ?_; intro W2 hW2 hU; have C3 := HCc.out.upd hU (by omega); have e1 := C3.cell (i := 1) rfl; have e2 := C3.cell (i := 2) rfl; have e3 := C3.cell (i := 3) rfl; have e4 := C3.cell (i := 4) rfl; have e5 := C3.cell (i := 5) rfl; have e6 := C3.cell (i := 6) rfl; simp only [vOf, Option.getD_none, Option.getD_some, Option.isSome_none, Option.isSome_some] at e1 e2 e3 e4 e5 e6)
                        refine ⟨fun p hp => (by cases hp), ?_⟩
                        unfold pl
                        simp only [pickL, List.getD_cons_zero, List.getD_cons_succ]
                        go_wp2_with (refine wpList_store_abs rfl 113 _ _ rfl w.heap.size _ (chCells id (some u) (some v)) rfl rfl HR.out info_change rfl (chCells_one id (some u) (some v)) ?_; intro W2 hW2 hU; have C3 := HCc.out.upd hU (by omega); have e1 := C3.cell (i := 1) rfl; have e2 := C3.cell (i := 2) rfl; have e3 := C3.cell (i := 3) rfl; have e4 := C3.cell (i := 4) rfl; have e5 := C3.cell (i := 5) rfl; have e6 := C3.cell (i := 6) rfl; simp only [vOf, Option.getD_none, Option.getD_some, Option.isSome_none, Option.isSome_some] at e1 e2 e3 e4 e5 e6)
                        refine ⟨fun p hp => (by cases hp), ?_⟩
                        unfold pl
                        refine ⟨rfl, trivial, ?_⟩
                        go_wp2
                        go_meet
                        case rel => exact ⟨by rw [HD.out], HG.out.trans (hU.below (Nat.le_refl _)), hW2⟩
                    · simp only [pickL, List.getD_cons_zero, List.getD_cons_succ]
                      go_wp2_with (refine wpList_store_abs rfl 113 _ _ rfl w.heap.size _ (chCells id (some u) (some v)) rfl rfl HR.out info_change rfl (chCells_one id (some u) (some v)) ?_; intro W2 hW2 hU; have C3 := HCc.out.upd hU (by omega); have e1 := C3.cell (i := 1) rfl; have e2 := C3.cell (i := 2) rfl; have e3 := C3.cell (i := 3) rfl; have e4 := C3.cell (i := 4) rfl; have e5 := C3.cell (i := 5) rfl; have e6 := C3.cell (i := 6) rfl; simp only [vOf, Option.getD_none, Option.getD_some, Option.isSome_none, Option.isSome_some] at e1 e2 e3 e4 e5 e6)
                      refine ⟨fun p hp => (by cases hp), ?_⟩
                      unfold pl
                      simp only [pickL, List.getD_cons_zero, List.getD_cons_succ]
                      go_wp2_with (refine wpList_store_abs rfl 113 _ _ rfl w.heap.size _ (chCells id (some u) (some v)) rfl rfl HR.out info_change rfl (chCells_one id (some u) (some v)) ?_; intro W2 hW2 hU; have C3 := HCc.out.upd hU (by omega); have e1 := C3.cell (i := 1) rfl; have e2 := C3.cell (i := 2) rfl; have e3 := C3.cell (i := 3) rfl; have e4 := C3.cell (i := 4) rfl; have e5 := C3.cell (i := 5) rfl; have e6 := C3.cell (i := 6) rfl; simp only [vOf, Option.getD_none, Option.getD_some, Option.isSome_none, Option.isSome_some] at e1 e2 e3 e4 e5 e6)
                      refine ⟨fun p hp => (by cases hp), ?_⟩
                      unfold pl
                      refine ⟨rfl, trivial, ?_⟩
                      go_wp2
                      go_meet
                      case rel => exact ⟨by rw [HD.out], HG.out.trans (hU.below (Nat.le_refl _)), hW2⟩
                  · simp only [pickL, List.getD_cons_zero, List.getD_cons_succ]
                    go_wp2_with (refine wpList_store_abs rfl 113 _ _ rfl w.heap.size _ (chCells id (some u) (some v)) rfl rfl HR.out info_change rfl (chCells_one id (some u) (some v)) ?_; intro W2 hW2 hU; have C3 := HCc.out.upd hU (by omega); have e1 := C3.cell (i := 1) rfl; have e2 := C3.cell (i := 2) rfl; have e3 := C3.cell (i := 3) rfl; have e4 := C3.cell (i := 4) rfl; have e5 := C3.cell (i := 5) rfl; have e6 := C3.cell (i := 6) rfl; simp only [vOf, Option.getD_none, Option.getD_some, Option.isSome_none, Option.isSome_some] at e1 e2 e3 e4 e5 e6)
                    refine ⟨fun p hp => (by cases hp), ?_⟩
                    unfold pl
                    simp only [pickL, List.getD_cons_zero, List.getD_cons_succ]
                    go_wp2_with (refine wpList_store_abs rfl 113 _ _ rfl w.heap.size _ (chCells id (some u) (some v)) rfl rfl HR.out info_change rfl (chCells_one id (some u) (some v)) ?_; intro W2 hW2 hU; have C3 := HCc.out.upd hU (by omega); have e1 := C3.cell (i := 1) rfl; have e2 := C3.cell (i := 2) rfl; have e3 := C3.cell (i := 3) rfl; have e4 := C3.cell (i := 4) rfl; have e5 := C3.cell (i := 5) rfl; have e6 := C3.cell (i := 6) rfl; simp only [vOf, Option.getD_none, Option.getD_some, Option.isSome_none, Option.isSome_some] at e1 e2 e3 e4 e5 e6)
                    refine ⟨fun p hp => (by cases hp), ?_⟩
                    unfold pl
                    refine ⟨rfl, trivial, ?_⟩
                    go_wp2
                    go_meet
                    case rel => exact ⟨by rw [HD.out], HG.out.trans (hU.below (Nat.le_refl _)), hW2⟩
                · simp only [pickL, List.getD_cons_zero, List.getD_cons_succ]
                  go_wp2_with (refine wpList_store_abs rfl 113 _ _ rfl w.heap.size _ (chCells id (some u) (some v)) rfl rfl HR.out info_change rfl (chCells_one id (some u) (some v)) ?_; intro W2 hW2 hU; have C3 := HCc.out.upd hU (by omega); have e1 := C3.cell (i := 1) rfl; have e2 := C3.cell (i := 2) rfl; have e3 := C3.cell (i := 3) rfl; have e4 := C3.cell (i := 4) rfl; have e5 := C3.cell (i := 5) rfl; have e6 := C3.cell (i := 6) rfl; simp only [vOf, Option.getD_none, Option.getD_some, Option.isSome_none, Option.isSome_some] at e1 e2 e3 e4 e5 e6)
                  refine ⟨fun p hp => (by cases hp), ?_⟩
                  unfold pl
                  refine ⟨?_, ?_⟩
                  · simp only [pickL, List.getD_cons_zero, List.getD_cons_succ]
                    go_wp2_with (refine wpList_store_abs rfl 113 _ _ rfl w.heap.size _ (chCells id (some u) (some v)) rfl rfl HR.out info_change rfl (chCells_one id (some u) (some v)) ?_; intro W2 hW2 hU; have C3 := HCc.out.upd hU (by omega); have e1 := C3.cell (i := 1) rfl; have e2 := C3.cell (i := 2) rfl; have e3 := C3.cell (i := 3) rfl; have e4 := C3.cell (i := 4) rfl; have e5 := C3.cell (i := 5) rfl; have e6 := C3.cell (i := 6) rfl; simp only [vOf, Option.getD_none, Option.getD_some, Option.isSome_none, Option.isSome_some] at e1 e2 e3 e4 e5 e6)
                    refine ⟨fun p hp => (by cases hp), ?_⟩
                    unfold pl
                    refine ⟨?_, ?_⟩
                    · simp only [pickL, List.getD_cons_zero, List.getD_cons_succ]
                      go_wp2_with (refine wpList_store_abs rfl 113 _ _ rfl w.heap.size _ (chCells id (some u) (some v)) rfl rfl HR.out info_change rfl (chCells_one id (some u) (some v)) ?_; intro W2 hW2 hU; have C3 := HCc.out.upd hU (by omega); have e1 := C3.cell (i := 1) rfl; have e2 := C3.cell (i := 2) rfl; have e3 := C3.cell (i := 3) rfl; have e4 := C3.cell (i := 4) rfl; have e5 := C3.cell (i := 5) rfl; have e6 := C3.cell (i := 6) rfl; simp only [vOf, Option.getD_none, Option.getD_some, Option.isSome_none, Option.isSome_some] at e1 e2 e3 e4 e5 e6)
                      refine ⟨fun p hp => (by cases hp), ?_⟩
                      unfold pl
                      refine ⟨?_, ?_⟩
                      · simp only [pickL, List.getD_cons_zero, List.getD_cons_succ]
                        go_wp2_with (refine wpList_store_abs rfl 113 _ _ rfl w.heap.size _ (chCells id (some u) (some v)) rfl rfl HR.out info_change rfl (chCells_one id (some u) (some v)) ?_; intro W2 hW2 hU; have C3 := HCc.out.upd hU (by omega); have e1 := C3.cell (i := 1) rfl; have e2 := C3.cell (i := 2) rfl; have e3 := C3.cell (i := 3) rfl; have e4 := C3.cell (i := 4) rfl; have e5 := C3.cell (i := 5) rfl; have e6 := C3.cell (i := 6) rfl; simp only [vOf, Option.getD_none, Option.getD_some, Option.isSome_none, Option.isSome_some] at e1 e2 e3 e4 e5 e6)
                        refine ⟨fun p hp => (by cases hp), ?_⟩
                        unfold pl
                        simp only [pickL, List.getD_cons_zero, List.getD_cons_succ]
                        go_wp2_with (refine wpList_store_abs rfl 113 _ _ rfl w.heap.size _ (chCells id (some u) (some v)) rfl rfl HR.out info_change rfl (chCells_one id (some u) (some v)) ?_; intro W2 hW2 hU; have C3 := HCc.out.upd hU (by omega); have e1 := C3.cell (i := 1) rfl; have e2 := C3.cell (i := 2) rfl; have e3 := C3.cell (i := 3) rfl; have e4 := C3.cell (i := 4) rfl; have e5 := C3.cell (i := 5) rfl; have e6 := C3.cell (i := 6) rfl; simp only [vOf, Option.getD_none, Option.getD_some, Option.isSome_none, Option.isSome_some] at e1 e2 e3 e4 e5 e6)
                        refine ⟨fun p hp => (by cases hp), ?_⟩
                        unfold pl
                        refine ⟨rfl, trivial, ?_⟩
                        go_wp2
                        go_meet
                        case rel => exact ⟨by rw [HD.out], HG.out.trans (hU.below (Nat.le_refl _)), hW2⟩
                      · simp only [pickL, List.getD_cons_zero, List.getD_cons_succ]
                        go_wp2_with (refine wpList_store_abs rfl 113 _ _ rfl w.heap.size _ (chCells id (some u) (some v)) rfl rfl HR.out info_change rfl (chCells_one id (some u) (some v)) ?_; intro W2 hW2 hU; have C3 := HCc.out.upd hU (by omega); have e1 := C3.cell (i := 1) rfl; have e2 := C3.cell (i := 2) rfl; have e3 := C3.cell (i := 3) rfl; have e4 := C3.cell (i := 4) rfl; have e5 := C3.cell (i := 5) rfl; have e6 := C3.cell (i := 6) rfl; simp only [vOf, Option.getD_none, Option.getD_some, Option.isSome_none, Option.isSome_some] at e1 e2 e3 e4 e5 e6)
                        refine ⟨fun p hp => (by cases hp), ?_⟩
                        unfold pl
                        simp only [pickL, List.getD_cons_zero, List.getD_cons_succ]
                        go_wp2_with (refine wpList_store_abs rfl 113 _ _ rfl w.heap.size _ (chCells id (some u) (some v)) rfl rfl HR.out info_change rfl (chCells_one id (some u) (some v)) ?_; intro W2 hW2 hU; have C3 := HCc.out.upd hU (by omega); have e1 := C3.cell (i := 1) rfl; have e2 := C3.cell (i := 2) rfl; have e3 := C3.cell (i := 3) rfl; have e4 := C3.cell (i := 4) rfl; have e5 := C3.cell (i := 5) rfl; have e6 := C3.cell (i := 6) rfl; simp only [vOf, Option.getD_none, Option.getD_some, Option.isSome_none, Option.isSome_some] at e1 e2 e3 e4 e5 e6)
                        refine ⟨fun p hp => (by cases hp), ?_⟩
                        unfold pl
                        refine ⟨rfl, trivial, ?_⟩
                        go_wp2
                        go_meet
                        case rel => exact ⟨by rw [HD.out], HG.out.trans (hU.below (Nat.le_refl _)), hW2⟩
                    · simp only [pickL, List.getD_cons_zero, List.getD_cons_succ]
                      go_wp2_with (refine wpList_store_abs rfl 113 _ _ rfl w.heap.size _ (chCells id (some u) (some v)) rfl rfl HR.out info_change rfl (chCells_one id (some u) (some v)) ?_; intro W2 hW2 hU; have C3 := HCc.out.upd hU (by omega); have e1 := C3.cell (i := 1) rfl; have e2 := C3.cell (i := 2) rfl; have e3 := C3.cell (i := 3) rfl; have e4 := C3.cell (i := 4) rfl; have e5 := C3.cell (i := 5) rfl; have e6 := C3.cell (i := 6) rfl; simp only [vOf, Option.getD_none, Option.getD_some, Option.isSome_none, Option.isSome_some] at e1 e2 e3 e4 e5 e6)
                      refine ⟨fun p hp => (by cases hp), ?_⟩
                      unfold pl
                      simp only [pickL, List.getD_cons_zero, List.getD_cons_succ]
                      go_wp2_with (refine wpList_store_abs rfl 113 _ _ rfl w.heap.size _ (chCells id (some u) (some v)) rfl rfl HR.out info_change rfl (chCells_one id (some u) (some v)) ?_; intro W2 hW2 hU; have C3 := HCc.out.upd hU (by omega); have e1 := C3.cell (i := 1) rfl; have e2 := C3.cell (i := 2) rfl; have e3 := C3.cell (i := 3) rfl; have e4 := C3.cell (i := 4) rfl; have e5 := C3.cell (i := 5) rfl; have e6 := C3.cell (i := 6) rfl; simp only [vOf, Option.getD_none, Option.getD_some, Option.isSome_none, Option.isSome_some] at e1 e2 e3 e4 e5 e6)
                      refine ⟨fun p hp => (by cases hp), ?_⟩
                      unfold pl
                      refine ⟨rfl, trivial, ?_⟩
                      go_wp2
                      go_meet
                      case rel => exact ⟨by rw [HD.out], HG.out.trans (hU.below (Nat.le_refl _)), hW2⟩
                  · simp only [pickL, List.getD_cons_zero, List.getD_cons_succ]
                    go_wp2_with (refine wpList_store_abs rfl 113 _ _ rfl w.heap.size _ (chCells id (some u) (some v)) rfl rfl HR.out info_change rfl (chCells_one id (some u) (some v)) ?_; intro W2 hW2 hU; have C3 := HCc.out.upd hU (by omega); have e1 := C3.cell (i := 1) rfl; have e2 := C3.cell (i := 2) rfl; have e3 := C3.cell (i := 3) rfl; have e4 := C3.cell (i := 4) rfl; have e5 := C3.cell (i := 5) rfl; have e6 := C3.cell (i := 6) rfl; simp only [vOf, Option.getD_none, Option.getD_some, Option.isSome_none, Option.isSome_some] at e1 e2 e3 e4 e5 e6)
                    refine ⟨fun p hp => (by cases hp), ?_⟩
                    unfold pl
                    refine ⟨?_, ?_⟩
                    · simp only [pickL, List.getD_cons_zero, List.getD_cons_succ]
                      go_wp2_with (refine wpList_store_abs rfl 113 _ _ rfl w.heap.size _ (chCells id (some u) (some v)) rfl rfl HR.out info_change rfl (chCells_one id (some u) (some v)) ?_; intro W2 hW2 hU; have C3 := HCc.out.upd hU (by omega); have e1 := C3.cell (i := 1) rfl; have e2 := C3.cell (i := 2) rfl; have e3 := C3.cell (i := 3) rfl; have e4 := C3.cell (i := 4) rfl; have e5 := C3.cell (i := 5) rfl; have e6 := C3.cell (i := 6) rfl; simp only [vOf, Option.getD_none, Option.getD_some, Option.isSome_none, Option.isSome_some] at e1 e2 e3 e4 e5 e6)
                      refine ⟨fun p hp => (by cases hp), ?_⟩
                      unfold pl
                      refine ⟨?_, ?_⟩
                      · simp only [pickL, List.getD_cons_zero, List.getD_cons_succ]
                        go_wp2_with (refine wpList_store_abs rfl 113 _ _ rfl w.heap.size _ (chCells id (some u) (some v)) rfl rfl HR.out info_change rfl (chCells_one id (some u) (some v)) ?_; intro W2 hW2 hU; have C3 := HCc.out.upd hU (by omega); have e1 := C3.cell (i := 1) rfl; have e2 := C3.cell (i := 2) rfl; have e3 := C3.cell (i := 3) rfl; have e4 := C3.cell (i := 4) rfl; have e5 := C3.cell (i := 5) rfl; have e6 := C3.cell (i := 6) rfl; simp only [vOf, Option.getD_none, Option.getD_some, Option.isSome_none, Option.isSome_some] at e1 e2 e3 e4 e5 e6)
                        refine ⟨fun p hp => (by cases hp), ?_⟩
                        unfold pl
                        simp only [pickL, List.getD_cons_zero, List.getD_cons_succ]
                        go_wp2_with (refine wpList_store_abs rfl 113 _ _ rfl w.heap.size _ (chCells id (some u) (some v)) rfl rfl HR.out info_change rfl (chCells_one id (some u) (some v)) ?_; intro W2 hW2 hU; have C3 := HCc.out.upd hU (by omega); have e1 := C3.cell (i := 1) rfl; have e2 := C3.cell (i := 2) rfl; have e3 := C3.cell (i := 3) rfl; have e4 := C3.cell (i := 4) rfl; have e5 := C3.cell (i := 5) rfl; have e6 := C3.cell (i := 6) rfl; simp only [vOf, Option.getD_none, Option.getD_some, Option.isSome_none, Option.isSome_some] at e1 e2 e3 e4 e5 e6)
                        refine ⟨fun p hp => (by cases hp), ?_⟩
                        unfold pl
                        refine ⟨rfl, trivial, ?_⟩
                        go_wp2
                        go_meet
                        case rel => exact ⟨by rw [HD.out], HG.out.trans (hU.below (Nat.le_refl _)), hW2⟩
                      · simp only [pickL, List.getD_cons_zero, List.getD_cons_succ]
                        go_wp2_with (refine wpList_store_abs rfl 113 _ _ rfl w.heap.size _ (chCells id (some u) (some v)) rfl rfl HR.out info_change rfl (chCells_one id (some u) (some v)) ?_; intro W2 hW2 hU; have C3 := HCc.out.upd hU (by omega); have e1 := C3.cell (i := 1) rfl; have e2 := C3.cell (i := 2) rfl; have e3 := C3.cell (i := 3) rfl; have e4 := C3.cell (i := 4) rfl; have e5 := C3.cell (i := 5) rfl; have e6 := C3.cell (i := 6) rfl; simp only [vOf, Option.getD_none, Option.getD_some, Option.isSome_none, Option.isSome_some] at e1 e2 e3 e4 e5 e6)
                        refine ⟨fun p hp => (by cases hp), ?_⟩
                        unfold pl
                        simp only [pickL, List.getD_cons_zero, List.getD_cons_succ]
                        go_wp2_with (refine wpList_store_abs rfl 113 _ _ rfl w.heap.size _ (chCells id (some u) (some v)) rfl rfl HR.out info_change rfl (chCells_one id (some u) (some v)) ?_; intro W2 hW2 hU; have C3 := HCc.out.upd hU (by omega); have e1 := C3.cell (i := 1) rfl; have e2 := C3.cell (i := 2) rfl; have e3 := C3.cell (i := 3) rfl; have e4 := C3.cell (i := 4) rfl; have e5 := C3.cell (i := 5) rfl; have e6 := C3.cell (i := 6) rfl; simp only [vOf, Option.getD_none, Option.getD_some, Option.isSome_none, Option.isSome_some] at e1 e2 e3 e4 e5 e6)
                        refine ⟨fun p hp => (by cases hp), ?_⟩
                        unfold pl
                        refine ⟨rfl, trivial, ?_⟩
                        go_wp2
                        go_meet
                        case rel => exact ⟨by rw [HD.out], HG.out.trans (hU.below (Nat.le_refl _)), hW2⟩
                    · simp only [pickL, List.getD_cons_zero, List.getD_cons_succ]
                      go_wp2_with (refine wpList_store_abs rfl 113 _ _ rfl w.heap.size _ (chCells id (some u) (some v)) rfl rfl HR.out info_change rfl (chCells_one id (some u) (some v)) ?_; intro W2 hW2 hU; have C3 := HCc.out.upd hU (by omega); have e1 := C3.cell (i := 1) rfl; have e2 := C3.cell (i := 2) rfl; have e3 := C3.cell (i := 3) rfl; have e4 := C3.cell (i := 4) rfl; have e5 := C3.cell (i := 5) rfl; have e6 := C3.cell (i := 6) rfl; simp only [vOf, Option.getD_none, Option.getD_some, Option.isSome_none, Option.isSome_some] at e1 e2 e3 e4 e5 e6)
                      refine ⟨fun p hp => (by cases hp), ?_⟩
                      unfold pl
                      simp only [pickL, List.getD_cons_zero, List.getD_cons_succ]
                      go_wp2_with (refine wpList_store_abs rfl 113 _ _ rfl w.heap.size _ (chCells id (some u) (some v)) rfl rfl HR.out info_change rfl (chCells_one id (some u) (some v)) ?_; intro W2 hW2 hU; have C3 := HCc.out.upd hU (by omega); have e1 := C3.cell (i := 1) rfl; have e2 := C3.cell (i := 2) rfl; have e3 := C3.cell (i := 3) rfl; have e4 := C3.cell (i := 4) rfl; have e5 := C3.cell (i := 5) rfl; have e6 := C3.cell (i := 6) rfl; simp only [vOf, Option.getD_none, Option.getD_some, Option.isSome_none, Option.isSome_some] at e1 e2 e3 e4 e5 e6)
                      refine ⟨fun p hp => (by cases hp), ?_⟩
                      unfold pl
                      refine ⟨rfl, trivial, ?_⟩
                      go_wp2
                      go_meet
                      case rel => exact ⟨by rw [HD.out], HG.out.trans (hU.below (Nat.le_refl _)), hW2⟩
                · simp only [pickL, List.getD_cons_zero, List.getD_cons_succ]
                  go_wp2_with (refine wpList_store_abs rfl 113 _ _ rfl w.heap.size _ (chCells id (some u) (some v)) rfl rfl HR.out info_change rfl (chCells_one id (some u) (some v)) ?_; intro W2 hW2 hU; have C3 := HCc.out.upd hU (by omega); have e1 := C3.cell (i := 1) rfl; have e2 := C3.cell (i := 2) rfl; have e3 := C3.cell (i := 3) rfl; have e4 := C3.cell (i := 4) rfl; have e5 := C3.cell (i := 5) rfl; have e6 := C3.cell (i := 6) rfl; simp only [vOf, Option.getD_none, Option.getD_some, Option.isSome_none, Option.isSome_some] at e1 e2 e3 e4 e5 e6)
                  refine ⟨fun p hp => (by cases hp), ?_⟩
                  unfold pl
                  refine ⟨?_, ?_⟩
                  · simp only [pickL, List.getD_cons_zero, List.getD_cons_succ]
                    go_wp2_with (refine wpList_store_abs rfl 113 _ _ rfl w.heap.size _ (chCells id (some u) (some v)) rfl rfl HR.out info_change rfl (chCells_one id (some u) (some v)) ?_; intro W2 hW2 hU; have C3 := HCc.out.upd hU (by omega); have e1 := C3.cell (i := 1) rfl; have e2 := C3.cell (i := 2) rfl; have e3 := C3.cell (i := 3) rfl; have e4 := C3.cell (i := 4) rfl; have e5 := C3.cell (i := 5) rfl; have e6 := C3.cell (i := 6) rfl; simp only [vOf, Option.getD_none, Option.getD_some, Option.isSome_none, Option.isSome_some] at e1 e2 e3 e4 e5 e6)
                    refine ⟨fun p hp => (by cases hp), ?_⟩
                    unfold pl
                    refine ⟨?_, ?_⟩
                    · simp only [pickL, List.getD_cons_zero, List.getD_cons_succ]
                      go_wp2_with (refine wpList_store_abs rfl 113 _ _ rfl w.heap.size _ (chCells id (some u) (some v)) rfl rfl HR.out info_change rfl (chCells_one id (some u) (some v)) ?_; intro W2 hW2 hU; have C3 := HCc.out.upd hU (by omega); have e1 := C3.cell (i := 1) rfl; have e2 := C3.cell (i := 2) rfl; have e3 := C3.cell (i := 3) rfl; have e4 := C3.cell (i := 4) rfl; have e5 := C3.cell (i := 5) rfl; have e6 := C3.cell (i := 6) rfl; simp only [vOf, Option.getD_none, Option.getD_some, Option.isSome_none, Option.isSome_some] at e1 e2 e3 e4 e5 e6)
                      refine ⟨fun p hp => (by cases hp), ?_⟩
                      unfold pl
                      refine ⟨?_, ?_⟩
                      · simp only [pickL, List.getD_cons_zero, List.getD_cons_succ]
                        go_wp2_with (refine wpList_store_abs rfl 113 _ _ rfl w.heap.size _ (chCells id (some u) (some v)) rfl rfl HR.out info_change rfl (chCells_one id (some u) (some v)) ?_; intro W2 hW2 hU; have C3 := HCc.out.upd hU (by omega); have e1 := C3.cell (i := 1) rfl; have e2 := C3.cell (i := 2) rfl; have e3 := C3.cell (i := 3) rfl; have e4 := C3.cell (i := 4) rfl; have e5 := C3.cell (i := 5) rfl; have e6 := C3.cell (i := 6) rfl; simp only [vOf, Option.getD_none, Option.getD_some, Option.isSome_none, Option.isSome_some] at e1 e2 e3 e4 e5 e6)
                        refine ⟨fun p hp => (by cases hp), ?_⟩
                        unfold pl
                        simp only [pickL, List.getD_cons_zero, List.getD_cons_succ]
                        go_wp2_with (refine wpList_store_abs rfl 113 _ _ rfl w.heap.size _ (chCells id (some u) (some v)) rfl rfl HR.out info_change rfl (chCells_one id (some u) (some v)) ?_; intro W2 hW2 hU; have C3 := HCc.out.upd hU (by omega); have e1 := C3.cell (i := 1) rfl; have e2 := C3.cell (i := 2) rfl; have e3 := C3.cell (i := 3) rfl; have e4 := C3.cell (i := 4) rfl; have e5 := C3.cell (i := 5) rfl; have e6 := C3.cell (i := 6) rfl; simp only [vOf, Option.getD_none, Option.getD_some, Option.isSome_none, Option.isSome_some] at e1 e2 e3 e4 e5 e6)
                        refine ⟨fun p hp => (by cases hp), ?_⟩
                        unfold pl
                        refine ⟨rfl, trivial, ?_⟩
                        go_wp2
                        go_meet
                        case rel => exact ⟨by rw [HD.out], HG.out.trans (hU.below (Nat.le_refl _)), hW2⟩
                      · simp only [pickL, List.getD_cons_zero, List.getD_cons_succ]
                        go_wp2_with (refine wpList_store_abs rfl 113 _ _ rfl w.heap.size _ (chCells id (some u) (some v)) rfl rfl HR.out info_change rfl (chCells_one id (some u) (some v)) ?_; intro W2 hW2 hU; have C3 := HCc.out.upd hU (by omega); have e1 := C3.cell (i := 1) rfl; have e2 := C3.cell (i := 2) rfl; have e3 := C3.cell (i := 3) rfl; have e4 := C3.cell (i := 4) rfl; have e5 := C3.cell (i := 5) rfl; have e6 := C3.cell (i := 6) rfl; simp only [vOf, Option.getD_none, Option.getD_some, Option.isSome_none, Option.isSome_some] at e1 e2 e3 e4 e5 e6)
                        refine ⟨fun p hp => (by cases hp), ?_⟩
                        unfold pl
                        simp only [pickL, List.getD_cons_zero, List.getD_cons_succ]
                        go_wp2_with (refine wpList_store_abs rfl 113 _ _ rfl w.heap.size _ (chCells id (some u) (some v)) rfl rfl HR.out info_change rfl (chCells_one id (some u) (some v)) ?_; intro W2 hW2 hU; have C3 := HCc.out.upd hU (by omega); have e1 := C3.cell (i := 1) rfl; have e2 := C3.cell (i := 2) rfl; have e3 := C3.cell (i := 3) rfl; have e4 := C3.cell (i := 4) rfl; have e5 := C3.cell (i := 5) rfl; have e6 := C3.cell (i := 6) rfl; simp only [vOf, Option.getD_none, Option.getD_some, Option.isSome_none, Option.isSome_some] at e1 e2 e3 e4 e5 e6)
                        refine ⟨fun p hp => (by cases hp), ?_⟩
                        unfold pl
                        refine ⟨rfl, trivial, ?_⟩
                        go_wp2
                        go_meet
                        case rel => exact ⟨by rw [HD.out], HG.out.trans (hU.below (Nat.le_refl _)), hW2⟩
                    · simp only [pickL, List.getD_cons_zero, List.getD_cons_succ]
                      go_wp2_with (refine wpList_store_abs rfl 113 _ _ rfl w.heap.size _ (chCells id (some u) (some v)) rfl rfl HR.out info_change rfl (chCells_one id (some u) (some v)) ?_; intro W2 hW2 hU; have C3 := HCc.out.upd hU (by omega); have e1 := C3.cell (i := 1) rfl; have e2 := C3.cell (i := 2) rfl; have e3 := C3.cell (i := 3) rfl; have e4 := C3.cell (i := 4) rfl; have e5 := C3.cell (i := 5) rfl; have e6 := C3.cell (i := 6) rfl; simp only [vOf, Option.getD_none, Option.getD_some, Option.isSome_none, Option.isSome_some] at e1 e2 e3 e4 e5 e6)
                      refine ⟨fun p hp => (by cases hp), ?_⟩
                      unfold pl
                      simp only [pickL, List.getD_cons_zero, List.getD_cons_succ]
                      go_wp2_with (refine wpList_store_abs rfl 113 _ _ rfl w.heap.size _ (chCells id (some u) (some v)) rfl rfl HR.out info_change rfl (chCells_one id (some u) (some v)) ?_; intro W2 hW2 hU; have C3 := HCc.out.upd hU (by omega); have e1 := C3.cell (i := 1) rfl; have e2 := C3.cell (i := 2) rfl; have e3 := C3.cell (i := 3) rfl; have e4 := C3.cell (i := 4) rfl; have e5 := C3.cell (i := 5) rfl; have e6 := C3.cell (i := 6) rfl; simp only [vOf, Option.getD_none, Option.getD_some, Option.isSome_none, Option.isSome_some] at e1 e2 e3 e4 e5 e6)
                      refine ⟨fun p hp => (by cases hp), ?_⟩
                      unfold pl
                      refine ⟨rfl, trivial, ?_⟩
                      go_wp2
                      go_meet
                      case rel => exact ⟨by rw [HD.out], HG.out.trans (hU.below (Nat.le_refl _)), hW2⟩
                  · simp only [pickL, List.getD_cons_zero, List.getD_cons_succ]
                    go_wp2_with (refine wpList_store_abs rfl 113 _ _ rfl w.heap.size _ (chCells id (some u) (some v)) rfl rfl HR.out info_change rfl (chCells_one id (some u) (some v)) ?_; intro W2 hW2 hU; have C3 := HCc.out.upd hU (by omega); have e1 := C3.cell (i := 1) rfl; have e2 := C3.cell (i := 2) rfl; have e3 := C3.cell (i := 3) rfl; have e4 := C3.cell (i := 4) rfl; have e5 := C3.cell (i := 5) rfl; have e6 := C3.cell (i := 6) rfl; simp only [vOf, Option.getD_none, Option.getD_some, Option.isSome_none, Option.isSome_some] at e1 e2 e3 e4 e5 e6)
                    refine ⟨fun p hp => (by cases hp), ?_⟩
                    unfold pl
                    refine ⟨?_, ?_⟩
                    · simp only [pickL, List.getD_cons_zero, List.getD_cons_succ]
                      go_wp2_with (refine wpList_store_abs rfl 113 _ _ rfl w.heap.size _ (chCells id (some u) (some v)) rfl rfl HR.out info_change rfl (chCells_one id (some u) (some v)) ?_; intro W2 hW2 hU; have C3 := HCc.out.upd hU (by omega); have e1 := C3.cell (i := 1) rfl; have e2 := C3.cell (i := 2) rfl; have e3 := C3.cell (i := 3) rfl; have e4 := C3.cell (i := 4) rfl; have e5 := C3.cell (i := 5) rfl; have e6 := C3.cell (i := 6) rfl; simp only [vOf, Option.getD_none, Option.getD_some, Option.isSome_none, Option.isSome_some] at e1 e2 e3 e4 e5 e6)
                      refine ⟨fun p hp => (by cases hp), ?_⟩
                      unfold pl
                      refine ⟨?_, ?_⟩
                      · simp only [pickL, List.getD_cons_zero, List.getD_cons_succ]
                        go_wp2_with (refine wpList_store_abs rfl 113 _ _ rfl w.heap.size _ (chCells id (some u) (some v)) rfl rfl HR.out info_change rfl (chCells_one id (some u) (some v)) ?_; intro W2 hW2 hU; have C3 := HCc.out.upd hU (by omega); have e1 := C3.cell (i := 1) rfl; have e2 := C3.cell (i := 2) rfl; have e3 := C3.cell (i := 3) rfl; have e4 := C3.cell (i := 4) rfl; have e5 := C3.cell (i := 5) rfl; have e6 := C3.cell (i := 6) rfl; simp only [vOf, Option.getD_none, Option.getD_some, Option.isSome_none, Option.isSome_some] at e1 e2 e3 e4 e5 e6)
                        refine ⟨fun p hp => (by cases hp), ?_⟩
                        unfold pl
                        simp only [pickL, List.getD_cons_zero, List.getD_cons_succ]
                        go_wp2_with (refine wpList_store_abs rfl 113 _ _ rfl w.heap.size _ (chCells id (some u) (some v)) rfl rfl HR.out info_change rfl (chCells_one id (some u) (some v)) ?_; intro W2 hW2 hU; have C3 := HCc.out.upd hU (by omega); have e1 := C3.cell (i := 1) rfl; have e2 := C3.cell (i := 2) rfl; have e3 := C3.cell (i := 3) rfl; have e4 := C3.cell (i := 4) rfl; have e5 := C3.cell (i := 5) rfl; have e6 := C3.cell (i := 6) rfl; simp only [vOf, Option.getD_none, Option.getD_some, Option.isSome_none, Option.isSome_some] at e1 e2 e3 e4 e5 e6)
                        refine ⟨fun p hp => (by cases hp), ?_⟩
                        unfold pl
                        refine ⟨rfl, trivial, ?_⟩
                        go_wp2
                        go_meet
                        case rel => exact ⟨by rw [HD.out], HG.out.trans (hU.below (Nat.le_refl _)), hW2⟩
                      · simp only [pickL, List.getD_cons_zero, List.getD_cons_succ]
                        go_wp2_with (refine wpList_store_abs rfl 113 _ _ rfl w.heap.size _ (chCells id (some u) (some v)) rfl rfl HR.out info_change rfl (chCells_one id (some u) (some v)) ?_; intro W2 hW2 hU; have C3 := HCc.out.upd hU (by omega); have e1 := C3.cell (i := 1) rfl; have e2 := C3.cell (i := 2) rfl; have e3 := C3.cell (i := 3) rfl; have e4 := C3.cell (i := 4) rfl; have e5 := C3.cell (i := 5) rfl; have e6 := C3.cell (i := 6) rfl; simp only [vOf, Option.getD_none, Option.getD_some, Option.isSome_none, Option.isSome_some] at e1 e2 e3 e4 e5 e6)
                        refine ⟨fun p hp => (by cases hp), ?_⟩
                        unfold pl
                        simp only [pickL, List.getD_cons_zero, List.getD_cons_succ]
                        go_wp2_with (refine wpList_store_abs rfl 113 _ _ rfl w.heap.size _ (chCells id (some u) (some v)) rfl rfl HR.out info_change rfl (chCells_one id (some u) (some v)) ?_; intro W2 hW2 hU; have C3 := HCc.out.upd hU (by omega); have e1 := C3.cell (i := 1) rfl; have e2 := C3.cell (i := 2) rfl; have e3 := C3.cell (i := 3) rfl; have e4 := C3.cell (i := 4) rfl; have e5 := C3.cell (i := 5) rfl; have e6 := C3.cell (i := 6) rfl; simp only [vOf, Option.getD_none, Option.getD_some, Option.isSome_none, Option.isSome_some] at e1 e2 e3 e4 e5 e6)
                        refine ⟨fun p hp => (by cases hp), ?_⟩
                        unfold pl
                        refine ⟨rfl, trivial, ?_⟩
                        go_wp2
                        go_meet
                        case rel => exact ⟨by rw [HD.out], HG.out.trans (hU.below (Nat.le_refl _)), hW2⟩
                    · simp only [pickL, List.getD_cons_zero, List.getD_cons_succ]
                      go_wp2_with (refine wpList_store_abs rfl 113 _ _ rfl w.heap.size _ (chCells id (some u) (some v)) rfl rfl HR.out info_change rfl (chCells_one id (some u) (some v)) ?_; intro W2 hW2 hU; have C3 := HCc.out.upd hU (by omega); have e1 := C3.cell (i := 1) rfl; have e2 := C3.cell (i := 2) rfl; have e3 := C3.cell (i := 3) rfl; have e4 := C3.cell (i := 4) rfl; have e5 := C3.cell (i := 5) rfl; have e6 := C3.cell (i := 6) rfl; simp only [vOf, Option.getD_none, Option.getD_some, Option.isSome_none, Option.isSome_some] at e1 e2 e3 e4 e5 e6)
                      refine ⟨fun p hp => (by cases hp), ?_⟩
                      unfold pl
                      simp only [pickL, List.getD_cons_zero, List.getD_cons_succ]
                      go_wp2_with (refine wpList_store_abs rfl 113 _ _ rfl w.heap.size _ (chCells id (some u) (some v)) rfl rfl HR.out info_change rfl (chCells_one id (some u) (some v)) ?_; intro W2 hW2 hU; have C3 := HCc.out.upd hU (by omega); have e1 := C3.cell (i := 1) rfl; have e2 := C3.cell (i := 2) rfl; have e3 := C3.cell (i := 3) rfl; have e4 := C3.cell (i := 4) rfl; have e5 := C3.cell (i := 5) rfl; have e6 := C3.cell (i := 6) rfl; simp only [vOf, Option.getD_none, Option.getD_some, Option.isSome_none, Option.isSome_some] at e1 e2 e3 e4 e5 e6)
                      refine ⟨fun p hp => (by cases hp), ?_⟩
                      unfold pl
                      refine ⟨rfl, trivial, ?_⟩
                      go_wp2
                      go_meet
                      case rel => exact ⟨by rw [HD.out], HG.out.trans (hU.below (Nat.le_refl _)), hW2⟩
            · have hd : decide (some u ≠ some v) = true := decide_eq_true fun e => hk (by cases e; rfl)
              have hk1 : (u.k == v.k) = false := by simpa using hk
              clear hk
              have HD := Lib.hid hd
              clear hd
              simp only [vOf, Option.getD_none, Option.getD_some, Option.isSome_none, Option.isSome_some] at c0 c1 c2' c3 c4 c5 c6
              refine rgnT (.seg [1, 2, 3, 4, 5, 6, 7, 9] (.three 0 8 10 (.three 8 10 13 (.two 10 13 (.two 11 13 (.seg [12, 13, 14] .fin) (.seg [11, 12, 14] .fin)) (.seg [10, 11, 12, 14] .fin)) (.two 8 13 (.two 11 13 (.seg [12, 13, 14] .fin) (.seg [11, 12, 14] .fin)) (.seg [8, 11, 12, 14] .fin)) (.seg [8, 10, 11, 12, 14] .fin)) (.two 0 10 (.two 10 13 (.two 11 13 (.seg [12, 13, 14] .fin) (.seg [11, 12, 14] .fin)) (.seg [10, 11, 12, 14] .fin)) (.two 0 11 (.two 11 13 (.seg [12, 13, 14] .fin) (.seg [11, 12, 14] .fin)) (.seg [0, 12, 13, 14] .fin))) (.two 0 8 (.two 8 13 (.two 11 13 (.seg [12, 13, 14] .fin) (.seg [11, 12, 14] .fin)) (.seg [8, 11, 12, 14] .fin)) (.two 0 11 (.two 11 13 (.seg [12, 13, 14] .fin) (.seg [11, 12, 14] .fin)) (.seg [0, 12, 13, 14] .fin))))) [5] [] [] (by kernel_rfl) (by simp) ?_ ?_
              · intro p hp; cases hp
              unfold pl
              simp only [pickL, List.getD_cons_zero, List.getD_cons_succ]
              go_wp2_with (refine wpList_store_abs rfl 113 _ _ rfl w.heap.size _ (chCells id (some u) (some v)) rfl rfl HR.out info_change rfl (chCells_one id (some u) (some v)) ?_; intro W2 hW2 hU; have C3 := HCc.out.upd hU (by omega); have e1 := C3.cell (i := 1) rfl; have e2 := C3.cell (i := 2) rfl; have e3 := C3.cell (i := 3) rfl; have e4 := C3.cell (i := 4) rfl; have e5 := C3.cell (i := 5) rfl; have e6 := C3.cell (i := 6) rfl; simp only [vOf, Option.getD_none, Option.getD_some, Option.isSome_none, Option.isSome_some] at e1 e2 e3 e4 e5 e6)
              refine ⟨fun p hp => (by cases hp), ?_⟩
              unfold pl
              refine ⟨?_, ?_, ?_⟩
              · simp only [pickL, List.getD_cons_zero, List.getD_cons_succ]
                go_wp2_with (refine wpList_store_abs rfl 113 _ _ rfl w.heap.size _ (chCells id (some u) (some v)) rfl rfl HR.out info_change rfl (chCells_one id (some u) (some v)) ?_; intro W2 hW2 hU; have C3 := HCc.out.upd hU (by omega); have e1 := C3.cell (i := 1) rfl; have e2 := C3.cell (i := 2) rfl; have e3 := C3.cell (i := 3) rfl; have e4 := C3.cell (i := 4) rfl; have e5 := C3.cell (i := 5) rfl; have e6 := C3.cell (i := 6) rfl; simp only [vOf, Option.getD_none, Option.getD_some, Option.isSome_none, Option.isSome_some] at e1 e2 e3 e4 e5 e6)
                refine ⟨fun p hp => (by cases hp), ?_⟩
                unfold pl
                refine ⟨?_, ?_, ?_⟩
                · simp only [pickL, List.getD_cons_zero, List.getD_cons_succ]
                  go_wp2_with (refine wpList_store_abs rfl 113 _ _ rfl w.heap.size _ (chCells id (some u) (some v)) rfl rfl HR.out info_change rfl (chCells_one id (some u) (some v)) ?_; intro W2 hW2 hU; have C3 := HCc.out.upd hU (by omega); have e1 := C3.cell (i := 1) rfl; have e2 := C3.cell (i := 2) rfl; have e3 := C3.cell (i := 3) rfl; have e4 := C3.cell (i := 4) rfl; have e5 := C3.cell (i := 5) rfl; have e6 := C3.cell (i := 6) rfl; simp only [vOf, Option.getD_none, Option.getD_some, Option.isSome_none, Option.isSome_some] at e1 e2 e3 e4 e5 e6)
                  refine ⟨fun p hp => (by cases hp), ?_⟩
                  unfold pl
                  refine ⟨?_, ?_⟩
                  · simp only [pickL, List.getD_cons_zero, List.getD_cons_succ]
                    go_wp2_with (refine wpList_store_abs rfl 113 _ _ rfl w.heap.size _ (chCells id (some u) (some v)) rfl rfl HR.out info_change rfl (chCells_one id (some u) (some v)) ?_; intro W2 hW2 hU; have C3 := HCc.out.upd hU (by omega); have e1 := C3.cell (i := 1) rfl; have e2 := C3.cell (i := 2) rfl; have e3 := C3.cell (i := 3) rfl; have e4 := C3.cell (i := 4) rfl; have e5 := C3.cell (i := 5) rfl; have e6 := C3.cell (i := 6) rfl; simp only [vOf, Option.getD_none, Option.getD_some, Option.isSome_none, Option.isSome_some] at e1 e2 e3 e4 e5 e6)
                    refine ⟨fun p hp => (by cases hp), ?_⟩
                    unfold pl
                    refine ⟨?_, ?_⟩
                    · simp only [pickL, List.getD_cons_zero, List.getD_cons_succ]
                      go_wp2_with (refine wpList_store_abs rfl 113 _ _ rfl w.heap.size _ (chCells id (some u) (some v)) rfl rfl HR.out info_change rfl (chCells_one id (some u) (some v)) ?_; intro W2 hW2 hU; have C3 := HCc.out.upd hU (by omega); have e1 := C3.cell (i := 1) rfl; have e2 := C3.cell (i := 2) rfl; have e3 := C3.cell (i := 3) rfl; have e4 := C3.cell (i := 4) rfl; have e5 := C3.cell (i := 5) rfl; have e6 := C3.cell (i := 6) rfl; simp only [vOf, Option.getD_none, Option.getD_some, Option.isSome_none, Option.isSome_some] at e1 e2 e3 e4 e5 e6)
                      refine ⟨fun p hp => (by cases hp), ?_⟩
                      unfold pl
                      simp only [pickL, List.getD_cons_zero, List.getD_cons_succ]
                      go_wp2_with (refine wpList_store_abs rfl 113 _ _ rfl w.heap.size _ (chCells id (some u) (some v)) rfl rfl HR.out info_change rfl (chCells_one id (some u) (some v)) ?_; intro W2 hW2 hU; have C3 := HCc.out.upd hU (by omega); have e1 := C3.cell (i := 1) rfl; have e2 := C3.cell (i := 2) rfl; have e3 := C3.cell (i := 3) rfl; have e4 := C3.cell (i := 4) rfl; have e5 := C3.cell (i := 5) rfl; have e6 := C3.cell (i := 6) rfl; simp only [vOf, Option.getD_none, Option.getD_some, Option.isSome_none, Option.isSome_some] at e1 e2 e3 e4 e5 e6)
                      refine ⟨fun p hp => (by cases hp), ?_⟩
                      unfold pl
                      refine ⟨rfl, trivial, ?_⟩
                      go_wp2
                      go_meet
                      case rel => exact ⟨by rw [HD.out], HG.out.trans (hU.below (Nat.le_refl _)), hW2⟩
                    · simp only [pickL, List.getD_cons_zero, List.getD_cons_succ]
                      go_wp2_with (refine wpList_store_abs rfl 113 _ _ rfl w.heap.size _ (chCells id (some u) (some v)) rfl rfl HR.out info_change rfl (chCells_one id (some u) (some v)) ?_; intro W2 hW2 hU; have C3 := HCc.out.upd hU (by omega); have e1 := C3.cell (i := 1) rfl; have e2 := C3.cell (i := 2) rfl; have e3 := C3.cell (i := 3) rfl; have e4 := C3.cell (i := 4) rfl; have e5 := C3.cell (i := 5) rfl; have e6 := C3.cell (i := 6) rfl; simp only [vOf, Option.getD_none, Option.getD_some, Option.isSome_none, Option.isSome_some] at e1 e2 e3 e4 e5 e6)
                      refine ⟨fun p hp => (by cases hp), ?_⟩
                      unfold pl
                      simp only [pickL, List.getD_cons_zero, List.getD_cons_succ]
                      go_wp2_with (refine wpList_store_abs rfl 113 _ _ rfl w.heap.size _ (chCells id (some u) (some v)) rfl rfl HR.out info_change rfl (chCells_one id (some u) (some v)) ?_; intro W2 hW2 hU; have C3 := HCc.out.upd hU (by omega); have e1 := C3.cell (i := 1) rfl; have e2 := C3.cell (i := 2) rfl; have e3 := C3.cell (i := 3) rfl; have e4 := C3.cell (i := 4) rfl; have e5 := C3.cell (i := 5) rfl; have e6 := C3.cell (i := 6) rfl; simp only [vOf, Option.getD_none, Option.getD_some, Option.isSome_none, Option.isSome_some] at e1 e2 e3 e4 e5 e6)
                      refine ⟨fun p hp => (by cases hp), ?_⟩
                      unfold pl
                      refine ⟨rfl, trivial, ?_⟩
                      go_wp2
                      go_meet
                      case rel => exact ⟨by rw [HD.out], HG.out.trans (hU.below (Nat.le_refl _)), hW2⟩
                  · simp only [pickL, List.getD_cons_zero, List.getD_cons_succ]
                    go_wp2_with (refine wpList_store_abs rfl 113 _ _ rfl w.heap.size _ (chCells id (some u) (some v)) rfl rfl HR.out info_change rfl (chCells_one id (some u) (some v)) ?_; intro W2 hW2 hU; have C3 := HCc.out.upd hU (by omega); have e1 := C3.cell (i := 1) rfl; have e2 := C3.cell (i := 2) rfl; have e3 := C3.cell (i := 3) rfl; have e4 := C3.cell (i := 4) rfl; have e5 := C3.cell (i := 5) rfl; have e6 := C3.cell (i := 6) rfl; simp only [vOf, Option.getD_none, Option.getD_some, Option.isSome_none, Option.isSome_some] at e1 e2 e3 e4 e5 e6)
                    refine ⟨fun p hp => (by cases hp), ?_⟩
                    unfold pl
                    simp only [pickL, List.getD_cons_zero, List.getD_cons_succ]
                    go_wp2_with (refine wpList_store_abs rfl 113 _ _ rfl w.heap.size _ (chCells id (some u) (some v)) rfl rfl HR.out info_change rfl (chCells_one id (some u) (some v)) ?_; intro W2 hW2 hU; have C3 := HCc.out.upd hU (by omega); have e1 := C3.cell (i := 1) rfl; have e2 := C3.cell (i := 2) rfl; have e3 := C3.cell (i := 3) rfl; have e4 := C3.cell (i := 4) rfl; have e5 := C3.cell (i := 5) rfl; have e6 := C3.cell (i := 6) rfl; simp only [vOf, Option.getD_none, Option.getD_some, Option.isSome_none, Option.isSome_some] at e1 e2 e3 e4 e5 e6)
                    refine ⟨fun p hp => (by cases hp), ?_⟩
                    unfold pl
                    refine ⟨rfl, trivial, ?_⟩
                    go_wp2
                    go_meet
                    case rel => exact ⟨by rw [HD.out], HG.out.trans (hU.below (Nat.le_refl _)), hW2⟩
                · simp only [pickL, List.getD_cons_zero, List.getD_cons_succ]
                  go_wp2_with (refine wpList_store_abs rfl 113 _ _ rfl w.heap.size _ (chCells id (some u) (some v)) rfl rfl HR.out info_change rfl (chCells_one id (some u) (some v)) ?_; intro W2 hW2 hU; have C3 := HCc.out.upd hU (by omega); have e1 := C3.cell (i := 1) rfl; have e2 := C3.cell (i := 2) rfl; have e3 := C3.cell (i := 3) rfl; have e4 := C3.cell (i := 4) rfl; have e5 := C3.cell (i := 5) rfl; have e6 := C3.cell (i := 6) rfl; simp only [vOf, Option.getD_none, Option.getD_some, Option.isSome_none, Option.isSome_some] at e1 e2 e3 e4 e5 e6)
                  refine ⟨fun p hp => (by cases hp), ?_⟩
                  unfold pl
                  refine ⟨?_, ?_⟩
                  · simp only [pickL, List.getD_cons_zero, List.getD_cons_succ]
                    go_wp2_with (refine wpList_store_abs rfl 113 _ _ rfl w.heap.size _ (chCells id (some u) (some v)) rfl rfl HR.out info_change rfl (chCells_one id (some u) (some v)) ?_; intro W2 hW2 hU; have C3 := HCc.out.upd hU (by omega); have e1 := C3.cell (i := 1) rfl; have e2 := C3.cell (i := 2) rfl; have e3 := C3.cell (i := 3) rfl; have e4 := C3.cell (i := 4) rfl; have e5 := C3.cell (i := 5) rfl; have e6 := C3.cell (i := 6) rfl; simp only [vOf, Option.getD_none, Option.getD_some, Option.isSome_none, Option.isSome_some] at e1 e2 e3 e4 e5 e6)
                    refine ⟨fun p hp => (by cases hp), ?_⟩
                    unfold pl
                    refine ⟨?_, ?_⟩
                    · simp only [pickL, List.getD_cons_zero, List.getD_cons_succ]
                      go_wp2_with (refine wpList_store_abs rfl 113 _ _ rfl w.heap.size _ (chCells id (some u) (some v)) rfl rfl HR.out info_change rfl (chCells_one id (some u) (some v)) ?_; intro W2 hW2 hU; have C3 := HCc.out.upd hU (by omega); have e1 := C3.cell (i := 1) rfl; have e2 := C3.cell (i := 2) rfl; have e3 := C3.cell (i := 3) rfl; have e4 := C3.cell (i := 4) rfl; have e5 := C3.cell (i := 5) rfl; have e6 := C3.cell (i := 6) rfl; simp only [vOf, Option.getD_none, Option.getD_some, Option.isSome_none, Option.isSome_some] at e1 e2 e3 e4 e5 e6)
                      refine ⟨fun p hp => (by cases hp), ?_⟩
                      unfold pl
                      simp only [pickL, List.getD_cons_zero, List.getD_cons_succ]
                      go_wp2_with (refine wpList_store_abs rfl 113 _ _ rfl w.heap.size _ (chCells id (some u) (some v)) rfl rfl HR.out info_change rfl (chCells_one id (some u) (some v)) ?_; intro W2 hW2 hU; have C3 := HCc.out.upd hU (by omega); have e1 := C3.cell (i := 1) rfl; have e2 := C3.cell (i := 2) rfl; have e3 := C3.cell (i := 3) rfl; have e4 := C3.cell (i := 4) rfl; have e5 := C3.cell (i := 5) rfl; have e6 := C3.cell (i := 6) rfl; simp only [vOf, Option.getD_none, Option.getD_some, Option.isSome_none, Option.isSome_some] at e1 e2 e3 e4 e5 e6)
                      refine ⟨fun p hp => (by cases hp), ?_⟩
                      unfold pl
                      refine ⟨rfl, trivial, ?_⟩
                      go_wp2
                      go_meet
                      case rel => exact ⟨by rw [HD.out], HG.out.trans (hU.below (Nat.le_refl _)), hW2⟩
                    · simp only [pickL, List.getD_cons_zero, List.getD_cons_succ]
                      go_wp2_with (refine wpList_store_abs rfl 113 _ _ rfl w.heap.size _ (chCells id (some u) (some v)) rfl rfl HR.out info_change rfl (chCells_one id (some u) (some v)) ?_; intro W2 hW2 hU; have C3 := HCc.out.upd hU (by omega); have e1 := C3.cell (i := 1) rfl; have e2 := C3.cell (i := 2) rfl; have e3 := C3.cell (i := 3) rfl; have e4 := C3.cell (i := 4) rfl; have e5 := C3.cell (i := 5) rfl; have e6 := C3.cell (i := 6) rfl; simp only [vOf, Option.getD_none, Option.getD_some, Option.isSome_none, Option.isSome_some] at e1 e2 e3 e4 e5 e6)
                      refine ⟨fun p hp => (by cases hp), ?_⟩
                      unfold pl
                      simp only [pickL, List.getD_cons_zero, List.getD_cons_succ]
                      go_wp2_with (refine wpList_store_abs rfl 113 _ _ rfl w.heap.size _ (chCells id (some u) (some v)) rfl rfl HR.out info_change rfl (chCells_one id (some u) (some v)) ?_; intro W2 hW2 hU; have C3 := HCc.out.upd hU (by omega); have e1 := C3.cell (i := 1) rfl; have e2 := C3.cell (i := 2) rfl; have e3 := C3.cell (i := 3) rfl; have e4 := C3.cell (i := 4) rfl; have e5 := C3.cell (i := 5) rfl; have e6 := C3.cell (i := 6) rfl; simp only [vOf, Option.getD_none, Option.getD_some, Option.isSome_none, Option.isSome_some] at e1 e2 e3 e4 e5 e6)
                      refine ⟨fun p hp => (by cases hp), ?_⟩
                      unfold pl
                      refine ⟨rfl, trivial, ?_⟩
                      go_wp2
                      go_meet
                      case rel => exact ⟨by rw [HD.out], HG.out.trans (hU.below (Nat.le_refl _)), hW2⟩
                  · simp only [pickL, List.getD_cons_zero, List.getD_cons_succ]
                    go_wp2_with (refine wpList_store_abs rfl 113 _ _ rfl w.heap.size _ (chCells id (some u) (some v)) rfl rfl HR.out info_change rfl (chCells_one id (some u) (some v)) ?_; intro W2 hW2 hU; have C3 := HCc.out.upd hU (by omega); have e1 := C3.cell (i := 1) rfl; have e2 := C3.cell (i := 2) rfl; have e3 := C3.cell (i := 3) rfl; have e4 := C3.cell (i := 4) rfl; have e5 := C3.cell (i := 5) rfl; have e6 := C3.cell (i := 6) rfl; simp only [vOf, Option.getD_none, Option.getD_some, Option.isSome_none, Option.isSome_some] at e1 e2 e3 e4 e5 e6)
                    refine ⟨fun p hp => (by cases hp), ?_⟩
                    unfold pl
                    simp only [pickL, List.getD_cons_zero, List.getD_cons_succ]
                    go_wp2_with (refine wpList_store_abs rfl 113 _ _ rfl w.heap.size _ (chCells id (some u) (some v)) rfl rfl HR.out info_change rfl (chCells_one id (some u) (some v)) ?_; intro W2 hW2 hU; have C3 := HCc.out.upd hU (by omega); have e1 := C3.cell (i := 1) rfl; have e2 := C3.cell (i := 2) rfl; have e3 := C3.cell (i := 3) rfl; have e4 := C3.cell (i := 4) rfl; have e5 := C3.cell (i := 5) rfl; have e6 := C3.cell (i := 6) rfl; simp only [vOf, Option.getD_none, Option.getD_some, Option.isSome_none, Option.isSome_some] at e1 e2 e3 e4 e5 e6)
                    refine ⟨fun p hp => (by cases hp), ?_⟩
                    unfold pl
                    refine ⟨rfl, trivial, ?_⟩
                    go_wp2
                    go_meet
                    case rel => exact ⟨by rw [HD.out], HG.out.trans (hU.below (Nat.le_refl _)), hW2⟩
                · simp only [pickL, List.getD_cons_zero, List.getD_cons_succ]
                  go_wp2_with (refine wpList_store_abs rfl 113 _ _ rfl w.heap.size _ (chCells id (some u) (some v)) rfl rfl HR.out info_change rfl (chCells_one id (some u) (some v)) ?_; intro W2 hW2 hU; have C3 := HCc.out.upd hU (by omega); have e1 := C3.cell (i := 1) rfl; have e2 := C3.cell (i := 2) rfl; have e3 := C3.cell (i := 3) rfl; have e4 := C3.cell (i := 4) rfl; have e5 := C3.cell (i := 5) rfl; have e6 := C3.cell (i := 6) rfl; simp only [vOf, Option.getD_none, Option.getD_some, Option.isSome_none, Option.isSome_some] at e1 e2 e3 e4 e5 e6)
                  refine ⟨fun p hp => (by cases hp), ?_⟩
                  unfold pl
                  simp only [pickL, List.getD_cons_zero, List.getD_cons_succ]
                  go_wp2_with (refine wpList_store_abs rfl 113 _ _ rfl w.heap.size _ (chCells id (some u) (some v)) rfl rfl HR.out info_change rfl (chCells_one id (some u) (some v)) ?_; intro W2 hW2 hU; have C3 := HCc.out.upd hU (by omega); have e1 := C3.cell (i := 1) rfl; have e2 := C3.cell (i := 2) rfl; have e3 := C3.cell (i := 3) rfl; have e4 := C3.cell (i := 4) rfl; have e5 := C3.cell (i := 5) rfl; have e6 := C3.cell (i := 6) rfl; simp only [vOf, Option.getD_none, Option.getD_some, Option.isSome_none, Option.isSome_some] at e1 e2 e3 e4 e5 e6)
                  refine ⟨fun p hp => (by cases hp), ?_⟩
                  unfold pl
                  refine ⟨rfl, trivial, ?_⟩
                  go_wp2
                  go_meet
                  case rel => exact ⟨by rw [HD.out], HG.out.trans (hU.below (Nat.le_refl _)), hW2⟩
              · simp only [pickL, List.getD_cons_zero, List.getD_cons_succ]
                go_wp2_with (refine wpList_store_abs rfl 113 _ _ rfl w.heap.size _ (chCells id (some u) (some v)) rfl rfl HR.out info_change rfl (chCells_one id (some u) (some v)) ?_; intro W2 hW2 hU; have C3 := HCc.out.upd hU (by omega); have e1 := C3.cell (i := 1) rfl; have e2 := C3.cell (i := 2) rfl; have e3 := C3.cell (i := 3) rfl; have e4 := C3.cell (i := 4) rfl; have e5 := C3.cell (i := 5) rfl; have e6 := C3.cell (i := 6) rfl; simp only [vOf, Option.getD_none, Option.getD_some, Option.isSome_none, Option.isSome_some] at e1 e2 e3 e4 e5 e6)
                refine ⟨fun p hp => (by cases hp), ?_⟩
                unfold pl
                refine ⟨?_, ?_⟩
                · simp only [pickL, List.getD_cons_zero, List.getD_cons_succ]
                  go_wp2_with (refine wpList_store_abs rfl 113 _ _ rfl w.heap.size _ (chCells id (some u) (some v)) rfl rfl HR.out info_change rfl (chCells_one id (some u) (some v)) ?_; intro W2 hW2 hU; have C3 := HCc.out.upd hU (by omega); have e1 := C3.cell (i := 1) rfl; have e2 := C3.cell (i := 2) rfl; have e3 := C3.cell (i := 3) rfl; have e4 := C3.cell (i := 4) rfl; have e5 := C3.cell (i := 5) rfl; have e6 := C3.cell (i := 6) rfl; simp only [vOf, Option.getD_none, Option.getD_some, Option.isSome_none, Option.isSome_some] at e1 e2 e3 e4 e5 e6)
                  refine ⟨fun p hp => (by cases hp), ?_⟩
                  unfold pl
                  refine ⟨?_, ?_⟩
                  · simp only [pickL, List.getD_cons_zero, List.getD_cons_succ]
                    go_wp2_with (refine wpList_store_abs rfl 113 _ _ rfl w.heap.size _ (chCells id (some u) (some v)) rfl rfl HR.out info_change rfl (chCells_one id (some u) (some v)) ?_; intro W2 hW2 hU; have C3 := HCc.out.upd hU (by omega); have e1 := C3.cell (i := 1) rfl; have e2 := C3.cell (i := 2) rfl; have e3 := C3.cell (i := 3) rfl; have e4 := C3.cell (i := 4) rfl; have e5 := C3.cell (i := 5) rfl; have e6 := C3.cell (i := 6) rfl; simp only [vOf, Option.getD_none, Option.getD_some, Option.isSome_none, Option.isSome_some] at e1 e2 e3 e4 e5 e6)
                    refine ⟨fun p hp => (by cases hp), ?_⟩
                    unfold pl
                    refine ⟨?_, ?_⟩
                    · simp only [pickL, List.getD_cons_zero, List.getD_cons_succ]
                      go_wp2_with (refine wpList_store_abs rfl 113 _ _ rfl w.heap.size _ (chCells id (some u) (some v)) rfl rfl HR.out info_change rfl (chCells_one id (some u) (some v)) ?_; intro W2 hW2 hU; have C3 := HCc.out.upd hU (by omega); have e1 := C3.cell (i := 1) rfl; have e2 := C3.cell (i := 2) rfl; have e3 := C3.cell (i := 3) rfl; have e4 := C3.cell (i := 4) rfl; have e5 := C3.cell (i := 5) rfl; have e6 := C3.cell (i := 6) rfl; simp only [vOf, Option.getD_none, Option.getD_some, Option.isSome_none, Option.isSome_some] at e1 e2 e3 e4 e5 e6)
                      refine ⟨fun p hp => (by cases hp), ?_⟩
                      unfold pl
                      simp only [pickL, List.getD_cons_zero, List.getD_cons_succ]
                      go_wp2_with (refine wpList_store_abs rfl 113 _ _ rfl w.heap.size _ (chCells id (some u) (some v)) rfl rfl HR.out info_change rfl (chCells_one id (some u) (some v)) ?_; intro W2 hW2 hU; have C3 := HCc.out.upd hU (by omega); have e1 := C3.cell (i := 1) rfl; have e2 := C3.cell (i := 2) rfl; have e3 := C3.cell (i := 3) rfl; have e4 := C3.cell (i := 4) rfl; have e5 := C3.cell (i := 5) rfl; have e6 := C3.cell (i := 6) rfl; simp only [vOf, Option.getD_none, Option.getD_some, Option.isSome_none, Option.isSome_some] at e1 e2 e3 e4 e5 e6)
                      refine ⟨fun p hp => (by cases hp), ?_⟩
                      unfold pl
                      refine ⟨rfl, trivial, ?_⟩
                      go_wp2
                      go_meet
                      case rel => exact ⟨by rw [HD.out], HG.out.trans (hU.below (Nat.le_refl _)), hW2⟩
                    · simp only [pickL, List.getD_cons_zero, List.getD_cons_succ]
                      go_wp2_with (refine wpList_store_abs rfl 113 _ _ rfl w.heap.size _ (chCells id (some u) (some v)) rfl rfl HR.out info_change rfl (chCells_one id (some u) (some v)) ?_; intro W2 hW2 hU; have C3 := HCc.out.upd hU (by omega); have e1 := C3.cell (i := 1) rfl; have e2 := C3.cell (i := 2) rfl; have e3 := C3.cell (i := 3) rfl; have e4 := C3.cell (i := 4) rfl; have e5 := C3.cell (i := 5) rfl; have e6 := C3.cell (i := 6) rfl; simp only [vOf, Option.getD_none, Option.getD_some, Option.isSome_none, Option.isSome_some] at e1 e2 e3 e4 e5 e6)
                      refine ⟨fun p hp => (by cases hp), ?_⟩
                      unfold pl
                      simp only [pickL, List.getD_cons_zero, List.getD_cons_succ]
                      go_wp2_with (refine wpList_store_abs rfl 113 _ _ rfl w.heap.size _ (chCells id (some u) (some v)) rfl rfl HR.out info_change rfl (chCells_one id (some u) (some v)) ?_; intro W2 hW2 hU; have C3 := HCc.out.upd hU (by omega); have e1 := C3.cell (i := 1) rfl; have e2 := C3.cell (i := 2) rfl; have e3 := C3.cell (i := 3) rfl; have e4 := C3.cell (i := 4) rfl; have e5 := C3.cell (i := 5) rfl; have e6 := C3.cell (i := 6) rfl; simp only [vOf, Option.getD_none, Option.getD_some, Option.isSome_none, Option.isSome_some] at e1 e2 e3 e4 e5 e6)
                      refine ⟨fun p hp => (by cases hp), ?_⟩
                      unfold pl
                      refine ⟨rfl, trivial, ?_⟩
                      go_wp2
                      go_meet
                      case rel => exact ⟨by rw [HD.out], HG.out.trans (hU.below (Nat.le_refl _)), hW2⟩
                  · simp only [pickL, List.getD_cons_zero, List.getD_cons_succ]
                    go_wp2_with (refine wpList_store_abs rfl 113 _ _ rfl w.heap.size _ (chCells id (some u) (some v)) rfl rfl HR.out info_change rfl (chCells_one id (some u) (some v)) ?_; intro W2 hW2 hU; have C3 := HCc.out.upd hU (by omega); have e1 := C3.cell (i := 1) rfl; have e2 := C3.cell (i := 2) rfl; have e3 := C3.cell (i := 3) rfl; have e4 := C3.cell (i := 4) rfl; have e5 := C3.cell (i := 5) rfl; have e6 := C3.cell (i := 6) rfl; simp only [vOf, Option.getD_none, Option.getD_some, Option.isSome_none, Option.isSome_some] at e1 e2 e3 e4 e5 e6)
                    refine ⟨fun p hp => (by cases hp), ?_⟩
                    unfold pl
                    simp only [pickL, List.getD_cons_zero, List.getD_cons_succ]
                    go_wp2_with (refine wpList_store_abs rfl 113 _ _ rfl w.heap.size _ (chCells id (some u) (some v)) rfl rfl HR.out info_change rfl (chCells_one id (some u) (some v)) ?_; intro W2 hW2 hU; have C3 := HCc.out.upd hU (by omega); have e1 := C3.cell (i := 1) rfl; have e2 := C3.cell (i := 2) rfl; have e3 := C3.cell (i := 3) rfl; have e4 := C3.cell (i := 4) rfl; have e5 := C3.cell (i := 5) rfl; have e6 := C3.cell (i := 6) rfl; simp only [vOf, Option.getD_none, Option.getD_some, Option.isSome_none, Option.isSome_some] at e1 e2 e3 e4 e5 e6)
                    refine ⟨fun p hp => (by cases hp), ?_⟩
                    unfold pl
                    refine ⟨rfl, trivial, ?_⟩
                    go_wp2
                    go_meet
                    case rel => exact ⟨by rw [HD.out], HG.out.trans (hU.below (Nat.le_refl _)), hW2⟩
                · simp only [pickL, List.getD_cons_zero, List.getD_cons_succ]
                  go_wp2_with (refine wpList_store_abs rfl 113 _ _ rfl w.heap.size _ (chCells id (some u) (some v)) rfl rfl HR.out info_change rfl (chCells_one id (some u) (some v)) ?_; intro W2 hW2 hU; have C3 := HCc.out.upd hU (by omega); have e1 := C3.cell (i := 1) rfl; have e2 := C3.cell (i := 2) rfl; have e3 := C3.cell (i := 3) rfl; have e4 := C3.cell (i := 4) rfl; have e5 := C3.cell (i := 5) rfl; have e6 := C3.cell (i := 6) rfl; simp only [vOf, Option.getD_none, Option.getD_some, Option.isSome_none, Option.isSome_some] at e1 e2 e3 e4 e5 e6)
                  refine ⟨fun p hp => (by cases hp), ?_⟩
                  unfold pl
                  refine ⟨?_, ?_⟩
                  · simp only [pickL, List.getD_cons_zero, List.getD_cons_succ]
                    go_wp2_with (refine wpList_store_abs rfl 113 _ _ rfl w.heap.size _ (chCells id (some u) (some v)) rfl rfl HR.out info_change rfl (chCells_one id (some u) (some v)) ?_; intro W2 hW2 hU; have C3 := HCc.out.upd hU (by omega); have e1 := C3.cell (i := 1) rfl; have e2 := C3.cell (i := 2) rfl; have e3 := C3.cell (i := 3) rfl; have e4 := C3.cell (i := 4) rfl; have e5 := C3.cell (i := 5) rfl; have e6 := C3.cell (i := 6) rfl; simp only [vOf, Option.getD_none, Option.getD_some, Option.isSome_none, Option.isSome_some] at e1 e2 e3 e4 e5 e6)
                    refine ⟨fun p hp => (by cases hp), ?_⟩
                    unfold pl
                    refine ⟨?_, ?_⟩
                    · simp only [pickL, List.getD_cons_zero, List.getD_cons_succ]
                      go_wp2_with (refine wpList_store_abs rfl 113 _ _ rfl w.heap.size _ (chCells id (some u) (some v)) rfl rfl HR.out info_change rfl (chCells_one id (some u) (some v)) ?_; intro W2 hW2 hU; have C3 := HCc.out.upd hU (by omega); have e1 := C3.cell (i := 1) rfl; have e2 := C3.cell (i := 2) rfl; have e3 := C3.cell (i := 3) rfl; have e4 := C3.cell (i := 4) rfl; have e5 := C3.cell (i := 5) rfl; have e6 := C3.cell (i := 6) rfl; simp only [vOf, Option.getD_none, Option.getD_some, Option.isSome_none, Option.isSome_some] at e1 e2 e3 e4 e5 e6)
                      refine ⟨fun p hp => (by cases hp), ?_⟩
                      unfold pl
                      simp only [pickL, List.getD_cons_zero, List.getD_cons_succ]
                      go_wp2_with (refine wpList_store_abs rfl 113 _ _ rfl w.heap.size _ (chCells id (some u) (some v)) rfl rfl HR.out info_change rfl (chCells_one id (some u) (some v)) ?_; intro W2 hW2 hU; have C3 := HCc.out.upd hU (by omega); have e1 := C3.cell (i := 1) rfl; have e2 := C3.cell (i := 2) rfl; have e3 := C3.cell (i := 3) rfl; have e4 := C3.cell (i := 4) rfl; have e5 := C3.cell (i := 5) rfl; have e6 := C3.cell (i := 6) rfl; simp only [vOf, Option.getD_none, Option.getD_some, Option.isSome_none, Option.isSome_some] at e1 e2 e3 e4 e5 e6)
                      refine ⟨fun p hp => (by cases hp), ?_⟩
                      unfold pl
                      refine ⟨rfl, trivial, ?_⟩
                      go_wp2
                      go_meet
                      case rel => exact ⟨by rw [HD.out], HG.out.trans (hU.below (Nat.le_refl _)), hW2⟩
                    · simp only [pickL, List.getD_cons_zero, List.getD_cons_succ]
                      go_wp2_with (refine wpList_store_abs rfl 113 _ _ rfl w.heap.size _ (chCells id (some u) (some v)) rfl rfl HR.out info_change rfl (chCells_one id (some u) (some v)) ?_; intro W2 hW2 hU; have C3 := HCc.out.upd hU (by omega); have e1 := C3.cell (i := 1) rfl; have e2 := C3.cell (i := 2) rfl; have e3 := C3.cell (i := 3) rfl; have e4 := C3.cell (i := 4) rfl; have e5 := C3.cell (i := 5) rfl; have e6 := C3.cell (i := 6) rfl; simp only [vOf, Option.getD_none, Option.getD_some, Option.isSome_none, Option.isSome_some] at e1 e2 e3 e4 e5 e6)
                      refine ⟨fun p hp => (by cases hp), ?_⟩
                      unfold pl
                      simp only [pickL, List.getD_cons_zero, List.getD_cons_succ]
                      go_wp2_with (refine wpList_store_abs rfl 113 _ _ rfl w.heap.size _ (chCells id (some u) (some v)) rfl rfl HR.out info_change rfl (chCells_one id (some u) (some v)) ?_; intro W2 hW2 hU; have C3 := HCc.out.upd hU (by omega); have e1 := C3.cell (i := 1) rfl; have e2 := C3.cell (i := 2) rfl; have e3 := C3.cell (i := 3) rfl; have e4 := C3.cell (i := 4) rfl; have e5 := C3.cell (i := 5) rfl; have e6 := C3.cell (i := 6) rfl; simp only [vOf, Option.getD_none, Option.getD_some, Option.isSome_none, Option.isSome_some] at e1 e2 e3 e4 e5 e6)
                      refine ⟨fun p hp => (by cases hp), ?_⟩
                      unfold pl
                      refine ⟨rfl, trivial, ?_⟩
                      go_wp2
                      go_meet
                      case rel => exact ⟨by rw [HD.out], HG.out.trans (hU.below (Nat.le_refl _)), hW2⟩
                  · simp only [pickL, List.getD_cons_zero, List.getD_cons_succ]
                    go_wp2_with (refine wpList_store_abs rfl 113 _ _ rfl w.heap.size _ (chCells id (some u) (some v)) rfl rfl HR.out info_change rfl (chCells_one id (some u) (some v)) ?_; intro W2 hW2 hU; have C3 := HCc.out.upd hU (by omega); have e1 := C3.cell (i := 1) rfl; have e2 := C3.cell (i := 2) rfl; have e3 := C3.cell (i := 3) rfl; have e4 := C3.cell (i := 4) rfl; have e5 := C3.cell (i := 5) rfl; have e6 := C3.cell (i := 6) rfl; simp only [vOf, Option.getD_none, Option.getD_some, Option.isSome_none, Option.isSome_some] at e1 e2 e3 e4 e5 e6)
                    refine ⟨fun p hp => (by cases hp), ?_⟩
                    unfold pl
                    simp only [pickL, List.getD_cons_zero, List.getD_cons_succ]
                    go_wp2_with (refine wpList_store_abs rfl 113 _ _ rfl w.heap.size _ (chCells id (some u) (some v)) rfl rfl HR.out info_change rfl (chCells_one id (some u) (some v)) ?_; intro W2 hW2 hU; have C3 := HCc.out.upd hU (by omega); have e1 := C3.cell (i := 1) rfl; have e2 := C3.cell (i := 2) rfl; have e3 := C3.cell (i := 3) rfl; have e4 := C3.cell (i := 4) rfl; have e5 := C3.cell (i := 5) rfl; have e6 := C3.cell (i := 6) rfl; simp only [vOf, Option.getD_none, Option.getD_some, Option.isSome_none, Option.isSome_some] at e1 e2 e3 e4 e5 e6)
                    refine ⟨fun p hp => (by cases hp), ?_⟩
                    unfold pl
                    refine ⟨rfl, trivial, ?_⟩
                    go_wp2
                    go_meet
                    case rel => exact ⟨by rw [HD.out], HG.out.trans (hU.below (Nat.le_refl _)), hW2⟩
              · simp only [pickL, List.getD_cons_zero, List.getD_cons_succ]
                go_wp2_with (refine wpList_store_abs rfl 113 _ _ rfl w.heap.size _ (chCells id (some u) (some v)) rfl rfl HR.out info_change rfl (chCells_one id (some u) (some v)) ?_; intro W2 hW2 hU; have C3 := HCc.out.upd hU (by omega); have e1 := C3.cell (i := 1) rfl; have e2 := C3.cell (i := 2) rfl; have e3 := C3.cell (i := 3) rfl; have e4 := C3.cell (i := 4) rfl; have e5 := C3.cell (i := 5) rfl; have e6 := C3.cell (i := 6) rfl; simp only [vOf, Option.getD_none, Option.getD_some, Option.isSome_none, Option.isSome_some] at e1 e2 e3 e4 e5 e6)
                refine ⟨fun p hp => (by cases hp), ?_⟩
                unfold pl
                refine ⟨?_, ?_⟩
                · simp only [pickL, List.getD_cons_zero, List.getD_cons_succ]
                  go_wp2_with (refine wpList_store_abs rfl 113 _ _ rfl w.heap.size _ (chCells id (some u) (some v)) rfl rfl HR.out info_change rfl (chCells_one id (some u) (some v)) ?_; intro W2 hW2 hU; have C3 := HCc.out.upd hU (by omega); have e1 := C3.cell (i := 1) rfl; have e2 := C3.cell (i := 2) rfl; have e3 := C3.cell (i := 3) rfl; have e4 := C3.cell (i := 4) rfl; have e5 := C3.cell (i := 5) rfl; have e6 := C3.cell (i := 6) rfl; simp only [vOf, Option.getD_none, Option.getD_some, Option.isSome_none, Option.isSome_some] at e1 e2 e3 e4 e5 e6)
                  refine ⟨fun p hp => (by cases hp), ?_⟩
                  unfold pl
                  refine ⟨?_, ?_⟩
                  · simp only [pickL, List.getD_cons_zero, List.getD_cons_succ]
                    go_wp2_with (refine wpList_store_abs rfl 113 _ _ rfl w.heap.size _ (chCells id (some u) (some v)) rfl rfl HR.out info_change rfl (chCells_one id (some u) (some v)) ?_; intro W2 hW2 hU; have C3 := HCc.out.upd hU (by omega); have e1 := C3.cell (i := 1) rfl; have e2 := C3.cell (i := 2) rfl; have e3 := C3.cell (i := 3) rfl; have e4 := C3.cell (i := 4) rfl; have e5 := C3.cell (i := 5) rfl; have e6 := C3.cell (i := 6) rfl; simp only [vOf, Option.getD_none, Option.getD_some, Option.isSome_none, Option.isSome_some] at e1 e2 e3 e4 e5 e6)
                    refine ⟨fun p hp => (by cases hp), ?_⟩
                    unfold pl
                    refine ⟨?_, ?_⟩
                    · simp only [pickL, List.getD_cons_zero, List.getD_cons_succ]
                      go_wp2_with (refine wpList_store_abs rfl 113 _ _ rfl w.heap.size _ (chCells id (some u) (some v)) rfl rfl HR.out info_change rfl (chCells_one id (some u) (some v)) ?_; intro W2 hW2 hU; have C3 := HCc.out.upd hU (by omega); have e1 := C3.cell (i := 1) rfl; have e2 := C3.cell (i := 2) rfl; have e3 := C3.cell (i := 3) rfl; have e4 := C3.cell (i := 4) rfl; have e5 := C3.cell (i := 5) rfl; have e6 := C3.cell (i := 6) rfl; simp only [vOf, Option.getD_none, Option.getD_some, Option.isSome_none, Option.isSome_some] at e1 e2 e3 e4 e5 e6)
                      refine ⟨fun p hp => (by cases hp), ?_⟩
                      unfold pl
                      simp only [pickL, List.getD_cons_zero, List.getD_cons_succ]
                      go_wp2_with (refine wpList_store_abs rfl 113 _ _ rfl w.heap.size _ (chCells id (some u) (some v)) rfl rfl HR.out info_change rfl (chCells_one id (some u) (some v)) ?_; intro W2 hW2 hU; have C3 := HCc.out.upd hU (by omega); have e1 := C3.cell (i := 1) rfl; have e2 := C3.cell (i := 2) rfl; have e3 := C3.cell (i := 3) rfl; have e4 := C3.cell (i := 4) rfl; have e5 := C3.cell (i := 5) rfl; have e6 := C3.cell (i := 6) rfl; simp only [vOf, Option.getD_none, Option.getD_some, Option.isSome_none, Option.isSome_some] at e1 e2 e3 e4 e5 e6)
                      refine ⟨fun p hp => (by cases hp), ?_⟩
                      unfold pl
                      refine ⟨rfl, trivial, ?_⟩
                      go_wp2
                      go_meet
                      case rel => exact ⟨by rw [HD.out], HG.out.trans (hU.below (Nat.le_refl _)), hW2⟩
                    · simp only [pickL, List.getD_cons_zero, List.getD_cons_succ]
                      go_wp2_with (refine wpList_store_abs rfl 113 _ _ rfl w.heap.size _ (chCells id (some u) (some v)) rfl rfl HR.out info_change rfl (chCells_one id (some u) (some v)) ?_; intro W2 hW2 hU; have C3 := HCc.out.upd hU (by omega); have e1 := C3.cell (i := 1) rfl; have e2 := C3.cell (i := 2) rfl; have e3 := C3.cell (i := 3) rfl; have e4 := C3.cell (i := 4) rfl; have e5 := C3.cell (i := 5) rfl; have e6 := C3.cell (i := 6) rfl; simp only [vOf, Option.getD_none, Option.getD_some, Option.isSome_none, Option.isSome_some] at e1 e2 e3 e4 e5 e6)
                      refine ⟨fun p hp => (by cases hp), ?_⟩
                      unfold pl
                      simp only [pickL, List.getD_cons_zero, List.getD_cons_succ]
                      go_wp2_with (refine wpList_store_abs rfl 113 _ _ rfl w.heap.size _ (chCells id (some u) (some v)) rfl rfl HR.out info_change rfl (chCells_one id (some u) (some v)) ?_; intro W2 hW2 hU; have C3 := HCc.out.upd hU (by omega); have e1 := C3.cell (i := 1) rfl; have e2 := C3.cell (i := 2) rfl; have e3 := C3.cell (i := 3) rfl; have e4 := C3.cell (i := 4) rfl; have e5 := C3.cell (i := 5) rfl; have e6 := C3.cell (i := 6) rfl; simp only [vOf, Option.getD_none, Option.getD_some, Option.isSome_none, Option.isSome_some] at e1 e2 e3 e4 e5 e6)
                      refine ⟨fun p hp => (by cases hp), ?_⟩
                      unfold pl
                      refine ⟨rfl, trivial, ?_⟩
                      go_wp2
                      go_meet
                      case rel => exact ⟨by rw [HD.out], HG.out.trans (hU.below (Nat.le_refl _)), hW2⟩
                  · simp only [pickL, List.getD_cons_zero, List.getD_cons_succ]
                    go_wp2_with (refine wpList_store_abs rfl 113 _ _ rfl w.heap.size _ (chCells id (some u) (some v)) rfl rfl HR.out info_change rfl (chCells_one id (some u) (some v)) ?_; intro W2 hW2 hU; have C3 := HCc.out.upd hU (by omega); have e1 := C3.cell (i := 1) rfl; have e2 := C3.cell (i := 2) rfl; have e3 := C3.cell (i := 3) rfl; have e4 := C3.cell (i := 4) rfl; have e5 := C3.cell (i := 5) rfl; have e6 := C3.cell (i := 6) rfl; simp only [vOf, Option.getD_none, Option.getD_some, Option.isSome_none, Option.isSome_some] at e1 e2 e3 e4 e5 e6)
                    refine ⟨fun p hp => (by cases hp), ?_⟩
                    unfold pl
                    simp only [pickL, List.getD_cons_zero, List.getD_cons_succ]
                    go_wp2_with (refine wpList_store_abs rfl 113 _ _ rfl w.heap.size _ (chCells id (some u) (some v)) rfl rfl HR.out info_change rfl (chCells_one id (some u) (some v)) ?_; intro W2 hW2 hU; have C3 := HCc.out.upd hU (by omega); have e1 := C3.cell (i := 1) rfl; have e2 := C3.cell (i := 2) rfl; have e3 := C3.cell (i := 3) rfl; have e4 := C3.cell (i := 4) rfl; have e5 := C3.cell (i := 5) rfl; have e6 := C3.cell (i := 6) rfl; simp only [vOf, Option.getD_none, Option.getD_some, Option.isSome_none, Option.isSome_some] at e1 e2 e3 e4 e5 e6)
                    refine ⟨fun p hp => (by cases hp), ?_⟩
                    unfold pl
                    refine ⟨rfl, trivial, ?_⟩
                    go_wp2
                    go_meet
                    case rel => exact ⟨by rw [HD.out], HG.out.trans (hU.below (Nat.le_refl _)), hW2⟩
                · simp only [pickL, List.getD_cons_zero, List.getD_cons_succ]
                  go_wp2_with (refine wpList_store_abs rfl 113 _ _ rfl w.heap.size _ (chCells id (some u) (some v)) rfl rfl HR.out info_change rfl (chCells_one id (some u) (some v)) ?_; intro W2 hW2 hU; have C3 := HCc.out.upd hU (by omega); have e1 := C3.cell (i := 1) rfl; have e2 := C3.cell (i := 2) rfl; have e3 := C3.cell (i := 3) rfl; have e4 := C3.cell (i := 4) rfl; have e5 := C3.cell (i := 5) rfl; have e6 := C3.cell (i := 6) rfl; simp only [vOf, Option.getD_none, Option.getD_some, Option.isSome_none, Option.isSome_some] at e1 e2 e3 e4 e5 e6)
                  refine ⟨fun p hp => (by cases hp), ?_⟩
                  unfold pl
                  refine ⟨?_, ?_⟩
                  · simp only [pickL, List.getD_cons_zero, List.getD_cons_succ]
                    go_wp2_with (refine wpList_store_abs rfl 113 _ _ rfl w.heap.size _ (chCells id (some u) (some v)) rfl rfl HR.out info_change rfl (chCells_one id (some u) (some v)) ?_; intro W2 hW2 hU; have C3 := HCc.out.upd hU (by omega); have e1 := C3.cell (i := 1) rfl; have e2 := C3.cell (i := 2) rfl; have e3 := C3.cell (i := 3) rfl; have e4 := C3.cell (i := 4) rfl; have e5 := C3.cell (i := 5) rfl; have e6 := C3.cell (i := 6) rfl; simp only [vOf, Option.getD_none, Option.getD_some, Option.isSome_none, Option.isSome_some] at e1 e2 e3 e4 e5 e6)
                    refine ⟨fun p hp => (by cases hp), ?_⟩
                    unfold pl
                    refine ⟨?_, ?_⟩
                    · simp only [pickL, List.getD_cons_zero, List.getD_cons_succ]
                      go_wp2_with (refine wpList_store_abs rfl 113 _ _ rfl w.heap.size _ (chCells id (some u) (some v)) rfl rfl HR.out info_change rfl (chCells_one id (some u) (some v)) ?_; intro W2 hW2 hU; have C3 := HCc.out.upd hU (by omega); have e1 := C3.cell (i := 1) rfl; have e2 := C3.cell (i := 2) rfl; have e3 := C3.cell (i := 3) rfl; have e4 := C3.cell (i := 4) rfl; have e5 := C3.cell (i := 5) rfl; have e6 := C3.cell (i := 6) rfl; simp only [vOf, Option.getD_none, Option.getD_some, Option.isSome_none, Option.isSome_some] at e1 e2 e3 e4 e5 e6)
                      refine ⟨fun p hp => (by cases hp), ?_⟩
                      unfold pl
                      simp only [pickL, List.getD_cons_zero, List.getD_cons_succ]
                      go_wp2_with (refine wpList_store_abs rfl 113 _ _ rfl w.heap.size _ (chCells id (some u) (some v)) rfl rfl HR.out info_change rfl (chCells_one id (some u) (some v)) ?_; intro W2 hW2 hU; have C3 := HCc.out.upd hU (by omega); have e1 := C3.cell (i := 1) rfl; have e2 := C3.cell (i := 2) rfl; have e3 := C3.cell (i := 3) rfl; have e4 := C3.cell (i := 4) rfl; have e5 := C3.cell (i := 5) rfl; have e6 := C3.cell (i := 6) rfl; simp only [vOf, Option.getD_none, Option.getD_some, Option.isSome_none, Option.isSome_some] at e1 e2 e3 e4 e5 e6)
                      refine ⟨fun p hp => (by cases hp), ?_⟩
                      unfold pl
                      refine ⟨rfl, trivial, ?_⟩
                      go_wp2
                      go_meet
                      case rel => exact ⟨by rw [HD.out], HG.out.trans (hU.below (Nat.le_refl _)), hW2⟩
                    · simp only [pickL, List.getD_cons_zero, List.getD_cons_succ]
                      go_wp2_with (refine wpList_store_abs rfl 113 _ _ rfl w.heap.size _ (chCells id (some u) (some v)) rfl rfl HR.out info_change rfl (chCells_one id (some u) (some v)) ?_; intro W2 hW2 hU; have C3 := HCc.out.upd hU (by omega); have e1 := C3.cell (i := 1) rfl; have e2 := C3.cell (i := 2) rfl; have e3 := C3.cell (i := 3) rfl; have e4 := C3.cell (i := 4) rfl; have e5 := C3.cell (i := 5) rfl; have e6 := C3.cell (i := 6) rfl; simp only [vOf, Option.getD_none, Option.getD_some, Option.isSome_none, Option.isSome_some] at e1 e2 e3 e4 e5 e6)
                      refine ⟨fun p hp => (by cases hp), ?_⟩
                      unfold pl
                      simp only [pickL, List.getD_cons_zero, List.getD_cons_succ]
                      go_wp2_with (refine wpList_store_abs rfl 113 _ _ rfl w.heap.size _ (chCells id (some u) (some v)) rfl rfl HR.out info_change rfl (chCells_one id (some u) (some v)) ?_; intro W2 hW2 hU; have C3 := HCc.out.upd hU (by omega); have e1 := C3.cell (i := 1) rfl; have e2 := C3.cell (i := 2) rfl; have e3 := C3.cell (i := 3) rfl; have e4 := C3.cell (i := 4) rfl; have e5 := C3.cell (i := 5) rfl; have e6 := C3.cell (i := 6) rfl; simp only [vOf, Option.getD_none, Option.getD_some, Option.isSome_none, Option.isSome_some] at e1 e2 e3 e4 e5 e6)
                      refine ⟨fun p hp => (by cases hp), ?_⟩
                      unfold pl
                      refine ⟨rfl, trivial, ?_⟩
                      go_wp2
                      go_meet
                      case rel => exact ⟨by rw [HD.out], HG.out.trans (hU.below (Nat.le_refl _)), hW2⟩
                  · simp only [pickL, List.getD_cons_zero, List.getD_cons_succ]
                    go_wp2_with (refine wpList_store_abs rfl 113 _ _ rfl w.heap.size _ (chCells id (some u) (some v)) rfl rfl HR.out info_change rfl (chCells_one id (some u) (some v)) ?_; intro W2 hW2 hU; have C3 := HCc.out.upd hU (by omega); have e1 := C3.cell (i := 1) rfl; have e2 := C3.cell (i := 2) rfl; have e3 := C3.cell (i := 3) rfl; have e4 := C3.cell (i := 4) rfl; have e5 := C3.cell (i := 5) rfl; have e6 := C3.cell (i := 6) rfl; simp only [vOf, Option.getD_none, Option.getD_some, Option.isSome_none, Option.isSome_some] at e1 e2 e3 e4 e5 e6)
                    refine ⟨fun p hp => (by cases hp), ?_⟩
                    unfold pl
                    simp only [pickL, List.getD_cons_zero, List.getD_cons_succ]
                    go_wp2_with (refine wpList_store_abs rfl 113 _ _ rfl w.heap.size _ (chCells id (some u) (some v)) rfl rfl HR.out info_change rfl (chCells_one id (some u) (some v)) ?_; intro W2 hW2 hU; have C3 := HCc.out.upd hU (by omega); have e1 := C3.cell (i := 1) rfl; have e2 := C3.cell (i := 2) rfl; have e3 := C3.cell (i := 3) rfl; have e4 := C3.cell (i := 4) rfl; have e5 := C3.cell (i := 5) rfl; have e6 := C3.cell (i := 6) rfl; simp only [vOf, Option.getD_none, Option.getD_some, Option.isSome_none, Option.isSome_some] at e1 e2 e3 e4 e5 e6)
                    refine ⟨fun p hp => (by cases hp), ?_⟩
                    unfold pl
                    refine ⟨rfl, trivial, ?_⟩
                    go_wp2
                    go_meet
                    case rel => exact ⟨by rw [HD.out], HG.out.trans (hU.below (Nat.le_refl _)), hW2⟩
      case rest =>
        obtain ⟨rfl, g3, r3⟩ := hcut
        have c0 := r3.cell (i := 0) rfl
        have c1 := r3.cell (i := 1) rfl
        have c2' := r3.cell (i := 2) rfl
        have c3 := r3.cell (i := 3) rfl
        have c4 := r3.cell (i := 4) rfl
        have c5 := r3.cell (i := 5) rfl
        have c6 := r3.cell (i := 6) rfl
        have G3 := Lib.hid g3
        clear g3 r3 g2 r2 c2
        go_wp2
        refine bodyPost_ret (v := .tuple #[.agg (chCells id X Y).toArray, .bool (decide (X ≠ Y))]) (by simp [results, Try.results80, go_sem, c0, c1, c2', c3, c4, c5, c6, chCells]) rfl ?_
        exact ⟨by rw [HXX.out, HYY.out], G3.out⟩
end Go.Proofs.Ytmhhejpokgdjoaa
