/- A play's step where the version isn't there. -/
import Derived.Test.YtihmhledogppmaaDoorQa
namespace Go.Proofs.YtihmhledogppmaaDoor
open Go Go.RowKit
set_option linter.unusedVariables false
set_option linter.unusedSimpArgs false

set_option maxRecDepth 100000 in
set_option maxHeartbeats 1600000 in
theorem step_neg (B P : Nat) (S : List Nat) (vs : List Ver) (a : Int) (o : OpS) (w : World) (h : PlayS B S w P vs a) (hm : o.m < 0) :
    Calls Tryd.prog 29 #[.pointer (some ⟨P, 0, none⟩), .agg (opS o).toArray, .int .i64 a] w fun e w' => e = .returned (.bool true) ∧ StepQ B P w vs a w' := by
  obtain ⟨kd, om, n, id, v⟩ := o
  simp only at hm
  have hba : Below w.heap.size w (w.alloc (.cells (opS ⟨kd, om, n, id, v⟩).toArray 74)) := (Below.refl _ _).alloc (Nat.le_refl _) _
  have hop := Holds.alloc w (opS ⟨kd, om, n, id, v⟩) 74
  have H0 := Lib.hid h
  have o1 := hop.cell (i := 1) rfl
  have HBA := Lib.hid hba.drew
  clear h hop hba
  have d0 : decide (om < 0) = true := by rw [decide_eq_true_eq]; exact hm
  go_enter Tryd.func29, Tryd.ntmps29
  go_wp2
  refine rgn [0, 1, 2, 3, 4, 5, 6, 7, 8, 9, 10, 11, 12] [2, 10, 11] (by kernel_rfl) ?_
  simp only [pickL, List.getD_cons_zero, List.getD_cons_succ]
  go_wp2
  refine ⟨by first | rfl | kernel_rfl | decide +kernel | (simp [chkD, Region.wanted, yielded, dyn, scalarV]), ?_⟩
  go_wp2
  go_returns
  exact ⟨rfl, stepQ_same H0.out HBA.out⟩
set_option maxRecDepth 100000 in
set_option maxHeartbeats 1600000 in
theorem step_high (B P : Nat) (S : List Nat) (vs : List Ver) (a : Int) (o : OpS) (w : World) (h : PlayS B S w P vs a) (j : Nat) (hj : o.m = (j : Int)) (hjl : vs.length ≤ j) :
    Calls Tryd.prog 29 #[.pointer (some ⟨P, 0, none⟩), .agg (opS o).toArray, .int .i64 a] w fun e w' => e = .returned (.bool true) ∧ StepQ B P w vs a w' := by
  obtain ⟨kd, om, n, id, v⟩ := o
  simp only at hj
  subst hj
  have hba : Below w.heap.size w (w.alloc (.cells (opS ⟨kd, j, n, id, v⟩).toArray 74)) := (Below.refl _ _).alloc (Nat.le_refl _) _
  have hop := Holds.alloc w (opS ⟨kd, j, n, id, v⟩) 74
  have H0 := Lib.hid h
  obtain ⟨g, q, gc, qc, c0, c1, hP, hg, hq, hv⟩ := (h.ext hba).cells
  have o1 := hop.cell (i := 1) rfl
  have HBA := Lib.hid hba.drew
  clear h hop hba hv
  have d0 : decide ((j : Int) < 0) = false := by rw [decide_eq_false_iff_not]; omega
  have d1 : decide (vs.length ≤ j) = true := by rw [decide_eq_true_eq]; exact hjl
  go_enter Tryd.func29, Tryd.ntmps29
  go_wp2
  refine rgn [0, 1, 2, 3, 4, 5, 6, 7, 8, 9, 10, 11, 12] [2, 10, 11] (by kernel_rfl) ?_
  simp only [pickL, List.getD_cons_zero, List.getD_cons_succ]
  go_wp2
  refine ⟨by first | rfl | kernel_rfl | decide +kernel | (simp [chkD, Region.wanted, yielded, dyn, scalarV]), ?_⟩
  go_wp2
  go_returns
  exact ⟨rfl, stepQ_same H0.out HBA.out⟩
/-- What a step reads of its first version, before it looks at the second. -/
theorem kinds_no {k : Int} (h : k ≠ 1 ∧ k ≠ 2 ∧ k ≠ 3 ∧ k ≠ 4 ∧ k ≠ 5 ∧ k ≠ 6) : (k == 1) = false ∧ (k == 2) = false ∧ (k == 3) = false ∧ (k == 4) = false ∧ (k == 5) = false ∧ (k == 6) = false := by
  simpa using h
set_option maxRecDepth 100000 in
set_option maxHeartbeats 1600000 in
theorem step_nneg (B P : Nat) (S : List Nat) (vs : List Ver) (a : Int) (o : OpS) (w : World) (h : PlayS B S w P vs a) (hk : o.kind ≠ 1 ∧ o.kind ≠ 2 ∧ o.kind ≠ 3 ∧ o.kind ≠ 4 ∧ o.kind ≠ 5 ∧ o.kind ≠ 6) (j : Nat) (hj : o.m = (j : Int)) (x : Ver) (hx : vs[j]? = some x) (hn : o.n < 0) :
    Calls Tryd.prog 29 #[.pointer (some ⟨P, 0, none⟩), .agg (opS o).toArray, .int .i64 a] w fun e w' => e = .returned (.bool true) ∧ StepQ B P w vs a w' := by
  obtain ⟨kd, om, n, id, v⟩ := o
  simp only at hj hk hn
  subst hj
  have hjl : j < vs.length := (List.getElem?_eq_some_iff.1 hx).1
  have hba : Below w.heap.size w (w.alloc (.cells (opS ⟨kd, j, n, id, v⟩).toArray 74)) := (Below.refl _ _).alloc (Nat.le_refl _) _
  have hop := Holds.alloc w (opS ⟨kd, j, n, id, v⟩) 74
  have H0 := Lib.hid h
  obtain ⟨g, q, gc, qc, c0, c1, hP, hg, hq, hv⟩ := (h.ext hba).cells
  obtain ⟨v0, v1⟩ := hv j x hx
  have o0 := hop.cell (i := 0) rfl
  have o1 := hop.cell (i := 1) rfl
  have o2 := hop.cell (i := 2) rfl
  have HBA := Lib.hid hba.drew.drew.drew.drew
  obtain ⟨k1, k2, k3, k4, k5, k6⟩ := kinds_no hk
  clear h hop hba hv hx hk
  have d0 : decide ((j : Int) < 0) = false := by rw [decide_eq_false_iff_not]; omega
  have d1 : decide (vs.length ≤ j) = false := by rw [decide_eq_false_iff_not]; omega
  have d2 : decide (n < 0) = true := by rw [decide_eq_true_eq]; exact hn
  go_enter Tryd.func29, Tryd.ntmps29
  go_wp2
  refine rgn [0, 1, 2, 3, 4, 5, 6, 7, 8, 9, 10, 11, 12] [2, 10, 11] (by kernel_rfl) ?_
  simp only [pickL, List.getD_cons_zero, List.getD_cons_succ]
  go_wp2
  refine ⟨by first | rfl | kernel_rfl | decide +kernel | (simp [chkD, Region.wanted, yielded, dyn, scalarV]), ?_⟩
  go_wp2
  refine rgn [0, 1, 2, 3, 4, 5, 6, 7, 8] [] (by kernel_rfl) ?_
  simp only [pickL, List.getD_cons_zero, List.getD_cons_succ]
  go_wp2
  refine ⟨rfl, ?_⟩
  go_wp2
  refine rgn [0, 1, 2, 3, 4, 5, 6, 7, 8] [] (by kernel_rfl) ?_
  simp only [pickL, List.getD_cons_zero, List.getD_cons_succ]
  go_wp2
  refine ⟨rfl, ?_⟩
  go_wp2
  refine rgn [0, 1, 2, 3, 4, 5, 6, 7, 8, 9, 10, 11, 12] [2, 10, 11] (by kernel_rfl) ?_
  simp only [pickL, List.getD_cons_zero, List.getD_cons_succ]
  go_wp2
  refine ⟨by first | rfl | kernel_rfl | decide +kernel | (simp [chkD, Region.wanted, yielded, dyn, scalarV]), ?_⟩
  go_wp2
  go_returns
  exact ⟨rfl, stepQ_same H0.out HBA.out⟩
set_option maxRecDepth 100000 in
set_option maxHeartbeats 1600000 in
theorem step_nhigh (B P : Nat) (S : List Nat) (vs : List Ver) (a : Int) (o : OpS) (w : World) (h : PlayS B S w P vs a) (hk : o.kind ≠ 1 ∧ o.kind ≠ 2 ∧ o.kind ≠ 3 ∧ o.kind ≠ 4 ∧ o.kind ≠ 5 ∧ o.kind ≠ 6) (j : Nat) (hj : o.m = (j : Int)) (x : Ver) (hx : vs[j]? = some x) (i : Nat) (hi : o.n = (i : Int)) (hil : vs.length ≤ i) :
    Calls Tryd.prog 29 #[.pointer (some ⟨P, 0, none⟩), .agg (opS o).toArray, .int .i64 a] w fun e w' => e = .returned (.bool true) ∧ StepQ B P w vs a w' := by
  obtain ⟨kd, om, n, id, v⟩ := o
  simp only at hj hk hi
  subst hj hi
  have hjl : j < vs.length := (List.getElem?_eq_some_iff.1 hx).1
  have hba : Below w.heap.size w (w.alloc (.cells (opS ⟨kd, j, i, id, v⟩).toArray 74)) := (Below.refl _ _).alloc (Nat.le_refl _) _
  have hop := Holds.alloc w (opS ⟨kd, j, i, id, v⟩) 74
  have H0 := Lib.hid h
  obtain ⟨g, q, gc, qc, c0, c1, hP, hg, hq, hv⟩ := (h.ext hba).cells
  obtain ⟨v0, v1⟩ := hv j x hx
  have o0 := hop.cell (i := 0) rfl
  have o1 := hop.cell (i := 1) rfl
  have o2 := hop.cell (i := 2) rfl
  have HBA := Lib.hid hba.drew.drew.drew.drew
  obtain ⟨k1, k2, k3, k4, k5, k6⟩ := kinds_no hk
  clear h hop hba hv hx hk
  have d0 : decide ((j : Int) < 0) = false := by rw [decide_eq_false_iff_not]; omega
  have d1 : decide (vs.length ≤ j) = false := by rw [decide_eq_false_iff_not]; omega
  have d2 : decide ((i : Int) < 0) = false := by rw [decide_eq_false_iff_not]; omega
  have d3 : decide (vs.length ≤ i) = true := by rw [decide_eq_true_eq]; exact hil
  go_enter Tryd.func29, Tryd.ntmps29
  go_wp2
  refine rgn [0, 1, 2, 3, 4, 5, 6, 7, 8, 9, 10, 11, 12] [2, 10, 11] (by kernel_rfl) ?_
  simp only [pickL, List.getD_cons_zero, List.getD_cons_succ]
  go_wp2
  refine ⟨by first | rfl | kernel_rfl | decide +kernel | (simp [chkD, Region.wanted, yielded, dyn, scalarV]), ?_⟩
  go_wp2
  refine rgn [0, 1, 2, 3, 4, 5, 6, 7, 8] [] (by kernel_rfl) ?_
  simp only [pickL, List.getD_cons_zero, List.getD_cons_succ]
  go_wp2
  refine ⟨rfl, ?_⟩
  go_wp2
  refine rgn [0, 1, 2, 3, 4, 5, 6, 7, 8] [] (by kernel_rfl) ?_
  simp only [pickL, List.getD_cons_zero, List.getD_cons_succ]
  go_wp2
  refine ⟨rfl, ?_⟩
  go_wp2
  refine rgn [0, 1, 2, 3, 4, 5, 6, 7, 8, 9, 10, 11, 12] [2, 10, 11] (by kernel_rfl) ?_
  simp only [pickL, List.getD_cons_zero, List.getD_cons_succ]
  go_wp2
  refine ⟨by first | rfl | kernel_rfl | decide +kernel | (simp [chkD, Region.wanted, yielded, dyn, scalarV]), ?_⟩
  go_wp2
  go_returns
  exact ⟨rfl, stepQ_same H0.out HBA.out⟩
set_option maxRecDepth 100000 in
set_option maxHeartbeats 1600000 in
theorem step_idle (B P : Nat) (S : List Nat) (vs : List Ver) (a : Int) (o : OpS) (w : World) (h : PlayS B S w P vs a) (hk : o.kind ≠ 1 ∧ o.kind ≠ 2 ∧ o.kind ≠ 3 ∧ o.kind ≠ 4 ∧ o.kind ≠ 5 ∧ o.kind ≠ 6) (hk' : o.kind ≠ 7 ∧ o.kind ≠ 8 ∧ o.kind ≠ 9) (j : Nat) (hj : o.m = (j : Int)) (x : Ver) (hx : vs[j]? = some x) (i : Nat) (hi : o.n = (i : Int)) (y : Ver) (hy : vs[i]? = some y) :
    Calls Tryd.prog 29 #[.pointer (some ⟨P, 0, none⟩), .agg (opS o).toArray, .int .i64 a] w fun e w' => e = .returned (.bool true) ∧ StepQ B P w vs a w' := by
  obtain ⟨kd, om, n, id, v⟩ := o
  simp only at hj hk hi hk'
  subst hj hi
  have hjl : j < vs.length := (List.getElem?_eq_some_iff.1 hx).1
  have hil : i < vs.length := (List.getElem?_eq_some_iff.1 hy).1
  have hba : Below w.heap.size w (w.alloc (.cells (opS ⟨kd, j, i, id, v⟩).toArray 74)) := (Below.refl _ _).alloc (Nat.le_refl _) _
  have hop := Holds.alloc w (opS ⟨kd, j, i, id, v⟩) 74
  have H0 := Lib.hid h
  obtain ⟨g, q, gc, qc, c0, c1, hP, hg, hq, hv⟩ := (h.ext hba).cells
  obtain ⟨v0, v1⟩ := hv j x hx
  obtain ⟨u0, u1⟩ := hv i y hy
  have o0 := hop.cell (i := 0) rfl
  have o1 := hop.cell (i := 1) rfl
  have o2 := hop.cell (i := 2) rfl
  have HBA := Lib.hid hba.drew.drew.drew.drew.drew.drew
  obtain ⟨k1, k2, k3, k4, k5, k6⟩ := kinds_no hk
  obtain ⟨k7, k8, k9⟩ : (kd == 7) = false ∧ (kd == 8) = false ∧ (kd == 9) = false := by simpa using hk'
  clear h hop hba hv hx hk hk' hy
  have d0 : decide ((j : Int) < 0) = false := by rw [decide_eq_false_iff_not]; omega
  have d1 : decide (vs.length ≤ j) = false := by rw [decide_eq_false_iff_not]; omega
  have d2 : decide ((i : Int) < 0) = false := by rw [decide_eq_false_iff_not]; omega
  have d3 : decide (vs.length ≤ i) = false := by rw [decide_eq_false_iff_not]; omega
  go_enter Tryd.func29, Tryd.ntmps29
  go_wp2
  refine rgn [0, 1, 2, 3, 4, 5, 6, 7, 8, 9, 10, 11, 12] [2, 10, 11] (by kernel_rfl) ?_
  simp only [pickL, List.getD_cons_zero, List.getD_cons_succ]
  go_wp2
  refine ⟨by first | rfl | kernel_rfl | decide +kernel | (simp [chkD, Region.wanted, yielded, dyn, scalarV]), ?_⟩
  go_wp2
  refine rgn [0, 1, 2, 3, 4, 5, 6, 7, 8] [] (by kernel_rfl) ?_
  simp only [pickL, List.getD_cons_zero, List.getD_cons_succ]
  go_wp2
  refine ⟨rfl, ?_⟩
  go_wp2
  refine rgn [0, 1, 2, 3, 4, 5, 6, 7, 8] [] (by kernel_rfl) ?_
  simp only [pickL, List.getD_cons_zero, List.getD_cons_succ]
  go_wp2
  refine ⟨rfl, ?_⟩
  go_wp2
  refine rgn [0, 1, 2, 3, 4, 5, 6, 7, 8, 9, 10, 11, 12] [2, 10, 11] (by kernel_rfl) ?_
  simp only [pickL, List.getD_cons_zero, List.getD_cons_succ]
  go_wp2
  refine ⟨by first | rfl | kernel_rfl | decide +kernel | (simp [chkD, Region.wanted, yielded, dyn, scalarV]), ?_⟩
  go_wp2
  refine rgn [0, 1, 2, 3, 4, 5, 6, 7, 8] [] (by kernel_rfl) ?_
  simp only [pickL, List.getD_cons_zero, List.getD_cons_succ]
  go_wp2
  refine ⟨rfl, ?_⟩
  go_wp2
  refine rgn [0, 1, 2, 3, 4, 5, 6, 7, 8] [] (by kernel_rfl) ?_
  simp only [pickL, List.getD_cons_zero, List.getD_cons_succ]
  go_wp2
  refine ⟨rfl, ?_⟩
  go_wp2
  go_returns
  exact ⟨rfl, stepQ_same H0.out HBA.out⟩
end Go.Proofs.YtihmhledogppmaaDoor
