/- The walk of a play's step: the kind 3. Printed by gen/mkQ.py. · The walk of a play's step: the kind 7. Printed by gen/mkQ.py. · The walk of a play's step: the kind 8. Printed by gen/mkQ.py. · The walk of a play's step: the kind 9. Printed by gen/mkQ.py. -/
import Derived.Test.YtihmhledogppmaaDoorQa
namespace Go.Proofs.YtihmhledogppmaaDoor
open Go Go.RowKit
set_option linter.unusedVariables false
set_option linter.unusedSimpArgs false

set_option maxRecDepth 100000 in
set_option maxHeartbeats 1600000 in
theorem step_3 (B P : Nat) (S : List Nat) (vs : List Ver) (a : Int) (o : OpS) (w : World) (h : PlayS B S w P vs a) (hk : o.kind = 3) (j : Nat) (hj : o.m = (j : Int)) (x : Ver) (hx : vs[j]? = some x) (hid : o.id < 4294967296) :
    Calls Tryd.prog 29 #[.pointer (some ⟨P, 0, none⟩), .agg (opS o).toArray, .int .i64 a] w fun e w' => e = .returned (.bool true) ∧ StepQ B P w vs a w' := by
  obtain ⟨kd, om, n, id, v⟩ := o
  simp only at hk hj hid
  subst hk hj
  have hjl : j < vs.length := (List.getElem?_eq_some_iff.1 hx).1
  have hlen := h.len
  have hba : Below w.heap.size w (w.alloc (.cells (opS ⟨3, j, n, id, v⟩).toArray 74)) := (Below.refl _ _).alloc (Nat.le_refl _) _
  have hop := Holds.alloc w (opS ⟨3, j, n, id, v⟩) 74
  have H0 := Lib.hid h
  obtain ⟨g, q, gc, qc, c0, c1, hP, hg, hq, hv⟩ := (h.ext hba).cells
  obtain ⟨v0, v1⟩ := hv j x hx
  have o0 := hop.cell (i := 0) rfl
  have o1 := hop.cell (i := 1) rfl
  have o2 := hop.cell (i := 2) rfl
  have o3 := hop.cell (i := 3) rfl
  have H3 := Lib.hid (h.ext hba.drew.drew.drew)
  have OK3 := Lib.hid (H3.out.vers.ok x (List.mem_of_getElem? hx))
  have HBA := Lib.hid hba.drew.drew.drew
  have HOP : Hid (Holds (w.alloc (.cells (opS ⟨3, j, n, id, v⟩).toArray 74)).drew.drew.drew w.heap.size (opS ⟨3, j, n, id, v⟩)) := Lib.hid hop
  have HXL := Lib.hid OK3.out.len
  have HS := H3.out.play
  obtain ⟨gv0, wv0, hps⟩ := HS
  have HLT := Lib.hid hps.lt
  have HXM := Lib.hid (List.mem_of_getElem? hx)
  clear h hop hba hv hx hps
  have d0 : decide ((j : Int) < 0) = false := by rw [decide_eq_false_iff_not]; omega
  have d1 : decide (vs.length ≤ j) = false := by rw [decide_eq_false_iff_not]; omega
  go_enter Tryd.func29, Tryd.ntmps29
  go_wp2
  refine rgn [0, 1, 2, 3, 4, 5, 6, 7, 8, 9, 10, 11, 12] [2, 10, 11] (by kernel_rfl) ?_
  simp only [pickL, List.getD_cons_zero, List.getD_cons_succ]
  go_wp2
  refine ⟨by first | rfl | kernel_rfl | decide +kernel | (simp [chkD, Region.wanted, yielded, dyn, scalarV]), ?_⟩
  go_wp2
  refine rgn [0, 1, 2, 3, 4, 5, 6, 7, 8] [] (by kernel_rfl) ?_
  simp only [pickL, List.getD_cons_zero, List.getD_cons_succ]
  go_wp2
  refine ⟨rfl, ?_⟩
  go_wp2
  refine rgn [0, 1, 2, 3, 4, 5, 6, 7, 8] [] (by kernel_rfl) ?_
  simp only [pickL, List.getD_cons_zero, List.getD_cons_succ]
  go_wp2
  refine ⟨rfl, ?_⟩
  go_wp2_with fail
  refine (get_any x.b _ id x.t _ OK3.out.map.unmask.map.map OK3.out.map.unmask.map.tree hid).mono ?_
  rintro e w1 ⟨rfl, hb1⟩
  have hgg : x.t.get id = getR x.l id := by rw [getR_look OK3.out.srt, ← OK3.out.ents, look_ents x.t id hid]
  rw [hgg]
  have OK4 := Lib.hid (OK3.out.ext hb1 HLT.out)
  have o4 := (HOP.out.ext hb1).cell (i := 3) rfl
  have B1 := Lib.hid (HBA.out.trans (hb1.mono HBA.out.size))
  have hlt1 : w.heap.size < w1.heap.size := (HOP.out.ext hb1).lt
  have hsz1 := hb1.size
  clear hb1 o0 o1 o2 o3 c0 c1 v0 v1
  generalize hgq : getR x.l id = r
  have HGQ := Lib.hid hgq
  clear hgq hgg
  have hal : Below w1.heap.size w1 (w1.alloc (.cells #[.int .i64 (gv r).k, .int .i64 (gv r).n] 32)) := (Below.refl _ _).alloc (Nat.le_refl _) _
  have OK5 := Lib.hid (OK4.out.ext hal (fun k hk => Nat.lt_of_lt_of_le (HLT.out k hk) hsz1))
  have VA := Lib.hid (Holds.alloc w1 [.int .i64 (gv r).k, .int .i64 (gv r).n] 32)
  have HAL := Lib.hid hal
  have HL := Lib.hid HXL.out
  clear hal
  go_wp2_with fail
  refine (rget_any x.c id x.l _ OK5.out.ref.unmask (by have := HL.out; omega)).mono ?_
  rintro e w2 ⟨rfl, hb2⟩
  rw [HGQ.out]
  have VA2 := (VA.out.ext hb2).ext ((Below.refl w2.heap.size w2).alloc (Nat.le_refl _) (.cells #[.int .i64 (gv r).k, .int .i64 (gv r).n] 32))
  have VB2 := Holds.alloc w2 [.int .i64 (gv r).k, .int .i64 (gv r).n] 32
  have B3 := Lib.hid (B1.out.trans ((HAL.out.trans (hb2.mono HAL.out.size)).mono B1.out.size))
  have hsz2 := hb2.size
  have a0 := VA2.cell (i := 0) rfl
  have a1 := VA2.cell (i := 1) rfl
  have e0 := VB2.cell (i := 0) rfl
  have e1 := VB2.cell (i := 1) rfl
  clear hb2 VA2 VB2 o4
  go_wp2_with fail
  refine (sameValue_any (gv r) (gv r) _).mono ?_
  rintro e w3 ⟨rfl, hb3⟩
  have B4 := Lib.hid (B3.out.trans ((((Below.refl w2.heap.size w2).alloc (Nat.le_refl _) _).trans (hb3.mono (by simp))).mono B3.out.size))
  clear hb3
  rw [decide_eq_true (rfl : gv r = gv r)]
  go_wp2
  go_returns
  exact ⟨by simp, stepQ_same H0.out B4.out⟩
end Go.Proofs.YtihmhledogppmaaDoor
namespace Go.Proofs.YtihmhledogppmaaDoor
open Go Go.RowKit
set_option linter.unusedVariables false
set_option linter.unusedSimpArgs false

theorem difL_len' : ∀ (n : Nat) (a b : List (Nat × V)), a.length + b.length ≤ n → (difL a b).length ≤ a.length + b.length
  | n, [], [], _ => by simp [difL]
  | 0, x :: a, b, hn => by simp at hn
  | 0, [], y :: b, hn => by simp at hn
  | n + 1, x :: a, [], hn => by
    have := difL_len' n a [] (by simp at hn ⊢; omega)
    rw [show difL (x :: a) [] = (x.1, some x.2, none) :: difL a [] by simp [difL]]
    simp at this ⊢
    omega
  | n + 1, [], y :: b, hn => by
    have := difL_len' n [] b (by simp at hn ⊢; omega)
    rw [show difL [] (y :: b) = (y.1, none, some y.2) :: difL [] b by simp [difL]]
    simp at this ⊢
    omega
  | n + 1, x :: a, y :: b, hn => by
    have h1 := difL_len' n a (y :: b) (by simp at hn ⊢; omega)
    have h2 := difL_len' n (x :: a) b (by simp at hn ⊢; omega)
    have h3 := difL_len' n a b (by simp at hn ⊢; omega)
    rw [difL]
    simp only [List.length_cons] at h1 h2 h3 ⊢
    split
    · simp only [List.length_cons]; omega
    · split
      · simp only [List.length_cons]; omega
      · split
        · omega
        · simp only [List.length_cons]; omega
theorem difL_len (a b : List (Nat × V)) : (difL a b).length ≤ a.length + b.length := difL_len' _ a b (Nat.le_refl _)
set_option maxRecDepth 100000 in
set_option maxHeartbeats 1600000 in
theorem step_7 (B P : Nat) (S : List Nat) (vs : List Ver) (a : Int) (o : OpS) (w : World) (h : PlayS B S w P vs a) (hk : o.kind = 7) (j : Nat) (hj : o.m = (j : Int)) (x : Ver) (hx : vs[j]? = some x) (hid : o.id < 4294967296) (i : Nat) (hi : o.n = (i : Int)) (y : Ver) (hy : vs[i]? = some y) :
    Calls Tryd.prog 29 #[.pointer (some ⟨P, 0, none⟩), .agg (opS o).toArray, .int .i64 a] w fun e w' => e = .returned (.bool true) ∧ StepQ B P w vs a w' := by
  obtain ⟨kd, om, n, id, v⟩ := o
  simp only at hk hj hid hi
  subst hk hj hi
  have hjl : j < vs.length := (List.getElem?_eq_some_iff.1 hx).1
  have hil : i < vs.length := (List.getElem?_eq_some_iff.1 hy).1
  have hlen := h.len
  have hba : Below w.heap.size w (w.alloc (.cells (opS ⟨7, j, i, id, v⟩).toArray 74)) := (Below.refl _ _).alloc (Nat.le_refl _) _
  have hop := Holds.alloc w (opS ⟨7, j, i, id, v⟩) 74
  have H0 := Lib.hid h
  obtain ⟨g, q, gc, qc, c0, c1, hP, hg, hq, hv⟩ := (h.ext hba).cells
  obtain ⟨v0, v1⟩ := hv j x hx
  obtain ⟨u0, u1⟩ := hv i y hy
  have o0 := hop.cell (i := 0) rfl
  have o1 := hop.cell (i := 1) rfl
  have o2 := hop.cell (i := 2) rfl
  have o3 := hop.cell (i := 3) rfl
  have H3 := Lib.hid (h.ext hba.drew.drew.drew.drew.drew.drew)
  have OK3 := Lib.hid (H3.out.vers.ok x (List.mem_of_getElem? hx))
  have OY3 := Lib.hid (H3.out.vers.ok y (List.mem_of_getElem? hy))
  have AG := Lib.hid (H3.out.vers.agree x (List.mem_of_getElem? hx) y (List.mem_of_getElem? hy))
  have HBA := Lib.hid hba.drew.drew.drew.drew.drew.drew
  have HOP : Hid (Holds (w.alloc (.cells (opS ⟨7, j, i, id, v⟩).toArray 74)).drew.drew.drew.drew.drew.drew w.heap.size (opS ⟨7, j, i, id, v⟩)) := Lib.hid hop
  have HXL := Lib.hid OK3.out.len
  have HYL := Lib.hid OY3.out.len
  have HS := H3.out.play
  obtain ⟨gv0, wv0, hps⟩ := HS
  have HLT := Lib.hid hps.lt
  have HXM := Lib.hid (List.mem_of_getElem? hx)
  clear h hop hba hv hx hps hy
  have d0 : decide ((j : Int) < 0) = false := by rw [decide_eq_false_iff_not]; omega
  have d1 : decide (vs.length ≤ j) = false := by rw [decide_eq_false_iff_not]; omega
  have d2 : decide ((i : Int) < 0) = false := by rw [decide_eq_false_iff_not]; omega
  have d3 : decide (vs.length ≤ i) = false := by rw [decide_eq_false_iff_not]; omega
  go_enter Tryd.func29, Tryd.ntmps29
  go_wp2
  refine rgn [0, 1, 2, 3, 4, 5, 6, 7, 8, 9, 10, 11, 12] [2, 10, 11] (by kernel_rfl) ?_
  simp only [pickL, List.getD_cons_zero, List.getD_cons_succ]
  go_wp2
  refine ⟨by first | rfl | kernel_rfl | decide +kernel | (simp [chkD, Region.wanted, yielded, dyn, scalarV]), ?_⟩
  go_wp2
  refine rgn [0, 1, 2, 3, 4, 5, 6, 7, 8] [] (by kernel_rfl) ?_
  simp only [pickL, List.getD_cons_zero, List.getD_cons_succ]
  go_wp2
  refine ⟨rfl, ?_⟩
  go_wp2
  refine rgn [0, 1, 2, 3, 4, 5, 6, 7, 8] [] (by kernel_rfl) ?_
  simp only [pickL, List.getD_cons_zero, List.getD_cons_succ]
  go_wp2
  refine ⟨rfl, ?_⟩
  go_wp2
  refine rgn [0, 1, 2, 3, 4, 5, 6, 7, 8, 9, 10, 11, 12] [2, 10, 11] (by kernel_rfl) ?_
  simp only [pickL, List.getD_cons_zero, List.getD_cons_succ]
  go_wp2
  refine ⟨by first | rfl | kernel_rfl | decide +kernel | (simp [chkD, Region.wanted, yielded, dyn, scalarV]), ?_⟩
  go_wp2
  refine rgn [0, 1, 2, 3, 4, 5, 6, 7, 8] [] (by kernel_rfl) ?_
  simp only [pickL, List.getD_cons_zero, List.getD_cons_succ]
  go_wp2
  refine ⟨rfl, ?_⟩
  go_wp2
  refine rgn [0, 1, 2, 3, 4, 5, 6, 7, 8] [] (by kernel_rfl) ?_
  simp only [pickL, List.getD_cons_zero, List.getD_cons_succ]
  go_wp2
  refine ⟨rfl, ?_⟩
  go_wp2_with fail
  refine (rlen_any x.c x.l _ OK3.out.ref.unmask).mono ?_
  rintro e w1 ⟨rfl, rfl⟩
  go_wp2_with fail
  refine (rlen_any y.c y.l _ OY3.out.ref.unmask).mono ?_
  rintro e w1 ⟨rfl, rfl⟩
  have hlx := HXL.out
  have hly := HYL.out
  have HD : Hid (difs x.t y.t 0 = difL (x.l.map eR) (y.l.map eR)) := Lib.hid (by rw [difs_difL, OK3.out.ents, OY3.out.ents]; rfl)
  have hdl := difL_len (x.l.map eR) (y.l.map eR)
  rw [← HD.out] at hdl
  simp only [List.length_map] at hdl
  go_wp2_with fail
  refine (differs_gen x.b y.b x.t y.t (-1) _ (by omega) (.inl (by omega)) _ OK3.out.map.unmask OY3.out.map.unmask (by omega)).mono ?_
  rintro e w2 ⟨es, rfl, hO, hb2⟩
  have hcu : cutL (difs x.t y.t 0) (-1) = difL (x.l.map eR) (y.l.map eR) := by rw [HD.out]; simp [cutL]
  rw [hcu] at hO
  have HO := Lib.hid (hO.rd encC_len)
  obtain ⟨ea, en, ec, rfl⟩ := hO.shape
  have OK4 := Lib.hid (OK3.out.ext hb2 HLT.out)
  have OY4 := Lib.hid (OY3.out.ext hb2 HLT.out)
  have B2 := Lib.hid (HBA.out.trans (hb2.mono HBA.out.size))
  clear hO hb2 hcu
  go_wp2_with fail
  refine (rdiff_any x.c y.c x.l y.l _ OK4.out.ref.unmask OY4.out.ref.unmask (by omega) (by omega)).mono ?_
  rintro e w3 ⟨ds, rfl, hO3, hb3⟩
  have HO3 := Lib.hid (hO3.rd encD_len)
  obtain ⟨da, dn, dc, rfl⟩ := hO3.shape
  have HO4 := Lib.hid (HO.out.ext hb3)
  have B3 := Lib.hid (B2.out.trans (hb3.mono B2.out.size))
  clear hO3 hb3
  go_wp2_with fail
  rw [HD.out] at hdl
  refine (sameChanges_any _ _ _ _ _ HO4.out HO3.out (by omega) (by omega)).mono ?_
  rintro e w4 ⟨rfl, hb4⟩
  have B4 := Lib.hid (B3.out.trans (hb4.mono B3.out.size))
  clear hb4
  go_wp2
  go_returns
  exact ⟨by simp, stepQ_same H0.out B4.out⟩
end Go.Proofs.YtihmhledogppmaaDoor
namespace Go.Proofs.YtihmhledogppmaaDoor
open Go Go.RowKit
set_option linter.unusedVariables false
set_option linter.unusedSimpArgs false

set_option maxRecDepth 100000 in
set_option maxHeartbeats 1600000 in
theorem step_8 (B P : Nat) (S : List Nat) (vs : List Ver) (a : Int) (o : OpS) (w : World) (h : PlayS B S w P vs a) (hk : o.kind = 8) (j : Nat) (hj : o.m = (j : Int)) (x : Ver) (hx : vs[j]? = some x) (hid : o.id < 4294967296) (i : Nat) (hi : o.n = (i : Int)) (y : Ver) (hy : vs[i]? = some y) :
    Calls Tryd.prog 29 #[.pointer (some ⟨P, 0, none⟩), .agg (opS o).toArray, .int .i64 a] w fun e w' => e = .returned (.bool true) ∧ StepQ B P w vs a w' := by
  obtain ⟨kd, om, n, id, v⟩ := o
  simp only at hk hj hid hi
  subst hk hj hi
  have hjl : j < vs.length := (List.getElem?_eq_some_iff.1 hx).1
  have hil : i < vs.length := (List.getElem?_eq_some_iff.1 hy).1
  have hlen := h.len
  have hba : Below w.heap.size w (w.alloc (.cells (opS ⟨8, j, i, id, v⟩).toArray 74)) := (Below.refl _ _).alloc (Nat.le_refl _) _
  have hop := Holds.alloc w (opS ⟨8, j, i, id, v⟩) 74
  have H0 := Lib.hid h
  obtain ⟨g, q, gc, qc, c0, c1, hP, hg, hq, hv⟩ := (h.ext hba).cells
  obtain ⟨v0, v1⟩ := hv j x hx
  obtain ⟨u0, u1⟩ := hv i y hy
  have o0 := hop.cell (i := 0) rfl
  have o1 := hop.cell (i := 1) rfl
  have o2 := hop.cell (i := 2) rfl
  have o3 := hop.cell (i := 3) rfl
  have H3 := Lib.hid (h.ext hba.drew.drew.drew.drew.drew.drew)
  have OK3 := Lib.hid (H3.out.vers.ok x (List.mem_of_getElem? hx))
  have OY3 := Lib.hid (H3.out.vers.ok y (List.mem_of_getElem? hy))
  have AG := Lib.hid (H3.out.vers.agree x (List.mem_of_getElem? hx) y (List.mem_of_getElem? hy))
  have HBA := Lib.hid hba.drew.drew.drew.drew.drew.drew
  have HOP : Hid (Holds (w.alloc (.cells (opS ⟨8, j, i, id, v⟩).toArray 74)).drew.drew.drew.drew.drew.drew w.heap.size (opS ⟨8, j, i, id, v⟩)) := Lib.hid hop
  have HXL := Lib.hid OK3.out.len
  have HYL := Lib.hid OY3.out.len
  have HS := H3.out.play
  obtain ⟨gv0, wv0, hps⟩ := HS
  have HLT := Lib.hid hps.lt
  have HXM := Lib.hid (List.mem_of_getElem? hx)
  clear h hop hba hv hx hps hy
  have d0 : decide ((j : Int) < 0) = false := by rw [decide_eq_false_iff_not]; omega
  have d1 : decide (vs.length ≤ j) = false := by rw [decide_eq_false_iff_not]; omega
  have d2 : decide ((i : Int) < 0) = false := by rw [decide_eq_false_iff_not]; omega
  have d3 : decide (vs.length ≤ i) = false := by rw [decide_eq_false_iff_not]; omega
  go_enter Tryd.func29, Tryd.ntmps29
  go_wp2
  refine rgn [0, 1, 2, 3, 4, 5, 6, 7, 8, 9, 10, 11, 12] [2, 10, 11] (by kernel_rfl) ?_
  simp only [pickL, List.getD_cons_zero, List.getD_cons_succ]
  go_wp2
  refine ⟨by first | rfl | kernel_rfl | decide +kernel | (simp [chkD, Region.wanted, yielded, dyn, scalarV]), ?_⟩
  go_wp2
  refine rgn [0, 1, 2, 3, 4, 5, 6, 7, 8] [] (by kernel_rfl) ?_
  simp only [pickL, List.getD_cons_zero, List.getD_cons_succ]
  go_wp2
  refine ⟨rfl, ?_⟩
  go_wp2
  refine rgn [0, 1, 2, 3, 4, 5, 6, 7, 8] [] (by kernel_rfl) ?_
  simp only [pickL, List.getD_cons_zero, List.getD_cons_succ]
  go_wp2
  refine ⟨rfl, ?_⟩
  go_wp2
  refine rgn [0, 1, 2, 3, 4, 5, 6, 7, 8, 9, 10, 11, 12] [2, 10, 11] (by kernel_rfl) ?_
  simp only [pickL, List.getD_cons_zero, List.getD_cons_succ]
  go_wp2
  refine ⟨by first | rfl | kernel_rfl | decide +kernel | (simp [chkD, Region.wanted, yielded, dyn, scalarV]), ?_⟩
  go_wp2
  refine rgn [0, 1, 2, 3, 4, 5, 6, 7, 8] [] (by kernel_rfl) ?_
  simp only [pickL, List.getD_cons_zero, List.getD_cons_succ]
  go_wp2
  refine ⟨rfl, ?_⟩
  go_wp2
  refine rgn [0, 1, 2, 3, 4, 5, 6, 7, 8] [] (by kernel_rfl) ?_
  simp only [pickL, List.getD_cons_zero, List.getD_cons_succ]
  go_wp2
  refine ⟨rfl, ?_⟩
  go_wp2_with fail
  refine (shared_any x.b y.b _ _ x.t y.t _ OK3.out.map.unmask.map OY3.out.map.unmask.map).mono ?_
  rintro e w1 ⟨rfl, hb1⟩
  have OK4 := Lib.hid (OK3.out.ext hb1 HLT.out)
  have OY4 := Lib.hid (OY3.out.ext hb1 HLT.out)
  have B2 := Lib.hid (HBA.out.trans (hb1.mono HBA.out.size))
  clear hb1
  have hlx := HXL.out
  have hly := HYL.out
  obtain ⟨e1, e2⟩ := shared_eq OK4.out.map.unmask.map.tree OY4.out.map.unmask.map.tree OK4.out.map.cl OY4.out.map.cl OK4.out.ents OY4.out.ents AG.out
  have e3 : ((y.t.cnt : Nat) : Int) - ((x.t.fr y.t : Nat) : Int) = (((totR x.l y.l y.l.length).1 : Nat) : Int) := by omega
  rw [e3, ← e1]
  clear e1 e2 e3
  go_wp2_with fail
  refine (shared_r x.c y.c x.l y.l _ OK4.out.ref.unmask OY4.out.ref.unmask (by omega) (by omega)).mono ?_
  rintro e w2 ⟨rfl, hb2⟩
  have B3 := Lib.hid (B2.out.trans (hb2.mono B2.out.size))
  clear hb2
  go_wp2
  go_returns
  exact ⟨by simp, stepQ_same H0.out B3.out⟩
end Go.Proofs.YtihmhledogppmaaDoor
namespace Go.Proofs.YtihmhledogppmaaDoor
open Go Go.RowKit
set_option linter.unusedVariables false
set_option linter.unusedSimpArgs false

set_option maxRecDepth 100000 in
set_option maxHeartbeats 1600000 in
theorem step_9 (B P : Nat) (S : List Nat) (vs : List Ver) (a : Int) (o : OpS) (w : World) (h : PlayS B S w P vs a) (hk : o.kind = 9) (j : Nat) (hj : o.m = (j : Int)) (x : Ver) (hx : vs[j]? = some x) (hid : o.id < 4294967296) (i : Nat) (hi : o.n = (i : Int)) (y : Ver) (hy : vs[i]? = some y) :
    Calls Tryd.prog 29 #[.pointer (some ⟨P, 0, none⟩), .agg (opS o).toArray, .int .i64 a] w fun e w' => e = .returned (.bool true) ∧ StepQ B P w vs a w' := by
  obtain ⟨kd, om, n, id, v⟩ := o
  simp only at hk hj hid hi
  subst hk hj hi
  have hjl : j < vs.length := (List.getElem?_eq_some_iff.1 hx).1
  have hil : i < vs.length := (List.getElem?_eq_some_iff.1 hy).1
  have hlen := h.len
  have hba : Below w.heap.size w (w.alloc (.cells (opS ⟨9, j, i, id, v⟩).toArray 74)) := (Below.refl _ _).alloc (Nat.le_refl _) _
  have hop := Holds.alloc w (opS ⟨9, j, i, id, v⟩) 74
  have H0 := Lib.hid h
  obtain ⟨g, q, gc, qc, c0, c1, hP, hg, hq, hv⟩ := (h.ext hba).cells
  obtain ⟨v0, v1⟩ := hv j x hx
  obtain ⟨u0, u1⟩ := hv i y hy
  have o0 := hop.cell (i := 0) rfl
  have o1 := hop.cell (i := 1) rfl
  have o2 := hop.cell (i := 2) rfl
  have o3 := hop.cell (i := 3) rfl
  have H3 := Lib.hid (h.ext hba.drew.drew.drew.drew.drew.drew)
  have OK3 := Lib.hid (H3.out.vers.ok x (List.mem_of_getElem? hx))
  have OY3 := Lib.hid (H3.out.vers.ok y (List.mem_of_getElem? hy))
  have AG := Lib.hid (H3.out.vers.agree x (List.mem_of_getElem? hx) y (List.mem_of_getElem? hy))
  have HBA := Lib.hid hba.drew.drew.drew.drew.drew.drew
  have HOP : Hid (Holds (w.alloc (.cells (opS ⟨9, j, i, id, v⟩).toArray 74)).drew.drew.drew.drew.drew.drew w.heap.size (opS ⟨9, j, i, id, v⟩)) := Lib.hid hop
  have HXL := Lib.hid OK3.out.len
  have HYL := Lib.hid OY3.out.len
  have HS := H3.out.play
  obtain ⟨gv0, wv0, hps⟩ := HS
  have HLT := Lib.hid hps.lt
  have HXM := Lib.hid (List.mem_of_getElem? hx)
  clear h hop hba hv hx hps hy
  have d0 : decide ((j : Int) < 0) = false := by rw [decide_eq_false_iff_not]; omega
  have d1 : decide (vs.length ≤ j) = false := by rw [decide_eq_false_iff_not]; omega
  have d2 : decide ((i : Int) < 0) = false := by rw [decide_eq_false_iff_not]; omega
  have d3 : decide (vs.length ≤ i) = false := by rw [decide_eq_false_iff_not]; omega
  go_enter Tryd.func29, Tryd.ntmps29
  go_wp2
  refine rgn [0, 1, 2, 3, 4, 5, 6, 7, 8, 9, 10, 11, 12] [2, 10, 11] (by kernel_rfl) ?_
  simp only [pickL, List.getD_cons_zero, List.getD_cons_succ]
  go_wp2
  refine ⟨by first | rfl | kernel_rfl | decide +kernel | (simp [chkD, Region.wanted, yielded, dyn, scalarV]), ?_⟩
  go_wp2
  refine rgn [0, 1, 2, 3, 4, 5, 6, 7, 8] [] (by kernel_rfl) ?_
  simp only [pickL, List.getD_cons_zero, List.getD_cons_succ]
  go_wp2
  refine ⟨rfl, ?_⟩
  go_wp2
  refine rgn [0, 1, 2, 3, 4, 5, 6, 7, 8] [] (by kernel_rfl) ?_
  simp only [pickL, List.getD_cons_zero, List.getD_cons_succ]
  go_wp2
  refine ⟨rfl, ?_⟩
  go_wp2
  refine rgn [0, 1, 2, 3, 4, 5, 6, 7, 8, 9, 10, 11, 12] [2, 10, 11] (by kernel_rfl) ?_
  simp only [pickL, List.getD_cons_zero, List.getD_cons_succ]
  go_wp2
  refine ⟨by first | rfl | kernel_rfl | decide +kernel | (simp [chkD, Region.wanted, yielded, dyn, scalarV]), ?_⟩
  go_wp2
  refine rgn [0, 1, 2, 3, 4, 5, 6, 7, 8] [] (by kernel_rfl) ?_
  simp only [pickL, List.getD_cons_zero, List.getD_cons_succ]
  go_wp2
  refine ⟨rfl, ?_⟩
  go_wp2
  refine rgn [0, 1, 2, 3, 4, 5, 6, 7, 8] [] (by kernel_rfl) ?_
  simp only [pickL, List.getD_cons_zero, List.getD_cons_succ]
  go_wp2
  refine ⟨rfl, ?_⟩
  have hlx := HXL.out
  have hly := HYL.out
  have HD : Hid (difs x.t y.t 0 = difL (x.l.map eR) (y.l.map eR)) := Lib.hid (by rw [difs_difL, OK3.out.ents, OY3.out.ents]; rfl)
  have hdl := difL_len (x.l.map eR) (y.l.map eR)
  rw [← HD.out] at hdl
  simp only [List.length_map] at hdl
  go_wp2_with fail
  refine (differs_gen x.b y.b x.t y.t 1 2 (by omega) (.inr (by omega)) _ OK3.out.map.unmask OY3.out.map.unmask (by omega)).mono ?_
  rintro e w2 ⟨es, rfl, hO, hb2⟩
  have hcu : cutL (difs x.t y.t 0) 1 = (difL (x.l.map eR) (y.l.map eR)).take 1 := by rw [HD.out]; simp [cutL]
  rw [hcu] at hO
  rw [HD.out] at hdl
  generalize hdd : difL (x.l.map eR) (y.l.map eR) = dd at hO hdl
  have HDD := Lib.hid hdd
  have HO := Lib.hid (hO.rd encC_len)
  obtain ⟨ea, en, ec, rfl⟩ := hO.shape
  have OK4 := Lib.hid (OK3.out.ext hb2 HLT.out)
  have OY4 := Lib.hid (OY3.out.ext hb2 HLT.out)
  have B2 := Lib.hid (HBA.out.trans (hb2.mono HBA.out.size))
  clear hO hb2 hcu hdd
  go_wp2_with fail
  refine (rdiff_any x.c y.c x.l y.l _ OK4.out.ref.unmask OY4.out.ref.unmask (by omega) (by omega)).mono ?_
  rintro e w3 ⟨ds, rfl, hO3, hb3⟩
  rw [HDD.out] at hO3
  obtain ⟨da, dc, rfl, hdc⟩ := own_len hO3
  have HO3 := Lib.hid (hO3.rd encD_len)
  have HO4 := Lib.hid (HO.out.ext hb3)
  have B3 := Lib.hid (B2.out.trans (hb3.mono B2.out.size))
  clear hO3 hb3
  by_cases h1 : 1 < dd.length
  · have d5 : decide (1 < dd.length) = true := by simpa using h1
    have HT := Lib.hid (rd_take HO3.out 1 (by omega) dc)
    have htl : (dd.take 1).length ≤ 1 := by simp; omega
    go_wp2_with fail
    refine (sameChanges_any _ _ _ _ _ HO4.out HT.out (by omega) (by omega)).mono ?_
    rintro e w4 ⟨rfl, hb4⟩
    have B4 := Lib.hid (B3.out.trans (hb4.mono B3.out.size))
    clear hb4
    go_wp2
    go_returns
    exact ⟨by simp, stepQ_same H0.out B4.out⟩
  · have d5 : decide (1 < dd.length) = false := by simpa using h1
    have HT : Hid (dd.take 1 = dd) := Lib.hid (List.take_of_length_le (by omega))
    have HO5 := Lib.hid HO4.out
    rw [HT.out] at HO5
    go_wp2_with fail
    refine (sameChanges_any _ _ _ _ _ HO5.out HO3.out (by omega) (by omega)).mono ?_
    rintro e w4 ⟨rfl, hb4⟩
    have B4 := Lib.hid (B3.out.trans (hb4.mono B3.out.size))
    clear hb4
    go_wp2
    go_returns
    exact ⟨by simp, stepQ_same H0.out B4.out⟩
end Go.Proofs.YtihmhledogppmaaDoor
