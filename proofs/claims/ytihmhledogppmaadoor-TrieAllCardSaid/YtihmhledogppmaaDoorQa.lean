/- The walk of a play's step: the frame, and the kind 4. -/
import Derived.Test.YtihmhledogppmaaDoorPc
import Derived.Test.YtihmhledogppmaaDoorSf
import Derived.Test.YtihmhledogppmaaDoorSv
namespace Go.Proofs.YtihmhledogppmaaDoor
open Go Go.RowKit
set_option linter.unusedVariables false
set_option linter.unusedSimpArgs false

/-- A step's operation. -/
structure OpS where
  kind : Int
  m : Int
  n : Int
  id : Nat
  v : V
def opS (o : OpS) : List Value := [.int .i64 o.kind, .int .i64 o.m, .int .i64 o.n, .int .u32 o.id, .int .i64 o.v.k, .int .i64 o.v.n]
structure PlayS (B : Nat) (S : List Nat) (w : World) (P : Nat) (vs : List Ver) (at_ : Int) : Prop where
  play : ∃ gv wv, Play B S w P gv wv (vs.map (·.b)) (vs.map (·.c))
  vers : Vers S w vs at_
  len : vs.length ≤ 4398046511103
theorem PlayS.ext {B P : Nat} {S : List Nat} {w W : World} {vs : List Ver} {a : Int} (h : PlayS B S w P vs a) (hb : Below w.heap.size w W) : PlayS B S W P vs a := by
  obtain ⟨⟨gv, wv, hp⟩, h2, h3⟩ := h
  exact ⟨⟨gv, wv, hp.ext hb⟩, h2.ext hb hp.lt, h3⟩
/-- What a step reads of the play: its rows, and a version's maps. -/
theorem PlayS.cells {B P : Nat} {S : List Nat} {w : World} {vs : List Ver} {a : Int} (h : PlayS B S w P vs a) :
    ∃ g q gc qc, w.cell? ⟨P, 0, none⟩ = some (.slice (some ⟨g, 0, none⟩) vs.length gc) ∧ w.cell? ⟨P, 1, none⟩ = some (.slice (some ⟨q, 0, none⟩) vs.length qc) ∧ P < w.heap.size ∧ g < w.heap.size ∧ q < w.heap.size ∧
      ∀ (j : Nat) (x : Ver), vs[j]? = some x → w.cell? ⟨g, j, none⟩ = some (.pointer (some ⟨x.b, 0, none⟩)) ∧ w.cell? ⟨q, j, none⟩ = some (.pointer (some ⟨x.c, 0, none⟩)) := by
  obtain ⟨⟨gv, wv, hp⟩, h2, h3⟩ := h
  obtain ⟨g, hg, hgS, _⟩ := hp.gS
  obtain ⟨q, hq, hqS, _⟩ := hp.wS
  obtain ⟨gc, hgv⟩ := hp.got.is hg
  obtain ⟨qc, hwv⟩ := hp.want.is hq
  refine ⟨g, q, gc, qc, ?_, ?_, hp.cells.lt, hp.lt g hgS, hp.lt q hqS, fun j x hj => ⟨?_, ?_⟩⟩
  · rw [hp.cells.cell (i := 0) rfl, hgv, List.length_map]
  · rw [hp.cells.cell (i := 1) rfl, hwv, List.length_map]
  · exact hp.got.get1 (fun _ => rfl) hg (by rw [List.getElem?_map, hj]; rfl) rfl
  · exact hp.want.get1 (fun _ => rfl) hq (by rw [List.getElem?_map, hj]; rfl) rfl
/-- What a step leaves. -/
def StepQ (B P : Nat) (w : World) (vs : List Ver) (a : Int) (w' : World) : Prop :=
  ∃ S' vs', (∃ gv wv, Play B S' w' P gv wv (vs'.map (·.b)) (vs'.map (·.c))) ∧ Vers S' w' vs' (a + 1) ∧ vs'.length ≤ vs.length + 1 ∧ Below B w w'
theorem stepQ_same {B P : Nat} {S : List Nat} {w w' : World} {vs : List Ver} {a : Int} (h : PlayS B S w P vs a) (hb : Below w.heap.size w w') : StepQ B P w vs a w' := by
  have h' := h.ext hb
  obtain ⟨gv, wv, hp⟩ := h.play
  exact ⟨S, vs, h'.play, h'.vers.later (by omega), by omega, hb.mono hp.lo.2⟩
set_option maxRecDepth 100000 in
theorem step_4 (B P : Nat) (S : List Nat) (vs : List Ver) (a : Int) (o : OpS) (w : World) (h : PlayS B S w P vs a) (hk : o.kind = 4) (j : Nat) (hj : o.m = (j : Int)) (x : Ver) (hx : vs[j]? = some x) :
    Calls Tryd.prog 29 #[.pointer (some ⟨P, 0, none⟩), .agg (opS o).toArray, .int .i64 a] w fun e w' => e = .returned (.bool true) ∧ StepQ B P w vs a w' := by
  obtain ⟨kd, om, n, id, v⟩ := o
  simp only at hk hj
  subst hk hj
  have hjl : j < vs.length := (List.getElem?_eq_some_iff.1 hx).1
  have hlen := h.len
  have hba : Below w.heap.size w (w.alloc (.cells (opS ⟨4, j, n, id, v⟩).toArray 74)) := (Below.refl _ _).alloc (Nat.le_refl _) _
  have hop := Holds.alloc w (opS ⟨4, j, n, id, v⟩) 74
  have H0 := Lib.hid h
  have H1 := Lib.hid (h.ext hba)
  obtain ⟨g, q, gc, qc, c0, c1, hP, hg, hq, hv⟩ := (h.ext hba).cells
  obtain ⟨v0, v1⟩ := hv j x hx
  have o0 := hop.cell (i := 0) rfl
  have o1 := hop.cell (i := 1) rfl
  have o2 := hop.cell (i := 2) rfl
  have o3 := hop.cell (i := 3) rfl
  have HOK := Lib.hid ((h.ext hba.drew.drew.drew).vers.ok x (List.mem_of_getElem? hx))
  have HBA := Lib.hid hba.drew.drew.drew
  clear h hop hba hv hx
  have d0 : decide ((j : Int) < 0) = false := by rw [decide_eq_false_iff_not]; omega
  have d1 : decide (vs.length ≤ j) = false := by rw [decide_eq_false_iff_not]; omega
  go_enter Tryd.func29, Tryd.ntmps29
  go_wp2
  refine rgn [0, 1, 2, 3, 4, 5, 6, 7, 8, 9, 10, 11, 12] [2, 10, 11] (by kernel_rfl) ?_
  simp only [pickL, List.getD_cons_zero, List.getD_cons_succ]
  go_wp2
  refine ⟨by first | rfl | kernel_rfl | decide +kernel | (simp [chkD, Region.wanted, yielded, dyn, scalarV]), ?_⟩
  go_wp2
  refine rgn [0, 1, 2, 3, 4, 5, 6, 7, 8] [] (by kernel_rfl) ?_
  simp only [pickL, List.getD_cons_zero, List.getD_cons_succ]
  go_wp2
  refine ⟨rfl, ?_⟩
  go_wp2
  refine rgn [0, 1, 2, 3, 4, 5, 6, 7, 8] [] (by kernel_rfl) ?_
  simp only [pickL, List.getD_cons_zero, List.getD_cons_succ]
  go_wp2
  refine ⟨rfl, ?_⟩
  go_wp2_with fail
  refine (len_any x.b _ x.t _ HOK.out.map.unmask.map.map).mono ?_
  rintro e w1 ⟨rfl, rfl⟩
  go_wp2_with fail
  refine (rlen_any x.c x.l _ HOK.out.ref.unmask).mono ?_
  rintro e w1 ⟨rfl, rfl⟩
  have hl : (((x.t.ents 0).length : Nat) : Int) = ((x.l.length : Nat) : Int) := by rw [HOK.out.ents, List.length_map]
  rw [hl]
  go_wp2
  go_returns
  exact ⟨by simp, stepQ_same H0.out HBA.out⟩
end Go.Proofs.YtihmhledogppmaaDoor
