/- run over All and From, however long; what the map's From gives, with its room. · The walk of a play's step: the kind 5. Printed by gen/mkQ.py. · The walk of a play's step: the kind 6. Printed by gen/mkQ.py. -/
import Derived.Test.YtihmhledogppmaaDoorQa
namespace Go.Proofs.YtihmhledogppmaaDoor
open Go Go.RowKit
set_option linter.unusedVariables false
set_option linter.unusedSimpArgs false

theorem from_runM (b low : Nat) (t : Tr 8) (n : Nat) (stop most : Int) (w W0 : World) (hl : low < 4294967296) (hW : Below w.heap.size w W0) (hm : MapAt w b t n) (B1 B2 : Nat) (h1 : Holds W0 B1 [.pointer (some ⟨b, 0, none⟩)]) (h2 : Holds W0 B2 [.int .u32 (low : Nat)])
    (hx : ((fromL low (t.ents 0)).length : Int) ≤ most) (hmo : most ≤ 4294967300) :
    Calls Tryd.prog 30 #[fromV B1 B2, .int .i64 stop, .int .i64 most] W0 fun e w' =>
      ∃ es, e = .returned es ∧ Own w' w.heap.size 43 3 encL es (cutL (fromL low (t.ents 0)) stop) ∧ Below w.heap.size w w' := by
  refine (run_any _ _ _ (fromL low (t.ents 0)) (FromD b low t B1 B2) (from_gives b low t B1 B2 hl) stop most W0 ?_ hx hmo).mono ?_
  · intro W hB
    exact FromD.ext ⟨h1, h2, n, hm.ext hW⟩ hB
  · rintro e w' ⟨es, he, hO, hB⟩
    exact ⟨es, he, hO.base (by have := hW.size; omega), hW.trans (hB.mono hW.size)⟩
theorem rfromC (b id : Nat) (l : List RE) (w : World) (h : RefAt w b l) (hl : l.length ≤ 1099511627776) :
    Calls Tryd.prog 46 #[.pointer (some ⟨b, 0, none⟩), .int .u32 (id : Nat)] w fun e w' => ∃ a c, e = .returned (.slice a ((l.map entR).drop (plR l id)).length c) ∧ ((l.map entR).drop (plR l id)).length ≤ c ∧ Rd w' 3 encL (.slice a ((l.map entR).drop (plR l id)).length c) ((l.map entR).drop (plR l id)) ∧ Below w.heap.size w w' := by
  have HR := Lib.hid h
  have hpl := plR_le l id
  have hdl : ((l.map entR).drop (plR l id)).length = l.length - plR l id := by simp
  rw [hdl]
  clear h
  go_enter Tryd.func46, Tryd.ntmps46
  go_wp2_with fail
  refine (place_r b id l w HR.out (by omega)).mono ?_
  rintro e w1 ⟨rfl, hb1⟩
  have R1 := Lib.hid (HR.out.ext hb1)
  have B1 := Lib.hid hb1
  clear hb1 HR
  go_wp2_with fail
  refine (rlist_any b l w1 R1.out hl).mono ?_
  rintro e w2 ⟨es, rfl, hO, hb2⟩
  obtain ⟨a, c, rfl, hf⟩ := own_len hO
  have hd := rd_drop (hO.rd encL_len) (plR l id) (by simp; exact hpl) hf
  rw [List.length_map] at hd hf ⊢
  have B2 := Lib.hid (B1.out.trans (hb2.mono B1.out.size))
  clear hO hb2
  by_cases hc : c = plR l id
  · rw [if_pos hc] at hd
    have HD := Lib.hid hd
    have hlp : l.length = plR l id := by omega
    clear hd
    subst hc
    have h0 : Hid (l.length = plR l id) := Lib.hid hlp
    go_wp2
    go_returns
    have hq := HD.out
    have hz : l.length - plR l id = 0 := by have := h0.out; omega
    rw [h0.out, Nat.sub_self] at hq
    rw [hz]
    exact ⟨a, 0, rfl, Nat.le_refl _, hq, B2.out⟩
  · rw [if_neg hc] at hd
    have HD := Lib.hid hd
    clear hd
    go_wp2
    go_returns
    exact ⟨_, _, rfl, by omega, HD.out, B2.out⟩
end Go.Proofs.YtihmhledogppmaaDoor
namespace Go.Proofs.YtihmhledogppmaaDoor
open Go Go.RowKit
set_option linter.unusedVariables false
set_option linter.unusedSimpArgs false

set_option maxRecDepth 100000 in
set_option maxHeartbeats 1600000 in
theorem step_5 (B P : Nat) (S : List Nat) (vs : List Ver) (a : Int) (o : OpS) (w : World) (h : PlayS B S w P vs a) (hk : o.kind = 5) (j : Nat) (hj : o.m = (j : Int)) (x : Ver) (hx : vs[j]? = some x) (hid : o.id < 4294967296) :
    Calls Tryd.prog 29 #[.pointer (some ⟨P, 0, none⟩), .agg (opS o).toArray, .int .i64 a] w fun e w' => e = .returned (.bool true) ∧ StepQ B P w vs a w' := by
  obtain ⟨kd, om, n, id, v⟩ := o
  simp only at hk hj hid
  subst hk hj
  have hjl : j < vs.length := (List.getElem?_eq_some_iff.1 hx).1
  have hlen := h.len
  have hba : Below w.heap.size w (w.alloc (.cells (opS ⟨5, j, n, id, v⟩).toArray 74)) := (Below.refl _ _).alloc (Nat.le_refl _) _
  have hop := Holds.alloc w (opS ⟨5, j, n, id, v⟩) 74
  have H0 := Lib.hid h
  obtain ⟨g, q, gc, qc, c0, c1, hP, hg, hq, hv⟩ := (h.ext hba).cells
  obtain ⟨v0, v1⟩ := hv j x hx
  have o0 := hop.cell (i := 0) rfl
  have o1 := hop.cell (i := 1) rfl
  have o2 := hop.cell (i := 2) rfl
  have o3 := hop.cell (i := 3) rfl
  have H3 := Lib.hid (h.ext hba.drew.drew.drew.drew)
  have OK3 := Lib.hid (H3.out.vers.ok x (List.mem_of_getElem? hx))
  have HBA := Lib.hid hba.drew.drew.drew.drew
  have HOP : Hid (Holds (w.alloc (.cells (opS ⟨5, j, n, id, v⟩).toArray 74)).drew.drew.drew.drew w.heap.size (opS ⟨5, j, n, id, v⟩)) := Lib.hid hop
  have HXL := Lib.hid OK3.out.len
  have HS := H3.out.play
  obtain ⟨gv0, wv0, hps⟩ := HS
  have HLT := Lib.hid hps.lt
  have HXM := Lib.hid (List.mem_of_getElem? hx)
  clear h hop hba hv hx hps
  have d0 : decide ((j : Int) < 0) = false := by rw [decide_eq_false_iff_not]; omega
  have d1 : decide (vs.length ≤ j) = false := by rw [decide_eq_false_iff_not]; omega
  go_enter Tryd.func29, Tryd.ntmps29
  go_wp2
  refine rgn [0, 1, 2, 3, 4, 5, 6, 7, 8, 9, 10, 11, 12] [2, 10, 11] (by kernel_rfl) ?_
  simp only [pickL, List.getD_cons_zero, List.getD_cons_succ]
  go_wp2
  refine ⟨by first | rfl | kernel_rfl | decide +kernel | (simp [chkD, Region.wanted, yielded, dyn, scalarV]), ?_⟩
  go_wp2
  refine rgn [0, 1, 2, 3, 4, 5, 6, 7, 8] [] (by kernel_rfl) ?_
  simp only [pickL, List.getD_cons_zero, List.getD_cons_succ]
  go_wp2
  refine ⟨rfl, ?_⟩
  go_wp2
  refine rgn [0, 1, 2, 3, 4, 5, 6, 7, 8] [] (by kernel_rfl) ?_
  simp only [pickL, List.getD_cons_zero, List.getD_cons_succ]
  go_wp2
  refine ⟨rfl, ?_⟩
  go_wp2
  have hxe := ents_len x.t
  have hxl := HXL.out
  have hxs : (fromL 0 (x.t.ents 0)).length ≤ x.l.length := by rw [fromL_zero, OK3.out.ents, List.length_map]; exact Nat.le_refl _
  refine rgnH [[0, 2, 4, 3, 1], [5], [6, 7], [8]] [6] [3] [⟨w.heap.size, 2, none⟩] (by kernel_rfl) (by simp) ?_ ?_
  · intro p hp
    simp only [List.mem_singleton] at hp
    subst hp
    have q := HOP.out.cell (i := 2) rfl
    first | (rw [q]; rfl) | (rw [o2]; rfl) | (show (World.cell? _ _).isSome = true; exact Option.isSome_iff_exists.2 ⟨_, q⟩)
  unfold seg
  simp only [pickL, List.getD_cons_zero, List.getD_cons_succ]
  go_wp2_with fail
  refine (all_any x.b _).mono ?_
  rintro e w1 ⟨rfl, hb1, y1, y2⟩
  have Y1 := Lib.hid y1
  have Y2 := Lib.hid y2
  have OP1 := Lib.hid (HOP.out.ext hb1)
  have B1 := Lib.hid hb1
  have OK4 := Lib.hid (OK3.out.ext hb1 HLT.out)
  clear y1 y2 hb1
  have SM1 : SameAt [⟨w.heap.size, 2, none⟩] (w.alloc (.cells (opS ⟨5, j, n, id, v⟩).toArray 74)) w1 := by
    intro p hp
    simp only [List.mem_singleton] at hp
    subst hp
    rw [OP1.out.cell (i := 2) rfl]
    exact o2.symm
  go_wp2
  refine ⟨SM1, ?_⟩
  unfold seg
  simp only [pickL, List.getD_cons_zero, List.getD_cons_succ]
  go_wp2_with fail
  refine (rlen_any x.c x.l _ OK4.out.ref.unmask).mono ?_
  rintro e w2 ⟨rfl, rfl⟩
  go_wp2
  refine ⟨SM1, ?_⟩
  unfold seg
  simp only [pickL, List.getD_cons_zero, List.getD_cons_succ]
  go_wp2_with fail
  have y1' : Holds w1 (w.heap.size + 1) [.pointer (some ⟨x.b, 0, none⟩)] := by have := Y1.out; simpa using this
  have y2' : Holds w1 (w.heap.size + 1 + 1) [.int .u32 ((0 : Nat) : Int)] := by have := Y2.out; simpa using this
  have hgo := from_runM x.b 0 x.t _ n ((x.l.length : Int) + 1) _ w1 (by omega) B1.out OK3.out.map.unmask.map (w.heap.size + 1) (w.heap.size + 1 + 1) y1' y2' (by omega) (by omega)
  refine hgo.mono ?_
  clear hgo y1' y2'
  rintro e w3 ⟨es, rfl, hO, hb3⟩
  have hob := hO.rd encL_len
  obtain ⟨ea, en, ec, rfl⟩ := hO.shape
  have HO := Lib.hid hob
  have B3 := Lib.hid hb3
  have OP3 := Lib.hid (HOP.out.ext hb3)
  have OK5 := Lib.hid (OK3.out.ext hb3 HLT.out)
  clear hob hO hb3
  have SM3 : SameAt [⟨w.heap.size, 2, none⟩] (w.alloc (.cells (opS ⟨5, j, n, id, v⟩).toArray 74)) w3 := by
    intro p hp
    simp only [List.mem_singleton] at hp
    subst hp
    rw [OP3.out.cell (i := 2) rfl]
    exact o2.symm
  go_wp2
  refine ⟨SM3, ?_⟩
  unfold seg
  simp only [pickL, List.getD_cons_zero, List.getD_cons_succ]
  go_wp2
  refine ⟨SM3, by first | rfl | kernel_rfl, ⟨.inl rfl, trivial⟩, ?_⟩
  have p2 := OP3.out.cell (i := 2) rfl
  go_wp2
  refine rgnH [[0, 1, 3, 4, 2], [5], [6], [7]] [] [4] [⟨w.heap.size, 2, none⟩] (by kernel_rfl) (by simp) ?_ ?_
  · intro p hp
    simp only [List.mem_singleton] at hp
    subst hp
    rw [p2]; rfl
  unfold seg
  simp only [pickL, List.getD_cons_zero, List.getD_cons_succ]
  go_wp2_with fail
  refine (rlist_any x.c x.l w3.drew (OK5.out.ref.unmask.ext (Below.refl _ _).drew) (by omega)).mono ?_
  rintro e w4 ⟨ds, rfl, hO4, hb4⟩
  have hb4' : Below w3.heap.size w3 w4 := below_of_drew hb4
  obtain ⟨L, hL⟩ : ∃ L, L = x.l.map entR := ⟨_, rfl⟩
  rw [← hL] at hO4
  have hLl : L.length ≤ 4294967296 := by rw [hL, List.length_map]; omega
  have HL := Lib.hid hL
  clear hL
  obtain ⟨da, dc, rfl, hdc⟩ := own_len hO4
  have HD := Lib.hid (hO4.rd encL_len)
  have HO4 := Lib.hid (HO.out.ext hb4')
  have OP4 := Lib.hid (OP3.out.ext hb4')
  have B4 := Lib.hid (B3.out.trans (hb4'.mono B3.out.size))
  clear hO4 hb4 hb4'
  have SM4 : SameAt [⟨w.heap.size, 2, none⟩] w3 w4 := by
    intro p hp
    simp only [List.mem_singleton] at hp
    subst hp
    rw [OP4.out.cell (i := 2) rfl, p2]
  go_wp2
  refine ⟨SM4, ?_⟩
  unfold seg
  simp only [pickL, List.getD_cons_zero, List.getD_cons_succ]
  go_wp2_with fail
  refine (cut_any da dc L n w4 HD.out hdc (by omega)).mono ?_
  rintro e w5 ⟨r5, rfl, hR5, hb5⟩
  have HR5 := Lib.hid hR5
  have HO5 := Lib.hid (HO4.out.ext hb5)
  have OP5 := Lib.hid (OP4.out.ext hb5)
  have B5 := Lib.hid (B4.out.trans (hb5.mono B4.out.size))
  obtain ⟨ra, rc, rfl, _⟩ := hR5
  clear hb5
  have SM5 : SameAt [⟨w.heap.size, 2, none⟩] w3 w5 := by
    intro p hp
    simp only [List.mem_singleton] at hp
    subst hp
    rw [OP5.out.cell (i := 2) rfl, p2]
  go_wp2
  refine ⟨SM5, ?_⟩
  unfold seg
  simp only [pickL, List.getD_cons_zero, List.getD_cons_succ]
  have hsame : cutL (fromL 0 (x.t.ents 0)) n = cutL L n := by rw [fromL_zero, OK3.out.ents, HL.out]
  have HO6 := HO5.out
  rw [hsame] at HO6
  have hcl : (cutL L n).length ≤ 4294967296 := by unfold cutL; split; (exact hLl); (rw [List.length_take]; omega)
  go_wp2_with fail
  refine (sameEntries_any _ _ _ _ w5 HO6 HR5.out hcl hcl).mono ?_
  rintro e w6 ⟨rfl, hb6⟩
  have OP6 := Lib.hid (OP5.out.ext hb6)
  have B6 := Lib.hid (B5.out.trans (hb6.mono B5.out.size))
  clear hb6
  have SM6 : SameAt [⟨w.heap.size, 2, none⟩] w3 w6 := by
    intro p hp
    simp only [List.mem_singleton] at hp
    subst hp
    rw [OP6.out.cell (i := 2) rfl, p2]
  rw [decide_eq_true (rfl : cutL L n = cutL L n)]
  go_wp2
  refine ⟨SM6, ?_⟩
  unfold seg
  simp only [pickL, List.getD_cons_zero, List.getD_cons_succ]
  go_wp2
  refine ⟨SM6, rfl, ⟨.inl rfl, trivial⟩, ?_⟩
  go_wp2
  go_returns
  exact ⟨rfl, stepQ_same H0.out (HBA.out.trans (B6.out.mono HBA.out.size))⟩
end Go.Proofs.YtihmhledogppmaaDoor
namespace Go.Proofs.YtihmhledogppmaaDoor
open Go Go.RowKit
set_option linter.unusedVariables false
set_option linter.unusedSimpArgs false

set_option maxRecDepth 100000 in
set_option maxHeartbeats 1600000 in
theorem step_6 (B P : Nat) (S : List Nat) (vs : List Ver) (a : Int) (o : OpS) (w : World) (h : PlayS B S w P vs a) (hk : o.kind = 6) (j : Nat) (hj : o.m = (j : Int)) (x : Ver) (hx : vs[j]? = some x) (hid : o.id < 4294967296) :
    Calls Tryd.prog 29 #[.pointer (some ⟨P, 0, none⟩), .agg (opS o).toArray, .int .i64 a] w fun e w' => e = .returned (.bool true) ∧ StepQ B P w vs a w' := by
  obtain ⟨kd, om, n, id, v⟩ := o
  simp only at hk hj hid
  subst hk hj
  have hjl : j < vs.length := (List.getElem?_eq_some_iff.1 hx).1
  have hlen := h.len
  have hba : Below w.heap.size w (w.alloc (.cells (opS ⟨6, j, n, id, v⟩).toArray 74)) := (Below.refl _ _).alloc (Nat.le_refl _) _
  have hop := Holds.alloc w (opS ⟨6, j, n, id, v⟩) 74
  have H0 := Lib.hid h
  obtain ⟨g, q, gc, qc, c0, c1, hP, hg, hq, hv⟩ := (h.ext hba).cells
  obtain ⟨v0, v1⟩ := hv j x hx
  have o0 := hop.cell (i := 0) rfl
  have o1 := hop.cell (i := 1) rfl
  have o2 := hop.cell (i := 2) rfl
  have o3 := hop.cell (i := 3) rfl
  have H3 := Lib.hid (h.ext hba.drew.drew.drew.drew)
  have OK3 := Lib.hid (H3.out.vers.ok x (List.mem_of_getElem? hx))
  have HBA := Lib.hid hba.drew.drew.drew.drew
  have HOP : Hid (Holds (w.alloc (.cells (opS ⟨6, j, n, id, v⟩).toArray 74)).drew.drew.drew.drew w.heap.size (opS ⟨6, j, n, id, v⟩)) := Lib.hid hop
  have HXL := Lib.hid OK3.out.len
  have HS := H3.out.play
  obtain ⟨gv0, wv0, hps⟩ := HS
  have HLT := Lib.hid hps.lt
  have HXM := Lib.hid (List.mem_of_getElem? hx)
  clear h hop hba hv hx hps
  have d0 : decide ((j : Int) < 0) = false := by rw [decide_eq_false_iff_not]; omega
  have d1 : decide (vs.length ≤ j) = false := by rw [decide_eq_false_iff_not]; omega
  go_enter Tryd.func29, Tryd.ntmps29
  go_wp2
  refine rgn [0, 1, 2, 3, 4, 5, 6, 7, 8, 9, 10, 11, 12] [2, 10, 11] (by kernel_rfl) ?_
  simp only [pickL, List.getD_cons_zero, List.getD_cons_succ]
  go_wp2
  refine ⟨by first | rfl | kernel_rfl | decide +kernel | (simp [chkD, Region.wanted, yielded, dyn, scalarV]), ?_⟩
  go_wp2
  refine rgn [0, 1, 2, 3, 4, 5, 6, 7, 8] [] (by kernel_rfl) ?_
  simp only [pickL, List.getD_cons_zero, List.getD_cons_succ]
  go_wp2
  refine ⟨rfl, ?_⟩
  go_wp2
  refine rgn [0, 1, 2, 3, 4, 5, 6, 7, 8] [] (by kernel_rfl) ?_
  simp only [pickL, List.getD_cons_zero, List.getD_cons_succ]
  go_wp2
  refine ⟨rfl, ?_⟩
  go_wp2
  have hxe := ents_len x.t
  have hxl := HXL.out
  have hxs : (fromL id (x.t.ents 0)).length ≤ x.l.length := by rw [OK3.out.ents]; exact Nat.le_trans (List.length_filter_le _ _) (by rw [List.length_map]; exact Nat.le_refl _)
  refine rgnH [[0, 1, 2, 4, 6, 5, 3], [7], [8, 9], [10]] [8] [5] [⟨w.heap.size, 2, none⟩] (by kernel_rfl) (by simp) ?_ ?_
  · intro p hp
    simp only [List.mem_singleton] at hp
    subst hp
    have q := HOP.out.cell (i := 2) rfl
    first | (rw [q]; rfl) | (rw [o2]; rfl) | (show (World.cell? _ _).isSome = true; exact Option.isSome_iff_exists.2 ⟨_, q⟩)
  unfold seg
  simp only [pickL, List.getD_cons_zero, List.getD_cons_succ]
  go_wp2_with fail
  refine (from_any x.b id _).mono ?_
  rintro e w1 ⟨rfl, hb1, y1, y2⟩
  have Y1 := Lib.hid y1
  have Y2 := Lib.hid y2
  have OP1 := Lib.hid (HOP.out.ext hb1)
  have B1 := Lib.hid hb1
  have OK4 := Lib.hid (OK3.out.ext hb1 HLT.out)
  clear y1 y2 hb1
  have SM1 : SameAt [⟨w.heap.size, 2, none⟩] (w.alloc (.cells (opS ⟨6, j, n, id, v⟩).toArray 74)) w1 := by
    intro p hp
    simp only [List.mem_singleton] at hp
    subst hp
    rw [OP1.out.cell (i := 2) rfl]
    exact o2.symm
  go_wp2
  refine ⟨SM1, ?_⟩
  unfold seg
  simp only [pickL, List.getD_cons_zero, List.getD_cons_succ]
  go_wp2_with fail
  refine (rlen_any x.c x.l _ OK4.out.ref.unmask).mono ?_
  rintro e w2 ⟨rfl, rfl⟩
  go_wp2
  refine ⟨SM1, ?_⟩
  unfold seg
  simp only [pickL, List.getD_cons_zero, List.getD_cons_succ]
  go_wp2_with fail
  have y1' : Holds w1 (w.heap.size + 1) [.pointer (some ⟨x.b, 0, none⟩)] := by have := Y1.out; simpa using this
  have y2' : Holds w1 (w.heap.size + 1 + 1) [.int .u32 (id : Nat)] := by have := Y2.out; simpa using this
  have hgo := from_runM x.b id x.t _ n ((x.l.length : Int) + 1) _ w1 (by omega) B1.out OK3.out.map.unmask.map (w.heap.size + 1) (w.heap.size + 1 + 1) y1' y2' (by omega) (by omega)
  refine hgo.mono ?_
  clear hgo y1' y2'
  rintro e w3 ⟨es, rfl, hO, hb3⟩
  have hob := hO.rd encL_len
  obtain ⟨ea, en, ec, rfl⟩ := hO.shape
  have HO := Lib.hid hob
  have B3 := Lib.hid hb3
  have OP3 := Lib.hid (HOP.out.ext hb3)
  have OK5 := Lib.hid (OK3.out.ext hb3 HLT.out)
  clear hob hO hb3
  have SM3 : SameAt [⟨w.heap.size, 2, none⟩] (w.alloc (.cells (opS ⟨6, j, n, id, v⟩).toArray 74)) w3 := by
    intro p hp
    simp only [List.mem_singleton] at hp
    subst hp
    rw [OP3.out.cell (i := 2) rfl]
    exact o2.symm
  go_wp2
  refine ⟨SM3, ?_⟩
  unfold seg
  simp only [pickL, List.getD_cons_zero, List.getD_cons_succ]
  go_wp2
  refine ⟨SM3, by first | rfl | kernel_rfl, ⟨.inl rfl, trivial⟩, ?_⟩
  have p2 := OP3.out.cell (i := 2) rfl
  have p3 := OP3.out.cell (i := 3) rfl
  go_wp2
  refine rgnH [[0, 1, 2, 3, 5, 6, 4], [7], [8], [9]] [] [6] [⟨w.heap.size, 2, none⟩] (by kernel_rfl) (by simp) ?_ ?_
  · intro p hp
    simp only [List.mem_singleton] at hp
    subst hp
    rw [p2]; rfl
  unfold seg
  simp only [pickL, List.getD_cons_zero, List.getD_cons_succ]
  have hLl : ((x.l.map entR).drop (plR x.l id)).length ≤ 4294967296 := Nat.le_trans (by rw [List.length_drop, List.length_map]; omega) (show x.l.length ≤ 4294967296 by omega)
  have hrc := rfromC x.c id x.l w3.drew (OK5.out.ref.unmask.ext (Below.refl _ _).drew) (by omega)
  obtain ⟨L, hL⟩ : ∃ L, L = (x.l.map entR).drop (plR x.l id) := ⟨_, rfl⟩
  rw [← hL] at hrc hLl
  have HL := Lib.hid hL
  clear hL
  go_wp2_with fail
  refine hrc.mono ?_
  clear hrc
  rintro e w4 ⟨da, dc, rfl, hdc, hO4, hb4⟩
  have hb4' : Below w3.heap.size w3 w4 := below_of_drew hb4
  have HD := Lib.hid hO4
  have HO4 := Lib.hid (HO.out.ext hb4')
  have OP4 := Lib.hid (OP3.out.ext hb4')
  have B4 := Lib.hid (B3.out.trans (hb4'.mono B3.out.size))
  clear hO4 hb4 hb4'
  have SM4 : SameAt [⟨w.heap.size, 2, none⟩] w3 w4 := by
    intro p hp
    simp only [List.mem_singleton] at hp
    subst hp
    rw [OP4.out.cell (i := 2) rfl, p2]
  go_wp2
  refine ⟨SM4, ?_⟩
  unfold seg
  simp only [pickL, List.getD_cons_zero, List.getD_cons_succ]
  go_wp2_with fail
  refine (cut_any da dc L n w4 HD.out hdc (by omega)).mono ?_
  rintro e w5 ⟨r5, rfl, hR5, hb5⟩
  have HR5 := Lib.hid hR5
  have HO5 := Lib.hid (HO4.out.ext hb5)
  have OP5 := Lib.hid (OP4.out.ext hb5)
  have B5 := Lib.hid (B4.out.trans (hb5.mono B4.out.size))
  obtain ⟨ra, rc, rfl, _⟩ := hR5
  clear hb5
  have SM5 : SameAt [⟨w.heap.size, 2, none⟩] w3 w5 := by
    intro p hp
    simp only [List.mem_singleton] at hp
    subst hp
    rw [OP5.out.cell (i := 2) rfl, p2]
  go_wp2
  refine ⟨SM5, ?_⟩
  unfold seg
  simp only [pickL, List.getD_cons_zero, List.getD_cons_succ]
  have hsame : cutL (fromL id (x.t.ents 0)) n = cutL L n := by rw [HL.out, drop_from OK3.out.srt id, OK3.out.ents]; rfl
  have HO6 := HO5.out
  rw [hsame] at HO6
  have hcl : (cutL L n).length ≤ 4294967296 := by unfold cutL; split; (exact hLl); (rw [List.length_take]; omega)
  go_wp2_with fail
  refine (sameEntries_any _ _ _ _ w5 HO6 HR5.out hcl hcl).mono ?_
  rintro e w6 ⟨rfl, hb6⟩
  have OP6 := Lib.hid (OP5.out.ext hb6)
  have B6 := Lib.hid (B5.out.trans (hb6.mono B5.out.size))
  clear hb6
  have SM6 : SameAt [⟨w.heap.size, 2, none⟩] w3 w6 := by
    intro p hp
    simp only [List.mem_singleton] at hp
    subst hp
    rw [OP6.out.cell (i := 2) rfl, p2]
  rw [decide_eq_true (rfl : cutL L n = cutL L n)]
  go_wp2
  refine ⟨SM6, ?_⟩
  unfold seg
  simp only [pickL, List.getD_cons_zero, List.getD_cons_succ]
  go_wp2
  refine ⟨SM6, rfl, ⟨.inl rfl, trivial⟩, ?_⟩
  go_wp2
  go_returns
  exact ⟨rfl, stepQ_same H0.out (HBA.out.trans (B6.out.mono HBA.out.size))⟩
end Go.Proofs.YtihmhledogppmaaDoor
