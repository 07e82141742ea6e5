/- What a step that joins a version leaves. · The walk of a play's step: the kind 1. Printed by gen/mkQ.py. · The walk of a play's step: the kind 2. Printed by gen/mkQ.py. -/
import Derived.Test.YtihmhledogppmaaDoorQa
namespace Go.Proofs.YtihmhledogppmaaDoor
open Go Go.RowKit
set_option linter.unusedVariables false
set_option linter.unusedSimpArgs false

theorem Vers.mask {S S' : List Nat} {w W : World} {vs : List Ver} {a : Int} (h : Vers S w vs a) (hm : Below (mask S w).heap.size (mask S w) (mask S' W)) : Vers S' W vs a :=
  ⟨fun x hx => ⟨(h.ok x hx).map.ext hm, (h.ok x hx).ref.ext hm, (h.ok x hx).ents⟩, h.agree, h.st⟩
/-- A block that isn't masked, and holds something, stays while the rows grow. -/
theorem holds_grown {S S' : List Nat} {w W : World} {b : Nat} {cs : List Value} (h : Holds w b cs) (hb : b ∉ S) (hc : cs ≠ []) (hm : Below (Go.Proofs.YtihmhledogppmaaDoor.mask S w).heap.size (Go.Proofs.YtihmhledogppmaaDoor.mask S w) (Go.Proofs.YtihmhledogppmaaDoor.mask S' W)) : Holds W b cs :=
  (holds_mask ((mask_holds h hb).ext hm) hc).1
theorem join_leaves {B P : Nat} {S S' : List Nat} {w w0 w1 w2 w3 : World} {vs : List Ver} {a : Int} {x : Ver} {b' c' : Nat} {t' : Tr 8} {l' : List RE} (h0 : PlayS B S w P vs a) (hb0 : Below w.heap.size w w0) (hx : x ∈ vs)
    (h1 : MapT (mask S w1) b' t') (hb1 : Below w0.heap.size w0 w1) (hb2 : Below w1.heap.size w1 w2) (nr : NewR w1 w2 x.c c' x.l l') (he : t'.ents 0 = l'.map entR)
    (hc : (t' = x.t ∧ l' = x.l) ∨ ∃ id, Chg w0.heap.size a id x.t x.l t' l')
    (hp : ∃ gv wv, Play B S' w3 P gv wv (vs.map (·.b) ++ [b']) (vs.map (·.c) ++ [c'])) (hm : Below (mask S w2).heap.size (mask S w2) (mask S' w3)) (hB : Below B w2 w3) : StepQ B P w vs a w3 := by
  obtain ⟨gv, wv, hp0⟩ := h0.play
  have lt0 : ∀ k ∈ S, k < w0.heap.size := fun k hk => Nat.lt_of_lt_of_le (hp0.lt k hk) hb0.size
  have lt1 : ∀ k ∈ S, k < w1.heap.size := fun k hk => Nat.lt_of_lt_of_le (lt0 k hk) hb1.size
  have V0 := h0.vers.ext hb0 hp0.lt
  have hr : RefAt (mask S w2) c' l' := nr.mask (((V0.ok x hx).ext hb1 lt0).ref) hb2 lt1
  have hv := V0.join (y := ⟨b', t', c', l'⟩) (hb1.trans (hb2.mono hb1.size)) lt0 hx ⟨h1.ext (below_mask hb2 lt1), hr, he⟩ hc
  obtain ⟨gv', wv', hp⟩ := hp
  refine ⟨S', vs ++ [⟨b', t', c', l'⟩], ⟨gv', wv', by simpa using hp⟩, hv.mask hm, by simp, ?_⟩
  exact ((hb0.mono hp0.lo.2).trans ((hb1.trans (hb2.mono hb1.size)).mono (Nat.le_trans hp0.lo.2 hb0.size))).trans hB
end Go.Proofs.YtihmhledogppmaaDoor
namespace Go.Proofs.YtihmhledogppmaaDoor
open Go Go.RowKit
set_option linter.unusedVariables false
set_option linter.unusedSimpArgs false

set_option maxRecDepth 100000 in
set_option maxHeartbeats 1600000 in
theorem step_1 (B P : Nat) (S : List Nat) (vs : List Ver) (a : Int) (o : OpS) (w : World) (h : PlayS B S w P vs a) (hk : o.kind = 1) (j : Nat) (hj : o.m = (j : Int)) (x : Ver) (hx : vs[j]? = some x) (hid : o.id < 4294967296) :
    Calls Tryd.prog 29 #[.pointer (some ⟨P, 0, none⟩), .agg (opS o).toArray, .int .i64 a] w fun e w' => e = .returned (.bool true) ∧ StepQ B P w vs a w' := by
  obtain ⟨kd, om, n, id, v⟩ := o
  simp only at hk hj hid
  subst hk hj
  have hjl : j < vs.length := (List.getElem?_eq_some_iff.1 hx).1
  have hlen := h.len
  have hba : Below w.heap.size w (w.alloc (.cells (opS ⟨1, j, n, id, v⟩).toArray 74)) := (Below.refl _ _).alloc (Nat.le_refl _) _
  have hop := Holds.alloc w (opS ⟨1, j, n, id, v⟩) 74
  have H0 := Lib.hid h
  obtain ⟨g, q, gc, qc, c0, c1, hP, hg, hq, hv⟩ := (h.ext hba).cells
  obtain ⟨v0, v1⟩ := hv j x hx
  have o0 := hop.cell (i := 0) rfl
  have o1 := hop.cell (i := 1) rfl
  have o2 := hop.cell (i := 2) rfl
  have o3 := hop.cell (i := 3) rfl
  have H3 := Lib.hid (h.ext hba.drew.drew.drew.drew)
  have OK3 := Lib.hid (H3.out.vers.ok x (List.mem_of_getElem? hx))
  have HBA := Lib.hid hba.drew.drew.drew.drew
  have HOP : Hid (Holds (w.alloc (.cells (opS ⟨1, j, n, id, v⟩).toArray 74)).drew.drew.drew.drew w.heap.size (opS ⟨1, j, n, id, v⟩)) := Lib.hid hop
  have HXL := Lib.hid OK3.out.len
  have HS := H3.out.play
  obtain ⟨gv0, wv0, hps⟩ := HS
  have HLT := Lib.hid hps.lt
  have HXM := Lib.hid (List.mem_of_getElem? hx)
  clear h hop hba hv hx hps
  have d0 : decide ((j : Int) < 0) = false := by rw [decide_eq_false_iff_not]; omega
  have d1 : decide (vs.length ≤ j) = false := by rw [decide_eq_false_iff_not]; omega
  go_enter Tryd.func29, Tryd.ntmps29
  go_wp2
  refine rgn [0, 1, 2, 3, 4, 5, 6, 7, 8, 9, 10, 11, 12] [2, 10, 11] (by kernel_rfl) ?_
  simp only [pickL, List.getD_cons_zero, List.getD_cons_succ]
  go_wp2
  refine ⟨by first | rfl | kernel_rfl | decide +kernel | (simp [chkD, Region.wanted, yielded, dyn, scalarV]), ?_⟩
  go_wp2
  refine rgn [0, 1, 2, 3, 4, 5, 6, 7, 8] [] (by kernel_rfl) ?_
  simp only [pickL, List.getD_cons_zero, List.getD_cons_succ]
  go_wp2
  refine ⟨rfl, ?_⟩
  go_wp2
  refine rgn [0, 1, 2, 3, 4, 5, 6, 7, 8] [] (by kernel_rfl) ?_
  simp only [pickL, List.getD_cons_zero, List.getD_cons_succ]
  go_wp2
  refine ⟨rfl, ?_⟩
  have o4 := HOP.out.cell (i := 4) rfl
  have o5 := HOP.out.cell (i := 5) rfl
  go_wp2
  have hxe := ents_len x.t
  have hxl := HXL.out
  have hno : w.heap.size ∉ S := fun hm => by
    obtain ⟨gv1, wv1, hp1⟩ := H0.out.play
    have := hp1.lt _ hm
    omega
  refine rgnT (.seg [0, 1, 2, 3, 4, 5, 7, 8, 10, 12, 9] (.two 6 11 (.seg [11, 13] (.seg [14] (.seg [15] .fin))) (.seg [6] (.seg [13] (.seg [14] (.seg [15] .fin)))))) [] [9] [⟨w.heap.size, 3, none⟩] (by kernel_rfl) (by simp) ?_ ?_
  · intro p hp
    simp only [List.mem_singleton] at hp
    subst hp
    have q := HOP.out.cell (i := 3) rfl
    first | (rw [q]; rfl) | (rw [o3]; rfl) | (show (World.cell? _ _).isSome = true; exact Option.isSome_iff_exists.2 ⟨_, q⟩)
  have SM0 : SameAt [⟨w.heap.size, 3, none⟩] (w.alloc (.cells (opS ⟨1, j, n, id, v⟩).toArray 74)) (w.alloc (.cells (opS ⟨1, j, n, id, v⟩).toArray 74)) := fun p hp => rfl
  unfold pl
  simp only [pickL, List.getD_cons_zero, List.getD_cons_succ]
  go_wp2
  refine ⟨SM0, ?_⟩
  unfold pl
  refine ⟨?_, ?_⟩
  · simp only [pickL, List.getD_cons_zero, List.getD_cons_succ]
    go_wp2_with fail
    refine (put_M S x.b id x.t v _ OK3.out.map HLT.out hxe hid).mono ?_
    rintro e w1 ⟨b', t', rfl, m', nt, hb1⟩
    have OP1 := Lib.hid (HOP.out.ext hb1)
    have lt1 : ∀ k ∈ S, k < w1.heap.size := fun k hk => Nat.lt_of_lt_of_le (HLT.out k hk) hb1.size
    have M1 := Lib.hid m'
    have NT := Lib.hid nt
    have B1 := Lib.hid hb1
    have OK4 := Lib.hid (OK3.out.ext hb1 HLT.out)
    clear m' nt hb1
    have p4 := OP1.out.cell (i := 4) rfl
    have p5 := OP1.out.cell (i := 5) rfl
    have SM1 : SameAt [⟨w.heap.size, 3, none⟩] (w.alloc (.cells (opS ⟨1, j, n, id, v⟩).toArray 74)) w1 := by
      intro p hp
      simp only [List.mem_singleton] at hp
      subst hp
      rw [OP1.out.cell (i := 3) rfl]
      exact o3.symm
    go_wp2
    refine ⟨SM1, ?_⟩
    unfold pl
    simp only [pickL, List.getD_cons_zero, List.getD_cons_succ]
    go_wp2_with fail
    refine (putAs_r x.c id v a x.l _ OK4.out.ref.unmask hid (by omega)).mono ?_
    rintro e w2 ⟨c', rfl, r', hb2, nr⟩
    have OP2 := Lib.hid (OP1.out.ext hb2)
    have B2 := Lib.hid hb2
    have NR := Lib.hid nr
    have PL := Lib.hid ((H3.out.ext B1.out).ext hb2)
    clear r' hb2 nr p4 p5
    have SM2 : SameAt [⟨w.heap.size, 3, none⟩] (w.alloc (.cells (opS ⟨1, j, n, id, v⟩).toArray 74)) w2 := by
      intro p hp
      simp only [List.mem_singleton] at hp
      subst hp
      rw [OP2.out.cell (i := 3) rfl]
      exact o3.symm
    go_wp2
    refine ⟨SM2, ?_⟩
    unfold pl
    simp only [pickL, List.getD_cons_zero, List.getD_cons_succ]
    obtain ⟨gv1, wv1, hp1⟩ := PL.out.play
    have HP1 := Lib.hid hp1
    clear hp1
    go_wp2_with fail
    refine (joins_any B P b' c' S gv1 wv1 _ _ w2 HP1.out (by rw [List.length_map]; omega) (by rw [List.length_map]; omega)).mono ?_
    rintro e w3 ⟨rfl, gv', wv', S', hp', hbm, hB⟩
    have OP3 := Lib.hid (holds_grown OP2.out hno (by simp [opS]) hbm)
    have he : t'.ents 0 = (putR x.l id v a).map entR := by rw [putR_ents OK3.out.srt id v a, ← OK3.out.ents]; exact NT.out.ents hid
    have FIN := Lib.hid (join_leaves H0.out HBA.out HXM.out M1.out B1.out B2.out NR.out he (put_chg OK3.out.ents OK3.out.srt hid NT.out) ⟨gv', wv', hp'⟩ hbm hB)
    clear hp' hbm hB
    have SM3 : SameAt [⟨w.heap.size, 3, none⟩] (w.alloc (.cells (opS ⟨1, j, n, id, v⟩).toArray 74)) w3 := by
      intro p hp
      simp only [List.mem_singleton] at hp
      subst hp
      rw [OP3.out.cell (i := 3) rfl]
      exact o3.symm
    go_wp2
    refine ⟨SM3, ?_⟩
    unfold pl
    simp only [pickL, List.getD_cons_zero, List.getD_cons_succ]
    go_wp2
    refine ⟨SM3, ?_⟩
    unfold pl
    refine ⟨rfl, ⟨.inl rfl, trivial⟩, ?_⟩
    go_wp2
    go_returns
    exact ⟨rfl, FIN.out⟩
  · simp only [pickL, List.getD_cons_zero, List.getD_cons_succ]
    go_wp2
    refine ⟨SM0, ?_⟩
    unfold pl
    simp only [pickL, List.getD_cons_zero, List.getD_cons_succ]
    go_wp2_with fail
    refine (put_M S x.b id x.t v _ OK3.out.map HLT.out hxe hid).mono ?_
    rintro e w1 ⟨b', t', rfl, m', nt, hb1⟩
    have OP1 := Lib.hid (HOP.out.ext hb1)
    have lt1 : ∀ k ∈ S, k < w1.heap.size := fun k hk => Nat.lt_of_lt_of_le (HLT.out k hk) hb1.size
    have M1 := Lib.hid m'
    have NT := Lib.hid nt
    have B1 := Lib.hid hb1
    have OK4 := Lib.hid (OK3.out.ext hb1 HLT.out)
    clear m' nt hb1
    have p4 := OP1.out.cell (i := 4) rfl
    have p5 := OP1.out.cell (i := 5) rfl
    have SM1 : SameAt [⟨w.heap.size, 3, none⟩] (w.alloc (.cells (opS ⟨1, j, n, id, v⟩).toArray 74)) w1 := by
      intro p hp
      simp only [List.mem_singleton] at hp
      subst hp
      rw [OP1.out.cell (i := 3) rfl]
      exact o3.symm
    go_wp2
    refine ⟨SM1, ?_⟩
    unfold pl
    simp only [pickL, List.getD_cons_zero, List.getD_cons_succ]
    go_wp2_with fail
    refine (putAs_r x.c id v a x.l _ OK4.out.ref.unmask hid (by omega)).mono ?_
    rintro e w2 ⟨c', rfl, r', hb2, nr⟩
    have OP2 := Lib.hid (OP1.out.ext hb2)
    have B2 := Lib.hid hb2
    have NR := Lib.hid nr
    have PL := Lib.hid ((H3.out.ext B1.out).ext hb2)
    clear r' hb2 nr p4 p5
    have SM2 : SameAt [⟨w.heap.size, 3, none⟩] (w.alloc (.cells (opS ⟨1, j, n, id, v⟩).toArray 74)) w2 := by
      intro p hp
      simp only [List.mem_singleton] at hp
      subst hp
      rw [OP2.out.cell (i := 3) rfl]
      exact o3.symm
    go_wp2
    refine ⟨SM2, ?_⟩
    unfold pl
    simp only [pickL, List.getD_cons_zero, List.getD_cons_succ]
    obtain ⟨gv1, wv1, hp1⟩ := PL.out.play
    have HP1 := Lib.hid hp1
    clear hp1
    go_wp2_with fail
    refine (joins_any B P b' c' S gv1 wv1 _ _ w2 HP1.out (by rw [List.length_map]; omega) (by rw [List.length_map]; omega)).mono ?_
    rintro e w3 ⟨rfl, gv', wv', S', hp', hbm, hB⟩
    have OP3 := Lib.hid (holds_grown OP2.out hno (by simp [opS]) hbm)
    have he : t'.ents 0 = (putR x.l id v a).map entR := by rw [putR_ents OK3.out.srt id v a, ← OK3.out.ents]; exact NT.out.ents hid
    have FIN := Lib.hid (join_leaves H0.out HBA.out HXM.out M1.out B1.out B2.out NR.out he (put_chg OK3.out.ents OK3.out.srt hid NT.out) ⟨gv', wv', hp'⟩ hbm hB)
    clear hp' hbm hB
    have SM3 : SameAt [⟨w.heap.size, 3, none⟩] (w.alloc (.cells (opS ⟨1, j, n, id, v⟩).toArray 74)) w3 := by
      intro p hp
      simp only [List.mem_singleton] at hp
      subst hp
      rw [OP3.out.cell (i := 3) rfl]
      exact o3.symm
    go_wp2
    refine ⟨SM3, ?_⟩
    unfold pl
    simp only [pickL, List.getD_cons_zero, List.getD_cons_succ]
    go_wp2
    refine ⟨SM3, ?_⟩
    unfold pl
    refine ⟨rfl, ⟨.inl rfl, trivial⟩, ?_⟩
    go_wp2
    go_returns
    exact ⟨rfl, FIN.out⟩
end Go.Proofs.YtihmhledogppmaaDoor
namespace Go.Proofs.YtihmhledogppmaaDoor
open Go Go.RowKit
set_option linter.unusedVariables false
set_option linter.unusedSimpArgs false

set_option maxRecDepth 100000 in
set_option maxHeartbeats 1600000 in
theorem step_2 (B P : Nat) (S : List Nat) (vs : List Ver) (a : Int) (o : OpS) (w : World) (h : PlayS B S w P vs a) (hk : o.kind = 2) (j : Nat) (hj : o.m = (j : Int)) (x : Ver) (hx : vs[j]? = some x) (hid : o.id < 4294967296) :
    Calls Tryd.prog 29 #[.pointer (some ⟨P, 0, none⟩), .agg (opS o).toArray, .int .i64 a] w fun e w' => e = .returned (.bool true) ∧ StepQ B P w vs a w' := by
  obtain ⟨kd, om, n, id, v⟩ := o
  simp only at hk hj hid
  subst hk hj
  have hjl : j < vs.length := (List.getElem?_eq_some_iff.1 hx).1
  have hlen := h.len
  have hba : Below w.heap.size w (w.alloc (.cells (opS ⟨2, j, n, id, v⟩).toArray 74)) := (Below.refl _ _).alloc (Nat.le_refl _) _
  have hop := Holds.alloc w (opS ⟨2, j, n, id, v⟩) 74
  have H0 := Lib.hid h
  obtain ⟨g, q, gc, qc, c0, c1, hP, hg, hq, hv⟩ := (h.ext hba).cells
  obtain ⟨v0, v1⟩ := hv j x hx
  have o0 := hop.cell (i := 0) rfl
  have o1 := hop.cell (i := 1) rfl
  have o2 := hop.cell (i := 2) rfl
  have o3 := hop.cell (i := 3) rfl
  have H3 := Lib.hid (h.ext hba.drew.drew.drew.drew)
  have OK3 := Lib.hid (H3.out.vers.ok x (List.mem_of_getElem? hx))
  have HBA := Lib.hid hba.drew.drew.drew.drew
  have HOP : Hid (Holds (w.alloc (.cells (opS ⟨2, j, n, id, v⟩).toArray 74)).drew.drew.drew.drew w.heap.size (opS ⟨2, j, n, id, v⟩)) := Lib.hid hop
  have HXL := Lib.hid OK3.out.len
  have HS := H3.out.play
  obtain ⟨gv0, wv0, hps⟩ := HS
  have HLT := Lib.hid hps.lt
  have HXM := Lib.hid (List.mem_of_getElem? hx)
  clear h hop hba hv hx hps
  have d0 : decide ((j : Int) < 0) = false := by rw [decide_eq_false_iff_not]; omega
  have d1 : decide (vs.length ≤ j) = false := by rw [decide_eq_false_iff_not]; omega
  go_enter Tryd.func29, Tryd.ntmps29
  go_wp2
  refine rgn [0, 1, 2, 3, 4, 5, 6, 7, 8, 9, 10, 11, 12] [2, 10, 11] (by kernel_rfl) ?_
  simp only [pickL, List.getD_cons_zero, List.getD_cons_succ]
  go_wp2
  refine ⟨by first | rfl | kernel_rfl | decide +kernel | (simp [chkD, Region.wanted, yielded, dyn, scalarV]), ?_⟩
  go_wp2
  refine rgn [0, 1, 2, 3, 4, 5, 6, 7, 8] [] (by kernel_rfl) ?_
  simp only [pickL, List.getD_cons_zero, List.getD_cons_succ]
  go_wp2
  refine ⟨rfl, ?_⟩
  go_wp2
  refine rgn [0, 1, 2, 3, 4, 5, 6, 7, 8] [] (by kernel_rfl) ?_
  simp only [pickL, List.getD_cons_zero, List.getD_cons_succ]
  go_wp2
  refine ⟨rfl, ?_⟩
  go_wp2
  refine rgnH [[0, 1, 2, 3, 5, 6, 8, 7, 4], [9], [10], [11]] [] [7] [⟨w.heap.size, 3, none⟩] (by kernel_rfl) (by simp) ?_ ?_
  · intro p hp
    simp only [List.mem_singleton] at hp
    subst hp
    have q := HOP.out.cell (i := 3) rfl
    first | (rw [q]; rfl) | (rw [o3]; rfl) | (show (World.cell? _ _).isSome = true; exact Option.isSome_iff_exists.2 ⟨_, q⟩)
  unfold seg
  simp only [pickL, List.getD_cons_zero, List.getD_cons_succ]
  have hxe := ents_len x.t
  have hxl := HXL.out
  have hno : w.heap.size ∉ S := fun hm => by
    obtain ⟨gv1, wv1, hp1⟩ := H0.out.play
    have := hp1.lt _ hm
    omega
  go_wp2_with fail
  refine (drop_M S x.b id x.t v _ OK3.out.map HLT.out hxe hid).mono ?_
  rintro e w1 ⟨b', t', rfl, m', nt, hb1⟩
  have OP1 := Lib.hid (HOP.out.ext hb1)
  have lt1 : ∀ k ∈ S, k < w1.heap.size := fun k hk => Nat.lt_of_lt_of_le (HLT.out k hk) hb1.size
  have M1 := Lib.hid m'
  have NT := Lib.hid nt
  have B1 := Lib.hid hb1
  have OK4 := Lib.hid (OK3.out.ext hb1 HLT.out)
  clear m' nt hb1
  have SM1 : SameAt [⟨w.heap.size, 3, none⟩] (w.alloc (.cells (opS ⟨2, j, n, id, v⟩).toArray 74)) w1 := by
    intro p hp
    simp only [List.mem_singleton] at hp
    subst hp
    rw [OP1.out.cell (i := 3) rfl]
    exact o3.symm
  go_wp2
  refine ⟨SM1, ?_⟩
  unfold seg
  simp only [pickL, List.getD_cons_zero, List.getD_cons_succ]
  go_wp2_with fail
  refine (dropAs_r x.c id a x.l _ OK4.out.ref.unmask hid (by omega)).mono ?_
  rintro e w2 ⟨c', rfl, r', hb2, nr⟩
  have OP2 := Lib.hid (OP1.out.ext hb2)
  have B2 := Lib.hid hb2
  have NR := Lib.hid nr
  have PL := Lib.hid ((H3.out.ext B1.out).ext hb2)
  clear r' hb2 nr
  have SM2 : SameAt [⟨w.heap.size, 3, none⟩] (w.alloc (.cells (opS ⟨2, j, n, id, v⟩).toArray 74)) w2 := by
    intro p hp
    simp only [List.mem_singleton] at hp
    subst hp
    rw [OP2.out.cell (i := 3) rfl]
    exact o3.symm
  go_wp2
  refine ⟨SM2, ?_⟩
  unfold seg
  simp only [pickL, List.getD_cons_zero, List.getD_cons_succ]
  obtain ⟨gv1, wv1, hp1⟩ := PL.out.play
  have HP1 := Lib.hid hp1
  clear hp1
  go_wp2_with fail
  refine (joins_any B P b' c' S gv1 wv1 _ _ w2 HP1.out (by rw [List.length_map]; omega) (by rw [List.length_map]; omega)).mono ?_
  rintro e w3 ⟨rfl, gv', wv', S', hp', hbm, hB⟩
  have OP3 := Lib.hid (holds_grown OP2.out hno (by simp [opS]) hbm)
  have he : t'.ents 0 = (dropR x.l id a).map entR := by rw [dropR_ents OK3.out.srt id v a, ← OK3.out.ents]; exact NT.out.ents hid
  have FIN := Lib.hid (join_leaves H0.out HBA.out HXM.out M1.out B1.out B2.out NR.out he (drop_chg OK3.out.ents OK3.out.srt hid NT.out) ⟨gv', wv', hp'⟩ hbm hB)
  clear hp' hbm hB
  have SM3 : SameAt [⟨w.heap.size, 3, none⟩] (w.alloc (.cells (opS ⟨2, j, n, id, v⟩).toArray 74)) w3 := by
    intro p hp
    simp only [List.mem_singleton] at hp
    subst hp
    rw [OP3.out.cell (i := 3) rfl]
    exact o3.symm
  go_wp2
  refine ⟨SM3, ?_⟩
  unfold seg
  simp only [pickL, List.getD_cons_zero, List.getD_cons_succ]
  go_wp2
  refine ⟨SM3, rfl, ⟨.inl rfl, trivial⟩, ?_⟩
  go_wp2
  go_returns
  exact ⟨rfl, FIN.out⟩
end Go.Proofs.YtihmhledogppmaaDoor
