/- The walk of a pair's plays, where two histories are told of maps: the kinds 4, 1, 10. Printed by gen/mkJk.py. -/
import Derived.Test.YtmhhejpokgdjoaaJh
namespace Go.Proofs.Ytmhhejpokgdjoaa
open Go Go.RowKit
set_option linter.unusedVariables false
set_option linter.unusedSimpArgs false
attribute [local go_sem] Oper.semAt_some

theorem sameAt_pr {w W : World} {B x y k : Nat} {u : Value} (h : Holds w B (prC x y)) (h' : Holds W B (prC x y)) (hu : (prC x y)[k]? = some u) : SameAt [⟨B, k, none⟩] w W := by
  intro p hp
  simp only [List.mem_singleton] at hp
  subst hp
  rw [h.cell hu, h'.cell hu]
theorem sameAt_op {w W : World} {B k : Nat} {x : OpL} {u : Value} (h : Holds w B (opCells x)) (h' : Holds W B (opCells x)) (hu : (opCells x)[k]? = some u) : SameAt [⟨B, k, none⟩] w W := by
  intro p hp
  simp only [List.mem_singleton] at hp
  subst hp
  rw [h.cell hu, h'.cell hu]
theorem opCells_not (x : OpL) : ∀ a n c i, opCells x ≠ hCells (.slice a n c) i := by
  intro a n c i h
  simp [opCells, hCells] at h
set_option maxRecDepth 100000 in
set_option maxHeartbeats 3200000 in
theorem plays_4 (bh bw : Nat) (vs : List (List E)) (i : Nat) (x : OpL) (w : World) (hp : HistL w bh vs i) (hq : RHistL w bw vs i) (hne : bh ≠ bw) (hr : RdF w x.lv x.l) (hid : ∀ y ∈ x.l, y.1 < 4294967296) (hk : x.kind = 4)  :
    Calls Try.prog 33 #[.agg #[.pointer (some ⟨bh, 0, none⟩), .pointer (some ⟨bw, 0, none⟩)], .agg (opCells x).toArray] w fun e w' => e = .returned (.bool true) ∧ PlaysQ bh bw w w' := by
  obtain ⟨kd, xa, xb, x2, xn, xv, xl⟩ := x
  simp only at hk hr hid
  subst hk
  obtain ⟨sa, sc, hxv, hsc, hrd⟩ := hr
  subst hxv
  have hr : RdF w (.slice sa xl.length sc) xl := ⟨sa, sc, rfl, hsc, hrd⟩
  clear hrd
  have a0 : Below w.heap.size w (w.alloc (.cells #[.pointer (some ⟨bh, 0, none⟩), .pointer (some ⟨bw, 0, none⟩)] 64)) := (Below.refl _ _).alloc (Nat.le_refl _) _
  have b0 : Holds (w.alloc (.cells #[.pointer (some ⟨bh, 0, none⟩), .pointer (some ⟨bw, 0, none⟩)] 64)) w.heap.size (prC bh bw) := Holds.alloc w (prC bh bw) 64
  have a1 : Below (w.alloc (.cells #[.pointer (some ⟨bh, 0, none⟩), .pointer (some ⟨bw, 0, none⟩)] 64)).heap.size (w.alloc (.cells #[.pointer (some ⟨bh, 0, none⟩), .pointer (some ⟨bw, 0, none⟩)] 64)) ((w.alloc (.cells #[.pointer (some ⟨bh, 0, none⟩), .pointer (some ⟨bw, 0, none⟩)] 64)).alloc (.cells (opCells ⟨4, xa, xb, x2, xn, .slice sa xl.length sc, xl⟩).toArray 73)) := (Below.refl _ _).alloc (Nat.le_refl _) _
  have b1 := Holds.alloc (w.alloc (.cells #[.pointer (some ⟨bh, 0, none⟩), .pointer (some ⟨bw, 0, none⟩)] 64)) (opCells ⟨4, xa, xb, x2, xn, .slice sa xl.length sc, xl⟩) 73
  have hlt := hp.facts.2.2.2
  have hlt2 := hq.facts.2.2.2
  have hil := hp.facts.1
  have hvl := hp.facts.2.1
  have ha := a0.trans (a1.mono a0.size)
  have P0 := Lib.hid (b0.ext a1)
  have O1 : Hid (Holds ((w.alloc (.cells #[.pointer (some ⟨bh, 0, none⟩), .pointer (some ⟨bw, 0, none⟩)] 64)).alloc (.cells (opCells ⟨4, xa, xb, x2, xn, .slice sa xl.length sc, xl⟩).toArray 73)) (w.heap.size + 1) (opCells ⟨4, xa, xb, x2, xn, .slice sa xl.length sc, xl⟩)) := Lib.hid (by rw [World.size_alloc] at b1; exact b1)
  have H0 := Lib.hid (hp.ext ha)
  have Q0 := Lib.hid (hq.ext ha)
  have F0 := Lib.hid (Frm.of_below (S := [bh, bw]) ha)
  have R0 := Lib.hid (hr.ext ha)
  have HN := Lib.hid hne
  have VL := Lib.hid hp.facts.2.2.1
  have c0 := P0.out.cell (i := 0) rfl
  have c1 := P0.out.cell (i := 1) rfl
  have o0 := O1.out.cell (i := 0) rfl
  have o1 := O1.out.cell (i := 1) rfl
  have o2 := O1.out.cell (i := 2) rfl
  have o4 := O1.out.cell (i := 4) rfl
  have o5 := O1.out.cell (i := 5) rfl
  have HLT := Lib.hid hlt
  have HLT2 := Lib.hid hlt2
  clear a0 b0 a1 b1 ha hp hq hr hne hlt hlt2
  go_enter Try.func33, Try.ntmps33
  go_wp2
  refine rgnH [[0, 1, 3, 4, 2], [5], [6], [7]] [] [4] [⟨w.heap.size, 1, none⟩] (by kernel_rfl) (by simp) ?_ ?_
  · intro p hp
    simp only [List.mem_singleton] at hp
    subst hp
    rw [c1]; rfl
  unfold seg
  simp only [pickL, List.getD_cons_zero, List.getD_cons_succ]
  go_wp2_with fail
  refine (now_any bh vs i _ (H0.out.ext (Below.refl _ _).drew)).mono ?_
  rintro e w1 ⟨c, l, rfl, hl1, hm1, hb1⟩
  have hb1' := below_of_drew hb1
  have P1 := Lib.hid (P0.out.ext hb1')
  have Q1 := Lib.hid (Q0.out.ext hb1')
  have H1 := Lib.hid (H0.out.ext hb1')
  have F1 := Lib.hid (F0.out.trans (Frm.of_below hb1'))
  have M1 := Lib.hid hm1
  have L1 := Lib.hid hl1
  have SM1 := sameAt_pr P0.out P1.out (k := 1) rfl
  clear hb1 hb1' hm1 hl1
  go_wp2
  refine ⟨SM1, ?_⟩
  unfold seg
  simp only [pickL, List.getD_cons_zero, List.getD_cons_succ]
  go_wp2_with fail
  refine (rnow_any bw vs i _ Q1.out).mono ?_
  rintro e w2 ⟨c', l', rfl, hl2, hm2, hb2⟩
  obtain rfl : l' = l := Option.some.inj (hl2.symm.trans L1.out)
  have hll : l'.length ≤ 200 := VL.out l' (List.mem_of_getElem? hl2)
  have P2 := Lib.hid (P1.out.ext hb2)
  have Q2 := Lib.hid (Q1.out.ext hb2)
  have H2 := Lib.hid (H1.out.ext hb2)
  have F2 := Lib.hid (F1.out.trans (Frm.of_below hb2))
  have M2 := Lib.hid (M1.out.ext hb2)
  have N2 := Lib.hid hm2
  have SM2 := sameAt_pr P0.out P2.out (k := 1) rfl
  clear hb2 hm2 hl2
  go_wp2
  refine ⟨SM2, ?_⟩
  unfold seg
  simp only [pickL, List.getD_cons_zero, List.getD_cons_succ]
  go_wp2_with fail
  refine (same_pp c c' l' _ M2.out N2.out hll).mono ?_
  rintro e w3 ⟨rfl, hb3⟩
  have P3 := Lib.hid (P2.out.ext hb3)
  have Q3 := Lib.hid (Q2.out.ext hb3)
  have H3 := Lib.hid (H2.out.ext hb3)
  have F3 := Lib.hid (F2.out.trans (Frm.of_below hb3))
  have SM3 := sameAt_pr P0.out P3.out (k := 1) rfl
  clear hb3
  go_wp2
  refine ⟨SM3, ?_⟩
  unfold seg
  simp only [pickL, List.getD_cons_zero, List.getD_cons_succ]
  go_wp2
  refine ⟨SM3, rfl, ⟨.inl rfl, trivial⟩, ?_⟩
  go_wp2
  go_returns
  exact ⟨rfl, _, _, H3.out, Q3.out, F3.out⟩
set_option maxRecDepth 100000 in
set_option maxHeartbeats 3200000 in
theorem plays_1l (bh bw : Nat) (vs : List (List E)) (i : Nat) (x : OpL) (w : World) (hp : HistL w bh vs i) (hq : RHistL w bw vs i) (hne : bh ≠ bw) (hr : RdF w x.lv x.l) (hid : ∀ y ∈ x.l, y.1 < 4294967296) (hk : x.kind = 1) (hn : x.nil = false)  :
    Calls Try.prog 33 #[.agg #[.pointer (some ⟨bh, 0, none⟩), .pointer (some ⟨bw, 0, none⟩)], .agg (opCells x).toArray] w fun e w' => e = .returned (.bool true) ∧ PlaysQ bh bw w w' := by
  obtain ⟨kd, xa, xb, x2, xn, xv, xl⟩ := x
  simp only at hk hr hid hn
  subst hk hn
  obtain ⟨sa, sc, hxv, hsc, hrd⟩ := hr
  subst hxv
  have hr : RdF w (.slice sa xl.length sc) xl := ⟨sa, sc, rfl, hsc, hrd⟩
  clear hrd
  have a0 : Below w.heap.size w (w.alloc (.cells #[.pointer (some ⟨bh, 0, none⟩), .pointer (some ⟨bw, 0, none⟩)] 64)) := (Below.refl _ _).alloc (Nat.le_refl _) _
  have b0 : Holds (w.alloc (.cells #[.pointer (some ⟨bh, 0, none⟩), .pointer (some ⟨bw, 0, none⟩)] 64)) w.heap.size (prC bh bw) := Holds.alloc w (prC bh bw) 64
  have a1 : Below (w.alloc (.cells #[.pointer (some ⟨bh, 0, none⟩), .pointer (some ⟨bw, 0, none⟩)] 64)).heap.size (w.alloc (.cells #[.pointer (some ⟨bh, 0, none⟩), .pointer (some ⟨bw, 0, none⟩)] 64)) ((w.alloc (.cells #[.pointer (some ⟨bh, 0, none⟩), .pointer (some ⟨bw, 0, none⟩)] 64)).alloc (.cells (opCells ⟨1, xa, xb, x2, false, .slice sa xl.length sc, xl⟩).toArray 73)) := (Below.refl _ _).alloc (Nat.le_refl _) _
  have b1 := Holds.alloc (w.alloc (.cells #[.pointer (some ⟨bh, 0, none⟩), .pointer (some ⟨bw, 0, none⟩)] 64)) (opCells ⟨1, xa, xb, x2, false, .slice sa xl.length sc, xl⟩) 73
  have hlt := hp.facts.2.2.2
  have hlt2 := hq.facts.2.2.2
  have hil := hp.facts.1
  have hvl := hp.facts.2.1
  have ha := a0.trans (a1.mono a0.size)
  have P0 := Lib.hid (b0.ext a1)
  have O1 : Hid (Holds ((w.alloc (.cells #[.pointer (some ⟨bh, 0, none⟩), .pointer (some ⟨bw, 0, none⟩)] 64)).alloc (.cells (opCells ⟨1, xa, xb, x2, false, .slice sa xl.length sc, xl⟩).toArray 73)) (w.heap.size + 1) (opCells ⟨1, xa, xb, x2, false, .slice sa xl.length sc, xl⟩)) := Lib.hid (by rw [World.size_alloc] at b1; exact b1)
  have H0 := Lib.hid (hp.ext ha)
  have Q0 := Lib.hid (hq.ext ha)
  have F0 := Lib.hid (Frm.of_below (S := [bh, bw]) ha)
  have R0 := Lib.hid (hr.ext ha)
  have HN := Lib.hid hne
  have VL := Lib.hid hp.facts.2.2.1
  have c0 := P0.out.cell (i := 0) rfl
  have c1 := P0.out.cell (i := 1) rfl
  have o0 := O1.out.cell (i := 0) rfl
  have o1 := O1.out.cell (i := 1) rfl
  have o2 := O1.out.cell (i := 2) rfl
  have o4 := O1.out.cell (i := 4) rfl
  have o5 := O1.out.cell (i := 5) rfl
  have HLT := Lib.hid hlt
  have HLT2 := Lib.hid hlt2
  clear a0 b0 a1 b1 ha hp hq hr hne hlt hlt2
  go_enter Try.func33, Try.ntmps33
  go_wp2
  refine rgnH [[0, 2, 3, 1, 4], [5], [6]] [] [1] [⟨w.heap.size, 0, none⟩] (by kernel_rfl) (by simp) ?_ ?_
  · intro p hp
    simp only [List.mem_singleton] at hp
    subst hp
    rw [c0]; rfl
  unfold seg
  simp only [pickL, List.getD_cons_zero, List.getD_cons_succ]
  go_wp2_with fail
  refine (build_any _ xl _ (R0.out.ext (Below.refl _ _).drew) hid).mono ?_
  rintro e w1 ⟨bm, rfl, hm1, hb1⟩
  have hb1' := below_of_drew hb1
  have P1 := Lib.hid (P0.out.ext hb1')
  have X1 := Lib.hid (O1.out.ext hb1')
  have Q1 := Lib.hid (Q0.out.ext hb1')
  have H1 := Lib.hid (H0.out.ext hb1')
  have R1 := Lib.hid (R0.out.ext hb1')
  have F1 := Lib.hid (F0.out.trans (Frm.of_below hb1'))
  have M1 := Lib.hid hm1
  have SM1 := sameAt_pr P0.out P1.out (k := 0) rfl
  clear hb1 hb1' hm1
  go_wp2
  refine ⟨SM1, ?_⟩
  unfold seg
  simp only [pickL, List.getD_cons_zero, List.getD_cons_succ]
  go_wp2_with fail
  refine (push_r bh vs i _ (buildL xl) _ H1.out (.inl ⟨bm, rfl, M1.out⟩) (buildL_len xl)).mono ?_
  rintro e w2 ⟨rfl, hh2, ho2⟩
  have P2 := Lib.hid (ho2.holds P1.out (by have := HLT.out; omega))
  have X2 := Lib.hid (ho2.holds X1.out (by have := HLT.out; omega))
  have Q2 := Lib.hid (Q1.out.onlyB H1.out.blk (fun e => HN.out e.symm) ho2)
  have R2 := Lib.hid (R1.out.only H1.out.blk ho2)
  have F2 := Lib.hid (F1.out.trans (Frm.of_only H1.out.blk (by simp) ho2))
  have H2 := Lib.hid hh2
  have SM2 := sameAt_pr P0.out P2.out (k := 0) rfl
  have p1 := P2.out.cell (i := 1) rfl
  have x5 := X2.out.cell (i := 5) rfl
  clear hh2 ho2
  go_wp2
  refine ⟨SM2, ?_⟩
  unfold seg
  simp only [pickL, List.getD_cons_zero, List.getD_cons_succ]
  go_wp2
  refine ⟨SM2, rfl, ⟨.inl rfl, trivial⟩, ?_⟩
  go_wp2
  refine rgnH [[0, 1, 3, 4, 2, 5], [6], [7], [8, 9]] [8] [2] [⟨w.heap.size, 1, none⟩] (by kernel_rfl) (by simp) ?_ ?_
  · intro p hp
    simp only [List.mem_singleton] at hp
    subst hp
    rw [p1]; rfl
  unfold seg
  simp only [pickL, List.getD_cons_zero, List.getD_cons_succ]
  obtain ⟨_, _, hsv, hsl, hrd⟩ := R2.out
  simp only [Value.slice.injEq, true_and] at hsv
  obtain ⟨rfl, rfl⟩ := hsv
  have RD := Lib.hid hrd
  clear hrd
  go_wp2_with fail
  refine (part_any sa sc xl _ (RD.out.ext (Below.refl _ _).drew) hsc).mono ?_
  rintro e w3 ⟨rfl, hw⟩
  subst hw
  have SM3 : SameAt [⟨w.heap.size, 1, none⟩] w2 w2.drew := fun p hp => rfl
  go_wp2
  refine ⟨SM3, ?_⟩
  unfold seg
  simp only [pickL, List.getD_cons_zero, List.getD_cons_succ]
  obtain ⟨N, hN⟩ : ∃ N, N = min xl.length 200 := ⟨_, rfl⟩
  have hN1 : N ≤ xl.length := by omega
  have hN2 : N ≤ 200 := by omega
  have HNN := Lib.hid (show buildK xl N = buildL xl by rw [hN]; exact buildK_min xl)
  rw [← hN]
  clear hN
  go_wp2_with fail
  refine (of_any sa sc N xl _ (RD.out.ext (Below.refl _ _).drew) hid hN1 hN2).mono ?_
  rintro e w3 ⟨bc, rfl, hm3, hb3⟩
  rw [HNN.out] at hm3
  have hb3' := below_of_drew hb3
  have P3 := Lib.hid (P2.out.ext hb3')
  have Q3 := Lib.hid (Q2.out.ext hb3')
  have H3 := Lib.hid (H2.out.ext hb3')
  have F3 := Lib.hid (F2.out.trans (Frm.of_below hb3'))
  have N3 := Lib.hid hm3
  have SM4 := sameAt_pr P2.out P3.out (k := 1) rfl
  clear hb3 hb3' hm3
  go_wp2
  refine ⟨SM4, ?_⟩
  unfold seg
  simp only [pickL, List.getD_cons_zero, List.getD_cons_succ]
  go_wp2_with fail
  refine (rpush_r bw vs i _ (buildL xl) _ Q3.out (.inl ⟨bc, rfl, N3.out⟩) (buildL_len xl)).mono ?_
  rintro e w4 ⟨rfl, hh4, ho4⟩
  have P4 := Lib.hid (ho4.holds P3.out (by have := HLT2.out; omega))
  have H4 := Lib.hid (H3.out.onlyB Q3.out.blk HN.out ho4)
  have F4 := Lib.hid (F3.out.trans (Frm.of_only Q3.out.blk (by simp) ho4))
  have Q4 := Lib.hid hh4
  have SM5 := sameAt_pr P2.out P4.out (k := 1) rfl
  clear hh4 ho4
  go_wp2
  refine ⟨SM5, ?_⟩
  unfold seg
  simp only [pickL, List.getD_cons_zero, List.getD_cons_succ]
  go_wp2
  refine ⟨SM5, by first | rfl | kernel_rfl, ⟨.inl rfl, trivial⟩, ?_⟩
  go_wp2
  go_returns
  exact ⟨by simp, _, _, H4.out, Q4.out, F4.out⟩
set_option maxRecDepth 100000 in
set_option maxHeartbeats 3200000 in
theorem plays_10 (bh bw : Nat) (vs : List (List E)) (i : Nat) (x : OpL) (w : World) (hp : HistL w bh vs i) (hq : RHistL w bw vs i) (hne : bh ≠ bw) (hr : RdF w x.lv x.l) (hid : ∀ y ∈ x.l, y.1 < 4294967296) (hk : x.kind = 10)  :
    Calls Try.prog 33 #[.agg #[.pointer (some ⟨bh, 0, none⟩), .pointer (some ⟨bw, 0, none⟩)], .agg (opCells x).toArray] w fun e w' => e = .returned (.bool true) ∧ PlaysQ bh bw w w' := by
  obtain ⟨kd, xa, xb, x2, xn, xv, xl⟩ := x
  simp only at hk hr hid
  subst hk
  obtain ⟨sa, sc, hxv, hsc, hrd⟩ := hr
  subst hxv
  have hr : RdF w (.slice sa xl.length sc) xl := ⟨sa, sc, rfl, hsc, hrd⟩
  clear hrd
  have a0 : Below w.heap.size w (w.alloc (.cells #[.pointer (some ⟨bh, 0, none⟩), .pointer (some ⟨bw, 0, none⟩)] 64)) := (Below.refl _ _).alloc (Nat.le_refl _) _
  have b0 : Holds (w.alloc (.cells #[.pointer (some ⟨bh, 0, none⟩), .pointer (some ⟨bw, 0, none⟩)] 64)) w.heap.size (prC bh bw) := Holds.alloc w (prC bh bw) 64
  have a1 : Below (w.alloc (.cells #[.pointer (some ⟨bh, 0, none⟩), .pointer (some ⟨bw, 0, none⟩)] 64)).heap.size (w.alloc (.cells #[.pointer (some ⟨bh, 0, none⟩), .pointer (some ⟨bw, 0, none⟩)] 64)) ((w.alloc (.cells #[.pointer (some ⟨bh, 0, none⟩), .pointer (some ⟨bw, 0, none⟩)] 64)).alloc (.cells (opCells ⟨10, xa, xb, x2, xn, .slice sa xl.length sc, xl⟩).toArray 73)) := (Below.refl _ _).alloc (Nat.le_refl _) _
  have b1 := Holds.alloc (w.alloc (.cells #[.pointer (some ⟨bh, 0, none⟩), .pointer (some ⟨bw, 0, none⟩)] 64)) (opCells ⟨10, xa, xb, x2, xn, .slice sa xl.length sc, xl⟩) 73
  have hlt := hp.facts.2.2.2
  have hlt2 := hq.facts.2.2.2
  have hil := hp.facts.1
  have hvl := hp.facts.2.1
  have ha := a0.trans (a1.mono a0.size)
  have P0 := Lib.hid (b0.ext a1)
  have O1 : Hid (Holds ((w.alloc (.cells #[.pointer (some ⟨bh, 0, none⟩), .pointer (some ⟨bw, 0, none⟩)] 64)).alloc (.cells (opCells ⟨10, xa, xb, x2, xn, .slice sa xl.length sc, xl⟩).toArray 73)) (w.heap.size + 1) (opCells ⟨10, xa, xb, x2, xn, .slice sa xl.length sc, xl⟩)) := Lib.hid (by rw [World.size_alloc] at b1; exact b1)
  have H0 := Lib.hid (hp.ext ha)
  have Q0 := Lib.hid (hq.ext ha)
  have F0 := Lib.hid (Frm.of_below (S := [bh, bw]) ha)
  have R0 := Lib.hid (hr.ext ha)
  have HN := Lib.hid hne
  have VL := Lib.hid hp.facts.2.2.1
  have c0 := P0.out.cell (i := 0) rfl
  have c1 := P0.out.cell (i := 1) rfl
  have o0 := O1.out.cell (i := 0) rfl
  have o1 := O1.out.cell (i := 1) rfl
  have o2 := O1.out.cell (i := 2) rfl
  have o4 := O1.out.cell (i := 4) rfl
  have o5 := O1.out.cell (i := 5) rfl
  have HLT := Lib.hid hlt
  have HLT2 := Lib.hid hlt2
  clear a0 b0 a1 b1 ha hp hq hr hne hlt hlt2
  go_enter Try.func33, Try.ntmps33
  go_wp2
  refine rgnH [[0, 1, 3, 4, 2], [5], [6], [7, 8]] [] [4] [⟨w.heap.size + 1, 5, none⟩] (by kernel_rfl) (by simp) ?_ ?_
  · intro p hp
    simp only [List.mem_singleton] at hp
    subst hp
    rw [o5]; rfl
  unfold seg
  simp only [pickL, List.getD_cons_zero, List.getD_cons_succ]
  go_wp2_with fail
  refine (build_any _ xl _ (R0.out.ext (Below.refl _ _).drew) hid).mono ?_
  rintro e w1 ⟨bm, rfl, hm1, hb1⟩
  have hb1' := below_of_drew hb1
  have P1 := Lib.hid (P0.out.ext hb1')
  have X1 := Lib.hid (O1.out.ext hb1')
  have Q1 := Lib.hid (Q0.out.ext hb1')
  have H1 := Lib.hid (H0.out.ext hb1')
  have R1 := Lib.hid (R0.out.ext hb1')
  have F1 := Lib.hid (F0.out.trans (Frm.of_below hb1'))
  have M1 := Lib.hid hm1
  have SM1 := sameAt_op O1.out X1.out (k := 5) rfl
  clear hb1 hb1' hm1
  go_wp2
  refine ⟨SM1, ?_⟩
  unfold seg
  simp only [pickL, List.getD_cons_zero, List.getD_cons_succ]
  obtain ⟨_, _, hsv, hsl, hrd⟩ := R1.out
  simp only [Value.slice.injEq, true_and] at hsv
  obtain ⟨rfl, rfl⟩ := hsv
  have RD := Lib.hid hrd
  clear hrd
  go_wp2_with fail
  refine (part_any sa sc xl _ RD.out hsc).mono ?_
  rintro e w2 ⟨rfl, hw⟩
  subst hw
  go_wp2
  refine ⟨SM1, ?_⟩
  unfold seg
  simp only [pickL, List.getD_cons_zero, List.getD_cons_succ]
  obtain ⟨N, hN⟩ : ∃ N, N = min xl.length 200 := ⟨_, rfl⟩
  have hN1 : N ≤ xl.length := by omega
  have hN2 : N ≤ 200 := by omega
  have HNN := Lib.hid (show buildK xl N = buildL xl by rw [hN]; exact buildK_min xl)
  rw [← hN]
  clear hN
  go_wp2_with fail
  refine (of_any sa sc N xl _ RD.out hid hN1 hN2).mono ?_
  rintro e w2 ⟨bc, rfl, hm2, hb2⟩
  rw [HNN.out] at hm2
  have P2 := Lib.hid (P1.out.ext hb2)
  have X2 := Lib.hid (X1.out.ext hb2)
  have Q2 := Lib.hid (Q1.out.ext hb2)
  have H2 := Lib.hid (H1.out.ext hb2)
  have F2 := Lib.hid (F1.out.trans (Frm.of_below hb2))
  have M2 := Lib.hid (M1.out.ext hb2)
  have N2 := Lib.hid hm2
  have SM2 := sameAt_op O1.out X2.out (k := 5) rfl
  clear hb2 hm2
  go_wp2
  refine ⟨SM2, ?_⟩
  unfold seg
  simp only [pickL, List.getD_cons_zero, List.getD_cons_succ]
  go_wp2
  refine ⟨SM2, rfl, ⟨.inl rfl, trivial⟩, ?_⟩
  go_wp2
  go_loopw [9] (fun q wr => ∃ k : Nat, k ≤ 2 ∧ q = .int .i64 (k : Int) ∧ ∃ us j, HistL wr bh us j ∧ RHistL wr bw us j ∧ Frm [bh, bw] w2 wr) (fun q _ => 2 - (intOf q).toNat)
  case atStart => exact ⟨0, by omega, rfl, vs, i, H2.out, Q2.out, Frm.of_below (Below.refl _ _)⟩
  case round =>
    obtain ⟨k, hk, rfl, us, j, hh, hq, hf⟩ := hrel
    obtain ⟨wo, rfl⟩ : ∃ x, x = wr := ⟨wr, rfl⟩
    have H3 := Lib.hid hh
    have Q3 := Lib.hid hq
    have F3 := Lib.hid hf
    have P3 := Lib.hid (hf.hold _ _ (prC_not _ _) P2.out)
    have hjl := hh.facts.1
    have hul := hh.facts.2.1
    have UL := Lib.hid hh.facts.2.2.1
    have p0 := P3.out.cell (i := 0) rfl
    have p1 := P3.out.cell (i := 1) rfl
    have HW3 := Lib.hid (show w.heap.size < wo.heap.size from P3.out.lt)
    clear hh hq hf
    by_cases hlt : k < 2
    · have d1 : decide ((k : Int) < 2) = true := by simp; omega
      go_wp2_with fail
      refine (push_r bh us j _ (buildL xl) _ H3.out (.inl ⟨bm, rfl, F3.out.map _ _ M2.out⟩) (buildL_len xl)).mono ?_
      rintro e w4 ⟨rfl, hh4, ho4⟩
      have P4 := Lib.hid (ho4.holds P3.out (by have := HLT.out; omega))
      have Q4 := Lib.hid (Q3.out.onlyB H3.out.blk (fun e => HN.out e.symm) ho4)
      have F4 := Lib.hid (F3.out.trans (Frm.of_only H3.out.blk (by simp) ho4))
      have H4 := Lib.hid hh4
      have q1 := P4.out.cell (i := 1) rfl
      clear hh4 ho4
      go_wp2_with fail
      refine (rpush_r bw us j _ (buildL xl) _ Q4.out (.inl ⟨bc, rfl, F4.out.ref _ _ N2.out⟩) (buildL_len xl)).mono ?_
      rintro e w5 ⟨rfl, hh5, ho5⟩
      have H5 := Lib.hid (HistL.onlyB H4.out Q4.out.blk HN.out ho5)
      have F5 := Lib.hid (F4.out.trans (Frm.of_only Q4.out.blk (by simp) ho5))
      have Q5 := Lib.hid hh5
      clear hh5 ho5
      go_wp2
      go_roundw
      case rel => exact ⟨k + 1, by omega, by go_num, _, _, H5.out, Q5.out, F5.out⟩
      case measure => simp [intOf]; omega
    · have d1 : decide ((k : Int) < 2) = false := by simp; omega
      go_wp2
      refine rgnH [[0, 2, 3, 1, 4], [5], [6]] [] [1] [⟨w.heap.size, 0, none⟩] (by kernel_rfl) (by simp) ?_ ?_
      · intro p hp
        simp only [List.mem_singleton] at hp
        subst hp
        rw [p0]; rfl
      unfold seg
      simp only [pickL, List.getD_cons_zero, List.getD_cons_succ]
      go_wp2_with fail
      refine (now_any bh us j _ (H3.out.ext (Below.refl _ _).drew)).mono ?_
      rintro e w4 ⟨c, l, rfl, hl4, hm4, hb4⟩
      have hb4' := below_of_drew hb4
      have hll : l.length ≤ 200 := UL.out l (List.mem_of_getElem? hl4)
      have P4 := Lib.hid (P3.out.ext hb4')
      have Q4 := Lib.hid (Q3.out.ext hb4')
      have H4 := Lib.hid (H3.out.ext hb4')
      have F4 := Lib.hid (F3.out.trans (Frm.of_below hb4'))
      have M4 := Lib.hid hm4
      have L4 := Lib.hid hl4
      have SM4 := sameAt_pr P3.out P4.out (k := 0) rfl
      clear hb4 hb4' hm4 hl4
      go_wp2
      refine ⟨SM4, ?_⟩
      unfold seg
      simp only [pickL, List.getD_cons_zero, List.getD_cons_succ]
      go_wp2_with fail
      refine (push_r bh us j _ l _ H4.out (.inl ⟨c, rfl, M4.out⟩) hll).mono ?_
      rintro e w5 ⟨rfl, hh5, ho5⟩
      have P5 := Lib.hid (ho5.holds P4.out (by have := HLT.out; omega))
      have Q5 := Lib.hid (Q4.out.onlyB H4.out.blk (fun e => HN.out e.symm) ho5)
      have F5 := Lib.hid (F4.out.trans (Frm.of_only H4.out.blk (by simp) ho5))
      have H5 := Lib.hid hh5
      have SM5 := sameAt_pr P3.out P5.out (k := 0) rfl
      have r1 := P5.out.cell (i := 1) rfl
      clear hh5 ho5
      go_wp2
      refine ⟨SM5, ?_⟩
      unfold seg
      simp only [pickL, List.getD_cons_zero, List.getD_cons_succ]
      go_wp2
      refine ⟨SM5, rfl, ⟨.inl rfl, trivial⟩, ?_⟩
      go_wp2
      refine rgnH [[0, 1, 3, 4, 2, 5], [6], [7, 8]] [7] [2] [⟨w.heap.size, 1, none⟩] (by kernel_rfl) (by simp) ?_ ?_
      · intro p hp
        simp only [List.mem_singleton] at hp
        subst hp
        rw [r1]; rfl
      unfold seg
      simp only [pickL, List.getD_cons_zero, List.getD_cons_succ]
      go_wp2_with fail
      refine (rnow_any bw us j _ (Q5.out.ext (Below.refl _ _).drew)).mono ?_
      rintro e w6 ⟨c', l', rfl, hl6, hm6, hb6⟩
      obtain rfl : l' = l := Option.some.inj (hl6.symm.trans L4.out)
      have hb6' := below_of_drew hb6
      have P6 := Lib.hid (P5.out.ext hb6')
      have Q6 := Lib.hid (Q5.out.ext hb6')
      have H6 := Lib.hid (HistL.ext H5.out hb6')
      have F6 := Lib.hid (F5.out.trans (Frm.of_below hb6'))
      have N6 := Lib.hid hm6
      have SM6 := sameAt_pr P5.out P6.out (k := 1) rfl
      clear hb6 hb6' hm6 hl6
      go_wp2
      refine ⟨SM6, ?_⟩
      unfold seg
      simp only [pickL, List.getD_cons_zero, List.getD_cons_succ]
      go_wp2_with fail
      refine (rpush_r bw us j _ l' _ Q6.out (.inl ⟨c', rfl, N6.out⟩) hll).mono ?_
      rintro e w7 ⟨rfl, hh7, ho7⟩
      have P7 := Lib.hid (ho7.holds P6.out (by have := HLT2.out; omega))
      have H7 := Lib.hid (HistL.onlyB H6.out Q6.out.blk HN.out ho7)
      have F7 := Lib.hid (F2.out.trans (F6.out.trans (Frm.of_only Q6.out.blk (by simp) ho7)))
      have Q7 := Lib.hid hh7
      have SM7 := sameAt_pr P5.out P7.out (k := 1) rfl
      clear hh7 ho7
      go_wp2
      refine ⟨SM7, ?_⟩
      unfold seg
      simp only [pickL, List.getD_cons_zero, List.getD_cons_succ]
      go_wp2
      refine ⟨SM7, by first | rfl | kernel_rfl, ⟨.inl rfl, trivial⟩, ?_⟩
      go_wp2
      go_returns
      exact ⟨by simp, _, _, H7.out, Q7.out, F7.out⟩
/-- Of any kind. -/
theorem pplays_any (bh bw : Nat) (vs : List (List E)) (i : Nat) (x : OpL) (w : World) (hp : HistL w bh vs i) (hq : RHistL w bw vs i) (hne : bh ≠ bw) (hr : RdF w x.lv x.l) (hid : ∀ y ∈ x.l, y.1 < 4294967296) :
    Calls Try.prog 33 #[.agg #[.pointer (some ⟨bh, 0, none⟩), .pointer (some ⟨bw, 0, none⟩)], .agg (opCells x).toArray] w fun e w' => e = .returned (.bool true) ∧ PlaysQ bh bw w w' := by
  by_cases h1 : x.kind = 1
  · cases hn : x.nil with
    | true => exact plays_1n bh bw vs i x w hp hq hne hr hid h1 hn
    | false => exact plays_1l bh bw vs i x w hp hq hne hr hid h1 hn
  by_cases h10 : x.kind = 10
  · exact plays_10 bh bw vs i x w hp hq hne hr hid h10
  by_cases h2 : x.kind = 2
  · cases i with
    | zero => exact plays_2n bh bw vs 0 x w hp hq hne hr hid h2 rfl
    | succ j => exact plays_2t bh bw vs (j + 1) x w hp hq hne hr hid h2 j rfl
  by_cases h3 : x.kind = 3
  · by_cases hj : i + 1 < vs.length
    · exact plays_3t bh bw vs i x w hp hq hne hr hid h3 hj
    · exact plays_3n bh bw vs i x w hp hq hne hr hid h3 (by omega)
  by_cases h4 : x.kind = 4
  · exact plays_4 bh bw vs i x w hp hq hne hr hid h4
  by_cases h5 : x.kind = 5
  · exact plays_5 bh bw vs i x w hp hq hne hr hid h5
  by_cases h6 : x.kind = 6
  · exact plays_6 bh bw vs i x w hp hq hne hr hid h6
  by_cases h7 : x.kind = 7
  · exact plays_7 bh bw vs i x w hp hq hne hr hid h7
  by_cases h8 : x.kind = 8
  · exact plays_8 bh bw vs i x w hp hq hne hr hid h8
  exact plays_x bh bw vs i x w hp hq hne hr hid ⟨h1, h10, h2, h3, h4, h5, h6, h7, h8⟩
end Go.Proofs.Ytmhhejpokgdjoaa
