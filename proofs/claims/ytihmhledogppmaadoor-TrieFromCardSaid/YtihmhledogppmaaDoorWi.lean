/- The walk of levylaw3.within.step: at each entry the map is asked and others are made of it. -/
import Derived.Test.YtihmhledogppmaaDoorMd
import Derived.Deep.DeepCutAuto
import Derived.Deep.CutBlock
namespace Go.Proofs.YtihmhledogppmaaDoor
open Go Go.RowKit
set_option linter.unusedVariables false
set_option linter.unusedSimpArgs false

def wtCells (bm : Nat) (va vp : Value) (id : Nat) (stop : Int) (n : Nat) : List Value := [.pointer (some ⟨bm, 0, none⟩), va, vp, .int .u32 (id : Nat), .int .i64 stop, .int .i64 (n : Nat), .bool false]
set_option maxRecDepth 100000 in
set_option maxHeartbeats 1600000 in
theorem step_any (b bm : Nat) (va vp : Value) (id : Nat) (stop : Int) (l pre post : List (Nat × V)) (x : Nat × V) (w0 w : World) (hl : l = pre ++ x :: post) (hM : MapL w0 bm l)
    (hA : Rd w0 3 encL va l) (hP : Rd w0 3 encL vp (cutL (fromL id l) stop)) (hid : id < 4294967296) (hn : l.length ≤ 5000) (hb : b = w0.heap.size) (hB : Below b w0 w) (hH : Holds w b (wtCells bm va vp id stop pre.length)) :
    Calls Tryd.prog 22 #[.pointer (some ⟨b, 0, none⟩), .int .u32 (x.1 : Nat), .agg #[.int .i64 x.2.k, .int .i64 x.2.n]] w fun e w' =>
      e = .returned (.bool true) ∧ Below b w0 w' ∧ Holds w' b (wtCells bm va vp id stop (pre.length + 1)) ∧ ∀ k, k < w.heap.size → k ≠ b → w'.heap[k]? = w.heap[k]? := by
  subst hb
  have hx1 : x.1 < 4294967296 := hM.keys x (by rw [hl]; simp)
  have hpl : pre.length < l.length := by rw [hl]; simp
  have e1 : l[pre.length]? = some x := by rw [hl]; simp
  have hplen : (cutL (fromL id l) stop).length ≤ 5000 := by
    have h1 : (fromL id l).length ≤ l.length := List.length_filter_le _ _
    unfold cutL
    split
    · omega
    · rw [List.length_take]; omega
  have hAr := hA
  obtain ⟨aa, ac, rfl, hAa⟩ := hA
  rcases hAa with hnil | ⟨vb, vo, rfl, hvb, hcv⟩
  · rw [hnil] at hpl; simp at hpl
  have f0 := (hB.cell (p := ⟨vb, _, none⟩) hvb).trans (hcv _ _ 0 _ e1 rfl)
  have f1 := (hB.cell (p := ⟨vb, _, none⟩) hvb).trans (hcv _ _ 1 _ e1 rfl)
  have f2 := (hB.cell (p := ⟨vb, _, none⟩) hvb).trans (hcv _ _ 2 _ e1 rfl)
  simp only [Nat.add_zero] at f0
  have h0 := hH.cell (i := 0) rfl
  have h1 := hH.cell (i := 1) rfl
  have h2 := hH.cell (i := 2) rfl
  have h3 := hH.cell (i := 3) rfl
  have h4 := hH.cell (i := 4) rfl
  have h5 := hH.cell (i := 5) rfl
  have h6 := hH.cell (i := 6) rfl
  have hlt := hH.lt
  have hszB := hB.size
  have hvbw : vb < w.heap.size := by omega
  have d1 : decide (l.length ≤ pre.length) = false := by simp; omega
  have HH := Lib.hid hH
  have HM := Lib.hid hM
  have HP := Lib.hid hP
  have HA := Lib.hid hAr
  have HL := Lib.hid hl
  have HE := Lib.hid e1
  have HB := Lib.hid hB
  clear hH hM hP hAr hl hcv e1 hB hszB
  obtain ⟨xid, ⟨xk, xn⟩⟩ := x
  go_enter Tryd.func22, Tryd.ntmps22
  go_upto_region 1 with fail
  go_cut [49] (fun c wc => c = .bool false ∧ Below w.heap.size w wc)
  case first =>
   as_aux_lemma =>
    refine rgn [0, 1, 2, 3, 4, 5, 6, 7, 8, 9, 10, 11, 12, 13, 14, 15, 16, 17, 18, 19, 20, 21, 22, 23, 24, 25, 26, 27, 28, 29, 30, 31, 32, 33, 34, 35, 36, 37, 38, 39, 40] [8, 9, 23] (by kernel_rfl) ?_
    simp only [pickL, List.getD_cons_zero, List.getD_cons_succ]
    go_wp2_with fail
    refine (sameValue_any ⟨xk, xn⟩ ⟨xk, xn⟩ _).mono ?_
    rintro e w1 ⟨rfl, hb1⟩
    rw [decide_eq_true (rfl : (⟨xk, xn⟩ : V) = ⟨xk, xn⟩)]
    go_wp2
    refine ⟨?_, ?_⟩
    · simp [chkD, dyn, Region.wanted, yielded, Act.eval, scalarV]
    have g1 : Below w.heap.size w w1 := by
      have hq := below_of_drew hb1
      have hq2 : Below w.heap.size _ w1 := hq.mono (by simp)
      exact ((Below.refl w.heap.size w).alloc (Nat.le_refl _) _).trans hq2
    go_wp2
    go_meet
    case rel => exact ⟨rfl, g1⟩
  case rest =>
  obtain ⟨rfl, g1⟩ := hcut
  obtain ⟨w1, rfl⟩ : ∃ x, x = wc := ⟨wc, rfl⟩
  clear h0 h1 h2 h3 h4 h5 h6 f0 f1 f2
  have k0 := (HH.out.ext g1).cell (i := 0) rfl
  have M1 := HM.out.ext (HB.out.trans (g1.mono HB.out.size))
  go_wp2_with fail
  refine (put_l bm xid l ⟨3, 1⟩ w1 M1 (by omega) hx1).mono ?_
  rintro e w2 ⟨b2, rfl, _, hb2⟩
  have g2 : Below w.heap.size w w2 := g1.trans (hb2.mono g1.size)
  have k1 := (HH.out.ext g2).cell (i := 0) rfl
  have M2 := HM.out.ext (HB.out.trans (g2.mono HB.out.size))
  clear hb2
  go_wp2_with fail
  refine (drop_l bm xid l ⟨0, 0⟩ w2 M2 (by omega) hx1).mono ?_
  rintro e w3 ⟨b3, rfl, _, hb3⟩
  have g3 : Below w.heap.size w w3 := g2.trans (hb3.mono g2.size)
  have H3 := HH.out.ext g3
  have m0 := H3.cell (i := 0) rfl
  have m2 := H3.cell (i := 2) rfl
  have m3 := H3.cell (i := 3) rfl
  have m4 := H3.cell (i := 4) rfl
  have m5 := H3.cell (i := 5) rfl
  have m6 := H3.cell (i := 6) rfl
  have hlt3 := H3.lt
  have HH3 := Lib.hid H3
  have M3 := Lib.hid (HM.out.ext (HB.out.trans (g3.mono HB.out.size)))
  clear hb3 H3 M1 M2 k0 k1
  have fin : ∀ W, Below w.heap.size w W → W.cell? ⟨w0.heap.size, 5, none⟩ = some (.int .i64 (pre.length : Nat)) ∧ W.frozen? ⟨w0.heap.size, 5, none⟩ = false ∧ W.cell? ⟨w0.heap.size, 6, none⟩ = some (.bool false) ∧ w0.heap.size < W.heap.size ∧
      Below w0.heap.size w0 (W.setCell ⟨w0.heap.size, 5, none⟩ (.int .i64 ((pre.length : Int) + 1))) ∧ Holds (W.setCell ⟨w0.heap.size, 5, none⟩ (.int .i64 ((pre.length : Int) + 1))) w0.heap.size (wtCells bm (.slice (some ⟨vb, vo, none⟩) l.length ac) vp id stop (pre.length + 1)) ∧ (∀ k, k < w.heap.size → k ≠ w0.heap.size → (W.setCell ⟨w0.heap.size, 5, none⟩ (.int .i64 ((pre.length : Int) + 1))).heap[k]? = w.heap[k]?) := by
    intro W hW
    have hh := HH.out.ext hW
    refine ⟨hh.cell (i := 5) rfl, hh.free 5, hh.cell (i := 6) rfl, hh.lt, ?_, ?_, ?_⟩
    · exact (HB.out.trans (hW.mono HB.out.size)).trans ((Upd.setCell _).below (Nat.le_refl _))
    · have := hh.setCell (i := 5) (.int .i64 ((pre.length : Int) + 1))
      simpa [wtCells] using this
    · intro k hk hne
      exact ((Upd.setCell _).block k hne).trans (hW.block k hk)
  have FIN := Lib.hid fin
  clear fin
  go_upto_region 6 with fail
  go_cut [99] (fun c wc => c = .bool false ∧ Below w.heap.size w wc)
  case first =>
   as_aux_lemma =>
    by_cases h20 : pre.length < 20
    · have d2 : decide ((pre.length : Int) < 20) = true := by simpa using by omega
      refine rgnH [[0, 1, 2, 3, 4, 5, 6, 7, 8, 9, 10, 11, 12, 13, 14, 15, 16, 17, 18, 19, 20, 21, 22, 23, 24, 26, 27, 28, 29, 25], [30], [31, 32, 33]] [4, 7, 10] [29] [⟨w0.heap.size, 2, none⟩] (by kernel_rfl) (by simp) ?_ ?_
      · intro p hp
        simp only [List.mem_singleton] at hp
        subst hp
        rw [m2]; rfl
      unfold seg
      simp only [pickL, List.getD_cons_zero, List.getD_cons_succ]
      go_wp2_with fail
      refine (from_l bm id l stop _ hid (M3.out.ext (Below.refl _ _).drew) (by omega)).mono ?_
      rintro e w4 ⟨es, rfl, ho, hb4⟩
      have g4 : Below w.heap.size w w4 := g3.trans ((below_of_drew hb4).mono g3.size)
      have n2 := (HH.out.ext g4).cell (i := 2) rfl
      have P4 := HP.out.ext (HB.out.trans (g4.mono HB.out.size))
      have SM : ∀ W, Below w.heap.size w W → SameAt [⟨w0.heap.size, 2, none⟩] w3 W := by
        intro W hW p hp
        simp only [List.mem_singleton] at hp
        subst hp
        rw [m2, (HH.out.ext hW).cell (i := 2) rfl]
      obtain ⟨es0, en, ec, rfl⟩ := ho.shape
      go_wp2
      refine ⟨SM _ g4, ?_⟩
      unfold seg
      simp only [pickL, List.getD_cons_zero, List.getD_cons_succ]
      go_wp2_with fail
      refine (sameEntries_any _ _ _ _ _ (ho.rd encL_len) P4 (by omega) (by omega)).mono ?_
      rintro e w5 ⟨rfl, hb5⟩
      rw [decide_eq_true rfl]
      have g5 : Below w.heap.size w w5 := g4.trans (hb5.mono g4.size)
      go_wp2
      refine ⟨SM _ g5, ?_⟩
      unfold seg
      simp only [pickL, List.getD_cons_zero, List.getD_cons_succ]
      go_wp2
      refine ⟨SM _ g5, ?_, ⟨.inl rfl, trivial⟩, ?_⟩
      · simp [chkD, dyn, Region.wanted, yielded, Act.eval, scalarV, nilC]
      go_wp2
      go_meet
      case rel => exact ⟨rfl, g5⟩
    · have d2 : decide ((pre.length : Int) < 20) = false := by simpa using by omega
      have SM : SameAt [⟨w0.heap.size, 2, none⟩] w3 w3.drew := fun p hp => rfl
      refine rgnH [[0, 1, 2, 3, 4, 5, 6, 7, 8, 9, 10, 11, 12, 13, 14, 15, 16, 17, 18, 19, 20, 21, 22, 23, 24, 26, 27, 28, 29, 25], [30], [31, 32, 33]] [4, 7, 10] [29] [⟨w0.heap.size, 2, none⟩] (by kernel_rfl) (by simp) ?_ ?_
      · intro p hp
        simp only [List.mem_singleton] at hp
        subst hp
        rw [m2]; rfl
      unfold seg
      simp only [pickL, List.getD_cons_zero, List.getD_cons_succ]
      go_wp2
      refine ⟨SM, ?_⟩
      unfold seg
      simp only [pickL, List.getD_cons_zero, List.getD_cons_succ]
      go_wp2
      refine ⟨SM, ?_⟩
      unfold seg
      simp only [pickL, List.getD_cons_zero, List.getD_cons_succ]
      go_wp2
      refine ⟨SM, ?_, ⟨?_, trivial⟩, ?_⟩
      · simp [chkD, dyn, Region.wanted, yielded, Act.eval, scalarV, nilC]
      · first | exact .inl rfl | exact .inr rfl | (left; trace_state; sorry)
      go_wp2
      go_meet
      case rel => exact ⟨rfl, g3.drew⟩
  case rest =>
    obtain ⟨rfl, g5⟩ := hcut
    obtain ⟨q0, q1, q2, q3, q4, q5, q6⟩ := FIN.out wc g5
    have Q4 := Lib.hid q4
    have Q5 := Lib.hid q5
    have Q6 := Lib.hid q6
    clear q4 q5 q6
    go_wp2
    go_returns
    exact ⟨rfl, Q4.out, Q5.out, Q6.out⟩
end Go.Proofs.YtihmhledogppmaaDoor
