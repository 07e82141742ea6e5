/- The walks of a pair's steps, touched, keys. -/
import Derived.Test.YtmhhejpokgdjoaaJf
namespace Go.Proofs.Ytmhhejpokgdjoaa
open Go Go.RowKit
set_option linter.unusedVariables false
set_option linter.unusedSimpArgs false
attribute [local go_sem] Oper.semAt_some

set_option maxRecDepth 100000 in
set_option maxHeartbeats 1600000 in
theorem psteps_any (bh bw : Nat) (ps qs : List (Nat × List E)) (i : Nat) (stop : Int) (w : World) (hp : HistP w bh ps i) (hq : RHistP w bw qs i) (he : ps.map (·.2) = qs.map (·.2)) :
    Calls Try.prog 34 #[.agg #[.pointer (some ⟨bh, 0, none⟩), .pointer (some ⟨bw, 0, none⟩)], .int .i64 stop] w fun e w' => e = .returned (.bool true) ∧ Below w.heap.size w w' := by
  have hal : Below w.heap.size w (w.alloc (.cells (prC bh bw).toArray 64)) := (Below.refl _ _).alloc (Nat.le_refl _) _
  have hbx := Holds.alloc w (prC bh bw) 64
  have c0 := hbx.cell (i := 0) rfl
  have c1 := hbx.cell (i := 1) rfl
  have HT := Lib.hid (fun W (hW : Below w.heap.size w W) => through_any bh bw ps qs i stop W (hp.ext hW) (hq.ext hW) he)
  have HA := Lib.hid hal
  clear hal hbx hp hq he
  go_enter Try.func34, Try.ntmps34
  go_wp2
  refine rgnT (.seg [1, 2, 4] (.two 0 3 (.seg [3, 5, 6] .fin) (.seg [0, 5, 6] .fin))) [] [] [] (by kernel_rfl) (by simp) ?_ ?_
  · intro p hp; cases hp
  unfold pl
  simp only [pickL, List.getD_cons_zero, List.getD_cons_succ]
  go_wp2
  refine ⟨fun p hp => (by cases hp), ?_⟩
  unfold pl
  refine ⟨?_, ?_⟩
  · simp only [pickL, List.getD_cons_zero, List.getD_cons_succ]
    go_wp2
    refine ⟨fun p hp => (by cases hp), ?_⟩
    unfold pl
    simp only [pickL, List.getD_cons_zero, List.getD_cons_succ]
    go_wp2_with fail
    refine (steps_make bh _).mono ?_
    rintro e w1 ⟨rfl, hw⟩
    subst hw
    go_wp2_with fail
    refine (HT.out _ HA.out.drew).mono ?_
    rintro e w2 ⟨rfl, hb2⟩
    have HB2 := Lib.hid (HA.out.drew.trans (hb2.mono HA.out.size))
    clear hb2
    go_wp2
    refine ⟨fun p hp => (by cases hp), ?_⟩
    unfold pl
    refine ⟨rfl, trivial, ?_⟩
    go_wp2
    go_returns
    exact ⟨rfl, HB2.out⟩
  · simp only [pickL, List.getD_cons_zero, List.getD_cons_succ]
    go_wp2_with fail
    refine (steps_make bh _).mono ?_
    rintro e w1 ⟨rfl, hw⟩
    subst hw
    go_wp2
    refine ⟨fun p hp => (by cases hp), ?_⟩
    unfold pl
    simp only [pickL, List.getD_cons_zero, List.getD_cons_succ]
    go_wp2_with fail
    refine (HT.out _ HA.out.drew).mono ?_
    rintro e w2 ⟨rfl, hb2⟩
    have HB2 := Lib.hid (HA.out.drew.trans (hb2.mono HA.out.size))
    clear hb2
    go_wp2
    refine ⟨fun p hp => (by cases hp), ?_⟩
    unfold pl
    refine ⟨rfl, trivial, ?_⟩
    go_wp2
    go_returns
    exact ⟨rfl, HB2.out⟩
theorem cutV_one (xs : List Nat) : cutV xs 1 = xs.take 1 := rfl
theorem cutV_zero (xs : List Nat) : cutV xs 0 = xs := rfl
set_option maxRecDepth 100000 in
set_option maxHeartbeats 3200000 in
theorem pkeys_any (bh bw : Nat) (ps qs : List (Nat × List E)) (i : Nat) (na nb : Int) (B1 B2 B3 : Nat) (w : World) (hp : HistP w bh ps i) (hq : RHistP w bw qs i) (he : ps.map (·.2) = qs.map (·.2))
    (h1 : Holds w B1 [.pointer (some ⟨bh, 0, none⟩)]) (h2 : Holds w B2 [.int .i64 na]) (h3 : Holds w B3 [.int .i64 nb]) :
    Calls Try.prog 36 #[.agg #[.pointer (some ⟨bh, 0, none⟩), .pointer (some ⟨bw, 0, none⟩)], .func (.func 51) #[] #[.pointer (some ⟨B1, 0, none⟩), .pointer (some ⟨B2, 0, none⟩), .pointer (some ⟨B3, 0, none⟩)], .int .i64 na, .int .i64 nb] w fun e w' => e = .returned (.bool true) ∧ Below w.heap.size w w' := by
  have hal : Below w.heap.size w (w.alloc (.cells (prC bh bw).toArray 64)) := (Below.refl _ _).alloc (Nat.le_refl _) _
  have hbx := Holds.alloc w (prC bh bw) 64
  have c1 := hbx.cell (i := 1) rfl
  have HA := Lib.hid hal
  have hrt := Lib.hid (rtouched_any bw qs i na nb _ (hq.ext hal))
  have hkl : ∀ xs, TouchH qs i na nb xs → ∀ (most : Int) W, Below w.heap.size w W → Calls Try.prog 47 #[.func (.func 51) #[] #[.pointer (some ⟨B1, 0, none⟩), .pointer (some ⟨B2, 0, none⟩), .pointer (some ⟨B3, 0, none⟩)], .int .i64 most] W fun e w' => ∃ es, e = .returned (.tuple #[es, .bool true]) ∧ Own w' W.heap.size 48 1 encK es (cutV xs most) ∧ Below W.heap.size W w' := by
    intro xs hx most W hW
    obtain ⟨ys, hy, hG⟩ := touched_gives bh ps i na nb B1 B2 B3 W (hp.ext hW) (h1.ext hW) (h2.ext hW) (h3.ext hW)
    rw [← touchH_eq he hy hx]
    exact keyList_any _ _ _ ys most W hG
  have hlen : ∀ xs, TouchH qs i na nb xs → xs.length ≤ 400 := fun xs hx => hx.len hq.small
  have HKL := Lib.hid hkl
  have HLEN := Lib.hid hlen
  clear hal hbx hp hq he h1 h2 h3 hkl hlen
  go_enter Try.func36, Try.ntmps36
  go_wp2_with fail
  refine hrt.out.mono ?_
  rintro e w1 ⟨ws, xs, hx, rfl, hO1, hb1⟩
  obtain ⟨wa, wc, rfl, _⟩ := own_len hO1
  have hxl := HLEN.out xs hx
  have HX := Lib.hid hx
  have HO1 := Lib.hid (hO1.rd encK_len)
  have HB1 := Lib.hid (HA.out.trans (hb1.mono HA.out.size))
  clear hO1 hb1 hx hrt c1
  go_wp2_with fail
  refine (HKL.out xs HX.out 1 w1 HB1.out).mono ?_
  rintro e w2 ⟨os, rfl, hO2, hb2⟩
  rw [cutV_one] at hO2
  obtain ⟨oa, oc, rfl, _⟩ := own_len hO2
  obtain ⟨n1, hn1⟩ : ∃ n1, n1 = (xs.take 1).length := ⟨_, rfl⟩
  have HO2 := Lib.hid (hO2.rd encK_len)
  rw [← hn1] at HO2 ⊢
  have HN1 := Lib.hid hn1
  clear hn1
  have R2 := Lib.hid (HO1.out.ext hb2)
  have HB2 := Lib.hid (HB1.out.trans (hb2.mono HB1.out.size))
  clear hO2 hb2
  go_wp2_with fail
  refine (HKL.out xs HX.out 0 w2 HB2.out).mono ?_
  rintro e w3 ⟨al, rfl, hO3, hb3⟩
  rw [cutV_zero] at hO3
  obtain ⟨aa, ac, rfl, _⟩ := own_len hO3
  have HO3 := Lib.hid (hO3.rd encK_len)
  have O3 := Lib.hid (HO2.out.ext hb3)
  have R3 := Lib.hid (R2.out.ext hb3)
  have HB3 := Lib.hid (HB2.out.trans (hb3.mono HB2.out.size))
  clear hO3 hb3
  go_upto_region 4 with fail
  go_cut [64] (fun v w' => v = .bool false ∧ w' = w3.drew)
  case first =>
    cases xs with
    | nil =>
      obtain rfl : n1 = 0 := HN1.out
      simp only [List.length_nil]
      refine rgn [0, 1, 2, 3, 4, 5, 6, 7, 8, 9, 10, 11, 12, 13, 14, 15, 16, 17, 18, 19, 20, 21, 22, 23, 24, 25, 26, 27, 28, 29, 30, 31, 32, 33, 34] [8, 10, 11, 15, 17, 19, 23, 24, 32] (ord_fast (by kernel_rfl)) ?_
      simp only [pickL, List.getD_cons_zero, List.getD_cons_succ]
      go_wp2
      try refine ⟨by first | rfl | kernel_rfl | (simp [chkD, dyn, Region.wanted, yielded, Act.eval, scalarV]), ?_⟩
      go_wp2
      go_meet
      case rel => exact ⟨rfl, rfl⟩
    | cons x xs =>
      obtain ⟨go, oo, rfl, hgo, f0⟩ := rdK_at O3.out (k := 0) (x := x) rfl
      obtain ⟨gw, ow, rfl, hgw, f1⟩ := rdK_at R3.out (k := 0) (x := x) rfl
      simp only [Nat.add_zero] at f0 f1
      obtain rfl : n1 = 1 := HN1.out.trans (by simp)
      have d1 : decide ((xs.length : Int) + 1 < 1) = false := by simp; omega
      simp only [List.length_cons]
      refine rgn [0, 1, 2, 3, 4, 5, 6, 7, 8, 9, 10, 11, 12, 13, 14, 15, 16, 17, 18, 19, 20, 21, 22, 23, 24, 25, 26, 27, 28, 29, 30, 31, 32, 33, 34] [8, 10, 11, 15, 17, 19, 23, 24, 32] (ord_fast (by kernel_rfl)) ?_
      simp only [pickL, List.getD_cons_zero, List.getD_cons_succ]
      go_wp2
      try refine ⟨by first | rfl | kernel_rfl | (simp [chkD, dyn, Region.wanted, yielded, Act.eval, scalarV]), ?_⟩
      go_wp2
      go_meet
      case rel => exact ⟨rfl, rfl⟩
  case rest =>
  obtain ⟨rfl, hw⟩ := hcut
  subst hw
  go_wp2
  go_loopw [14] (fun k wr => ∃ m : Nat, m ≤ xs.length ∧ k = .int .i64 (m : Int) ∧ Below w3.heap.size w3 wr) (fun k _ => xs.length - (intOf k).toNat)
  case atStart => exact ⟨0, by omega, rfl, (Below.refl _ _).drew⟩
  case round =>
    obtain ⟨m, hm, rfl, hb⟩ := hrel
    by_cases hlt : m < xs.length
    · have e1 : xs[m]? = some xs[m] := List.getElem?_eq_getElem hlt
      generalize xs[m] = x at e1
      obtain ⟨g1, o1, rfl, hg1, f1⟩ := rdK_at (HO3.out.ext hb) e1
      obtain ⟨g2, o2, rfl, hg2, f2⟩ := rdK_at (R3.out.ext hb) e1
      have HB := Lib.hid hb
      clear e1 hb
      go_wp2
      refine rgn [0, 1, 2, 3, 4, 5, 6, 7, 8] [8] (by kernel_rfl) ?_
      simp only [pickL, List.getD_cons_zero, List.getD_cons_succ]
      go_wp2
      try refine ⟨by simp [chkD, dyn, Region.wanted, yielded, Act.eval, scalarV], ?_⟩
      go_wp2
      go_roundw
      case rel => exact ⟨m + 1, by omega, by go_num, HB.out.drew⟩
      case measure => simp [intOf]; omega
    · have hno : decide ((m : Int) < (xs.length : Int)) = false := by simp; omega
      have HB := Lib.hid (HB3.out.trans (hb.mono HB3.out.size))
      clear hb
      go_wp2
      go_returns
      exact ⟨rfl, HB.out⟩
theorem touched_b (b : Nat) (na nb : Int) (w : World) : Calls Try.prog 31 #[.pointer (some ⟨b, 0, none⟩), .int .i64 na, .int .i64 nb] w fun e w' =>
    ∃ B1 B2 B3, e = .returned (.func (.func 51) #[] #[.pointer (some ⟨B1, 0, none⟩), .pointer (some ⟨B2, 0, none⟩), .pointer (some ⟨B3, 0, none⟩)]) ∧ Below w.heap.size w w' ∧ Holds w' B1 [.pointer (some ⟨b, 0, none⟩)] ∧ Holds w' B2 [.int .i64 na] ∧ Holds w' B3 [.int .i64 nb] :=
  (touched_any b na nb w).mono fun e w' ⟨h1, h2, h3, h4, h5⟩ => ⟨_, _, _, h1, h2, h3, h4, h5⟩
set_option maxRecDepth 100000 in
set_option maxHeartbeats 1600000 in
theorem ptouched_any (bh bw : Nat) (ps qs : List (Nat × List E)) (i : Nat) (na nb : Int) (w : World) (hp : HistP w bh ps i) (hq : RHistP w bw qs i) (he : ps.map (·.2) = qs.map (·.2)) :
    Calls Try.prog 61 #[.agg #[.pointer (some ⟨bh, 0, none⟩), .pointer (some ⟨bw, 0, none⟩)], .int .i64 na, .int .i64 nb] w fun e w' => e = .returned (.bool true) ∧ Below w.heap.size w w' := by
  have hal : Below w.heap.size w (w.alloc (.cells (prC bh bw).toArray 64)) := (Below.refl _ _).alloc (Nat.le_refl _) _
  have hbx := Holds.alloc w (prC bh bw) 64
  have c0 := hbx.cell (i := 0) rfl
  have c1 := hbx.cell (i := 1) rfl
  have HT := Lib.hid (fun (B1 B2 B3 : Nat) W (hW : Below w.heap.size w W) h1 h2 h3 => pkeys_any bh bw ps qs i na nb B1 B2 B3 W (hp.ext hW) (hq.ext hW) he h1 h2 h3)
  have HA := Lib.hid hal
  have HBX := Lib.hid hbx
  clear hal hbx hp hq he
  go_enter Try.func61, Try.ntmps61
  go_wp2
  refine rgnT (.seg [1, 2, 3, 4, 6, 7] (.two 0 5 (.seg [5, 8, 9] .fin) (.seg [0, 8, 9] .fin))) [] [] [] (by kernel_rfl) (by simp) ?_ ?_
  · intro p hp; cases hp
  unfold pl
  simp only [pickL, List.getD_cons_zero, List.getD_cons_succ]
  go_wp2
  refine ⟨fun p hp => (by cases hp), ?_⟩
  unfold pl
  refine ⟨?_, ?_⟩
  · simp only [pickL, List.getD_cons_zero, List.getD_cons_succ]
    go_wp2
    refine ⟨fun p hp => (by cases hp), ?_⟩
    unfold pl
    simp only [pickL, List.getD_cons_zero, List.getD_cons_succ]
    go_wp2_with fail
    refine (touched_b bh na nb _).mono ?_
    rintro e w1 ⟨B1, B2, B3, rfl, hb1, q1, q2, q3⟩
    have HB1 := Lib.hid (HA.out.drew.trans (hb1.mono HA.out.size))
    have hk := Lib.hid (HT.out _ _ _ w1 HB1.out q1 q2 q3)
    clear hb1 q1 q2 q3
    go_wp2_with fail
    refine hk.out.mono ?_
    rintro e w2 ⟨rfl, hb2⟩
    have HB2 := Lib.hid (HB1.out.trans (hb2.mono HB1.out.size))
    clear hb2
    go_wp2
    refine ⟨fun p hp => (by cases hp), ?_⟩
    unfold pl
    refine ⟨rfl, trivial, ?_⟩
    go_wp2
    go_returns
    exact ⟨rfl, HB2.out⟩
  · simp only [pickL, List.getD_cons_zero, List.getD_cons_succ]
    go_wp2_with fail
    refine (touched_b bh na nb _).mono ?_
    rintro e w1 ⟨B1, B2, B3, rfl, hb1, q1, q2, q3⟩
    have HB1 := Lib.hid (HA.out.drew.trans (hb1.mono HA.out.size))
    have hk := Lib.hid (HT.out _ _ _ w1 HB1.out q1 q2 q3)
    have b1 := HBX.out.ext (below_of_drew hb1)
    have c0' := b1.cell (i := 0) rfl
    have c1' := b1.cell (i := 1) rfl
    clear hb1 q1 q2 q3 b1
    go_wp2
    refine ⟨fun p hp => (by cases hp), ?_⟩
    unfold pl
    simp only [pickL, List.getD_cons_zero, List.getD_cons_succ]
    go_wp2_with fail
    refine hk.out.mono ?_
    rintro e w2 ⟨rfl, hb2⟩
    have HB2 := Lib.hid (HB1.out.trans (hb2.mono HB1.out.size))
    clear hb2
    go_wp2
    refine ⟨fun p hp => (by cases hp), ?_⟩
    unfold pl
    refine ⟨rfl, trivial, ?_⟩
    go_wp2
    go_returns
    exact ⟨rfl, HB2.out⟩
end Go.Proofs.Ytmhhejpokgdjoaa
