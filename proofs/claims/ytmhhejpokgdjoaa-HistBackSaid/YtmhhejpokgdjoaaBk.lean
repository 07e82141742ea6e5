/- The walk of levylaw11.HistBack. -/
import Derived.Test.YtmhhejpokgdjoaaKh
namespace Go.Proofs.Ytmhhejpokgdjoaa
open Go Go.RowKit
set_option linter.unusedVariables false
set_option linter.unusedSimpArgs false

theorem neq_pm_nn (w : World) : (binOp .neq 29 (.pointer none) (.pointer none)).run Try.prog w = .ok (.bool false) w := by
  have hp : Try.prog.underlying 29 = some (.pointer 100) := by kernel_rfl
  have h : ∀ d : Nat, (Op.equalIn (d + 1) 29 (.pointer none) (.pointer none)).run Try.prog w = .ok true w := fun d => by
    simp [Op.equalIn, run_underlying hp]
  simp only [binOp]
  simp [Op.equal, Op.maxDepth, h 9999]
theorem hist_ne {w : World} {b : Nat} {vs : List (List E)} {i : Nat} (h : HistL w b vs i) {k : Nat} {l : List E} (hk : vs[k]? = some l) : l.length ≤ 200 := h.facts.2.2.1 l (List.mem_of_getElem? hk)
set_option maxRecDepth 100000 in
set_option maxHeartbeats 16000000 in
theorem histBack_any (v0 v1 : Value) (script : List OpL) (l : List E) (w : World) (hsc : Script w v0 script) (hr : RdF w v1 l) (hid : ∀ x ∈ l, x.1 < 4294967296) :
    Calls Try.prog 3 #[v0, v1] w fun e w' => e = .returned (.bool true) ∧ Below w.heap.size w w' := by
  have ep := fun b W => eql_ph_nil ⟨b, 0, none⟩ W
  have em := fun b W => eql_pm_nil ⟨b, 0, none⟩ W
  have en := fun W => eql_pm_nn W
  have en2 := fun W => neq_pm_nn W
  have SC := Lib.hid hsc
  have HR := Lib.hid hr
  have HID := Lib.hid hid
  obtain ⟨a0, c0, rfl, _⟩ := hsc.rd
  obtain ⟨a1, c1, rfl, _⟩ := hr
  clear hsc hid
  go_enter Try.func3, Try.ntmps3
  go_wp2_with fail
  refine (known_any w).mono ?_
  rintro e w1 ⟨rfl, hb1⟩
  have B1 := Lib.hid hb1
  clear hb1
  go_wp2_with fail
  refine (new_any _ [] w1 (.inr ⟨rfl, rfl⟩) (by simp)).mono ?_
  rintro e w2 ⟨b, rfl, hh, hge, hb2⟩
  have H2 := Lib.hid hh
  have B2 := Lib.hid (B1.out.trans (hb2.mono B1.out.size))
  have hwb : Hid (w.heap.size ≤ b) := Lib.hid (by have := B1.out.size; omega)
  clear hh hb2 hge B1
  go_wp2_with fail
  refine (plays_any b ([[]], 0) _ script w w2 H2.out SC.out B2.out hwb.out).mono ?_
  rintro e w3 ⟨⟨v, rfl⟩, hh, ho⟩
  generalize playsH script ([[]], 0) = S at hh
  obtain ⟨vs, i⟩ := S
  have hfac := HistL.facts hh
  have hfac1 := hfac.1
  have hfac2 := hfac.2.1
  have H3 := Lib.hid (show HistL w3 b vs i from hh)
  have O3 := Lib.hid ho
  clear hh ho hfac H2 SC
  go_wp2_with fail
  refine (now_any b vs i w3 H3.out).mono ?_
  rintro e w4 ⟨c4, l4, rfl, hl, hm, hb4⟩
  have hl4 := hist_ne H3.out hl
  have H4 := Lib.hid (H3.out.ext hb4)
  have O4 := Lib.hid (O3.out.trans (Only.of_below hb4))
  have M4 := Lib.hid hm
  have V4 := Lib.hid hl
  clear hm hb4 hl H3 O3
  go_wp2_with fail
  refine (entries_any _ l4 w4 (.inl ⟨c4, rfl, M4.out⟩) (by omega)).mono ?_
  rintro e w5 ⟨es, rfl, hO, hb5⟩
  obtain ⟨z1, z2, hv, _⟩ := own_fits hO
  subst hv
  have hbb : b < w4.heap.size := H4.out.facts.2.2.2
  have H5 := Lib.hid (H4.out.ext hb5)
  have O5 := Lib.hid (O4.out.trans (Only.of_below hb5))
  have W5 := Lib.hid hO
  clear hO hb5 H4 O4 M4
  go_wp2_with fail
  refine (depth_any b vs i w5 H5.out).mono ?_
  rintro e w6 ⟨rfl, hb6⟩
  have H6 := Lib.hid (H5.out.ext hb6)
  have O6 := Lib.hid (O5.out.trans (Only.of_below hb6))
  have W6 := Lib.hid (W5.out.below hb6)
  clear hb6 H5 O5 W5
  have B6 := Lib.hid (B2.out.trans (O6.out.below hwb.out B2.out.size))
  go_wp2_with fail
  refine (build_any _ l w6 (HR.out.ext B6.out) HID.out).mono ?_
  rintro e w7 ⟨b7, rfl, hm, hb7⟩
  have H7 := Lib.hid (H6.out.ext hb7)
  have O7 := Lib.hid (O6.out.trans (Only.of_below hb7))
  have W7 := Lib.hid (W6.out.below hb7)
  have M7 := Lib.hid hm
  clear hm hb7 H6 O6 W6 B6
  by_cases hi : i = 32
  · subst hi
    go_wp2_with fail
    refine (push_full b vs 32 _ w7 H7.out (by omega)).mono ?_
    rintro e w8 ⟨rfl, hb8⟩
    have H8 := Lib.hid (H7.out.ext hb8)
    have O8 := Lib.hid (O7.out.trans (Only.of_below hb8))
    have W8 := Lib.hid (W7.out.below hb8)
    clear hb8 H7 O7 W7 M7
    go_wp2_with fail
    refine (depth_any b vs 32 w8 H8.out).mono ?_
    rintro e w9 ⟨rfl, hb9⟩
    have H9 := Lib.hid (H8.out.ext hb9)
    have O9 := Lib.hid (O8.out.trans (Only.of_below hb9))
    have W9 := Lib.hid (W8.out.below hb9)
    clear hb9 H8 O8 W8
    go_wp2_with fail
    refine (now_any b vs 32 w9 H9.out).mono ?_
    rintro e w10 ⟨c10, l10, rfl, hl, hm, hb10⟩
    obtain rfl : l4 = l10 := Option.some.inj (V4.out.symm.trans hl)
    have O10 := Lib.hid (O9.out.trans (Only.of_below hb10))
    have W10 := Lib.hid (W9.out.below hb10)
    have M10 := Lib.hid hm
    clear hm hb10 hl H9 O9 W9
    go_wp2_with fail
    refine (entries_any _ l4 w10 (.inl ⟨c10, rfl, M10.out⟩) (by omega)).mono ?_
    rintro e w11 ⟨es, rfl, hO, hb11⟩
    obtain ⟨z3, z4, hv, _⟩ := own_fits hO
    subst hv
    have O11 := Lib.hid (O10.out.trans (Only.of_below hb11))
    have W11 := Lib.hid (W10.out.below hb11)
    have E11 := Lib.hid hO
    clear hO hb11 O10 W10 M10
    go_wp2_with fail
    refine (sameEntries_any _ _ l4 l4 w11 (E11.out.rd encL_len) (W11.out.rd encL_len) (by omega) (by omega)).mono ?_
    rintro e w12 ⟨rfl, hb12⟩
    rw [decide_eq_true (rfl : l4 = l4)]
    have O12 := Lib.hid (O11.out.trans (Only.of_below hb12))
    clear hb12 O11 W11 E11
    go_wp2
    go_returns
    exact ⟨rfl, B2.out.trans (O12.out.below hwb.out B2.out.size)⟩
  · have hi32 : i < 32 := by omega
    go_wp2_with fail
    refine (push_to b vs i _ (buildL l) w7 H7.out hi32 (.inl ⟨b7, rfl, M7.out⟩) (buildL_len l)).mono ?_
    rintro e w8 ⟨rfl, hh, ho⟩
    have H8 := Lib.hid hh
    have O8 := Lib.hid (O7.out.trans ho)
    have W8 := Lib.hid (ho.own W7.out hbb)
    clear hh ho H7 O7 W7 M7
    have hq : ((i : Int) == 32) = false := by simp; omega
    have hq2 : decide ((i : Int) < 0) = false := by simp
    have hq3 : decide ((32 : Int) < (i : Int)) = false := by simp; omega
    have hq4 : decide (32 < i) = false := by simp; omega
    obtain ⟨T, hT⟩ : ∃ T, T = vs.take (i + 1) ++ [buildL l] := ⟨_, rfl⟩
    have htl : (vs.take (i + 1)).length = i + 1 := by simp; omega
    have TL : T.length = i + 2 := by rw [hT, List.length_append, htl]; rfl
    have T1 : T[i + 1]? = some (buildL l) := by rw [hT, List.getElem?_append_right (by omega), htl]; simp
    have T0 : T[i]? = some l4 := by rw [hT, List.getElem?_append_left (by omega), List.getElem?_take_of_lt (by omega)]; exact V4.out
    have hLl := buildL_len l
    have hTs := H8.out.facts.2.2.1
    rw [← hT] at H8 hTs
    have HT1 := Lib.hid T1
    have HT0 := Lib.hid T0
    have HTs := Lib.hid hTs
    clear hT htl T1 T0 hTs V4
    have B8 := Lib.hid (B2.out.trans (O8.out.below hwb.out B2.out.size))
    go_wp2_with fail
    refine (depth_any b T (i + 1) w8 H8.out).mono ?_
    rintro e w9 ⟨rfl, hb9⟩
    rw [show ((T.length - 1 - (i + 1) : Nat) : Int) = 0 by omega, show ((i + 1 : Nat) : Int) = (i : Int) + 1 from rfl]
    have H9 := Lib.hid (H8.out.ext hb9)
    have O9 := Lib.hid (O8.out.trans (Only.of_below hb9))
    have W9 := Lib.hid (W8.out.below hb9)
    have B9 := Lib.hid (B8.out.trans (hb9.mono B8.out.size))
    clear hb9 H8 O8 W8 B8
    go_wp2_with fail
    refine (now_any b T (i + 1) w9 H9.out).mono ?_
    rintro e w10 ⟨c10, l10, rfl, hl, hm, hb10⟩
    obtain rfl : buildL l = l10 := Option.some.inj (HT1.out.symm.trans hl)
    have H10 := Lib.hid (H9.out.ext hb10)
    have O10 := Lib.hid (O9.out.trans (Only.of_below hb10))
    have W10 := Lib.hid (W9.out.below hb10)
    have B10 := Lib.hid (B9.out.trans (hb10.mono B9.out.size))
    have M10 := Lib.hid hm
    clear hm hb10 hl H9 O9 W9 B9
    go_wp2_with fail
    refine (entries_any _ (buildL l) w10 (.inl ⟨c10, rfl, M10.out⟩) (by omega)).mono ?_
    rintro e w11 ⟨es, rfl, hO, hb11⟩
    obtain ⟨z3, z4, hv, _⟩ := own_fits hO
    subst hv
    have hbb2 : b < w10.heap.size := H10.out.facts.2.2.2
    have H11 := Lib.hid (H10.out.ext hb11)
    have O11 := Lib.hid (O10.out.trans (Only.of_below hb11))
    have W11 := Lib.hid (W10.out.below hb11)
    have B11 := Lib.hid (B10.out.trans (hb11.mono B10.out.size))
    have N11 := Lib.hid hO
    clear hO hb11 H10 O10 W10 B10 M10
    go_wp2_with fail
    refine (build_any _ l w11 (HR.out.ext B11.out) HID.out).mono ?_
    rintro e w12 ⟨b12, rfl, hm, hb12⟩
    have H12 := Lib.hid (H11.out.ext hb12)
    have O12 := Lib.hid (O11.out.trans (Only.of_below hb12))
    have W12 := Lib.hid (W11.out.below hb12)
    have N12 := Lib.hid (N11.out.below hb12)
    have M12 := Lib.hid hm
    clear hm hb12 H11 O11 W11 B11 N11
    go_wp2_with fail
    refine (entries_any _ (buildL l) w12 (.inl ⟨b12, rfl, M12.out⟩) (by omega)).mono ?_
    rintro e w13 ⟨es, rfl, hO, hb13⟩
    obtain ⟨z5, z6, hv, _⟩ := own_fits hO
    subst hv
    have H13 := Lib.hid (H12.out.ext hb13)
    have O13 := Lib.hid (O12.out.trans (Only.of_below hb13))
    have W13 := Lib.hid (W12.out.below hb13)
    have N13 := Lib.hid (N12.out.below hb13)
    have E13 := Lib.hid hO
    clear hO hb13 H12 O12 W12 N12 M12
    go_wp2_with fail
    refine (sameEntries_any _ _ _ _ w13 (N13.out.rd encL_len) (E13.out.rd encL_len) (by omega) (by omega)).mono ?_
    rintro e w14 ⟨rfl, hb14⟩
    rw [decide_eq_true (rfl : buildL l = buildL l)]
    have H14 := Lib.hid (H13.out.ext hb14)
    have O14 := Lib.hid (O13.out.trans (Only.of_below hb14))
    have W14 := Lib.hid (W13.out.below hb14)
    have N14 := Lib.hid (N13.out.below hb14)
    clear hb14 H13 O13 W13 N13 E13
    go_wp2_with fail
    refine (all_vs b T (i + 1) w14 H14.out).mono ?_
    rintro e w15 ⟨es, rfl, hA, hb15⟩
    rw [show -((i + 1 : Nat) : Int) = -((i : Int) + 1) from rfl]
    have hbA : b < w14.heap.size := H14.out.facts.2.2.2
    have H15 := Lib.hid (H14.out.ext hb15)
    have O15 := Lib.hid (O14.out.trans (Only.of_below hb15))
    have W15 := Lib.hid (W14.out.below hb15)
    have N15 := Lib.hid (N14.out.below hb15)
    obtain ⟨za, zc, hv, hzf⟩ := hA.len
    subst hv
    obtain ⟨g, sv1, rfl, cv1, ov1⟩ := hA.at_ HT1.out
    obtain ⟨g', sv0, hgg, cv0, ov0⟩ := hA.at_ HT0.out
    cases hgg
    rw [TL] at hA hzf ⊢
    have A15 := Lib.hid hA
    have OV1 := Lib.hid ov1
    have OV0 := Lib.hid ov0
    have CV0 := Lib.hid cv0
    clear hb15 H14 O14 W14 N14 hA ov1 ov0 cv0
    go_upto_region 20 with fail
    go_cut [145] (fun c wc => c = .bool false ∧ Below w15.heap.size w15 wc)
    case first =>
      have i1 : (((i : Int) + 2) != (i : Int) + 1 + 1) = false := by simp; omega
      have i2 : (((i + 2 : Nat) : Int) != (i : Int) + 1 + 1) = false := by simp; omega
      obtain ⟨y1, y2, hy, _⟩ := own_fits OV1.out
      subst hy
      have c1' : w15.cell? ⟨g, i + 1, none⟩ = some (.slice y1 (buildL l).length y2) := cv1
      go_wp2_with fail
      refine (sameEntries_any _ _ _ _ w15 (OV1.out.rd encL_len) (N15.out.rd encL_len) (by omega) (by omega)).mono ?_
      rintro e w16 ⟨rfl, hb16⟩
      rw [decide_eq_true (rfl : buildL l = buildL l)]
      have hlt : g < w15.heap.size := cell_lt cv1
      have c0' := (hb16.cell (p := ⟨g, i, none⟩) hlt).trans CV0.out
      have R0 := Lib.hid ((OV0.out.below hb16).rd encL_len)
      have RW := Lib.hid ((W15.out.below hb16).rd encL_len)
      obtain ⟨y3, y4, hy, _⟩ := own_fits OV0.out
      subst hy
      have HB16 := Lib.hid hb16
      clear hb16 cv1 c1'
      go_wp2_with fail
      refine (sameEntries_any _ _ l4 l4 w16 R0.out RW.out (by omega) (by omega)).mono ?_
      rintro e w17 ⟨rfl, hb17⟩
      rw [decide_eq_true (rfl : l4 = l4)]
      have HB17 := Lib.hid (HB16.out.trans (hb17.mono HB16.out.size))
      clear hb17 c0' R0 RW
      go_wp2
      go_meet
      case rel => exact ⟨rfl, HB17.out⟩
    case rest =>
      obtain ⟨rfl, hB⟩ := hcut
      obtain ⟨w16, rfl⟩ : ∃ x, x = wc := ⟨wc, rfl⟩
      have H16 := Lib.hid (H15.out.ext hB)
      have O16 := Lib.hid (O15.out.trans (Only.of_below hB))
      have A16 := Lib.hid (A15.out.below hB)
      clear hB H15 O15 W15 N15 A15 OV1 OV0 CV0 cv1
      go_upto_block 0 with fail
      go_cut [17] (fun k wc => HistL wc b T 0 ∧ Only b w16 wc)
      case first =>
       as_aux_lemma =>
        go_wp2
        go_loopw [17] (fun k wr => ∃ m : Nat, k = .int .i64 (m : Int) ∧ m ≤ i + 1 ∧ HistL wr b T m ∧ Only b w16 wr) (fun k _ => (intOf k).toNat)
        case atStart => exact ⟨i + 1, rfl, by omega, H16.out, Only.refl _ _⟩
        case round =>
          obtain ⟨m, rfl, hm, hH, hO⟩ := hrel
          rcases Nat.eq_zero_or_pos m with hm0 | hm0
          · subst hm0
            have HH := Lib.hid hH
            have HO := Lib.hid hO
            clear hH hO
            rw [Int.natCast_zero]
            go_wp2
            go_meet
            case rel => exact ⟨HH.out, HO.out⟩
          · obtain ⟨j, rfl⟩ : ∃ j, m = j + 1 := ⟨m - 1, by omega⟩
            have hjp : (0 : Int) < (j : Int) + 1 := by omega
            have Tj : T[j]? = some T[j] := List.getElem?_eq_getElem (by omega)
            have hlj := HTs.out _ (List.getElem_mem (show j < T.length by omega))
            generalize T[j] = lj at Tj hlj
            have hA := A16.out.only hO hbA
            obtain ⟨g', sv, hgg, cv, ov⟩ := hA.at_ Tj
            cases hgg
            obtain ⟨y1, y2, hy, _⟩ := own_fits ov
            subst hy
            have OV := Lib.hid ov
            have HH := Lib.hid hH
            have HO := Lib.hid hO
            have hglt : g < wr.heap.size := cell_lt cv
            have CVV := Lib.hid cv
            have hgA : Hid (b ≠ g) := Lib.hid (by
              intro e
              subst e
              obtain ⟨ps, hp, _⟩ := hH
              obtain ⟨pa, pc, hc, _⟩ := hp.cells
              obtain ⟨ss, o1, _, _⟩ := hA
              have hk := (o1.row.lt b rfl).1
              omega)
            clear hH hO hA ov
            rw [show ((j + 1 : Nat) : Int) = (j : Int) + 1 from rfl]
            go_wp2_with fail
            refine (undo_to b T j wr HH.out).mono ?_
            rintro e w17 ⟨c17, l17, rfl, hl, hm17, hh, ho⟩
            obtain rfl : lj = l17 := Option.some.inj (Tj.symm.trans hl)
            have H17 := Lib.hid hh
            have O17 := Lib.hid (HO.out.trans ho)
            have M17 := Lib.hid hm17
            have V17 := Lib.hid (ho.own OV.out hbA)
            have C17 := Lib.hid ((World.cell?_of_block (a := ⟨g, j, none⟩) (ho.block g hglt (fun e => hgA.out e.symm))).trans cv)
            have hg17 : g < w17.heap.size := Nat.lt_of_lt_of_le hglt ho.size
            clear hh ho hm17 hl HH HO OV CVV cv hglt
            go_wp2_with fail
            refine (depth_any b T j w17 H17.out).mono ?_
            rintro e w18 ⟨rfl, hb18⟩
            have H18 := Lib.hid (H17.out.ext hb18)
            have O18 := Lib.hid (O17.out.trans (Only.of_below hb18))
            have M18 := Lib.hid (M17.out.ext hb18)
            have V18 := Lib.hid (V17.out.below hb18)
            have c18 := (hb18.cell (p := ⟨g, j, none⟩) hg17).trans C17.out
            have hg18 : g < w18.heap.size := Nat.lt_of_lt_of_le hg17 hb18.size
            rw [show ((T.length - 1 - j : Nat) : Int) = (i : Int) + 1 - (j : Int) by omega]
            have q1 : ((i : Int) + 1 - (j : Int) != (i : Int) + 1 - ((j : Int) + 1) + 1) = false := by simp; omega
            clear hb18 H17 O17 M17 V17 C17 hg17
            have q2 : ((j : Int) != (j : Int) + 1 - 1) = false := by simp
            have SM : ∀ W, Below w18.heap.size w18 W → SameAt [⟨g, j, none⟩] w18 W := by
              intro W hW p hp
              simp only [List.mem_singleton] at hp
              subst hp
              exact hW.cell hg18
            have hent := entries_any (.pointer (some ⟨c17, 0, none⟩)) lj w18.drew (.inl ⟨c17, rfl, M18.out.ext (Below.refl _ _).drew⟩) (by omega)
            have HENT := Lib.hid hent
            clear hent
            go_upto_region 27 with fail
            refine rgnH [[0, 1, 2, 3, 5, 6, 7, 8, 9, 4], [10], [11, 12, 13, 14, 15, 16, 17, 18, 19, 20, 21, 22, 23, 24, 25, 26]] [1, 7, 16, 17, 23, 24, 25] [9] [⟨g, j, none⟩] (ord_fast (by kernel_rfl)) (by simp) ?_ ?_
            · intro p hp
              simp only [List.mem_singleton] at hp
              subst hp
              rw [c18]; rfl
            unfold seg
            simp only [pickL, List.getD_cons_zero, List.getD_cons_succ]
            go_wp2_with fail
            refine HENT.out.mono ?_
            rintro e w19 ⟨es, rfl, hO19, hb19⟩
            obtain ⟨y3, y4, hy, _⟩ := own_fits hO19
            subst hy
            have hb19' := below_of_drew hb19
            have R19 := Lib.hid (hO19.rd encL_len)
            have Q19 := Lib.hid ((V18.out.below hb19').rd encL_len)
            have B19 := Lib.hid hb19'
            clear hO19 hb19 hb19' HENT
            go_wp2
            refine ⟨SM _ B19.out, ?_⟩
            unfold seg
            simp only [pickL, List.getD_cons_zero, List.getD_cons_succ]
            go_wp2_with fail
            refine (sameEntries_any _ _ lj lj w19 R19.out Q19.out (by omega) (by omega)).mono ?_
            rintro e w20 ⟨rfl, hb20⟩
            rw [decide_eq_true (rfl : lj = lj)]
            have B20 := Lib.hid (B19.out.trans (hb20.mono B19.out.size))
            clear hb20 R19 Q19
            go_wp2
            refine ⟨SM _ B20.out, ?_⟩
            unfold seg
            simp only [pickL, List.getD_cons_zero, List.getD_cons_succ]
            go_wp2
            refine ⟨SM _ B20.out, ?_, ⟨?_, trivial⟩, ?_⟩
            · simp [chkD, dyn, Region.wanted, yielded, Act.eval, scalarV]
            · exact .inl rfl
            go_wp2
            go_roundw
            case rel => exact ⟨j, by go_num, by omega, H18.out.ext B20.out, O18.out.trans (Only.of_below B20.out)⟩
            case measure => simp [intOf]
      case rest =>
        obtain ⟨hH, hO⟩ := hcut
        obtain ⟨w17, rfl⟩ : ∃ x, x = wc := ⟨wc, rfl⟩
        have H17 := Lib.hid hH
        have O17 := Lib.hid hO
        clear hH hO
        go_wp2_with fail
        refine (undo_no b T w17 H17.out).mono ?_
        rintro e w18 ⟨rfl, hb18⟩
        have H18 := Lib.hid (H17.out.ext hb18)
        have O18 := Lib.hid (O17.out.trans (Only.of_below hb18))
        clear hb18 H17 O17
        go_upto_block 2 with fail
        go_cut [24] (fun k wc => HistL wc b T (i + 1) ∧ Only b w16 wc)
        case first =>
         as_aux_lemma =>
          go_wp2
          go_loopw [24] (fun k wr => ∃ m : Nat, k = .int .i64 (m : Int) ∧ m ≤ i + 1 ∧ HistL wr b T m ∧ Only b w16 wr) (fun k _ => i + 1 - (intOf k).toNat)
          case atStart => exact ⟨0, rfl, by omega, H18.out, O18.out⟩
          case round =>
            obtain ⟨j, rfl, hj, hH, hO⟩ := hrel
            by_cases hji : j < i + 1
            · have hd : decide ((j : Int) < (i : Int) + 1) = true := by simp; omega
              have hd2 : decide (j < i + 1) = true := by simp; omega
              have Tj : T[j + 1]? = some T[j + 1] := List.getElem?_eq_getElem (by omega)
              have hlj := HTs.out _ (List.getElem_mem (show j + 1 < T.length by omega))
              generalize T[j + 1] = lj at Tj hlj
              have hA := A16.out.only hO hbA
              obtain ⟨g', sv, hgg, cv, ov⟩ := hA.at_ Tj
              cases hgg
              obtain ⟨y1, y2, hy, _⟩ := own_fits ov
              subst hy
              have OV := Lib.hid ov
              have HH := Lib.hid hH
              have HO := Lib.hid hO
              have hglt : g < wr.heap.size := cell_lt cv
              have hgA : Hid (b ≠ g) := Lib.hid (by
                intro e
                subst e
                obtain ⟨ss, o1, _, _⟩ := hA
                have hk := (o1.row.lt b rfl).1
                omega)
              clear hH hO hA ov
              go_wp2_with fail
              refine (redo_to b T j wr HH.out (by omega)).mono ?_
              rintro e w19 ⟨c19, l19, rfl, hl, hm19, hh, ho⟩
              obtain rfl : lj = l19 := Option.some.inj (Tj.symm.trans hl)
              have H19 := Lib.hid hh
              have O19 := Lib.hid (HO.out.trans ho)
              have V19 := Lib.hid (ho.own OV.out hbA)
              have c19' := (World.cell?_of_block (a := ⟨g, j + 1, none⟩) (ho.block g hglt (fun e => hgA.out e.symm))).trans cv
              have hg19 : g < w19.heap.size := Nat.lt_of_lt_of_le hglt ho.size
              have hent := entries_any (.pointer (some ⟨c19, 0, none⟩)) lj w19.drew (.inl ⟨c19, rfl, hm19.ext (Below.refl _ _).drew⟩) (by omega)
              have HENT := Lib.hid hent
              clear hh ho hm19 hl HH HO OV cv hglt hent
              have SM : ∀ W, Below w19.heap.size w19 W → SameAt [⟨g, j + 1, none⟩] w19 W := by
                intro W hW p hp
                simp only [List.mem_singleton] at hp
                subst hp
                exact hW.cell hg19
              go_upto_region 36 with fail
              refine rgnH [[0, 1, 2, 3, 5, 6, 7, 8, 9, 4], [10], [11, 12]] [1, 7] [9] [⟨g, j + 1, none⟩] (ord_fast (by kernel_rfl)) (by simp) ?_ ?_
              · intro p hp
                simp only [List.mem_singleton] at hp
                subst hp
                rw [c19']; rfl
              unfold seg
              simp only [pickL, List.getD_cons_zero, List.getD_cons_succ]
              go_wp2_with fail
              refine HENT.out.mono ?_
              rintro e w20 ⟨es, rfl, hO20, hb20⟩
              obtain ⟨y3, y4, hy, _⟩ := own_fits hO20
              subst hy
              have hb20' := below_of_drew hb20
              have R20 := Lib.hid (hO20.rd encL_len)
              have Q20 := Lib.hid ((V19.out.below hb20').rd encL_len)
              have B20 := Lib.hid hb20'
              clear hO20 hb20 hb20' HENT
              go_wp2
              refine ⟨SM _ B20.out, ?_⟩
              unfold seg
              simp only [pickL, List.getD_cons_zero, List.getD_cons_succ]
              go_wp2_with fail
              refine (sameEntries_any _ _ lj lj w20 R20.out Q20.out (by omega) (by omega)).mono ?_
              rintro e w21 ⟨rfl, hb21⟩
              rw [decide_eq_true (rfl : lj = lj)]
              have B21 := Lib.hid (B20.out.trans (hb21.mono B20.out.size))
              clear hb21 R20 Q20
              go_wp2
              refine ⟨SM _ B21.out, ?_⟩
              unfold seg
              simp only [pickL, List.getD_cons_zero, List.getD_cons_succ]
              go_wp2
              refine ⟨SM _ B21.out, ?_, ⟨?_, trivial⟩, ?_⟩
              · simp [chkD, dyn, Region.wanted, yielded, Act.eval, scalarV]
              · exact .inl rfl
              go_wp2
              go_roundw
              case rel => exact ⟨j + 1, by go_num, by omega, H19.out.ext B21.out, O19.out.trans (Only.of_below B21.out)⟩
              case measure => simp [intOf]; omega
            · have hjj : j = i + 1 := by omega
              have hno : decide ((j : Int) < (i : Int) + 1) = false := by simp; omega
              have hno2 : decide (j < i + 1) = false := by simp; omega
              rw [hjj] at hH
              have HH := Lib.hid hH
              have HO := Lib.hid hO
              clear hH hO
              go_wp2
              go_meet
              case rel => exact ⟨HH.out, HO.out⟩
        case rest =>
          obtain ⟨hH, hO⟩ := hcut
          obtain ⟨w19, rfl⟩ : ∃ x, x = wc := ⟨wc, rfl⟩
          have H19 := Lib.hid hH
          have O19 := Lib.hid hO
          clear hH hO H18 O18
          go_wp2_with fail
          refine (all_vs b T (i + 1) w19 H19.out).mono ?_
          rintro e w20 ⟨es, rfl, hA2, hb20⟩
          rw [show -((i + 1 : Nat) : Int) = -((i : Int) + 1) from rfl]
          have H20 := Lib.hid (H19.out.ext hb20)
          have O20 := Lib.hid (O19.out.trans (Only.of_below hb20))
          obtain ⟨y1, y2, hv, _⟩ := hA2.len
          subst hv
          rw [TL] at hA2 ⊢
          have R20 := Lib.hid hA2.r
          clear hA2 hb20 H19 O19
          go_wp2_with fail
          refine (redo_no b T (i + 1) w20 H20.out (by omega)).mono ?_
          rintro e w21 ⟨rfl, hb21⟩
          have R21 := Lib.hid (R20.out.ext hb21)
          have A21 := Lib.hid ((A16.out.only (O20.out.trans (Only.of_below hb21)) hbA).r)
          have O21 := Lib.hid (O20.out.trans (Only.of_below hb21))
          clear hb21 H20 O20 R20 A16
          go_wp2_with fail
          refine (sameAll_any _ _ T T w21 A21.out R21.out HTs.out HTs.out (by omega) (by omega)).mono ?_
          rintro e w22 ⟨rfl, hb22⟩
          rw [decide_eq_true (rfl : T = T)]
          have O22 := Lib.hid ((O16.out.trans O21.out).trans (Only.of_below hb22))
          clear hb22 A21 R21 O21
          go_wp2
          go_returns
          exact ⟨rfl, B2.out.trans (O22.out.below hwb.out B2.out.size)⟩
end Go.Proofs.Ytmhhejpokgdjoaa
