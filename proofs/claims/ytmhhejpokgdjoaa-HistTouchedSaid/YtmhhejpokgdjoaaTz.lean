/- The walk of levylaw11.HistTouched. -/
import Derived.Test.YtmhhejpokgdjoaaTkX
import Derived.Test.YtmhhejpokgdjoaaKaX
import Derived.Deep.DeepCutAuto
import Derived.Deep.CutBlock
namespace Go.Proofs.Ytmhhejpokgdjoaa
open Go Go.RowKit
set_option linter.unusedVariables false
set_option linter.unusedSimpArgs false
attribute [local go_sem] Oper.semAt_some

set_option maxRecDepth 100000 in
set_option maxHeartbeats 16000000 in
theorem histTouched_any (v0 : Value) (a b c : Int) (ra : -9223372036854775808 ≤ a ∧ a < 9223372036854775808) (rb : -9223372036854775808 ≤ b ∧ b < 9223372036854775808) (rc : -9223372036854775808 ≤ c ∧ c < 9223372036854775808) (script : List OpL) (w : World) (hsc : Script w v0 script) :
    Calls Try.prog 6 #[v0, .int .i64 a, .int .i64 b, .int .i64 c] w fun e w' => e = .returned (.bool true) ∧ Below w.heap.size w w' := by
  have ep := fun b W => eql_ph_nil ⟨b, 0, none⟩ W
  have SC := Lib.hid hsc
  have RA := Lib.hid ra
  have RB := Lib.hid rb
  have RC := Lib.hid rc
  obtain ⟨a0, c0, rfl, _⟩ := hsc.rd
  clear hsc ra rb rc
  go_enter Try.func6, Try.ntmps6
  go_wp2_with fail
  refine (known_any w).mono ?_
  rintro e w1 ⟨rfl, hb1⟩
  have B1 := Lib.hid hb1
  clear hb1
  go_wp2_with fail
  refine (new_any _ [] w1 (.inr ⟨rfl, rfl⟩) (by simp)).mono ?_
  rintro e w2 ⟨bh, rfl, hh, hge, hb2⟩
  have H2 := Lib.hid hh
  have B2 := Lib.hid (B1.out.trans (hb2.mono B1.out.size))
  have hwb : Hid (w.heap.size ≤ bh) := Lib.hid (by have := B1.out.size; omega)
  clear hh hb2 hge B1
  go_wp2_with fail
  refine (plays_any bh ([[]], 0) _ script w w2 H2.out SC.out B2.out hwb.out).mono ?_
  rintro e w3 ⟨⟨v, rfl⟩, hh, ho⟩
  generalize playsH script ([[]], 0) = S at hh
  obtain ⟨vs, i⟩ := S
  obtain ⟨ps, hp, hps⟩ := (show HistL w3 bh vs i from hh)
  have hfac := HistL.facts hh
  have hi : i < vs.length := hfac.1
  have hvl : vs.length ≤ 33 := hfac.2.1
  have HVS := Lib.hid hfac.2.2.1
  have HPS := Lib.hid hps
  have HPL : Hid (ps.length = vs.length) := Lib.hid (by rw [← hps]; simp)
  have H3 := Lib.hid hp
  have B3 := Lib.hid (B2.out.trans (ho.below hwb.out B2.out.size))
  clear hh ho hfac H2 SC hp hps B2
  go_wp2_with fail
  refine (all_vs bh vs i w3 ⟨ps, H3.out, HPS.out⟩).mono ?_
  rintro e w4 ⟨es, rfl, hA, hb4⟩
  obtain ⟨va, vc, hv, hzf⟩ := hA.len
  subst hv
  have A4 := Lib.hid hA.r
  have H4 := Lib.hid (H3.out.ext hb4)
  have B4 := Lib.hid (B3.out.trans (hb4.mono B3.out.size))
  clear hA hb4 H3 B3
  go_wp2_with fail
  refine (depth_any bh vs i w4 ⟨ps, H4.out, HPS.out⟩).mono ?_
  rintro e w5 ⟨rfl, hb5⟩
  obtain ⟨r, hr⟩ : ∃ r, vs.length - 1 - i = r := ⟨_, rfl⟩
  have hnr : Hid (vs.length = i + r + 1) := Lib.hid (by omega)
  rw [hr]
  have A5 := Lib.hid (A4.out.ext hb5)
  have H5 := Lib.hid (H4.out.ext hb5)
  have B5 := Lib.hid (B4.out.trans (hb5.mono B4.out.size))
  clear hb5 H4 B4 A4 hr
  have hr2 : r ≤ 33 := by have := hnr.out; omega
  have d1 : decide ((i : Int) < 0) = false := by simp
  have d2 : decide ((r : Int) < 0) = false := by simp
  have d3 : (((vs.length : Nat) : Int) != ((i : Int) + (r : Int) + 1)) = false := by have := hnr.out; simp; omega
  have d4 : (-(i : Int) != -(i : Int)) = false := by simp
  have hpos : 0 < vs.length := by omega
  go_wp2_with fail
  refine (place_any a vs.length hpos (by omega) RA.out.1 RA.out.2 _).mono ?_
  rintro e u6 ⟨rfl, hb⟩
  obtain ⟨ja, hja⟩ : ∃ j, placeH a vs.length = j := ⟨_, rfl⟩
  have lta : ja < vs.length := by rw [← hja]; exact placeH_lt _ hpos
  rw [hja]
  have A6 := Lib.hid (A5.out.ext hb)
  have H6 := Lib.hid (H5.out.ext hb)
  have B6 := Lib.hid (B5.out.trans (hb.mono B5.out.size))
  clear hb H5 B5 A5 hja
  go_wp2_with fail
  refine (place_any b vs.length hpos (by omega) RB.out.1 RB.out.2 _).mono ?_
  rintro e u7 ⟨rfl, hb⟩
  obtain ⟨jb, hjb⟩ : ∃ j, placeH b vs.length = j := ⟨_, rfl⟩
  have ltb : jb < vs.length := by rw [← hjb]; exact placeH_lt _ hpos
  rw [hjb]
  have A7 := Lib.hid (A6.out.ext hb)
  have H7 := Lib.hid (H6.out.ext hb)
  have B7 := Lib.hid (B6.out.trans (hb.mono B6.out.size))
  clear hb H6 B6 A6 hjb
  go_wp2_with fail
  refine (place_any c vs.length hpos (by omega) RC.out.1 RC.out.2 _).mono ?_
  rintro e u8 ⟨rfl, hb⟩
  obtain ⟨jc, hjc⟩ : ∃ j, placeH c vs.length = j := ⟨_, rfl⟩
  have ltc : jc < vs.length := by rw [← hjc]; exact placeH_lt _ hpos
  rw [hjc]
  have A8 := Lib.hid (A7.out.ext hb)
  have H8 := Lib.hid (H7.out.ext hb)
  have B8 := Lib.hid (B7.out.trans (hb.mono B7.out.size))
  clear hb H7 B7 A7 hjc
  obtain ⟨pa, Pa⟩ : ∃ p, Hid (ps[ja]? = some p) := ⟨_, Lib.hid (List.getElem?_eq_getElem (by rw [HPL.out]; exact lta))⟩
  obtain ⟨pb, Pb⟩ : ∃ p, Hid (ps[jb]? = some p) := ⟨_, Lib.hid (List.getElem?_eq_getElem (by rw [HPL.out]; exact ltb))⟩
  obtain ⟨pc, Pc⟩ : ∃ p, Hid (ps[jc]? = some p) := ⟨_, Lib.hid (List.getElem?_eq_getElem (by rw [HPL.out]; exact ltc))⟩
  go_wp2_with fail
  refine (keys_any bh ps i _ _ _ H8.out).mono ?_
  rintro e u9 ⟨ex, xs, ht, rfl, ho, hb⟩
  have KX : Hid (KeyD pa.2 pb.2 xs) := Lib.hid (ht.key (verP_to H8.out.lt Pa.out (by omega)) (verP_to H8.out.lt Pb.out (by omega)))
  have LX : xs.length ≤ 400 := ht.len H8.out.small
  obtain ⟨xa, xc, rfl, hxf⟩ := own_fits ho
  have RX := Lib.hid (ho.rd encK_len)
  have A9 := Lib.hid (A8.out.ext hb)
  have H9 := Lib.hid (H8.out.ext hb)
  have B9 := Lib.hid (B8.out.trans (hb.mono B8.out.size))
  clear hb ho ht H8 B8 A8
  go_wp2_with fail
  refine (keys_any bh ps i _ _ _ H9.out).mono ?_
  rintro e u10 ⟨ey, ys, ht, rfl, ho, hb⟩
  have KY : Hid (KeyD pb.2 pa.2 ys) := Lib.hid (ht.key (verP_to H9.out.lt Pb.out (by omega)) (verP_to H9.out.lt Pa.out (by omega)))
  have LY : ys.length ≤ 400 := ht.len H9.out.small
  obtain ⟨ya, yc, rfl, hyf⟩ := own_fits ho
  have RY := Lib.hid (ho.rd encK_len)
  have A10 := Lib.hid (A9.out.ext hb)
  have H10 := Lib.hid (H9.out.ext hb)
  have B10 := Lib.hid (B9.out.trans (hb.mono B9.out.size))
  have SX := Lib.hid (RX.out.ext hb)
  clear RX
  have RX := Lib.hid SX.out
  clear SX
  clear hb ho ht H9 B9 A9
  have HYX : xs = ys := (KX.out.swap KY.out).symm
  subst HYX
  go_wp2_with fail
  refine (keys_any bh ps i _ _ _ H10.out).mono ?_
  rintro e u11 ⟨ez, zs, ht, rfl, ho, hb⟩
  have KZ : Hid (KeyD pa.2 pc.2 zs) := Lib.hid (ht.key (verP_to H10.out.lt Pa.out (by omega)) (verP_to H10.out.lt Pc.out (by omega)))
  have LZ : zs.length ≤ 400 := ht.len H10.out.small
  obtain ⟨za, zc, rfl, hzf⟩ := own_fits ho
  have RZ := Lib.hid (ho.rd encK_len)
  have A11 := Lib.hid (A10.out.ext hb)
  have H11 := Lib.hid (H10.out.ext hb)
  have B11 := Lib.hid (B10.out.trans (hb.mono B10.out.size))
  have SX := Lib.hid (RX.out.ext hb)
  clear RX
  have RX := Lib.hid SX.out
  clear SX
  have SY := Lib.hid (RY.out.ext hb)
  clear RY
  have RY := Lib.hid SY.out
  clear SY
  clear hb ho ht H10 B10 A10
  go_wp2_with fail
  refine (keys_any bh ps i _ _ _ H11.out).mono ?_
  rintro e u12 ⟨ew, ws, ht, rfl, ho, hb⟩
  have KW : Hid (KeyD pb.2 pc.2 ws) := Lib.hid (ht.key (verP_to H11.out.lt Pb.out (by omega)) (verP_to H11.out.lt Pc.out (by omega)))
  have LW : ws.length ≤ 400 := ht.len H11.out.small
  obtain ⟨wa, wc, rfl, hwf⟩ := own_fits ho
  have RW := Lib.hid (ho.rd encK_len)
  have A12 := Lib.hid (A11.out.ext hb)
  have H12 := Lib.hid (H11.out.ext hb)
  have B12 := Lib.hid (B11.out.trans (hb.mono B11.out.size))
  have SX := Lib.hid (RX.out.ext hb)
  clear RX
  have RX := Lib.hid SX.out
  clear SX
  have SY := Lib.hid (RY.out.ext hb)
  clear RY
  have RY := Lib.hid SY.out
  clear SY
  have SZ := Lib.hid (RZ.out.ext hb)
  clear RZ
  have RZ := Lib.hid SZ.out
  clear SZ
  clear hb ho ht H11 B11 A11
  have SRT : Hid (∀ (j : Nat) (p : Nat × List E), ps[j]? = some p → Srt p.2 ∧ ∀ e ∈ p.2, e.1 < 4294967296) := Lib.hid (fun j p hj => by
    have hm := H12.out.maps p (List.mem_of_getElem? hj)
    exact ⟨hm.srt, hm.keys⟩)
  have la : pa.2.length ≤ 200 := HVS.out _ (List.mem_of_getElem? (by rw [← HPS.out, List.getElem?_map, Pa.out]; rfl : vs[ja]? = some pa.2))
  have lb : pb.2.length ≤ 200 := HVS.out _ (List.mem_of_getElem? (by rw [← HPS.out, List.getElem?_map, Pb.out]; rfl : vs[jb]? = some pb.2))
  obtain ⟨va', vc', hs, hzf2, A3⟩ := A12.out
  simp only [Value.slice.injEq, true_and] at hs
  obtain ⟨rfl, rfl⟩ := hs
  obtain ⟨g, o, sva, rfl, hg, ca, ra⟩ := A3 ja pa.2 (by rw [← HPS.out, List.getElem?_map, Pa.out]; rfl)
  obtain ⟨g', o', svb, hgo, _, cb, rb⟩ := A3 jb pb.2 (by rw [← HPS.out, List.getElem?_map, Pb.out]; rfl)
  simp only [Option.some.injEq, Addr.mk.injEq, and_true] at hgo
  obtain ⟨rfl, rfl⟩ := hgo
  obtain ⟨sa, sac, rfl, saf, ra⟩ := ra
  obtain ⟨sb, sbc, rfl, sbf, rb⟩ := rb
  have HCA := Lib.hid ca
  have HCB := Lib.hid cb
  have HRA := Lib.hid ra
  have HRB := Lib.hid rb
  have hvl2 := hvl
  clear A3 A12 ca cb ra rb
  obtain ⟨wA, rfl⟩ : ∃ x, x = u12 := ⟨u12, rfl⟩
  go_upto_block 0 with fail
  go_cut [] (fun wc => Below wA.heap.size wA wc)
  case first =>
   as_aux_lemma =>
    go_wp2
    go_loopw [22] (fun k wr => ∃ m : Nat, k = .int .i64 (m : Int) ∧ m ≤ xs.length ∧ Below wA.heap.size wA wr) (fun k _ => xs.length - (intOf k).toNat)
    case atStart => exact ⟨0, rfl, by omega, Below.refl _ _⟩
    case round =>
      obtain ⟨m, rfl, hm, hB⟩ := hrel
      by_cases hml : m < xs.length
      · have e1 : xs[m]? = some xs[m] := List.getElem?_eq_getElem hml
        have hne := KX.out.ne (List.mem_of_getElem? e1)
        generalize xs[m] = xv at e1 hne
        obtain ⟨gx, ox, hxa, hgx, cx⟩ := rdK_at RX.out e1
        subst hxa
        obtain ⟨gy, oy, hya, hgy, cy⟩ := rdK_at RY.out e1
        subst hya
        have HNE := Lib.hid hne
        have HCX := Lib.hid cx
        have HCY := Lib.hid cy
        have HBW := Lib.hid hB
        have HB1 := Lib.hid hB
        clear e1 hne cx cy hB
        go_wp2_with fail
        obtain ⟨WB, rfl⟩ : ∃ x, x = wr := ⟨wr, rfl⟩
        go_cut [23, 24] (fun va vo wc => ∃ blk : Nat, va = .pointer (some ⟨blk, 0, none⟩) ∧ vo = .bool (look pa.2 xv).isSome ∧ Below WB.heap.size WB wc ∧ Holds wc blk (vCells (gv (look pa.2 xv))))
        case first =>
          have ca := (HBW.out.cell (p := ⟨g, o + ja, none⟩) hg).trans HCA.out
          have cx := (HBW.out.cell (p := ⟨gx, ox + m, none⟩) hgx).trans HCX.out
          have SM : ∀ X, Below WB.heap.size WB X → SameAt [⟨g, o + ja, none⟩, ⟨gx, ox + m, none⟩] WB X := by
            intro X hX p hp
            simp only [List.mem_cons, List.not_mem_nil, or_false] at hp
            rcases hp with rfl | rfl
            · exact hX.cell (Nat.lt_of_lt_of_le hg HBW.out.size)
            · exact hX.cell (Nat.lt_of_lt_of_le hgx HBW.out.size)
          refine rgnT (.seg [0, 1, 2, 3, 4, 6, 7, 8, 5, 9] (.two 10 14 (.seg [11, 12, 13, 14] (.seg [15] (.seg [16] .fin))) (.seg [10] (.seg [11, 12, 13, 15] (.seg [16] .fin))))) [3] [5, 9] [⟨g, o + ja, none⟩, ⟨gx, ox + m, none⟩] (by kernel_rfl) (by simp) ?_ ?_
          · intro p hp
            simp only [List.mem_cons, List.not_mem_nil, or_false] at hp
            rcases hp with rfl | rfl
            · rw [ca]; rfl
            · rw [cx]; rfl
          unfold pl
          simp only [pickL, List.getD_cons_zero, List.getD_cons_succ]
          go_wp2
          refine ⟨SM _ (Below.refl _ _).drew, ?_⟩
          unfold pl
          refine ⟨?_, ?_⟩
          · simp only [pickL, List.getD_cons_zero, List.getD_cons_succ]
            go_wp2_with fail
            refine (value_any _ pa.2 xv WB.drew (HRA.out.ext (HBW.out.drew)) (by omega)).mono ?_
            rintro e W3 ⟨rfl, hb3⟩
            have hb3' : Below WB.heap.size WB W3 := below_of_drew hb3
            go_wp2
            refine ⟨SM _ hb3', ?_⟩
            unfold pl
            simp only [pickL, List.getD_cons_zero, List.getD_cons_succ]
            go_wp2
            refine ⟨SM _ ?_, ?_⟩
            · (repeat' (first | (with_reducible exact Below.refl _ _) | (with_reducible assumption) | (with_reducible refine below_drewN ?_ _) | (with_reducible refine Below.drew ?_) | (with_reducible refine Below.alloc ?_ ?_ _) | (with_reducible refine Below.setCell ?_ ?_ _) | (with_reducible exact Below.size (by assumption)) | go_size))
            unfold pl
            simp only [pickL, List.getD_cons_zero, List.getD_cons_succ]
            go_wp2
            refine ⟨SM _ ?_, ?_⟩
            · (repeat' (first | (with_reducible exact Below.refl _ _) | (with_reducible assumption) | (with_reducible refine below_drewN ?_ _) | (with_reducible refine Below.drew ?_) | (with_reducible refine Below.alloc ?_ ?_ _) | (with_reducible refine Below.setCell ?_ ?_ _) | (with_reducible exact Below.size (by assumption)) | go_size))
            unfold pl
            simp only [pickL, List.getD_cons_zero, List.getD_cons_succ]
            go_wp2
            refine ⟨SM _ ?_, ?_⟩
            · (repeat' (first | (with_reducible exact Below.refl _ _) | (with_reducible assumption) | (with_reducible refine below_drewN ?_ _) | (with_reducible refine Below.drew ?_) | (with_reducible refine Below.alloc ?_ ?_ _) | (with_reducible refine Below.setCell ?_ ?_ _) | (with_reducible exact Below.size (by assumption)) | go_size))
            unfold pl
            refine ⟨by simp [chkD, dyn, Region.wanted, yielded, Act.eval, scalarV], ⟨.inl rfl, .inl rfl, trivial⟩, ?_⟩
            go_wp2
            go_meet
            case rel =>
              refine ⟨_, rfl, rfl, ?_, ?_⟩
              · (repeat' (first | (with_reducible exact Below.refl _ _) | (with_reducible assumption) | (with_reducible refine below_drewN ?_ _) | (with_reducible refine Below.drew ?_) | (with_reducible refine Below.alloc ?_ ?_ _) | (with_reducible refine Below.setCell ?_ ?_ _) | (with_reducible exact Below.size (by assumption)) | go_size))
              · first | exact Holds.alloc _ _ _ | exact (hblk.setCell (i := 0) _).setCell (i := 1) _
          · simp only [pickL, List.getD_cons_zero, List.getD_cons_succ]
            go_wp2
            refine ⟨SM _ ?_, ?_⟩
            · (repeat' (first | (with_reducible exact Below.refl _ _) | (with_reducible assumption) | (with_reducible refine below_drewN ?_ _) | (with_reducible refine Below.drew ?_) | (with_reducible refine Below.alloc ?_ ?_ _) | (with_reducible refine Below.setCell ?_ ?_ _) | (with_reducible exact Below.size (by assumption)) | go_size))
            unfold pl
            simp only [pickL, List.getD_cons_zero, List.getD_cons_succ]
            go_wp2_with fail
            refine (value_any _ pa.2 xv _ (HRA.out.ext (HBW.out.trans (((Below.refl _ _).alloc (Nat.le_refl _) _).drew.mono HBW.out.size))) (by omega)).mono ?_
            rintro e W3 ⟨rfl, hb3⟩
            have hb3' : Below WB.heap.size WB W3 := ((Below.refl _ _).alloc (Nat.le_refl _) _).trans ((below_of_drew hb3).mono (by simp))
            have hblk : Holds W3 WB.heap.size [.int .i64 0, .int .i64 0] := (Holds.alloc WB [.int .i64 0, .int .i64 0] _).ext (below_of_drew hb3)
            have s0 := hblk.cell (i := 0) rfl
            have s1 := hblk.cell (i := 1) rfl
            have s2 := hblk.free 0
            have s3 := hblk.free 1
            have hlt3 := hblk.lt
            go_wp2
            refine ⟨SM _ hb3', ?_⟩
            unfold pl
            simp only [pickL, List.getD_cons_zero, List.getD_cons_succ]
            go_wp2
            refine ⟨SM _ ?_, ?_⟩
            · (repeat' (first | (with_reducible exact Below.refl _ _) | (with_reducible assumption) | (with_reducible refine below_drewN ?_ _) | (with_reducible refine Below.drew ?_) | (with_reducible refine Below.alloc ?_ ?_ _) | (with_reducible refine Below.setCell ?_ ?_ _) | (with_reducible exact Below.size (by assumption)) | go_size))
            unfold pl
            simp only [pickL, List.getD_cons_zero, List.getD_cons_succ]
            go_wp2
            refine ⟨SM _ ?_, ?_⟩
            · (repeat' (first | (with_reducible exact Below.refl _ _) | (with_reducible assumption) | (with_reducible refine below_drewN ?_ _) | (with_reducible refine Below.drew ?_) | (with_reducible refine Below.alloc ?_ ?_ _) | (with_reducible refine Below.setCell ?_ ?_ _) | (with_reducible exact Below.size (by assumption)) | go_size))
            unfold pl
            refine ⟨by simp [chkD, dyn, Region.wanted, yielded, Act.eval, scalarV], ⟨.inl rfl, .inl rfl, trivial⟩, ?_⟩
            go_wp2
            go_meet
            case rel =>
              refine ⟨_, rfl, rfl, ?_, ?_⟩
              · (repeat' (first | (with_reducible exact Below.refl _ _) | (with_reducible assumption) | (with_reducible refine below_drewN ?_ _) | (with_reducible refine Below.drew ?_) | (with_reducible refine Below.alloc ?_ ?_ _) | (with_reducible refine Below.setCell ?_ ?_ _) | (with_reducible exact Below.size (by assumption)) | go_size))
              · first | exact Holds.alloc _ _ _ | exact (hblk.setCell (i := 0) _).setCell (i := 1) _
        case rest =>
          obtain ⟨k1, rfl, rfl, hbX, hv1⟩ := hcut
          obtain ⟨W1, rfl⟩ : ∃ x, x = wc := ⟨wc, rfl⟩
          have HV1 := Lib.hid hv1
          clear HBW
          have HBW := Lib.hid (HB1.out.trans (hbX.mono HB1.out.size))
          clear hbX hv1
          go_wp2_with fail
          obtain ⟨WB, rfl⟩ : ∃ x, x = W1 := ⟨W1, rfl⟩
          go_cut [25, 26] (fun va vo wc => ∃ blk : Nat, va = .pointer (some ⟨blk, 0, none⟩) ∧ vo = .bool (look pb.2 xv).isSome ∧ Below WB.heap.size WB wc ∧ Holds wc blk (vCells (gv (look pb.2 xv))))
          case first =>
            have ca := (HBW.out.cell (p := ⟨g, o + jb, none⟩) hg).trans HCB.out
            have cx := (HBW.out.cell (p := ⟨gx, ox + m, none⟩) hgx).trans HCX.out
            have SM : ∀ X, Below WB.heap.size WB X → SameAt [⟨g, o + jb, none⟩, ⟨gx, ox + m, none⟩] WB X := by
              intro X hX p hp
              simp only [List.mem_cons, List.not_mem_nil, or_false] at hp
              rcases hp with rfl | rfl
              · exact hX.cell (Nat.lt_of_lt_of_le hg HBW.out.size)
              · exact hX.cell (Nat.lt_of_lt_of_le hgx HBW.out.size)
            refine rgnT (.seg [0, 1, 2, 3, 4, 6, 7, 8, 5, 9] (.two 10 14 (.seg [11, 12, 13, 14] (.seg [15] (.seg [16] .fin))) (.seg [10] (.seg [11, 12, 13, 15] (.seg [16] .fin))))) [3] [5, 9] [⟨g, o + jb, none⟩, ⟨gx, ox + m, none⟩] (by kernel_rfl) (by simp) ?_ ?_
            · intro p hp
              simp only [List.mem_cons, List.not_mem_nil, or_false] at hp
              rcases hp with rfl | rfl
              · rw [ca]; rfl
              · rw [cx]; rfl
            unfold pl
            simp only [pickL, List.getD_cons_zero, List.getD_cons_succ]
            go_wp2
            refine ⟨SM _ (Below.refl _ _).drew, ?_⟩
            unfold pl
            refine ⟨?_, ?_⟩
            · simp only [pickL, List.getD_cons_zero, List.getD_cons_succ]
              go_wp2_with fail
              refine (value_any _ pb.2 xv WB.drew (HRB.out.ext (HBW.out.drew)) (by omega)).mono ?_
              rintro e W3 ⟨rfl, hb3⟩
              have hb3' : Below WB.heap.size WB W3 := below_of_drew hb3
              go_wp2
              refine ⟨SM _ hb3', ?_⟩
              unfold pl
              simp only [pickL, List.getD_cons_zero, List.getD_cons_succ]
              go_wp2
              refine ⟨SM _ ?_, ?_⟩
              · (repeat' (first | (with_reducible exact Below.refl _ _) | (with_reducible assumption) | (with_reducible refine below_drewN ?_ _) | (with_reducible refine Below.drew ?_) | (with_reducible refine Below.alloc ?_ ?_ _) | (with_reducible refine Below.setCell ?_ ?_ _) | (with_reducible exact Below.size (by assumption)) | go_size))
              unfold pl
              simp only [pickL, List.getD_cons_zero, List.getD_cons_succ]
              go_wp2
              refine ⟨SM _ ?_, ?_⟩
              · (repeat' (first | (with_reducible exact Below.refl _ _) | (with_reducible assumption) | (with_reducible refine below_drewN ?_ _) | (with_reducible refine Below.drew ?_) | (with_reducible refine Below.alloc ?_ ?_ _) | (with_reducible refine Below.setCell ?_ ?_ _) | (with_reducible exact Below.size (by assumption)) | go_size))
              unfold pl
              simp only [pickL, List.getD_cons_zero, List.getD_cons_succ]
              go_wp2
              refine ⟨SM _ ?_, ?_⟩
              · (repeat' (first | (with_reducible exact Below.refl _ _) | (with_reducible assumption) | (with_reducible refine below_drewN ?_ _) | (with_reducible refine Below.drew ?_) | (with_reducible refine Below.alloc ?_ ?_ _) | (with_reducible refine Below.setCell ?_ ?_ _) | (with_reducible exact Below.size (by assumption)) | go_size))
              unfold pl
              refine ⟨by simp [chkD, dyn, Region.wanted, yielded, Act.eval, scalarV], ⟨.inl rfl, .inl rfl, trivial⟩, ?_⟩
              go_wp2
              go_meet
              case rel =>
                refine ⟨_, rfl, rfl, ?_, ?_⟩
                · (repeat' (first | (with_reducible exact Below.refl _ _) | (with_reducible assumption) | (with_reducible refine below_drewN ?_ _) | (with_reducible refine Below.drew ?_) | (with_reducible refine Below.alloc ?_ ?_ _) | (with_reducible refine Below.setCell ?_ ?_ _) | (with_reducible exact Below.size (by assumption)) | go_size))
                · first | exact Holds.alloc _ _ _ | exact (hblk.setCell (i := 0) _).setCell (i := 1) _
            · simp only [pickL, List.getD_cons_zero, List.getD_cons_succ]
              go_wp2
              refine ⟨SM _ ?_, ?_⟩
              · (repeat' (first | (with_reducible exact Below.refl _ _) | (with_reducible assumption) | (with_reducible refine below_drewN ?_ _) | (with_reducible refine Below.drew ?_) | (with_reducible refine Below.alloc ?_ ?_ _) | (with_reducible refine Below.setCell ?_ ?_ _) | (with_reducible exact Below.size (by assumption)) | go_size))
              unfold pl
              simp only [pickL, List.getD_cons_zero, List.getD_cons_succ]
              go_wp2_with fail
              refine (value_any _ pb.2 xv _ (HRB.out.ext (HBW.out.trans (((Below.refl _ _).alloc (Nat.le_refl _) _).drew.mono HBW.out.size))) (by omega)).mono ?_
              rintro e W3 ⟨rfl, hb3⟩
              have hb3' : Below WB.heap.size WB W3 := ((Below.refl _ _).alloc (Nat.le_refl _) _).trans ((below_of_drew hb3).mono (by simp))
              have hblk : Holds W3 WB.heap.size [.int .i64 0, .int .i64 0] := (Holds.alloc WB [.int .i64 0, .int .i64 0] _).ext (below_of_drew hb3)
              have s0 := hblk.cell (i := 0) rfl
              have s1 := hblk.cell (i := 1) rfl
              have s2 := hblk.free 0
              have s3 := hblk.free 1
              have hlt3 := hblk.lt
              go_wp2
              refine ⟨SM _ hb3', ?_⟩
              unfold pl
              simp only [pickL, List.getD_cons_zero, List.getD_cons_succ]
              go_wp2
              refine ⟨SM _ ?_, ?_⟩
              · (repeat' (first | (with_reducible exact Below.refl _ _) | (with_reducible assumption) | (with_reducible refine below_drewN ?_ _) | (with_reducible refine Below.drew ?_) | (with_reducible refine Below.alloc ?_ ?_ _) | (with_reducible refine Below.setCell ?_ ?_ _) | (with_reducible exact Below.size (by assumption)) | go_size))
              unfold pl
              simp only [pickL, List.getD_cons_zero, List.getD_cons_succ]
              go_wp2
              refine ⟨SM _ ?_, ?_⟩
              · (repeat' (first | (with_reducible exact Below.refl _ _) | (with_reducible assumption) | (with_reducible refine below_drewN ?_ _) | (with_reducible refine Below.drew ?_) | (with_reducible refine Below.alloc ?_ ?_ _) | (with_reducible refine Below.setCell ?_ ?_ _) | (with_reducible exact Below.size (by assumption)) | go_size))
              unfold pl
              refine ⟨by simp [chkD, dyn, Region.wanted, yielded, Act.eval, scalarV], ⟨.inl rfl, .inl rfl, trivial⟩, ?_⟩
              go_wp2
              go_meet
              case rel =>
                refine ⟨_, rfl, rfl, ?_, ?_⟩
                · (repeat' (first | (with_reducible exact Below.refl _ _) | (with_reducible assumption) | (with_reducible refine below_drewN ?_ _) | (with_reducible refine Below.drew ?_) | (with_reducible refine Below.alloc ?_ ?_ _) | (with_reducible refine Below.setCell ?_ ?_ _) | (with_reducible exact Below.size (by assumption)) | go_size))
                · first | exact Holds.alloc _ _ _ | exact (hblk.setCell (i := 0) _).setCell (i := 1) _
          case rest =>
            obtain ⟨k2, rfl, rfl, hbX, hv2⟩ := hcut
            obtain ⟨W2, rfl⟩ : ∃ x, x = wc := ⟨wc, rfl⟩
            have HV2 := Lib.hid hv2
            have HVV := Lib.hid (HV1.out.ext hbX)
            have HBV := Lib.hid (HBW.out.trans (hbX.mono HBW.out.size))
            clear hbX hv2 HV1 HBW
            have cx := (HBV.out.cell (p := ⟨gx, ox + m, none⟩) hgx).trans HCX.out
            have cy := (HBV.out.cell (p := ⟨gy, oy + m, none⟩) hgy).trans HCY.out
            generalize look pa.2 xv = oa at HVV HNE ⊢
            generalize look pb.2 xv = ob at HV2 HNE ⊢
            have q0 := HVV.out.cell (i := 0) rfl
            have q1 := HVV.out.cell (i := 1) rfl
            have q2 := HV2.out.cell (i := 0) rfl
            have q3 := HV2.out.cell (i := 1) rfl
            cases oa with
            | none =>
              cases ob with
              | none => exact absurd rfl HNE.out
              | some q =>
                simp only [gv, Option.getD_some, Option.getD_none, Option.isSome_some, Option.isSome_none] at *
                go_wp2_with fail
                refine rgn [0, 1, 2, 3, 4, 5, 6, 7, 8, 9, 10, 11, 12, 13, 14, 15, 16, 17, 18] [8, 12] (by kernel_rfl) ?_
                simp only [pickL, List.getD_cons_zero, List.getD_cons_succ]
                go_wp2
                refine ⟨by simp [chkD, dyn, Region.wanted, yielded, Act.eval, scalarV], ?_⟩
                go_wp2
                go_roundw
                case rel => exact ⟨m + 1, by go_num, by omega, HBV.out.drew⟩
                case measure => simp [intOf]; omega
            | some p =>
              cases ob with
              | none =>
                simp only [gv, Option.getD_some, Option.getD_none, Option.isSome_some, Option.isSome_none] at *
                go_wp2_with fail
                refine rgn [0, 1, 2, 3, 4, 5, 6, 7, 8, 9, 10, 11, 12, 13, 14, 15, 16, 17, 18] [8, 12] (by kernel_rfl) ?_
                simp only [pickL, List.getD_cons_zero, List.getD_cons_succ]
                go_wp2
                refine ⟨by simp [chkD, dyn, Region.wanted, yielded, Act.eval, scalarV], ?_⟩
                go_wp2
                go_roundw
                case rel => exact ⟨m + 1, by go_num, by omega, HBV.out.drew⟩
                case measure => simp [intOf]; omega
              | some q =>
                simp only [gv, Option.getD_some, Option.getD_none, Option.isSome_some, Option.isSome_none] at *
                obtain ⟨p0, p1⟩ := p
                obtain ⟨r0, r1⟩ := q
                have HPQ : Hid (¬ (p0 = r0 ∧ p1 = r1)) := Lib.hid (by rintro ⟨rfl, rfl⟩; exact HNE.out rfl)
                clear HNE
                go_wp2_with fail
                refine rgn [0, 1, 2, 3, 4, 5, 6, 7, 8, 9, 10, 11, 12, 13, 14, 15, 16, 17, 18] [8, 12] (by kernel_rfl) ?_
                simp only [pickL, List.getD_cons_zero, List.getD_cons_succ]
                go_wp2
                all_goals first
                  | (exfalso; exact HPQ.out ⟨by assumption, by assumption⟩)
                  | (refine ⟨by simp [chkD, dyn, Region.wanted, yielded, Act.eval, scalarV], ?_⟩
                     go_wp2
                     go_roundw
                     case rel => exact ⟨m + 1, by go_num, by omega, HBV.out.drew⟩
                     case measure => simp [intOf]; omega)
      · have hno : decide ((m : Int) < (xs.length : Int)) = false := by simp; omega
        have HB := Lib.hid hB
        clear hB
        go_wp2
        go_meet
        case rel => exact HB.out
  case rest =>
    obtain ⟨wC, rfl⟩ : ∃ x, x = wc := ⟨wc, rfl⟩
    have HBC := Lib.hid hcut
    clear hcut
    have HA1 := Lib.hid (KX.out.half (SRT.out _ _ Pa.out).1 (SRT.out _ _ Pa.out).2)
    have HA2 := Lib.hid (KX.out.half2 (SRT.out _ _ Pb.out).1 (SRT.out _ _ Pb.out).2)
    go_upto_block 2 with fail
    go_cut [] (fun wc => Below wA.heap.size wA wc)
    case first =>
     as_aux_lemma =>
      go_wp2
      go_loopw [27] (fun k wr => ∃ m : Nat, m ≤ 2 ∧ k = .int .i64 (m : Int) ∧ Below wA.heap.size wA wr) (fun k _ => 2 - (intOf k).toNat)
      case atStart => exact ⟨0, by omega, rfl, HBC.out⟩
      case round =>
        obtain ⟨k, hk, rfl, hB⟩ := hrel
        obtain ⟨wo, rfl⟩ : ∃ wo, wo = wr := ⟨wr, rfl⟩
        have HBW := Lib.hid hB
        clear hB
        by_cases hk2 : k < 2
        · have hd2 : decide ((k : Int) < 2) = true := by simp; omega
          have ca := (HBW.out.cell (p := ⟨g, o + ja, none⟩) hg).trans HCA.out
          have cb := (HBW.out.cell (p := ⟨g, o + jb, none⟩) hg).trans HCB.out
          go_upto_if 216 with fail
          go_cut [28, 29] (fun v8 v9 wc => ∃ L1 L2 : List E, ∃ (s1 s2 : Option Addr) (c1 c2 : Nat), v8 = .slice s1 L1.length c1 ∧ v9 = .slice s2 L2.length c2 ∧ Rd wc 3 encL (.slice s1 L1.length c1) L1 ∧ Rd wc 3 encL (.slice s2 L2.length c2) L2 ∧ Half L1 L2 xs ∧ L1.length ≤ 200 ∧ L2.length ≤ 200 ∧ Below wA.heap.size wA wc)
          case first =>
            rcases (show k = 0 ∨ k = 1 by omega) with hk0 | hk0
            · have hk1 : ((k : Int) == 1) = false := by rw [hk0]; rfl
              have hk2 : (k == 1) = false := by rw [hk0]; rfl
              go_wp2
              go_meet
              case rel => exact ⟨_, _, _, _, _, _, rfl, rfl, HRA.out.ext HBW.out, HRB.out.ext HBW.out, HA1.out, la, lb, HBW.out⟩
            · have hk1 : ((k : Int) == 1) = true := by rw [hk0]; rfl
              have hk2 : (k == 1) = true := by rw [hk0]; rfl
              go_wp2
              go_meet
              case rel => exact ⟨_, _, _, _, _, _, rfl, rfl, HRB.out.ext HBW.out, HRA.out.ext HBW.out, HA2.out, lb, la, HBW.out⟩
          case rest =>
            obtain ⟨L1, L2, s1, s2, c1, c2, rfl, rfl, hr1, hr2, hhf, l1, l2, hbw⟩ := hcut
            obtain ⟨wo2, rfl⟩ : ∃ x, x = wc := ⟨wc, rfl⟩
            have HR1 := Lib.hid hr1
            have HR2 := Lib.hid hr2
            have HF := Lib.hid hhf
            have HBV := Lib.hid hbw
            clear hr1 hr2 hhf hbw ca cb HBW
            go_wp2_with fail
            go_loopw [30] (fun k wr => ∃ m : Nat, m ≤ L1.length ∧ k = .int .i64 (m : Int) ∧ Below wo2.heap.size wo2 wr) (fun k _ => L1.length - (intOf k).toNat)
            case atStart => exact ⟨0, by omega, rfl, Below.refl _ _⟩
            case round =>
              obtain ⟨m, hm, rfl, hB⟩ := hrel
              by_cases hml : m < L1.length
              · have e1 : L1[m]? = some L1[m] := List.getElem?_eq_getElem hml
                have hhf := HF.out _ (List.mem_of_getElem? e1)
                generalize L1[m] = y at e1 hhf
                obtain ⟨s1', c1', hs, hnil | ⟨g1, o1, ha1, hg1, hcl⟩⟩ := HR1.out
                · subst hnil; simp at hml
                simp only [Value.slice.injEq, true_and] at hs
                obtain ⟨rfl, rfl⟩ := hs
                subst ha1
                have f0 := (hB.cell (p := ⟨g1, _, none⟩) hg1).trans (hcl m y 0 _ e1 rfl)
                have f1 := (hB.cell (p := ⟨g1, _, none⟩) hg1).trans (hcl m y 1 _ e1 rfl)
                have f2 := (hB.cell (p := ⟨g1, _, none⟩) hg1).trans (hcl m y 2 _ e1 rfl)
                simp only [Nat.add_zero] at f0
                have HHF := Lib.hid hhf
                have HB := Lib.hid hB
                have hrd2 := Lib.hid (HR2.out.ext hB)
                have hg1' := Nat.lt_of_lt_of_le hg1 hB.size
                clear e1 hhf hcl hB
                go_wp2_with fail
                refine (value_any _ L2 y.1 wr hrd2.out (by omega)).mono ?_
                rintro e W3 ⟨rfl, hb3⟩
                have z0 := (hb3.cell (p := ⟨g1, _, none⟩) hg1').trans f0
                have z1 := (hb3.cell (p := ⟨g1, _, none⟩) hg1').trans f1
                have z2 := (hb3.cell (p := ⟨g1, _, none⟩) hg1').trans f2
                have HB3 := Lib.hid hb3
                have hsz3 := hb3.size
                generalize look L2 y.1 = oo at HHF ⊢
                clear hb3 f0 f1 f2
                go_wp2_with fail
                have hv4 := Holds.alloc W3 [.int .i64 (gv oo).k, .int .i64 (gv oo).n] 50
                have hba : Below W3.heap.size W3 (W3.alloc (.cells #[.int .i64 (gv oo).k, .int .i64 (gv oo).n] 50)) := (Below.refl _ _).alloc (Nat.le_refl _) _
                generalize W3.alloc (.cells #[.int .i64 (gv oo).k, .int .i64 (gv oo).n] 50) = W4 at hv4 hba ⊢
                have hg3 : g1 < W3.heap.size := Nat.lt_of_lt_of_le hg1' hsz3
                have hg4 : g1 < W4.heap.size := Nat.lt_of_lt_of_le hg3 hba.size
                have y0 := (hba.cell (p := ⟨g1, _, none⟩) hg3).trans z0
                have y1 := (hba.cell (p := ⟨g1, _, none⟩) hg3).trans z1
                have y2 := (hba.cell (p := ⟨g1, _, none⟩) hg3).trans z2
                have HB4 := Lib.hid (HB.out.trans (HB3.out.trans (hba.mono HB3.out.size) |>.mono HB.out.size))
                have HRX := Lib.hid ((RX.out.ext (HBV.out.trans (HB4.out.mono HBV.out.size))).ext ((Below.refl _ _).drew))
                generalize W3.heap.size = k4 at hv4 hsz3 hg3 hba ⊢
                have HV4 := Lib.hid hv4
                clear hv4 hba z0 z1 z2 HB HB3 hrd2
                cases oo with
                | none =>
                  have HIN := Lib.hid (decide_eq_true (HHF.out.2 (by simp)))
                  simp only [gv, Option.getD_some, Option.getD_none, Option.isSome_some, Option.isSome_none] at *
                  refine rgn [0, 1, 2, 3, 4, 5, 7, 6, 8, 9, 10, 11, 12, 13, 14, 15, 16, 17] [17] (by kernel_rfl) ?_
                  simp only [pickL, List.getD_cons_zero, List.getD_cons_succ]
                  go_wp2_with (go_at_call 28; refine (in_any _ xs _ _ HRX.out (by omega)).mono ?_; rintro e W5 ⟨rfl, hb5⟩; rw [HIN.out]; have HBZ := Lib.hid (HB4.out.trans ((below_of_drew hb5).mono HB4.out.size)); have c0 := (HV4.out.ext (below_of_drew hb5)).cell (i := 0) rfl; have c1 := (HV4.out.ext (below_of_drew hb5)).cell (i := 1) rfl; have d1 := (hb5.cell (p := ⟨g1, _, none⟩) hg4).trans y1; have d2 := (hb5.cell (p := ⟨g1, _, none⟩) hg4).trans y2; clear hb5)
                  refine ⟨by simp [chkD, dyn, Region.wanted, yielded, Act.eval, scalarV], ?_⟩
                  go_wp2
                  go_roundw
                  case rel => exact ⟨m + 1, by omega, by go_num, HBZ.out⟩
                  case measure => simp [intOf]; omega
                | some q =>
                  obtain ⟨q0, q1⟩ := q
                  obtain ⟨yi, ⟨p0, p1⟩⟩ := y
                  by_cases hq : q0 = p0 ∧ q1 = p1
                  · obtain ⟨rfl, rfl⟩ := hq
                    have HIN := Lib.hid (decide_eq_false (fun h => HHF.out.1 h rfl))
                    simp only [gv, Option.getD_some, Option.getD_none, Option.isSome_some, Option.isSome_none] at *
                    refine rgn [0, 1, 2, 3, 4, 5, 7, 6, 8, 9, 10, 11, 12, 13, 14, 15, 16, 17] [17] (by kernel_rfl) ?_
                    simp only [pickL, List.getD_cons_zero, List.getD_cons_succ]
                    go_wp2_with (go_at_call 28; refine (in_any _ xs _ _ HRX.out (by omega)).mono ?_; rintro e W5 ⟨rfl, hb5⟩; rw [HIN.out]; have HBZ := Lib.hid (HB4.out.trans ((below_of_drew hb5).mono HB4.out.size)); have c0 := (HV4.out.ext (below_of_drew hb5)).cell (i := 0) rfl; have c1 := (HV4.out.ext (below_of_drew hb5)).cell (i := 1) rfl; have d1 := (hb5.cell (p := ⟨g1, _, none⟩) hg4).trans y1; have d2 := (hb5.cell (p := ⟨g1, _, none⟩) hg4).trans y2; clear hb5)
                    refine ⟨by simp [chkD, dyn, Region.wanted, yielded, Act.eval, scalarV], ?_⟩
                    go_wp2
                    go_roundw
                    case rel => exact ⟨m + 1, by omega, by go_num, HBZ.out⟩
                    case measure => simp [intOf]; omega
                  · have HIN := Lib.hid (decide_eq_true (HHF.out.2 (fun e => hq (by cases e; exact ⟨rfl, rfl⟩))))
                    have HQ := Lib.hid hq
                    clear hq
                    simp only [gv, Option.getD_some, Option.getD_none, Option.isSome_some, Option.isSome_none] at *
                    refine rgn [0, 1, 2, 3, 4, 5, 7, 6, 8, 9, 10, 11, 12, 13, 14, 15, 16, 17] [17] (by kernel_rfl) ?_
                    simp only [pickL, List.getD_cons_zero, List.getD_cons_succ]
                    go_wp2_with (go_at_call 28; refine (in_any _ xs _ _ HRX.out (by omega)).mono ?_; rintro e W5 ⟨rfl, hb5⟩; rw [HIN.out]; have HBZ := Lib.hid (HB4.out.trans ((below_of_drew hb5).mono HB4.out.size)); have c0 := (HV4.out.ext (below_of_drew hb5)).cell (i := 0) rfl; have c1 := (HV4.out.ext (below_of_drew hb5)).cell (i := 1) rfl; have d1 := (hb5.cell (p := ⟨g1, _, none⟩) hg4).trans y1; have d2 := (hb5.cell (p := ⟨g1, _, none⟩) hg4).trans y2; clear hb5)
                    all_goals first
                      | (exfalso; exact HQ.out ⟨by assumption, by assumption⟩)
                      | (refine ⟨by simp [chkD, dyn, Region.wanted, yielded, Act.eval, scalarV], ?_⟩
                         go_wp2
                         go_roundw
                         case rel => exact ⟨m + 1, by omega, by go_num, HBZ.out⟩
                         case measure => simp [intOf]; omega)
              · have hno : decide ((m : Int) < (L1.length : Int)) = false := by simp; omega
                have HB := Lib.hid hB
                clear hB
                go_wp2
                go_roundw
                case rel => exact ⟨k + 1, by omega, by go_num, HBV.out.trans (HB.out.mono HBV.out.size)⟩
                case measure => simp [intOf]; omega
        · have hno : decide ((k : Int) < 2) = false := by simp; omega
          go_wp2
          go_meet
          case rel => exact HBW.out
    case rest =>
      obtain ⟨wD, rfl⟩ : ∃ x, x = wc := ⟨wc, rfl⟩
      have HBD := Lib.hid hcut
      clear hcut
      go_upto_block 6 with fail
      go_cut [] (fun wc => Below wA.heap.size wA wc)
      case first =>
       as_aux_lemma =>
        go_wp2
        go_loopw [33] (fun k wr => ∃ m : Nat, m ≤ zs.length ∧ k = .int .i64 (m : Int) ∧ Below wA.heap.size wA wr) (fun k _ => zs.length - (intOf k).toNat)
        case atStart => exact ⟨0, by omega, rfl, HBD.out⟩
        case round =>
          obtain ⟨m, hm, rfl, hB⟩ := hrel
          by_cases hml : m < zs.length
          · have e1 : zs[m]? = some zs[m] := List.getElem?_eq_getElem hml
            have hz := List.mem_of_getElem? e1
            have hvia : zs[m] ∉ xs → zs[m] ∈ ws := fun h => KX.out.via KW.out KZ.out hz h
            generalize zs[m] = zv at e1 hvia
            obtain ⟨gz, oz, hza, hgz, cz⟩ := rdK_at RZ.out e1
            subst hza
            have f0 := (hB.cell (p := ⟨gz, _, none⟩) hgz).trans cz
            have hgz' := Nat.lt_of_lt_of_le hgz hB.size
            have HB := Lib.hid hB
            have HRX := Lib.hid (RX.out.ext hB)
            have HRW := Lib.hid (RW.out.ext hB)
            clear e1 hz cz hB
            by_cases hzx : zv ∈ xs
            · have HIN := Lib.hid (decide_eq_true hzx)
              clear hzx hvia
              go_wp2_with (go_at_call 28; refine (in_any _ xs _ _ HRX.out (by omega)).mono ?_; rintro e W5 ⟨rfl, hb5⟩; rw [HIN.out]; have HB5 := Lib.hid (HB.out.trans (hb5.mono HB.out.size)); clear hb5)
              go_roundw
              case rel => exact ⟨m + 1, by omega, by go_num, HB5.out⟩
              case measure => simp [intOf]; omega
            · have HIN := Lib.hid (decide_eq_false hzx)
              have HIW := Lib.hid (decide_eq_true (hvia hzx))
              clear hzx hvia
              go_wp2_with fail
              refine (in_any _ xs _ _ HRX.out (by omega)).mono ?_
              rintro e W5 ⟨rfl, hb5⟩
              rw [HIN.out]
              have HB5 := Lib.hid (HB.out.trans (hb5.mono HB.out.size))
              have HRW5 := Lib.hid (HRW.out.ext hb5)
              have f1 := (hb5.cell (p := ⟨gz, _, none⟩) hgz').trans f0
              clear hb5 f0
              go_wp2_with fail
              refine (in_any _ ws _ _ HRW5.out (by omega)).mono ?_
              rintro e W6 ⟨rfl, hb6⟩
              rw [HIW.out]
              have HB6 := Lib.hid (HB5.out.trans (hb6.mono HB5.out.size))
              clear hb6
              go_wp2
              go_roundw
              case rel => exact ⟨m + 1, by omega, by go_num, HB6.out⟩
              case measure => simp [intOf]; omega
          · have hno : decide ((m : Int) < (zs.length : Int)) = false := by simp; omega
            have HB := Lib.hid hB
            clear hB
            go_wp2
            go_meet
            case rel => exact HB.out
      case rest =>
        obtain ⟨wE, rfl⟩ : ∃ x, x = wc := ⟨wc, rfl⟩
        have HBE := Lib.hid hcut
        have HE := Lib.hid (H12.out.ext hcut)
        have BE := Lib.hid (B12.out.trans (hcut.mono B12.out.size))
        clear hcut HBC HBD
        go_wp2_with fail
        refine (keys_any bh ps i _ _ _ HE.out).mono ?_
        rintro e u1 ⟨en, xn, ht, rfl, ho, hb⟩
        have hn : xn = [] := (ht.key (verP_to HE.out.lt Pa.out (by omega)) (verP_to HE.out.lt Pa.out (by omega))).self
        subst hn
        obtain ⟨na, nc, rfl, _⟩ := own_fits ho
        have H1 := Lib.hid (HE.out.ext hb)
        have B1 := Lib.hid (BE.out.trans (hb.mono BE.out.size))
        clear hb ho ht HE BE
        go_wp2_with fail
        refine (keys_any bh ps i _ _ _ H1.out).mono ?_
        rintro e u2 ⟨en, xn, ht, rfl, ho, hb⟩
        have hn : xn = [] := ht.no (.inr (verP_no (.inr (by have := hnr.out; have := HPL.out; omega))))
        subst hn
        obtain ⟨na, nc, rfl, _⟩ := own_fits ho
        have H2 := Lib.hid (H1.out.ext hb)
        have B2 := Lib.hid (B1.out.trans (hb.mono B1.out.size))
        clear hb ho ht H1 B1
        go_wp2_with fail
        refine (keys_any bh ps i _ _ _ H2.out).mono ?_
        rintro e u3 ⟨en, xn, ht, rfl, ho, hb⟩
        have hn : xn = [] := ht.no (.inl (verP_no (.inl (by omega))))
        subst hn
        obtain ⟨na, nc, rfl, _⟩ := own_fits ho
        have B3 := Lib.hid (B2.out.trans (hb.mono B2.out.size))
        clear hb ho ht H2 B2
        go_wp2
        go_returns
        exact ⟨rfl, B3.out⟩
end Go.Proofs.Ytmhhejpokgdjoaa
