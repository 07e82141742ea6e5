/- The walk of levylaw11.HistApart. -/
import Derived.Test.YtmhhejpokgdjoaaCn
namespace Go.Proofs.Ytmhhejpokgdjoaa
open Go Go.RowKit
set_option linter.unusedVariables false
set_option linter.unusedSimpArgs false

theorem playsH_facts {w : World} {b : Nat} {S : HS} (h : HistS w b S) : S.2 < S.1.length ∧ S.1.length ≤ 33 ∧ (∀ v ∈ S.1, v.length ≤ 200) ∧ b < w.heap.size := HistL.facts h
set_option maxRecDepth 100000 in
set_option maxHeartbeats 16000000 in
theorem histApart_any (v0 v1 v2 : Value) (script ours theirs : List OpL) (w : World) (hs0 : Script w v0 script) (hs1 : Script w v1 ours) (hs2 : Script w v2 theirs) :
    Calls Try.prog 5 #[v0, v1, v2] w fun e w' => e = .returned (.bool true) ∧ Below w.heap.size w w' := by
  have ep := fun b W => eql_ph_nil ⟨b, 0, none⟩ W
  have em := fun b W => eql_pm_nil ⟨b, 0, none⟩ W
  have S0 := Lib.hid hs0
  have S1 := Lib.hid hs1
  have S2 := Lib.hid hs2
  obtain ⟨a0, c0, rfl, _⟩ := hs0.rd
  obtain ⟨a1, c1, rfl, _⟩ := hs1.rd
  obtain ⟨a2, c2, rfl, _⟩ := hs2.rd
  clear hs0 hs1 hs2
  go_enter Try.func5, Try.ntmps5
  go_wp2_with fail
  refine (known_any w).mono ?_
  rintro e w1 ⟨rfl, hb1⟩
  have B1 := Lib.hid hb1
  clear hb1
  go_wp2_with fail
  refine (new_any _ [] w1 (.inr ⟨rfl, rfl⟩) (by simp)).mono ?_
  rintro e w2 ⟨bh, rfl, hh, hge, hb2⟩
  have H2 := Lib.hid hh
  have B2 := Lib.hid (B1.out.trans (hb2.mono B1.out.size))
  have hwh : Hid (w.heap.size ≤ bh) := Lib.hid (by have := B1.out.size; omega)
  clear hh hb2 hge
  go_wp2_with fail
  refine (new_any _ [] w2 (.inr ⟨rfl, rfl⟩) (by simp)).mono ?_
  rintro e w3 ⟨bg, rfl, hh, hge, hb3⟩
  have hne1 : Hid (bh ≠ bg) := Lib.hid (by have := H2.out.facts.2.2.2; omega)
  have H3 := Lib.hid (H2.out.ext hb3)
  have G3 := Lib.hid hh
  have B3 := Lib.hid (B2.out.trans (hb3.mono B2.out.size))
  have hwg : Hid (w.heap.size ≤ bg) := Lib.hid (by have := B2.out.size; omega)
  clear hh hb3 hge H2 B2 B1
  go_wp2_with fail
  refine (plays_any bh ([[]], 0) _ script w w3 H3.out S0.out B3.out hwh.out).mono ?_
  rintro e w4 ⟨⟨v, rfl⟩, hh, ho⟩
  have H4 := Lib.hid hh
  have G4 := Lib.hid (HistL.only G3.out H3.out hne1.out.symm ho)
  have B4 := Lib.hid (B3.out.trans (ho.below hwh.out B3.out.size))
  clear hh ho H3 G3 B3
  go_wp2_with fail
  refine (plays_any bg ([[]], 0) _ script w w4 G4.out S0.out B4.out hwg.out).mono ?_
  rintro e w5 ⟨⟨v', rfl⟩, hh, ho⟩
  generalize playsH script ([[]], 0) = S at hh H4
  have G5 := Lib.hid hh
  have H5 : Hid (HistS w5 bh S) := Lib.hid (HistL.only H4.out G4.out hne1.out ho)
  have B5 := Lib.hid (B4.out.trans (ho.below hwg.out B4.out.size))
  clear hh ho H4 G4 B4 S0
  obtain ⟨vs, i⟩ := S
  have hfac := HistL.facts H5.out
  have hfac1 := hfac.1
  have hfac2 := hfac.2.1
  have HVS := Lib.hid hfac.2.2.1
  dsimp only at hfac1 hfac2
  clear hfac
  go_wp2_with fail
  refine (hclone_any bh vs i w5 H5.out).mono ?_
  rintro e w6 ⟨bc, rfl, hh, hge, hb6⟩
  have hne2 : Hid (bh ≠ bc) := Lib.hid (by have := H5.out.facts.2.2.2; omega)
  have hne3 : Hid (bg ≠ bc) := Lib.hid (by have := G5.out.facts.2.2.2; omega)
  have H6 := Lib.hid (HistL.ext H5.out hb6)
  have G6 := Lib.hid (HistL.ext G5.out hb6)
  have C6 := Lib.hid hh
  have B6 := Lib.hid (B5.out.trans (hb6.mono B5.out.size))
  have hwc : Hid (w.heap.size ≤ bc) := Lib.hid (by have := B5.out.size; omega)
  clear hh hb6 hge H5 G5 B5
  go_wp2_with fail
  refine (all_vs bh vs i w6 H6.out).mono ?_
  rintro e w7 ⟨es, rfl, hA, hb7⟩
  have hcA : Hid (bc < w6.heap.size) := Lib.hid C6.out.facts.2.2.2
  have hhA : Hid (bh < w6.heap.size) := Lib.hid H6.out.facts.2.2.2
  have hgA : Hid (bg < w6.heap.size) := Lib.hid G6.out.facts.2.2.2
  obtain ⟨za, zc, hv, _⟩ := hA.len
  subst hv
  have H7 := Lib.hid (HistL.ext H6.out hb7)
  have G7 := Lib.hid (HistL.ext G6.out hb7)
  have C7 := Lib.hid (HistL.ext C6.out hb7)
  have A7 := Lib.hid hA
  have B7 := Lib.hid (B6.out.trans (hb7.mono B6.out.size))
  clear hA hb7 H6 G6 C6 B6
  go_wp2_with fail
  refine (now_any bh vs i w7 H7.out).mono ?_
  rintro e w8 ⟨ct, lt, rfl, hl, hm, hb8⟩
  have hllt := HVS.out lt (List.mem_of_getElem? hl)
  have H8 := Lib.hid (HistL.ext H7.out hb8)
  have G8 := Lib.hid (HistL.ext G7.out hb8)
  have C8 := Lib.hid (HistL.ext C7.out hb8)
  have A8 := Lib.hid (A7.out.below hb8)
  have M8 := Lib.hid hm
  have B8 := Lib.hid (B7.out.trans (hb8.mono B7.out.size))
  clear hl hm hb8 H7 G7 C7 A7 B7
  go_wp2_with fail
  refine (entries_any _ lt w8 (.inl ⟨ct, rfl, M8.out⟩) (by omega)).mono ?_
  rintro e w9 ⟨es, rfl, hO, hb9⟩
  obtain ⟨ka, kc, hv, _⟩ := own_fits hO
  subst hv
  have hcK : Hid (bc < w8.heap.size) := Lib.hid C8.out.facts.2.2.2
  have hhK : Hid (bh < w8.heap.size) := Lib.hid H8.out.facts.2.2.2
  have H9 := Lib.hid (HistL.ext H8.out hb9)
  have G9 := Lib.hid (HistL.ext G8.out hb9)
  have C9 := Lib.hid (HistL.ext C8.out hb9)
  have A9 := Lib.hid (A8.out.below hb9)
  have M9 := Lib.hid (M8.out.ext hb9)
  have K9 := Lib.hid hO
  have B9 := Lib.hid (B8.out.trans (hb9.mono B8.out.size))
  clear hO hb9 H8 G8 C8 A8 M8 B8
  go_wp2_with fail
  refine (plays_any bc (vs, i) _ theirs w w9 C9.out S2.out B9.out hwc.out).mono ?_
  rintro e w10 ⟨⟨v'', rfl⟩, hh, ho⟩
  generalize playsH theirs (vs, i) = U at hh
  obtain ⟨us, j⟩ := U
  have hfu := HistL.facts hh
  have hfu1 := hfu.1
  have hfu2 := hfu.2.1
  have HUS := Lib.hid hfu.2.2.1
  dsimp only at hfu1 hfu2
  have C10 : Hid (HistL w10 bc us j) := Lib.hid hh
  have H10 := Lib.hid (HistL.only H9.out C9.out hne2.out ho)
  have G10 := Lib.hid (HistL.only G9.out C9.out hne3.out ho)
  have A10 := Lib.hid (A9.out.only ho hcA.out)
  have M10 := Lib.hid (M9.out.onlyH C9.out ho)
  have K10 := Lib.hid (ho.own K9.out hcK.out)
  have B10 := Lib.hid (B9.out.trans (ho.below hwc.out B9.out.size))
  clear hh ho hfu H9 G9 C9 A9 M9 K9 B9 S2
  go_wp2_with fail
  refine (all_vs bh vs i w10 H10.out).mono ?_
  rintro e w11 ⟨es, rfl, hA, hb11⟩
  obtain ⟨ya, yc, hv, _⟩ := hA.len
  subst hv
  have H11 := Lib.hid (HistL.ext H10.out hb11)
  have G11 := Lib.hid (HistL.ext G10.out hb11)
  have C11 := Lib.hid (HistL.ext C10.out hb11)
  have A11 := Lib.hid (A10.out.below hb11).r
  have E11 := Lib.hid hA.r
  have M11 := Lib.hid (M10.out.ext hb11)
  have K11 := Lib.hid (K10.out.below hb11)
  have B11 := Lib.hid (B10.out.trans (hb11.mono B10.out.size))
  clear hA hb11 H10 G10 C10 A10 M10 K10 B10
  go_wp2_with fail
  refine (sameAll_any _ _ vs vs w11 A11.out E11.out HVS.out HVS.out (by omega) (by omega)).mono ?_
  rintro e w12 ⟨rfl, hb12⟩
  rw [decide_eq_true (rfl : vs = vs)]
  have H12 := Lib.hid (HistL.ext H11.out hb12)
  have G12 := Lib.hid (HistL.ext G11.out hb12)
  have C12 := Lib.hid (HistL.ext C11.out hb12)
  have M12 := Lib.hid (M11.out.ext hb12)
  have K12 := Lib.hid (K11.out.below hb12)
  have B12 := Lib.hid (B11.out.trans (hb12.mono B11.out.size))
  clear hb12 H11 G11 C11 A11 E11 M11 K11 B11
  go_wp2_with fail
  refine (entries_any _ lt w12 (.inl ⟨ct, rfl, M12.out⟩) (by omega)).mono ?_
  rintro e w13 ⟨es, rfl, hO, hb13⟩
  obtain ⟨z1, z2, hv, _⟩ := own_fits hO
  subst hv
  have H13 := Lib.hid (HistL.ext H12.out hb13)
  have G13 := Lib.hid (HistL.ext G12.out hb13)
  have C13 := Lib.hid (HistL.ext C12.out hb13)
  have M13 := Lib.hid (M12.out.ext hb13)
  have K13 := Lib.hid (K12.out.below hb13)
  have E13 := Lib.hid hO
  have B13 := Lib.hid (B12.out.trans (hb13.mono B12.out.size))
  clear hO hb13 H12 G12 C12 M12 K12 B12
  go_wp2_with fail
  refine (sameEntries_any _ _ lt lt w13 (E13.out.rd encL_len) (K13.out.rd encL_len) (by omega) (by omega)).mono ?_
  rintro e w14 ⟨rfl, hb14⟩
  rw [decide_eq_true (rfl : lt = lt)]
  have H14 := Lib.hid (HistL.ext H13.out hb14)
  have G14 := Lib.hid (HistL.ext G13.out hb14)
  have C14 := Lib.hid (HistL.ext C13.out hb14)
  have M14 := Lib.hid (M13.out.ext hb14)
  have K14 := Lib.hid (K13.out.below hb14)
  have B14 := Lib.hid (B13.out.trans (hb14.mono B13.out.size))
  clear hb14 H13 G13 C13 M13 K13 E13 B13
  go_wp2_with fail
  refine (all_vs bc us j w14 C14.out).mono ?_
  rintro e w15 ⟨es, rfl, hA, hb15⟩
  have hhB : Hid (bh < w14.heap.size) := Lib.hid H14.out.facts.2.2.2
  obtain ⟨xa, xc, hv, _⟩ := hA.len
  subst hv
  have H15 := Lib.hid (HistL.ext H14.out hb15)
  have G15 := Lib.hid (HistL.ext G14.out hb15)
  have C15 := Lib.hid (HistL.ext C14.out hb15)
  have M15 := Lib.hid (M14.out.ext hb15)
  have K15 := Lib.hid (K14.out.below hb15)
  have A15 := Lib.hid hA
  have B15 := Lib.hid (B14.out.trans (hb15.mono B14.out.size))
  clear hA hb15 H14 G14 C14 M14 K14 B14
  go_wp2_with fail
  refine (plays_any bh (vs, i) _ ours w w15 H15.out S1.out B15.out hwh.out).mono ?_
  rintro e w16 ⟨⟨v3, rfl⟩, hh, ho⟩
  have H16 := Lib.hid hh
  have G16 := Lib.hid (HistL.only G15.out H15.out hne1.out.symm ho)
  have C16 := Lib.hid (HistL.only C15.out H15.out hne2.out.symm ho)
  have A16 := Lib.hid (A15.out.only ho hhB.out)
  have M16 := Lib.hid (M15.out.onlyH H15.out ho)
  have K16 := Lib.hid (ho.own K15.out hhK.out)
  have B16 := Lib.hid (B15.out.trans (ho.below hwh.out B15.out.size))
  clear hh ho H15 G15 C15 A15 M15 K15 B15
  go_wp2_with fail
  refine (all_vs bc us j w16 C16.out).mono ?_
  rintro e w17 ⟨es, rfl, hA, hb17⟩
  obtain ⟨ua, uc, hv, _⟩ := hA.len
  subst hv
  have H17 := Lib.hid (HistL.ext H16.out hb17)
  have G17 := Lib.hid (HistL.ext G16.out hb17)
  have A17 := Lib.hid (A16.out.below hb17).r
  have E17 := Lib.hid hA.r
  have M17 := Lib.hid (M16.out.ext hb17)
  have K17 := Lib.hid (K16.out.below hb17)
  have B17 := Lib.hid (B16.out.trans (hb17.mono B16.out.size))
  clear hA hb17 H16 G16 C16 A16 M16 K16 B16
  go_wp2_with fail
  refine (sameAll_any _ _ us us w17 A17.out E17.out HUS.out HUS.out (by omega) (by omega)).mono ?_
  rintro e w18 ⟨rfl, hb18⟩
  rw [decide_eq_true (rfl : us = us)]
  have H18 := Lib.hid (HistL.ext H17.out hb18)
  have G18 := Lib.hid (HistL.ext G17.out hb18)
  have M18 := Lib.hid (M17.out.ext hb18)
  have K18 := Lib.hid (K17.out.below hb18)
  have B18 := Lib.hid (B17.out.trans (hb18.mono B17.out.size))
  clear hb18 H17 G17 A17 E17 M17 K17 B17
  go_wp2_with fail
  refine (entries_any _ lt w18 (.inl ⟨ct, rfl, M18.out⟩) (by omega)).mono ?_
  rintro e w19 ⟨es, rfl, hO, hb19⟩
  obtain ⟨z3, z4, hv, _⟩ := own_fits hO
  subst hv
  have H19 := Lib.hid (HistL.ext H18.out hb19)
  have G19 := Lib.hid (HistL.ext G18.out hb19)
  have M19 := Lib.hid (M18.out.ext hb19)
  have K19 := Lib.hid (K18.out.below hb19)
  have E19 := Lib.hid hO
  have B19 := Lib.hid (B18.out.trans (hb19.mono B18.out.size))
  clear hO hb19 H18 G18 M18 K18 B18
  go_wp2_with fail
  refine (sameEntries_any _ _ lt lt w19 (E19.out.rd encL_len) (K19.out.rd encL_len) (by omega) (by omega)).mono ?_
  rintro e w20 ⟨rfl, hb20⟩
  rw [decide_eq_true (rfl : lt = lt)]
  have H20 := Lib.hid (HistL.ext H19.out hb20)
  have G20 := Lib.hid (HistL.ext G19.out hb20)
  have M20 := Lib.hid (M19.out.ext hb20)
  have B20 := Lib.hid (B19.out.trans (hb20.mono B19.out.size))
  clear hb20 H19 G19 M19 K19 E19 B19
  go_wp2_with fail
  refine (put_l ct 1 lt ⟨2, 5⟩ w20 M20.out (by omega) (by omega)).mono ?_
  rintro e w21 ⟨b21, rfl, _, hb21⟩
  have H21 := Lib.hid (HistL.ext H20.out hb21)
  have G21 := Lib.hid (HistL.ext G20.out hb21)
  have B21 := Lib.hid (B20.out.trans (hb21.mono B20.out.size))
  clear hb21 H20 G20 M20 B20
  go_wp2_with fail
  refine (plays_any bg (vs, i) _ ours w w21 G21.out S1.out B21.out hwg.out).mono ?_
  rintro e w22 ⟨⟨v4, rfl⟩, hh, ho⟩
  have H22 : Hid (HistS w22 bh (playsH ours (vs, i))) := Lib.hid (HistL.only H21.out G21.out hne1.out ho)
  have B22 := Lib.hid (B21.out.trans (ho.below hwg.out B21.out.size))
  generalize playsH ours (vs, i) = R at hh H22
  obtain ⟨rs, k⟩ := R
  have hfr := HistL.facts hh
  have hfr1 := hfr.1
  have hfr2 := hfr.2.1
  have HRS := Lib.hid hfr.2.2.1
  dsimp only at hfr1 hfr2
  have G22 := Lib.hid (show HistL w22 bg rs k from hh)
  clear hh ho hfr H21 G21 B21 S1
  go_wp2_with fail
  refine (all_vs bg rs k w22 G22.out).mono ?_
  rintro e w23 ⟨es, rfl, hA, hb23⟩
  obtain ⟨ta, tc, hv, _⟩ := hA.len
  subst hv
  have H23 := Lib.hid (HistL.ext H22.out hb23)
  have A23 := Lib.hid hA
  have B23 := Lib.hid (B22.out.trans (hb23.mono B22.out.size))
  clear hA hb23 H22 G22 B22
  go_wp2_with fail
  refine (all_vs bh rs k w23 H23.out).mono ?_
  rintro e w24 ⟨es, rfl, hA, hb24⟩
  obtain ⟨sa, sc, hv, _⟩ := hA.len
  subst hv
  have A24 := Lib.hid (A23.out.below hb24).r
  have E24 := Lib.hid hA.r
  have B24 := Lib.hid (B23.out.trans (hb24.mono B23.out.size))
  clear hA hb24 H23 A23 B23
  go_wp2_with fail
  refine (sameAll_any _ _ rs rs w24 A24.out E24.out HRS.out HRS.out (by omega) (by omega)).mono ?_
  rintro e w25 ⟨rfl, hb25⟩
  rw [decide_eq_true (rfl : rs = rs)]
  have B25 := Lib.hid (B24.out.trans (hb25.mono B24.out.size))
  clear hb25 A24 E24 B24
  go_wp2_with fail
  refine (many_any w25).mono ?_
  rintro e w26 ⟨rfl, hb26⟩
  have B26 := Lib.hid (B25.out.trans (hb26.mono B25.out.size))
  clear hb26 B25
  go_wp2
  go_returns
  exact ⟨rfl, B26.out⟩
end Go.Proofs.Ytmhhejpokgdjoaa
