/- The walk of levylaw11.HistBound. -/
import Derived.Test.YtmhhejpokgdjoaaKh
namespace Go.Proofs.Ytmhhejpokgdjoaa
open Go Go.RowKit
set_option linter.unusedVariables false
set_option linter.unusedSimpArgs false

theorem rd_sub {w : World} {g o c : Nat} {script : List OpL} (h : Rd w 6 opCells (.slice (some ⟨g, o, none⟩) script.length c) script) (hc : script.length ≤ c) {k : Nat} {x : OpL} (hx : script[k]? = some x) :
    Rd w 6 opCells (.slice (some ⟨g, o + k * 6, none⟩) 1 (c - k)) [x] := by
  obtain ⟨a', c', hs, hnil | ⟨g', o', he, hg, hcl⟩⟩ := h
  · subst hnil; simp at hx
  · subst he
    simp only [Value.slice.injEq, Option.some.injEq, Addr.mk.injEq, and_true, true_and] at hs
    obtain ⟨⟨rfl, rfl⟩, _⟩ := hs
    refine ⟨_, _, rfl, .inr ⟨g, o + k * 6, rfl, hg, fun i y j u hi hj => ?_⟩⟩
    match i, hi with
    | 0, hi =>
      cases hi
      have := hcl k x j u hx hj
      simpa using this
    | i + 1, hi => simp at hi
set_option maxRecDepth 100000 in
set_option maxHeartbeats 16000000 in
theorem histBound_any (v0 : Value) (n : Int) (script : List OpL) (w : World) (hsc : Script w v0 script) (hcap : ∀ a c, v0 = .slice a script.length c → script.length ≤ c) :
    Calls Try.prog 4 #[v0, .int .i64 n] w fun e w' => e = .returned (.bool true) ∧ Below w.heap.size w w' := by
  have ep := fun b W => eql_ph_nil ⟨b, 0, none⟩ W
  have SC := Lib.hid hsc
  obtain ⟨a0, c0, rfl, _⟩ := hsc.rd
  have hc0 := hcap a0 c0 rfl
  have hlm := hsc.len
  clear hsc hcap
  go_enter Try.func4, Try.ntmps4
  go_wp2_with fail
  refine (known_any w).mono ?_
  rintro e w1 ⟨rfl, hb1⟩
  have B1 := Lib.hid hb1
  clear hb1
  go_wp2_with fail
  refine (new_any _ [] w1 (.inr ⟨rfl, rfl⟩) (by simp)).mono ?_
  rintro e w2 ⟨b, rfl, hh, hge, hb2⟩
  have H2 := Lib.hid hh
  have B2 := Lib.hid (B1.out.trans (hb2.mono B1.out.size))
  have hwb : Hid (w.heap.size ≤ b) := Lib.hid (by have := B1.out.size; omega)
  clear hh hb2 hge B1
  go_upto_block 0 with fail
  go_cut [6] (fun k wc => ∃ vs i, HistL wc b vs i ∧ Only b w2 wc)
  case first =>
   as_aux_lemma =>
    go_wp2
    go_loopw [6] (fun k wr => ∃ (m : Nat) (vs : List (List E)) (i : Nat), k = .int .i64 (m : Int) ∧ m ≤ script.length ∧ HistL wr b vs i ∧ Only b w2 wr) (fun k _ => script.length - (intOf k).toNat)
    case atStart => exact ⟨0, _, _, rfl, by omega, H2.out, Only.refl _ _⟩
    case round =>
      obtain ⟨m, vs, i, rfl, hm, hH, hO⟩ := hrel
      by_cases hml : m < script.length
      · have e1 : script[m]? = some script[m] := List.getElem?_eq_getElem hml
        have hls := SC.out.ls _ (List.getElem_mem hml)
        obtain ⟨g, o, hao⟩ : ∃ g o, a0 = some ⟨g, o, none⟩ := by
          obtain ⟨a', c', hs, hnil | ⟨g', o', he, hg, hcl⟩⟩ := SC.out.rd
          · subst hnil; simp at hml
          · simp only [Value.slice.injEq] at hs
            exact ⟨g', o', hs.1.trans he⟩
        subst hao
        have hsub := rd_sub SC.out.rd hc0 e1
        generalize script[m] = x at e1 hls hsub
        have hs1 : Script w (.slice (some ⟨g, o + m * 6, none⟩) 1 (c0 - m)) [x] := ⟨hsub, fun y hy => by rw [List.mem_singleton] at hy; subst hy; exact hls, by simp⟩
        have hBw : Below w.heap.size w wr := B2.out.trans (hO.below hwb.out B2.out.size)
        have hpl := plays_any b (vs, i) _ [x] w wr hH hs1 hBw hwb.out
        have HPL := Lib.hid hpl
        have HO := Lib.hid hO
        have hcm : ¬ c0 = m := by omega
        clear e1 hls hsub hs1 hBw hpl hH hO
        go_wp2_with fail
        refine HPL.out.mono ?_
        rintro e w3 ⟨⟨v, rfl⟩, hh, ho⟩
        generalize playsH [x] (vs, i) = S at hh
        obtain ⟨us, j⟩ := S
        have hfac := HistL.facts hh
        have hfac1 := hfac.1
        have hfac2 := hfac.2.1
        dsimp only at hfac1 hfac2
        have H3 := Lib.hid (show HistL w3 b us j from hh)
        have O3 := Lib.hid (HO.out.trans ho)
        clear hh ho hfac HPL HO
        go_wp2_with fail
        refine (depth_any b us j w3 H3.out).mono ?_
        rintro e w4 ⟨rfl, hb4⟩
        have H4 := Lib.hid (H3.out.ext hb4)
        have O4 := Lib.hid (O3.out.trans (Only.of_below hb4))
        obtain ⟨r, hr⟩ : ∃ r, us.length - 1 - j = r := ⟨_, rfl⟩
        rw [hr]
        have d1 : decide ((j : Int) < 0) = false := by simp
        have d2 : decide ((r : Int) < 0) = false := by simp
        have d3 : decide ((32 : Int) < (j : Int) + (r : Int)) = false := by simp; omega
        have d4 : decide (32 < j + r) = false := by simp; omega
        clear hb4 H3 O3
        go_wp2
        go_roundw
        case rel => exact ⟨m + 1, us, j, by go_num, by omega, H4.out, O4.out⟩
        case measure => simp [intOf]; omega
      · have hno : decide ((m : Int) < (script.length : Int)) = false := by simp; omega
        have HH := Lib.hid hH
        have HO := Lib.hid hO
        clear hH hO
        go_wp2
        go_meet
        case rel => exact ⟨vs, i, HH.out, HO.out⟩
  case rest =>
    obtain ⟨vs, i, hH, hO⟩ := hcut
    obtain ⟨w3, rfl⟩ : ∃ x, x = wc := ⟨wc, rfl⟩
    have hfac := HistL.facts hH
    have hi := hfac.1
    have hvl := hfac.2.1
    have HVS := Lib.hid hfac.2.2.1
    have H3 := Lib.hid hH
    have O3 := Lib.hid hO
    clear hH hO hfac H2
    go_wp2_with fail
    refine (depth_any b vs i w3 H3.out).mono ?_
    rintro e w4 ⟨rfl, hb4⟩
    have H4 := Lib.hid (H3.out.ext hb4)
    have O4 := Lib.hid (O3.out.trans (Only.of_below hb4))
    clear hb4 H3 O3
    go_wp2_with fail
    refine (all_vs b vs i w4 H4.out).mono ?_
    rintro e w5 ⟨es, rfl, hA, hb5⟩
    have hbA : b < w4.heap.size := H4.out.facts.2.2.2
    have H5 := Lib.hid (H4.out.ext hb5)
    have O5 := Lib.hid (O4.out.trans (Only.of_below hb5))
    obtain ⟨za, zc, hv, hzf⟩ := hA.len
    subst hv
    have A5 := Lib.hid hA
    clear hA hb5 H4 O4
    by_cases hn : n < 0 ∨ (i : Int) < n
    · go_wp2_with fail
      refine (forget_no b vs i n w5 H5.out hn).mono ?_
      rintro e w6 ⟨rfl, hb6⟩
      have H6 := Lib.hid (H5.out.ext hb6)
      have O6 := Lib.hid (O5.out.trans (Only.of_below hb6))
      have A6 := Lib.hid (A5.out.below hb6)
      clear hb6 H5 O5 A5
      go_wp2_with fail
      refine (all_vs b vs i w6 H6.out).mono ?_
      rintro e w7 ⟨es, rfl, hA, hb7⟩
      obtain ⟨ya, yc, hv, _⟩ := hA.len
      subst hv
      have H7 := Lib.hid (H6.out.ext hb7)
      have O7 := Lib.hid (O6.out.trans (Only.of_below hb7))
      have A7 := Lib.hid (A6.out.below hb7)
      have E7 := Lib.hid hA
      clear hb7 hA H6 O6 A6
      go_wp2_with fail
      refine (depth_any b vs i w7 H7.out).mono ?_
      rintro e w8 ⟨rfl, hb8⟩
      have O8 := Lib.hid (O7.out.trans (Only.of_below hb8))
      have A8 := Lib.hid (A7.out.below hb8).r
      have E8 := Lib.hid (E7.out.below hb8).r
      clear hb8 H7 O7 A7 E7
      have hsa0 := sameAll_any _ _ vs vs w8 A8.out E8.out HVS.out HVS.out (by omega) (by omega)
      rw [decide_eq_true rfl] at hsa0
      have hsa := Lib.hid hsa0
      clear hsa0
      by_cases h0 : n < 0
      · have d1 : decide (n < 0) = true := by simpa using h0
        go_wp2_with fail
        refine hsa.out.mono ?_
        rintro e w9 ⟨rfl, hb9⟩
        have O9 := Lib.hid (O8.out.trans (Only.of_below hb9))
        clear hb9
        go_wp2
        go_returns
        exact ⟨rfl, B2.out.trans (O9.out.below hwb.out B2.out.size)⟩
      · have d1 : decide (n < 0) = false := by simpa using h0
        have h4 : (i : Int) < n := by omega
        have d2 : decide ((i : Int) < n) = true := by simpa using h4
        go_wp2_with fail
        refine hsa.out.mono ?_
        rintro e w9 ⟨rfl, hb9⟩
        have O9 := Lib.hid (O8.out.trans (Only.of_below hb9))
        clear hb9
        go_wp2
        go_returns
        exact ⟨rfl, B2.out.trans (O9.out.below hwb.out B2.out.size)⟩
    · obtain ⟨m, rfl⟩ : ∃ m : Nat, n = m := ⟨n.toNat, by omega⟩
      have hmi : m ≤ i := by omega
      clear hn
      go_wp2_with fail
      refine (forget_to b vs i m w5 H5.out hmi).mono ?_
      rintro e w6 ⟨rfl, hh, ho⟩
      have H6 := Lib.hid hh
      have O6 := Lib.hid (O5.out.trans ho)
      have A6 := Lib.hid (A5.out.only ho hbA)
      clear hh ho H5 O5 A5
      go_wp2_with fail
      refine (all_vs b (vs.drop m) (i - m) w6 H6.out).mono ?_
      rintro e w7 ⟨es, rfl, hA, hb7⟩
      obtain ⟨ya, yc, hv, _⟩ := hA.len
      subst hv
      have H7 := Lib.hid (H6.out.ext hb7)
      have O7 := Lib.hid (O6.out.trans (Only.of_below hb7))
      have A7 := Lib.hid (A6.out.below hb7)
      have E7 := Lib.hid hA
      clear hb7 hA H6 O6 A6
      go_wp2_with fail
      refine (depth_any b (vs.drop m) (i - m) w7 H7.out).mono ?_
      rintro e w8 ⟨rfl, hb8⟩
      have O8 := Lib.hid (O7.out.trans (Only.of_below hb8))
      have A8 := (A7.out.below hb8).r
      have E8 := Lib.hid (E7.out.below hb8).r
      obtain ⟨_, g, o, rfl, hzc, hAd⟩ := A8.drop m (by omega)
      have AD := Lib.hid hAd
      clear hb8 H7 O7 A7 E7 A8 hAd
      have hsa0 := (sameAll_any _ _ (vs.drop m) (vs.drop m) w8 AD.out E8.out (fun v hv => HVS.out v (List.mem_of_mem_drop hv)) (fun v hv => HVS.out v (List.mem_of_mem_drop hv)) (by simp; omega) (by simp; omega))
      rw [decide_eq_true rfl, List.length_drop] at hsa0
      have hsa := Lib.hid hsa0
      clear hsa0
      have d1 : decide ((m : Int) < 0) = false := by simp
      have d2 : decide ((i : Int) < (m : Int)) = false := by simp; omega
      have d3 : decide (i < m) = false := by simp; omega
      have hcm : ¬ zc = m := by omega
      rw [show ((vs.drop m).length - 1 - (i - m) : Nat) = vs.length - 1 - i by rw [List.length_drop]; omega, show ((i - m : Nat) : Int) = (i : Int) - (m : Int) by omega]
      go_wp2_with fail
      refine hsa.out.mono ?_
      rintro e w9 ⟨rfl, hb9⟩
      have O9 := Lib.hid (O8.out.trans (Only.of_below hb9))
      clear hb9
      go_wp2
      go_returns
      exact ⟨rfl, B2.out.trans (O9.out.below hwb.out B2.out.size)⟩
end Go.Proofs.Ytmhhejpokgdjoaa
