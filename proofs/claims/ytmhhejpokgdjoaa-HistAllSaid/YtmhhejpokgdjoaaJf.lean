/- The walks of a pair's through, steps. -/
import Derived.Test.YtmhhejpokgdjoaaJe
namespace Go.Proofs.Ytmhhejpokgdjoaa
open Go Go.RowKit
set_option linter.unusedVariables false
set_option linter.unusedSimpArgs false
attribute [local go_sem] Oper.semAt_some

theorem cutV_facts (ps : List (Nat × List E)) (i : Nat) (stop : Int) : ∃ M, M = (cutV (stL ps (-(i : Int))) stop).length ∧ ((0 < stop ∧ stop < (ps.length : Int)) → (M : Int) = stop) ∧ (¬ (0 < stop ∧ stop < (ps.length : Int)) → M = ps.length) ∧ M ≤ ps.length ∧
    ∀ k p, k < M → ps[k]? = some p → (cutV (stL ps (-(i : Int))) stop)[k]? = some ((k : Int) - (i : Int), p) := by
  refine ⟨_, rfl, ?_, ?_, ?_, ?_⟩
  · rintro ⟨h1, h2⟩
    unfold cutV
    rw [if_neg (by omega), List.length_take, stL_len]
    omega
  · intro h
    unfold cutV
    split
    · rw [stL_len]
    · rw [List.length_take, stL_len]
      omega
  · unfold cutV
    split
    · rw [stL_len]; exact Nat.le_refl _
    · rw [List.length_take, stL_len]
      omega
  · intro k p hk hp
    have h0 := stL_get ps (-(i : Int)) k p hp
    rw [show -(i : Int) + (k : Int) = (k : Int) - (i : Int) by omega] at h0
    unfold cutV at hk ⊢
    split
    · exact h0
    · rename_i h1
      rw [if_neg h1, List.length_take] at hk
      rw [List.getElem?_take, if_pos (by omega)]
      exact h0
set_option maxRecDepth 100000 in
set_option maxHeartbeats 3200000 in
theorem through_any (bh bw : Nat) (ps qs : List (Nat × List E)) (i : Nat) (stop : Int) (w : World) (hp : HistP w bh ps i) (hq : RHistP w bw qs i) (he : ps.map (·.2) = qs.map (·.2)) :
    Calls Try.prog 35 #[.agg #[.pointer (some ⟨bh, 0, none⟩), .pointer (some ⟨bw, 0, none⟩)], stepsV bh, .int .i64 stop] w fun e w' => e = .returned (.bool true) ∧ Below w.heap.size w w' := by
  have hlen : ps.length = qs.length := by have := congrArg List.length he; simpa using this
  have hi := hp.lt
  have hl := hp.len
  obtain ⟨M, hM, hM1, hM2, hM3, hM4⟩ := cutV_facts ps i stop
  obtain ⟨a, c, g1, g2, g3⟩ := hp.cells
  have hv := fun W (hW : Below w.heap.size w W) => versions_any 50 #[.pointer (some ⟨bh, 0, none⟩)] #[] (stL ps (-(i : Int))) _ (steps_gives bh i c a ps hp.lt hp.len) stop W (fun W' hW' => ⟨g1.ext (hW.trans (hW'.mono hW.size)), g2.ext (hW.trans (hW'.mono hW.size))⟩) (by rw [stL_len]; omega)
  generalize cutV (stL ps (-(i : Int))) stop = xs at hM hM4 hv
  have hal : Below w.heap.size w (w.alloc (.cells (prC bh bw).toArray 64)) := (Below.refl _ _).alloc (Nat.le_refl _) _
  have hbx := Holds.alloc w (prC bh bw) 64
  have c0 := hbx.cell (i := 0) rfl
  have c1 := hbx.cell (i := 1) rfl
  have HV := Lib.hid hv
  have HP := Lib.hid hp
  have HQ := Lib.hid hq
  have HE := Lib.hid he
  have HA := Lib.hid hal
  have HX := Lib.hid hbx
  have HM := Lib.hid hM
  have HM1 := Lib.hid hM1
  have HM2 := Lib.hid hM2
  have HM4 := Lib.hid hM4
  have HLEN := Lib.hid hlen
  have hdp := Lib.hid (rdepth_any bw (qs.map (·.2)) i _ ⟨qs, hq.ext hal, rfl⟩)
  clear hv hp hq he hal hbx hM hM1 hM2 hM4 g1 g2 hlen
  go_enter Try.func35, Try.ntmps35
  go_wp2_with fail
  refine hdp.out.mono ?_
  rintro e w1 ⟨rfl, hb1⟩
  have HB1 := Lib.hid (HA.out.trans (hb1.mono HA.out.size))
  have X1 := Lib.hid (HX.out.ext hb1)
  have hr : Hid (((qs.map (·.2)).length - 1 - i : Nat) = ps.length - 1 - i) := Lib.hid (by rw [List.length_map, ← HLEN.out])
  rw [hr.out]
  obtain ⟨r, hrr⟩ : ∃ r, r = ps.length - 1 - i := ⟨_, rfl⟩
  have hpr : ps.length = i + r + 1 := by omega
  rw [← hrr]
  clear hb1 hdp hrr c0 c1
  have HPR := Lib.hid hpr
  have hir : i + r + 1 ≤ 33 := by omega
  rw [hpr] at hM3
  clear hpr hl hi
  go_upto_region 3 with fail
  go_cut [31] (fun v w' => v = .bool (decide (0 < stop ∧ stop < (ps.length : Int))) ∧ w' = w1)
  case first =>
    by_cases h1 : 0 < stop
    · have d1 : decide (0 < stop) = true := by simpa using h1
      by_cases h2 : stop < (i : Int) + (r : Int) + 1
      · have d2 : decide (stop < (i : Int) + (r : Int) + 1) = true := by simpa using h2
        have HBE := Lib.hid (show decide (0 < stop ∧ stop < (ps.length : Int)) = true by rw [HPR.out]; simp; omega)
        go_wp2
        go_meet
        case rel => exact ⟨by rw [HBE.out], rfl⟩
      · have d2 : decide (stop < (i : Int) + (r : Int) + 1) = false := by simpa using h2
        have HBE := Lib.hid (show decide (0 < stop ∧ stop < (ps.length : Int)) = false by rw [HPR.out]; simp; omega)
        go_wp2
        go_meet
        case rel => exact ⟨by rw [HBE.out], rfl⟩
    · have d1 : decide (0 < stop) = false := by simpa using h1
      have HBE := Lib.hid (show decide (0 < stop ∧ stop < (ps.length : Int)) = false by simp [h1])
      go_wp2
      go_meet
      case rel => exact ⟨by rw [HBE.out], rfl⟩
  case rest =>
  obtain ⟨rfl, hw⟩ := hcut
  subst hw
  go_upto_if 31 with fail
  go_cut [9] (fun v w' => v = .int .i64 ((M : Nat) : Int) ∧ w' = wc)
  case first =>
    by_cases h12 : 0 < stop ∧ stop < (ps.length : Int)
    · have hbe := Lib.hid (HM1.out h12)
      rw [decide_eq_true h12]
      go_wp2
      go_meet
      case rel => exact ⟨by rw [hbe.out], rfl⟩
    · have hbe := Lib.hid (HM2.out h12)
      rw [decide_eq_false h12]
      go_wp2
      go_meet
      case rel => exact ⟨by rw [hbe.out, HPR.out]; go_num, rfl⟩
  case rest =>
  obtain ⟨rfl, hw⟩ := hcut
  subst hw
  unfold stepsV
  go_wp2_with fail
  refine (HV.out _ HB1.out).mono ?_
  rintro e w2 ⟨es, rfl, hO, hb2⟩
  obtain ⟨ea, ec, rfl, _⟩ := own_len hO
  rw [← HM.out] at hO ⊢
  have HO := Lib.hid (hO.rd encW_len)
  have HB2 := Lib.hid (HB1.out.trans (hb2.mono HB1.out.size))
  have X2 := Lib.hid (X1.out.ext hb2)
  clear hO hb2
  go_wp2
  go_loopw [12] (fun k wr => ∃ m : Nat, m ≤ M ∧ k = .int .i64 (m : Int) ∧ Below w2.heap.size w2 wr) (fun k _ => M - (intOf k).toNat)
  case atStart => exact ⟨0, by omega, rfl, Below.refl _ _⟩
  case round =>
    obtain ⟨m, hm, rfl, hb⟩ := hrel
    by_cases hlt : m < M
    · have hml : m < ps.length := by have := HPR.out; omega
      have e1 : ps[m]? = some ps[m] := List.getElem?_eq_getElem hml
      have e2 : qs[m]? = some (qs[m]'(by have := HLEN.out; omega)) := List.getElem?_eq_getElem _
      have hpq : ps[m].2 = (qs[m]'(by have := HLEN.out; omega)).2 := by
        have h3 : (ps.map (·.2))[m]? = (qs.map (·.2))[m]? := by rw [HE.out]
        rw [List.getElem?_map, List.getElem?_map, e1, e2] at h3
        exact Option.some.inj h3
      have hmp := List.getElem_mem hml
      have hmq := List.getElem_mem (show m < qs.length by have := HLEN.out; omega)
      generalize ps[m] = p at e1 hpq hmp
      generalize (qs[m]'(by have := HLEN.out; omega)) = q at e2 hpq hmq
      obtain ⟨q1, q2⟩ := q
      obtain ⟨p1, p2⟩ := p
      simp only at hpq
      subst hpq
      have hx := HM4.out m _ hlt e1
      obtain ⟨g, o, rfl, hg, hcl⟩ := rd_elt (HO.out.ext hb) hx
      have HCL := Lib.hid hcl
      have HBW := Lib.hid (HB2.out.trans (hb.mono HB2.out.size))
      have X3 := (X2.out.ext hb).cell (i := 1) rfl
      have hvr := rversion_to bw qs i m ((m : Int) - (i : Int)) _ wr (HQ.out.ext HBW.out) e2 (by omega)
      have HVR := Lib.hid hvr
      have HSM := Lib.hid (fun W (hW : Below w.heap.size w W) => same_pp p1 q1 p2 W ((HP.out.ext hW).maps _ hmp) ((HQ.out.ext hW).maps _ hmq) (HP.out.small _ hmp))
      have HB := Lib.hid hb
      clear hx hcl hvr e1 e2 hmp hmq hb
      go_wp2_with fail
      refine HVR.out.mono ?_
      rintro e w3 ⟨rfl, hb3⟩
      have f0 := (hb3.cell (p := ⟨g, _, none⟩) hg).trans (HCL.out 0 _ rfl)
      have f1 := (hb3.cell (p := ⟨g, _, none⟩) hg).trans (HCL.out 1 _ rfl)
      simp only [Nat.add_zero] at f0
      have HB3 := Lib.hid (HBW.out.trans (hb3.mono HBW.out.size))
      have HC3 := Lib.hid (HB.out.trans (hb3.mono HB.out.size))
      clear hb3
      go_wp2_with fail
      refine (HSM.out _ HB3.out).mono ?_
      rintro e w4 ⟨rfl, hb4⟩
      have HC4 := Lib.hid (HC3.out.trans (hb4.mono HC3.out.size))
      clear hb4
      go_wp2
      go_roundw
      case rel => exact ⟨m + 1, by omega, by go_num, HC4.out⟩
      case measure => simp [intOf]; omega
    · have hno : decide ((m : Int) < (M : Int)) = false := by simp; omega
      have HB := Lib.hid (HB2.out.trans (hb.mono HB2.out.size))
      clear hb
      go_wp2
      go_returns
      exact ⟨rfl, HB.out⟩
end Go.Proofs.Ytmhhejpokgdjoaa
