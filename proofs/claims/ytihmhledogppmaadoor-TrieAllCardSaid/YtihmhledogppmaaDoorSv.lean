/- The walks of levylaw3's sameChanges, cut. -/
import Derived.Test.YtihmhledogppmaaDoorTg
import Derived.Test.YtihmhledogppmaaDoorKn
namespace Go.Proofs.YtihmhledogppmaaDoor
open Go Go.RowKit
set_option linter.unusedVariables false
set_option linter.unusedSimpArgs false
attribute [local go_sem] Oper.semAt_some

/-- Where two changes part first. -/
theorem ch_part {x y : Ch} (h : x ≠ y) : x.1 ≠ y.1 ∨ (x.1 = y.1 ∧ x.2.1.isSome ≠ y.2.1.isSome) ∨ (x.1 = y.1 ∧ x.2.1.isSome = y.2.1.isSome ∧ x.2.2.isSome ≠ y.2.2.isSome) ∨
    (x.1 = y.1 ∧ x.2.1.isSome = y.2.1.isSome ∧ x.2.2.isSome = y.2.2.isSome ∧ vOf x.2.1 ≠ vOf y.2.1) ∨ (x.1 = y.1 ∧ x.2.1.isSome = y.2.1.isSome ∧ x.2.2.isSome = y.2.2.isSome ∧ vOf x.2.1 = vOf y.2.1 ∧ vOf x.2.2 ≠ vOf y.2.2) := by
  obtain ⟨i, p, q⟩ := x
  obtain ⟨j, r, s⟩ := y
  have opt : ∀ {a b : Option V}, a.isSome = b.isSome → vOf a = vOf b → a = b := by
    intro a b h1 h2
    cases a <;> cases b <;> simp_all [vOf]
  by_cases h1 : i = j
  · by_cases h2 : p.isSome = r.isSome
    · by_cases h3 : q.isSome = s.isSome
      · by_cases h4 : vOf p = vOf r
        · by_cases h5 : vOf q = vOf s
          · exact absurd (by rw [h1, opt h2 h4, opt h3 h5]) h
          · exact .inr (.inr (.inr (.inr ⟨h1, h2, h3, h4, h5⟩)))
        · exact .inr (.inr (.inr (.inl ⟨h1, h2, h3, h4⟩)))
      · exact .inr (.inr (.inl ⟨h1, h2, h3⟩))
    · exact .inr (.inl ⟨h1, h2⟩)
  · exact .inl h1
set_option maxRecDepth 100000 in
set_option maxHeartbeats 4000000 in
theorem sameChanges_any (v1 v2 : Value) (l1 l2 : List Ch) (w : World) (h1 : Rd w 7 encC v1 l1) (h2 : Rd w 7 encC v2 l2) (hn : l1.length ≤ 1099511627776) (hn2 : l2.length ≤ 1099511627776) :
    Calls Tryd.prog 47 #[v1, v2] w fun e w' => e = .returned (.bool (decide (l1 = l2))) ∧ Below w.heap.size w w' := by
  obtain ⟨a1, c1, rfl, h1⟩ := h1
  obtain ⟨a2, c2, rfl, h2⟩ := h2
  by_cases hlen : l1.length = l2.length
  · rcases h1 with rfl | ⟨b1, o1, rfl, hl1, hc1⟩
    · obtain rfl : l2 = [] := List.length_eq_zero_iff.1 hlen.symm
      go_enter Tryd.func47, Tryd.ntmps47
      go_wp2
      refine wp_loop_once ?_
      go_wp2
      go_returns
      exact ⟨rfl, Below.refl _ _⟩
    rcases h2 with rfl | ⟨b2, o2, rfl, hl2, hc2⟩
    · obtain rfl : l1 = [] := List.length_eq_zero_iff.1 hlen
      go_enter Tryd.func47, Tryd.ntmps47
      go_wp2
      refine wp_loop_once ?_
      go_wp2
      go_returns
      exact ⟨rfl, Below.refl _ _⟩
    have HL := Lib.hid hlen
    have HC1 := Lib.hid hc1
    have HC2 := Lib.hid hc2
    rw [← hlen]
    clear hlen hc1 hc2
    go_enter Tryd.func47, Tryd.ntmps47
    go_wp2
    go_loopw [5] (fun i wr => ∃ k : Nat, k ≤ l1.length ∧ i = .int .i64 (k : Int) ∧ l1.take k = l2.take k ∧ Below w.heap.size w wr) (fun i _ => l1.length - (intOf i).toNat)
    case atStart => exact ⟨0, by omega, rfl, rfl, Below.refl _ _⟩
    case round =>
      obtain ⟨k, hk, rfl, htk, hb⟩ := hrel
      have HT := Lib.hid htk
      clear htk
      by_cases hlt : k < l1.length
      · have e1 : l1[k]? = some l1[k] := List.getElem?_eq_getElem hlt
        have e2 : l2[k]? = some (l2[k]'(by have := HL.out; omega)) := List.getElem?_eq_getElem (by have := HL.out; omega)
        generalize l1[k] = x at e1
        generalize (l2[k]'(by have := HL.out; omega)) = y at e2
        have f0 := (hb.cell (p := ⟨b1, _, none⟩) hl1).trans (HC1.out k x 0 _ e1 rfl)
        have f1 := (hb.cell (p := ⟨b1, _, none⟩) hl1).trans (HC1.out k x 1 _ e1 rfl)
        have f2 := (hb.cell (p := ⟨b1, _, none⟩) hl1).trans (HC1.out k x 2 _ e1 rfl)
        have f3 := (hb.cell (p := ⟨b1, _, none⟩) hl1).trans (HC1.out k x 3 _ e1 rfl)
        have f4 := (hb.cell (p := ⟨b1, _, none⟩) hl1).trans (HC1.out k x 4 _ e1 rfl)
        have f5 := (hb.cell (p := ⟨b1, _, none⟩) hl1).trans (HC1.out k x 5 _ e1 rfl)
        have f6 := (hb.cell (p := ⟨b1, _, none⟩) hl1).trans (HC1.out k x 6 _ e1 rfl)
        have g0 := (hb.cell (p := ⟨b2, _, none⟩) hl2).trans (HC2.out k y 0 _ e2 rfl)
        have g1 := (hb.cell (p := ⟨b2, _, none⟩) hl2).trans (HC2.out k y 1 _ e2 rfl)
        have g2 := (hb.cell (p := ⟨b2, _, none⟩) hl2).trans (HC2.out k y 2 _ e2 rfl)
        have g3 := (hb.cell (p := ⟨b2, _, none⟩) hl2).trans (HC2.out k y 3 _ e2 rfl)
        have g4 := (hb.cell (p := ⟨b2, _, none⟩) hl2).trans (HC2.out k y 4 _ e2 rfl)
        have g5 := (hb.cell (p := ⟨b2, _, none⟩) hl2).trans (HC2.out k y 5 _ e2 rfl)
        have g6 := (hb.cell (p := ⟨b2, _, none⟩) hl2).trans (HC2.out k y 6 _ e2 rfl)
        simp only [Nat.add_zero] at f0 g0
        have hlb1 : b1 < wr.heap.size := Nat.lt_of_lt_of_le hl1 hb.size
        have hlb2 : b2 < wr.heap.size := Nat.lt_of_lt_of_le hl2 hb.size
        have E1 := Lib.hid e1
        have E2 := Lib.hid e2
        have HB := Lib.hid hb
        have HBZ := hb.size
        have hne : x ≠ y → l1 ≠ l2 := fun h e => h (by have a := E1.out; have b := E2.out; rw [e, b] at a; exact (Option.some.inj a).symm)
        have HNE := Lib.hid hne
        have tb : Below wr.heap.size wr ((wr.alloc (.cells #[.int .u32 (x.1 : Nat), .bool x.2.1.isSome, .bool x.2.2.isSome, .int .i64 (vOf x.2.1).k, .int .i64 (vOf x.2.1).n, .int .i64 (vOf x.2.2).k, .int .i64 (vOf x.2.2).n] 64)).alloc (.cells #[.int .u32 (y.1 : Nat), .bool y.2.1.isSome, .bool y.2.2.isSome, .int .i64 (vOf y.2.1).k, .int .i64 (vOf y.2.1).n, .int .i64 (vOf y.2.2).k, .int .i64 (vOf y.2.2).n] 64)) ∧ Holds ((wr.alloc (.cells #[.int .u32 (x.1 : Nat), .bool x.2.1.isSome, .bool x.2.2.isSome, .int .i64 (vOf x.2.1).k, .int .i64 (vOf x.2.1).n, .int .i64 (vOf x.2.2).k, .int .i64 (vOf x.2.2).n] 64)).alloc (.cells #[.int .u32 (y.1 : Nat), .bool y.2.1.isSome, .bool y.2.2.isSome, .int .i64 (vOf y.2.1).k, .int .i64 (vOf y.2.1).n, .int .i64 (vOf y.2.2).k, .int .i64 (vOf y.2.2).n] 64)) wr.heap.size [.int .u32 (x.1 : Nat), .bool x.2.1.isSome, .bool x.2.2.isSome, .int .i64 (vOf x.2.1).k, .int .i64 (vOf x.2.1).n, .int .i64 (vOf x.2.2).k, .int .i64 (vOf x.2.2).n] ∧ Holds ((wr.alloc (.cells #[.int .u32 (x.1 : Nat), .bool x.2.1.isSome, .bool x.2.2.isSome, .int .i64 (vOf x.2.1).k, .int .i64 (vOf x.2.1).n, .int .i64 (vOf x.2.2).k, .int .i64 (vOf x.2.2).n] 64)).alloc (.cells #[.int .u32 (y.1 : Nat), .bool y.2.1.isSome, .bool y.2.2.isSome, .int .i64 (vOf y.2.1).k, .int .i64 (vOf y.2.1).n, .int .i64 (vOf y.2.2).k, .int .i64 (vOf y.2.2).n] 64)) (wr.heap.size + 1) [.int .u32 (y.1 : Nat), .bool y.2.1.isSome, .bool y.2.2.isSome, .int .i64 (vOf y.2.1).k, .int .i64 (vOf y.2.1).n, .int .i64 (vOf y.2.2).k, .int .i64 (vOf y.2.2).n] := two_blocks wr (encC x) (encC y) 64 64
        have HBW := Lib.hid (HB.out.trans (tb.1.mono HBZ))
        have HX := Lib.hid tb.2.1
        have HY := Lib.hid tb.2.2
        clear tb
        have x0 := HX.out.cell (i := 0) rfl
        have y0 := HY.out.cell (i := 0) rfl
        have x1 := HX.out.cell (i := 1) rfl
        have y1 := HY.out.cell (i := 1) rfl
        have x2 := HX.out.cell (i := 2) rfl
        have y2 := HY.out.cell (i := 2) rfl
        have x3 := HX.out.cell (i := 3) rfl
        have y3 := HY.out.cell (i := 3) rfl
        have x4 := HX.out.cell (i := 4) rfl
        have y4 := HY.out.cell (i := 4) rfl
        have x5 := HX.out.cell (i := 5) rfl
        have y5 := HY.out.cell (i := 5) rfl
        have x6 := HX.out.cell (i := 6) rfl
        have y6 := HY.out.cell (i := 6) rfl
        clear e1 e2 hb hne
        by_cases hxy : x = y
        · have heq : l1.take (k + 1) = l2.take (k + 1) := by
            rw [List.take_add_one, List.take_add_one, HT.out, E1.out, E2.out, hxy]
          have HQ := Lib.hid heq
          subst hxy
          clear heq HNE
          go_wp2_with fail
          refine (sameValue_any _ _ _).mono ?_
          rintro e w3 ⟨rfl, hb3⟩
          have HB3 := Lib.hid (HBW.out.trans (hb3.mono HBW.out.size))
          have HX3 := Lib.hid (HX.out.ext hb3)
          have HY3 := Lib.hid (HY.out.ext hb3)
          rw [decide_eq_true rfl]
          have z5 := HX3.out.cell (i := 5) rfl
          have z6 := HX3.out.cell (i := 6) rfl
          have v5 := HY3.out.cell (i := 5) rfl
          have v6 := HY3.out.cell (i := 6) rfl
          clear hb3
          go_wp2_with fail
          refine (sameValue_any _ _ _).mono ?_
          rintro e w4 ⟨rfl, hb4⟩
          have HB4 := Lib.hid (HB3.out.trans (hb4.mono HB3.out.size))
          rw [decide_eq_true rfl]
          clear hb4
          go_wp2
          go_roundw
          case rel => exact ⟨k + 1, by omega, by go_num, HQ.out, HB4.out⟩
          case measure => simp [intOf]; omega
        · have hno := Lib.hid (decide_eq_false (HNE.out hxy))
          have hp := ch_part hxy
          clear HNE hxy E1 E2
          generalize x.1 = xi at *
          generalize y.1 = yi at *
          generalize x.2.1.isSome = xh at *
          generalize y.2.1.isSome = yh at *
          generalize x.2.2.isSome = xs at *
          generalize y.2.2.isSome = ys at *
          generalize vOf x.2.1 = xv at *
          generalize vOf y.2.1 = yv at *
          generalize vOf x.2.2 = xw at *
          generalize vOf y.2.2 = yw at *
          rcases hp with hp | ⟨p1, hp⟩ | ⟨p1, p2, hp⟩ | ⟨p1, p2, p3, hp⟩ | ⟨p1, p2, p3, p4, hp⟩
          · have q1 : (((xi : Nat) : Int) != ((yi : Nat) : Int)) = true := by simp; omega
            clear hp
            go_wp2
            go_returns
            exact ⟨by rw [hno.out]; rfl, HBW.out⟩
          · subst p1
            cases xh <;> cases yh <;> first
              | exact absurd rfl hp
              | (clear hp
                 go_wp2
                 go_returns
                 exact ⟨by rw [hno.out]; rfl, HBW.out⟩)
          · subst p1 p2
            cases xs <;> cases ys <;> first
              | exact absurd rfl hp
              | (clear hp
                 go_wp2
                 go_returns
                 exact ⟨by rw [hno.out]; rfl, HBW.out⟩)
          · subst p1 p2 p3
            have HP := Lib.hid hp
            clear hp
            go_wp2_with fail
            refine (sameValue_any xv yv _).mono ?_
            rintro e w3 ⟨rfl, hb3⟩
            have HB3 := Lib.hid (HBW.out.trans (hb3.mono HBW.out.size))
            rw [decide_eq_false HP.out]
            clear hb3
            go_wp2
            go_returns
            exact ⟨by rw [hno.out]; rfl, HB3.out⟩
          · subst p1 p2 p3 p4
            have HP := Lib.hid hp
            clear hp
            go_wp2_with fail
            refine (sameValue_any xv xv _).mono ?_
            rintro e w3 ⟨rfl, hb3⟩
            have HB3 := Lib.hid (HBW.out.trans (hb3.mono HBW.out.size))
            have HX3 := Lib.hid (HX.out.ext hb3)
            have HY3 := Lib.hid (HY.out.ext hb3)
            rw [decide_eq_true rfl]
            have z5 := HX3.out.cell (i := 5) rfl
            have z6 := HX3.out.cell (i := 6) rfl
            have v5 := HY3.out.cell (i := 5) rfl
            have v6 := HY3.out.cell (i := 6) rfl
            clear hb3
            go_wp2_with fail
            refine (sameValue_any xw yw _).mono ?_
            rintro e w4 ⟨rfl, hb4⟩
            have HB4 := Lib.hid (HB3.out.trans (hb4.mono HB3.out.size))
            rw [decide_eq_false HP.out]
            clear hb4
            go_wp2
            go_returns
            exact ⟨by rw [hno.out]; rfl, HB4.out⟩
      · have hall : l1 = l2 := by
          have := HT.out
          rwa [List.take_of_length_le (by omega), List.take_of_length_le (by have := HL.out; omega)] at this
        have hyes := Lib.hid (decide_eq_true hall)
        have d1 : decide ((k : Int) < (l1.length : Int)) = false := by simp; omega
        have d2 : decide (k < l1.length) = false := by simp; omega
        have HB := Lib.hid hb
        clear hall hb
        go_wp2
        go_returns
        exact ⟨by rw [hyes.out]; rfl, HB.out⟩
  · have hno := Lib.hid (decide_eq_false (fun e : l1 = l2 => hlen (by rw [e])))
    have hq : (((l1.length : Nat) : Int) != ((l2.length : Nat) : Int)) = true := by simp; omega
    clear hlen h1 h2
    go_enter Tryd.func47, Tryd.ntmps47
    go_wp2
    go_returns
    exact ⟨by rw [hno.out]; rfl, Below.refl _ _⟩
end Go.Proofs.YtihmhledogppmaaDoor
