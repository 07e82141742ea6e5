/- The walk of levylaw11.known. -/
import Derived.Test.YtmhhejpokgdjoaaKg
namespace Go.Proofs.Ytmhhejpokgdjoaa
open Go Go.RowKit
set_option linter.unusedVariables false
set_option linter.unusedSimpArgs false

theorem eql_ph_nil (a : Addr) (w : World) : (binOp .eql 25 (.pointer (some a)) (.pointer none)).run Try.prog w = .ok (.bool false) w := by
  have hp : Try.prog.underlying 25 = some (.pointer 83) := by kernel_rfl
  have h : ∀ d : Nat, (Op.equalIn (d + 1) 25 (.pointer (some a)) (.pointer none)).run Try.prog w = .ok false w := fun d => by
    simp [Op.equalIn, run_underlying hp]
  simp only [binOp]
  simp [Op.equal, Op.maxDepth, h 9999]
theorem MapL.onlyH {w w' : World} {b c i : Nat} {l : List E} {vs : List (List E)} (h : MapL w c l) (hh : HistL w b vs i) (ho : Only b w w') : MapL w' c l := by
  obtain ⟨ps, hp, _⟩ := hh
  obtain ⟨a, k, h1, _⟩ := hp.cells
  exact h.only h1 ho
set_option maxRecDepth 100000 in
set_option maxHeartbeats 4000000 in
theorem known_any (w : World) : Calls Try.prog 8 #[] w fun e w' => e = .returned (.bool true) ∧ Below w.heap.size w w' := by
  have ep := fun b W => eql_ph_nil ⟨b, 0, none⟩ W
  go_enter Try.func8, Try.ntmps8
  go_wp2_with fail
  refine (build_any _ [] w ⟨none, 0, rfl, Nat.le_refl _, rd_nil _ _ _⟩ (by simp)).mono ?_
  rintro e w1 ⟨a, rfl, ma, hb1⟩
  have A1 := Lib.hid ma
  have B1 := Lib.hid hb1
  clear ma hb1
  go_wp2_with fail
  have hal : Below w1.heap.size w1 (w1.alloc (.cells (encL (3, ⟨1, 7⟩)).toArray 59)) := (Below.refl _ _).alloc (Nat.le_refl _) _
  have hho := Holds.alloc w1 (encL (3, ⟨1, 7⟩)) 59
  have hrf : RdF (w1.alloc (.cells (encL (3, ⟨1, 7⟩)).toArray 59)) (.slice (some ⟨w1.heap.size, 0, none⟩) 1 1) [(3, ⟨1, 7⟩)] := by
    refine ⟨_, _, rfl, Nat.le_refl _, _, _, rfl, .inr ⟨w1.heap.size, 0, rfl, by simp, fun i x j u hi hj => ?_⟩⟩
    match i, hi with
    | 0, hi =>
      cases hi
      have := hho.cell hj
      simpa using this
    | i + 1, hi => simp at hi
  refine (build_any _ [(3, ⟨1, 7⟩)] _ hrf (by simp)).mono ?_
  rintro e w2 ⟨b, rfl, mb, hb2⟩
  rw [show buildL [] = [] from rfl] at A1
  rw [show buildL [((3 : Nat), (⟨1, 7⟩ : V))] = [(3, ⟨1, 7⟩)] from rfl] at mb
  have A2 := Lib.hid ((A1.out.ext hal).ext hb2)
  have M2 := Lib.hid mb
  have B2 := Lib.hid (B1.out.trans ((hal.trans (hb2.mono hal.size)).mono B1.out.size))
  clear hal hho hrf mb hb2 A1 B1
  go_wp2_with fail
  refine (new_any _ [] w2 (.inl ⟨a, rfl, A2.out⟩) (by simp)).mono ?_
  rintro e w3 ⟨bh, rfl, hh, hge, hb3⟩
  have H3 := Lib.hid hh
  have M3 := Lib.hid (M2.out.ext hb3)
  have hw : Hid (w.heap.size ≤ bh) := Lib.hid (by have := B2.out.size; omega)
  have B3 := Lib.hid (B2.out.trans (hb3.mono B2.out.size))
  clear hh hb3 A2 M2 B2 hge
  go_wp2_with fail
  refine (push_to bh [[]] 0 _ _ w3 H3.out (by decide) (.inl ⟨b, rfl, M3.out⟩) (by simp)).mono ?_
  rintro e w4 ⟨rfl, hh, ho⟩
  rw [show (([[]] : List (List E)).take (0 + 1) ++ [[((3 : Nat), (⟨1, 7⟩ : V))]]) = [[], [(3, ⟨1, 7⟩)]] from rfl] at hh
  have H4 := Lib.hid hh
  have O4 := Lib.hid ho
  clear hh ho M3
  go_wp2_with fail
  refine (now_any bh _ 1 w4 H4.out).mono ?_
  rintro e w5 ⟨c5, l5, rfl, hl, hm, hb5⟩
  obtain rfl : [((3 : Nat), (⟨1, 7⟩ : V))] = l5 := Option.some.inj hl
  have H5 := Lib.hid (H4.out.ext hb5)
  have O5 := Lib.hid (O4.out.trans (Only.of_below hb5))
  have M5 := Lib.hid hm
  clear hl hm hb5 H4 O4
  go_wp2_with fail
  refine (entries_any _ _ w5 (.inl ⟨c5, rfl, M5.out⟩) (by simp)).mono ?_
  rintro e w6 ⟨es, rfl, hO, hb6⟩
  obtain ⟨y1, y2, hv, _⟩ := own_fits hO
  subst hv
  have H6 := Lib.hid (H5.out.ext hb6)
  have O6 := Lib.hid (O5.out.trans (Only.of_below hb6))
  clear hO hb6 M5 H5 O5
  rw [show [((3 : Nat), (⟨1, 7⟩ : V))].length = 1 from rfl]
  go_wp2_with fail
  refine (undo_to bh _ 0 w6 H6.out).mono ?_
  rintro e w7 ⟨c7, l7, rfl, hl, hm, hh, ho⟩
  obtain rfl : ([] : List E) = l7 := Option.some.inj hl
  have H7 := Lib.hid hh
  have O7 := Lib.hid (O6.out.trans ho)
  have M7 := Lib.hid hm
  clear hl hm hh ho H6 O6
  go_wp2_with fail
  refine (redo_to bh _ 0 w7 H7.out (by decide)).mono ?_
  rintro e w8 ⟨c8, l8, rfl, hl, hm, hh, ho⟩
  obtain rfl : [((3 : Nat), (⟨1, 7⟩ : V))] = l8 := Option.some.inj hl
  have M8 := Lib.hid (M7.out.onlyH H7.out ho)
  have H8 := Lib.hid hh
  have O8 := Lib.hid (O7.out.trans ho)
  have N8 := Lib.hid hm
  clear hl hm hh ho H7 O7 M7
  go_wp2_with fail
  refine (depth_any bh _ _ w8 H8.out).mono ?_
  rintro e w9 ⟨rfl, hb9⟩
  rw [show ((([[], [((3 : Nat), (⟨1, 7⟩ : V))]] : List (List E)).length - 1 - (0 + 1) : Nat) : Int) = 0 from rfl, show ((0 + 1 : Nat) : Int) = 1 from rfl]
  have M9 := Lib.hid (M8.out.ext hb9)
  have N9 := Lib.hid (N8.out.ext hb9)
  have O9 := Lib.hid (O8.out.trans (Only.of_below hb9))
  clear hb9 M8 N8 O8 H8
  go_wp2_with fail
  refine (entries_any _ _ w9 (.inl ⟨c7, rfl, M9.out⟩) (by simp)).mono ?_
  rintro e w10 ⟨es2, rfl, hO2, hb10⟩
  obtain ⟨y3, y4, hv2, _⟩ := own_fits hO2
  subst hv2
  have N10 := Lib.hid (N9.out.ext hb10)
  have O10 := Lib.hid (O9.out.trans (Only.of_below hb10))
  clear hO2 hb10 M9 N9 O9
  rw [show ([] : List E).length = 0 from rfl]
  go_wp2_with fail
  refine (entries_any _ _ w10 (.inl ⟨c8, rfl, N10.out⟩) (by simp)).mono ?_
  rintro e w11 ⟨es3, rfl, hO3, hb11⟩
  obtain ⟨y5, y6, hv3, _⟩ := own_fits hO3
  subst hv3
  have O11 := Lib.hid (O10.out.trans (Only.of_below hb11))
  clear hO3 hb11 N10 O10
  rw [show [((3 : Nat), (⟨1, 7⟩ : V))].length = 1 from rfl]
  go_wp2
  go_returns
  exact ⟨rfl, B3.out.trans (O11.out.below hw.out B3.out.size)⟩
end Go.Proofs.Ytmhhejpokgdjoaa
