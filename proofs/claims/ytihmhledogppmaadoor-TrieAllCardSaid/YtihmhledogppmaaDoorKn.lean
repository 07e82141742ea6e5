/- The walk of the law's known. -/
import Derived.Test.YtihmhledogppmaaDoorMl
namespace Go.Proofs.YtihmhledogppmaaDoor
open Go Go.RowKit
set_option linter.unusedVariables false
set_option linter.unusedSimpArgs false

theorem Own.len {α : Type} {w : World} {base : Nat} {ty : TypeId} {s : Nat} {enc : α → List Value} {v : Value} {l : List α} (h : Own w base ty s enc v l) : ∃ a c, v = .slice a l.length c := by
  rcases h.row.2 with ⟨rfl, h0⟩ | ⟨g, cap, cur, rfl, _⟩
  · exact ⟨none, 0, by rw [h0]⟩
  · exact ⟨_, _, rfl⟩
set_option maxRecDepth 100000 in
set_option maxHeartbeats 800000 in
theorem known_any (w : World) : Calls Tryd.prog 11 #[] w fun e w' => e = .returned (.bool true) ∧ Below w.heap.size w w' := by
  have hl1 : laidL 7 ⟨1, 5⟩ false [] = [(7, ⟨1, 5⟩)] := rfl
  go_enter Tryd.func11, Tryd.ntmps11
  go_wp2_with (go_at_call 10; refine (empty_l _).mono ?_; rintro e w1 ⟨b0, rfl, m0, h1⟩)
  refine (put_l b0 7 [] ⟨1, 5⟩ w1 m0 (by simp) (by omega)).mono ?_
  rintro e w2 ⟨b1, rfl, m1, h2⟩
  rw [hl1] at m1
  have q0 := m0.ext h2
  go_wp2_with fail
  refine (get_l b1 7 _ w2 m1 (by omega)).mono ?_
  rintro e w3 ⟨rfl, h3⟩
  have hg : look [(7, (⟨1, 5⟩ : V))] 7 = some ⟨1, 5⟩ := rfl
  rw [hg]
  have q1 := m1.ext h3
  have q2 := q0.ext h3
  simp only [gv, Option.getD_some, Option.isSome_some]
  go_wp2_with fail
  have hal : Below w3.heap.size w3 (w3.alloc (.cells #[.int .i64 1, .int .i64 5] 32)) := (Below.refl _ _).alloc (Nat.le_refl _) _
  refine (list_l b1 _ (-1) _ (q1.ext hal) (by simp)).mono ?_
  rintro e w4 ⟨es, rfl, hO, h4⟩
  have hcut : cutL [(7, (⟨1, 5⟩ : V))] (-1) = [(7, ⟨1, 5⟩)] := rfl
  rw [hcut] at hO
  have hbox := (Holds.alloc w3 [.int .i64 1, .int .i64 5] 32).ext h4
  have q3 := (q1.ext hal).ext h4
  have q4 := (q2.ext hal).ext h4
  have hrd := hO.rd encL_len
  obtain ⟨a, c, rfl, hc⟩ := hrd
  rcases hc with hc | ⟨b, off, rfl, hb, hc⟩
  · cases hc
  have f0 := hc 0 _ 0 _ rfl rfl
  simp only [Nat.zero_mul, Nat.add_zero] at f0
  have c0 := hbox.cell (i := 0) rfl
  have c1 := hbox.cell (i := 1) rfl
  have hsz := h4.size
  have hB : Below w.heap.size w w4 := h1.trans ((h2.mono h1.size).trans ((h3.mono (Nat.le_trans h1.size h2.size)).trans ((hal.trans (h4.mono (by simp))).mono (Nat.le_trans h1.size (Nat.le_trans h2.size h3.size)))))
  have HB := Lib.hid hB
  have HC := Lib.hid hc
  clear hB hc hO hbox h1 h2 h3 h4 hal m0 m1 q0 q1 q2
  go_wp2_with fail
  refine (sameValue_any ⟨1, 5⟩ ⟨1, 5⟩ _).mono ?_
  rintro e w5 ⟨rfl, h5⟩
  rw [decide_eq_true (rfl : (⟨1, 5⟩ : V) = ⟨1, 5⟩)]
  have q5 := q3.ext h5
  have q6 := q4.ext h5
  have g0 := (h5.cell (p := ⟨b, off, none⟩) hb).trans f0
  go_wp2_with fail
  refine (len_l b0 [] w5 q6).mono ?_
  rintro e w6 ⟨rfl, rfl⟩
  go_wp2_with fail
  refine (len_l b1 _ w5 q5).mono ?_
  rintro e w6 ⟨rfl, rfl⟩
  go_wp2
  go_returns
  refine ⟨rfl, HB.out.trans (h5.mono HB.out.size)⟩
end Go.Proofs.YtihmhledogppmaaDoor
