/- The walk of begin. -/
import Derived.Test.YtihmhledogppmaaDoorPb
namespace Go.Proofs.YtihmhledogppmaaDoor
open Go Go.RowKit
set_option linter.unusedVariables false
set_option linter.unusedSimpArgs false

theorem own_new {w W : World} {B b : Nat} {ty : TypeId} (hB : B ≤ w.heap.size) (hb : Below (w.heap.size + 1) (w.alloc (.cells (encP b).toArray ty)) W) : Own W B ty 1 encP (.slice (some ⟨w.heap.size, 0, none⟩) 1 1) [b] := by
  refine ⟨⟨rfl, .inr ⟨w.heap.size, 1, (encP b).toArray, rfl, hB, ?_, Nat.le_refl _, by simp [maxLen], rfl, rfl⟩⟩, by simp⟩
  rw [hb.block _ (by omega)]
  exact heap_alloc_new _ _
theorem play_start (w w1 w2 : World) (b c : Nat) (h1 : Below w.heap.size w w1) (m0 : MapT w1 b Tr.nil) (h2 : Below (w1.heap.size + 1) (w1.alloc (.cells (encP b).toArray 24)) w2) (r : RefAt w2 c []) :
    Play w.heap.size [w1.heap.size, w2.heap.size, w2.heap.size + 1] ((w2.alloc (.cells (encP c).toArray 93)).alloc (.cells #[.slice (some ⟨w1.heap.size, 0, none⟩) 1 1, .slice (some ⟨w2.heap.size, 0, none⟩) 1 1] 97)) (w2.heap.size + 1) (.slice (some ⟨w1.heap.size, 0, none⟩) 1 1) (.slice (some ⟨w2.heap.size, 0, none⟩) 1 1) [b] [c] ∧
    MapT (mask [w1.heap.size, w2.heap.size, w2.heap.size + 1] ((w2.alloc (.cells (encP c).toArray 93)).alloc (.cells #[.slice (some ⟨w1.heap.size, 0, none⟩) 1 1, .slice (some ⟨w2.heap.size, 0, none⟩) 1 1] 97))) b Tr.nil ∧
    RefAt (mask [w1.heap.size, w2.heap.size, w2.heap.size + 1] ((w2.alloc (.cells (encP c).toArray 93)).alloc (.cells #[.slice (some ⟨w1.heap.size, 0, none⟩) 1 1, .slice (some ⟨w2.heap.size, 0, none⟩) 1 1] 97))) c [] ∧
    Below w.heap.size w ((w2.alloc (.cells (encP c).toArray 93)).alloc (.cells #[.slice (some ⟨w1.heap.size, 0, none⟩) 1 1, .slice (some ⟨w2.heap.size, 0, none⟩) 1 1] 97)) := by
  have s1 := h1.size
  have s2 := h2.size
  simp only [World.size_alloc] at s2
  have a1 : Below (w2.heap.size + 1) (w2.alloc (.cells (encP c).toArray 93)) ((w2.alloc (.cells (encP c).toArray 93)).alloc (.cells #[.slice (some ⟨w1.heap.size, 0, none⟩) 1 1, .slice (some ⟨w2.heap.size, 0, none⟩) 1 1] 97)) := (Below.refl _ _).alloc (by simp) _
  have a0 : Below w2.heap.size w2 ((w2.alloc (.cells (encP c).toArray 93)).alloc (.cells #[.slice (some ⟨w1.heap.size, 0, none⟩) 1 1, .slice (some ⟨w2.heap.size, 0, none⟩) 1 1] 97)) := ((Below.refl _ _).alloc (Nat.le_refl _) _).trans (a1.mono (by omega))
  have hP : Holds ((w2.alloc (.cells (encP c).toArray 93)).alloc (.cells #[.slice (some ⟨w1.heap.size, 0, none⟩) 1 1, .slice (some ⟨w2.heap.size, 0, none⟩) 1 1] 97)) (w2.heap.size + 1) [.slice (some ⟨w1.heap.size, 0, none⟩) 1 1, .slice (some ⟨w2.heap.size, 0, none⟩) 1 1] := by
    have := Holds.alloc (w2.alloc (.cells (encP c).toArray 93)) [.slice (some ⟨w1.heap.size, 0, none⟩) 1 1, .slice (some ⟨w2.heap.size, 0, none⟩) 1 1] 97
    rwa [World.size_alloc] at this
  generalize hW : (w2.alloc (.cells (encP c).toArray 93)).alloc (.cells #[.slice (some ⟨w1.heap.size, 0, none⟩) 1 1, .slice (some ⟨w2.heap.size, 0, none⟩) 1 1] 97) = W at *
  have hsz : W.heap.size = w2.heap.size + 2 := by rw [← hW]; simp
  have hb1 : Below w1.heap.size w1 w2 := ((Below.refl _ _).alloc (Nat.le_refl _) _).trans (h2.mono (by omega))
  have hbW : Below w1.heap.size w1 W := hb1.trans (a0.mono (by omega))
  refine ⟨⟨hP, own_new s1 (h2.trans (a0.mono (by omega))), own_new (by omega) a1, ⟨w1.heap.size, rfl, by simp, by omega⟩, ⟨w2.heap.size, rfl, by simp, by omega⟩, by simp, ?_, by omega, by omega⟩, ?_, ?_, h1.trans (hbW.mono s1)⟩
  · intro k hk
    simp at hk
    omega
  · have hno : ∀ k, k < w1.heap.size → k ∉ [w1.heap.size, w2.heap.size, w2.heap.size + 1] := by intro k hk hm; simp at hm; omega
    exact ⟨(m0.map.ext hbW).mask (hno b m0.map.map.lt) (Tr.all_mono hno (Tr.at_all m0.map.tree)), m0.cl⟩
  · obtain ⟨ia, ic, va, vc, sa, sc, q1, q2, q3, q4⟩ := r.cells
    have hc : c ∉ [w1.heap.size, w2.heap.size, w2.heap.size + 1] := by
      intro hm
      have hlt := q1.lt
      have : c = w1.heap.size := by simp at hm; omega
      have h3 : Holds w2 w1.heap.size (encP b) := (Holds.alloc w1 (encP b) 24).below h2 (by omega)
      obtain ⟨t1, e1⟩ := q1
      obtain ⟨t2, e2⟩ := h3
      rw [this, e2] at e1
      simp [encP] at e1
    exact ⟨⟨ia, ic, va, vc, sa, sc, mask_holds (q1.ext a0) hc, ⟨_, _, rfl, .inl rfl⟩, ⟨_, _, rfl, .inl rfl⟩, ⟨_, _, rfl, .inl rfl⟩⟩, by simp⟩
set_option maxRecDepth 100000 in
theorem begin_any (w : World) : Calls Tryd.prog 28 #[] w fun e w' =>
    ∃ P gv wv b c S, e = .returned (.pointer (some ⟨P, 0, none⟩)) ∧ Play w.heap.size S w' P gv wv [b] [c] ∧ MapT (mask S w') b Tr.nil ∧ RefAt (mask S w') c [] ∧ Below w.heap.size w w' := by
  go_enter Tryd.func28, Tryd.ntmps28
  go_wp2_with fail
  refine (empty_t w).mono ?_
  rintro e w1 ⟨b, rfl, m0, h1⟩
  have M0 := Lib.hid m0
  have H1 := Lib.hid h1
  clear m0 h1
  go_wp2_with (go_at_call 38; refine (rempty_any _).mono ?_; rintro e w2 ⟨c, rfl, r, h2⟩; rw [World.size_alloc] at h2; obtain ⟨y1, y2, y3, y4⟩ := play_start w w1 w2 b c H1.out M0.out h2 r; have Y1 := Lib.hid y1; have Y2 := Lib.hid y2; have Y3 := Lib.hid y3; have Y4 := Lib.hid y4; clear y1 y2 y3 y4 h2 r M0 H1)
  go_returns
  exact ⟨_, _, _, _, _, _, rfl, Y1.out, Y2.out, Y3.out, Y4.out⟩
end Go.Proofs.YtihmhledogppmaaDoor
