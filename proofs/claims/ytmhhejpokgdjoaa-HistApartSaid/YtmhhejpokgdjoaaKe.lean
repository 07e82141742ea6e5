/- The walks of levylaw11.versions, steps. -/
import Derived.Test.YtmhhejpokgdjoaaKd
namespace Go.Proofs.Ytmhhejpokgdjoaa
open Go Go.RowKit
set_option linter.unusedVariables false
set_option linter.unusedSimpArgs false
attribute [local go_sem] Oper.semAt_some

set_option maxRecDepth 100000 in
set_option maxHeartbeats 1600000 in
theorem versions_any (f : FuncId) (fst cap : Array Value) (xs : List (Int × (Nat × List E))) (D : World → Prop) (hG : Gives Try.prog (.func (.func f) fst cap) encSt xs D) (most : Int) (w : World)
    (hD : ∀ W, Below w.heap.size w W → D W) (hx : xs.length ≤ 100) :
    Calls Try.prog 62 #[.func (.func f) fst cap, .int .i64 most] w fun e w' => ∃ es, e = .returned (.tuple #[es, .bool true]) ∧ Own w' w.heap.size 94 2 encW es (cutV xs most) ∧ Below w.heap.size w w' := by
  have hE := run_eql_func (P := Try.prog) (t := 67) (by kernel_rfl) (.func f) fst cap
  have a0 := (Below.refl w.heap.size w).alloc (Nat.le_refl _) (.cells #[.int .i64 most] 3)
  have a1 := a0.alloc (by simp) (.cells #[.slice none 0 0] 90)
  have a2 := a1.alloc (by simp; omega) (.cells #[.bool false] 4)
  have a3 := a2.alloc (by simp; omega) (.cells #[.bool true] 4)
  obtain ⟨W0, hW0⟩ : ∃ W0, W0 = (((w.alloc (.cells #[.int .i64 most] 3)).alloc (.cells #[.slice none 0 0] 90)).alloc (.cells #[.bool false] 4)).alloc (.cells #[.bool true] 4) := ⟨_, rfl⟩
  have hsz : W0.heap.size = w.heap.size + 4 := by rw [hW0]; simp
  have hv : VerI w.heap.size most false [] W0 := by
    have r0 := Holds.alloc w [.int .i64 most] 3
    have r1 := Holds.alloc (w.alloc (.cells #[.int .i64 most] 3)) [.slice none 0 0] 90
    have r2 := Holds.alloc ((w.alloc (.cells #[.int .i64 most] 3)).alloc (.cells #[.slice none 0 0] 90)) [.bool false] 4
    have r3 := Holds.alloc (((w.alloc (.cells #[.int .i64 most] 3)).alloc (.cells #[.slice none 0 0] 90)).alloc (.cells #[.bool false] 4)) [.bool true] 4
    simp only [World.size_alloc] at r1 r2 r3
    have s : ∀ (W : World) (o : Obj), Below W.heap.size W (W.alloc o) := fun W o => (Below.refl _ _).alloc (Nat.le_refl _) _
    rw [hW0]
    exact ⟨⟨_, (r1.ext (s _ _)).ext (s _ _), own_nil _ _ _ _ _⟩, r2.ext (s _ _), r3, ((r0.ext (s _ _)).ext (s _ _)).ext (s _ _), by simp⟩
  have h0 : VerJ w.heap.size W0 most false [] W0 := ⟨hv, Below.refl _ _, by simp, by simp⟩
  have hc := hG (verV w.heap.size) (VerJ w.heap.size W0 most false) (VerJ w.heap.size W0 most true) W0 (VerJ.grows _ _ _ _) (fun pre W h => hD W ((by rw [hW0]; exact a3 : Below w.heap.size w W0).trans h.below)) (ver_yd w.heap.size W0 most xs hx) h0
  have HB0 : Hid (Below w.heap.size w W0) := Lib.hid (by rw [hW0]; exact a3)
  rw [hW0] at hc
  have HC := Lib.hid hc
  have HW0 := Lib.hid hW0
  clear hG hD hv h0 hc a0 a1 a2 a3 hW0
  refine (callsIn_wide (n := 0)).1 (callsIn_of_wp Try.func62 rfl trivial ?_)
  simp only [Try.ntmps62, List.size_toArray, List.length_cons, List.length_nil, Nat.reduceAdd, Nat.reduceSub, Array.replicate_succ, Array.replicate_zero, List.push_toArray, List.append_toArray, List.nil_append, List.cons_append]
  gi_wp2_with (refine wpListIn_callV (open_wide _) rfl _ _ _ rfl (vs := #[verV w.heap.size]) rfl (by simp [verV, Act.eval]) ?_; refine HC.out.mono ?_; rintro e W' ⟨⟨v, rfl⟩, hr⟩; rw [← HW0.out] at hr; obtain ⟨hB, ov, hV⟩ := ver_end hr; obtain ⟨es, g1, g2⟩ := hV.out; have c0 := g1.cell (i := 0) rfl; have c3 := hV.well.cell (i := 0) rfl; have GB := Lib.hid (HB0.out.trans hB); have G2 := Lib.hid g2; clear hB hV g1 g2 hr)
  obtain ⟨y1, y2, hes, hf⟩ := own_fits G2.out
  subst hes
  have c3' : W'.cell? ⟨w.heap.size + 1 + 1 + 1, 0, none⟩ = some (.bool true) := c3
  clear c3
  refine rgnIn [0, 1, 2, 3] [] (fun _ => trivial) rfl (by kernel_rfl) ?_
  simp only [pickL, List.getD_cons_zero, List.getD_cons_succ]
  gi_wp2
  refine ⟨rfl, ?_⟩
  gi_wp2
  go_returns
  exact ⟨_, rfl, (G2.out.base (by omega)).below (Below.refl _ _).drew, GB.out.drew⟩
set_option maxRecDepth 100000 in
theorem steps_any (b : Nat) (vs : List (List E)) (i : Nat) (most : Int) (w : World) (h : HistL w b vs i) :
    Calls Try.prog 43 #[.pointer (some ⟨b, 0, none⟩), .int .i64 most] w fun e w' => ∃ es ps, e = .returned (.tuple #[es, .bool true]) ∧ HistP w b ps i ∧ ps.map (·.2) = vs ∧ Own w' w.heap.size 94 2 encW es (cutV (stL ps (-(i : Int))) most) ∧ Below w.heap.size w w' := by
  obtain ⟨ps, hp, rfl⟩ := h
  obtain ⟨a, c, h1, h2, h3⟩ := hp.cells
  have hv := versions_any 50 #[.pointer (some ⟨b, 0, none⟩)] #[] (stL ps (-(i : Int))) _ (steps_gives b i c a ps hp.lt hp.len) most w (fun W hW => ⟨h1.ext hW, h2.ext hW⟩) (by rw [stL_len]; have := hp.len; omega)
  have HV := Lib.hid hv
  have HP := Lib.hid hp
  clear hv hp h1 h2
  go_enter Try.func43, Try.ntmps43
  go_wp2_with (first | (go_at_call 30; refine (steps_make b _).mono ?_; rintro e w1 ⟨rfl, hw⟩; subst hw; unfold stepsV) | (go_at_call 62; refine HV.out.mono ?_; rintro e w2 ⟨es, rfl, hO, hB⟩; have HO := Lib.hid hO; have HB := Lib.hid hB; clear hO hB))
  go_returns
  exact ⟨es, ps, rfl, HP.out, rfl, HO.out, HB.out⟩
end Go.Proofs.Ytmhhejpokgdjoaa
