/- A play's step, of any kind; the walk of TrieAll. -/
import Derived.Test.YtihmhledogppmaaDoorQaX
import Derived.Test.YtihmhledogppmaaDoorQcX
import Derived.Test.YtihmhledogppmaaDoorQcX
import Derived.Test.YtihmhledogppmaaDoorQaX
import Derived.Test.YtihmhledogppmaaDoorQaX
import Derived.Test.YtihmhledogppmaaDoorQaX
import Derived.Test.YtihmhledogppmaaDoorQbX
import Derived.Test.YtihmhledogppmaaDoorQbX
import Derived.Test.YtihmhledogppmaaDoorQj
import Derived.Test.YtihmhledogppmaaDoorKn
namespace Go.Proofs.YtihmhledogppmaaDoor
open Go Go.RowKit
set_option linter.unusedVariables false
set_option linter.unusedSimpArgs false

theorem step_any (B P : Nat) (S : List Nat) (vs : List Ver) (a : Int) (o : OpS) (w : World) (h : PlayS B S w P vs a) (hid : o.id < 4294967296) :
    Calls Tryd.prog 29 #[.pointer (some ⟨P, 0, none⟩), .agg (opS o).toArray, .int .i64 a] w fun e w' => e = .returned (.bool true) ∧ StepQ B P w vs a w' := by
  by_cases hm : o.m < 0
  · exact step_neg B P S vs a o w h hm
  obtain ⟨j, hj⟩ : ∃ j : Nat, o.m = (j : Int) := ⟨o.m.toNat, by omega⟩
  by_cases hjl : vs.length ≤ j
  · exact step_high B P S vs a o w h j hj hjl
  obtain ⟨x, hx⟩ : ∃ x, vs[j]? = some x := ⟨vs[j], List.getElem?_eq_getElem (by omega)⟩
  by_cases h1 : o.kind = 1
  · exact step_1 B P S vs a o w h h1 j hj x hx hid
  by_cases h2 : o.kind = 2
  · exact step_2 B P S vs a o w h h2 j hj x hx hid
  by_cases h3 : o.kind = 3
  · exact step_3 B P S vs a o w h h3 j hj x hx hid
  by_cases h4 : o.kind = 4
  · exact step_4 B P S vs a o w h h4 j hj x hx
  by_cases h5 : o.kind = 5
  · exact step_5 B P S vs a o w h h5 j hj x hx hid
  by_cases h6 : o.kind = 6
  · exact step_6 B P S vs a o w h h6 j hj x hx hid
  by_cases hn : o.n < 0
  · exact step_nneg B P S vs a o w h ⟨h1, h2, h3, h4, h5, h6⟩ j hj x hx hn
  obtain ⟨i, hi⟩ : ∃ i : Nat, o.n = (i : Int) := ⟨o.n.toNat, by omega⟩
  by_cases hil : vs.length ≤ i
  · exact step_nhigh B P S vs a o w h ⟨h1, h2, h3, h4, h5, h6⟩ j hj x hx i hi hil
  obtain ⟨y, hy⟩ : ∃ y, vs[i]? = some y := ⟨vs[i], List.getElem?_eq_getElem (by omega)⟩
  by_cases h7 : o.kind = 7
  · exact step_7 B P S vs a o w h h7 j hj x hx hid i hi y hy
  by_cases h8 : o.kind = 8
  · exact step_8 B P S vs a o w h h8 j hj x hx hid i hi y hy
  by_cases h9 : o.kind = 9
  · exact step_9 B P S vs a o w h h9 j hj x hx hid i hi y hy
  exact step_idle B P S vs a o w h ⟨h1, h2, h3, h4, h5, h6⟩ ⟨h7, h8, h9⟩ j hj x hx i hi y hy
theorem vers_start {S : List Nat} {w : World} {b c : Nat} (m : MapT (mask S w) b Tr.nil) (r : RefAt (mask S w) c []) : Vers S w [⟨b, Tr.nil, c, []⟩] 1 := by
  refine ⟨?_, ?_, ?_⟩
  · intro x hx
    simp only [List.mem_singleton] at hx
    subst hx
    exact ⟨m, r, by rw [Tr.ents_nil]; rfl⟩
  · intro x hx y hy
    simp only [List.mem_singleton] at hx hy
    subst hx hy
    intro e he
    simp at he
  · intro x hx e he
    simp only [List.mem_singleton] at hx
    subst hx
    simp at he
/-- How a script's play stands behind k of its calls. -/
def AllS (w : World) (P k : Nat) (wr : World) : Prop := ∃ S vs, PlayS w.heap.size S wr P vs ((k : Int) + 1) ∧ vs.length ≤ k + 1 ∧ Below w.heap.size w wr
theorem AllS.step {w wr w' : World} {P k : Nat} {S : List Nat} {vs : List Ver} (hb : Below w.heap.size w wr) (hl : vs.length ≤ k + 1) (hk : k + 2 ≤ 4398046511103) (h : StepQ w.heap.size P wr vs ((k : Int) + 1) w') : AllS w P (k + 1) w' := by
  obtain ⟨S', vs', hp, hv, hlen, hB⟩ := h
  refine ⟨S', vs', ⟨hp, ?_, by omega⟩, by omega, hb.trans hB⟩
  have : ((k + 1 : Nat) : Int) + 1 = (k : Int) + 1 + 1 := by omega
  rw [this]
  exact hv
set_option maxRecDepth 100000 in
set_option maxHeartbeats 1600000 in
theorem trieAll_any (v : Value) (l : List OpS) (w : World) (h : Rd w 6 opS v l) (hid : ∀ x ∈ l, x.id < 4294967296) (hl : l.length * 48 ≤ 140737488351232) :
    Calls Tryd.prog 8 #[v] w fun e w' => e = .returned (.bool true) ∧ Below w.heap.size w w' := by
  obtain ⟨la, lc, rfl, hrow⟩ := h
  have HL := Lib.hid hrow
  clear hrow
  go_enter Tryd.func8, Tryd.ntmps8
  go_wp2_with fail
  refine (begin_any w).mono ?_
  rintro e w1 ⟨P, gv, wv, b, c, S, rfl, hp, m0, r0, hb1⟩
  have P1 : Hid (PlayS w.heap.size S w1 P [⟨b, Tr.nil, c, []⟩] 1) := Lib.hid ⟨⟨gv, wv, hp⟩, vers_start m0 r0, by simp⟩
  have B1 := Lib.hid hb1
  clear hp m0 r0 hb1
  go_wp2_with fail
  refine (known_any w1).mono ?_
  rintro e w2 ⟨rfl, hb2⟩
  have A2 : Hid (AllS w P 0 w2) := Lib.hid ⟨S, _, P1.out.ext hb2, by simp, B1.out.trans (hb2.mono B1.out.size)⟩
  clear hb2 P1 B1
  go_wp2
  go_loopw [4] (fun i wr => ∃ k : Nat, i = .int .i64 (k : Int) ∧ k ≤ l.length ∧ AllS w P k wr) (fun i _ => l.length - (intOf i).toNat)
  case atStart => exact ⟨0, rfl, by omega, A2.out⟩
  case round =>
    obtain ⟨k, rfl, hk, hst⟩ := hrel
    obtain ⟨S2, vs, hps, hvl, hB⟩ := hst
    have HB := Lib.hid hB
    by_cases hlt : k < l.length
    · have e1 : l[k]? = some l[k] := List.getElem?_eq_getElem hlt
      have hxi := hid l[k] (List.getElem_mem hlt)
      rcases HL.out with hnil | ⟨lb, lo, rfl, hlb, hcl⟩
      · subst hnil; simp at hlt
      generalize l[k] = x at e1 hxi
      obtain ⟨xk, xm, xn, xid, xv⟩ := x
      have f0 := (hB.cell (p := ⟨lb, _, none⟩) hlb).trans (hcl k _ 0 _ e1 rfl)
      have f1 := (hB.cell (p := ⟨lb, _, none⟩) hlb).trans (hcl k _ 1 _ e1 rfl)
      have f2 := (hB.cell (p := ⟨lb, _, none⟩) hlb).trans (hcl k _ 2 _ e1 rfl)
      have f3 := (hB.cell (p := ⟨lb, _, none⟩) hlb).trans (hcl k _ 3 _ e1 rfl)
      have f4 := (hB.cell (p := ⟨lb, _, none⟩) hlb).trans (hcl k _ 4 _ e1 rfl)
      have f5 := (hB.cell (p := ⟨lb, _, none⟩) hlb).trans (hcl k _ 5 _ e1 rfl)
      simp only [Nat.add_zero] at f0
      have HC := Lib.hid (step_any w.heap.size P S2 vs ((k : Int) + 1) ⟨xk, xm, xn, xid, xv⟩ wr hps hxi)
      have HV := Lib.hid hvl
      clear hcl e1 hps hxi hB hvl
      go_wp2_with fail
      refine HC.out.mono ?_
      rintro e w3 ⟨rfl, hq⟩
      have A3 := Lib.hid (AllS.step (S := S2) HB.out HV.out (by omega) hq)
      clear hq
      go_wp2
      go_roundw
      case rel => exact ⟨k + 1, by go_num, by omega, A3.out⟩
      case measure => simp [intOf]; omega
    · have hno : decide ((k : Int) < (l.length : Int)) = false := by simp; omega
      clear hps hvl hB
      go_wp2
      go_returns
      exact ⟨rfl, HB.out⟩
end Go.Proofs.YtihmhledogppmaaDoor
