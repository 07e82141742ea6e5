/- The walk of levylaw3.nodes: how many nodes a list of entries asks for. -/
import Derived.Test.YtihmhledogppmaaDoorSb
namespace Go.Proofs.YtihmhledogppmaaDoor
open Go Go.RowKit
set_option linter.unusedVariables false
set_option linter.unusedSimpArgs false

/-- Does a key ask for a node at the k-th level from above, behind the key ahead of it? -/
def asksK (prev : Option Nat) (x k : Nat) : Nat := match prev with
  | none => 1
  | some p => if p / 16 ^ (8 - k) = x / 16 ^ (8 - k) then 0 else 1
theorem asksK_sum (prev : Option Nat) (x : Nat) : sumK (asksK prev x) 8 = parts 8 prev x := by
  cases prev with
  | none => rfl
  | some p =>
    simp only [sumK, asksK, parts, Nat.reduceSub, Nat.reduceAdd]
    ac_rfl
theorem asks_concat (d : Nat) (prev : Option Nat) (l : List Nat) (x : Nat) : asks d prev (l ++ [x]) = asks d prev l + parts d (match l.getLast? with | some y => some y | none => prev) x := by
  rw [asks_append]; rfl
def prevOf (l : List (Nat × V)) (i : Nat) : Option Nat := if i = 0 then none else (l[i - 1]?).map (·.1)
theorem asks_take {l : List (Nat × V)} {i : Nat} {y : Nat × V} (h : l[i]? = some y) : asks 8 none ((l.take (i + 1)).map (·.1)) = asks 8 none ((l.take i).map (·.1)) + parts 8 (prevOf l i) y.1 := by
  obtain ⟨hi, rfl⟩ := List.getElem?_eq_some_iff.1 h
  rw [List.take_succ_eq_append_getElem hi, List.map_append, List.map_cons, List.map_nil, asks_concat]
  congr 2
  rw [List.getLast?_map]
  unfold prevOf
  by_cases h0 : i = 0
  · subst h0; simp
  · rw [if_neg h0, List.getLast?_take, if_neg h0]
    have : l[i - 1]? = some (l[i - 1]'(by omega)) := List.getElem?_eq_getElem (by omega)
    simp [this]
theorem pow16_step (m : Nat) : (16 ^ m % 4294967296) * 16 % 4294967296 = 16 ^ (m + 1) % 4294967296 := by
  rw [Nat.pow_succ, Nat.mul_mod (16 ^ m) 16]
theorem asksK_le (prev : Option Nat) (x k : Nat) : asksK prev x k ≤ 1 := by
  unfold asksK; cases prev with
  | none => exact Nat.le_refl _
  | some p => dsimp only; split <;> omega
theorem asks_le : ∀ (l : List Nat) (prev : Option Nat), asks 8 prev l ≤ 8 * l.length
  | [], _ => Nat.le_refl _
  | x :: l, prev => by
    have h1 := asks_le l (some x)
    have h2 : parts 8 prev x ≤ 8 := by
      rw [← asksK_sum]
      exact Nat.le_trans (sumK_le 8 (fun i _ => asksK_le prev x i)) (by rw [sumK_const]; omega)
    show parts 8 prev x + _ ≤ 8 * (l.length + 1)
    omega
set_option maxRecDepth 100000 in
set_option maxHeartbeats 1600000 in
theorem nodes_any (v : Value) (l : List (Nat × V)) (w : World) (h : Rd w 3 encL v l) (hk : ∀ y ∈ l, y.1 < 4294967296) (hn : l.length ≤ 100000) :
    Calls Tryd.prog 24 #[v] w fun e w' => e = .returned (.int .i64 (asks 8 none (l.map (·.1)) : Nat)) ∧ Below w.heap.size w w' := by
  obtain ⟨a, cap, rfl, h⟩ := h
  have HL := Lib.hid h
  have HK := Lib.hid hk
  clear h hk
  go_enter Tryd.func24, Tryd.ntmps24
  go_wp2
  go_loopw [3, 4] (fun n i wr => ∃ k : Nat, i = .int .i64 (k : Int) ∧ k ≤ l.length ∧ n = .int .i64 ((asks 8 none ((l.take k).map (·.1)) : Nat) : Int) ∧ Below w.heap.size w wr) (fun _ i _ => l.length - (intOf i).toNat)
  case atStart => exact ⟨0, rfl, by omega, rfl, Below.refl _ _⟩
  case round =>
    obtain ⟨i, rfl, hi, rfl, hB⟩ := hrel
    by_cases hil : i < l.length
    · have e1 : l[i]? = some l[i] := List.getElem?_eq_getElem hil
      have hx := HK.out l[i] (List.getElem_mem hil)
      have hst := asks_take e1
      have hle : asks 8 none ((l.take i).map (·.1)) ≤ 800000 := by
        have := asks_le ((l.take i).map (·.1)) none
        rw [List.length_map, List.length_take] at this
        omega
      rcases HL.out with hnil | ⟨vb, vo, rfl, hvb, hcv⟩
      · subst hnil; simp at hil
      generalize l[i] = x at e1 hx hst
      have f0 := (hB.cell (p := ⟨vb, _, none⟩) hvb).trans (hcv i _ 0 _ e1 rfl)
      simp only [Nat.add_zero] at f0
      have hprev : i ≠ 0 → ∃ y, prevOf l i = some y ∧ y < 4294967296 ∧ wr.cell? ⟨vb, vo + (i - 1) * 3, none⟩ = some (.int .u32 (y : Nat)) := by
        intro h0
        have e2 : l[i - 1]? = some (l[i - 1]'(by omega)) := List.getElem?_eq_getElem (by omega)
        refine ⟨(l[i - 1]'(by omega)).1, ?_, HK.out _ (List.getElem_mem _), ?_⟩
        · unfold prevOf; rw [if_neg h0, e2]; rfl
        · have := (hB.cell (p := ⟨vb, _, none⟩) hvb).trans (hcv (i - 1) _ 0 _ e2 rfl)
          simpa only [Nat.add_zero] using this
      have HP := Lib.hid hprev
      have HST := Lib.hid hst
      have hszB := hB.size
      generalize asks 8 none ((l.take i).map (·.1)) = base at HST hle ⊢
      clear hcv e1 hprev hst HL
      have HB := Lib.hid hB
      clear hB
      obtain ⟨wA, rfl⟩ : ∃ x, x = wr := ⟨wr, rfl⟩
      go_wp2
      go_loopw [3, 5] (fun n k wx => ∃ m : Nat, k = .int .i64 (m : Int) ∧ m ≤ 8 ∧ n = .int .i64 ((base + sumK (asksK (prevOf l i) x.1) m : Nat) : Int) ∧ Below wA.heap.size wA wx) (fun _ k _ => 8 - (intOf k).toNat)
      case atStart => exact ⟨0, rfl, by omega, rfl, Below.refl _ _⟩
      case round =>
        obtain ⟨m, rfl, hm, rfl, hC⟩ := hrel
        obtain ⟨wC, rfl⟩ : ∃ x, x = wr := ⟨wr, rfl⟩
        have hsm := sumK_mono (asksK (prevOf l i) x.1) hm
        have hs8 : sumK (asksK (prevOf l i) x.1) 8 ≤ 8 := Nat.le_trans (sumK_le 8 (fun j _ => asksK_le _ _ j)) (by rw [sumK_const]; omega)
        have hsk : sumK (asksK (prevOf l i) x.1) m ≤ 8 := Nat.le_trans hsm hs8
        clear hsm hs8
        by_cases hm8 : m < 8
        · have g0 := (hC.cell (p := ⟨vb, _, none⟩) (Nat.lt_of_lt_of_le hvb hszB)).trans f0
          have hstep : sumK (asksK (prevOf l i) x.1) (m + 1) = sumK (asksK (prevOf l i) x.1) m + asksK (prevOf l i) x.1 m := rfl
          generalize hsv : sumK (asksK (prevOf l i) x.1) m = sv at hsk hstep ⊢
          have HSM := Lib.hid hstep
          have HC := Lib.hid hC
          clear hstep hsv hC
          go_wp2
          go_loopw [6, 7] (fun p j wz => ∃ q : Nat, j = .int .i64 (q : Int) ∧ m ≤ q ∧ q ≤ 8 ∧ p = .int .u32 ((16 ^ (8 - q) % 4294967296 : Nat) : Int) ∧ wz = wC) (fun _ j _ => (intOf j).toNat)
          case atStart => exact ⟨8, rfl, by omega, by omega, by first | rfl | trivial, by first | rfl | trivial⟩
          case round =>
            obtain ⟨q, rfl, hmq, hq8, rfl, hwz⟩ := hrel
            subst hwz
            by_cases hqm : m < q
            · have hp := pow16_step (8 - q)
              have d1 : decide ((m : Int) < (q : Int)) = true := by simpa using by omega
              have d2 : decide (m < q) = true := by simpa using hqm
              generalize 16 ^ (8 - q) % 4294967296 = pv at hp ⊢
              have HPW := Lib.hid hp
              clear hp
              go_wp2
              go_roundw
              case rel =>
                refine ⟨q - 1, by go_num, by omega, by omega, ?_, by first | rfl | trivial⟩
                rw [show 8 - (q - 1) = 8 - q + 1 by omega, ← HPW.out]
                go_num
              case measure => simp [intOf]; omega
            · obtain rfl : q = m := by omega
              have d1 : decide ((q : Int) < (q : Int)) = false := by simp
              by_cases hq0 : q = 0
              · subst hq0
                by_cases hi0 : i = 0
                · subst hi0
                  have hone : asksK (prevOf l 0) x.1 0 = 1 := rfl
                  rw [hone] at HSM
                  go_wp2
                  go_roundw
                  case rel => exact ⟨1, by go_num, by omega, by rw [HSM.out]; go_num, HC.out⟩
                  case measure => simp [intOf]
                · have hzero : asksK (prevOf l i) x.1 0 = 0 := by
                    obtain ⟨y, h1, h2, _⟩ := HP.out hi0
                    rw [h1]
                    have e1 : y / 16 ^ 8 = 0 := Nat.div_eq_of_lt (by omega)
                    have e2 : x.1 / 16 ^ 8 = 0 := Nat.div_eq_of_lt (by omega)
                    show (if y / 16 ^ (8 - 0) = x.1 / 16 ^ (8 - 0) then 0 else 1) = 0
                    rw [if_pos (by rw [Nat.sub_zero, e1, e2])]
                  rw [hzero] at HSM
                  have hi0' : ((i : Int) == 0) = false := by simpa using hi0
                  go_wp2
                  go_roundw
                  case rel => exact ⟨1, by go_num, by omega, by rw [HSM.out]; go_num, HC.out⟩
                  case measure => simp [intOf]
              · have hq0' : ((q : Int) == 0) = false := by simpa using hq0
                by_cases hi0 : i = 0
                · subst hi0
                  have hone : asksK (prevOf l 0) x.1 q = 1 := rfl
                  rw [hone] at HSM
                  go_wp2
                  refine rgn [0, 1, 2, 3, 4, 5, 6, 7, 8, 9, 10, 11, 12, 13, 14, 15, 16, 17, 18, 19] [1, 5, 10, 17, 18] (by kernel_rfl) ?_
                  simp only [pickL, List.getD_cons_zero, List.getD_cons_succ]
                  go_wp2
                  refine ⟨?_, ?_⟩
                  · simp [chkD, dyn, Region.wanted, yielded, Act.eval, scalarV]
                  go_wp2
                  go_roundw
                  case rel => exact ⟨q + 1, by go_num, by omega, by rw [HSM.out]; go_num, HC.out.drew⟩
                  case measure => simp [intOf]; omega
                · have hi0' : ((i : Int) == 0) = false := by simpa using hi0
                  obtain ⟨y, h1, h2, h3⟩ := HP.out hi0
                  have h3' := (HC.out.cell (p := ⟨vb, _, none⟩) (Nat.lt_of_lt_of_le hvb hszB)).trans h3
                  have hpw : 16 ^ (8 - q) % 4294967296 = 16 ^ (8 - q) := Nat.mod_eq_of_lt (by
                    have : 16 ^ (8 - q) ≤ 16 ^ 7 := Nat.pow_le_pow_right (by decide) (by omega)
                    have h7 : 16 ^ 7 = 268435456 := by decide
                    omega)
                  have hpos : 0 < 16 ^ (8 - q) := Nat.pow_pos (by decide)
                  rw [h1] at HSM
                  rw [hpw]
                  have hak : asksK (some y) x.1 q = if y / 16 ^ (8 - q) = x.1 / 16 ^ (8 - q) then 0 else 1 := rfl
                  rw [hak] at HSM
                  have H1 := Lib.hid h1
                  clear hak h1 h3 hpw
                  generalize 16 ^ (8 - q) = pv at hpos HSM ⊢
                  by_cases he : y / pv = x.1 / pv
                  · have he1 : ((y : Int) / (pv : Int) == (x.1 : Int) / (pv : Int)) = true := by
                      rw [beq_iff_eq, ← Int.natCast_ediv, ← Int.natCast_ediv, he]
                    have he2 : (y / pv == x.1 / pv) = true := by simpa using he
                    rw [if_pos he] at HSM
                    go_wp2
                    refine rgn [0, 1, 2, 3, 4, 5, 6, 7, 8, 9, 10, 11, 12, 13, 14, 15, 16, 17, 18, 19] [1, 5, 10, 17, 18] (by kernel_rfl) ?_
                    simp only [pickL, List.getD_cons_zero, List.getD_cons_succ]
                    go_wp2_with fail
                    refine ⟨?_, ?_⟩
                    · simp [chkD, dyn, Region.wanted, yielded, Act.eval, scalarV]
                    go_wp2
                    go_roundw
                    case rel => exact ⟨q + 1, by go_num, by omega, by rw [H1.out, HSM.out]; go_num, HC.out.drew⟩
                    case measure => simp [intOf]; omega
                  · have he1 : ((y : Int) / (pv : Int) == (x.1 : Int) / (pv : Int)) = false := by
                      rw [beq_eq_false_iff_ne, ← Int.natCast_ediv, ← Int.natCast_ediv]
                      exact fun e => he (by exact_mod_cast e)
                    have he2 : (y / pv == x.1 / pv) = false := by simpa using he
                    have m1 : (y : Int) / (pv : Int) % 4294967296 = ((y / pv : Nat) : Int) := by
                      rw [← Int.natCast_ediv]
                      have := Nat.div_le_self y pv
                      generalize y / pv = z at this ⊢
                      omega
                    have m2 : (x.1 : Int) / (pv : Int) % 4294967296 = ((x.1 / pv : Nat) : Int) := by
                      rw [← Int.natCast_ediv]
                      have := Nat.div_le_self x.1 pv
                      generalize x.1 / pv = z at this ⊢
                      omega
                    have he3 : ((y : Int) / (pv : Int) % 4294967296 != (x.1 : Int) / (pv : Int) % 4294967296) = true := by
                      rw [m1, m2, bne_iff_ne]
                      exact fun e => he (by exact_mod_cast e)
                    clear m1 m2
                    rw [if_neg he] at HSM
                    go_wp2
                    refine rgn [0, 1, 2, 3, 4, 5, 6, 7, 8, 9, 10, 11, 12, 13, 14, 15, 16, 17, 18, 19] [1, 5, 10, 17, 18] (by kernel_rfl) ?_
                    simp only [pickL, List.getD_cons_zero, List.getD_cons_succ]
                    go_wp2_with fail
                    refine ⟨?_, ?_⟩
                    · simp [chkD, dyn, Region.wanted, yielded, Act.eval, scalarV]
                    go_wp2
                    go_roundw
                    case rel => exact ⟨q + 1, by go_num, by omega, by rw [H1.out, HSM.out]; go_num, HC.out.drew⟩
                    case measure => simp [intOf]; omega
        · obtain rfl : m = 8 := by omega
          have hsum := asksK_sum (prevOf l i) x.1
          rw [hsum]
          have HC := Lib.hid hC
          clear hC hsum hsk
          go_wp2
          go_roundw
          case rel => exact ⟨i + 1, by go_num, by omega, by rw [HST.out], HB.out.trans (HC.out.mono hszB)⟩
          case measure => simp [intOf]; omega
    · obtain rfl : i = l.length := by omega
      have HB := Lib.hid hB
      rw [List.take_length]
      go_wp2
      go_returns
      exact ⟨rfl, HB.out⟩
end Go.Proofs.YtihmhledogppmaaDoor
