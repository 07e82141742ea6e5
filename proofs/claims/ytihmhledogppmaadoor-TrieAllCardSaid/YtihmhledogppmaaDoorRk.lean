/- The walks of levyref3.has, Shared. -/
import Derived.Test.YtihmhledogppmaaDoorRd
namespace Go.Proofs.YtihmhledogppmaaDoor
open Go Go.RowKit
set_option linter.unusedVariables false
set_option linter.unusedSimpArgs false
attribute [local go_sem] Oper.semAt_some

def hasR (l : List RE) (id k : Nat) (x : Int) : Bool := match l.find? (fun e => decide (pre e.id k = pre id k)) with
  | some e => decide (e.s k = x)
  | none => false
theorem hasR_at {l : List RE} {id k m : Nat} {x : Int} {e : RE} (he : l[m]? = some e) (h1 : ∀ f ∈ l.take m, pre f.id k ≠ pre id k) (h2 : pre e.id k = pre id k) : hasR l id k x = decide (e.s k = x) := by
  have hl : l = l.take m ++ e :: l.drop (m + 1) := by
    have h := List.getElem?_eq_some_iff.1 he
    rw [← h.2, List.getElem_cons_drop, List.take_append_drop]
  unfold hasR
  rw [hl, List.find?_append, List.find?_eq_none.2 (by intro f hf; simpa using h1 f hf)]
  simp [h2]
theorem hasR_no {l : List RE} {id k : Nat} {x : Int} (h1 : ∀ f ∈ l, pre f.id k ≠ pre id k) : hasR l id k x = false := by
  unfold hasR
  rw [List.find?_eq_none.2 (by intro f hf; simpa using h1 f hf)]
set_option maxRecDepth 100000 in
set_option maxHeartbeats 800000 in
theorem has_r (b id k : Nat) (x : Int) (l : List RE) (w : World) (h : RefAt w b l) (hid : id < 4294967296) (hk : k < 8) (hl : l.length ≤ 1099511627776) :
    Calls Tryd.prog 59 #[.pointer (some ⟨b, 0, none⟩), .int .u32 (id : Nat), .int .i64 (k : Nat), .int .i64 x] w fun e w' => e = .returned (.bool (hasR l id k x)) ∧ w = w' := by
  obtain ⟨ia, ic, va, vc, sa, sc, q1, q2, q3, q4⟩ := h.cells
  have HQ1 := Lib.hid q1
  have HQ2 := Lib.hid q2
  have HQ4 := Lib.hid q4
  have HI := Lib.hid h.ids
  clear h q1 q2 q3 q4
  go_enter Tryd.func59, Tryd.ntmps59
  go_wp2
  go_loop [9] (fun i => ∃ m : Nat, m ≤ l.length ∧ i = .int .i64 (m : Int) ∧ ∀ f ∈ l.take m, pre f.id k ≠ pre id k) (fun i => l.length - (intOf i).toNat)
  case atStart => exact ⟨0, by omega, rfl, by simp⟩
  case round =>
    obtain ⟨m, hm, rfl, htk⟩ := hrel
    have HT := Lib.hid htk
    have s0 := HQ1.out.cell (i := 0) rfl
    clear htk
    by_cases hml : m < l.length
    · have e1 : l[m]? = some l[m] := List.getElem?_eq_getElem hml
      have htk1 : l.take (m + 1) = l.take m ++ [l[m]] := List.take_succ_eq_append_getElem hml
      generalize l[m] = y at e1 htk1
      have hy := HI.out y (List.mem_of_getElem? e1)
      obtain ⟨g, o, rfl, hg, hc⟩ := rd_elt HQ2.out e1
      have f0 := hc 0 _ rfl
      simp only [Nat.add_zero, Nat.mul_one] at f0
      obtain ⟨g3, o3, rfl, hg3, hc3⟩ := rd_elt HQ4.out e1
      have f3 := hc3 k _ (encRS_get y k hk)
      have s2 := HQ1.out.cell (i := 2) rfl
      have E1 := Lib.hid e1
      have HTK := Lib.hid htk1
      clear hc hc3 e1 htk1
      by_cases hp : pre y.id k = pre id k
      · have d2 : (((pre y.id k : Nat) : Int) == ((pre id k : Nat) : Int)) = true := by simp; omega
        have hres := Lib.hid (hasR_at (x := x) E1.out HT.out hp)
        clear hp
        go_wp2_with fail
        refine (prefix_any y.id k (by omega) hy _).mono ?_
        rintro e w' ⟨rfl, rfl⟩
        go_wp2_with fail
        refine (prefix_any id k (by omega) hid _).mono ?_
        rintro e w' ⟨rfl, rfl⟩
        by_cases hx : y.s k = x
        · have d3 : (y.s k == x) = true := by simpa using hx
          have hr2 : Hid (hasR l id k x = true) := Lib.hid (by rw [hres.out]; simpa using hx)
          clear hx
          go_wp2
          go_returns
          exact ⟨by rw [hr2.out]; rfl, rfl⟩
        · have d3 : (y.s k == x) = false := by simpa using hx
          have hr2 : Hid (hasR l id k x = false) := Lib.hid (by rw [hres.out]; simpa using hx)
          clear hx
          go_wp2
          go_returns
          exact ⟨by rw [hr2.out]; rfl, rfl⟩
      · have d2 : (((pre y.id k : Nat) : Int) == ((pre id k : Nat) : Int)) = false := by simp; omega
        have hno := Lib.hid (show ∀ f ∈ l.take (m + 1), pre f.id k ≠ pre id k by
          rw [HTK.out]
          intro f hf
          rcases List.mem_append.1 hf with hf | hf
          · exact HT.out f hf
          · rw [List.mem_singleton] at hf; subst hf; exact hp)
        clear hp
        go_wp2_with fail
        refine (prefix_any y.id k (by omega) hy _).mono ?_
        rintro e w' ⟨rfl, rfl⟩
        go_wp2_with fail
        refine (prefix_any id k (by omega) hid _).mono ?_
        rintro e w' ⟨rfl, rfl⟩
        go_wp2
        go_round
        case rel => exact ⟨m + 1, by omega, by go_num, hno.out⟩
        case measure => simp [intOf]; omega
    · have hno := Lib.hid (hasR_no (x := x) (show ∀ f ∈ l, pre f.id k ≠ pre id k by have := HT.out; rwa [List.take_of_length_le (by omega)] at this))
      have d1 : decide ((m : Int) < (l.length : Int)) = false := by simp; omega
      go_wp2
      go_returns
      exact ⟨by rw [hno.out]; rfl, rfl⟩
/-! ### Shared -/
/-- Has the key ahead the same node at level k? -/
def skipB (b : List RE) (m k : Nat) (e : RE) : Bool := match m with
  | 0 => false
  | n + 1 => match b[n]? with
    | some f => decide (pre f.id k = pre e.id k)
    | none => false
/-- What is counted at key m, level k: a node that a has too, or one that it hasn't; nothing, where the key ahead has the same node. -/
def step1 (a b : List RE) (m k : Nat) : Nat × Nat := match b[m]? with
  | none => (0, 0)
  | some e => if skipB b m k e then (0, 0) else if hasR a e.id k (e.s k) then (1, 0) else (0, 1)
def rowR (a b : List RE) (m : Nat) : Nat → Nat × Nat
  | 0 => (0, 0)
  | k + 1 => ((rowR a b m k).1 + (step1 a b m k).1, (rowR a b m k).2 + (step1 a b m k).2)
def totR (a b : List RE) : Nat → Nat × Nat
  | 0 => (0, 0)
  | m + 1 => ((totR a b m).1 + (rowR a b m 8).1, (totR a b m).2 + (rowR a b m 8).2)
theorem step1_le (a b : List RE) (m k : Nat) : (step1 a b m k).1 ≤ 1 ∧ (step1 a b m k).2 ≤ 1 := by
  unfold step1
  cases b[m]? with
  | none => simp
  | some e =>
    dsimp only
    cases skipB b m k e <;> cases hasR a e.id k (e.s k) <;> simp
theorem rowR_le (a b : List RE) (m : Nat) : ∀ k, (rowR a b m k).1 ≤ k ∧ (rowR a b m k).2 ≤ k
  | 0 => by simp [rowR]
  | k + 1 => by
    have := rowR_le a b m k
    have := step1_le a b m k
    simp only [rowR]
    omega
theorem totR_le (a b : List RE) : ∀ m, (totR a b m).1 ≤ 8 * m ∧ (totR a b m).2 ≤ 8 * m
  | 0 => by simp [totR]
  | m + 1 => by
    have := totR_le a b m
    have := rowR_le a b m 8
    simp only [totR]
    omega
set_option maxRecDepth 100000 in
set_option maxHeartbeats 4000000 in
theorem shared_r (ba bb : Nat) (a b : List RE) (w : World) (ha : RefAt w ba a) (hb : RefAt w bb b) (hla : a.length ≤ 1099511627776) (hlb : b.length ≤ 1099511627776) :
    Calls Tryd.prog 49 #[.pointer (some ⟨ba, 0, none⟩), .pointer (some ⟨bb, 0, none⟩)] w fun e w' => e = .returned (.tuple #[.int .i64 ((totR a b b.length).1 : Nat), .int .i64 ((totR a b b.length).2 : Nat)]) ∧ Below w.heap.size w w' := by
  have HA := Lib.hid ha
  have HB := Lib.hid hb
  clear ha hb
  go_enter Tryd.func49, Tryd.ntmps49
  go_wp2
  go_loopw [6, 7, 8, 38, 41] (fun p q i t u wr => ∃ m : Nat, m ≤ b.length ∧ i = .int .i64 (m : Int) ∧ p = .int .i64 ((totR a b m).1 : Nat) ∧ q = .int .i64 ((totR a b m).2 : Nat) ∧ (m = 0 → t = undef ∧ u = undef) ∧ Below w.heap.size w wr) (fun _ _ i _ _ _ => b.length - (intOf i).toNat)
  case atStart => exact ⟨0, by omega, rfl, rfl, rfl, fun _ => ⟨rfl, rfl⟩, Below.refl _ _⟩
  case round =>
    obtain ⟨m, hm, rfl, rfl, rfl, hu, hw⟩ := hrel
    obtain ⟨wo, rfl⟩ : ∃ wo, wo = wr := ⟨wr, rfl⟩
    have HU := Lib.hid hu
    have HW := Lib.hid hw
    have hle := totR_le a b m
    clear hu hw
    obtain ⟨ia, ic, va, vc, sa, sc, q1, q2, q3, q4⟩ := (HB.out.ext HW.out).cells
    have s0 := q1.cell (i := 0) rfl
    clear q1 q2 q3 q4
    by_cases hml : m < b.length
    · go_wp2
      go_loopw [6, 7, 9, 38, 41] (fun p q i t u wr => ∃ k : Nat, k ≤ 8 ∧ i = .int .i64 (k : Int) ∧ p = .int .i64 (((totR a b m).1 + (rowR a b m k).1 : Nat) : Int) ∧ q = .int .i64 (((totR a b m).2 + (rowR a b m k).2 : Nat) : Int) ∧ (m = 0 → t = undef ∧ u = undef) ∧ Below w.heap.size w wr) (fun _ _ i _ _ _ => 8 - (intOf i).toNat)
      case atStart => exact ⟨0, by omega, rfl, by simp [rowR], by simp [rowR], HU.out, HW.out⟩
      case round =>
        obtain ⟨k, hk, rfl, rfl, rfl, hu, hw⟩ := hrel
        have HU2 := Lib.hid hu
        have HW2 := Lib.hid hw
        have hle2 := rowR_le a b m k
        clear hu hw
        by_cases hk8 : k < 8
        · have d8 : decide ((k : Int) < 8) = true := by simp; omega
          obtain ⟨ia, ic, va, vc, sa, sc, q1, q2, q3, q4⟩ := (HB.out.ext HW2.out).cells
          have s0 := q1.cell (i := 0) rfl
          have s2 := q1.cell (i := 2) rfl
          have e1 : b[m]? = some b[m] := List.getElem?_eq_getElem hml
          generalize b[m] = y at e1
          have hy := HB.out.ids y (List.mem_of_getElem? e1)
          obtain ⟨g, o, rfl, hg, hc⟩ := rd_elt q2 e1
          have f1 := hc 0 _ rfl
          simp only [Nat.add_zero, Nat.mul_one] at f1
          obtain ⟨g3, o3, rfl, hg3, hc3⟩ := rd_elt q4 e1
          have f3 := hc3 k _ (encRS_get y k hk8)
          have HQ2 := Lib.hid q2
          have E1 := Lib.hid e1
          clear hc hc3 e1 q1 q2 q3 q4
          obtain ⟨sk, HSK⟩ : ∃ sk, Hid (skipB b m k y = sk) := ⟨_, Lib.hid rfl⟩
          go_wp2_with fail
          go_cut [46, 38, 41] (fun t t1 t2 wc => t = .bool sk ∧ (m = 0 → t1 = undef ∧ t2 = undef) ∧ Below w.heap.size w wc)
          case first =>
            cases m with
            | zero =>
              obtain ⟨hu1, hu2⟩ := HU2.out rfl
              subst hu1 hu2
              obtain rfl : false = sk := HSK.out
              have dz : decide ((0 : Int) < 0) = false := by simp
              go_wp2
              refine rgnH [[0, 1, 2, 3, 4, 5, 6, 7, 8, 9, 10, 11, 13, 14, 15, 17, 20, 16, 18, 19, 12], [21], [22, 23]] [1, 8, 22] [16, 19] [⟨bb, 0, none⟩, ⟨bb, 0, none⟩] (ord_fast (by kernel_rfl)) (by simp) ?_ ?_
              · intro p hp
                simp only [List.mem_cons, List.not_mem_nil, or_false, or_self] at hp
                rcases hp with rfl
                rw [s0]; rfl
              unfold seg
              simp only [pickL, List.getD_cons_zero, List.getD_cons_succ]
              go_wp2
              refine ⟨fun p _ => rfl, ?_⟩
              unfold seg
              simp only [pickL, List.getD_cons_zero, List.getD_cons_succ]
              go_wp2
              refine ⟨fun p _ => rfl, ?_⟩
              unfold seg
              simp only [pickL, List.getD_cons_zero, List.getD_cons_succ]
              go_wp2
              refine ⟨fun p _ => rfl, by simp [chkD, dyn, Region.wanted, yielded, Act.eval, scalarV], ⟨.inr rfl, .inr rfl, trivial⟩, ?_⟩
              go_wp2
              go_meet
              case rel => exact ⟨rfl, fun _ => ⟨rfl, rfl⟩, HW2.out.drew⟩
            | succ n =>
              have e0 : b[n]? = some (b[n]'(by omega)) := List.getElem?_eq_getElem (by omega)
              generalize (b[n]'(by omega)) = f at e0
              have hf := HB.out.ids f (List.mem_of_getElem? e0)
              obtain ⟨g', o', hgo, _, hc⟩ := rd_elt HQ2.out e0
              simp only [Option.some.injEq, Addr.mk.injEq, and_true] at hgo
              obtain ⟨rfl, rfl⟩ := hgo
              have f0 := hc 0 _ rfl
              simp only [Nat.add_zero, Nat.mul_one] at f0
              have dz : decide ((0 : Int) < ((n + 1 : Nat) : Int)) = true := by simp
              have dz2 : decide ((0 : Int) < (n : Int) + 1) = true := by simp
              have hsub : (((n + 1 : Nat) : Int) - 1) = (n : Int) := by omega
              have hsk : sk = decide (pre f.id k = pre y.id k) := by rw [← HSK.out]; unfold skipB; dsimp only; rw [e0]
              clear hc e0
              by_cases hp : pre f.id k = pre y.id k
              · have d2 : (((pre f.id k : Nat) : Int) == ((pre y.id k : Nat) : Int)) = true := by simp; omega
                have hs2 : Hid (sk = true) := Lib.hid (by rw [hsk]; simpa using hp)
                clear hp hsk
                go_wp2
                refine rgnH [[0, 1, 2, 3, 4, 5, 6, 7, 8, 9, 10, 11, 13, 14, 15, 17, 20, 16, 18, 19, 12], [21], [22, 23]] [1, 8, 22] [16, 19] [⟨bb, 0, none⟩, ⟨g, o + (n + 1), none⟩] (ord_fast (by kernel_rfl)) (by simp) ?_ ?_
                · intro p hp
                  simp only [List.mem_cons, List.not_mem_nil, or_false, or_self] at hp
                  rcases hp with rfl | rfl
                  · rw [s0]; rfl
                  · rw [f1]; rfl
                unfold seg
                simp only [pickL, List.getD_cons_zero, List.getD_cons_succ]
                go_wp2_with fail
                refine (prefix_any f.id k (by omega) hf _).mono ?_
                rintro e w' ⟨rfl, rfl⟩
                go_wp2
                refine ⟨fun p _ => rfl, ?_⟩
                unfold seg
                simp only [pickL, List.getD_cons_zero, List.getD_cons_succ]
                go_wp2_with fail
                refine (prefix_any y.id k (by omega) hy _).mono ?_
                rintro e w' ⟨rfl, rfl⟩
                go_wp2
                refine ⟨fun p _ => rfl, ?_⟩
                unfold seg
                simp only [pickL, List.getD_cons_zero, List.getD_cons_succ]
                go_wp2
                refine ⟨fun p _ => rfl, by simp [chkD, dyn, Region.wanted, yielded, Act.eval, scalarV], ⟨.inl rfl, .inl rfl, trivial⟩, ?_⟩
                go_wp2
                go_meet
                case rel => exact ⟨by rw [hs2.out], fun h => (by omega), HW2.out.drew⟩
              · have d2 : (((pre f.id k : Nat) : Int) == ((pre y.id k : Nat) : Int)) = false := by simp; omega
                have hs2 : Hid (sk = false) := Lib.hid (by rw [hsk]; simpa using hp)
                clear hp hsk
                go_wp2
                refine rgnH [[0, 1, 2, 3, 4, 5, 6, 7, 8, 9, 10, 11, 13, 14, 15, 17, 20, 16, 18, 19, 12], [21], [22, 23]] [1, 8, 22] [16, 19] [⟨bb, 0, none⟩, ⟨g, o + (n + 1), none⟩] (ord_fast (by kernel_rfl)) (by simp) ?_ ?_
                · intro p hp
                  simp only [List.mem_cons, List.not_mem_nil, or_false, or_self] at hp
                  rcases hp with rfl | rfl
                  · rw [s0]; rfl
                  · rw [f1]; rfl
                unfold seg
                simp only [pickL, List.getD_cons_zero, List.getD_cons_succ]
                go_wp2_with fail
                refine (prefix_any f.id k (by omega) hf _).mono ?_
                rintro e w' ⟨rfl, rfl⟩
                go_wp2
                refine ⟨fun p _ => rfl, ?_⟩
                unfold seg
                simp only [pickL, List.getD_cons_zero, List.getD_cons_succ]
                go_wp2_with fail
                refine (prefix_any y.id k (by omega) hy _).mono ?_
                rintro e w' ⟨rfl, rfl⟩
                go_wp2
                refine ⟨fun p _ => rfl, ?_⟩
                unfold seg
                simp only [pickL, List.getD_cons_zero, List.getD_cons_succ]
                go_wp2
                refine ⟨fun p _ => rfl, by simp [chkD, dyn, Region.wanted, yielded, Act.eval, scalarV], ⟨.inl rfl, .inl rfl, trivial⟩, ?_⟩
                go_wp2
                go_meet
                case rel => exact ⟨by rw [hs2.out], fun h => (by omega), HW2.out.drew⟩
          case rest =>
            obtain ⟨rfl, hu3, hw3⟩ := hcut
            obtain ⟨wQ, rfl⟩ : ∃ x, x = wc := ⟨wc, rfl⟩
            have HU3 := Lib.hid hu3
            have HW3 := Lib.hid hw3
            clear hu3 hw3 s0 s2 f1 f3
            cases sk with
            | true =>
              have hs1 := Lib.hid (show rowR a b m (k + 1) = rowR a b m k by simp [rowR, step1, E1.out, HSK.out])
              go_wp2
              go_roundw
              case rel => exact ⟨k + 1, by omega, by go_num, by rw [hs1.out], by rw [hs1.out], HU3.out, HW3.out⟩
              case measure => simp [intOf]; omega
            | false =>
              obtain ⟨ia, ic, va, vc, sa, sc, q1, q2, q3, q4⟩ := (HB.out.ext HW3.out).cells
              have s0 := q1.cell (i := 0) rfl
              have s2 := q1.cell (i := 2) rfl
              obtain ⟨g, o, rfl, hg, hc⟩ := rd_elt q2 E1.out
              have f1 := hc 0 _ rfl
              simp only [Nat.add_zero, Nat.mul_one] at f1
              obtain ⟨g3, o3, rfl, hg3, hc3⟩ := rd_elt q4 E1.out
              have f3 := hc3 k _ (encRS_get y k hk8)
              have HA2 := Lib.hid (HA.out.ext HW3.out.drew)
              clear hc hc3 q1 q2 q3 q4
              obtain ⟨hb, HHB⟩ : ∃ hb, Hid (hasR a y.id k (y.s k) = hb) := ⟨_, Lib.hid rfl⟩
              cases hb with
              | true =>
                have hs1 := Lib.hid (show rowR a b m (k + 1) = ((rowR a b m k).1 + 1, (rowR a b m k).2) by simp [rowR, step1, E1.out, HSK.out, HHB.out])
                go_wp2
                refine rgn [0, 1, 2, 3, 4, 5, 6, 7, 8, 9, 10, 11, 12, 13, 14, 15, 16, 17, 18] [] (ord_fast (by kernel_rfl)) ?_
                simp only [pickL, List.getD_cons_zero, List.getD_cons_succ]
                go_wp2_with fail
                refine (has_r ba y.id k (y.s k) a _ HA2.out hy hk8 hla).mono ?_
                rintro e w' ⟨rfl, rfl⟩
                rw [HHB.out]
                go_wp2
                refine ⟨rfl, ?_⟩
                go_wp2
                go_roundw
                case rel => exact ⟨k + 1, by omega, by go_num, by rw [hs1.out]; go_num, by rw [hs1.out]; go_num, HU3.out, HW3.out.drew⟩
                case measure => simp [intOf]; omega
              | false =>
                have hs1 := Lib.hid (show rowR a b m (k + 1) = ((rowR a b m k).1, (rowR a b m k).2 + 1) by simp [rowR, step1, E1.out, HSK.out, HHB.out])
                go_wp2
                refine rgn [0, 1, 2, 3, 4, 5, 6, 7, 8, 9, 10, 11, 12, 13, 14, 15, 16, 17, 18] [] (ord_fast (by kernel_rfl)) ?_
                simp only [pickL, List.getD_cons_zero, List.getD_cons_succ]
                go_wp2_with fail
                refine (has_r ba y.id k (y.s k) a _ HA2.out hy hk8 hla).mono ?_
                rintro e w' ⟨rfl, rfl⟩
                rw [HHB.out]
                go_wp2
                refine ⟨rfl, ?_⟩
                go_wp2
                go_roundw
                case rel => exact ⟨k + 1, by omega, by go_num, by rw [hs1.out]; go_num, by rw [hs1.out]; go_num, HU3.out, HW3.out.drew⟩
                case measure => simp [intOf]; omega
        · obtain rfl : k = 8 := by omega
          have hs1 := Lib.hid (show totR a b (m + 1) = ((totR a b m).1 + (rowR a b m 8).1, (totR a b m).2 + (rowR a b m 8).2) from rfl)
          go_wp2
          go_roundw
          case rel => exact ⟨m + 1, by omega, by go_num, by rw [hs1.out], by rw [hs1.out], fun h => (by omega), HW2.out⟩
          case measure => simp [intOf]; omega
    · obtain rfl : m = b.length := by omega
      go_wp2
      go_returns
      exact ⟨rfl, HW.out⟩
end Go.Proofs.YtihmhledogppmaaDoor
