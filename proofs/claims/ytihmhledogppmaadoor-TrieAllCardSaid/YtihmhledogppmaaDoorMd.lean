/- The walk of levylaw3.made: a map of puts and drops, and the one behind the first n of them. -/
import Derived.Test.YtihmhledogppmaaDoorKn
namespace Go.Proofs.YtihmhledogppmaaDoor
open Go Go.RowKit
set_option linter.unusedVariables false
set_option linter.unusedSimpArgs false

set_option maxRecDepth 100000 in
set_option maxHeartbeats 800000 in
/-- Whatever is kept by each step: k puts and drops are done, the map is at b, the one behind the first n at c. -/
theorem made_gen (vl : Value) (lp : List PutL) (n : Int) (w : World) (hl : Rd w 4 putCells vl lp) (St : World → Nat → Nat → Nat → Prop)
    (h0 : Calls Tryd.prog 10 #[] w fun e w' => ∃ b, e = .returned (.pointer (some ⟨b, 0, none⟩)) ∧ St w' 0 b b)
    (hb : ∀ W k b c, St W k b c → Below w.heap.size w W)
    (hs : ∀ W k b c x, lp[k]? = some x → k < 200 → St W k b c → Calls Tryd.prog 12 #[.pointer (some ⟨b, 0, none⟩), .agg (putCells x).toArray] W fun e w' =>
      ∃ b', e = .returned (.pointer (some ⟨b', 0, none⟩)) ∧ St w' (k + 1) b' (if ((k : Int) + 1 == n) = true then b' else c)) :
    Calls Tryd.prog 19 #[vl, .int .i64 n] w fun e w' =>
      ∃ b c, e = .returned (.tuple #[.pointer (some ⟨b, 0, none⟩), .pointer (some ⟨c, 0, none⟩)]) ∧ St w' (min lp.length 200) b c := by
  obtain ⟨la, lc, rfl, hl⟩ := hl
  have HL := Lib.hid hl
  have H0 := Lib.hid h0
  have HB := Lib.hid hb
  have HS := Lib.hid hs
  clear hl h0 hb hs
  go_enter Tryd.func19, Tryd.ntmps19
  go_wp2_with (go_at_call 10; refine H0.out.mono ?_; rintro e w1 ⟨b0, rfl, s0⟩)
  have S0 := Lib.hid s0
  clear s0
  go_loopw [6, 7, 8] (fun m c i wr => ∃ (k : Nat) (bm bc : Nat), i = .int .i64 (k : Int) ∧ k ≤ lp.length ∧ k ≤ 200 ∧ m = .pointer (some ⟨bm, 0, none⟩) ∧ c = .pointer (some ⟨bc, 0, none⟩) ∧ St wr k bm bc) (fun _ _ i _ => 200 - (intOf i).toNat)
  case atStart => exact ⟨0, b0, b0, rfl, by omega, by omega, rfl, rfl, S0.out⟩
  case round =>
    obtain ⟨k, bm, bc, rfl, hkl, hk2, rfl, rfl, hst⟩ := hrel
    have ST := Lib.hid hst
    by_cases hlt : k < lp.length
    · by_cases h60 : k < 200
      · have e1 : lp[k]? = some lp[k] := List.getElem?_eq_getElem hlt
        have hB := HB.out _ _ _ _ hst
        have hc := HS.out _ _ _ _ _ e1 h60 hst
        rcases HL.out with hnil | ⟨lb, lo, rfl, hlb, hcl⟩
        · subst hnil; simp at hlt
        generalize lp[k] = x at e1 hc
        obtain ⟨xid, ⟨xk, xn⟩, xg⟩ := x
        have f0 := (hB.cell (p := ⟨lb, _, none⟩) hlb).trans (hcl k _ 0 _ e1 rfl)
        have f1 := (hB.cell (p := ⟨lb, _, none⟩) hlb).trans (hcl k _ 1 _ e1 rfl)
        have f2 := (hB.cell (p := ⟨lb, _, none⟩) hlb).trans (hcl k _ 2 _ e1 rfl)
        have f3 := (hB.cell (p := ⟨lb, _, none⟩) hlb).trans (hcl k _ 3 _ e1 rfl)
        simp only [Nat.add_zero] at f0
        have HC := Lib.hid hc
        clear hcl e1 hc hst
        by_cases hn : ((k : Int) + 1 == n) = true
        · have hc := HC.out
          simp only [if_pos hn] at hc
          have HD := Lib.hid hc
          clear hc HC
          go_wp2_with (go_at_call 12; refine HD.out.mono ?_; rintro e w2 ⟨b2, rfl, s2⟩; have S2 := Lib.hid s2; clear s2)
          go_roundw
          case rel => exact ⟨k + 1, b2, b2, by go_num, by omega, by omega, rfl, rfl, S2.out⟩
          case measure => simp [intOf]; omega
        · have hc := HC.out
          simp only [if_neg hn] at hc
          have HD := Lib.hid hc
          clear hc HC
          have hn' : ((k : Int) + 1 == n) = false := by simpa using hn
          clear hn
          go_wp2_with (go_at_call 12; refine HD.out.mono ?_; rintro e w2 ⟨b2, rfl, s2⟩; have S2 := Lib.hid s2; clear s2)
          go_roundw
          case rel => exact ⟨k + 1, b2, bc, by go_num, by omega, by omega, rfl, rfl, S2.out⟩
          case measure => simp [intOf]; omega
      · have hno : decide ((k : Int) < 200) = false := by simp; omega
        clear hst
        go_wp2
        go_returns
        exact ⟨bm, bc, rfl, by rw [show min lp.length 200 = k by omega]; exact ST.out⟩
    · have hno : decide ((k : Int) < (lp.length : Int)) = false := by simp; omega
      clear hst
      go_wp2
      go_returns
      exact ⟨bm, bc, rfl, by rw [show min lp.length 200 = k by omega]; exact ST.out⟩
/-- The entries behind k puts and drops. -/
def madeL (lp : List PutL) (k : Nat) : List (Nat × V) := (lp.take k).foldl (fun l x => laidL x.id x.v x.gone l) []
theorem madeL_succ {lp : List PutL} {k : Nat} {x : PutL} (h : lp[k]? = some x) : madeL lp (k + 1) = laidL x.id x.v x.gone (madeL lp k) := by
  obtain ⟨hk, rfl⟩ := List.getElem?_eq_some_iff.1 h
  unfold madeL
  rw [← List.take_append_getElem hk, List.foldl_append]
  rfl
theorem laidL_len' (k : Nat) (v : V) : ∀ (done : Bool) (l : List (Nat × V)), (laidL k v done l).length ≤ l.length + (if done then 0 else 1)
  | true, [] => by simp [laidL]
  | false, [] => by simp [laidL]
  | true, (a, u) :: l => by
    have h2 := laidL_len' k v true l
    rw [laidL_cons]
    simp only [Bool.true_eq_false, false_and, if_false, if_true, List.length_cons] at *
    split <;> (try simp only [List.length_cons]) <;> omega
  | false, (a, u) :: l => by
    have h1 := laidL_len' k v false l
    have h2 := laidL_len' k v true l
    rw [laidL_cons]
    simp only [Bool.false_eq_true, true_and, if_false, if_true, List.length_cons] at *
    split
    · omega
    · split <;> simp only [List.length_cons] <;> omega
theorem laidL_len (k : Nat) (v : V) (done : Bool) (l : List (Nat × V)) : (laidL k v done l).length ≤ l.length + 1 :=
  Nat.le_trans (laidL_len' k v done l) (by split <;> omega)
theorem madeL_len (lp : List PutL) : ∀ k, (madeL lp k).length ≤ k
  | 0 => by simp [madeL]
  | k + 1 => by
    cases h : lp[k]? with
    | none =>
      have : lp.take (k + 1) = lp.take k := by
        rw [List.take_of_length_le (by have := List.getElem?_eq_none_iff.1 h; omega), List.take_of_length_le (List.getElem?_eq_none_iff.1 h)]
      have h2 := madeL_len lp k
      unfold madeL at *
      rw [this]; omega
    | some x =>
      rw [madeL_succ h]
      exact Nat.le_trans (laidL_len _ _ _ _) (Nat.succ_le_succ (madeL_len lp k))
def atL (lp : List PutL) (n : Int) (k : Nat) : List (Nat × V) := if 1 ≤ n ∧ n ≤ (k : Int) then madeL lp n.toNat else []
theorem made_l (vl : Value) (lp : List PutL) (n : Int) (w : World) (hl : Rd w 4 putCells vl lp) (hid : ∀ x ∈ lp, x.id < 4294967296) :
    Calls Tryd.prog 19 #[vl, .int .i64 n] w fun e w' =>
      ∃ b c, e = .returned (.tuple #[.pointer (some ⟨b, 0, none⟩), .pointer (some ⟨c, 0, none⟩)]) ∧ MapL w' b (madeL lp (min lp.length 200)) ∧ MapL w' c (atL lp n (min lp.length 200)) ∧ Below w.heap.size w w' := by
  refine (made_gen vl lp n w hl (fun W k b c => MapL W b (madeL lp k) ∧ MapL W c (atL lp n k) ∧ Below w.heap.size w W) ?_ (fun W k b c h => h.2.2) ?_)
  · refine (empty_l w).mono ?_
    rintro e w' ⟨b, rfl, h1, h2⟩
    refine ⟨b, rfl, h1, ?_, h2⟩
    have : atL lp n 0 = [] := by unfold atL; rw [if_neg (by omega)]
    rw [this]; exact h1
  · rintro W k b c x hx hk ⟨h1, h2, h3⟩
    refine (one_l b _ x W h1 (by have := madeL_len lp k; omega) (hid x (List.mem_of_getElem? hx))).mono ?_
    rintro e w' ⟨b', rfl, g1, g2⟩
    rw [← madeL_succ hx] at g1
    refine ⟨b', rfl, g1, ?_, h3.trans (g2.mono h3.size)⟩
    by_cases hn : ((k : Int) + 1 == n) = true
    · rw [if_pos hn]
      have hn' : (k : Int) + 1 = n := by simpa using hn
      have : atL lp n (k + 1) = madeL lp (k + 1) := by
        unfold atL
        rw [if_pos (by omega)]
        congr 1; omega
      rw [this]; exact g1
    · rw [if_neg hn]
      have hn' : ¬ (k : Int) + 1 = n := by simpa using hn
      have : atL lp n (k + 1) = atL lp n k := by
        unfold atL
        by_cases hk1 : 1 ≤ n ∧ n ≤ (k : Int)
        · rw [if_pos hk1, if_pos (by omega)]
        · rw [if_neg hk1, if_neg (by omega)]
      rw [this]; exact h2.ext g2
end Go.Proofs.YtihmhledogppmaaDoor
