/- The walks of the law's small helpers: sameValue, sameEntries. -/
import Derived.Test.YtihmhledogppmaaDoorTrX
import Derived.Test.YtihmhledogppmaaDoorWk
namespace Go.Proofs.YtihmhledogppmaaDoor
open Go Go.RowKit
set_option linter.unusedVariables false
set_option linter.unusedSimpArgs false

def encL (e : Nat × V) : List Value := [.int .u32 (e.1 : Nat), .int .i64 e.2.k, .int .i64 e.2.n]
theorem encL_len (e : Nat × V) : (encL e).length = 3 := rfl
theorem sameValue_any (x y : V) (w : World) : Calls Tryd.prog 18 #[.agg #[.int .i64 x.k, .int .i64 x.n], .agg #[.int .i64 y.k, .int .i64 y.n]] w fun e w' =>
    e = .returned (.bool (decide (x = y))) ∧ Below w.heap.size w w' := by
  obtain ⟨a, b⟩ := x
  obtain ⟨c, d⟩ := y
  have hd : decide ((⟨a, b⟩ : V) = ⟨c, d⟩) = (a == c && b == d) := by
    rw [Bool.eq_iff_iff]; simp
  rw [hd]
  clear hd
  by_cases h : a = c
  · subst h
    go_enter Tryd.func18, Tryd.ntmps18
    go_wp2
    go_returns
    refine ⟨by simp, ?_⟩
    (repeat' (first | (with_reducible exact Below.refl _ _) | (with_reducible assumption) | (with_reducible refine below_drewN ?_ _) | (with_reducible refine Below.drew ?_) | (with_reducible refine Below.alloc ?_ ?_ _) | (with_reducible refine Below.setCell ?_ ?_ _) | (with_reducible exact Below.size (by assumption)) | go_size))
  · have h' : (a == c) = false := by simpa using h
    go_enter Tryd.func18, Tryd.ntmps18
    go_wp2
    go_returns
    refine ⟨by simp [h'], ?_⟩
    (repeat' (first | (with_reducible exact Below.refl _ _) | (with_reducible assumption) | (with_reducible refine below_drewN ?_ _) | (with_reducible refine Below.drew ?_) | (with_reducible refine Below.alloc ?_ ?_ _) | (with_reducible refine Below.setCell ?_ ?_ _) | (with_reducible exact Below.size (by assumption)) | go_size))
set_option maxRecDepth 100000 in
set_option maxHeartbeats 400000 in
theorem sameEntries_any (v1 v2 : Value) (l1 l2 : List (Nat × V)) (w : World) (h1 : Rd w 3 encL v1 l1) (h2 : Rd w 3 encL v2 l2) (hn : l1.length ≤ 4294967296) (hn2 : l2.length ≤ 4294967296) :
    Calls Tryd.prog 15 #[v1, v2] w fun e w' => e = .returned (.bool (decide (l1 = l2))) ∧ Below w.heap.size w w' := by
  obtain ⟨a1, c1, rfl, h1⟩ := h1
  obtain ⟨a2, c2, rfl, h2⟩ := h2
  by_cases hlen : l1.length = l2.length
  · rcases h1 with rfl | ⟨b1, o1, rfl, hl1, hc1⟩
    · obtain rfl : l2 = [] := List.length_eq_zero_iff.1 hlen.symm
      go_enter Tryd.func15, Tryd.ntmps15
      go_wp2
      refine wp_loop_once ?_
      go_wp2
      go_returns
      exact ⟨rfl, Below.refl _ _⟩
    rcases h2 with rfl | ⟨b2, o2, rfl, hl2, hc2⟩
    · obtain rfl : l1 = [] := List.length_eq_zero_iff.1 hlen
      go_enter Tryd.func15, Tryd.ntmps15
      go_wp2
      refine wp_loop_once ?_
      go_wp2
      go_returns
      exact ⟨rfl, Below.refl _ _⟩
    have HL := Lib.hid hlen
    rw [← hlen]
    clear hlen
    go_enter Tryd.func15, Tryd.ntmps15
    go_wp2
    go_loopw [5] (fun i wr => ∃ k : Nat, k ≤ l1.length ∧ i = .int .i64 (k : Int) ∧ l1.take k = l2.take k ∧ Below w.heap.size w wr) (fun i _ => l1.length - (intOf i).toNat)
    case atStart => exact ⟨0, by omega, rfl, rfl, Below.refl _ _⟩
    case round =>
      obtain ⟨k, hk, rfl, htk, hb⟩ := hrel
      have HT := Lib.hid htk
      clear htk
      by_cases hlt : k < l1.length
      · have e1 : l1[k]? = some l1[k] := List.getElem?_eq_getElem hlt
        have e2 : l2[k]? = some (l2[k]'(by have := HL.out; omega)) := List.getElem?_eq_getElem (by have := HL.out; omega)
        generalize l1[k] = x at e1
        generalize (l2[k]'(by have := HL.out; omega)) = y at e2
        have f0 := (hb.cell (p := ⟨b1, _, none⟩) hl1).trans (hc1 k x 0 _ e1 rfl)
        have f1 := (hb.cell (p := ⟨b1, _, none⟩) hl1).trans (hc1 k x 1 _ e1 rfl)
        have f2 := (hb.cell (p := ⟨b1, _, none⟩) hl1).trans (hc1 k x 2 _ e1 rfl)
        have g0 := (hb.cell (p := ⟨b2, _, none⟩) hl2).trans (hc2 k y 0 _ e2 rfl)
        have g1 := (hb.cell (p := ⟨b2, _, none⟩) hl2).trans (hc2 k y 1 _ e2 rfl)
        have g2 := (hb.cell (p := ⟨b2, _, none⟩) hl2).trans (hc2 k y 2 _ e2 rfl)
        have E1 := Lib.hid e1
        have E2 := Lib.hid e2
        clear e1 e2 hc1 hc2
        simp only [Nat.add_zero] at f0 g0
        have hb3 : ∀ {w' : World}, Below wr.drew.heap.size wr.drew w' → Below w.heap.size w w' := fun h => hb.trans ((below_of_drew h).mono hb.size)
        have hne : x ≠ y → l1 ≠ l2 := fun h e => h (by have a := E1.out; have b := E2.out; rw [e, b] at a; exact (Option.some.inj a).symm)
        by_cases hxy : x.1 = y.1
        · have hq : (((x.1 : Nat) : Int) != ((y.1 : Nat) : Int)) = false := by simp [hxy]
          by_cases hv : x.2 = y.2
          · have hdv : decide (x.2 = y.2) = true := decide_eq_true hv
            have heq : l1.take (k + 1) = l2.take (k + 1) := by
              rw [List.take_add_one, List.take_add_one, HT.out, E1.out, E2.out, show x = y from Prod.ext hxy hv]
            have HQ := Lib.hid heq
            clear heq hv hxy
            go_wp2
            refine rgn [0, 1, 2, 3, 4, 5, 6, 7, 8, 9, 10, 11, 12, 13, 14, 15, 16, 17, 18, 19, 20, 21, 22, 23, 24] [10] (by kernel_rfl) ?_
            simp only [pickL, List.getD_cons_zero, List.getD_cons_succ]
            go_wp2_with (go_at_call 18; refine (sameValue_any _ _ _).mono ?_; rintro e w' ⟨rfl, hb2⟩)
            refine ⟨rfl, ?_⟩
            go_wp2
            go_roundw
            case rel => exact ⟨k + 1, by omega, by go_num, HQ.out, hb3 hb2⟩
            case measure => simp [intOf]; omega
          · have hdv : decide (x.2 = y.2) = false := decide_eq_false hv
            have hno := Lib.hid (decide_eq_false (hne fun e => hv (by rw [e])))
            clear hv hxy hne
            go_wp2
            refine rgn [0, 1, 2, 3, 4, 5, 6, 7, 8, 9, 10, 11, 12, 13, 14, 15, 16, 17, 18, 19, 20, 21, 22, 23, 24] [10] (by kernel_rfl) ?_
            simp only [pickL, List.getD_cons_zero, List.getD_cons_succ]
            go_wp2_with (go_at_call 18; refine (sameValue_any _ _ _).mono ?_; rintro e w' ⟨rfl, hb2⟩)
            refine ⟨rfl, ?_⟩
            go_wp2
            go_returns
            exact ⟨by rw [hno.out]; rfl, hb3 hb2⟩
        · have hq : (((x.1 : Nat) : Int) != ((y.1 : Nat) : Int)) = true := by simp; omega
          have hno := Lib.hid (decide_eq_false (hne fun e => hxy (by rw [e])))
          clear hxy hne
          go_wp2
          refine rgn [0, 1, 2, 3, 4, 5, 6, 7, 8, 9, 10, 11, 12, 13, 14, 15, 16, 17, 18, 19, 20, 21, 22, 23, 24] [10] (by kernel_rfl) ?_
          simp only [pickL, List.getD_cons_zero, List.getD_cons_succ]
          go_wp2
          refine ⟨rfl, ?_⟩
          go_wp2
          go_returns
          exact ⟨by rw [hno.out]; rfl, hb.drew⟩
      · have hall : l1 = l2 := by
          have := HT.out
          rwa [List.take_of_length_le (by omega), List.take_of_length_le (by have := HL.out; omega)] at this
        have hyes := Lib.hid (decide_eq_true hall)
        clear hall
        go_wp2
        go_returns
        exact ⟨by rw [hyes.out]; rfl, hb⟩
  · have hno := Lib.hid (decide_eq_false (fun e : l1 = l2 => hlen (by rw [e])))
    have hq : (((l1.length : Nat) : Int) != ((l2.length : Nat) : Int)) = true := by simp; omega
    clear hlen h1 h2
    go_enter Tryd.func15, Tryd.ntmps15
    go_wp2
    go_returns
    exact ⟨by rw [hno.out]; rfl, Below.refl _ _⟩
end Go.Proofs.YtihmhledogppmaaDoor
