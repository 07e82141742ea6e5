/- The walks of trie.digit, Empty, Len, Get. -/
import Derived.Test.YtmhhejpokgdjoaaTrA
import Derived.Test.YtmhhejpokgdjoaaRegE
import Derived.Test.YtmhhejpokgdjoaaRows
import Derived.ProofKit
import Derived.Handy
import Derived.WalkSmall
import Derived.Deep.Draws
import Derived.Lib.Hide
namespace Go.Proofs.Ytmhhejpokgdjoaa
open Go Go.RowKit
set_option linter.unusedVariables false
set_option linter.unusedSimpArgs false

theorem dg_bits (key d : Nat) (hd : d ≤ 7) (hk : key < 4294967296) : wrap64 (bits BinOp.and IntKind.u32 ((key : Int) / 2 ^ (28 - 4 * (7 - d))) 15) = ((dg key d : Nat) : Int) := by
  have e : 28 - 4 * (7 - d) = 4 * d := by omega
  have e2 : ((key : Int) / 2 ^ (4 * d)) = ((key / 16 ^ d : Nat) : Int) := by
    rw [Int.pow_mul]; norm_cast
  have hle := Nat.div_le_self key (16 ^ d)
  rw [e, e2]
  have h15 : bits BinOp.and IntKind.u32 ((key / 16 ^ d : Nat) : Int) ((15 : Nat) : Int) = ((key / 16 ^ d &&& 15 : Nat) : Int) := u32_and_nat _ _ (by omega) (by omega)
  have hm : key / 16 ^ d &&& 15 = key / 16 ^ d % 16 := Nat.and_two_pow_sub_one_eq_mod _ 4
  rw [show (15 : Int) = ((15 : Nat) : Int) from rfl, h15, hm]
  unfold wrap64 dg
  omega
theorem digit_any (key d : Nat) (l : Int) (w : World) (hl : l + d = 7) (hd : d ≤ 7) (hk : key < 4294967296) :
    Calls Try.prog 66 #[.int .u32 key, .int .i64 l] w fun e w' => e = .returned (.int .i64 (dg key d : Nat)) ∧ w = w' := by
  obtain rfl : l = ((7 - d : Nat) : Int) := by omega
  have h0 : (0 : Int) ≤ ((7 - d : Nat) : Int) := by omega
  have h1 : ((7 - d : Nat) : Int) ≤ 7 := by omega
  go_enter Try.func66, Try.ntmps66
  go_wp2
  go_ret
  refine ⟨?_, rfl⟩
  simp
  exact dg_bits key d hd hk
def Tr.mapCells (t : Tr 8) (n : Nat) : List Value := [t.ptr, .int .i64 n]
theorem empty_any (w : World) : Calls Try.prog 41 #[] w fun e w' => e = .returned (.pointer (some ⟨w.heap.size, 0, none⟩)) ∧ Holds w' w.heap.size ((Tr.nil : Tr 8).mapCells 0) ∧ Below w.heap.size w w' ∧ w'.heap.size = w.heap.size + 1 := by
  go_enter Try.func41, Try.ntmps41
  go_wp2
  go_ret
  exact ⟨rfl, ⟨_, heap_alloc_new _ _⟩, (Below.refl _ _).alloc (Nat.le_refl _) _, by simp⟩
def gv (o : Option V) : V := o.getD ⟨0, 0⟩
set_option maxRecDepth 100000 in
set_option maxHeartbeats 400000 in
theorem get_any (b n key : Nat) (t : Tr 8) (w : World) (h : Holds w b (t.mapCells n)) (ht : t.at w) (hk : key < 4294967296) :
    Calls Try.prog 45 #[.pointer (some ⟨b, 0, none⟩), .int .u32 key] w fun e w' => e = .returned (.tuple #[.agg #[.int .i64 (gv (t.get key)).k, .int .i64 (gv (t.get key)).n], .bool (t.get key).isSome]) ∧ Below w.heap.size w w' := by
  have h0 := h.cell (i := 0) rfl
  have hlt := h.lt
  go_enter Try.func45, Try.ntmps45
  go_wp2
  go_loopw [6, 7] (fun n l wr => ∃ (d lv : Nat) (t' : Tr (d + 1)), lv + d = 7 ∧ n = t'.ptr ∧ l = .int .i64 (lv : Int) ∧ t'.at w ∧ t'.get key = t.get key ∧ ∃ k, wr = (w.alloc (.cells #[.int .i64 0, .int .i64 0] 50)).drewN k)
    (fun n l wr => 8 - (intOf l).toNat)
  case atStart => exact ⟨7, 0, t, rfl, rfl, rfl, ht, rfl, 0, rfl⟩
  case round =>
    obtain ⟨d, lv, t', hlv, rfl, rfl, ha, hg, k, rfl⟩ := hrel
    have hdig := dg_lt key d
    have HG := Lib.hid hg
    clear hg
    cases t' with
    | none =>
      rw [Tr.ptr_none]
      have hz : t.get key = none := HG.out.symm.trans (Tr.get_none key)
      go_wp2
      go_returns
      refine ⟨by rw [hz]; rfl, ?_⟩
      (repeat' (first | (with_reducible exact Below.refl _ _) | (with_reducible assumption) | (with_reducible refine below_drewN ?_ _) | (with_reducible refine Below.drew ?_) | (with_reducible refine Below.alloc ?_ ?_ _) | (with_reducible refine Below.setCell ?_ ?_ _) | (with_reducible exact Below.size (by assumption)) | go_size))
    | some p =>
      obtain ⟨bn, f⟩ := p
      have hdF : (dF key d).val = dg key d := rfl
      have hbn := ha.1.lt
      rw [Tr.ptr_some]
      cases d with
      | zero =>
        obtain rfl : lv = 7 := by omega
        have hc := ha.1.cell (leaf_cell f (dF key 0))
        rw [hdF] at hc
        clear hdF
        have hav := ha.2 (dF key 0)
        have hz : t.get key = Tr.get (f (dF key 0)) key := HG.out.symm
        generalize f (dF key 0) = leaf at *
        cases leaf with
        | none =>
          have hp : Tr.ptr (d := 0) none = .pointer none := rfl
          rw [hp] at hc
          have HZ := Lib.hid hz
          clear hz hp
          go_wp2
          refine rgn [0, 1, 2, 4, 5, 3, 6, 7, 8] [] (by kernel_rfl) ?_
          simp only [pickL, List.getD_cons_zero, List.getD_cons_succ]
          go_wp2_with (go_at_call 66; refine (digit_any key 0 _ _ (by omega) (by omega) hk).mono ?_; rintro e w' ⟨rfl, rfl⟩)
          refine ⟨rfl, ?_⟩
          go_wp2
          go_returns
          refine ⟨by rw [HZ.out]; rfl, ?_⟩
          (repeat' (first | (with_reducible exact Below.refl _ _) | (with_reducible assumption) | (with_reducible refine below_drewN ?_ _) | (with_reducible refine Below.drew ?_) | (with_reducible refine Below.alloc ?_ ?_ _) | (with_reducible refine Below.setCell ?_ ?_ _) | (with_reducible exact Below.size (by assumption)) | go_size))
        | some p =>
          obtain ⟨bv, v⟩ := p
          have hp : Tr.ptr (d := 0) (some (bv, v)) = .pointer (some ⟨bv, 0, none⟩) := rfl
          rw [hp] at hc
          have h1 := Holds.cell hav (i := 0) rfl
          have h2 := Holds.cell hav (i := 1) rfl
          have hbv := Holds.lt hav
          have HZ := Lib.hid hz
          clear hz hp
          go_wp2
          refine rgn [0, 1, 2, 4, 5, 3, 6, 7, 8] [] (by kernel_rfl) ?_
          simp only [pickL, List.getD_cons_zero, List.getD_cons_succ]
          go_wp2_with (go_at_call 66; refine (digit_any key 0 _ _ (by omega) (by omega) hk).mono ?_; rintro e w' ⟨rfl, rfl⟩)
          refine ⟨rfl, ?_⟩
          go_wp2
          go_returns
          refine ⟨by rw [HZ.out]; rfl, ?_⟩
          (repeat' (first | (with_reducible exact Below.refl _ _) | (with_reducible assumption) | (with_reducible refine below_drewN ?_ _) | (with_reducible refine Below.drew ?_) | (with_reducible refine Below.alloc ?_ ?_ _) | (with_reducible refine Below.setCell ?_ ?_ _) | (with_reducible exact Below.size (by assumption)) | go_size))
      | succ d =>
        have hc := ha.1.cell (kids_cell f (dF key (d + 1)))
        rw [hdF] at hc
        clear hdF
        have hz : (f (dF key (d + 1))).get key = t.get key := HG.out
        have HK := ha.2 (dF key (d + 1))
        generalize f (dF key (d + 1)) = kid at *
        have h7 : ((lv : Int) == 7) = false := by simp; omega
        go_wp2
        refine rgn [0, 1, 2, 4, 5, 3, 6, 7, 8] [] (by kernel_rfl) ?_
        simp only [pickL, List.getD_cons_zero, List.getD_cons_succ]
        go_wp2_with (go_at_call 66; refine (digit_any key (d + 1) _ _ (by omega) (by omega) hk).mono ?_; rintro e w' ⟨rfl, rfl⟩)
        refine ⟨rfl, ?_⟩
        go_wp2
        go_roundw
        case rel => exact ⟨d, lv + 1, kid, by omega, rfl, by go_num, HK, hz, k + 1, rfl⟩
        case measure => simp [intOf]; omega
end Go.Proofs.Ytmhhejpokgdjoaa
