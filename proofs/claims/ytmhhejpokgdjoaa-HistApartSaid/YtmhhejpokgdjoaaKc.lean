/- The walks of levylaw11.part, build. -/
import Derived.Test.YtmhhejpokgdjoaaKb
namespace Go.Proofs.Ytmhhejpokgdjoaa
open Go Go.RowKit
set_option linter.unusedVariables false
set_option linter.unusedSimpArgs false

def buildK (l : List E) (k : Nat) : List E := (l.take k).foldl (fun m e => laidL e.1 e.2 false m) []
def buildL (l : List E) : List E := buildK l 200
theorem buildK_succ {l : List E} {k : Nat} {x : E} (h : l[k]? = some x) : buildK l (k + 1) = laidL x.1 x.2 false (buildK l k) := by
  obtain ⟨hk, rfl⟩ := List.getElem?_eq_some_iff.1 h
  unfold buildK
  rw [List.take_succ_eq_append_getElem hk, List.foldl_append]
  rfl
theorem laidL_len' (k : Nat) (v : V) : ∀ (done : Bool) (l : List (Nat × V)), (laidL k v done l).length ≤ l.length + (if done then 0 else 1)
  | true, [] => by simp [laidL]
  | false, [] => by simp [laidL]
  | true, (a, u) :: l => by
    have h2 := laidL_len' k v true l
    rw [laidL_cons]
    simp only [Bool.true_eq_false, false_and, if_false, if_true, List.length_cons] at *
    split <;> (try simp only [List.length_cons]) <;> omega
  | false, (a, u) :: l => by
    have h1 := laidL_len' k v false l
    have h2 := laidL_len' k v true l
    rw [laidL_cons]
    simp only [Bool.false_eq_true, true_and, if_false, if_true, List.length_cons] at *
    split
    · omega
    · split <;> simp only [List.length_cons] <;> omega
theorem buildK_len (l : List E) : ∀ k, (buildK l k).length ≤ k
  | 0 => by simp [buildK]
  | k + 1 => by
    cases h : l[k]? with
    | none =>
      have : l.take (k + 1) = l.take k := by
        rw [List.take_of_length_le (by have := List.getElem?_eq_none_iff.1 h; omega), List.take_of_length_le (List.getElem?_eq_none_iff.1 h)]
      have h2 := buildK_len l k
      unfold buildK at *
      rw [this]; omega
    | some x =>
      rw [buildK_succ h]
      have := laidL_len' x.1 x.2 false (buildK l k)
      have := buildK_len l k
      simp only [Bool.false_eq_true, if_false] at *
      omega
theorem buildL_len (l : List E) : (buildL l).length ≤ 200 := buildK_len l 200
theorem buildK_min (l : List E) : buildK l (min l.length 200) = buildL l := by
  unfold buildL buildK
  congr 1
  rcases Nat.le_total l.length 200 with h | h
  · rw [Nat.min_eq_left h, List.take_of_length_le (Nat.le_refl _), List.take_of_length_le h]
  · rw [Nat.min_eq_right h]
set_option maxRecDepth 100000 in
theorem part_any (a : Option Addr) (c : Nat) (l : List E) (w : World) (h : Rd w 3 encL (.slice a l.length c) l) (hc : l.length ≤ c) :
    Calls Try.prog 42 #[.slice a l.length c] w fun e w' => e = .returned (.slice a (min l.length 200) c) ∧ w' = w := by
  go_enter Try.func42, Try.ntmps42
  go_wp2
  · go_returns
    refine ⟨?_, rfl⟩
    rw [Nat.min_eq_right (by omega)]
    rfl
  · go_returns
    refine ⟨?_, rfl⟩
    rw [Nat.min_eq_left (by omega)]
    rfl
/-- The slice v reads as the list l and is well made. -/
def RdF (w : World) (v : Value) (l : List E) : Prop := ∃ a c, v = .slice a l.length c ∧ l.length ≤ c ∧ Rd w 3 encL (.slice a l.length c) l
theorem RdF.ext {w w' : World} {v : Value} {l : List E} (h : RdF w v l) (hb : Below w.heap.size w w') : RdF w' v l := by
  obtain ⟨a, c, h1, h2, h3⟩ := h
  exact ⟨a, c, h1, h2, h3.ext hb⟩
set_option maxRecDepth 100000 in
set_option maxHeartbeats 800000 in
theorem build_any (v : Value) (l : List E) (w : World) (h : RdF w v l) (hid : ∀ x ∈ l, x.1 < 4294967296) :
    Calls Try.prog 15 #[v] w fun e w' => ∃ b, e = .returned (.pointer (some ⟨b, 0, none⟩)) ∧ MapL w' b (buildL l) ∧ Below w.heap.size w w' := by
  obtain ⟨a, c, rfl, hc, hr⟩ := h
  have HR := Lib.hid hr
  have HID := Lib.hid hid
  have hp := fun W (hW : Below w.heap.size w W) => part_any a c l W (hr.ext hW) hc
  have HP := Lib.hid hp
  have e1 := fun b W => eql_pm_nil ⟨b, 0, none⟩ W
  clear hr hid hp
  go_enter Try.func15, Try.ntmps15
  go_wp2_with fail
  refine (empty_l w).mono ?_
  rintro e w1 ⟨b0, rfl, hm, hb1⟩
  have M1 := Lib.hid hm
  have B1 := Lib.hid hb1
  clear hm hb1
  go_wp2_with fail
  refine (HP.out w1 B1.out).mono ?_
  rintro e w1' ⟨rfl, hw⟩
  subst hw
  obtain ⟨N, hN⟩ : ∃ N, N = min l.length 200 := ⟨_, rfl⟩
  have hN1 : N ≤ l.length := by omega
  have hN2 : N ≤ 200 := by omega
  have HN := Lib.hid hN
  rw [← hN]
  clear hN HP
  go_wp2
  go_loopw [3, 4] (fun m i wr => ∃ (k bm : Nat), i = .int .i64 (k : Int) ∧ k ≤ N ∧ m = .pointer (some ⟨bm, 0, none⟩) ∧ MapL wr bm (buildK l k) ∧ Below w.heap.size w wr) (fun _ i _ => N - (intOf i).toNat)
  case atStart => exact ⟨0, b0, rfl, by omega, rfl, M1.out, B1.out⟩
  case round =>
    obtain ⟨k, bm, rfl, hk, rfl, hm, hB⟩ := hrel
    by_cases hkn : k < N
    · have hkl : k < l.length := by omega
      have e2 : l[k]? = some l[k] := List.getElem?_eq_getElem hkl
      have hx := HID.out l[k] (List.getElem_mem hkl)
      have hsucc := buildK_succ e2
      obtain ⟨a', c', hs, hnil | ⟨g, o, rfl, hg, hcl⟩⟩ := HR.out
      · subst hnil; simp at hkl
      simp only [Value.slice.injEq, true_and] at hs
      obtain ⟨rfl, rfl⟩ := hs
      generalize l[k] = x at e2 hx hsucc
      obtain ⟨xi, ⟨xk, xn⟩⟩ := x
      have f0 := (hB.cell (p := ⟨g, _, none⟩) hg).trans (hcl k _ 0 _ e2 rfl)
      have f1 := (hB.cell (p := ⟨g, _, none⟩) hg).trans (hcl k _ 1 _ e2 rfl)
      have f2 := (hB.cell (p := ⟨g, _, none⟩) hg).trans (hcl k _ 2 _ e2 rfl)
      simp only [Nat.add_zero] at f0
      have hc := put_l bm xi (buildK l k) ⟨xk, xn⟩ wr.drew (hm.ext (Below.refl _ _).drew) (by have := buildK_len l k; omega) hx
      have HC := Lib.hid hc
      have HS := Lib.hid hsucc
      have HB := Lib.hid hB
      clear hcl e2 hc hsucc hB hm
      go_wp2
      refine rgn [0, 1, 2, 3, 4, 5, 6, 7, 8, 9, 10, 11, 12] [] (by kernel_rfl) ?_
      simp only [pickL, List.getD_cons_zero, List.getD_cons_succ]
      go_wp2_with fail
      refine HC.out.mono ?_
      rintro e w3 ⟨b', rfl, hm', hb3⟩
      have M3 := Lib.hid hm'
      have G3 := Lib.hid (HB.out.trans ((below_of_drew hb3).mono HB.out.size))
      clear hm' hb3 HC HB
      go_wp2
      refine ⟨rfl, ?_⟩
      go_wp2
      go_roundw
      case rel => exact ⟨k + 1, b', by go_num, by omega, rfl, by rw [HS.out]; exact M3.out, G3.out⟩
      case measure => simp [intOf]; omega
    · have hno : decide ((k : Int) < (N : Int)) = false := by simp; omega
      have hkN : k = N := by omega
      have HB := Lib.hid hB
      have hm2 : MapL wr bm (buildL l) := by rw [← buildK_min, ← HN.out, ← hkN]; exact hm
      have M3 := Lib.hid hm2
      clear hB hm hm2
      go_wp2
      go_returns
      exact ⟨bm, rfl, M3.out, HB.out⟩
end Go.Proofs.Ytmhhejpokgdjoaa
