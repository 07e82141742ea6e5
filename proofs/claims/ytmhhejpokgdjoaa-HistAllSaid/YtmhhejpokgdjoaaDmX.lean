/- The walk of trie.differ over two trees that hold the same: it tells nothing. · The walk of trie.Diff: what it hands out. · What differs between two trees, as data, in the order in which it is told; what a yield owes that leaves foreign blocks alone. · The walk of trie.differ at the lowest level, to whatever yield. · trie.differ over any two trees, but for what it does where the first has no node and the other has. · trie.differ where the first tree has no node: a range over below. · What differs between two trees: the plain law. No program. · The walk of trie.Diff's iterator over any two maps, to whatever yield: what is told is difs. · A range over an iterator that turns blocks of its own between its rounds: what the loop keeps beside it abides such turns. -/
import Derived.Test.YtmhhejpokgdjoaaTo
import Derived.Test.YtmhhejpokgdjoaaTrX
import Derived.Test.YtmhhejpokgdjoaaSwX
import Derived.RangeFuncNested
import Derived.RangeFuncBound
import Derived.RangeFuncCalls
import Derived.RangeFuncLeaves
namespace Go.Proofs.Ytmhhejpokgdjoaa
open Go Go.RowKit
set_option linter.unusedVariables false
set_option linter.unusedSimpArgs false

theorem leaf_any (a : Tr 1) (k : Fin 16) (w : World) (h : a.at w) : Calls Try.prog 82 #[a.ptr, .int .i64 (k.val : Nat)] w fun e w' => e = .returned (a.kid k).ptr ∧ w = w' := by
  cases a with
  | none =>
    rw [Tr.ptr_none]
    go_enter Try.func82, Try.ntmps82
    go_wp2
    go_returns
    exact ⟨rfl, rfl⟩
  | some p =>
    obtain ⟨b, f⟩ := p
    rw [Tr.ptr_some]
    have hc : w.cell? ⟨b, 16 + k.val, none⟩ = some (f k).ptr := Holds.cell h.1 (leaf_cell f k)
    rw [show Tr.kid (d := 0) (some (b, f)) k = f k from rfl]
    generalize (f k).ptr = v at hc ⊢
    obtain ⟨k, hk⟩ := k
    dsimp only at hc ⊢
    clear h
    go_enter Try.func82, Try.ntmps82
    go_wp2
    go_returns
    exact ⟨rfl, rfl⟩
/-- Two trees that hold the same. -/
def Alike {d : Nat} (a b : Tr d) : Prop := ∀ k, a.get k = b.get k
theorem alike_kid {d : Nat} {a b : Tr (d + 1)} (h : Alike a b) (i : Fin 16) : Alike (a.kid i) (b.kid i) := by
  intro k
  have hp : 0 < 16 ^ d := Nat.pow_pos (by decide)
  have hd : dF (i.val * 16 ^ d + k % 16 ^ d) d = i := by
    apply Fin.ext
    show (i.val * 16 ^ d + k % 16 ^ d) / 16 ^ d % 16 = i.val
    rw [Nat.mul_comm, Nat.mul_add_div hp, Nat.div_eq_of_lt (Nat.mod_lt _ hp), Nat.add_zero, Nat.mod_eq_of_lt i.isLt]
  have hm : (i.val * 16 ^ d + k % 16 ^ d) % 16 ^ d = k % 16 ^ d := by
    rw [Nat.mul_comm, Nat.mul_add_mod, Nat.mod_mod]
  have := h (i.val * 16 ^ d + k % 16 ^ d)
  have e : ∀ t : Tr (d + 1), t.get (i.val * 16 ^ d + k % 16 ^ d) = (t.kid i).get k := by
    intro t
    show (t.kid (dF (i.val * 16 ^ d + k % 16 ^ d) d)).get _ = _
    rw [hd, ← Tr.get_mod (t.kid i), hm, Tr.get_mod]
  rw [e a, e b] at this
  exact this
theorem cl_some {d : Nat} {b : Tr d} (hc : b.Cl) (hb : b.blk ≠ none) : ∃ k, (b.get k).isSome = true := by
  have h := Tr.cl_ents 0 hc hb
  cases he : b.ents 0 with
  | nil => exact absurd he h
  | cons x l =>
    obtain ⟨r, _, _, hg⟩ := (Tr.mem_ents b 0 x.1 x.2).1 (by rw [he]; exact List.mem_cons_self)
    exact ⟨r, by rw [hg]; rfl⟩
theorem alike_nil {d : Nat} {b : Tr (d + 1)} (h : Alike (d := d + 1) none b) (hc : b.Cl) : b = none := by
  cases b with
  | none => rfl
  | some p =>
    obtain ⟨k, hk⟩ := cl_some (d := d + 1) (b := some p) hc (by simp [Tr.blk])
    rw [← h k, Tr.get_none] at hk
    cases hk
theorem alike_val {a b : Tr 0} (h : Alike a b) : val0 a = val0 b := h 0
theorem alike_symm {d : Nat} {a b : Tr d} (h : Alike a b) : Alike b a := fun k => (h k).symm
set_option maxRecDepth 100000 in
set_option maxHeartbeats 1600000 in
theorem differ_eq (o : Option Addr) (fn : Fn) (fst cap : Array Value) (lv : Int) (head : Nat) (w : World) (hE : ∀ w, (binOp .eql 97 (.pointer o) (.pointer o)).run Try.prog w = .ok (.bool true) w) :
    Calls Try.prog 72 #[.pointer o, .pointer o, .int .i64 lv, .int .u32 (head : Nat), .func fn fst cap] w fun e w' => e = .returned (.bool true) ∧ Below w.heap.size w w' := by
  go_enter Try.func72, Try.ntmps72
  go_wp2
  have hc := ((two_blocks w [.func fn fst cap] [.bool true] 138 4).2.2).cell (i := 0) rfl
  have hb := (two_blocks w [.func fn fst cap] [.bool true] 138 4).1
  refine bodyPost_ret (v := .bool true) (by simp [results, Try.results72, go_sem]) rfl ?_
  exact ⟨rfl, hb⟩
set_option maxRecDepth 100000 in
set_option maxHeartbeats 1600000 in
theorem differ_low (ba bb : Nat) (f g : Fin 16 → Tr 0) (fn : Fn) (fst cap : Array Value) (head : Nat) (w : World) (ha : Tr.at (d := 1) w (some (ba, f))) (hb : Tr.at (d := 1) w (some (bb, g))) (hne : ba ≠ bb) (hal : ∀ i, Alike (f i) (g i)) (hh : head + 16 ≤ 4294967296) :
    Calls Try.prog 72 #[.pointer (some ⟨ba, 0, none⟩), .pointer (some ⟨bb, 0, none⟩), .int .i64 7, .int .u32 (head : Nat), .func fn fst cap] w fun e w' => e = .returned (.bool true) ∧ Below w.heap.size w w' := by
  obtain ⟨b0, r0, c0⟩ := two_blocks w [.func fn fst cap] [.bool false] 138 4
  have hE := eql_node (some (ba, f) : Tr 1) bb _ _ (Tr.at_ext b0 ha) (hb.1.ext b0) (by simpa [Tr.blk] using hne)
  rw [Tr.ptr_some] at hE
  have HA := Lib.hid ha
  have HB := Lib.hid hb
  have HAL := Lib.hid hal
  have B0 := Lib.hid b0
  have R0 := Lib.hid r0
  have C0 := Lib.hid c0
  clear ha hb hne hal b0 r0 c0
  go_enter Try.func72, Try.ntmps72
  go_wp2
  go_loopw [44] (fun i wr => ∃ k : Nat, i = .int .i64 (k : Int) ∧ k ≤ 16 ∧ Below w.heap.size w wr ∧ Holds wr w.heap.size [.func fn fst cap] ∧ Holds wr (w.heap.size + 1) [.bool false]) (fun i _ => 16 - (intOf i).toNat)
  case atStart => exact ⟨0, rfl, by omega, B0.out, R0.out, C0.out⟩
  case round =>
    obtain ⟨k, rfl, hk, hB, hR, hC⟩ := hrel
    by_cases hk16 : k < 16
    · have hA1 := Tr.at_ext hB HA.out
      have hB1 := Tr.at_ext hB HB.out
      have h1 := leaf_any (some (ba, f) : Tr 1) ⟨k, hk16⟩ wr hA1
      have h2 := leaf_any (some (bb, g) : Tr 1) ⟨k, hk16⟩ wr hB1
      rw [Tr.ptr_some, show Tr.kid (d := 0) (some (ba, f)) ⟨k, hk16⟩ = f ⟨k, hk16⟩ from rfl] at h1
      rw [Tr.ptr_some, show Tr.kid (d := 0) (some (bb, g)) ⟨k, hk16⟩ = g ⟨k, hk16⟩ from rfl] at h2
      dsimp only at h1 h2
      have hl1 := Lib.hid h1
      have hl2 := Lib.hid h2
      have hv := alike_val (HAL.out ⟨k, hk16⟩)
      have hto := told_any (head + k) (f ⟨k, hk16⟩) (g ⟨k, hk16⟩) wr (hA1.2 _) (hB1.2 _)
      rw [hv, decide_eq_false (by simp)] at hto
      simp only [chCells] at hto
      have HTO := Lib.hid hto
      have HBw := Lib.hid hB
      have HRw := Lib.hid hR
      have HCw := Lib.hid hC
      clear hA1 hB1 hv hto hB hR hC h1 h2
      go_wp2_with fail
      refine hl1.out.mono ?_
      rintro e w1 ⟨rfl, rfl⟩
      go_wp2_with fail
      refine hl2.out.mono ?_
      rintro e w1 ⟨rfl, rfl⟩
      generalize Tr.ptr (f ⟨k, hk16⟩) = pf at HTO ⊢
      generalize Tr.ptr (g ⟨k, hk16⟩) = pg at HTO ⊢
      go_wp2_with fail
      refine HTO.out.mono ?_
      rintro e w2 ⟨rfl, hb2⟩
      have H2 := Lib.hid (HBw.out.trans (hb2.mono HBw.out.size))
      have R2 := Lib.hid (HRw.out.ext hb2)
      have C2 := Lib.hid (HCw.out.ext hb2)
      clear hb2 HBw HRw HCw hl1 hl2 HTO
      go_wp2
      go_roundw
      case rel => exact ⟨k + 1, by go_num, by omega, H2.out.alloc H2.out.size _, R2.out.ext ((Below.refl _ _).alloc (Nat.le_refl _) _), C2.out.ext ((Below.refl _ _).alloc (Nat.le_refl _) _)⟩
      case measure => simp [intOf]; omega
    · obtain rfl : k = 16 := by omega
      have hf := hC.free 0
      have hc := hC.cell (i := 0) rfl
      have HBw := Lib.hid hB
      have hd := hC.setCell (i := 0) (.bool true)
      have hcc := hd.cell (i := 0) rfl
      go_wp2
      refine bodyPost_ret (v := .bool true) (by simp [results, Try.results72, go_sem, hcc]) rfl ?_
      exact ⟨rfl, HBw.out.trans ((Upd.setCell _).below (by omega))⟩
set_option maxRecDepth 100000 in
set_option maxHeartbeats 1600000 in
theorem differ_high {d : Nat} (ba bb : Nat) (f g : Fin 16 → Tr (d + 1)) (fn : Fn) (fst cap : Array Value) (lv head : Nat) (w : World) (hlv : lv + (d + 1) = 7) (ha : Tr.at (d := d + 2) w (some (ba, f))) (hb : Tr.at (d := d + 2) w (some (bb, g))) (hne : ba ≠ bb)
    (ih : ∀ (i : Fin 16) (h : Nat) (W : World), Below w.heap.size w W → h + 16 ^ (d + 1) ≤ 4294967296 → Calls Try.prog 72 #[(f i).ptr, (g i).ptr, .int .i64 ((lv : Int) + 1), .int .u32 (h : Nat), .func fn fst cap] W fun e w' => e = .returned (.bool true) ∧ Below W.heap.size W w')
    (hh : head + 16 ^ (d + 2) ≤ 4294967296) :
    Calls Try.prog 72 #[.pointer (some ⟨ba, 0, none⟩), .pointer (some ⟨bb, 0, none⟩), .int .i64 (lv : Nat), .int .u32 (head : Nat), .func fn fst cap] w fun e w' => e = .returned (.bool true) ∧ Below w.heap.size w w' := by
  obtain ⟨b0, r0, c0⟩ := two_blocks w [.func fn fst cap] [.bool false] 138 4
  have hE := eql_node (some (ba, f) : Tr (d + 2)) bb _ _ (Tr.at_ext b0 ha) (hb.1.ext b0) (by simpa [Tr.blk] using hne)
  rw [Tr.ptr_some] at hE
  have hl6 : lv ≤ 6 := by omega
  obtain ⟨S, hS⟩ : ∃ S, S = 16 ^ (d + 1) := ⟨_, rfl⟩
  have hS1 : 1 ≤ S := by rw [hS]; exact Nat.one_le_pow _ _ (by decide)
  have h16 : 16 ^ (d + 2) = 16 * S := by rw [hS, Nat.pow_succ, Nat.mul_comm]
  rw [h16] at hh
  rw [← hS] at ih
  have HL := Lib.hid hlv
  have HS := Lib.hid hS
  have HA := Lib.hid ha
  have HB := Lib.hid hb
  have IH := Lib.hid ih
  have B0 := Lib.hid b0
  have R0 := Lib.hid r0
  have C0 := Lib.hid c0
  clear ha hb hne ih b0 r0 c0 hlv hS h16
  go_enter Try.func72, Try.ntmps72
  go_wp2
  rw [span_eq lv d HL.out, ← HS.out]
  go_loopw [44] (fun i wr => ∃ k : Nat, i = .int .i64 (k : Int) ∧ k ≤ 16 ∧ Below w.heap.size w wr ∧ Holds wr w.heap.size [.func fn fst cap] ∧ Holds wr (w.heap.size + 1) [.bool false]) (fun i _ => 16 - (intOf i).toNat)
  case atStart => exact ⟨0, rfl, by omega, B0.out, R0.out, C0.out⟩
  case round =>
    obtain ⟨k, rfl, hk, hB, hR, hC⟩ := hrel
    by_cases hk16 : k < 16
    · obtain ⟨M, hM⟩ : ∃ M, M = k * S := ⟨_, rfl⟩
      have hM16 : M + S ≤ 16 * S := by
        rw [hM]
        have := Nat.mul_le_mul_right S (show k + 1 ≤ 16 by omega)
        rw [Nat.add_mul, Nat.one_mul] at this
        exact this
      have hMi : (k : Int) * (S : Int) = (M : Int) := by rw [hM]; norm_cast
      have hy := hR.cell (i := 0) rfl
      have hlt := hR.lt
      have HM := Lib.hid hM
      have HBw := Lib.hid hB
      have HRw := Lib.hid hR
      have HCw := Lib.hid hC
      clear hM hB hR hC
      have h1 := child_any (some (ba, f) : Tr (d + 2)) ⟨k, hk16⟩ wr.drew (Tr.at_ext HBw.out.drew HA.out)
      have h2 := child_any (some (bb, g) : Tr (d + 2)) ⟨k, hk16⟩ wr.drew (Tr.at_ext HBw.out.drew HB.out)
      rw [Tr.ptr_some, show kp (d := d + 1) (some (ba, f)) ⟨k, hk16⟩ = (f ⟨k, hk16⟩).ptr from kp_kid (d := d) (some (ba, f)) ⟨k, hk16⟩] at h1
      rw [Tr.ptr_some, show kp (d := d + 1) (some (bb, g)) ⟨k, hk16⟩ = (g ⟨k, hk16⟩).ptr from kp_kid (d := d) (some (bb, g)) ⟨k, hk16⟩] at h2
      dsimp only at h1 h2
      have h3 := IH.out ⟨k, hk16⟩ (head + M) wr.drew HBw.out.drew (by omega)
      have hl1 := Lib.hid h1
      have hl2 := Lib.hid h2
      generalize Tr.ptr (f ⟨k, hk16⟩) = pf at hl1 h3
      generalize Tr.ptr (g ⟨k, hk16⟩) = pg at hl2 h3
      have hl3 := Lib.hid h3
      clear h1 h2 h3
      have SM : ∀ X, Below wr.heap.size wr X → SameAt [⟨w.heap.size, 0, none⟩] wr X := by
        intro X hX p hp
        simp only [List.mem_singleton] at hp
        subst hp
        exact hX.cell hlt
      go_wp2_with fail
      refine rgnH [[0, 1, 3, 4, 6, 7, 8, 9, 2], [5], [10], [11]] [7] [9] [⟨w.heap.size, 0, none⟩] (by kernel_rfl) (by simp) ?_ ?_
      · intro p hp
        simp only [List.mem_singleton] at hp
        subst hp
        rw [hy]; rfl
      unfold seg
      simp only [pickL, List.getD_cons_zero, List.getD_cons_succ]
      go_wp2_with fail
      refine hl1.out.mono ?_
      rintro e w1 ⟨rfl, rfl⟩
      go_wp2
      refine ⟨SM _ (Below.refl _ _).drew, ?_⟩
      unfold seg
      simp only [pickL, List.getD_cons_zero, List.getD_cons_succ]
      go_wp2_with fail
      refine hl2.out.mono ?_
      rintro e w1 ⟨rfl, rfl⟩
      go_wp2
      refine ⟨SM _ (Below.refl _ _).drew, ?_⟩
      unfold seg
      simp only [pickL, List.getD_cons_zero, List.getD_cons_succ]
      go_wp2_with fail
      refine hl3.out.mono ?_
      rintro e w2 ⟨rfl, hb2⟩
      have hb2' : Below wr.heap.size wr w2 := below_of_drew hb2
      have H2 := Lib.hid (HBw.out.trans (hb2'.mono HBw.out.size))
      have R2 := Lib.hid (HRw.out.ext hb2')
      have C2 := Lib.hid (HCw.out.ext hb2')
      go_wp2
      refine ⟨SM _ hb2', ?_⟩
      unfold seg
      simp only [pickL, List.getD_cons_zero, List.getD_cons_succ]
      go_wp2
      refine ⟨SM _ hb2', ?_, ⟨.inl rfl, trivial⟩, ?_⟩
      · simp [chkD, dyn, Region.wanted, yielded, Act.eval, scalarV, nilC]
      clear hb2 hb2' SM HBw HRw HCw hl1 hl2 hl3
      go_wp2
      go_roundw
      case rel => exact ⟨k + 1, by go_num, by omega, H2.out, R2.out, C2.out⟩
      case measure => simp [intOf]; omega
    · obtain rfl : k = 16 := by omega
      have hf := hC.free 0
      have hc := hC.cell (i := 0) rfl
      have HBw := Lib.hid hB
      have hd := hC.setCell (i := 0) (.bool true)
      have hcc := hd.cell (i := 0) rfl
      go_wp2
      refine bodyPost_ret (v := .bool true) (by simp [results, Try.results72, go_sem, hcc]) rfl ?_
      exact ⟨rfl, HBw.out.trans ((Upd.setCell _).below (by omega))⟩
theorem eql_nn {P : Program} {tp te : TypeId} (hp : P.underlying tp = some (.pointer te)) (w : World) : (binOp .eql tp (.pointer none) (.pointer none)).run P w = .ok (.bool true) w := by
  have h : ∀ d : Nat, (Op.equalIn (d + 1) tp (.pointer none) (.pointer none)).run P w = .ok true w := fun d => by
    simp [Op.equalIn, run_underlying hp]
  simp only [binOp]
  simp [Op.equal, Op.maxDepth, h 9999]
theorem differ_same (fn : Fn) (fst cap : Array Value) : ∀ (d : Nat) (a b : Tr (d + 1)) (lv head : Nat) (w : World), lv + d = 7 → a.at w → b.at w → a.Cl → b.Cl → Alike a b → head + 16 ^ (d + 1) ≤ 4294967296 →
    Calls Try.prog 72 #[a.ptr, b.ptr, .int .i64 (lv : Nat), .int .u32 (head : Nat), .func fn fst cap] w fun e w' => e = .returned (.bool true) ∧ Below w.heap.size w w'
  | d, none, b, lv, head, w, hl, ha, hb, hca, hcb, hal, hh => by
    have : b = none := alike_nil hal hcb
    subst this
    exact differ_eq none fn fst cap lv head w (fun w => eql_nn und_pn w)
  | d, some p, none, lv, head, w, hl, ha, hb, hca, hcb, hal, hh => by
    have := alike_nil (alike_symm hal) hca
    cases this
  | 0, some (ba, f), some (bb, g), lv, head, w, hl, ha, hb, hca, hcb, hal, hh => by
    by_cases hne : ba = bb
    · subst hne
      exact differ_eq _ fn fst cap lv head w (fun w => eql_self ba w)
    · obtain rfl : lv = 7 := by omega
      exact differ_low ba bb f g fn fst cap head w ha hb hne (fun i => alike_kid hal i) (by simpa using hh)
  | d + 1, some (ba, f), some (bb, g), lv, head, w, hl, ha, hb, hca, hcb, hal, hh => by
    by_cases hne : ba = bb
    · subst hne
      exact differ_eq _ fn fst cap lv head w (fun w => eql_self ba w)
    · refine differ_high ba bb f g fn fst cap lv head w hl ha hb hne (fun i h W hW hhW => ?_) hh
      have := differ_same fn fst cap d (f i) (g i) (lv + 1) h W (by omega) (Tr.at_ext hW (ha.2 i)) (Tr.at_ext hW (hb.2 i)) (hca.2 i) (hcb.2 i) (alike_kid hal i) hhW
      simpa using this
end Go.Proofs.Ytmhhejpokgdjoaa
namespace Go.Proofs.Ytmhhejpokgdjoaa
open Go Go.RowKit
set_option linter.unusedVariables false

def diffV (B1 B2 : Nat) : Value := .func (.func 71) #[] #[.pointer (some ⟨B1, 0, none⟩), .pointer (some ⟨B2, 0, none⟩)]
theorem diff_any (ba bb : Nat) (w : World) : Calls Try.prog 53 #[.pointer (some ⟨ba, 0, none⟩), .pointer (some ⟨bb, 0, none⟩)] w fun e w' =>
    e = .returned (diffV w.heap.size (w.heap.size + 1)) ∧ Below w.heap.size w w' ∧ Holds w' w.heap.size [.pointer (some ⟨ba, 0, none⟩)] ∧ Holds w' (w.heap.size + 1) [.pointer (some ⟨bb, 0, none⟩)] := by
  go_enter Try.func53, Try.ntmps53
  go_wp2
  go_returns
  exact ⟨rfl, two_blocks w [.pointer (some ⟨ba, 0, none⟩)] [.pointer (some ⟨bb, 0, none⟩)] _ _⟩
end Go.Proofs.Ytmhhejpokgdjoaa
namespace Go.Proofs.Ytmhhejpokgdjoaa
open Go Go.RowKit
set_option linter.unusedVariables false

abbrev Ch := Nat × Option V × Option V
def chE (c : Ch) : Array Value := #[.agg (chCells c.1 c.2.1 c.2.2).toArray]
def difs : {d : Nat} → Tr d → Tr d → Nat → List Ch
  | 0, a, b, h => if val0 a = val0 b then [] else [(h, val0 a, val0 b)]
  | d + 1, a, b, h => allF.flatMap fun i => difs (a.kid i) (b.kid i) (h + i.val * 16 ^ d)
def difsK {d : Nat} (a b : Tr (d + 1)) (h k : Nat) : List Ch := (allF.take k).flatMap fun i => difs (a.kid i) (b.kid i) (h + i.val * 16 ^ d)
theorem difsK_zero {d : Nat} (a b : Tr (d + 1)) (h : Nat) : difsK a b h 0 = [] := rfl
theorem difsK_succ {d : Nat} (a b : Tr (d + 1)) (h k : Nat) (hk : k < 16) : difsK a b h (k + 1) = difsK a b h k ++ difs (a.kid ⟨k, hk⟩) (b.kid ⟨k, hk⟩) (h + k * 16 ^ d) := by
  unfold difsK
  have hl : k < allF.length := by simpa [allF] using hk
  have he : allF[k] = ⟨k, hk⟩ := by simp [allF]
  rw [List.take_succ_eq_append_getElem hl, List.flatMap_append, he]
  simp
theorem difsK_all {d : Nat} (a b : Tr (d + 1)) (h : Nat) : difsK a b h 16 = difs a b h := by
  unfold difsK
  rw [List.take_of_length_le (by simp [allF])]
  rfl
theorem difs_split {d : Nat} (a b : Tr (d + 1)) (h k : Nat) (hk : k < 16) : ∃ q, difs a b h = difsK a b h k ++ difs (a.kid ⟨k, hk⟩) (b.kid ⟨k, hk⟩) (h + k * 16 ^ d) ++ q := by
  refine ⟨(allF.drop (k + 1)).flatMap fun i => difs (a.kid i) (b.kid i) (h + i.val * 16 ^ d), ?_⟩
  rw [← difsK_succ]
  unfold difsK
  rw [← List.flatMap_append, List.take_append_drop]
  rfl
/-- Trees that hold the same: nothing differs. -/
theorem difs_alike : ∀ {d : Nat} (a b : Tr d) (h : Nat), Alike a b → difs a b h = []
  | 0, a, b, h, hal => if_pos (alike_val hal)
  | d + 1, a, b, h, hal => by
    show allF.flatMap _ = []
    rw [List.flatMap_eq_nil_iff]
    exact fun i _ => difs_alike _ _ _ (alike_kid hal i)
theorem difs_self {d : Nat} (a : Tr d) (h : Nat) : difs a a h = [] := difs_alike a a h fun _ => rfl
/-- From nothing: all that is there. -/
theorem difs_nil : ∀ {d : Nat} (b : Tr d) (h : Nat), difs (Tr.nil : Tr d) b h = (b.ents h).map fun e => (e.1, none, some e.2)
  | 0, none, h => rfl
  | 0, some (b, v), h => rfl
  | d + 1, none, h => by
    show allF.flatMap _ = []
    rw [List.flatMap_eq_nil_iff]
    intro i _
    exact difs_alike _ _ _ (fun _ => rfl)
  | d + 1, some (b, f), h => by
    show (allF.flatMap fun i => difs Tr.nil (f i) (h + i.val * 16 ^ d)) = (allF.flatMap fun i => (f i).ents (h + i.val * 16 ^ d)).map _
    rw [List.map_flatMap]
    congr 1
    funext i
    exact difs_nil (f i) _

/-- What a yield owes that leaves the blocks of Q alone. -/
def YdF {α : Type} (P : Program) (Y : Value) (enc : α → Array Value) (xs : List α) (Inv Brk : List α → (Nat → Prop) → World → Prop) : Prop :=
  ∀ pre x post, xs = pre ++ x :: post → ∀ Q W, Inv pre Q W →
    CallV P Y (enc x) W fun e W' => (∀ k, Q k → W'.heap[k]? = W.heap[k]?) ∧ W.heap.size ≤ W'.heap.size ∧ ((e = .returned (.bool true) ∧ Inv (pre ++ [x]) Q W') ∨ (e = .returned (.bool false) ∧ Brk (pre ++ [x]) Q W'))
/-- Inv hangs on its own blocks alone: whatever else turns, and whatever is new, is foreign. -/
structure Abide {α : Type} (Inv : List α → (Nat → Prop) → World → Prop) : Prop where
  turn : ∀ pre Q W W', Inv pre Q W → (∀ k, k < W.heap.size → ¬ Q k → W'.heap[k]? = W.heap[k]?) → W.heap.size ≤ W'.heap.size → W'.os = W.os → W'.tape = W.tape → W'.output = W.output → Inv pre (fun k => Q k ∨ (W.heap.size ≤ k ∧ k < W'.heap.size)) W'
  less : ∀ pre (Q Q' : Nat → Prop) W, Inv pre Q W → (∀ k, Q' k → Q k) → Inv pre Q' W
theorem Abide.below {α : Type} {Inv : List α → (Nat → Prop) → World → Prop} (h : Abide Inv) {pre : List α} {Q : Nat → Prop} {W W' : World} (hi : Inv pre Q W) (hb : Below W.heap.size W W') : Inv pre (fun k => Q k ∨ (W.heap.size ≤ k ∧ k < W'.heap.size)) W' :=
  h.turn pre Q W W' hi (fun k hk _ => hb.block k hk) hb.size hb.os hb.tape hb.output
theorem Abide.upd {α : Type} {Inv : List α → (Nat → Prop) → World → Prop} (h : Abide Inv) {pre : List α} {Q : Nat → Prop} {W W' : World} {g : Nat} (hi : Inv pre Q W) (hu : Upd g W W') (hg : Q g) : Inv pre Q W' :=
  h.less pre _ Q W' (h.turn pre Q W W' hi (fun k _ hq => hu.block k (fun e => hq (by rw [e]; exact hg))) (Nat.le_of_eq hu.size.symm) hu.os hu.tape hu.output) fun k hk => .inl hk
end Go.Proofs.Ytmhhejpokgdjoaa
namespace Go.Proofs.Ytmhhejpokgdjoaa
open Go Go.RowKit
set_option linter.unusedVariables false
set_option linter.unusedSimpArgs false
attribute [local go_sem] Oper.semAt_some

/-- What lies in Q is left alone. -/
def FrQ (Q : Nat → Prop) (w w' : World) : Prop := (∀ k, Q k → w'.heap[k]? = w.heap[k]?) ∧ w.heap.size ≤ w'.heap.size
theorem FrQ.refl (Q : Nat → Prop) (w : World) : FrQ Q w w := ⟨fun _ _ => rfl, Nat.le_refl _⟩
theorem FrQ.trans {Q : Nat → Prop} {a b c : World} (h : FrQ Q a b) (k : FrQ Q b c) : FrQ Q a c := ⟨fun i hi => (k.1 i hi).trans (h.1 i hi), Nat.le_trans h.2 k.2⟩
theorem FrQ.less {Q Q' : Nat → Prop} {a b : World} (h : FrQ Q a b) (hq : ∀ k, Q' k → Q k) : FrQ Q' a b := ⟨fun i hi => h.1 i (hq i hi), h.2⟩
theorem FrQ.below {Q : Nat → Prop} {a b : World} (h : Below a.heap.size a b) (hq : ∀ k, Q k → k < a.heap.size) : FrQ Q a b := ⟨fun i hi => h.block i (hq i hi), h.size⟩
theorem FrQ.holds {Q : Nat → Prop} {a b : World} {g : Nat} {cs : List Value} (h : FrQ Q a b) (hg : Q g) (hh : Holds a g cs) : Holds b g cs := by
  obtain ⟨ty, h1⟩ := hh
  exact ⟨ty, (h.1 g hg).trans h1⟩
theorem FrQ.tree {Q : Nat → Prop} {a b : World} (h : FrQ Q a b) : ∀ {d : Nat} {t : Tr d}, t.at a → t.all Q → t.at b
  | 0, none, _, _ => trivial
  | 0, some (g, v), ht, hq => h.holds hq ht
  | d + 1, none, _, _ => trivial
  | d + 1, some (g, f), ht, hq => ⟨h.holds hq.1 ht.1, fun i => h.tree (ht.2 i) (hq.2 i)⟩
/-- What a telling over es comes to, when pre has been told. -/
def WentF {α : Type} (Inv Brk : List α → (Nat → Prop) → World → Prop) (pre es : List α) (Q : Nat → Prop) (w : World) (e : Ending) (w' : World) : Prop :=
  FrQ Q w w' ∧ ((e = .returned (.bool true) ∧ Inv (pre ++ es) Q w') ∨ (e = .returned (.bool false) ∧ ∃ p x q, es = p ++ x :: q ∧ Brk (pre ++ p ++ [x]) Q w'))
set_option maxRecDepth 100000 in
set_option maxHeartbeats 4000000 in
theorem differ_lowF (fn : Fn) (fst cap : Array Value) (xs : List Ch) (Inv Brk : List Ch → (Nat → Prop) → World → Prop) (hY : YdF Try.prog (.func fn fst cap) chE xs Inv Brk) (hI : Abide Inv) (hK : Abide Brk)
    (ba : Nat) (a b : Tr 1) (hap : a.ptr = .pointer (some ⟨ba, 0, none⟩)) (head : Nat) (pre post : List Ch) (Q : Nat → Prop) (w : World) (hQ : ∀ k, Q k → k < w.heap.size) (ha : a.at w) (hb : b.at w) (haQ : a.all Q) (hbQ : b.all Q)
    (hne : ∀ W, FrQ Q w W → (binOp .eql 97 (.pointer (some ⟨ba, 0, none⟩)) b.ptr).run Try.prog W = .ok (.bool false) W)
    (hx : xs = pre ++ difs a b head ++ post) (hh : head + 16 ≤ 4294967296) (h0 : Inv pre Q w) :
    Calls Try.prog 72 #[.pointer (some ⟨ba, 0, none⟩), b.ptr, .int .i64 7, .int .u32 (head : Nat), .func fn fst cap] w (WentF Inv Brk pre (difs a b head) Q w) := by
  obtain ⟨b0, r0, c0⟩ := two_blocks w [.func fn fst cap] [.bool false] 138 4
  obtain ⟨Q1, hQ1⟩ : ∃ Q1 : Nat → Prop, Q1 = fun k => Q k ∨ (w.heap.size ≤ k ∧ k < ((w.alloc (.cells #[.func fn fst cap] 138)).alloc (.cells #[.bool false] 4)).heap.size) := ⟨_, rfl⟩
  have hI1 := hI.below h0 b0
  have f0 := FrQ.below b0 hQ
  have hne0 := hne _ f0
  obtain ⟨ob, hob⟩ : ∃ o : Option Addr, b.ptr = .pointer o := ⟨_, rfl⟩
  have HOB := Lib.hid hob
  rw [hob] at hne0 ⊢
  have B0 := Lib.hid b0
  have R0 := Lib.hid r0
  have C0 := Lib.hid c0
  have HA := Lib.hid ha
  have HB := Lib.hid hb
  have HAQ := Lib.hid haQ
  have HBQ := Lib.hid hbQ
  have I1 := Lib.hid hI1
  have F0 := Lib.hid f0
  have HX := Lib.hid hx
  have HQ := Lib.hid hQ
  clear b0 r0 c0 ha hb haQ hbQ hI1 f0 hne hob hx h0 hQ
  refine (callsIn_wide (n := 0)).1 (callsIn_of_wp Try.func72 rfl trivial ?_)
  simp only [Try.ntmps72, List.size_toArray, List.length_cons, List.length_nil, Nat.reduceAdd, Nat.reduceSub, Array.replicate_succ, Array.replicate_zero, List.push_toArray, List.append_toArray, List.nil_append, List.cons_append]
  gi_wp2
  obtain ⟨W0, hW0⟩ : ∃ W0, W0 = (w.alloc (.cells #[.func fn fst cap] 138)).alloc (.cells #[.bool false] 4) := ⟨_, rfl⟩
  have HW0 := Lib.hid hW0
  gi_loopw [44] (fun i wr => ∃ k : Nat, k ≤ 16 ∧ i = .int .i64 (k : Int) ∧ FrQ Q1 W0 wr ∧ Inv (pre ++ difsK a b head k) Q1 wr) (fun i _ => 16 - (intOf i).toNat)
  case atStart => exact ⟨0, by omega, rfl, by rw [HW0.out]; exact FrQ.refl _ _, by rw [difsK_zero, List.append_nil, hQ1]; exact I1.out⟩
  case round =>
    obtain ⟨k, hk, rfl, hF, hIk⟩ := hrel
    have hq1 : ∀ j, Q j → Q1 j := fun j hj => by rw [hQ1]; exact .inl hj
    have hsz : W0.heap.size = w.heap.size + 2 := by rw [HW0.out]; simp
    have hFw : FrQ Q w wr := (by have := F0.out; rw [← HW0.out] at this; exact this.trans (hF.less hq1))
    have hR : Holds wr w.heap.size [.func fn fst cap] := hF.holds (by rw [hQ1, ← HW0.out]; exact .inr (by omega)) (by rw [HW0.out]; exact R0.out)
    have hC : Holds wr (w.heap.size + 1) [.bool false] := hF.holds (by rw [hQ1, ← HW0.out]; exact .inr (by omega)) (by rw [HW0.out]; exact C0.out)
    have hQ1s : ∀ j, Q1 j → j < wr.heap.size := fun j hj => by
      rw [hQ1, ← HW0.out] at hj
      have := hF.2
      rcases hj with h | h
      · have := HQ.out j h; omega
      · omega
    by_cases hk16 : k < 16
    · have hA1 := hFw.tree HA.out HAQ.out
      have hB1 := hFw.tree HB.out HBQ.out
      have h1 := leaf_any a ⟨k, hk16⟩ wr hA1
      have h2 := leaf_any b ⟨k, hk16⟩ wr hB1
      rw [hap] at h1
      rw [HOB.out] at h2
      dsimp only at h1 h2
      have hto := told_any (head + k) (a.kid ⟨k, hk16⟩) (b.kid ⟨k, hk16⟩) wr (Tr.at_kid hA1 _) (Tr.at_kid hB1 _)
      simp only [chCells] at hto
      obtain ⟨q, hes⟩ := difs_split a b head k hk16
      have hkE := difsK_succ a b head k hk16
      rw [Nat.pow_zero, Nat.mul_one] at hes hkE
      generalize Tr.ptr (a.kid ⟨k, hk16⟩) = pf at h1 hto
      generalize Tr.ptr (b.kid ⟨k, hk16⟩) = pg at h2 hto
      have hd0 : difs (a.kid ⟨k, hk16⟩) (b.kid ⟨k, hk16⟩) (head + k) = if val0 (a.kid ⟨k, hk16⟩) = val0 (b.kid ⟨k, hk16⟩) then [] else [(head + k, val0 (a.kid ⟨k, hk16⟩), val0 (b.kid ⟨k, hk16⟩))] := rfl
      rw [hd0] at hes hkE
      clear hd0 hA1 hB1
      generalize val0 (a.kid ⟨k, hk16⟩) = X at hto hes hkE
      generalize val0 (b.kid ⟨k, hk16⟩) = Y at hto hes hkE
      have hl1 := Lib.hid h1
      have hl2 := Lib.hid h2
      have hy0 := hR.cell (i := 0) rfl
      have hltR := hR.lt
      have HF := Lib.hid hF
      have HFw := Lib.hid hFw
      have HR := Lib.hid hR
      have HCr := Lib.hid hC
      have HIk := Lib.hid hIk
      have HQ1s := Lib.hid hQ1s
      clear h1 h2 hF hFw hR hC hIk hQ1s
      by_cases hXY : X = Y
      · rw [if_pos hXY] at hes hkE
        rw [List.append_nil] at hkE
        rw [decide_eq_false (by simpa using hXY)] at hto
        have HKE := Lib.hid hkE
        have HTO := Lib.hid hto
        clear hes hkE hto hXY
        have HI := Lib.hid hI
        have HK := Lib.hid hK
        have HYd := Lib.hid hY
        clear hI hK hY
        gi_wp2_with fail
        refine ⟨trivial, rfl, (open_wide _).calls (hl1.out.mono ?_)⟩
        rintro e w1 ⟨rfl, rfl⟩
        gi_wp2_with fail
        refine ⟨trivial, rfl, (open_wide _).calls (hl2.out.mono ?_)⟩
        rintro e w1 ⟨rfl, rfl⟩
        gi_wp2_with fail
        refine ⟨trivial, rfl, (open_wide _).calls (HTO.out.mono ?_)⟩
        rintro e w2 ⟨rfl, hb2⟩
        have HB2 := Lib.hid hb2
        clear hb2 hl1 hl2 HTO
        gi_wp2
        refine ⟨fun _ h => (by cases h), ?_⟩
        gi_wp2
        go_roundw
        case rel =>
          have hz : ∀ o, Below wr.heap.size wr (w2.alloc o) := fun o => HB2.out.alloc HB2.out.size o
          exact ⟨k + 1, by omega, by go_num, HF.out.trans (FrQ.below (hz _) HQ1s.out), by rw [HKE.out]; exact HI.out.less _ _ _ _ (HI.out.below HIk.out (hz _)) (fun j hj => .inl hj)⟩
        case measure => simp [intOf]; omega
      · rw [if_neg hXY] at hes hkE
        rw [decide_eq_true (by simpa using hXY)] at hto
        have hxs : xs = (pre ++ difsK a b head k) ++ (head + k, X, Y) :: (q ++ post) := by
          rw [HX.out, hes]; simp only [List.append_assoc, List.cons_append, List.nil_append]
        have HKE := Lib.hid hkE
        have HES := Lib.hid hes
        have HTO := Lib.hid hto
        have HXS := Lib.hid hxs
        have HI := Lib.hid hI
        have HK := Lib.hid hK
        have HYd := Lib.hid hY
        clear hes hkE hto hXY hxs hI hK hY
        gi_wp2_with fail
        refine ⟨trivial, rfl, (open_wide _).calls (hl1.out.mono ?_)⟩
        rintro e w1 ⟨rfl, rfl⟩
        gi_wp2_with fail
        refine ⟨trivial, rfl, (open_wide _).calls (hl2.out.mono ?_)⟩
        rintro e w1 ⟨rfl, rfl⟩
        gi_wp2_with fail
        refine ⟨trivial, rfl, (open_wide _).calls (HTO.out.mono ?_)⟩
        rintro e w2 ⟨rfl, hb2⟩
        have hz : Below wr.heap.size wr (w2.alloc (.cells (chCells (head + k) X Y).toArray 113)) := hb2.alloc hb2.size _
        have hIz := HI.out.below HIk.out hz
        have hyc := HYd.out _ _ _ HXS.out _ _ hIz
        have hyR : (w2.alloc (.cells (chCells (head + k) X Y).toArray 113)).cell? ⟨w.heap.size, 0, none⟩ = some (.func fn fst cap) := (HR.out.ext hz).cell (i := 0) rfl
        have hyR2 : w2.cell? ⟨w.heap.size, 0, none⟩ = some (.func fn fst cap) := (HR.out.ext hb2).cell (i := 0) rfl
        have hlt2 : w.heap.size < w2.heap.size := Nat.lt_of_lt_of_le hltR hb2.size
        have HZ := Lib.hid hz
        have HYC := Lib.hid hyc
        clear hb2 hl1 hl2 HTO hz hIz hyc hyR
        have hbrQ : Q1 (w.heap.size + 1) := by rw [hQ1, ← HW0.out]; exact .inr (by omega)
        have hCz : ∀ W', FrQ (fun j => Q1 j ∨ (wr.heap.size ≤ j ∧ j < (w2.alloc (.cells (chCells (head + k) X Y).toArray 113)).heap.size)) (w2.alloc (.cells (chCells (head + k) X Y).toArray 113)) W' → Holds W' (w.heap.size + 1) [.bool false] ∧ FrQ Q1 wr W' := fun W' h =>
          ⟨h.holds (.inl hbrQ) (HCr.out.ext HZ.out), (FrQ.below HZ.out HQ1s.out).trans (h.less fun j hj => .inl hj)⟩
        have HCZ := Lib.hid hCz
        have HBQ1 := Lib.hid hbrQ
        clear hCz hbrQ
        gi_wp2_with (refine wpListIn_callV (open_wide _) rfl _ _ _ rfl (vs := chE (head + k, X, Y)) rfl (by simp [chE, chCells, Act.eval]) ?_; refine HYC.out.mono ?_; rintro e W' ⟨hfr, hsz', hor⟩; obtain ⟨hC', hFr'⟩ := HCZ.out W' ⟨hfr, hsz'⟩; have HFr := Lib.hid hFr'; have cc := hC'.cell (i := 0) rfl; have cf := hC'.free 0; have HC' := Lib.hid hC'; clear hfr hsz' hC' hFr'; rcases hor with ⟨rfl, hi⟩ | ⟨rfl, hbk⟩)
        · go_roundw
          case rel => exact ⟨k + 1, by omega, by go_num, HF.out.trans HFr.out, by rw [HKE.out, ← List.append_assoc]; exact HI.out.less _ _ _ _ hi (fun j hj => .inl hj)⟩
          case measure => simp [intOf]; omega
        · have hd := HC'.out.setCell (i := 0) (.bool false)
          have hcc := hd.cell (i := 0) rfl
          have hu := Upd.setCell (w := W') (g := w.heap.size + 1) (i := 0) (.bool false)
          have hF3 : FrQ Q w (W'.setCell ⟨w.heap.size + 1, 0, none⟩ (.bool false)) := HFw.out.trans ((HFr.out.less hq1).trans ⟨fun j hj => hu.block j (fun e => by have := HQ.out j hj; omega), Nat.le_of_eq hu.size.symm⟩)
          have hb3 := HK.out.less _ _ Q _ (HK.out.upd hbk hu (.inl HBQ1.out)) (fun j hj => .inl (hq1 j hj))
          refine bodyPost_ret (v := .bool false) (by simp [results, Try.results72, go_sem, hcc]) rfl ?_
          exact ⟨hF3, .inr ⟨rfl, difsK a b head k, (head + k, X, Y), q, by rw [HES.out]; simp, hb3⟩⟩
    · obtain rfl : k = 16 := by omega
      rw [difsK_all] at hIk
      have hf := hC.free 0
      have hc := hC.cell (i := 0) rfl
      have hd := hC.setCell (i := 0) (.bool true)
      have hcc := hd.cell (i := 0) rfl
      have hu := Upd.setCell (w := wr) (g := w.heap.size + 1) (i := 0) (.bool true)
      have hI2 := Lib.hid (hI.less _ _ Q _ (hI.upd hIk hu (by rw [hQ1, ← HW0.out]; exact .inr (by omega))) hq1)
      have hF2 : Hid (FrQ Q w (wr.setCell ⟨w.heap.size + 1, 0, none⟩ (.bool true))) := Lib.hid (hFw.trans ⟨fun j hj => hu.block j (fun e => by have := HQ.out j hj; omega), Nat.le_of_eq hu.size.symm⟩)
      clear hIk hF hFw hR hC hd hu
      gi_wp2
      refine bodyPost_ret (v := .bool true) (by simp [results, Try.results72, go_sem, hcc]) rfl ?_
      exact ⟨hF2.out, .inl ⟨rfl, hI2.out⟩⟩
theorem FrQ.cell {Q : Nat → Prop} {a b : World} {g i : Nat} (h : FrQ Q a b) (hg : Q g) : b.cell? ⟨g, i, none⟩ = a.cell? ⟨g, i, none⟩ := by
  unfold World.cell?
  rw [h.1 g hg]
set_option maxRecDepth 100000 in
set_option maxHeartbeats 4000000 in
theorem differ_highF {d : Nat} (fn : Fn) (fst cap : Array Value) (xs : List Ch) (Inv Brk : List Ch → (Nat → Prop) → World → Prop) (hI : Abide Inv) (hK : Abide Brk)
    (ba lv : Nat) (a b : Tr (d + 2)) (hap : a.ptr = .pointer (some ⟨ba, 0, none⟩)) (head : Nat) (pre post : List Ch) (Q : Nat → Prop) (w : World) (hlv : lv + (d + 1) = 7) (hQ : ∀ k, Q k → k < w.heap.size) (ha : a.at w) (hb : b.at w) (haQ : a.all Q) (hbQ : b.all Q)
    (ih : ∀ (i : Fin 16) (h : Nat) (pre post : List Ch) (Q : Nat → Prop) (W : World), (∀ k, Q k → k < W.heap.size) → (a.kid i).at W → (b.kid i).at W → (a.kid i).all Q → (b.kid i).all Q → xs = pre ++ difs (a.kid i) (b.kid i) h ++ post → h + 16 ^ (d + 1) ≤ 4294967296 → Inv pre Q W →
      Calls Try.prog 72 #[(a.kid i).ptr, (b.kid i).ptr, .int .i64 ((lv : Int) + 1), .int .u32 (h : Nat), .func fn fst cap] W (WentF Inv Brk pre (difs (a.kid i) (b.kid i) h) Q W))
    (hne : ∀ W, FrQ Q w W → (binOp .eql 97 (.pointer (some ⟨ba, 0, none⟩)) b.ptr).run Try.prog W = .ok (.bool false) W)
    (hx : xs = pre ++ difs a b head ++ post) (hh : head + 16 ^ (d + 2) ≤ 4294967296) (h0 : Inv pre Q w) :
    Calls Try.prog 72 #[.pointer (some ⟨ba, 0, none⟩), b.ptr, .int .i64 (lv : Nat), .int .u32 (head : Nat), .func fn fst cap] w (WentF Inv Brk pre (difs a b head) Q w) := by
  obtain ⟨b0, r0, c0⟩ := two_blocks w [.func fn fst cap] [.bool false] 138 4
  obtain ⟨Q1, hQ1⟩ : ∃ Q1 : Nat → Prop, Q1 = fun k => Q k ∨ (w.heap.size ≤ k ∧ k < ((w.alloc (.cells #[.func fn fst cap] 138)).alloc (.cells #[.bool false] 4)).heap.size) := ⟨_, rfl⟩
  have hI1 := hI.below h0 b0
  have f0 := FrQ.below b0 hQ
  have hne0 := hne _ f0
  have hl6 : lv ≤ 6 := by omega
  obtain ⟨S, hS⟩ : ∃ S, S = 16 ^ (d + 1) := ⟨_, rfl⟩
  have hS1 : 1 ≤ S := by rw [hS]; exact Nat.one_le_pow _ _ (by decide)
  have h16 : 16 ^ (d + 2) = 16 * S := by rw [hS, Nat.pow_succ, Nat.mul_comm]
  rw [h16] at hh
  obtain ⟨ob, hob⟩ : ∃ o : Option Addr, b.ptr = .pointer o := ⟨_, rfl⟩
  have HOB := Lib.hid hob
  rw [hob] at hne0 ⊢
  have HL := Lib.hid hlv
  have HS := Lib.hid hS
  have IH := Lib.hid ih
  have B0 := Lib.hid b0
  have R0 := Lib.hid r0
  have C0 := Lib.hid c0
  have HA := Lib.hid ha
  have HB := Lib.hid hb
  have HAQ := Lib.hid haQ
  have HBQ := Lib.hid hbQ
  have I1 := Lib.hid hI1
  have F0 := Lib.hid f0
  have HX := Lib.hid hx
  have HQ := Lib.hid hQ
  have HI := Lib.hid hI
  have HK := Lib.hid hK
  clear b0 r0 c0 ha hb haQ hbQ hI1 f0 hne hob hx h0 hQ ih hlv hS h16 hI hK
  refine (callsIn_wide (n := 0)).1 (callsIn_of_wp Try.func72 rfl trivial ?_)
  simp only [Try.ntmps72, List.size_toArray, List.length_cons, List.length_nil, Nat.reduceAdd, Nat.reduceSub, Array.replicate_succ, Array.replicate_zero, List.push_toArray, List.append_toArray, List.nil_append, List.cons_append]
  gi_wp2
  rw [span_eq lv d HL.out, ← HS.out]
  obtain ⟨W0, hW0⟩ : ∃ W0, W0 = (w.alloc (.cells #[.func fn fst cap] 138)).alloc (.cells #[.bool false] 4) := ⟨_, rfl⟩
  have HW0 := Lib.hid hW0
  gi_loopw [44] (fun i wr => ∃ k : Nat, k ≤ 16 ∧ i = .int .i64 (k : Int) ∧ FrQ Q1 W0 wr ∧ Inv (pre ++ difsK a b head k) Q1 wr) (fun i _ => 16 - (intOf i).toNat)
  case atStart => exact ⟨0, by omega, rfl, by rw [HW0.out]; exact FrQ.refl _ _, by rw [difsK_zero, List.append_nil, hQ1]; exact I1.out⟩
  case round =>
    obtain ⟨k, hk, rfl, hF, hIk⟩ := hrel
    have hq1 : ∀ j, Q j → Q1 j := fun j hj => by rw [hQ1]; exact .inl hj
    have hsz : W0.heap.size = w.heap.size + 2 := by rw [HW0.out]; simp
    have hFw : FrQ Q w wr := (by have := F0.out; rw [← HW0.out] at this; exact this.trans (hF.less hq1))
    have hR : Holds wr w.heap.size [.func fn fst cap] := hF.holds (by rw [hQ1, ← HW0.out]; exact .inr (by omega)) (by rw [HW0.out]; exact R0.out)
    have hC : Holds wr (w.heap.size + 1) [.bool false] := hF.holds (by rw [hQ1, ← HW0.out]; exact .inr (by omega)) (by rw [HW0.out]; exact C0.out)
    have hQ1s : ∀ j, Q1 j → j < wr.heap.size := fun j hj => by
      rw [hQ1, ← HW0.out] at hj
      have := hF.2
      rcases hj with h | h
      · have := HQ.out j h; omega
      · omega
    by_cases hk16 : k < 16
    · have hA1 := hFw.tree HA.out HAQ.out
      have hB1 := hFw.tree HB.out HBQ.out
      obtain ⟨M, hM⟩ : ∃ M, M = k * S := ⟨_, rfl⟩
      have hM16 : M + S ≤ 16 * S := by
        rw [hM]
        have := Nat.mul_le_mul_right S (show k + 1 ≤ 16 by omega)
        rw [Nat.add_mul, Nat.one_mul] at this
        exact this
      have hMi : (k : Int) * (S : Int) = (M : Int) := by rw [hM]; norm_cast
      have h1 := child_any a ⟨k, hk16⟩ wr.drew (Tr.at_ext (Below.refl _ _).drew hA1)
      have h2 := child_any b ⟨k, hk16⟩ wr.drew (Tr.at_ext (Below.refl _ _).drew hB1)
      rw [hap, kp_kid] at h1
      rw [HOB.out, kp_kid] at h2
      dsimp only at h1 h2
      obtain ⟨q, hes⟩ := difs_split a b head k hk16
      have hkE := difsK_succ a b head k hk16
      rw [← HS.out, ← hM] at hes hkE
      have hcall := IH.out ⟨k, hk16⟩ (head + M) (pre ++ difsK a b head k) (q ++ post) Q1 wr.drew hQ1s (Tr.at_ext (Below.refl _ _).drew (Tr.at_kid hA1 _)) (Tr.at_ext (Below.refl _ _).drew (Tr.at_kid hB1 _))
        (Tr.all_mono hq1 (Tr.all_kid HAQ.out _)) (Tr.all_mono hq1 (Tr.all_kid HBQ.out _)) (by rw [HX.out, hes]; simp only [List.append_assoc]) (by rw [← HS.out]; omega)
        (HI.out.less _ _ _ _ (HI.out.below hIk (Below.refl _ _).drew) (fun j hj => .inl hj))
      generalize difs (a.kid ⟨k, hk16⟩) (b.kid ⟨k, hk16⟩) (head + M) = D at hes hkE hcall
      generalize Tr.ptr (a.kid ⟨k, hk16⟩) = pf at h1 hcall
      generalize Tr.ptr (b.kid ⟨k, hk16⟩) = pg at h2 hcall
      have hl1 := Lib.hid h1
      have hl2 := Lib.hid h2
      have hl3 := Lib.hid hcall
      have HKE := Lib.hid hkE
      have HES := Lib.hid hes
      have hy := hR.cell (i := 0) rfl
      have hlt := hR.lt
      have HF := Lib.hid hF
      have HFw := Lib.hid hFw
      have HCr := Lib.hid hC
      have HM := Lib.hid hM
      have hbyQ : Q1 w.heap.size := by rw [hQ1, ← HW0.out]; exact .inr (by omega)
      have hbrQ : Q1 (w.heap.size + 1) := by rw [hQ1, ← HW0.out]; exact .inr (by omega)
      have SM : ∀ X, FrQ Q1 wr X → SameAt [⟨w.heap.size, 0, none⟩] wr X := by
        intro X hX p hp
        simp only [List.mem_singleton] at hp
        subst hp
        exact hX.cell hbyQ
      have HBR := Lib.hid hbrQ
      clear hA1 hB1 h1 h2 hcall hkE hes hF hFw hR hC hM hIk hbyQ hbrQ hQ1s
      gi_wp2_with fail
      refine rgnHIn [[0, 1, 3, 4, 6, 7, 8, 9, 2], [5], [10], [11]] [7] [9] [⟨w.heap.size, 0, none⟩] (fun _ => trivial) rfl (by kernel_rfl) (by simp) ?_ ?_
      · intro p hp
        simp only [List.mem_singleton] at hp
        subst hp
        rw [hy]; rfl
      unfold segIn
      simp only [pickL, List.getD_cons_zero, List.getD_cons_succ]
      gi_wp2_with fail
      refine ⟨trivial, rfl, (open_wide _).calls (hl1.out.mono ?_)⟩
      rintro e w1 ⟨rfl, rfl⟩
      gi_wp2
      refine ⟨SM _ (FrQ.refl _ _), ?_⟩
      unfold segIn
      simp only [pickL, List.getD_cons_zero, List.getD_cons_succ]
      gi_wp2_with fail
      refine ⟨trivial, rfl, (open_wide _).calls (hl2.out.mono ?_)⟩
      rintro e w1 ⟨rfl, rfl⟩
      gi_wp2
      refine ⟨SM _ (FrQ.refl _ _), ?_⟩
      unfold segIn
      simp only [pickL, List.getD_cons_zero, List.getD_cons_succ]
      gi_wp2_with fail
      refine ⟨trivial, rfl, (open_wide _).calls (hl3.out.mono ?_)⟩
      rintro e w2 ⟨hfr, hor⟩
      have hfr' : FrQ Q1 wr w2 := hfr
      have hC' := hfr'.holds HBR.out HCr.out
      have cc := hC'.cell (i := 0) rfl
      have cf := hC'.free 0
      have HC' := Lib.hid hC'
      have HFr := Lib.hid hfr'
      clear hfr hfr' hC' hl1 hl2 hl3
      rcases hor with ⟨rfl, hi⟩ | ⟨rfl, p, x, qq, hpq, hbk⟩
      · gi_wp2
        refine ⟨SM _ HFr.out, ?_⟩
        unfold segIn
        simp only [pickL, List.getD_cons_zero, List.getD_cons_succ]
        gi_wp2
        refine ⟨SM _ HFr.out, ?_, ⟨.inl rfl, trivial⟩, ?_⟩
        · simp [chkD, dyn, Region.wanted, yielded, Act.eval, scalarV, nilC]
        gi_wp2
        go_roundw
        case rel => exact ⟨k + 1, by omega, by go_num, HF.out.trans HFr.out, by rw [HKE.out, ← List.append_assoc]; exact hi⟩
        case measure => simp [intOf]; omega
      · gi_wp2
        refine ⟨SM _ HFr.out, ?_⟩
        unfold segIn
        simp only [pickL, List.getD_cons_zero, List.getD_cons_succ]
        gi_wp2
        refine ⟨SM _ HFr.out, ?_, ⟨.inl rfl, trivial⟩, ?_⟩
        · simp [chkD, dyn, Region.wanted, yielded, Act.eval, scalarV, nilC]
        have hd := HC'.out.setCell (i := 0) (.bool false)
        have hcc := hd.cell (i := 0) rfl
        have hu := Upd.setCell (w := w2) (g := w.heap.size + 1) (i := 0) (.bool false)
        have hF3 : Hid (FrQ Q w (w2.setCell ⟨w.heap.size + 1, 0, none⟩ (.bool false))) := Lib.hid (HFw.out.trans ((HFr.out.less hq1).trans ⟨fun j hj => hu.block j (fun e => by have := HQ.out j hj; omega), Nat.le_of_eq hu.size.symm⟩))
        have hb3 := Lib.hid (HK.out.less _ _ Q _ (HK.out.upd hbk hu HBR.out) hq1)
        clear hd hu hbk
        gi_wp2
        refine bodyPost_ret (v := .bool false) (by simp [results, Try.results72, go_sem, hcc]) rfl ?_
        refine ⟨hF3.out, .inr ⟨rfl, difsK a b head k ++ p, x, qq ++ q, by rw [HES.out, hpq]; simp, ?_⟩⟩
        rw [← List.append_assoc]; exact hb3.out
    · obtain rfl : k = 16 := by omega
      rw [difsK_all] at hIk
      have hf := hC.free 0
      have hc := hC.cell (i := 0) rfl
      have hd := hC.setCell (i := 0) (.bool true)
      have hcc := hd.cell (i := 0) rfl
      have hu := Upd.setCell (w := wr) (g := w.heap.size + 1) (i := 0) (.bool true)
      have hI2 := Lib.hid (HI.out.less _ _ Q _ (HI.out.upd hIk hu (by rw [hQ1, ← HW0.out]; exact .inr (by omega))) hq1)
      have hF2 : Hid (FrQ Q w (wr.setCell ⟨w.heap.size + 1, 0, none⟩ (.bool true))) := Lib.hid (hFw.trans ⟨fun j hj => hu.block j (fun e => by have := HQ.out j hj; omega), Nat.le_of_eq hu.size.symm⟩)
      clear hIk hF hFw hR hC hd hu
      gi_wp2
      refine bodyPost_ret (v := .bool true) (by simp [results, Try.results72, go_sem, hcc]) rfl ?_
      exact ⟨hF2.out, .inl ⟨rfl, hI2.out⟩⟩
end Go.Proofs.Ytmhhejpokgdjoaa
namespace Go.Proofs.Ytmhhejpokgdjoaa
open Go Go.RowKit
set_option linter.unusedVariables false

theorem eql_ptr_nil {P : Program} {tp te : TypeId} (a : Addr) (hp : P.underlying tp = some (.pointer te)) (w : World) : (binOp .eql tp (.pointer (some a)) (.pointer none)).run P w = .ok (.bool false) w := by
  have h : ∀ d : Nat, (Op.equalIn (d + 1) tp (.pointer (some a)) (.pointer none)).run P w = .ok false w := fun d => by
    simp [Op.equalIn, run_underlying hp]
  simp only [binOp]
  simp [Op.equal, Op.maxDepth, h 9999]
theorem differ_eqF (fn : Fn) (fst cap : Array Value) (Inv Brk : List Ch → (Nat → Prop) → World → Prop) (hI : Abide Inv) (o : Option Addr) (lv : Int) (head : Nat) (pre : List Ch) (Q : Nat → Prop) (w : World) (hQ : ∀ k, Q k → k < w.heap.size)
    (hE : ∀ w, (binOp .eql 97 (.pointer o) (.pointer o)).run Try.prog w = .ok (.bool true) w) (h0 : Inv pre Q w) :
    Calls Try.prog 72 #[.pointer o, .pointer o, .int .i64 lv, .int .u32 (head : Nat), .func fn fst cap] w (WentF Inv Brk pre [] Q w) := by
  refine (differ_eq o fn fst cap lv head w hE).mono ?_
  rintro e w' ⟨rfl, hb⟩
  exact ⟨FrQ.below hb hQ, .inl ⟨rfl, by rw [List.append_nil]; exact hI.less _ _ _ _ (hI.below h0 hb) (fun j hj => .inl hj)⟩⟩
/-- What is owed where the first tree has no node. -/
def NilF (fn : Fn) (fst cap : Array Value) (xs : List Ch) (Inv Brk : List Ch → (Nat → Prop) → World → Prop) : Prop :=
  ∀ (d lv bb : Nat) (b : Tr (d + 1)) (head : Nat) (pre post : List Ch) (Q : Nat → Prop) (w : World), lv + d = 7 → b.ptr = .pointer (some ⟨bb, 0, none⟩) → (∀ k, Q k → k < w.heap.size) → b.at w → b.all Q → xs = pre ++ difs Tr.nil b head ++ post → head + 16 ^ (d + 1) ≤ 4294967296 → Inv pre Q w →
    Calls Try.prog 72 #[.pointer none, .pointer (some ⟨bb, 0, none⟩), .int .i64 (lv : Nat), .int .u32 (head : Nat), .func fn fst cap] w (WentF Inv Brk pre (difs Tr.nil b head) Q w)
theorem ptr_cases {d : Nat} (a : Tr (d + 1)) : a = Tr.nil ∨ ∃ ba, a.ptr = .pointer (some ⟨ba, 0, none⟩) ∧ Tr.blk a = some ba := by
  cases a with
  | none => exact .inl rfl
  | some p => exact .inr ⟨p.1, rfl, rfl⟩
theorem ne_blk {d : Nat} {a b : Tr (d + 1)} {ba : Nat} (hap : a.ptr = .pointer (some ⟨ba, 0, none⟩)) (hba : Tr.blk a = some ba) (hne : ¬ Tr.blk b = some ba) {Q : Nat → Prop} {w : World} (ha : a.at w) (hb : b.at w) (haQ : a.all Q) (hbQ : b.all Q) :
    ∀ W, FrQ Q w W → (binOp .eql 97 (.pointer (some ⟨ba, 0, none⟩)) b.ptr).run Try.prog W = .ok (.bool false) W := by
  intro W hF
  cases b with
  | none => exact eql_ptr_nil _ und_pn W
  | some p =>
    obtain ⟨bb, g⟩ := p
    rw [← hap]
    refine eql_node a bb (nodeCells g) W (hF.tree ha haQ) (hF.tree hb hbQ).1 ?_
    rw [hba]
    intro e
    exact hne (by cases e; rfl)
theorem differ_anyF (fn : Fn) (fst cap : Array Value) (xs : List Ch) (Inv Brk : List Ch → (Nat → Prop) → World → Prop) (hY : YdF Try.prog (.func fn fst cap) chE xs Inv Brk) (hI : Abide Inv) (hK : Abide Brk) (hN : NilF fn fst cap xs Inv Brk)
    (hinj : ∀ (d : Nat) (a b : Tr (d + 1)) (w : World), a.at w → b.at w → Tr.blk a = Tr.blk b → a = b) :
    ∀ (d : Nat) (a b : Tr (d + 1)) (lv head : Nat) (pre post : List Ch) (Q : Nat → Prop) (w : World), lv + d = 7 → (∀ k, Q k → k < w.heap.size) → a.at w → b.at w → a.all Q → b.all Q → xs = pre ++ difs a b head ++ post → head + 16 ^ (d + 1) ≤ 4294967296 → Inv pre Q w →
      Calls Try.prog 72 #[a.ptr, b.ptr, .int .i64 (lv : Nat), .int .u32 (head : Nat), .func fn fst cap] w (WentF Inv Brk pre (difs a b head) Q w) := by
  intro d
  induction d with
  | zero =>
    intro a b lv head pre post Q w hl hQ ha hb haQ hbQ hx hh h0
    rcases ptr_cases a with rfl | ⟨ba, hap, hba⟩
    · rcases ptr_cases b with rfl | ⟨bb, hbp, hbb⟩
      · rw [difs_self]
        exact differ_eqF fn fst cap Inv Brk hI none lv head pre Q w hQ (fun w => eql_nn und_pn w) h0
      · rw [hbp]
        exact hN 0 lv bb b head pre post Q w hl hbp hQ hb hbQ hx hh h0
    · by_cases hne : Tr.blk b = some ba
      · obtain rfl := hinj 0 a b w ha hb (hba.trans hne.symm)
        rw [difs_self, hap]
        exact differ_eqF fn fst cap Inv Brk hI _ lv head pre Q w hQ (fun w => eql_self ba w) h0
      · rw [hap]
        obtain rfl : lv = 7 := by omega
        exact differ_lowF fn fst cap xs Inv Brk hY hI hK ba a b hap head pre post Q w hQ ha hb haQ hbQ (ne_blk hap hba hne ha hb haQ hbQ) hx (by simpa using hh) h0
  | succ d ih =>
    intro a b lv head pre post Q w hl hQ ha hb haQ hbQ hx hh h0
    rcases ptr_cases a with rfl | ⟨ba, hap, hba⟩
    · rcases ptr_cases b with rfl | ⟨bb, hbp, hbb⟩
      · rw [difs_self]
        exact differ_eqF fn fst cap Inv Brk hI none lv head pre Q w hQ (fun w => eql_nn und_pn w) h0
      · rw [hbp]
        exact hN (d + 1) lv bb b head pre post Q w hl hbp hQ hb hbQ hx hh h0
    · by_cases hne : Tr.blk b = some ba
      · obtain rfl := hinj (d + 1) a b w ha hb (hba.trans hne.symm)
        rw [difs_self, hap]
        exact differ_eqF fn fst cap Inv Brk hI _ lv head pre Q w hQ (fun w => eql_self ba w) h0
      · rw [hap]
        refine differ_highF fn fst cap xs Inv Brk hI hK ba lv a b hap head pre post Q w hl hQ ha hb haQ hbQ (fun i h pre' post' Q' W hQ' ha' hb' haQ' hbQ' hx' hh' h0' => ?_) (ne_blk hap hba hne ha hb haQ hbQ) hx hh h0
        have := ih (a.kid i) (b.kid i) (lv + 1) h pre' post' Q' W (by omega) hQ' ha' hb' haQ' hbQ' hx' hh' h0'
        simpa using this
end Go.Proofs.Ytmhhejpokgdjoaa
namespace Go.Proofs.Ytmhhejpokgdjoaa
open Go Go.RowKit
set_option linter.unusedVariables false
set_option linter.unusedSimpArgs false
attribute [local go_sem] Oper.semAt_some

/-- What a yield owes at whatever it is handed, no more than N of them: it leaves alone the blocks of Q and whatever from block B0 on is no cells. -/
def YdN {α : Type} (P : Program) (Y : Value) (enc : α → Array Value) (N B0 : Nat) (Inv Brk : List α → (Nat → Prop) → World → Prop) : Prop :=
  ∀ pre x Q W, pre.length < N → Inv pre Q W →
    CallV P Y (enc x) W fun e W' => FrQ Q W W' ∧ KeepsFrom B0 W W' ∧ ((e = .returned (.bool true) ∧ Inv (pre ++ [x]) Q W') ∨ (e = .returned (.bool false) ∧ Brk (pre ++ [x]) Q W'))
theorem YdN.ydF {α : Type} {P : Program} {Y : Value} {enc : α → Array Value} {N B0 : Nat} {xs : List α} {Inv Brk : List α → (Nat → Prop) → World → Prop} (h : YdN P Y enc N B0 Inv Brk) (hx : xs.length ≤ N) : YdF P Y enc xs Inv Brk := by
  intro pre x post hxs Q W hi
  refine (h pre x Q W (by rw [hxs] at hx; simp at hx; omega) hi).mono ?_
  rintro e W' ⟨h1, _, h2⟩
  exact ⟨h1.1, h1.2, h2⟩
theorem KeepsFrom.more {B B' : Nat} {W W' : World} (h : KeepsFrom B W W') (hB : B ≤ B') : KeepsFrom B' W W' := ⟨h.size, fun k o hk => h.same k o (Nat.le_trans hB hk)⟩
theorem ownFrom_frQ {β : Type} {Q : Nat → Prop} {w : World} {B : Nat} (hQ : ∀ k, Q k → k < w.heap.size) (hB : w.heap.size ≤ B) : OwnFrom B (fun (_ : β) W => FrQ Q w W) := fun s X Y row hs hg hr =>
  ⟨fun k hk => (hg.block k (by have := hQ k hk; have := hs.2; omega) (fun e => by have := (hr k e.symm).1; have := hQ k hk; omega)).trans (hs.1 k hk), Nat.le_trans hs.2 hg.size⟩
theorem FrQ.alloc {Q : Nat → Prop} {w w' : World} (h : FrQ Q w w') (o : Obj) (hQ : ∀ k, Q k → k < w.heap.size) : FrQ Q w (w'.alloc o) := by
  refine ⟨fun k hk => ?_, by have := h.2; simp; omega⟩
  exact (Below.heap_alloc w' o k (by have := hQ k hk; have := h.2; omega)).trans (h.1 k hk)
theorem Holds.same {w w' : World} {b : Nat} {cs : List Value} (h : Holds w b cs) (he : w'.heap[b]? = w.heap[b]?) : Holds w' b cs := by
  obtain ⟨ty, h1⟩ := h
  exact ⟨ty, he.trans h1⟩
theorem Holds.isCells {w : World} {b : Nat} {cs : List Value} (h : Holds w b cs) {o : Obj} (ho : w.heap[b]? = some o) : o.isCells = true := by
  obtain ⟨ty, h1⟩ := h
  rw [h1] at ho
  cases ho
  rfl
theorem Holds.own {w w' : World} {b : Nat} {cs : List Value} {row : Option Nat} (h : Holds w b cs) (hg : w.grownBy w' row) (hr : ∀ r, row = some r → ∃ o : Obj, w.heap[r]? = some o ∧ o.isCells = false) : Holds w' b cs :=
  h.same (grownBy_keeps_cells hg hr (Array.getElem?_eq_getElem h.lt) (h.isCells (Array.getElem?_eq_getElem h.lt)))
/-- An iterator's contract, where a round keeps the blocks of Q alone. -/
theorem seq_of_givesQ {α : Type} {P : Program} {gf : FuncId} {lb : Array Value} {enc : α → Array Value} {xs : List α} {D : World → Prop} (hG : Gives P (.func (.func gf) #[] lb) enc xs D) (he : ∀ ys w, (callFunc gf ys).run P w = .ok (.enter gf ys) w)
    {n : Nat} {w0 : World} {Q : Nat → Prop} (hQ : ∀ k, Q k → k < w0.heap.size) (hD : ∀ W, FrQ Q w0 W → D W) : SeqStopsK Fence.wide n P gf lb enc (FrQ Q) (fun ys => ys = xs) (fun ys => ∃ p x q, xs = p ++ x :: q ∧ ys = p ++ [x]) xs.length w0 := by
  intro l J Jx W hW hJ hJx hY h0
  have hc := hG (.func (.yield l) #[] #[]) (fun pre W1 => J pre W1 ∧ FrQ Q w0 W1) Jx W
    (fun pre X X' h hb => ⟨hJ pre X X' none h.1 ⟨hb.os, hb.tape, hb.output, hb.size, fun k hk _ => hb.block k hk⟩ (fun r e => by cases e), h.2.trans ⟨fun k hk => hb.block k (by have := hQ k hk; have := h.2.2; omega), hb.size⟩⟩)
    (fun pre X h => hD X h.2)
    (fun pre x post hx X h => (callV_yield (hY pre x X h.1 (by rw [hx]; simp))).mono fun e X' hr => hr.imp (fun ⟨h1, h2, h3⟩ => ⟨h1, h2, h.2.trans h3⟩) id)
    ⟨h0, ⟨fun k hk => hW.block k (hQ k hk), hW.size⟩⟩
  have hq := callV_calls' he hc
  rw [Array.empty_append] at hq
  refine (open_wide P).calls (hq.mono fun e X hr => ⟨hr.1, ?_⟩)
  rcases hr.2 with h | ⟨pre, x, post, hp, h⟩
  · exact .inl ⟨xs, rfl, h.1⟩
  · exact .inr ⟨_, ⟨pre, x, post, hp, rfl⟩, h⟩
def dnTmps (bb lv head wsz B B1 B2 : Nat) (fn : Fn) (fst cap : Array Value) (x : Nat × V) (Bx : Nat) : Array Value := #[.pointer none, .pointer (some ⟨bb, 0, none⟩), .int .i64 (lv : Nat), .int .u32 (head : Nat), .func fn fst cap, undef, undef, undef, undef, .pointer (some ⟨wsz, 0, none⟩), .pointer (some ⟨wsz + 1, 0, none⟩), .int .u32 (x.1 : Nat), .pointer (some ⟨Bx, 0, none⟩), undef, undef, undef, undef, undef, undef, undef, .pointer none, .pointer (some ⟨bb, 0, none⟩), .bool false, .pointer none, .bool true, .pointer (some ⟨bb, 0, none⟩), .int .i64 (lv : Nat), .int .u32 (head : Nat), belowV B B1 B2, .int .u32 (x.1 : Nat), .agg #[.int .i64 x.2.k, .int .i64 x.2.n], undef, undef, undef, undef, undef, undef, undef, undef, undef, undef, undef, undef, undef, undef, undef, undef, undef, undef, undef, undef, undef, undef, undef, undef, undef, undef, undef, undef, undef, undef, undef, undef, undef, undef, undef, undef, undef, undef, undef, undef, undef, undef, undef, undef, undef, undef, undef, undef, undef, undef, undef, undef, undef, undef, undef]
def newCh (e : Nat × V) : Ch := (e.1, none, some e.2)
set_option maxRecDepth 100000 in
set_option maxHeartbeats 4000000 in
theorem nil_F (fn : Fn) (fst cap : Array Value) (xs : List Ch) (N : Nat) (hN : xs.length ≤ N) (Inv Brk : List Ch → (Nat → Prop) → World → Prop) (B0 : Nat) (hY : YdN Try.prog (.func fn fst cap) chE N B0 Inv Brk) (hI : Abide Inv) (hK : Abide Brk)
    (hIo : ∀ Q, OwnFrom B0 (fun pre W => Inv pre Q W)) (hKo : ∀ Q, OwnFrom B0 (fun pre W => Brk pre Q W)) (hB0 : ∀ pre Q W, Inv pre Q W → B0 ≤ W.heap.size) : NilF fn fst cap xs Inv Brk := by
  intro d lv bb b head pre post Q w hlv hbp hQ hb hbQ hx hh h0
  rw [difs_nil] at hx ⊢
  have hB0w := hB0 _ _ _ h0
  obtain ⟨b0, r0, c0⟩ := two_blocks w [.func fn fst cap] [.bool false] 138 4
  have B0 := Lib.hid b0
  have R0 := Lib.hid r0
  have C0 := Lib.hid c0
  have HB := Lib.hid hb
  have HBQ := Lib.hid hbQ
  have HX := Lib.hid hx
  have HQ := Lib.hid hQ
  have H0 := Lib.hid h0
  have e1 := fun W => eql_nn (w := W) und_pn
  have e2 : ∀ W, (binOp .eql 97 (.pointer none) (.pointer (some ⟨bb, 0, none⟩))).run Try.prog W = .ok (.bool false) W := fun W => eql_nil_ptr _ und_pn W
  clear b0 r0 c0 hb hbQ hx h0 hQ
  refine (callsIn_wide (n := 3)).1 (callsIn_of_wp_marks Try.func72 rfl trivial ?_)
  simp only [Try.ntmps72, List.size_toArray, List.length_cons, List.length_nil, Nat.reduceAdd, Nat.reduceSub, Array.replicate_succ, Array.replicate_zero, List.push_toArray, List.append_toArray, List.nil_append, List.cons_append]
  gi_wp2_with fail
  refine ⟨trivial, (open_wide _).calls ((below_any (some ⟨bb, 0, none⟩) lv head _).mono ?_)⟩
  rintro e W1 ⟨rfl, hb1, hv1, hv2, hv3⟩
  obtain ⟨W0, hW0⟩ : ∃ W0, W0 = (w.alloc (.cells #[.func fn fst cap] 138)).alloc (.cells #[.bool false] 4) := ⟨_, rfl⟩
  have hsz0 : W0.heap.size = w.heap.size + 2 := by rw [hW0]; simp
  rw [← hW0] at hb1 hv1 hv2 hv3 ⊢
  rw [hsz0] at hv1 hv2 hv3 ⊢
  have B0' := B0.out
  have R0' := R0.out
  have C0' := C0.out
  rw [show [Value.func fn fst cap].toArray = #[.func fn fst cap] from rfl, show [Value.bool false].toArray = #[.bool false] from rfl, ← hW0] at B0'
  rw [← hW0] at R0' C0'
  clear B0 R0 C0 hW0
  have hbw : Below w.heap.size w W1 := B0'.trans (hb1.mono B0'.size)
  have hB01 : B0 ≤ W1.heap.size := Nat.le_trans hB0w hbw.size
  have hR1 : Holds W1 w.heap.size [.func fn fst cap] := R0'.ext hb1
  have hC1 : Holds W1 (w.heap.size + 1) [.bool false] := C0'.ext hb1
  obtain ⟨Q1, hQ1⟩ : ∃ Q1 : Nat → Prop, Q1 = fun k => Q k ∨ (w.heap.size ≤ k ∧ k < W1.heap.size) := ⟨_, rfl⟩
  have hI1 : Inv pre Q1 W1 := by rw [hQ1]; exact hI.below H0.out hbw
  have hq1 : ∀ j, Q j → Q1 j := fun j hj => by rw [hQ1]; exact .inl hj
  have hqn : ∀ j, w.heap.size ≤ j → j < W1.heap.size → Q1 j := fun j h1 h2 => by rw [hQ1]; exact .inr ⟨h1, h2⟩
  have hQ1s : ∀ k, Q1 k → k < W1.heap.size := fun k hk => by
    rw [hQ1] at hk
    rcases hk with hk | hk
    · have := HQ.out k hk; have := hbw.size; omega
    · exact hk.2
  have hFw : FrQ Q w W1 := FrQ.below hbw HQ.out
  have hD : ∀ W, FrQ Q1 W1 W → BelowD b lv head (w.heap.size + 2) ((w.heap.size + 2) + 1) ((w.heap.size + 2) + 2) W := by
    intro W hF
    refine ⟨?_, ?_, ?_, ?_⟩
    · rw [hbp]; exact hF.holds (hqn _ (by omega) hv1.lt) hv1
    · exact hF.holds (hqn _ (by omega) hv2.lt) hv2
    · exact hF.holds (hqn _ (by omega) hv3.lt) hv3
    · exact (hFw.trans (hF.less hq1)).tree HB.out HBQ.out
  have hes : (xs.length : Nat) = pre.length + ((b.ents head).length + post.length) := by rw [HX.out]; simp
  have he := enters_of (P := Try.prog) Try.func85 (by kernel_rfl) rfl
  gi_wp2_with fail
  refine wpIn_rangeFunc_ownH (F := Fence.wide) rfl (by decide) (gf := 85) (lb := #[.pointer (some ⟨(w.heap.size + 2), 0, none⟩), .pointer (some ⟨(w.heap.size + 2) + 1, 0, none⟩), .pointer (some ⟨(w.heap.size + 2) + 2, 0, none⟩)]) rfl trivial he
    (seq_of_givesQ (below_gives b lv head _ _ _ hlv hh) he hQ1s hD) (fun h k => h.trans k) ?hkb (Below.refl _ _) (fun _ => rfl)
    (fun ys W => FrQ Q1 W1 W ∧ Inv (pre ++ ys.map newCh) Q1 W)
    (fun c ys W => c = .ret ∧ FrQ Q w W ∧ Holds W (w.heap.size + 1) [.bool false] ∧ Brk (pre ++ ys.map newCh) Q W)
    ?hI ?hIx ⟨FrQ.refl _ _, by simpa using hI1⟩
    (fun x a' W => ∃ Bx, Holds W Bx (vCells x.2) ∧ a' = { tmps := dnTmps bb lv head w.heap.size (w.heap.size + 2) ((w.heap.size + 2) + 1) ((w.heap.size + 2) + 2) fn fst cap x Bx, defers := [] }) ?hAx ?assign ?body ?done ?stop
  case hkb => exact fun W l o o' hl ho _ _ => ⟨fun k hk => World.putObj_heap_other (by have := hQ1s k hk; omega), by simp⟩
  case hI =>
    rintro ys W W' row ⟨h1, h2⟩ hg hr
    exact ⟨ownFrom_frQ hQ1s (Nat.le_refl _) () W W' row h1 hg hr, hIo Q1 _ W W' row h2 hg (fun r e => ⟨Nat.le_trans hB01 (hr r e).1, (hr r e).2⟩)⟩
  case hIx =>
    rintro c ys W W' row ⟨h1, h2, h3, h4⟩ hg hr
    exact ⟨h1, ownFrom_frQ HQ.out hbw.size () W W' row h2 hg hr, h3.own hg (fun r e => (hr r e).2), hKo Q _ W W' row h4 hg (fun r e => ⟨Nat.le_trans hB01 (hr r e).1, (hr r e).2⟩)⟩
  case hAx =>
    rintro x a' _ W W' row ⟨Bx, h1, h2⟩ hg hr
    exact ⟨Bx, h1.own hg (fun r e => (hr r e).2), h2⟩
  case assign =>
    rintro l ys x W K ⟨hF, hi⟩ hK
    unfold encE
    gi_wp2
    refine hK _ _ ((KeepsOthers.alloc _ _).from _) (FrQ.alloc (FrQ.refl _ _) _ (fun k hk => by have := hQ1s k hk; have := hF.2; omega)) ⟨hF.alloc _ hQ1s, hI.less _ _ _ _ (hI.below hi ((Below.refl _ _).alloc (Nat.le_refl _) _)) (fun j hj => .inl hj)⟩ ⟨W.heap.size, Holds.alloc W (vCells x.2) 50, rfl⟩
  case body =>
    rintro l ys x a' W hl ⟨r, hr⟩ ⟨hF, hi⟩ ⟨Bx, hBx, rfl⟩ hlt
    have hRl : Holds W w.heap.size [.func fn fst cap] := hF.holds (hqn _ (by omega) hR1.lt) hR1
    have hCl : Holds W (w.heap.size + 1) [.bool false] := hF.holds (hqn _ (by omega) hC1.lt) hC1
    have hto := told_any x.1 (none : Option (Nat × V)) (some (Bx, x.2) : Option (Nat × V)) W trivial hBx
    rw [val0_none, val0_some] at hto
    simp only [chCells] at hto
    have HTO := Lib.hid hto
    have HF := Lib.hid hF
    have HI := Lib.hid hi
    unfold dnTmps
    gi_wp2_with fail
    refine ⟨trivial, (open_round _ l).calls (HTO.out.mono ?_)⟩
    rintro e w2 ⟨rfl, hb2⟩
    have hz : Below W.heap.size W (w2.alloc (.cells (chCells x.1 none (some x.2)).toArray 113)) := hb2.alloc hb2.size _
    have hIz := hI.less _ _ Q1 _ (hI.below HI.out hz) (fun j hj => .inl hj)
    have hyc := hY _ (x.1, none, some x.2) _ _ (by simp; omega) hIz
    have hyR : (w2.alloc (.cells (chCells x.1 none (some x.2)).toArray 113)).cell? ⟨w.heap.size, 0, none⟩ = some (.func fn fst cap) := (hRl.ext hz).cell (i := 0) rfl
    have hyR2 : w2.cell? ⟨w.heap.size, 0, none⟩ = some (.func fn fst cap) := (hRl.ext hb2).cell (i := 0) rfl
    have hlt2 : w.heap.size < w2.heap.size := Nat.lt_of_lt_of_le hRl.lt hb2.size
    have HZ := Lib.hid hz
    have HYC := Lib.hid hyc
    have hCz : ∀ W', FrQ Q1 (w2.alloc (.cells (chCells x.1 none (some x.2)).toArray 113)) W' → Holds W' (w.heap.size + 1) [.bool false] := fun W' h => h.holds (hqn _ (by omega) hC1.lt) (hCl.ext hz)
    have hFz : FrQ Q1 W (w2.alloc (.cells (chCells x.1 none (some x.2)).toArray 113)) := ⟨fun k hk => hz.block k (by have := hQ1s k hk; have := HF.out.2; omega), hz.size⟩
    have hoz : KeepsOthers W (w2.alloc (.cells (chCells x.1 none (some x.2)).toArray 113)) := ⟨hz.size, fun k o hk _ => (hz.block k (Array.getElem?_eq_some_iff.1 hk).1).trans hk⟩
    have HCZ := Lib.hid hCz
    have HFZ := Lib.hid hFz
    have HOZ := Lib.hid hoz
    clear hz hyc hIz hb2 HTO hCl hCz hFz hoz
    gi_wp2_with (refine wpListIn_callV (open_round _ l) rfl _ _ _ rfl (vs := chE (x.1, none, some x.2)) rfl (by simp [chE, chCells, Act.eval]) ?_; refine HYC.out.mono ?_; rintro e W' ⟨hfr, hko, hor⟩; have hC' := HCZ.out W' hfr; have cc := hC'.cell (i := 0) rfl; have cf := hC'.free 0; have HC' := Lib.hid hC'; have HFr := Lib.hid (HFZ.out.trans hfr); have HKo := Lib.hid ((HOZ.out.from _).trans (KeepsFrom.more hko hB01)); clear hfr hko hC'; rcases hor with ⟨rfl, hi⟩ | ⟨rfl, hbk⟩)
    · exact ⟨HKo.out, HFr.out, HF.out.trans HFr.out, by rw [List.map_append, ← List.append_assoc]; exact hi⟩
    · have hd := HC'.out.setCell (i := 0) (.bool false)
      have hu := Upd.setCell (w := W') (g := w.heap.size + 1) (i := 0) (.bool false)
      have hF3 : FrQ Q w (W'.setCell ⟨w.heap.size + 1, 0, none⟩ (.bool false)) := hFw.trans (((HF.out.trans HFr.out).less hq1).trans ⟨fun j hj => hu.block j (fun e => by have := HQ.out j hj; omega), Nat.le_of_eq hu.size.symm⟩)
      have hb3 := hK.less _ _ Q _ (hK.upd hbk hu (hqn _ (by omega) hC1.lt)) hq1
      exact ⟨HKo.out.trans ((KeepsOthers.setCell _ _ _).from _), rfl, hF3, hd, by rw [List.map_append, ← List.append_assoc]; exact hb3⟩
  case done =>
    rintro D ys W hD rfl ⟨hF, hi⟩ hKd
    have hCl : Holds W (w.heap.size + 1) [.bool false] := hF.holds (hqn _ (by omega) hC1.lt) hC1
    have cc := hCl.cell (i := 0) rfl
    have cf := hCl.free 0
    have hd := hCl.setCell (i := 0) (.bool true)
    have hu := Upd.setCell (w := W) (g := w.heap.size + 1) (i := 0) (.bool true)
    have hKd' : (W.setCell ⟨w.heap.size + 1, 0, none⟩ (.bool true)).heap[D]? = some (.deferred (some [])) := (hu.block D (by have := hC1.lt; omega)).trans hKd
    have hKD := Lib.hid hKd'
    have hcc := (hd.same (w' := (W.setCell ⟨w.heap.size + 1, 0, none⟩ (.bool true)).putObj D (.deferred none)) (World.putObj_heap_other (by have := hC1.lt; omega))).cell (i := 0) rfl
    have hI2 := hI.less _ _ Q _ (hI.upd hi hu (hqn _ (by omega) hC1.lt)) hq1
    have hI3 := OwnFrom.putObj (hIo Q) (.deferred none) hI2 (Nat.le_trans hB01 hD) hKd' rfl
    have hF3 : FrQ Q w ((W.setCell ⟨w.heap.size + 1, 0, none⟩ (.bool true)).putObj D (.deferred none)) := hFw.trans ((hF.less hq1).trans ⟨fun j hj => (World.putObj_heap_other (by have := HQ.out j hj; have := hbw.size; omega)).trans (hu.block j (fun e => by have := HQ.out j hj; omega)), by simp [hu.size]⟩)
    have HI3 := Lib.hid hI3
    have HF3 := Lib.hid hF3
    have HCC := Lib.hid hcc
    clear hI2 hI3 hF3 hcc hKd' hKd hu hd
    gi_wp2
    refine ⟨by simp, .inl ⟨_, _, rfl, run_takeDeferred hKD.out, ?_⟩⟩
    exact ⟨.bool true, by simp [results, Try.results72, go_sem, HCC.out], HF3.out, .inl ⟨rfl, HI3.out⟩⟩
  case stop =>
    rintro D c ys W hD ⟨p, x, q, hpq, rfl⟩ ⟨rfl, hF, hC, hbk⟩ hKd
    have hcc := (hC.same (w' := W.putObj D (.deferred none)) (World.putObj_heap_other (by have := hC1.lt; omega))).cell (i := 0) rfl
    have hI3 := OwnFrom.putObj (hKo Q) (.deferred none) hbk (Nat.le_trans hB01 hD) hKd rfl
    have hF3 : FrQ Q w (W.putObj D (.deferred none)) := hF.trans ⟨fun j hj => World.putObj_heap_other (by have := HQ.out j hj; have := hbw.size; omega), by simp⟩
    gi_wp2
    refine ⟨by simp, .inl ⟨_, _, rfl, run_takeDeferred hKd, ?_⟩⟩
    refine ⟨.bool false, by simp [results, Try.results72, go_sem, hcc], hF3, .inr ⟨rfl, p.map newCh, newCh x, q.map newCh, ?_, ?_⟩⟩
    · rw [hpq, List.map_append]; rfl
    · rw [List.map_append, ← List.append_assoc] at hI3; exact hI3
end Go.Proofs.Ytmhhejpokgdjoaa
namespace Go.Proofs.Ytmhhejpokgdjoaa
open Go Go.RowKit
set_option linter.unusedVariables false

theorem get_kid {d : Nat} (t : Tr (d + 1)) (r : Nat) : t.get r = (t.kid (dF r d)).get r := rfl
theorem mem_difs : ∀ {d : Nat} (a b : Tr d) (h : Nat) (c : Ch), c ∈ difs a b h ↔ ∃ r, r < 16 ^ d ∧ c = (h + r, a.get r, b.get r) ∧ a.get r ≠ b.get r
  | 0, a, b, h, c => by
    have hv : ∀ (t : Tr 0) (r : Nat), t.get r = val0 t := fun t r => rfl
    show c ∈ (if val0 a = val0 b then [] else [(h, val0 a, val0 b)]) ↔ _
    constructor
    · intro hm
      split at hm
      · cases hm
      · rename_i hne
        simp only [List.mem_singleton] at hm
        exact ⟨0, by simp, by rw [hm]; rfl, hne⟩
    · rintro ⟨r, hr, rfl, hne⟩
      have : r = 0 := by simpa using hr
      subst this
      rw [hv, hv] at *
      rw [if_neg hne]
      exact List.mem_singleton.2 rfl
  | d + 1, a, b, h, c => by
    have hpos : 0 < 16 ^ d := Nat.pow_pos (by decide)
    show c ∈ allF.flatMap _ ↔ _
    simp only [List.mem_flatMap]
    constructor
    · rintro ⟨i, _, hi⟩
      obtain ⟨r, hr, rfl, hne⟩ := (mem_difs (a.kid i) (b.kid i) _ c).1 hi
      have h1 : (i.val + 1) * 16 ^ d ≤ 16 * 16 ^ d := Nat.mul_le_mul_right _ i.isLt
      rw [Nat.add_mul, Nat.one_mul] at h1
      have hdiv : (i.val * 16 ^ d + r) / 16 ^ d = i.val := by
        rw [Nat.mul_comm, Nat.mul_add_div hpos, Nat.div_eq_of_lt hr]; rfl
      have hdF : dF (i.val * 16 ^ d + r) d = i := by
        apply Fin.ext
        show (i.val * 16 ^ d + r) / 16 ^ d % 16 = i.val
        rw [hdiv, Nat.mod_eq_of_lt i.isLt]
      have hg : ∀ t : Tr (d + 1), t.get (i.val * 16 ^ d + r) = (t.kid i).get r := by
        intro t
        rw [get_kid, hdF, ← Tr.get_mod (t.kid i), Nat.mul_comm, Nat.mul_add_mod, Nat.mod_eq_of_lt hr]
      refine ⟨i.val * 16 ^ d + r, by rw [Nat.pow_succ]; omega, ?_, ?_⟩
      · rw [hg, hg, Nat.add_assoc]
      · rw [hg, hg]; exact hne
    · rintro ⟨r, hr, rfl, hne⟩
      have hlt : r / 16 ^ d < 16 := by
        rw [Nat.div_lt_iff_lt_mul hpos, Nat.mul_comm, ← Nat.pow_succ]; exact hr
      have hdF : dF r d = ⟨r / 16 ^ d, hlt⟩ := by
        apply Fin.ext
        show r / 16 ^ d % 16 = r / 16 ^ d
        exact Nat.mod_eq_of_lt hlt
      have hg : ∀ t : Tr (d + 1), (t.kid ⟨r / 16 ^ d, hlt⟩).get (r % 16 ^ d) = t.get r := by
        intro t
        rw [Tr.get_mod, get_kid, hdF]
      refine ⟨⟨r / 16 ^ d, hlt⟩, List.mem_finRange _, ?_⟩
      rw [mem_difs]
      refine ⟨r % 16 ^ d, Nat.mod_lt _ hpos, ?_, ?_⟩
      · rw [hg, hg]
        have := Nat.div_add_mod r (16 ^ d)
        rw [Nat.mul_comm] at this
        have h2 : h + r = h + r / 16 ^ d * 16 ^ d + r % 16 ^ d := by rw [Nat.add_assoc, this]
        rw [← h2]
      · rw [hg, hg]; exact hne
def SrtC (l : List Ch) : Prop := l.Pairwise fun x y => x.1 < y.1
theorem difs_range {d : Nat} {a b : Tr d} {h : Nat} {c : Ch} (hc : c ∈ difs a b h) : h ≤ c.1 ∧ c.1 < h + 16 ^ d := by
  obtain ⟨r, hr, rfl, _⟩ := (mem_difs a b h c).1 hc
  exact ⟨Nat.le_add_right _ _, Nat.add_lt_add_left hr _⟩
theorem difsK_srt {d : Nat} (a b : Tr (d + 1)) (h : Nat) (hf : ∀ i h, SrtC (difs (a.kid i) (b.kid i) h)) : ∀ k, k ≤ 16 → SrtC (difsK a b h k) ∧ ∀ e ∈ difsK a b h k, e.1 < h + k * 16 ^ d
  | 0, _ => ⟨List.Pairwise.nil, fun e he => by cases he⟩
  | k + 1, hk => by
    obtain ⟨h1, h2⟩ := difsK_srt a b h hf k (by omega)
    rw [difsK_succ a b h k (by omega)]
    refine ⟨List.pairwise_append.2 ⟨h1, hf _ _, fun x hx y hy => ?_⟩, fun e he => ?_⟩
    · have := h2 x hx
      have := (difs_range hy).1
      omega
    · rw [Nat.add_mul, Nat.one_mul]
      rcases List.mem_append.1 he with he | he
      · exact Nat.lt_of_lt_of_le (h2 e he) (Nat.add_le_add_left (Nat.le_add_right _ _) _)
      · have := (difs_range he).2
        omega
theorem difs_srt : ∀ {d : Nat} (a b : Tr d) (h : Nat), SrtC (difs a b h)
  | 0, a, b, h => by
    show SrtC (if val0 a = val0 b then [] else [(h, val0 a, val0 b)])
    split
    · exact List.Pairwise.nil
    · exact List.pairwise_singleton _ _
  | d + 1, a, b, h => by
    rw [← difsK_all]
    exact (difsK_srt a b h (fun i h => difs_srt _ _ h) 16 (by omega)).1
def swapC (c : Ch) : Ch := (c.1, c.2.2, c.2.1)
theorem difs_swap : ∀ {d : Nat} (a b : Tr d) (h : Nat), difs b a h = (difs a b h).map swapC
  | 0, a, b, h => by
    show (if val0 b = val0 a then [] else [(h, val0 b, val0 a)]) = List.map swapC (if val0 a = val0 b then [] else [(h, val0 a, val0 b)])
    by_cases he : val0 a = val0 b
    · rw [if_pos he, if_pos he.symm]; rfl
    · rw [if_neg he, if_neg (fun e => he e.symm)]; rfl
  | d + 1, a, b, h => by
    show (allF.flatMap fun i => difs (b.kid i) (a.kid i) (h + i.val * 16 ^ d)) = (allF.flatMap fun i => difs (a.kid i) (b.kid i) (h + i.val * 16 ^ d)).map swapC
    rw [List.map_flatMap]
    congr 1
    funext i
    exact difs_swap _ _ _
theorem flatMap_len {α β γ δ : Type} (F : α → List β) (G : α → List γ) (H : α → List δ) : ∀ l : List α, (∀ x ∈ l, (F x).length ≤ (G x).length + (H x).length) → (l.flatMap F).length ≤ (l.flatMap G).length + (l.flatMap H).length
  | [], _ => Nat.zero_le _
  | x :: l, h => by
    have h1 := h x (by simp)
    have h2 := flatMap_len F G H l (fun y hy => h y (List.mem_cons_of_mem _ hy))
    simp only [List.flatMap_cons, List.length_append]
    omega
theorem ents_kids {d : Nat} (t : Tr (d + 1)) (h : Nat) : t.ents h = allF.flatMap fun i => (t.kid i).ents (h + i.val * 16 ^ d) := by
  cases t with
  | none =>
    have hn : ∀ (d : Nat) (h : Nat), (Tr.nil : Tr d).ents h = [] := fun d h => by cases d <;> rfl
    show [] = _
    symm
    rw [List.flatMap_eq_nil_iff]
    exact fun i _ => hn _ _
  | some p => rfl
theorem difs_len : ∀ {d : Nat} (a b : Tr d) (h : Nat), (difs a b h).length ≤ (a.ents h).length + (b.ents h).length
  | 0, a, b, h => by
    show (if val0 a = val0 b then [] else [(h, val0 a, val0 b)]).length ≤ _
    split
    · exact Nat.zero_le _
    · rename_i he
      cases a with
      | none =>
        cases b with
        | none => exact absurd rfl he
        | some q => exact Nat.le_refl _
      | some p => exact Nat.le_add_right 1 _
  | d + 1, a, b, h => by
    rw [ents_kids, ents_kids]
    exact flatMap_len _ _ _ _ (fun i _ => difs_len _ _ _)
/-- At whole maps. -/
theorem mem_difs0 {a b : Tr 8} {c : Ch} : c ∈ difs a b 0 ↔ c.1 < 4294967296 ∧ c.2.1 = a.get c.1 ∧ c.2.2 = b.get c.1 ∧ c.2.1 ≠ c.2.2 := by
  rw [mem_difs]
  constructor
  · rintro ⟨r, hr, rfl, hne⟩
    rw [Nat.zero_add]
    exact ⟨hr, rfl, rfl, hne⟩
  · rintro ⟨h1, h2, h3, h4⟩
    refine ⟨c.1, h1, ?_, ?_⟩
    · rw [Nat.zero_add, ← h2, ← h3]
    · rw [← h2, ← h3]; exact h4
theorem difs_nil_iff {a b : Tr 8} : difs a b 0 = [] ↔ a.ents 0 = b.ents 0 := by
  constructor
  · intro h
    refine eq_of_look (Tr.srt a 0) (Tr.srt b 0) (fun q => ?_)
    by_cases hq : q < 4294967296
    · rw [look_ents a q hq, look_ents b q hq]
      apply Classical.byContradiction
      intro hne
      have : (q, a.get q, b.get q) ∈ difs a b 0 := mem_difs0.2 ⟨hq, rfl, rfl, hne⟩
      rw [h] at this
      cases this
    · rw [look_none (Tr.srt a 0) (fun e he => by have := (mem_ents0.1 he).1; omega), look_none (Tr.srt b 0) (fun e he => by have := (mem_ents0.1 he).1; omega)]
  · intro h
    refine difs_alike a b 0 ?_
    intro k
    rw [← Tr.get_mod a, ← Tr.get_mod b]
    have hk : k % 16 ^ 8 < 4294967296 := Nat.mod_lt _ (by decide)
    rw [← look_ents a _ hk, ← look_ents b _ hk, h]
/-- What is put or dropped for one told thing. -/
def putOf (c : Ch) : Nat × V × Bool := (c.1, vOf c.2.2, c.2.2.isNone)
def layC (l : List (Nat × V)) (c : Ch) : List (Nat × V) := laidL c.1 (vOf c.2.2) c.2.2.isNone l
theorem look_layC {l : List (Nat × V)} (hs : Srt l) (c : Ch) (q : Nat) : look (layC l c) q = if q = c.1 then c.2.2 else look l q := by
  unfold layC
  rw [look_laid hs]
  by_cases h : q = c.1
  · rw [if_pos h, if_pos h]
    cases h2 : c.2.2 with
    | none => rfl
    | some v => rfl
  · rw [if_neg h, if_neg h]
theorem srt_layC {l : List (Nat × V)} (hs : Srt l) (c : Ch) : Srt (layC l c) := srt_laid _ _ _ hs
theorem look_lays : ∀ (cs : List Ch) (l : List (Nat × V)), Srt l → SrtC cs → Srt (cs.foldl layC l) ∧ ∀ q, look (cs.foldl layC l) q = match cs.find? (fun c => c.1 == q) with | some c => c.2.2 | none => look l q
  | [], l, hs, _ => ⟨hs, fun q => rfl⟩
  | c :: cs, l, hs, hc => by
    obtain ⟨h1, h2⟩ := List.pairwise_cons.1 hc
    obtain ⟨h3, h4⟩ := look_lays cs (layC l c) (srt_layC hs c) h2
    refine ⟨h3, fun q => ?_⟩
    rw [List.foldl_cons, h4 q, List.find?_cons]
    by_cases hq : c.1 = q
    · rw [show (c.1 == q) = true by simpa using hq]
      have : cs.find? (fun c => c.1 == q) = none := by
        rw [List.find?_eq_none]
        intro x hx
        have := h1 x hx
        simp
        omega
      rw [this]
      dsimp only
      rw [look_layC hs, if_pos hq.symm]
    · rw [show (c.1 == q) = false by simpa using hq]
      dsimp only
      rw [look_layC hs, if_neg (fun e => hq e.symm)]
/-- Laid into the one, what Diff tells makes the other. -/
theorem lays_difs (a b : Tr 8) : (difs a b 0).foldl layC (a.ents 0) = b.ents 0 := by
  obtain ⟨h1, h2⟩ := look_lays (difs a b 0) (a.ents 0) (Tr.srt a 0) (difs_srt a b 0)
  refine eq_of_look h1 (Tr.srt b 0) (fun q => ?_)
  rw [h2 q]
  cases hf : (difs a b 0).find? (fun c => c.1 == q) with
  | some c =>
    have hc := List.mem_of_find?_eq_some hf
    have hq : c.1 = q := by simpa using List.find?_some hf
    obtain ⟨h3, _, h5, _⟩ := mem_difs0.1 hc
    dsimp only
    rw [h5, ← hq, look_ents b _ h3]
  | none =>
    dsimp only
    by_cases hq : q < 4294967296
    · rw [look_ents a q hq, look_ents b q hq]
      apply Classical.byContradiction
      intro hne
      have hm : (q, a.get q, b.get q) ∈ difs a b 0 := mem_difs0.2 ⟨hq, rfl, rfl, hne⟩
      have := List.find?_eq_none.1 hf _ hm
      simp at this
    · rw [look_none (Tr.srt a 0) (fun e he => by have := (mem_ents0.1 he).1; omega), look_none (Tr.srt b 0) (fun e he => by have := (mem_ents0.1 he).1; omega)]
end Go.Proofs.Ytmhhejpokgdjoaa
namespace Go.Proofs.Ytmhhejpokgdjoaa
open Go Go.RowKit
set_option linter.unusedVariables false
set_option linter.unusedSimpArgs false

set_option maxRecDepth 100000 in
theorem diff1_walk (ba bb B1 B2 : Nat) (m1 m2 : Int) (pa pb : Value) (fn : Fn) (fst cap : Array Value) (R : Ending → World → Prop) (hR : ∀ e w, R e w → ∃ o, e = .returned (.bool o)) (w : World)
    (c1 : w.cell? ⟨B1, 0, none⟩ = some (.pointer (some ⟨ba, 0, none⟩))) (c2 : w.cell? ⟨B2, 0, none⟩ = some (.pointer (some ⟨bb, 0, none⟩))) (c3 : w.cell? ⟨ba, 0, none⟩ = some pa) (c4 : w.cell? ⟨bb, 0, none⟩ = some pb)
    (hd : Calls Try.prog 72 #[pa, pb, .int .i64 0, .int .u32 0, .func fn fst cap] w.drew R) :
    Calls Try.prog 71 #[.func fn fst cap, .pointer (some ⟨B1, 0, none⟩), .pointer (some ⟨B2, 0, none⟩)] w fun e w' => (∃ v, e = .returned v) ∧ ∃ o, R (.returned (.bool o)) w' := by
  have HD := Lib.hid hd
  clear hd
  go_enter Try.func71, Try.ntmps71
  refine rgn [0, 1, 2, 3, 4, 5, 6, 7, 8, 9] [] (by kernel_rfl) ?_
  simp only [pickL, List.getD_cons_zero, List.getD_cons_succ]
  go_wp2_with (go_at_call 72; refine HD.out.mono ?_; rintro e w1 hr; obtain ⟨o, rfl⟩ := hR _ _ hr)
  refine ⟨rfl, ?_⟩
  go_wp2
  go_returns
  exact ⟨⟨_, rfl⟩, o, hr⟩
theorem differ_0 (d : Nat) (hd : d = 7) (a b : Tr (d + 1)) (fn : Fn) (fst cap : Array Value) (N : Nat) (hN : (difs a b 0).length ≤ N) (Inv Brk : List Ch → (Nat → Prop) → World → Prop) (B0 : Nat) (hY : YdN Try.prog (.func fn fst cap) chE N B0 Inv Brk) (hI : Abide Inv) (hK : Abide Brk)
    (hIo : ∀ Q, OwnFrom B0 (fun pre W => Inv pre Q W)) (hKo : ∀ Q, OwnFrom B0 (fun pre W => Brk pre Q W)) (hB0 : ∀ pre Q W, Inv pre Q W → B0 ≤ W.heap.size) (Q : Nat → Prop) (w : World) (hQ : ∀ k, Q k → k < w.heap.size) (ha : a.at w) (hb : b.at w) (haQ : a.all Q) (hbQ : b.all Q) (h0 : Inv [] Q w) :
    Calls Try.prog 72 #[a.ptr, b.ptr, .int .i64 0, .int .u32 0, .func fn fst cap] w fun e w' => (∃ o, e = .returned (.bool o)) ∧ FrQ Q w w' ∧ (Inv (difs a b 0) Q w' ∨ ∃ p x q, difs a b 0 = p ++ x :: q ∧ Brk (p ++ [x]) Q w') := by
  have h := differ_anyF fn fst cap (difs a b 0) Inv Brk (hY.ydF hN) hI hK (nil_F fn fst cap (difs a b 0) N hN Inv Brk B0 hY hI hK hIo hKo hB0) (fun d a b w h1 h2 h3 => Tr.at_inj h1 h2 h3) d a b 0 0 [] [] Q w (by omega) hQ ha hb haQ hbQ (by simp) (by rw [hd]; decide) h0
  refine h.mono ?_
  rintro e w1 ⟨hF, ⟨rfl, hi⟩ | ⟨rfl, p, x, q, hpq, hbk⟩⟩
  · exact ⟨⟨_, rfl⟩, hF, .inl hi⟩
  · exact ⟨⟨_, rfl⟩, hF, .inr ⟨p, x, q, hpq, hbk⟩⟩
theorem diff1_F (ba bb B1 B2 : Nat) (a b : Tr 8) (na nb : Nat) (fn : Fn) (fst cap : Array Value) (N : Nat) (hN : (difs a b 0).length ≤ N) (Inv Brk : List Ch → (Nat → Prop) → World → Prop) (B0 : Nat) (hY : YdN Try.prog (.func fn fst cap) chE N B0 Inv Brk) (hI : Abide Inv) (hK : Abide Brk)
    (hIo : ∀ Q, OwnFrom B0 (fun pre W => Inv pre Q W)) (hKo : ∀ Q, OwnFrom B0 (fun pre W => Brk pre Q W)) (hB0 : ∀ pre Q W, Inv pre Q W → B0 ≤ W.heap.size) (Q : Nat → Prop) (w : World) (hQ : ∀ k, Q k → k < w.heap.size) (ha : MapAt w ba a na) (hb : MapAt w bb b nb) (haQ : a.all Q) (hbQ : b.all Q)
    (h1 : Holds w B1 [.pointer (some ⟨ba, 0, none⟩)]) (h2 : Holds w B2 [.pointer (some ⟨bb, 0, none⟩)]) (h0 : Inv [] Q w) :
    Calls Try.prog 71 #[.func fn fst cap, .pointer (some ⟨B1, 0, none⟩), .pointer (some ⟨B2, 0, none⟩)] w fun e w' => (∃ v, e = .returned v) ∧ FrQ Q w w' ∧ (Inv (difs a b 0) Q w' ∨ ∃ p x q, difs a b 0 = p ++ x :: q ∧ Brk (p ++ [x]) Q w') := by
  have h0' : Inv [] Q w.drew := hI.less _ _ Q _ (hI.below h0 (Below.refl _ _).drew) (fun j hj => .inl hj)
  have hd := differ_0 7 rfl a b fn fst cap N hN Inv Brk B0 hY hI hK hIo hKo hB0 Q w.drew hQ (Tr.at_ext (Below.refl _ _).drew ha.tree) (Tr.at_ext (Below.refl _ _).drew hb.tree) haQ hbQ h0'
  refine (diff1_walk ba bb B1 B2 0 0 a.ptr b.ptr fn fst cap _ ?_ w (h1.cell (i := 0) rfl) (h2.cell (i := 0) rfl) (ha.map.cell (i := 0) rfl) (hb.map.cell (i := 0) rfl) hd).mono ?_
  · rintro e w1 ⟨h, _⟩
    exact h
  · rintro e w1 ⟨hv, o, _, hF, hr⟩
    exact ⟨hv, ⟨fun k hk => hF.1 k hk, hF.2⟩, hr⟩
end Go.Proofs.Ytmhhejpokgdjoaa
namespace Go.Proofs.Ytmhhejpokgdjoaa
open Go Go.RowKit
set_option linter.unusedVariables false

/-- The iterator, to whatever round that leaves the blocks of Q alone. -/
def SeqF {α : Type} (P : Program) (gf : FuncId) (lb : Array Value) (enc : α → Array Value) (xs : List α) (N : Nat) (Q : Nat → Prop) (w0 : World) : Prop :=
  ∀ (l B0 : Nat) (Inv Brk : List α → (Nat → Prop) → World → Prop) (W : World), YdN P (.func (.yield l) #[] #[]) enc N B0 Inv Brk → Abide Inv → Abide Brk →
    (∀ Q, OwnFrom B0 (fun pre W => Inv pre Q W)) → (∀ Q, OwnFrom B0 (fun pre W => Brk pre Q W)) → (∀ pre Q W, Inv pre Q W → B0 ≤ W.heap.size) → Below w0.heap.size w0 W → Inv [] Q W →
    Calls P gf (#[.func (.yield l) #[] #[]] ++ lb) W fun e W' => (∃ v, e = .returned v) ∧ FrQ Q W W' ∧ (Inv xs Q W' ∨ ∃ p x q, xs = p ++ x :: q ∧ Brk (p ++ [x]) Q W')
def postQ {α : Type} (B : Nat) (I : List α → (Nat → Prop) → World → Prop) (Ix : Code → List α → (Nat → Prop) → World → Prop) (xs : List α) (Q : Nat → Prop) (W : World) : Exit → Act → World → Prop
  | .normal, _, W' => KeepsFrom B W W' ∧ FrQ Q W W' ∧ I xs Q W'
  | .ret, _, W' => KeepsFrom B W W' ∧ FrQ Q W W' ∧ Ix .ret xs Q W'
  | .exit id, _, W' => KeepsFrom B W W' ∧ FrQ Q W W' ∧ Ix (.exit id) xs Q W'
  | .goto t, _, W' => KeepsFrom B W W' ∧ FrQ Q W W' ∧ Ix (.goto t) xs Q W'
  | .panic _, _, _ => False
  | .outgrown, _, _ => False
theorem frQ_put {Q : Nat → Prop} {W : World} {l : Nat} {o : Obj} (h : ¬ Q l) : FrQ Q W (W.putObj l o) := ⟨fun k hk => World.putObj_heap_other (fun e => h (e ▸ hk)), by simp⟩
/-- What the loop's own two blocks hold, beside what is the caller's. -/
def WithRec {α : Type} (l D : Nat) (r : Loop) (I : List α → (Nat → Prop) → World → Prop) (pre : List α) (Q : Nat → Prop) (W : World) : Prop :=
  I pre Q W ∧ W.heap[l]? = some (.loop r) ∧ W.heap[D]? = some (.deferred (some [])) ∧ ¬ Q l ∧ ¬ Q D
theorem withRec_abide {α : Type} {l D : Nat} {r : Loop} {I : List α → (Nat → Prop) → World → Prop} (h : Abide I) : Abide (WithRec l D r I) where
  turn := by
    rintro pre Q W W' ⟨h1, h2, h3, h4, h5⟩ hs hsz e1 e2 e3
    have hl := (Array.getElem?_eq_some_iff.1 h2).1
    have hD := (Array.getElem?_eq_some_iff.1 h3).1
    refine ⟨h.turn pre Q W W' h1 hs hsz e1 e2 e3, (hs l hl h4).trans h2, (hs D hD h5).trans h3, ?_, ?_⟩
    · rintro (h' | ⟨h', _⟩)
      · exact h4 h'
      · omega
    · rintro (h' | ⟨h', _⟩)
      · exact h5 h'
      · omega
  less := by
    rintro pre Q Q' W ⟨h1, h2, h3, h4, h5⟩ hq
    exact ⟨h.less pre Q Q' W h1 hq, h2, h3, fun h' => h4 (hq _ h'), fun h' => h5 (hq _ h')⟩
theorem withRec_own {α : Type} {l D B B1 : Nat} {r : Loop} {I : List α → (Nat → Prop) → World → Prop} (h : ∀ Q, OwnFrom B (fun pre W => I pre Q W)) (hl : l < B1) (hD : D < B1) (hB : B ≤ B1) (Q : Nat → Prop) : OwnFrom B1 (fun pre W => WithRec l D r I pre Q W) := by
  rintro pre W W' row ⟨h1, h2, h3, h4, h5⟩ hg hr
  refine ⟨h Q pre W W' row h1 hg (fun r e => ⟨Nat.le_trans hB (hr r e).1, (hr r e).2⟩), ?_, ?_, h4, h5⟩
  · exact (hg.block l (Array.getElem?_eq_some_iff.1 h2).1 (fun e => by have := (hr l e.symm).1; omega)).trans h2
  · exact (hg.block D (Array.getElem?_eq_some_iff.1 h3).1 (fun e => by have := (hr D e.symm).1; omega)).trans h3
def ExC {α : Type} (l D : Nat) (rc : Code → Loop) (Ix : Code → List α → (Nat → Prop) → World → Prop) (pre : List α) (Q : Nat → Prop) (W : World) : Prop := ∃ c, WithRec l D (rc c) (Ix c) pre Q W
theorem exC_abide {α : Type} {l D : Nat} {rc : Code → Loop} {Ix : Code → List α → (Nat → Prop) → World → Prop} (h : ∀ c, Abide (Ix c)) : Abide (ExC l D rc Ix) where
  turn := by
    rintro pre Q W W' ⟨c, h1⟩ hs hsz e1 e2 e3
    exact ⟨c, (withRec_abide (h c)).turn pre Q W W' h1 hs hsz e1 e2 e3⟩
  less := by
    rintro pre Q Q' W ⟨c, h1⟩ hq
    exact ⟨c, (withRec_abide (h c)).less pre Q Q' W h1 hq⟩
set_option maxHeartbeats 1600000 in
theorem wpIn_rangeFunc_Q {α : Type} {n : Nat} {P : Program} {g : Operand} {ps : Array Tmp} {assign body : Code} {Q : Exit → Act → World → Prop} {a : Act} {w : World}
    (h1 : 1 ≤ n) {gf : Nat} {lb : Array Value} (hg : a.eval g = .func (.func gf) #[] lb) (eg : ∀ args w, (callFunc gf args).run P w = .ok (.enter gf args) w)
    {encs : α → Array Value} {xs : List α} {N : Nat} {Q0 : Nat → Prop} (hseq : SeqF P gf lb encs xs N Q0 w) (hQ0 : ∀ k, Q0 k → k < w.heap.size) (hps : ∀ x, (encs x).size = ps.size)
    (I : List α → (Nat → Prop) → World → Prop) (Ix : Code → List α → (Nat → Prop) → World → Prop) (B : Nat) (hB : B ≤ w.heap.size) (hI : Abide I) (hIx : ∀ c, Abide (Ix c)) (hIo : ∀ Q, OwnFrom B (fun pre W => I pre Q W)) (hIxo : ∀ c Q, OwnFrom B (fun pre W => Ix c pre Q W)) (h0 : I [] Q0 w) (Ax : α → Act → World → Prop) (hAx : ∀ x a', OwnFrom w.heap.size (fun (_ : Unit) W => Ax x a' W))
    (hassign : ∀ (l : Nat) (pre : List α) (x : α) (Q : Nat → Prop) (W : World) (K : Act → World → Prop), I pre Q W → w.heap.size ≤ W.heap.size → (∀ a' W', KeepsFrom w.heap.size W W' → FrQ Q W W' → I pre Q W' → Ax x a' W' → K a' W') →
      assign.wpIn (Fence.wide.inRound l) (n - 1 - 1) P (Exit.then K (fun _ _ _ => False)) { tmps := (ps.zip (encs x)).foldl (fun t (p, v) => t.setIfInBounds p v) a.tmps, defers := [] } W)
    (hbody : ∀ (l : Nat) (pre : List α) (x : α) (Q : Nat → Prop) (a' : Act) (W : World), I pre Q W → Ax x a' W → pre.length < N → w.heap.size ≤ W.heap.size → body.wpIn (Fence.wide.inRound l) (n - 1 - 1) P (postQ w.heap.size I Ix (pre ++ [x]) Q W) a' W)
    (hdone : ∀ (D : Nat) (W : World), w.heap.size ≤ D → FrQ Q0 w W → I xs Q0 W → W.heap[D]? = some (.deferred (some [])) → Q .normal { a with defers := { target := .collected D, args := #[] } :: a.defers } W)
    (hstop : ∀ (D : Nat) (c : Code) (p : List α) (x : α) (q : List α) (W : World), w.heap.size ≤ D → xs = p ++ x :: q → FrQ Q0 w W → Ix c (p ++ [x]) Q0 W → W.heap[D]? = some (.deferred (some [])) → c.wpIn Fence.wide n P Q { a with defers := { target := .collected D, args := #[] } :: a.defers } W) :
    (Code.rangeFunc g ps assign body).wpIn Fence.wide n P Q a w := by
  refine wpIn_rangeFunc ?_
  intro fn hfn
  rw [show Fence.wide.round = none from rfl]
  obtain ⟨rec, hrec⟩ : ∃ rec : LoopState → Option Code → Loop, rec = fun st pe => { state := st, pending := pe, fn, tmps := a.tmps, params := ps, assign, body, defers := w.heap.size } := ⟨_, rfl⟩
  obtain ⟨W1, hW1⟩ : ∃ W1, (w.alloc (.deferred (some []))).alloc (.loop (rec .ready none)) = W1 := ⟨_, rfl⟩
  have hL1 : W1.heap[w.heap.size + 1]? = some (.loop (rec .ready none)) := by
    rw [← hW1]; have := World.alloc_heap_new (w.alloc (.deferred (some []))) (.loop (rec .ready none)); rwa [World.size_alloc] at this
  have hK1 : W1.heap[w.heap.size]? = some (.deferred (some [])) := by
    rw [← hW1]; exact (Below.heap_alloc _ _ _ (by simp)).trans (World.alloc_heap_new w _)
  have hsz1 : W1.heap.size = w.heap.size + 2 := by rw [← hW1]; simp
  have hb1 : Below w.heap.size w W1 := by
    rw [← hW1]; exact (((Below.refl _ w).alloc (Nat.le_refl _) _).alloc (by simp) _)
  have hI1 : I [] Q0 W1 := by
    rw [← hW1]
    exact OwnFrom.alloc (hIo Q0) (s := []) _ (OwnFrom.alloc (hIo Q0) (s := []) _ h0)
  refine ⟨w.heap.size + 1, [{ target := .collected w.heap.size, args := #[] }], W1, { target := .fn (.func gf) lb, args := #[.func (.yield (w.heap.size + 1)) #[] #[]] }, W1, gf,
    #[.func (.yield (w.heap.size + 1)) #[] #[]] ++ lb, W1, ?_, ?_, ?_, ?_, fun _ => h1, ?_⟩
  · rw [← hW1, hrec]; exact run_enterLoop_outer _ _ _ _ _
  · simp only [resolve, hg]
    simp [go_sem]
  · intro f' hf'; exact trivial
  · simp [invoke, go_sem, eg]
  · refine (open_wide P).calls ((hseq (w.heap.size + 1) (w.heap.size + 2) (WithRec (w.heap.size + 1) w.heap.size (rec .ready none) I) (ExC (w.heap.size + 1) w.heap.size (fun c => rec .done (some c)) Ix) W1 ?yd (withRec_abide hI) (exC_abide hIx)
      (withRec_own hIo (by omega) (by omega) (by omega)) ?xo ?sz hb1 ⟨hI1, hL1, hK1, fun h => by have := hQ0 _ h; omega, fun h => by have := hQ0 _ h; omega⟩).mono ?post)
    case xo =>
      rintro Q pre W W' row ⟨c, h⟩ hg hr
      exact ⟨c, withRec_own (hIxo c) (by omega) (by omega) (by omega) Q pre W W' row h hg hr⟩
    case sz =>
      rintro pre Q W ⟨_, h2, h3, _, _⟩
      have := (Array.getElem?_eq_some_iff.1 h2).1
      omega
    case yd =>
      rintro pre x Qc W hlen ⟨hi, hl, hk, hnl, hnk⟩
      have hlt : w.heap.size + 1 < W.heap.size := (Array.getElem?_eq_some_iff.1 hl).1
      have hy := run_yield (P := P) (args := encs x) hl (by rw [hrec]; exact hps x)
      rw [hrec] at hy
      refine callV_yield (m := n - 1 - 1) ⟨fn, _, assign, body, hy, roundIn_of_wpIn hfn (hassign _ pre x Qc W _ hi (by omega) ?_)⟩
      clear hy
      intro a' Wa hkfa hfa hia hax
      replace hl := hkfa.same _ _ (by omega) hl rfl
      replace hk := hkfa.same _ _ (Nat.le_refl _) hk rfl
      replace hlt : w.heap.size + 1 < Wa.heap.size := (Array.getElem?_eq_some_iff.1 hl).1
      replace hi := hia
      clear hia
      revert hkfa hfa
      generalize W = Wb
      intro hkfa hfa
      obtain ⟨W, rfl⟩ : ∃ W, W = Wa := ⟨_, rfl⟩
      refine ⟨_, run_beginRound hl (by rw [hrec]), ?_⟩
      have hl2 : (W.putObj (w.heap.size + 1) (.loop { rec .ready none with state := .busy })).heap[w.heap.size + 1]? = some (.loop { rec .ready none with state := .busy }) := World.putObj_heap_same hlt
      have hk2 : (W.putObj (w.heap.size + 1) (.loop { rec .ready none with state := .busy })).heap[w.heap.size]? = some (.deferred (some [])) := (World.putObj_heap_other (by omega)).trans hk
      refine wpIn_mono (hbody _ pre x Qc a' _ (OwnFrom.putObj (hIo Qc) (s := pre) _ hi (by omega) hl rfl) (OwnFrom.putObj (hAx x a') (s := ()) _ hax (by omega) hl rfl) hlen (by simp; omega)) ?_
      have fin : ∀ (jump : Option Code) (W3 : World), KeepsFrom w.heap.size (W.putObj (w.heap.size + 1) (.loop { rec .ready none with state := .busy })) W3 → FrQ Qc (W.putObj (w.heap.size + 1) (.loop { rec .ready none with state := .busy })) W3 →
          (Instr.endRound (w.heap.size + 1) jump).run P W3 = .ok (.bool jump.isNone) (W3.putObj (w.heap.size + 1) (.loop (rec (if jump.isNone then .ready else .done) jump))) ∧
          W3.heap[w.heap.size + 1]? = some (.loop { rec .ready none with state := .busy }) ∧
          (W3.putObj (w.heap.size + 1) (.loop (rec (if jump.isNone then .ready else .done) jump))).heap[w.heap.size + 1]? = some (.loop (rec (if jump.isNone then .ready else .done) jump)) ∧
          (W3.putObj (w.heap.size + 1) (.loop (rec (if jump.isNone then .ready else .done) jump))).heap[w.heap.size]? = some (.deferred (some [])) ∧
          FrQ Qc W (W3.putObj (w.heap.size + 1) (.loop (rec (if jump.isNone then .ready else .done) jump))) ∧
          KeepsFrom (w.heap.size + 2) W (W3.putObj (w.heap.size + 1) (.loop (rec (if jump.isNone then .ready else .done) jump))) := fun jump W3 hk3 hf3 => by
        have hl3 := hk3.same _ _ (by omega) hl2 rfl
        have := run_endRound (P := P) jump hl3
        rw [hrec] at this ⊢
        refine ⟨this, by rw [hrec] at hl3; exact hl3, World.putObj_heap_same (Array.getElem?_eq_some_iff.1 hl3).1, (World.putObj_heap_other (by omega)).trans (hk3.same _ _ (Nat.le_refl _) hk2 rfl), ((frQ_put hnl).trans (by rw [hrec] at hf3; exact hf3)).trans (frQ_put hnl), ?_⟩
        refine ⟨by have := hk3.size; simp at this ⊢; omega, fun k o hBk hko ho => ?_⟩
        refine (World.putObj_heap_other (by omega)).trans (hk3.same k o (by omega) ((World.putObj_heap_other (by omega)).trans hko) ho)
      rintro e a3 W3 hp
      cases e with
      | normal =>
        obtain ⟨hk3, hf3, hi3⟩ := hp
        obtain ⟨hr, hl3, hl4, hk4, hf4, hg4⟩ := fin none W3 hk3 hf3
        exact ⟨_, _, hr, hfa.trans hf4, (KeepsFrom.more hkfa (by omega)).trans hg4, .inl ⟨rfl, OwnFrom.putObj (hIo Qc) (s := pre ++ [x]) _ hi3 (by omega) hl3 rfl, hl4, hk4, hnl, hnk⟩⟩
      | ret =>
        obtain ⟨hk3, hf3, hi3⟩ := hp
        obtain ⟨hr, hl3, hl4, hk4, hf4, hg4⟩ := fin (some .ret) W3 hk3 hf3
        exact ⟨_, _, hr, hfa.trans hf4, (KeepsFrom.more hkfa (by omega)).trans hg4, .inr ⟨rfl, .ret, OwnFrom.putObj (hIxo .ret Qc) (s := pre ++ [x]) _ hi3 (by omega) hl3 rfl, hl4, hk4, hnl, hnk⟩⟩
      | exit id =>
        obtain ⟨hk3, hf3, hi3⟩ := hp
        obtain ⟨hr, hl3, hl4, hk4, hf4, hg4⟩ := fin (some (.exit id)) W3 hk3 hf3
        exact ⟨_, _, hr, hfa.trans hf4, (KeepsFrom.more hkfa (by omega)).trans hg4, .inr ⟨rfl, .exit id, OwnFrom.putObj (hIxo (.exit id) Qc) (s := pre ++ [x]) _ hi3 (by omega) hl3 rfl, hl4, hk4, hnl, hnk⟩⟩
      | goto t =>
        obtain ⟨hk3, hf3, hi3⟩ := hp
        obtain ⟨hr, hl3, hl4, hk4, hf4, hg4⟩ := fin (some (.goto t)) W3 hk3 hf3
        exact ⟨_, _, hr, hfa.trans hf4, (KeepsFrom.more hkfa (by omega)).trans hg4, .inr ⟨rfl, .goto t, OwnFrom.putObj (hIxo (.goto t) Qc) (s := pre ++ [x]) _ hi3 (by omega) hl3 rfl, hl4, hk4, hnl, hnk⟩⟩
      | panic ch => exact hp.elim
      | outgrown => exact hp.elim
    case post =>
      have hq1 : ∀ {W2 : World} {o : Obj}, FrQ Q0 W1 W2 → FrQ Q0 w (W2.putObj (w.heap.size + 1) o) := fun h => ((FrQ.below hb1 hQ0).trans h).trans (frQ_put fun h => by have := hQ0 _ h; omega)
      rintro e W2 ⟨⟨v, rfl⟩, hF, (⟨hi, hl, hk, _, _⟩ | ⟨p, x, q, hpq, c, hi, hl, hk, _, _⟩)⟩
      · exact ⟨none, _, by have := run_endLoop (P := P) hl (by rw [hrec]; simp); rw [hrec] at this; exact this, hdone _ _ (Nat.le_refl _) (hq1 hF) (OwnFrom.putObj (hIo Q0) (s := xs) _ hi (by omega) hl rfl) ((World.putObj_heap_other (by omega)).trans hk)⟩
      · exact ⟨some c, _, by have := run_endLoop (P := P) hl (by rw [hrec]; simp); rw [hrec] at this; exact this, hstop _ c p x q _ (Nat.le_refl _) hpq (hq1 hF) (OwnFrom.putObj (hIxo c Q0) (s := p ++ [x]) _ hi (by omega) hl rfl) ((World.putObj_heap_other (by omega)).trans hk)⟩
end Go.Proofs.Ytmhhejpokgdjoaa
