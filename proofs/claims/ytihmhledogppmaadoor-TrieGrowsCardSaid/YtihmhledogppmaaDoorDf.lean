/- The walk of trie.differ over two trees that hold the same: it tells nothing. -/
import Derived.Test.YtihmhledogppmaaDoorTo
import Derived.Test.YtihmhledogppmaaDoorSb
namespace Go.Proofs.YtihmhledogppmaaDoor
open Go Go.RowKit
set_option linter.unusedVariables false
set_option linter.unusedSimpArgs false

theorem leaf_any (a : Tr 1) (k : Fin 16) (w : World) (h : a.at w) : Calls Tryd.prog 65 #[a.ptr, .int .i64 (k.val : Nat)] w fun e w' => e = .returned (a.kid k).ptr ∧ w = w' := by
  cases a with
  | none =>
    rw [Tr.ptr_none]
    go_enter Tryd.func65, Tryd.ntmps65
    go_wp2
    go_returns
    exact ⟨rfl, rfl⟩
  | some p =>
    obtain ⟨b, f⟩ := p
    rw [Tr.ptr_some]
    have hc : w.cell? ⟨b, 16 + k.val, none⟩ = some (f k).ptr := Holds.cell h.1 (leaf_cell f k)
    rw [show Tr.kid (d := 0) (some (b, f)) k = f k from rfl]
    generalize (f k).ptr = v at hc ⊢
    obtain ⟨k, hk⟩ := k
    dsimp only at hc ⊢
    clear h
    go_enter Tryd.func65, Tryd.ntmps65
    go_wp2
    go_returns
    exact ⟨rfl, rfl⟩
/-- Two trees that hold the same. -/
def Alike {d : Nat} (a b : Tr d) : Prop := ∀ k, a.get k = b.get k
theorem alike_kid {d : Nat} {a b : Tr (d + 1)} (h : Alike a b) (i : Fin 16) : Alike (a.kid i) (b.kid i) := by
  intro k
  have hp : 0 < 16 ^ d := Nat.pow_pos (by decide)
  have hd : dF (i.val * 16 ^ d + k % 16 ^ d) d = i := by
    apply Fin.ext
    show (i.val * 16 ^ d + k % 16 ^ d) / 16 ^ d % 16 = i.val
    rw [Nat.mul_comm, Nat.mul_add_div hp, Nat.div_eq_of_lt (Nat.mod_lt _ hp), Nat.add_zero, Nat.mod_eq_of_lt i.isLt]
  have hm : (i.val * 16 ^ d + k % 16 ^ d) % 16 ^ d = k % 16 ^ d := by
    rw [Nat.mul_comm, Nat.mul_add_mod, Nat.mod_mod]
  have := h (i.val * 16 ^ d + k % 16 ^ d)
  have e : ∀ t : Tr (d + 1), t.get (i.val * 16 ^ d + k % 16 ^ d) = (t.kid i).get k := by
    intro t
    show (t.kid (dF (i.val * 16 ^ d + k % 16 ^ d) d)).get _ = _
    rw [hd, ← Tr.get_mod (t.kid i), hm, Tr.get_mod]
  rw [e a, e b] at this
  exact this
theorem cl_some {d : Nat} {b : Tr d} (hc : b.Cl) (hb : b.blk ≠ none) : ∃ k, (b.get k).isSome = true := by
  have h := Tr.cl_ents 0 hc hb
  cases he : b.ents 0 with
  | nil => exact absurd he h
  | cons x l =>
    obtain ⟨r, _, _, hg⟩ := (Tr.mem_ents b 0 x.1 x.2).1 (by rw [he]; exact List.mem_cons_self)
    exact ⟨r, by rw [hg]; rfl⟩
theorem alike_nil {d : Nat} {b : Tr (d + 1)} (h : Alike (d := d + 1) none b) (hc : b.Cl) : b = none := by
  cases b with
  | none => rfl
  | some p =>
    obtain ⟨k, hk⟩ := cl_some (d := d + 1) (b := some p) hc (by simp [Tr.blk])
    rw [← h k, Tr.get_none] at hk
    cases hk
theorem alike_val {a b : Tr 0} (h : Alike a b) : val0 a = val0 b := h 0
theorem alike_symm {d : Nat} {a b : Tr d} (h : Alike a b) : Alike b a := fun k => (h k).symm
set_option maxRecDepth 100000 in
set_option maxHeartbeats 1600000 in
theorem differ_eq (o : Option Addr) (fn : Fn) (fst cap : Array Value) (lv : Int) (head : Nat) (w : World) (hE : ∀ w, (binOp .eql 77 (.pointer o) (.pointer o)).run Tryd.prog w = .ok (.bool true) w) :
    Calls Tryd.prog 62 #[.pointer o, .pointer o, .int .i64 lv, .int .u32 (head : Nat), .func fn fst cap] w fun e w' => e = .returned (.bool true) ∧ Below w.heap.size w w' := by
  go_enter Tryd.func62, Tryd.ntmps62
  go_wp2
  have hc := ((two_blocks w [.func fn fst cap] [.bool true] 115 4).2.2).cell (i := 0) rfl
  have hb := (two_blocks w [.func fn fst cap] [.bool true] 115 4).1
  refine bodyPost_ret (v := .bool true) (by simp [results, Tryd.results62, go_sem]) rfl ?_
  exact ⟨rfl, hb⟩
set_option maxRecDepth 100000 in
set_option maxHeartbeats 1600000 in
theorem differ_low (ba bb : Nat) (f g : Fin 16 → Tr 0) (fn : Fn) (fst cap : Array Value) (head : Nat) (w : World) (ha : Tr.at (d := 1) w (some (ba, f))) (hb : Tr.at (d := 1) w (some (bb, g))) (hne : ba ≠ bb) (hal : ∀ i, Alike (f i) (g i)) (hh : head + 16 ≤ 4294967296) :
    Calls Tryd.prog 62 #[.pointer (some ⟨ba, 0, none⟩), .pointer (some ⟨bb, 0, none⟩), .int .i64 7, .int .u32 (head : Nat), .func fn fst cap] w fun e w' => e = .returned (.bool true) ∧ Below w.heap.size w w' := by
  obtain ⟨b0, r0, c0⟩ := two_blocks w [.func fn fst cap] [.bool false] 115 4
  have hE := eql_node (some (ba, f) : Tr 1) bb _ _ (Tr.at_ext b0 ha) (hb.1.ext b0) (by simpa [Tr.blk] using hne)
  rw [Tr.ptr_some] at hE
  have HA := Lib.hid ha
  have HB := Lib.hid hb
  have HAL := Lib.hid hal
  have B0 := Lib.hid b0
  have R0 := Lib.hid r0
  have C0 := Lib.hid c0
  clear ha hb hne hal b0 r0 c0
  go_enter Tryd.func62, Tryd.ntmps62
  go_wp2
  go_loopw [44] (fun i wr => ∃ k : Nat, i = .int .i64 (k : Int) ∧ k ≤ 16 ∧ Below w.heap.size w wr ∧ Holds wr w.heap.size [.func fn fst cap] ∧ Holds wr (w.heap.size + 1) [.bool false]) (fun i _ => 16 - (intOf i).toNat)
  case atStart => exact ⟨0, rfl, by omega, B0.out, R0.out, C0.out⟩
  case round =>
    obtain ⟨k, rfl, hk, hB, hR, hC⟩ := hrel
    by_cases hk16 : k < 16
    · have hA1 := Tr.at_ext hB HA.out
      have hB1 := Tr.at_ext hB HB.out
      have h1 := leaf_any (some (ba, f) : Tr 1) ⟨k, hk16⟩ wr hA1
      have h2 := leaf_any (some (bb, g) : Tr 1) ⟨k, hk16⟩ wr hB1
      rw [Tr.ptr_some, show Tr.kid (d := 0) (some (ba, f)) ⟨k, hk16⟩ = f ⟨k, hk16⟩ from rfl] at h1
      rw [Tr.ptr_some, show Tr.kid (d := 0) (some (bb, g)) ⟨k, hk16⟩ = g ⟨k, hk16⟩ from rfl] at h2
      dsimp only at h1 h2
      have hl1 := Lib.hid h1
      have hl2 := Lib.hid h2
      have hv := alike_val (HAL.out ⟨k, hk16⟩)
      have hto := told_any (head + k) (f ⟨k, hk16⟩) (g ⟨k, hk16⟩) wr (hA1.2 _) (hB1.2 _)
      rw [hv, decide_eq_false (by simp)] at hto
      simp only [chCells] at hto
      have HTO := Lib.hid hto
      have HBw := Lib.hid hB
      have HRw := Lib.hid hR
      have HCw := Lib.hid hC
      clear hA1 hB1 hv hto hB hR hC h1 h2
      go_wp2_with fail
      refine hl1.out.mono ?_
      rintro e w1 ⟨rfl, rfl⟩
      go_wp2_with fail
      refine hl2.out.mono ?_
      rintro e w1 ⟨rfl, rfl⟩
      generalize Tr.ptr (f ⟨k, hk16⟩) = pf at HTO ⊢
      generalize Tr.ptr (g ⟨k, hk16⟩) = pg at HTO ⊢
      go_wp2_with fail
      refine HTO.out.mono ?_
      rintro e w2 ⟨rfl, hb2⟩
      have H2 := Lib.hid (HBw.out.trans (hb2.mono HBw.out.size))
      have R2 := Lib.hid (HRw.out.ext hb2)
      have C2 := Lib.hid (HCw.out.ext hb2)
      clear hb2 HBw HRw HCw hl1 hl2 HTO
      go_wp2
      go_roundw
      case rel => exact ⟨k + 1, by go_num, by omega, H2.out.alloc H2.out.size _, R2.out.ext ((Below.refl _ _).alloc (Nat.le_refl _) _), C2.out.ext ((Below.refl _ _).alloc (Nat.le_refl _) _)⟩
      case measure => simp [intOf]; omega
    · obtain rfl : k = 16 := by omega
      have hf := hC.free 0
      have hc := hC.cell (i := 0) rfl
      have HBw := Lib.hid hB
      have hd := hC.setCell (i := 0) (.bool true)
      have hcc := hd.cell (i := 0) rfl
      go_wp2
      refine bodyPost_ret (v := .bool true) (by simp [results, Tryd.results62, go_sem, hcc]) rfl ?_
      exact ⟨rfl, HBw.out.trans ((Upd.setCell _).below (by omega))⟩
set_option maxRecDepth 100000 in
set_option maxHeartbeats 1600000 in
theorem differ_high {d : Nat} (ba bb : Nat) (f g : Fin 16 → Tr (d + 1)) (fn : Fn) (fst cap : Array Value) (lv head : Nat) (w : World) (hlv : lv + (d + 1) = 7) (ha : Tr.at (d := d + 2) w (some (ba, f))) (hb : Tr.at (d := d + 2) w (some (bb, g))) (hne : ba ≠ bb)
    (ih : ∀ (i : Fin 16) (h : Nat) (W : World), Below w.heap.size w W → h + 16 ^ (d + 1) ≤ 4294967296 → Calls Tryd.prog 62 #[(f i).ptr, (g i).ptr, .int .i64 ((lv : Int) + 1), .int .u32 (h : Nat), .func fn fst cap] W fun e w' => e = .returned (.bool true) ∧ Below W.heap.size W w')
    (hh : head + 16 ^ (d + 2) ≤ 4294967296) :
    Calls Tryd.prog 62 #[.pointer (some ⟨ba, 0, none⟩), .pointer (some ⟨bb, 0, none⟩), .int .i64 (lv : Nat), .int .u32 (head : Nat), .func fn fst cap] w fun e w' => e = .returned (.bool true) ∧ Below w.heap.size w w' := by
  obtain ⟨b0, r0, c0⟩ := two_blocks w [.func fn fst cap] [.bool false] 115 4
  have hE := eql_node (some (ba, f) : Tr (d + 2)) bb _ _ (Tr.at_ext b0 ha) (hb.1.ext b0) (by simpa [Tr.blk] using hne)
  rw [Tr.ptr_some] at hE
  have hl6 : lv ≤ 6 := by omega
  obtain ⟨S, hS⟩ : ∃ S, S = 16 ^ (d + 1) := ⟨_, rfl⟩
  have hS1 : 1 ≤ S := by rw [hS]; exact Nat.one_le_pow _ _ (by decide)
  have h16 : 16 ^ (d + 2) = 16 * S := by rw [hS, Nat.pow_succ, Nat.mul_comm]
  rw [h16] at hh
  rw [← hS] at ih
  have HL := Lib.hid hlv
  have HS := Lib.hid hS
  have HA := Lib.hid ha
  have HB := Lib.hid hb
  have IH := Lib.hid ih
  have B0 := Lib.hid b0
  have R0 := Lib.hid r0
  have C0 := Lib.hid c0
  clear ha hb hne ih b0 r0 c0 hlv hS h16
  go_enter Tryd.func62, Tryd.ntmps62
  go_wp2
  rw [span_eq lv d HL.out, ← HS.out]
  go_loopw [44] (fun i wr => ∃ k : Nat, i = .int .i64 (k : Int) ∧ k ≤ 16 ∧ Below w.heap.size w wr ∧ Holds wr w.heap.size [.func fn fst cap] ∧ Holds wr (w.heap.size + 1) [.bool false]) (fun i _ => 16 - (intOf i).toNat)
  case atStart => exact ⟨0, rfl, by omega, B0.out, R0.out, C0.out⟩
  case round =>
    obtain ⟨k, rfl, hk, hB, hR, hC⟩ := hrel
    by_cases hk16 : k < 16
    · obtain ⟨M, hM⟩ : ∃ M, M = k * S := ⟨_, rfl⟩
      have hM16 : M + S ≤ 16 * S := by
        rw [hM]
        have := Nat.mul_le_mul_right S (show k + 1 ≤ 16 by omega)
        rw [Nat.add_mul, Nat.one_mul] at this
        exact this
      have hMi : (k : Int) * (S : Int) = (M : Int) := by rw [hM]; norm_cast
      have hy := hR.cell (i := 0) rfl
      have hlt := hR.lt
      have HM := Lib.hid hM
      have HBw := Lib.hid hB
      have HRw := Lib.hid hR
      have HCw := Lib.hid hC
      clear hM hB hR hC
      have h1 := child_any (some (ba, f) : Tr (d + 2)) ⟨k, hk16⟩ wr.drew (Tr.at_ext HBw.out.drew HA.out)
      have h2 := child_any (some (bb, g) : Tr (d + 2)) ⟨k, hk16⟩ wr.drew (Tr.at_ext HBw.out.drew HB.out)
      rw [Tr.ptr_some, show kp (d := d + 1) (some (ba, f)) ⟨k, hk16⟩ = (f ⟨k, hk16⟩).ptr from kp_kid (d := d) (some (ba, f)) ⟨k, hk16⟩] at h1
      rw [Tr.ptr_some, show kp (d := d + 1) (some (bb, g)) ⟨k, hk16⟩ = (g ⟨k, hk16⟩).ptr from kp_kid (d := d) (some (bb, g)) ⟨k, hk16⟩] at h2
      dsimp only at h1 h2
      have h3 := IH.out ⟨k, hk16⟩ (head + M) wr.drew HBw.out.drew (by omega)
      have hl1 := Lib.hid h1
      have hl2 := Lib.hid h2
      generalize Tr.ptr (f ⟨k, hk16⟩) = pf at hl1 h3
      generalize Tr.ptr (g ⟨k, hk16⟩) = pg at hl2 h3
      have hl3 := Lib.hid h3
      clear h1 h2 h3
      have SM : ∀ X, Below wr.heap.size wr X → SameAt [⟨w.heap.size, 0, none⟩] wr X := by
        intro X hX p hp
        simp only [List.mem_singleton] at hp
        subst hp
        exact hX.cell hlt
      go_wp2_with fail
      refine rgnH [[0, 1, 3, 4, 6, 7, 8, 9, 2], [5], [10], [11]] [7] [9] [⟨w.heap.size, 0, none⟩] (by kernel_rfl) (by simp) ?_ ?_
      · intro p hp
        simp only [List.mem_singleton] at hp
        subst hp
        rw [hy]; rfl
      unfold seg
      simp only [pickL, List.getD_cons_zero, List.getD_cons_succ]
      go_wp2_with fail
      refine hl1.out.mono ?_
      rintro e w1 ⟨rfl, rfl⟩
      go_wp2
      refine ⟨SM _ (Below.refl _ _).drew, ?_⟩
      unfold seg
      simp only [pickL, List.getD_cons_zero, List.getD_cons_succ]
      go_wp2_with fail
      refine hl2.out.mono ?_
      rintro e w1 ⟨rfl, rfl⟩
      go_wp2
      refine ⟨SM _ (Below.refl _ _).drew, ?_⟩
      unfold seg
      simp only [pickL, List.getD_cons_zero, List.getD_cons_succ]
      go_wp2_with fail
      refine hl3.out.mono ?_
      rintro e w2 ⟨rfl, hb2⟩
      have hb2' : Below wr.heap.size wr w2 := below_of_drew hb2
      have H2 := Lib.hid (HBw.out.trans (hb2'.mono HBw.out.size))
      have R2 := Lib.hid (HRw.out.ext hb2')
      have C2 := Lib.hid (HCw.out.ext hb2')
      go_wp2
      refine ⟨SM _ hb2', ?_⟩
      unfold seg
      simp only [pickL, List.getD_cons_zero, List.getD_cons_succ]
      go_wp2
      refine ⟨SM _ hb2', ?_, ⟨.inl rfl, trivial⟩, ?_⟩
      · simp [chkD, dyn, Region.wanted, yielded, Act.eval, scalarV, nilC]
      clear hb2 hb2' SM HBw HRw HCw hl1 hl2 hl3
      go_wp2
      go_roundw
      case rel => exact ⟨k + 1, by go_num, by omega, H2.out, R2.out, C2.out⟩
      case measure => simp [intOf]; omega
    · obtain rfl : k = 16 := by omega
      have hf := hC.free 0
      have hc := hC.cell (i := 0) rfl
      have HBw := Lib.hid hB
      have hd := hC.setCell (i := 0) (.bool true)
      have hcc := hd.cell (i := 0) rfl
      go_wp2
      refine bodyPost_ret (v := .bool true) (by simp [results, Tryd.results62, go_sem, hcc]) rfl ?_
      exact ⟨rfl, HBw.out.trans ((Upd.setCell _).below (by omega))⟩
theorem eql_nn {P : Program} {tp te : TypeId} (hp : P.underlying tp = some (.pointer te)) (w : World) : (binOp .eql tp (.pointer none) (.pointer none)).run P w = .ok (.bool true) w := by
  have h : ∀ d : Nat, (Op.equalIn (d + 1) tp (.pointer none) (.pointer none)).run P w = .ok true w := fun d => by
    simp [Op.equalIn, run_underlying hp]
  simp only [binOp]
  simp [Op.equal, Op.maxDepth, h 9999]
theorem differ_same (fn : Fn) (fst cap : Array Value) : ∀ (d : Nat) (a b : Tr (d + 1)) (lv head : Nat) (w : World), lv + d = 7 → a.at w → b.at w → a.Cl → b.Cl → Alike a b → head + 16 ^ (d + 1) ≤ 4294967296 →
    Calls Tryd.prog 62 #[a.ptr, b.ptr, .int .i64 (lv : Nat), .int .u32 (head : Nat), .func fn fst cap] w fun e w' => e = .returned (.bool true) ∧ Below w.heap.size w w'
  | d, none, b, lv, head, w, hl, ha, hb, hca, hcb, hal, hh => by
    have : b = none := alike_nil hal hcb
    subst this
    exact differ_eq none fn fst cap lv head w (fun w => eql_nn und_pn w)
  | d, some p, none, lv, head, w, hl, ha, hb, hca, hcb, hal, hh => by
    have := alike_nil (alike_symm hal) hca
    cases this
  | 0, some (ba, f), some (bb, g), lv, head, w, hl, ha, hb, hca, hcb, hal, hh => by
    by_cases hne : ba = bb
    · subst hne
      exact differ_eq _ fn fst cap lv head w (fun w => eql_self ba w)
    · obtain rfl : lv = 7 := by omega
      exact differ_low ba bb f g fn fst cap head w ha hb hne (fun i => alike_kid hal i) (by simpa using hh)
  | d + 1, some (ba, f), some (bb, g), lv, head, w, hl, ha, hb, hca, hcb, hal, hh => by
    by_cases hne : ba = bb
    · subst hne
      exact differ_eq _ fn fst cap lv head w (fun w => eql_self ba w)
    · refine differ_high ba bb f g fn fst cap lv head w hl ha hb hne (fun i h W hW hhW => ?_) hh
      have := differ_same fn fst cap d (f i) (g i) (lv + 1) h W (by omega) (Tr.at_ext hW (ha.2 i)) (Tr.at_ext hW (hb.2 i)) (hca.2 i) (hcb.2 i) (alike_kid hal i) hhW
      simpa using this
end Go.Proofs.YtihmhledogppmaaDoor
