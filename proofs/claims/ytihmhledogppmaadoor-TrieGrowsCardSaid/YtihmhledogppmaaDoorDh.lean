/- The walk of trie.differ at the lowest level, to whatever yield. -/
import Derived.Test.YtihmhledogppmaaDoorDd
namespace Go.Proofs.YtihmhledogppmaaDoor
open Go Go.RowKit
set_option linter.unusedVariables false
set_option linter.unusedSimpArgs false
attribute [local go_sem] Oper.semAt_some

/-- What lies in Q is left alone. -/
def FrQ (Q : Nat → Prop) (w w' : World) : Prop := (∀ k, Q k → w'.heap[k]? = w.heap[k]?) ∧ w.heap.size ≤ w'.heap.size
theorem FrQ.refl (Q : Nat → Prop) (w : World) : FrQ Q w w := ⟨fun _ _ => rfl, Nat.le_refl _⟩
theorem FrQ.trans {Q : Nat → Prop} {a b c : World} (h : FrQ Q a b) (k : FrQ Q b c) : FrQ Q a c := ⟨fun i hi => (k.1 i hi).trans (h.1 i hi), Nat.le_trans h.2 k.2⟩
theorem FrQ.less {Q Q' : Nat → Prop} {a b : World} (h : FrQ Q a b) (hq : ∀ k, Q' k → Q k) : FrQ Q' a b := ⟨fun i hi => h.1 i (hq i hi), h.2⟩
theorem FrQ.below {Q : Nat → Prop} {a b : World} (h : Below a.heap.size a b) (hq : ∀ k, Q k → k < a.heap.size) : FrQ Q a b := ⟨fun i hi => h.block i (hq i hi), h.size⟩
theorem FrQ.holds {Q : Nat → Prop} {a b : World} {g : Nat} {cs : List Value} (h : FrQ Q a b) (hg : Q g) (hh : Holds a g cs) : Holds b g cs := by
  obtain ⟨ty, h1⟩ := hh
  exact ⟨ty, (h.1 g hg).trans h1⟩
theorem FrQ.tree {Q : Nat → Prop} {a b : World} (h : FrQ Q a b) : ∀ {d : Nat} {t : Tr d}, t.at a → t.all Q → t.at b
  | 0, none, _, _ => trivial
  | 0, some (g, v), ht, hq => h.holds hq ht
  | d + 1, none, _, _ => trivial
  | d + 1, some (g, f), ht, hq => ⟨h.holds hq.1 ht.1, fun i => h.tree (ht.2 i) (hq.2 i)⟩
/-- What a telling over es comes to, when pre has been told. -/
def WentF {α : Type} (Inv Brk : List α → (Nat → Prop) → World → Prop) (pre es : List α) (Q : Nat → Prop) (w : World) (e : Ending) (w' : World) : Prop :=
  FrQ Q w w' ∧ ((e = .returned (.bool true) ∧ Inv (pre ++ es) Q w') ∨ (e = .returned (.bool false) ∧ ∃ p x q, es = p ++ x :: q ∧ Brk (pre ++ p ++ [x]) Q w'))
set_option maxRecDepth 100000 in
set_option maxHeartbeats 4000000 in
theorem differ_lowF (fn : Fn) (fst cap : Array Value) (xs : List Ch) (Inv Brk : List Ch → (Nat → Prop) → World → Prop) (hY : YdF Tryd.prog (.func fn fst cap) chE xs Inv Brk) (hI : Abide Inv) (hK : Abide Brk)
    (ba : Nat) (a b : Tr 1) (hap : a.ptr = .pointer (some ⟨ba, 0, none⟩)) (head : Nat) (pre post : List Ch) (Q : Nat → Prop) (w : World) (hQ : ∀ k, Q k → k < w.heap.size) (ha : a.at w) (hb : b.at w) (haQ : a.all Q) (hbQ : b.all Q)
    (hne : ∀ W, FrQ Q w W → (binOp .eql 77 (.pointer (some ⟨ba, 0, none⟩)) b.ptr).run Tryd.prog W = .ok (.bool false) W)
    (hx : xs = pre ++ difs a b head ++ post) (hh : head + 16 ≤ 4294967296) (h0 : Inv pre Q w) :
    Calls Tryd.prog 62 #[.pointer (some ⟨ba, 0, none⟩), b.ptr, .int .i64 7, .int .u32 (head : Nat), .func fn fst cap] w (WentF Inv Brk pre (difs a b head) Q w) := by
  obtain ⟨b0, r0, c0⟩ := two_blocks w [.func fn fst cap] [.bool false] 115 4
  obtain ⟨Q1, hQ1⟩ : ∃ Q1 : Nat → Prop, Q1 = fun k => Q k ∨ (w.heap.size ≤ k ∧ k < ((w.alloc (.cells #[.func fn fst cap] 115)).alloc (.cells #[.bool false] 4)).heap.size) := ⟨_, rfl⟩
  have hI1 := hI.below h0 b0
  have f0 := FrQ.below b0 hQ
  have hne0 := hne _ f0
  obtain ⟨ob, hob⟩ : ∃ o : Option Addr, b.ptr = .pointer o := ⟨_, rfl⟩
  have HOB := Lib.hid hob
  rw [hob] at hne0 ⊢
  have B0 := Lib.hid b0
  have R0 := Lib.hid r0
  have C0 := Lib.hid c0
  have HA := Lib.hid ha
  have HB := Lib.hid hb
  have HAQ := Lib.hid haQ
  have HBQ := Lib.hid hbQ
  have I1 := Lib.hid hI1
  have F0 := Lib.hid f0
  have HX := Lib.hid hx
  have HQ := Lib.hid hQ
  clear b0 r0 c0 ha hb haQ hbQ hI1 f0 hne hob hx h0 hQ
  refine (callsIn_wide (n := 0)).1 (callsIn_of_wp Tryd.func62 rfl trivial ?_)
  simp only [Tryd.ntmps62, List.size_toArray, List.length_cons, List.length_nil, Nat.reduceAdd, Nat.reduceSub, Array.replicate_succ, Array.replicate_zero, List.push_toArray, List.append_toArray, List.nil_append, List.cons_append]
  gi_wp2
  obtain ⟨W0, hW0⟩ : ∃ W0, W0 = (w.alloc (.cells #[.func fn fst cap] 115)).alloc (.cells #[.bool false] 4) := ⟨_, rfl⟩
  have HW0 := Lib.hid hW0
  gi_loopw [44] (fun i wr => ∃ k : Nat, k ≤ 16 ∧ i = .int .i64 (k : Int) ∧ FrQ Q1 W0 wr ∧ Inv (pre ++ difsK a b head k) Q1 wr) (fun i _ => 16 - (intOf i).toNat)
  case atStart => exact ⟨0, by omega, rfl, by rw [HW0.out]; exact FrQ.refl _ _, by rw [difsK_zero, List.append_nil, hQ1]; exact I1.out⟩
  case round =>
    obtain ⟨k, hk, rfl, hF, hIk⟩ := hrel
    have hq1 : ∀ j, Q j → Q1 j := fun j hj => by rw [hQ1]; exact .inl hj
    have hsz : W0.heap.size = w.heap.size + 2 := by rw [HW0.out]; simp
    have hFw : FrQ Q w wr := (by have := F0.out; rw [← HW0.out] at this; exact this.trans (hF.less hq1))
    have hR : Holds wr w.heap.size [.func fn fst cap] := hF.holds (by rw [hQ1, ← HW0.out]; exact .inr (by omega)) (by rw [HW0.out]; exact R0.out)
    have hC : Holds wr (w.heap.size + 1) [.bool false] := hF.holds (by rw [hQ1, ← HW0.out]; exact .inr (by omega)) (by rw [HW0.out]; exact C0.out)
    have hQ1s : ∀ j, Q1 j → j < wr.heap.size := fun j hj => by
      rw [hQ1, ← HW0.out] at hj
      have := hF.2
      rcases hj with h | h
      · have := HQ.out j h; omega
      · omega
    by_cases hk16 : k < 16
    · have hA1 := hFw.tree HA.out HAQ.out
      have hB1 := hFw.tree HB.out HBQ.out
      have h1 := leaf_any a ⟨k, hk16⟩ wr hA1
      have h2 := leaf_any b ⟨k, hk16⟩ wr hB1
      rw [hap] at h1
      rw [HOB.out] at h2
      dsimp only at h1 h2
      have hto := told_any (head + k) (a.kid ⟨k, hk16⟩) (b.kid ⟨k, hk16⟩) wr (Tr.at_kid hA1 _) (Tr.at_kid hB1 _)
      simp only [chCells] at hto
      obtain ⟨q, hes⟩ := difs_split a b head k hk16
      have hkE := difsK_succ a b head k hk16
      rw [Nat.pow_zero, Nat.mul_one] at hes hkE
      generalize Tr.ptr (a.kid ⟨k, hk16⟩) = pf at h1 hto
      generalize Tr.ptr (b.kid ⟨k, hk16⟩) = pg at h2 hto
      have hd0 : difs (a.kid ⟨k, hk16⟩) (b.kid ⟨k, hk16⟩) (head + k) = if val0 (a.kid ⟨k, hk16⟩) = val0 (b.kid ⟨k, hk16⟩) then [] else [(head + k, val0 (a.kid ⟨k, hk16⟩), val0 (b.kid ⟨k, hk16⟩))] := rfl
      rw [hd0] at hes hkE
      clear hd0 hA1 hB1
      generalize val0 (a.kid ⟨k, hk16⟩) = X at hto hes hkE
      generalize val0 (b.kid ⟨k, hk16⟩) = Y at hto hes hkE
      have hl1 := Lib.hid h1
      have hl2 := Lib.hid h2
      have hy0 := hR.cell (i := 0) rfl
      have hltR := hR.lt
      have HF := Lib.hid hF
      have HFw := Lib.hid hFw
      have HR := Lib.hid hR
      have HCr := Lib.hid hC
      have HIk := Lib.hid hIk
      have HQ1s := Lib.hid hQ1s
      clear h1 h2 hF hFw hR hC hIk hQ1s
      by_cases hXY : X = Y
      · rw [if_pos hXY] at hes hkE
        rw [List.append_nil] at hkE
        rw [decide_eq_false (by simpa using hXY)] at hto
        have HKE := Lib.hid hkE
        have HTO := Lib.hid hto
        clear hes hkE hto hXY
        have HI := Lib.hid hI
        have HK := Lib.hid hK
        have HYd := Lib.hid hY
        clear hI hK hY
        gi_wp2_with fail
        refine ⟨trivial, rfl, (open_wide _).calls (hl1.out.mono ?_)⟩
        rintro e w1 ⟨rfl, rfl⟩
        gi_wp2_with fail
        refine ⟨trivial, rfl, (open_wide _).calls (hl2.out.mono ?_)⟩
        rintro e w1 ⟨rfl, rfl⟩
        gi_wp2_with fail
        refine ⟨trivial, rfl, (open_wide _).calls (HTO.out.mono ?_)⟩
        rintro e w2 ⟨rfl, hb2⟩
        have HB2 := Lib.hid hb2
        clear hb2 hl1 hl2 HTO
        gi_wp2
        refine ⟨fun _ h => (by cases h), ?_⟩
        gi_wp2
        go_roundw
        case rel =>
          have hz : ∀ o, Below wr.heap.size wr (w2.alloc o) := fun o => HB2.out.alloc HB2.out.size o
          exact ⟨k + 1, by omega, by go_num, HF.out.trans (FrQ.below (hz _) HQ1s.out), by rw [HKE.out]; exact HI.out.less _ _ _ _ (HI.out.below HIk.out (hz _)) (fun j hj => .inl hj)⟩
        case measure => simp [intOf]; omega
      · rw [if_neg hXY] at hes hkE
        rw [decide_eq_true (by simpa using hXY)] at hto
        have hxs : xs = (pre ++ difsK a b head k) ++ (head + k, X, Y) :: (q ++ post) := by
          rw [HX.out, hes]; simp only [List.append_assoc, List.cons_append, List.nil_append]
        have HKE := Lib.hid hkE
        have HES := Lib.hid hes
        have HTO := Lib.hid hto
        have HXS := Lib.hid hxs
        have HI := Lib.hid hI
        have HK := Lib.hid hK
        have HYd := Lib.hid hY
        clear hes hkE hto hXY hxs hI hK hY
        gi_wp2_with fail
        refine ⟨trivial, rfl, (open_wide _).calls (hl1.out.mono ?_)⟩
        rintro e w1 ⟨rfl, rfl⟩
        gi_wp2_with fail
        refine ⟨trivial, rfl, (open_wide _).calls (hl2.out.mono ?_)⟩
        rintro e w1 ⟨rfl, rfl⟩
        gi_wp2_with fail
        refine ⟨trivial, rfl, (open_wide _).calls (HTO.out.mono ?_)⟩
        rintro e w2 ⟨rfl, hb2⟩
        have hz : Below wr.heap.size wr (w2.alloc (.cells (chCells (head + k) X Y).toArray 64)) := hb2.alloc hb2.size _
        have hIz := HI.out.below HIk.out hz
        have hyc := HYd.out _ _ _ HXS.out _ _ hIz
        have hyR : (w2.alloc (.cells (chCells (head + k) X Y).toArray 64)).cell? ⟨w.heap.size, 0, none⟩ = some (.func fn fst cap) := (HR.out.ext hz).cell (i := 0) rfl
        have hyR2 : w2.cell? ⟨w.heap.size, 0, none⟩ = some (.func fn fst cap) := (HR.out.ext hb2).cell (i := 0) rfl
        have hlt2 : w.heap.size < w2.heap.size := Nat.lt_of_lt_of_le hltR hb2.size
        have HZ := Lib.hid hz
        have HYC := Lib.hid hyc
        clear hb2 hl1 hl2 HTO hz hIz hyc hyR
        have hbrQ : Q1 (w.heap.size + 1) := by rw [hQ1, ← HW0.out]; exact .inr (by omega)
        have hCz : ∀ W', FrQ (fun j => Q1 j ∨ (wr.heap.size ≤ j ∧ j < (w2.alloc (.cells (chCells (head + k) X Y).toArray 64)).heap.size)) (w2.alloc (.cells (chCells (head + k) X Y).toArray 64)) W' → Holds W' (w.heap.size + 1) [.bool false] ∧ FrQ Q1 wr W' := fun W' h =>
          ⟨h.holds (.inl hbrQ) (HCr.out.ext HZ.out), (FrQ.below HZ.out HQ1s.out).trans (h.less fun j hj => .inl hj)⟩
        have HCZ := Lib.hid hCz
        have HBQ1 := Lib.hid hbrQ
        clear hCz hbrQ
        gi_wp2_with (refine wpListIn_callV (open_wide _) rfl _ _ _ rfl (vs := chE (head + k, X, Y)) rfl (by simp [chE, chCells, Act.eval]) ?_; refine HYC.out.mono ?_; rintro e W' ⟨hfr, hsz', hor⟩; obtain ⟨hC', hFr'⟩ := HCZ.out W' ⟨hfr, hsz'⟩; have HFr := Lib.hid hFr'; have cc := hC'.cell (i := 0) rfl; have cf := hC'.free 0; have HC' := Lib.hid hC'; clear hfr hsz' hC' hFr'; rcases hor with ⟨rfl, hi⟩ | ⟨rfl, hbk⟩)
        · go_roundw
          case rel => exact ⟨k + 1, by omega, by go_num, HF.out.trans HFr.out, by rw [HKE.out, ← List.append_assoc]; exact HI.out.less _ _ _ _ hi (fun j hj => .inl hj)⟩
          case measure => simp [intOf]; omega
        · have hd := HC'.out.setCell (i := 0) (.bool false)
          have hcc := hd.cell (i := 0) rfl
          have hu := Upd.setCell (w := W') (g := w.heap.size + 1) (i := 0) (.bool false)
          have hF3 : FrQ Q w (W'.setCell ⟨w.heap.size + 1, 0, none⟩ (.bool false)) := HFw.out.trans ((HFr.out.less hq1).trans ⟨fun j hj => hu.block j (fun e => by have := HQ.out j hj; omega), Nat.le_of_eq hu.size.symm⟩)
          have hb3 := HK.out.less _ _ Q _ (HK.out.upd hbk hu (.inl HBQ1.out)) (fun j hj => .inl (hq1 j hj))
          refine bodyPost_ret (v := .bool false) (by simp [results, Tryd.results62, go_sem, hcc]) rfl ?_
          exact ⟨hF3, .inr ⟨rfl, difsK a b head k, (head + k, X, Y), q, by rw [HES.out]; simp, hb3⟩⟩
    · obtain rfl : k = 16 := by omega
      rw [difsK_all] at hIk
      have hf := hC.free 0
      have hc := hC.cell (i := 0) rfl
      have hd := hC.setCell (i := 0) (.bool true)
      have hcc := hd.cell (i := 0) rfl
      have hu := Upd.setCell (w := wr) (g := w.heap.size + 1) (i := 0) (.bool true)
      have hI2 := Lib.hid (hI.less _ _ Q _ (hI.upd hIk hu (by rw [hQ1, ← HW0.out]; exact .inr (by omega))) hq1)
      have hF2 : Hid (FrQ Q w (wr.setCell ⟨w.heap.size + 1, 0, none⟩ (.bool true))) := Lib.hid (hFw.trans ⟨fun j hj => hu.block j (fun e => by have := HQ.out j hj; omega), Nat.le_of_eq hu.size.symm⟩)
      clear hIk hF hFw hR hC hd hu
      gi_wp2
      refine bodyPost_ret (v := .bool true) (by simp [results, Tryd.results62, go_sem, hcc]) rfl ?_
      exact ⟨hF2.out, .inl ⟨rfl, hI2.out⟩⟩
theorem FrQ.cell {Q : Nat → Prop} {a b : World} {g i : Nat} (h : FrQ Q a b) (hg : Q g) : b.cell? ⟨g, i, none⟩ = a.cell? ⟨g, i, none⟩ := by
  unfold World.cell?
  rw [h.1 g hg]
set_option maxRecDepth 100000 in
set_option maxHeartbeats 4000000 in
theorem differ_highF {d : Nat} (fn : Fn) (fst cap : Array Value) (xs : List Ch) (Inv Brk : List Ch → (Nat → Prop) → World → Prop) (hI : Abide Inv) (hK : Abide Brk)
    (ba lv : Nat) (a b : Tr (d + 2)) (hap : a.ptr = .pointer (some ⟨ba, 0, none⟩)) (head : Nat) (pre post : List Ch) (Q : Nat → Prop) (w : World) (hlv : lv + (d + 1) = 7) (hQ : ∀ k, Q k → k < w.heap.size) (ha : a.at w) (hb : b.at w) (haQ : a.all Q) (hbQ : b.all Q)
    (ih : ∀ (i : Fin 16) (h : Nat) (pre post : List Ch) (Q : Nat → Prop) (W : World), (∀ k, Q k → k < W.heap.size) → (a.kid i).at W → (b.kid i).at W → (a.kid i).all Q → (b.kid i).all Q → xs = pre ++ difs (a.kid i) (b.kid i) h ++ post → h + 16 ^ (d + 1) ≤ 4294967296 → Inv pre Q W →
      Calls Tryd.prog 62 #[(a.kid i).ptr, (b.kid i).ptr, .int .i64 ((lv : Int) + 1), .int .u32 (h : Nat), .func fn fst cap] W (WentF Inv Brk pre (difs (a.kid i) (b.kid i) h) Q W))
    (hne : ∀ W, FrQ Q w W → (binOp .eql 77 (.pointer (some ⟨ba, 0, none⟩)) b.ptr).run Tryd.prog W = .ok (.bool false) W)
    (hx : xs = pre ++ difs a b head ++ post) (hh : head + 16 ^ (d + 2) ≤ 4294967296) (h0 : Inv pre Q w) :
    Calls Tryd.prog 62 #[.pointer (some ⟨ba, 0, none⟩), b.ptr, .int .i64 (lv : Nat), .int .u32 (head : Nat), .func fn fst cap] w (WentF Inv Brk pre (difs a b head) Q w) := by
  obtain ⟨b0, r0, c0⟩ := two_blocks w [.func fn fst cap] [.bool false] 115 4
  obtain ⟨Q1, hQ1⟩ : ∃ Q1 : Nat → Prop, Q1 = fun k => Q k ∨ (w.heap.size ≤ k ∧ k < ((w.alloc (.cells #[.func fn fst cap] 115)).alloc (.cells #[.bool false] 4)).heap.size) := ⟨_, rfl⟩
  have hI1 := hI.below h0 b0
  have f0 := FrQ.below b0 hQ
  have hne0 := hne _ f0
  have hl6 : lv ≤ 6 := by omega
  obtain ⟨S, hS⟩ : ∃ S, S = 16 ^ (d + 1) := ⟨_, rfl⟩
  have hS1 : 1 ≤ S := by rw [hS]; exact Nat.one_le_pow _ _ (by decide)
  have h16 : 16 ^ (d + 2) = 16 * S := by rw [hS, Nat.pow_succ, Nat.mul_comm]
  rw [h16] at hh
  obtain ⟨ob, hob⟩ : ∃ o : Option Addr, b.ptr = .pointer o := ⟨_, rfl⟩
  have HOB := Lib.hid hob
  rw [hob] at hne0 ⊢
  have HL := Lib.hid hlv
  have HS := Lib.hid hS
  have IH := Lib.hid ih
  have B0 := Lib.hid b0
  have R0 := Lib.hid r0
  have C0 := Lib.hid c0
  have HA := Lib.hid ha
  have HB := Lib.hid hb
  have HAQ := Lib.hid haQ
  have HBQ := Lib.hid hbQ
  have I1 := Lib.hid hI1
  have F0 := Lib.hid f0
  have HX := Lib.hid hx
  have HQ := Lib.hid hQ
  have HI := Lib.hid hI
  have HK := Lib.hid hK
  clear b0 r0 c0 ha hb haQ hbQ hI1 f0 hne hob hx h0 hQ ih hlv hS h16 hI hK
  refine (callsIn_wide (n := 0)).1 (callsIn_of_wp Tryd.func62 rfl trivial ?_)
  simp only [Tryd.ntmps62, List.size_toArray, List.length_cons, List.length_nil, Nat.reduceAdd, Nat.reduceSub, Array.replicate_succ, Array.replicate_zero, List.push_toArray, List.append_toArray, List.nil_append, List.cons_append]
  gi_wp2
  rw [span_eq lv d HL.out, ← HS.out]
  obtain ⟨W0, hW0⟩ : ∃ W0, W0 = (w.alloc (.cells #[.func fn fst cap] 115)).alloc (.cells #[.bool false] 4) := ⟨_, rfl⟩
  have HW0 := Lib.hid hW0
  gi_loopw [44] (fun i wr => ∃ k : Nat, k ≤ 16 ∧ i = .int .i64 (k : Int) ∧ FrQ Q1 W0 wr ∧ Inv (pre ++ difsK a b head k) Q1 wr) (fun i _ => 16 - (intOf i).toNat)
  case atStart => exact ⟨0, by omega, rfl, by rw [HW0.out]; exact FrQ.refl _ _, by rw [difsK_zero, List.append_nil, hQ1]; exact I1.out⟩
  case round =>
    obtain ⟨k, hk, rfl, hF, hIk⟩ := hrel
    have hq1 : ∀ j, Q j → Q1 j := fun j hj => by rw [hQ1]; exact .inl hj
    have hsz : W0.heap.size = w.heap.size + 2 := by rw [HW0.out]; simp
    have hFw : FrQ Q w wr := (by have := F0.out; rw [← HW0.out] at this; exact this.trans (hF.less hq1))
    have hR : Holds wr w.heap.size [.func fn fst cap] := hF.holds (by rw [hQ1, ← HW0.out]; exact .inr (by omega)) (by rw [HW0.out]; exact R0.out)
    have hC : Holds wr (w.heap.size + 1) [.bool false] := hF.holds (by rw [hQ1, ← HW0.out]; exact .inr (by omega)) (by rw [HW0.out]; exact C0.out)
    have hQ1s : ∀ j, Q1 j → j < wr.heap.size := fun j hj => by
      rw [hQ1, ← HW0.out] at hj
      have := hF.2
      rcases hj with h | h
      · have := HQ.out j h; omega
      · omega
    by_cases hk16 : k < 16
    · have hA1 := hFw.tree HA.out HAQ.out
      have hB1 := hFw.tree HB.out HBQ.out
      obtain ⟨M, hM⟩ : ∃ M, M = k * S := ⟨_, rfl⟩
      have hM16 : M + S ≤ 16 * S := by
        rw [hM]
        have := Nat.mul_le_mul_right S (show k + 1 ≤ 16 by omega)
        rw [Nat.add_mul, Nat.one_mul] at this
        exact this
      have hMi : (k : Int) * (S : Int) = (M : Int) := by rw [hM]; norm_cast
      have h1 := child_any a ⟨k, hk16⟩ wr.drew (Tr.at_ext (Below.refl _ _).drew hA1)
      have h2 := child_any b ⟨k, hk16⟩ wr.drew (Tr.at_ext (Below.refl _ _).drew hB1)
      rw [hap, kp_kid] at h1
      rw [HOB.out, kp_kid] at h2
      dsimp only at h1 h2
      obtain ⟨q, hes⟩ := difs_split a b head k hk16
      have hkE := difsK_succ a b head k hk16
      rw [← HS.out, ← hM] at hes hkE
      have hcall := IH.out ⟨k, hk16⟩ (head + M) (pre ++ difsK a b head k) (q ++ post) Q1 wr.drew hQ1s (Tr.at_ext (Below.refl _ _).drew (Tr.at_kid hA1 _)) (Tr.at_ext (Below.refl _ _).drew (Tr.at_kid hB1 _))
        (Tr.all_mono hq1 (Tr.all_kid HAQ.out _)) (Tr.all_mono hq1 (Tr.all_kid HBQ.out _)) (by rw [HX.out, hes]; simp only [List.append_assoc]) (by rw [← HS.out]; omega)
        (HI.out.less _ _ _ _ (HI.out.below hIk (Below.refl _ _).drew) (fun j hj => .inl hj))
      generalize difs (a.kid ⟨k, hk16⟩) (b.kid ⟨k, hk16⟩) (head + M) = D at hes hkE hcall
      generalize Tr.ptr (a.kid ⟨k, hk16⟩) = pf at h1 hcall
      generalize Tr.ptr (b.kid ⟨k, hk16⟩) = pg at h2 hcall
      have hl1 := Lib.hid h1
      have hl2 := Lib.hid h2
      have hl3 := Lib.hid hcall
      have HKE := Lib.hid hkE
      have HES := Lib.hid hes
      have hy := hR.cell (i := 0) rfl
      have hlt := hR.lt
      have HF := Lib.hid hF
      have HFw := Lib.hid hFw
      have HCr := Lib.hid hC
      have HM := Lib.hid hM
      have hbyQ : Q1 w.heap.size := by rw [hQ1, ← HW0.out]; exact .inr (by omega)
      have hbrQ : Q1 (w.heap.size + 1) := by rw [hQ1, ← HW0.out]; exact .inr (by omega)
      have SM : ∀ X, FrQ Q1 wr X → SameAt [⟨w.heap.size, 0, none⟩] wr X := by
        intro X hX p hp
        simp only [List.mem_singleton] at hp
        subst hp
        exact hX.cell hbyQ
      have HBR := Lib.hid hbrQ
      clear hA1 hB1 h1 h2 hcall hkE hes hF hFw hR hC hM hIk hbyQ hbrQ hQ1s
      gi_wp2_with fail
      refine rgnHIn [[0, 1, 3, 4, 6, 7, 8, 9, 2], [5], [10], [11]] [7] [9] [⟨w.heap.size, 0, none⟩] (fun _ => trivial) rfl (by kernel_rfl) (by simp) ?_ ?_
      · intro p hp
        simp only [List.mem_singleton] at hp
        subst hp
        rw [hy]; rfl
      unfold segIn
      simp only [pickL, List.getD_cons_zero, List.getD_cons_succ]
      gi_wp2_with fail
      refine ⟨trivial, rfl, (open_wide _).calls (hl1.out.mono ?_)⟩
      rintro e w1 ⟨rfl, rfl⟩
      gi_wp2
      refine ⟨SM _ (FrQ.refl _ _), ?_⟩
      unfold segIn
      simp only [pickL, List.getD_cons_zero, List.getD_cons_succ]
      gi_wp2_with fail
      refine ⟨trivial, rfl, (open_wide _).calls (hl2.out.mono ?_)⟩
      rintro e w1 ⟨rfl, rfl⟩
      gi_wp2
      refine ⟨SM _ (FrQ.refl _ _), ?_⟩
      unfold segIn
      simp only [pickL, List.getD_cons_zero, List.getD_cons_succ]
      gi_wp2_with fail
      refine ⟨trivial, rfl, (open_wide _).calls (hl3.out.mono ?_)⟩
      rintro e w2 ⟨hfr, hor⟩
      have hfr' : FrQ Q1 wr w2 := hfr
      have hC' := hfr'.holds HBR.out HCr.out
      have cc := hC'.cell (i := 0) rfl
      have cf := hC'.free 0
      have HC' := Lib.hid hC'
      have HFr := Lib.hid hfr'
      clear hfr hfr' hC' hl1 hl2 hl3
      rcases hor with ⟨rfl, hi⟩ | ⟨rfl, p, x, qq, hpq, hbk⟩
      · gi_wp2
        refine ⟨SM _ HFr.out, ?_⟩
        unfold segIn
        simp only [pickL, List.getD_cons_zero, List.getD_cons_succ]
        gi_wp2
        refine ⟨SM _ HFr.out, ?_, ⟨.inl rfl, trivial⟩, ?_⟩
        · simp [chkD, dyn, Region.wanted, yielded, Act.eval, scalarV, nilC]
        gi_wp2
        go_roundw
        case rel => exact ⟨k + 1, by omega, by go_num, HF.out.trans HFr.out, by rw [HKE.out, ← List.append_assoc]; exact hi⟩
        case measure => simp [intOf]; omega
      · gi_wp2
        refine ⟨SM _ HFr.out, ?_⟩
        unfold segIn
        simp only [pickL, List.getD_cons_zero, List.getD_cons_succ]
        gi_wp2
        refine ⟨SM _ HFr.out, ?_, ⟨.inl rfl, trivial⟩, ?_⟩
        · simp [chkD, dyn, Region.wanted, yielded, Act.eval, scalarV, nilC]
        have hd := HC'.out.setCell (i := 0) (.bool false)
        have hcc := hd.cell (i := 0) rfl
        have hu := Upd.setCell (w := w2) (g := w.heap.size + 1) (i := 0) (.bool false)
        have hF3 : Hid (FrQ Q w (w2.setCell ⟨w.heap.size + 1, 0, none⟩ (.bool false))) := Lib.hid (HFw.out.trans ((HFr.out.less hq1).trans ⟨fun j hj => hu.block j (fun e => by have := HQ.out j hj; omega), Nat.le_of_eq hu.size.symm⟩))
        have hb3 := Lib.hid (HK.out.less _ _ Q _ (HK.out.upd hbk hu HBR.out) hq1)
        clear hd hu hbk
        gi_wp2
        refine bodyPost_ret (v := .bool false) (by simp [results, Tryd.results62, go_sem, hcc]) rfl ?_
        refine ⟨hF3.out, .inr ⟨rfl, difsK a b head k ++ p, x, qq ++ q, by rw [HES.out, hpq]; simp, ?_⟩⟩
        rw [← List.append_assoc]; exact hb3.out
    · obtain rfl : k = 16 := by omega
      rw [difsK_all] at hIk
      have hf := hC.free 0
      have hc := hC.cell (i := 0) rfl
      have hd := hC.setCell (i := 0) (.bool true)
      have hcc := hd.cell (i := 0) rfl
      have hu := Upd.setCell (w := wr) (g := w.heap.size + 1) (i := 0) (.bool true)
      have hI2 := Lib.hid (HI.out.less _ _ Q _ (HI.out.upd hIk hu (by rw [hQ1, ← HW0.out]; exact .inr (by omega))) hq1)
      have hF2 : Hid (FrQ Q w (wr.setCell ⟨w.heap.size + 1, 0, none⟩ (.bool true))) := Lib.hid (hFw.trans ⟨fun j hj => hu.block j (fun e => by have := HQ.out j hj; omega), Nat.le_of_eq hu.size.symm⟩)
      clear hIk hF hFw hR hC hd hu
      gi_wp2
      refine bodyPost_ret (v := .bool true) (by simp [results, Tryd.results62, go_sem, hcc]) rfl ?_
      exact ⟨hF2.out, .inl ⟨rfl, hI2.out⟩⟩
end Go.Proofs.YtihmhledogppmaaDoor
