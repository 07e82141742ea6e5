/- The walks of trie.count, child, fresh, Shared. · The walks of trie.below: the iterator over the entries below a node. · An iterator's contract (Gives) as the kit's contract for a range over a function. -/
import Derived.Test.YtihmhledogppmaaDoorTrX
import Derived.Test.YtihmhledogppmaaDoorWk
import Derived.LaidEqlPtr
namespace Go.Proofs.YtihmhledogppmaaDoor
open Go Go.RowKit
set_option linter.unusedVariables false
set_option linter.unusedSimpArgs false

set_option maxRecDepth 100000 in
set_option maxHeartbeats 800000 in
theorem count_node {d : Nat} (bn : Nat) (f : Fin 16 → Tr d) (ps : Fin 16 → Value) (w : World) (hps : ∀ k : Fin 16, (nodeCells f)[k.val]? = some (ps k)) (h : Holds w bn (nodeCells f))
    (ih : ∀ k, Calls Tryd.prog 34 #[ps k] w fun e w' => e = .returned (.int .i64 ((f k).cnt : Nat)) ∧ w = w') (hb : sumK (onF fun i => (f i).cnt) 16 ≤ 4294967296) :
    Calls Tryd.prog 34 #[.pointer (some ⟨bn, 0, none⟩)] w fun e w' => e = .returned (.int .i64 (1 + sumK (onF fun i => (f i).cnt) 16 : Nat)) ∧ w = w' := by
  have HH := Lib.hid h
  have IH := Lib.hid ih
  have HPS := Lib.hid hps
  clear h ih hps
  go_enter Tryd.func34, Tryd.ntmps34
  go_wp2_with (refine wpList_load_seg rfl 82 _ rfl bn 0 16 rfl (nodeCells f) HH.out _ und_kids rfl info_kids (by simp [nodeCells_length]) ?_)
  go_loopw [3, 12] (fun s i wr => ∃ k : Nat, i = .int .i64 (k : Int) ∧ k ≤ 16 ∧ s = .int .i64 ((1 + sumK (onF fun i => (f i).cnt) k : Nat) : Int) ∧ wr = w) (fun _ i _ => 16 - (intOf i).toNat)
  case atStart => exact ⟨0, rfl, by omega, rfl, by first | rfl | trivial⟩
  case round =>
    obtain ⟨k, rfl, hk, rfl, rfl⟩ := hrel
    by_cases hk16 : k < 16
    · have hc := IH.out ⟨k, hk16⟩
      have hv : ((nodeCells f).take 16)[k]? = some (ps ⟨k, hk16⟩) := by
        rw [List.getElem?_take_of_lt hk16]
        exact HPS.out ⟨k, hk16⟩
      have hs : sumK (onF fun i => (f i).cnt) (k + 1) = sumK (onF fun i => (f i).cnt) k + (f ⟨k, hk16⟩).cnt := by
        show _ + onF _ k = _
        rw [show onF (fun i => (f i).cnt) k = (f ⟨k, hk16⟩).cnt from dif_pos hk16]
      have hm := sumK_mono (onF fun i => (f i).cnt) (show k + 1 ≤ 16 by omega)
      have HC := Lib.hid hc
      have HV := Lib.hid hv
      generalize ps ⟨k, hk16⟩ = pv at HC HV
      generalize hcn : (f ⟨k, hk16⟩).cnt = cn at HC hs
      generalize hsk : sumK (onF fun i => (f i).cnt) k = sk at hs hm ⊢
      have HS := Lib.hid hs
      have hsum : sk + cn ≤ 4294967296 := by omega
      clear hc hv hs hm hcn hsk
      go_wp2_with (first | (refine wpList_index_agg rfl 82 _ _ rfl ((nodeCells f).take 16) k pv rfl rfl und_kids und_pn info_pn hk16 HV.out ?_) | (go_at_call 34; refine HC.out.mono ?_; rintro e w2 ⟨rfl, rfl⟩))
      go_roundw
      case rel => exact ⟨k + 1, by go_num, by omega, by rw [HS.out]; go_num, by first | rfl | trivial⟩
      case measure => simp [intOf]; omega
    · obtain rfl : k = 16 := by omega
      go_wp2
      go_returns
      exact ⟨rfl, rfl⟩
theorem count_nil (w : World) : Calls Tryd.prog 34 #[.pointer none] w fun e w' => e = .returned (.int .i64 ((0 : Nat) : Int)) ∧ w = w' := by
  go_enter Tryd.func34, Tryd.ntmps34
  go_wp2
  go_returns
  exact ⟨rfl, rfl⟩
theorem low_cell (f : Fin 16 → Tr 0) (i : Fin 16) : (nodeCells f)[i.val]? = some (.pointer none) := by
  unfold nodeCells
  rw [if_pos rfl, List.getElem?_append_left (by simp), List.getElem?_replicate, if_pos i.isLt]
theorem pow_le7 {d : Nat} (h : d ≤ 7) : 16 ^ d ≤ 268435456 := by
  have h1 := Nat.pow_le_pow_right (n := 16) (by decide) h
  have h2 : 16 ^ 7 = 268435456 := by decide
  omega
theorem count_any : ∀ {d : Nat} (t : Tr (d + 1)) (w : World), d ≤ 7 → t.at w → Calls Tryd.prog 34 #[t.ptr] w fun e w' => e = .returned (.int .i64 (t.cnt : Nat)) ∧ w = w'
  | d, none, w, _, _ => count_nil w
  | 0, some (b, f), w, hd, h => by
    have hb := Tr.cnt_lt (d := 0) (some (b, f))
    rw [Tr.cnt_some] at hb
    exact count_node b f (fun _ => .pointer none) w (low_cell f) h.1 (fun k => count_nil w) (by simp at hb; omega)
  | d + 1, some (b, f), w, hd, h => by
    have hb := Tr.cnt_lt (d := d + 1) (some (b, f))
    rw [Tr.cnt_some] at hb
    have := pow_le7 hd
    exact count_node b f (fun k => (f k).ptr) w (kids_cell f) h.1 (fun k => count_any (f k) w (by omega) (h.2 k)) (by omega)
/-- What hangs at a digit, of no node nothing. -/
def kp {d : Nat} (a : Tr (d + 1)) (k : Fin 16) : Value := match a with
  | none => .pointer none
  | some (_, f) => (nodeCells f).getD k.val (.pointer none)
theorem child_any {d : Nat} (a : Tr (d + 1)) (k : Fin 16) (w : World) (h : a.at w) : Calls Tryd.prog 53 #[a.ptr, .int .i64 (k.val : Nat)] w fun e w' => e = .returned (kp a k) ∧ w = w' := by
  cases a with
  | none =>
    rw [Tr.ptr_none]
    go_enter Tryd.func53, Tryd.ntmps53
    go_wp2
    go_returns
    exact ⟨rfl, rfl⟩
  | some p =>
    obtain ⟨b, f⟩ := p
    rw [Tr.ptr_some]
    have hc : w.cell? ⟨b, k.val, none⟩ = some (kp (d := d) (some (b, f)) k) := by
      refine Holds.cell h.1 ?_
      show _ = some ((nodeCells f).getD k.val (.pointer none))
      rw [List.getD_eq_getElem?_getD, List.getElem?_eq_getElem (by rw [nodeCells_length]; omega)]
      rfl
    generalize kp (d := d) (some (b, f)) k = v at hc ⊢
    obtain ⟨k, hk⟩ := k
    dsimp only at hc ⊢
    clear h
    go_enter Tryd.func53, Tryd.ntmps53
    go_wp2
    go_returns
    exact ⟨rfl, rfl⟩
theorem eql_nil_ptr {P : Program} {tp te : TypeId} (a : Addr) (hp : P.underlying tp = some (.pointer te)) (w : World) : (binOp .eql tp (.pointer none) (.pointer (some a))).run P w = .ok (.bool false) w := by
  have h : ∀ d : Nat, (Op.equalIn (d + 1) tp (.pointer none) (.pointer (some a))).run P w = .ok false w := fun d => by
    simp [Op.equalIn, run_underlying hp]
  simp only [binOp]
  simp [Op.equal, Op.maxDepth, h 9999]
theorem info_some {P : Program} {t : TypeId} {n : Nat} (h : (P.info? t).map (·.size) = some n) : ∃ j, P.info? t = some j ∧ j.size = n := by
  cases hq : P.info? t with
  | none => rw [hq] at h; cases h
  | some j => exact ⟨j, rfl, by rw [hq] at h; simpa using h⟩
theorem eql_node {d : Nat} (a : Tr (d + 1)) (bb : Nat) (cs : List Value) (w : World) (ha : a.at w) (h : Holds w bb cs) (hne : ¬ Tr.blk a = some bb) :
    (binOp .eql 77 a.ptr (.pointer (some ⟨bb, 0, none⟩))).run Tryd.prog w = .ok (.bool false) w := by
  cases a with
  | none => exact eql_nil_ptr _ und_pn w
  | some p =>
    obtain ⟨ba, f⟩ := p
    obtain ⟨j, hj, hs⟩ := info_some info_node
    obtain ⟨ta, h1⟩ := ha.1
    obtain ⟨tb, h2⟩ := h
    exact run_eql_ptr_other w und_pn hj (by omega) (fun e => hne (by cases e; rfl)) h1 h2
theorem eql_self (b : Nat) (w : World) : (binOp .eql 77 (.pointer (some ⟨b, 0, none⟩)) (.pointer (some ⟨b, 0, none⟩))).run Tryd.prog w = .ok (.bool true) w := by
  obtain ⟨j, hj, _⟩ := info_some info_node
  exact run_eql_ptr_same w _ und_pn hj
set_option maxRecDepth 100000 in
set_option maxHeartbeats 800000 in
theorem fresh_node {d : Nat} (a : Tr (d + 1)) (bb : Nat) (g : Fin 16 → Tr d) (w : World) (ha : a.at w) (h : Holds w bb (nodeCells g)) (hne : ¬ Tr.blk a = some bb) (ps : Fin 16 → Value) (hps : ∀ k : Fin 16, (nodeCells g)[k.val]? = some (ps k))
    (ih : ∀ k, Calls Tryd.prog 33 #[kp a k, ps k] w fun e w' => e = .returned (.int .i64 ((a.kid k).fr (g k) : Nat)) ∧ w = w') (hb : sumK (onF fun i => (a.kid i).fr (g i)) 16 ≤ 4294967296) :
    Calls Tryd.prog 33 #[a.ptr, .pointer (some ⟨bb, 0, none⟩)] w fun e w' => e = .returned (.int .i64 (1 + sumK (onF fun i => (a.kid i).fr (g i)) 16 : Nat)) ∧ w = w' := by
  have hE := eql_node a bb _ w ha h hne
  have HH := Lib.hid h
  have IH := Lib.hid ih
  have HPS := Lib.hid hps
  have HC := Lib.hid (fun k => child_any a k w ha)
  clear h ih hps ha hne
  obtain ⟨o, ho⟩ : ∃ o : Option Addr, a.ptr = .pointer o := ⟨_, rfl⟩
  rw [ho] at HC hE ⊢
  clear ho
  go_enter Tryd.func33, Tryd.ntmps33
  go_wp2_with (refine wpList_load_seg rfl 82 _ rfl bb 0 16 rfl (nodeCells g) HH.out _ und_kids rfl info_kids (by simp [nodeCells_length]) ?_)
  go_loopw [5, 19] (fun s i wr => ∃ k : Nat, i = .int .i64 (k : Int) ∧ k ≤ 16 ∧ s = .int .i64 ((1 + sumK (onF fun i => (a.kid i).fr (g i)) k : Nat) : Int) ∧ wr = w) (fun _ i _ => 16 - (intOf i).toNat)
  case atStart => exact ⟨0, rfl, by omega, rfl, by first | rfl | trivial⟩
  case round =>
    obtain ⟨k, rfl, hk, rfl, rfl⟩ := hrel
    by_cases hk16 : k < 16
    · have hc := IH.out ⟨k, hk16⟩
      have hd := HC.out ⟨k, hk16⟩
      have hv : ((nodeCells g).take 16)[k]? = some (ps ⟨k, hk16⟩) := by
        rw [List.getElem?_take_of_lt hk16]
        exact HPS.out ⟨k, hk16⟩
      have hs : sumK (onF fun i => (a.kid i).fr (g i)) (k + 1) = sumK (onF fun i => (a.kid i).fr (g i)) k + (a.kid ⟨k, hk16⟩).fr (g ⟨k, hk16⟩) := by
        show _ + onF _ k = _
        rw [show onF (fun i => (a.kid i).fr (g i)) k = (a.kid ⟨k, hk16⟩).fr (g ⟨k, hk16⟩) from dif_pos hk16]
      have hm := sumK_mono (onF fun i => (a.kid i).fr (g i)) (show k + 1 ≤ 16 by omega)
      dsimp only at hd
      have HC1 := Lib.hid hc
      have HD := Lib.hid hd
      have HV := Lib.hid hv
      generalize ps ⟨k, hk16⟩ = pv at HC1 HV
      generalize kp a ⟨k, hk16⟩ = qv at HC1 HD
      generalize hcn : (a.kid ⟨k, hk16⟩).fr (g ⟨k, hk16⟩) = cn at HC1 hs
      generalize hsk : sumK (onF fun i => (a.kid i).fr (g i)) k = sk at hs hm ⊢
      have HS := Lib.hid hs
      have hsum : sk + cn ≤ 4294967296 := by omega
      clear hc hd hv hs hm hcn hsk
      go_wp2_with (first | (refine wpList_index_agg rfl 82 _ _ rfl ((nodeCells g).take 16) k pv rfl rfl und_kids und_pn info_pn hk16 HV.out ?_) | (go_at_call 53; refine HD.out.mono ?_; rintro e w2 ⟨rfl, rfl⟩) | (go_at_call 33; refine HC1.out.mono ?_; rintro e w2 ⟨rfl, rfl⟩))
      go_roundw
      case rel => exact ⟨k + 1, by go_num, by omega, by rw [HS.out]; go_num, by first | rfl | trivial⟩
      case measure => simp [intOf]; omega
    · obtain rfl : k = 16 := by omega
      go_wp2
      go_returns
      exact ⟨rfl, rfl⟩
theorem fresh_nil (v : Value) (w : World) : Calls Tryd.prog 33 #[v, .pointer none] w fun e w' => e = .returned (.int .i64 ((0 : Nat) : Int)) ∧ w = w' := by
  go_enter Tryd.func33, Tryd.ntmps33
  go_wp2
  go_returns
  exact ⟨rfl, rfl⟩
theorem fresh_same (b : Nat) (w : World) : Calls Tryd.prog 33 #[.pointer (some ⟨b, 0, none⟩), .pointer (some ⟨b, 0, none⟩)] w fun e w' => e = .returned (.int .i64 ((0 : Nat) : Int)) ∧ w = w' := by
  have hE := eql_self b w
  go_enter Tryd.func33, Tryd.ntmps33
  go_wp2
  go_returns
  exact ⟨rfl, rfl⟩
theorem kp_kid {d : Nat} (a : Tr (d + 2)) (k : Fin 16) : kp a k = (a.kid k).ptr := by
  cases a with
  | none => rfl
  | some p =>
    obtain ⟨b, f⟩ := p
    show (nodeCells f).getD k.val (.pointer none) = (f k).ptr
    rw [List.getD_eq_getElem?_getD, kids_cell f k]
    rfl
theorem fresh_any : ∀ {d : Nat} (a t : Tr (d + 1)) (w : World), d ≤ 7 → a.at w → t.at w → Calls Tryd.prog 33 #[a.ptr, t.ptr] w fun e w' => e = .returned (.int .i64 (a.fr t : Nat)) ∧ w = w'
  | d, a, none, w, _, _, _ => fresh_nil _ w
  | 0, a, some (b, g), w, hd, ha, h => by
    by_cases hne : Tr.blk a = some b
    · have e1 : a.ptr = .pointer (some ⟨b, 0, none⟩) := by unfold Tr.ptr ptrOf; rw [hne]; rfl
      rw [Tr.fr_some, if_pos hne, e1]
      exact fresh_same b w
    · rw [Tr.fr_some, if_neg hne]
      exact fresh_node a b g w ha h.1 hne (fun _ => .pointer none) (low_cell g) (fun k => fresh_nil _ w) (by
        rw [sumK_congr (h := fun _ => 0) 16 (fun i hi => by unfold onF; rw [dif_pos hi]; rfl), sumK_const]; omega)
  | d + 1, a, some (b, g), w, hd, ha, h => by
    by_cases hne : Tr.blk a = some b
    · have e1 : a.ptr = .pointer (some ⟨b, 0, none⟩) := by unfold Tr.ptr ptrOf; rw [hne]; rfl
      rw [Tr.fr_some, if_pos hne, e1]
      exact fresh_same b w
    · have hb := Tr.cnt_lt (d := d + 1) (some (b, g))
      have hf := Tr.fr_le a (some (b, g) : Tr (d + 2))
      rw [Tr.fr_some, if_neg hne] at hf
      have := pow_le7 hd
      rw [Tr.fr_some, if_neg hne]
      refine fresh_node a b g w ha h.1 hne (fun k => (g k).ptr) (kids_cell g) (fun k => ?_) (by omega)
      rw [kp_kid]
      exact fresh_any (a.kid k) (g k) w (by omega) (Tr.at_kid ha k) (h.2 k)
set_option maxRecDepth 100000 in
/-- Shared: how many nodes of t are those of a, and how many aren't. -/
theorem shared_any (ba bt na nt : Nat) (a t : Tr 8) (w : World) (ha : MapAt w ba a na) (ht : MapAt w bt t nt) :
    Calls Tryd.prog 23 #[.pointer (some ⟨ba, 0, none⟩), .pointer (some ⟨bt, 0, none⟩)] w fun e w' =>
      e = .returned (.tuple #[.int .i64 ((t.cnt : Int) - (a.fr t : Int)), .int .i64 (a.fr t : Nat)]) ∧ Below w.heap.size w w' := by
  have h1 := ha.map.cell (i := 0) rfl
  have h2 := ht.map.cell (i := 0) rfl
  have hf := Lib.hid (fresh_any a t w.drew (by omega) (Tr.at_ext (Below.refl _ _).drew ha.tree) (Tr.at_ext (Below.refl _ _).drew ht.tree))
  have hc := Lib.hid (count_any t w.drew (by omega) (Tr.at_ext (Below.refl _ _).drew ht.tree))
  have hle := Tr.fr_le a t
  have hlt := Tr.cnt_lt t
  have h16 := pow_le7 (d := 7) (by omega)
  generalize a.ptr = pa at *
  generalize t.ptr = pt at *
  generalize a.fr t = x at *
  generalize t.cnt = y at *
  have hy : y ≤ 4294967296 := by omega
  clear hlt h16
  go_enter Tryd.func23, Tryd.ntmps23
  go_wp2
  refine rgn [0, 1, 2, 3, 4, 5, 6, 7, 8, 9] [] (by kernel_rfl) ?_
  simp only [pickL, List.getD_cons_zero, List.getD_cons_succ]
  go_wp2_with (go_at_call 33; refine hf.out.mono ?_; rintro e w' ⟨rfl, rfl⟩)
  refine ⟨rfl, ?_⟩
  go_wp2_with (go_at_call 34; refine hc.out.mono ?_; rintro e w' ⟨rfl, rfl⟩)
  go_returns
  exact ⟨rfl, (Below.refl _ _).drew⟩
end Go.Proofs.YtihmhledogppmaaDoor
namespace Go.Proofs.YtihmhledogppmaaDoor
open Go Go.RowKit
set_option linter.unusedVariables false
set_option linter.unusedSimpArgs false

def belowV (B1 B2 B3 : Nat) : Value := .func (.func 66) #[] #[.pointer (some ⟨B1, 0, none⟩), .pointer (some ⟨B2, 0, none⟩), .pointer (some ⟨B3, 0, none⟩)]
def BelowD {d : Nat} (t : Tr (d + 1)) (lv head B1 B2 B3 : Nat) (W : World) : Prop := Holds W B1 [t.ptr] ∧ Holds W B2 [.int .i64 (lv : Nat)] ∧ Holds W B3 [.int .u32 (head : Nat)] ∧ t.at W
set_option maxRecDepth 100000 in
theorem below_gives {d : Nat} (t : Tr (d + 1)) (lv head B1 B2 B3 : Nat) (hl : lv + d = 7) (hh : head + 16 ^ (d + 1) ≤ 4294967296) : Gives Tryd.prog (belowV B1 B2 B3) encE (t.ents head) (BelowD t lv head B1 B2 B3) := by
  intro Y Inv Brk W hg hD hY h0
  refine callV_func (Go.Proofs.enters_of Tryd.func66 (by kernel_rfl) rfl) ?_
  obtain ⟨h1, h2, h3, h4⟩ := hD _ _ h0
  have hc1 := h1.cell (i := 0) rfl
  have hc2 := h2.cell (i := 0) rfl
  have hc3 := h3.cell (i := 0) rfl
  rw [← fromL_zero (t.ents head)] at hY ⊢
  have hw := walk_any Y _ Inv Brk hY d t lv head 0 [] [] W hl (fun pre W h => (hD pre W h).2.2.2) (by simp) hh (by omega) h0
  have HW := Lib.hid hw
  clear hw
  show Calls Tryd.prog 66 #[Y, .pointer (some ⟨B1, 0, none⟩), .pointer (some ⟨B2, 0, none⟩), .pointer (some ⟨B3, 0, none⟩)] W _
  generalize t.ptr = pt at hc1 HW
  go_enter Tryd.func66, Tryd.ntmps66
  go_wp2_with (go_at_call 52; refine HW.out.mono ?_; rintro e W' (⟨rfl, hi⟩ | ⟨rfl, p, x, q, hpq, hb⟩))
  · go_returns
    exact ⟨⟨_, rfl⟩, .inl hi⟩
  · go_returns
    exact ⟨⟨_, rfl⟩, .inr ⟨p, x, q, by simpa using hpq, hb⟩⟩
theorem below_any (o : Option Addr) (lv head : Nat) (w : World) : Calls Tryd.prog 63 #[.pointer o, .int .i64 (lv : Nat), .int .u32 (head : Nat)] w fun e w' =>
    e = .returned (belowV w.heap.size (w.heap.size + 1) (w.heap.size + 2)) ∧ Below w.heap.size w w' ∧ Holds w' w.heap.size [.pointer o] ∧ Holds w' (w.heap.size + 1) [.int .i64 (lv : Nat)] ∧ Holds w' (w.heap.size + 2) [.int .u32 (head : Nat)] := by
  go_enter Tryd.func63, Tryd.ntmps63
  go_wp2
  go_returns
  refine ⟨rfl, ?_, ?_, ?_, ?_⟩
  · (repeat' (first | (with_reducible exact Below.refl _ _) | (with_reducible assumption) | (with_reducible refine below_drewN ?_ _) | (with_reducible refine Below.drew ?_) | (with_reducible refine Below.alloc ?_ ?_ _) | (with_reducible refine Below.setCell ?_ ?_ _) | (with_reducible exact Below.size (by assumption)) | go_size))
  · exact ((Holds.alloc w [_] _).ext ((Below.refl _ _).alloc (Nat.le_refl _) _)).ext ((Below.refl _ _).alloc (Nat.le_refl _) _)
  · have := Holds.alloc (w.alloc (.cells #[.pointer o] 77)) [.int .i64 (lv : Nat)] 3
    rw [World.size_alloc] at this
    exact this.ext ((Below.refl _ _).alloc (Nat.le_refl _) _)
  · have := Holds.alloc ((w.alloc (.cells #[.pointer o] 77)).alloc (.cells #[.int .i64 (lv : Nat)] 3)) [.int .u32 (head : Nat)] 30
    rw [World.size_alloc, World.size_alloc] at this
    exact this
end Go.Proofs.YtihmhledogppmaaDoor
namespace Go.Proofs.YtihmhledogppmaaDoor
open Go Go.RowKit
set_option linter.unusedVariables false

theorem callV_yield {P : Program} {l : Nat} {args : Array Value} {W : World} {m : Nat} {R : Ending → World → Prop} (h : YieldAt Fence.wide m P l args W R) : CallV P (.func (.yield l) #[] #[]) args W R := by
  obtain ⟨fn, tmps, asg, body, hy, hR⟩ := h
  refine ⟨.round l fn tmps asg body, ?_, (open_wide P).round (open_wide P) hR⟩
  simp [Deferred.ofValue, invoke, callFunc, hy]
theorem callV_calls' {P : Program} {f : FuncId} {fst cap args : Array Value} {w : World} {R : Ending → World → Prop} (he : ∀ xs w, (callFunc f xs).run P w = .ok (.enter f xs) w) (h : CallV P (.func (.func f) fst cap) args w R) :
    Calls P f (fst ++ args ++ cap) w R := by
  obtain ⟨nx, hn, h⟩ := h
  have : (do let d ← Deferred.ofValue (.func (.func f) fst cap) args; invoke d.target d.args : Sem Next).run P w = .ok (.enter f (fst ++ args ++ cap)) w := by simp [Deferred.ofValue, invoke, he]
  rw [this] at hn
  cases hn
  exact h
theorem seq_of_gives {α : Type} {P : Program} {gf : FuncId} {lb : Array Value} {enc : α → Array Value} {xs : List α} {D : World → Prop} (hG : Gives P (.func (.func gf) #[] lb) enc xs D) (he : ∀ ys w, (callFunc gf ys).run P w = .ok (.enter gf ys) w)
    {n : Nat} {w0 : World} (hD : ∀ W, Below w0.heap.size w0 W → D W) : SeqStopsK Fence.wide n P gf lb enc (Below w0.heap.size) (fun ys => ys = xs) (fun _ => True) (xs.length + 1) w0 := by
  intro l J Jx W hW hJ hJx hY h0
  have hc := hG (.func (.yield l) #[] #[]) (fun pre W1 => J pre W1 ∧ Below w0.heap.size w0 W1) Jx W
    (fun pre X X' h hb => ⟨hJ pre X X' none h.1 ⟨hb.os, hb.tape, hb.output, hb.size, fun k hk _ => hb.block k hk⟩ (fun r e => by cases e), h.2.trans (hb.mono h.2.size)⟩)
    (fun pre X h => hD X h.2)
    (fun pre x post hx X h => (callV_yield (hY pre x X h.1 (by rw [hx]; simp; omega))).mono fun e X' hr => hr.imp (fun ⟨h1, h2, h3⟩ => ⟨h1, h2, h.2.trans h3⟩) id)
    ⟨h0, hW⟩
  have hq := callV_calls' he hc
  rw [Array.empty_append] at hq
  refine (open_wide P).calls (hq.mono fun e X hr => ⟨hr.1, ?_⟩)
  rcases hr.2 with h | ⟨pre, x, post, _, h⟩
  · exact .inl ⟨xs, rfl, h.1⟩
  · exact .inr ⟨_, trivial, h⟩
end Go.Proofs.YtihmhledogppmaaDoor
