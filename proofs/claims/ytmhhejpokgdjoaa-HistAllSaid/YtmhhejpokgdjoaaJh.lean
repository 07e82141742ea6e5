/- The walk of a pair's plays. Printed by gen/mkJh.py. -/
import Derived.Test.YtmhhejpokgdjoaaJg
namespace Go.Proofs.Ytmhhejpokgdjoaa
open Go Go.RowKit
set_option linter.unusedVariables false
set_option linter.unusedSimpArgs false
attribute [local go_sem] Oper.semAt_some

/-- What a call on both histories leaves. -/
def PlaysQ (bh bw : Nat) (w w' : World) : Prop := ∃ vs i, HistL w' bh vs i ∧ RHistL w' bw vs i ∧ Frm [bh, bw] w w'
def RHistS (w : World) (b : Nat) (h : HS) : Prop := RHistL w b h.1 h.2
theorem rpush_s (b : Nat) (h : HS) (v : Value) (l : List E) (w : World) (hh : RHistS w b h) (hv : RefV w v l) (hl : l.length ≤ 200) :
    Calls Try.prog 54 #[.pointer (some ⟨b, 0, none⟩), v] w fun e w' => e = .returned (.int .i64 (if 32 ≤ h.2 then 110 else 0)) ∧ RHistS w' b (pushH h l) ∧ Only b w w' := by
  obtain ⟨vs, i⟩ := h
  unfold pushH
  dsimp only
  by_cases hi : 32 ≤ i
  · rw [if_pos hi, if_pos hi]
    refine (rpush_full b vs i v w hh hi).mono ?_
    rintro e w' ⟨rfl, hb⟩
    exact ⟨rfl, RHistL.ext hh hb, Only.of_below hb⟩
  · rw [if_neg hi, if_neg hi]
    refine (rpush_to b vs i v l w hh (by omega) hv hl).mono ?_
    rintro e w' ⟨rfl, h1, h2⟩
    exact ⟨rfl, h1, h2⟩
theorem rforget_s (b : Nat) (h : HS) (n : Int) (w : World) (hh : RHistS w b h) : Calls Try.prog 60 #[.pointer (some ⟨b, 0, none⟩), .int .i64 n] w fun e w' => e = .returned (.int .i64 (if n < 0 ∨ (h.2 : Int) < n then 113 else 0)) ∧ RHistS w' b (forgetH h n) ∧ Only b w w' := by
  obtain ⟨vs, i⟩ := h
  unfold forgetH
  dsimp only
  by_cases hn : n < 0 ∨ (i : Int) < n
  · rw [if_pos hn, if_pos hn]
    refine (rforget_no b vs i n w hh hn).mono ?_
    rintro e w' ⟨rfl, hb⟩
    exact ⟨rfl, RHistL.ext hh hb, Only.of_below hb⟩
  · rw [if_neg hn, if_neg hn]
    obtain ⟨m, rfl⟩ : ∃ m : Nat, n = m := ⟨n.toNat, by omega⟩
    rw [Int.toNat_natCast]
    refine (rforget_to b vs i m w hh (by omega)).mono ?_
    rintro e w' ⟨rfl, h1, h2⟩
    exact ⟨rfl, h1, h2⟩
def pushR (i : Nat) : Int := if 32 ≤ i then 110 else 0
def fgR (i : Nat) (n : Int) : Int := if n < 0 ∨ (i : Int) < n then 113 else 0
theorem push_r (b : Nat) (vs : List (List E)) (i : Nat) (v : Value) (l : List E) (w : World) (hh : HistL w b vs i) (hv : MapV w v l) (hl : l.length ≤ 200) :
    Calls Try.prog 14 #[.pointer (some ⟨b, 0, none⟩), v] w fun e w' => e = .returned (.int .i64 (pushR i)) ∧ HistL w' b (pushH (vs, i) l).1 (pushH (vs, i) l).2 ∧ Only b w w' := push_s b (vs, i) v l w hh hv hl
theorem rpush_r (b : Nat) (vs : List (List E)) (i : Nat) (v : Value) (l : List E) (w : World) (hh : RHistL w b vs i) (hv : RefV w v l) (hl : l.length ≤ 200) :
    Calls Try.prog 54 #[.pointer (some ⟨b, 0, none⟩), v] w fun e w' => e = .returned (.int .i64 (pushR i)) ∧ RHistL w' b (pushH (vs, i) l).1 (pushH (vs, i) l).2 ∧ Only b w w' := rpush_s b (vs, i) v l w hh hv hl
theorem forget_r (b : Nat) (vs : List (List E)) (i : Nat) (n : Int) (w : World) (hh : HistL w b vs i) : Calls Try.prog 21 #[.pointer (some ⟨b, 0, none⟩), .int .i64 n] w fun e w' => e = .returned (.int .i64 (fgR i n)) ∧ HistL w' b (forgetH (vs, i) n).1 (forgetH (vs, i) n).2 ∧ Only b w w' := forget_s b (vs, i) n w hh
theorem rforget_r (b : Nat) (vs : List (List E)) (i : Nat) (n : Int) (w : World) (hh : RHistL w b vs i) : Calls Try.prog 60 #[.pointer (some ⟨b, 0, none⟩), .int .i64 n] w fun e w' => e = .returned (.int .i64 (fgR i n)) ∧ RHistL w' b (forgetH (vs, i) n).1 (forgetH (vs, i) n).2 ∧ Only b w w' := rforget_s b (vs, i) n w hh
theorem own_part {w : World} {v : Value} {l : List E} (h : RdF w v l) : ∃ a c, v = .slice a l.length c ∧ l.length ≤ c ∧ Rd w 3 encL (.slice a l.length c) l := h
theorem hne1 {bh bw : Nat} (h : bh ≠ bw) : bw ∉ [bh] := fun e => h (List.mem_singleton.1 e).symm
set_option maxRecDepth 100000 in
set_option maxHeartbeats 3200000 in
theorem plays_2n (bh bw : Nat) (vs : List (List E)) (i : Nat) (x : OpL) (w : World) (hp : HistL w bh vs i) (hq : RHistL w bw vs i) (hne : bh ≠ bw) (hr : RdF w x.lv x.l) (hid : ∀ y ∈ x.l, y.1 < 4294967296) (hk : x.kind = 2) (hi0 : i = 0)  :
    Calls Try.prog 33 #[.agg #[.pointer (some ⟨bh, 0, none⟩), .pointer (some ⟨bw, 0, none⟩)], .agg (opCells x).toArray] w fun e w' => e = .returned (.bool true) ∧ PlaysQ bh bw w w' := by
  obtain ⟨kd, xa, xb, x2, xn, xv, xl⟩ := x
  simp only at hk hr hid
  subst hk
  obtain ⟨sa, sc, hxv, hsc, hrd⟩ := hr
  subst hxv
  have hr : RdF w (.slice sa xl.length sc) xl := ⟨sa, sc, rfl, hsc, hrd⟩
  clear hrd
  have a0 : Below w.heap.size w (w.alloc (.cells #[.pointer (some ⟨bh, 0, none⟩), .pointer (some ⟨bw, 0, none⟩)] 64)) := (Below.refl _ _).alloc (Nat.le_refl _) _
  have b0 : Holds (w.alloc (.cells #[.pointer (some ⟨bh, 0, none⟩), .pointer (some ⟨bw, 0, none⟩)] 64)) w.heap.size (prC bh bw) := Holds.alloc w (prC bh bw) 64
  have a1 : Below (w.alloc (.cells #[.pointer (some ⟨bh, 0, none⟩), .pointer (some ⟨bw, 0, none⟩)] 64)).heap.size (w.alloc (.cells #[.pointer (some ⟨bh, 0, none⟩), .pointer (some ⟨bw, 0, none⟩)] 64)) ((w.alloc (.cells #[.pointer (some ⟨bh, 0, none⟩), .pointer (some ⟨bw, 0, none⟩)] 64)).alloc (.cells (opCells ⟨2, xa, xb, x2, xn, .slice sa xl.length sc, xl⟩).toArray 73)) := (Below.refl _ _).alloc (Nat.le_refl _) _
  have b1 := Holds.alloc (w.alloc (.cells #[.pointer (some ⟨bh, 0, none⟩), .pointer (some ⟨bw, 0, none⟩)] 64)) (opCells ⟨2, xa, xb, x2, xn, .slice sa xl.length sc, xl⟩) 73
  have hlt := hp.facts.2.2.2
  have hlt2 := hq.facts.2.2.2
  have hil := hp.facts.1
  have hvl := hp.facts.2.1
  have ha := a0.trans (a1.mono a0.size)
  have P0 := Lib.hid (b0.ext a1)
  have O1 : Hid (Holds ((w.alloc (.cells #[.pointer (some ⟨bh, 0, none⟩), .pointer (some ⟨bw, 0, none⟩)] 64)).alloc (.cells (opCells ⟨2, xa, xb, x2, xn, .slice sa xl.length sc, xl⟩).toArray 73)) (w.heap.size + 1) (opCells ⟨2, xa, xb, x2, xn, .slice sa xl.length sc, xl⟩)) := Lib.hid (by rw [World.size_alloc] at b1; exact b1)
  have H0 := Lib.hid (hp.ext ha)
  have Q0 := Lib.hid (hq.ext ha)
  have F0 := Lib.hid (Frm.of_below (S := [bh, bw]) ha)
  have R0 := Lib.hid (hr.ext ha)
  have HN := Lib.hid hne
  have VL := Lib.hid hp.facts.2.2.1
  have c0 := P0.out.cell (i := 0) rfl
  have c1 := P0.out.cell (i := 1) rfl
  have o0 := O1.out.cell (i := 0) rfl
  have o1 := O1.out.cell (i := 1) rfl
  have o2 := O1.out.cell (i := 2) rfl
  have o4 := O1.out.cell (i := 4) rfl
  have o5 := O1.out.cell (i := 5) rfl
  have HLT := Lib.hid hlt
  have HLT2 := Lib.hid hlt2
  clear a0 b0 a1 b1 ha hp hq hr hne hlt hlt2
  subst hi0
  go_enter Try.func33, Try.ntmps33
  go_wp2_with fail
  refine (undo_no bh vs _ H0.out).mono ?_
  rintro e w1 ⟨rfl, hb1⟩
  have p1 := (P0.out.ext hb1).cell (i := 1) rfl
  have Q1 := Lib.hid (Q0.out.ext hb1)
  have H1 := Lib.hid (H0.out.ext hb1)
  have F1 := Lib.hid (F0.out.trans (Frm.of_below hb1))
  clear hb1
  go_wp2_with fail
  refine (rundo_no bw vs _ Q1.out).mono ?_
  rintro e w2 ⟨rfl, hb2⟩
  have Q2 := Lib.hid (Q1.out.ext hb2)
  have H2 := Lib.hid (H1.out.ext hb2)
  have F2 := Lib.hid (F1.out.trans (Frm.of_below hb2))
  clear hb2
  go_wp2_with fail
  refine (same_nn _).mono ?_
  rintro e w3 ⟨rfl, hb3⟩
  have Q3 := Lib.hid (Q2.out.ext hb3)
  have H3 := Lib.hid (H2.out.ext hb3)
  have F3 := Lib.hid (F2.out.trans (Frm.of_below hb3))
  clear hb3
  go_wp2
  go_returns
  exact ⟨rfl, _, _, H3.out, Q3.out, F3.out⟩
set_option maxRecDepth 100000 in
set_option maxHeartbeats 3200000 in
theorem plays_2t (bh bw : Nat) (vs : List (List E)) (i : Nat) (x : OpL) (w : World) (hp : HistL w bh vs i) (hq : RHistL w bw vs i) (hne : bh ≠ bw) (hr : RdF w x.lv x.l) (hid : ∀ y ∈ x.l, y.1 < 4294967296) (hk : x.kind = 2) (j : Nat) (hj : i = j + 1)  :
    Calls Try.prog 33 #[.agg #[.pointer (some ⟨bh, 0, none⟩), .pointer (some ⟨bw, 0, none⟩)], .agg (opCells x).toArray] w fun e w' => e = .returned (.bool true) ∧ PlaysQ bh bw w w' := by
  obtain ⟨kd, xa, xb, x2, xn, xv, xl⟩ := x
  simp only at hk hr hid
  subst hk
  obtain ⟨sa, sc, hxv, hsc, hrd⟩ := hr
  subst hxv
  have hr : RdF w (.slice sa xl.length sc) xl := ⟨sa, sc, rfl, hsc, hrd⟩
  clear hrd
  have a0 : Below w.heap.size w (w.alloc (.cells #[.pointer (some ⟨bh, 0, none⟩), .pointer (some ⟨bw, 0, none⟩)] 64)) := (Below.refl _ _).alloc (Nat.le_refl _) _
  have b0 : Holds (w.alloc (.cells #[.pointer (some ⟨bh, 0, none⟩), .pointer (some ⟨bw, 0, none⟩)] 64)) w.heap.size (prC bh bw) := Holds.alloc w (prC bh bw) 64
  have a1 : Below (w.alloc (.cells #[.pointer (some ⟨bh, 0, none⟩), .pointer (some ⟨bw, 0, none⟩)] 64)).heap.size (w.alloc (.cells #[.pointer (some ⟨bh, 0, none⟩), .pointer (some ⟨bw, 0, none⟩)] 64)) ((w.alloc (.cells #[.pointer (some ⟨bh, 0, none⟩), .pointer (some ⟨bw, 0, none⟩)] 64)).alloc (.cells (opCells ⟨2, xa, xb, x2, xn, .slice sa xl.length sc, xl⟩).toArray 73)) := (Below.refl _ _).alloc (Nat.le_refl _) _
  have b1 := Holds.alloc (w.alloc (.cells #[.pointer (some ⟨bh, 0, none⟩), .pointer (some ⟨bw, 0, none⟩)] 64)) (opCells ⟨2, xa, xb, x2, xn, .slice sa xl.length sc, xl⟩) 73
  have hlt := hp.facts.2.2.2
  have hlt2 := hq.facts.2.2.2
  have hil := hp.facts.1
  have hvl := hp.facts.2.1
  have ha := a0.trans (a1.mono a0.size)
  have P0 := Lib.hid (b0.ext a1)
  have O1 : Hid (Holds ((w.alloc (.cells #[.pointer (some ⟨bh, 0, none⟩), .pointer (some ⟨bw, 0, none⟩)] 64)).alloc (.cells (opCells ⟨2, xa, xb, x2, xn, .slice sa xl.length sc, xl⟩).toArray 73)) (w.heap.size + 1) (opCells ⟨2, xa, xb, x2, xn, .slice sa xl.length sc, xl⟩)) := Lib.hid (by rw [World.size_alloc] at b1; exact b1)
  have H0 := Lib.hid (hp.ext ha)
  have Q0 := Lib.hid (hq.ext ha)
  have F0 := Lib.hid (Frm.of_below (S := [bh, bw]) ha)
  have R0 := Lib.hid (hr.ext ha)
  have HN := Lib.hid hne
  have VL := Lib.hid hp.facts.2.2.1
  have c0 := P0.out.cell (i := 0) rfl
  have c1 := P0.out.cell (i := 1) rfl
  have o0 := O1.out.cell (i := 0) rfl
  have o1 := O1.out.cell (i := 1) rfl
  have o2 := O1.out.cell (i := 2) rfl
  have o4 := O1.out.cell (i := 4) rfl
  have o5 := O1.out.cell (i := 5) rfl
  have HLT := Lib.hid hlt
  have HLT2 := Lib.hid hlt2
  clear a0 b0 a1 b1 ha hp hq hr hne hlt hlt2
  subst hj
  go_enter Try.func33, Try.ntmps33
  go_wp2_with fail
  refine (undo_to bh vs j _ H0.out).mono ?_
  rintro e w1 ⟨c, l, rfl, hl1, hm1, hh1, ho1⟩
  have L1 := Lib.hid hl1
  have M1 := Lib.hid hm1
  clear hl1 hm1
  have F1 := Lib.hid (F0.out.trans (Frm.of_only H0.out.blk (by simp) ho1))
  have Q1 := Lib.hid (Q0.out.onlyB H0.out.blk (fun e => HN.out e.symm) ho1)
  have P1 := Lib.hid (ho1.holds P0.out (by have := HLT.out; omega))
  have X1 := Lib.hid (ho1.holds O1.out (by have := HLT.out; omega))
  have HH1 := Lib.hid hh1
  have p1 := P1.out.cell (i := 1) rfl
  have x1 := X1.out.cell (i := 1) rfl
  clear ho1 hh1
  go_wp2_with fail
  refine (rundo_to bw vs j _ Q1.out).mono ?_
  rintro e w2 ⟨c', l', rfl, hl2, hm2, hh2, ho2⟩
  obtain rfl : l' = l := Option.some.inj (hl2.symm.trans L1.out)
  have M2 := Lib.hid (M1.out.onlyB Q1.out.blk ho2)
  have N2 := Lib.hid hm2
  have hll : l'.length ≤ 200 := VL.out l' (List.mem_of_getElem? hl2)
  have F2 := Lib.hid (F1.out.trans (Frm.of_only Q1.out.blk (by simp) ho2))
  have HH2 := Lib.hid (HistL.onlyB HH1.out Q1.out.blk HN.out ho2)
  have QQ2 := Lib.hid hh2
  clear ho2 hh2 hl2 hm2
  go_wp2_with fail
  refine (same_pp c c' l' _ M2.out N2.out hll).mono ?_
  rintro e w3 ⟨rfl, hb3⟩
  have Q3 := Lib.hid (RHistL.ext QQ2.out hb3)
  have H3 := Lib.hid (HistL.ext HH2.out hb3)
  have F3 := Lib.hid (F2.out.trans (Frm.of_below hb3))
  clear hb3
  go_wp2
  go_returns
  exact ⟨rfl, _, _, H3.out, Q3.out, F3.out⟩
set_option maxRecDepth 100000 in
set_option maxHeartbeats 3200000 in
theorem plays_3n (bh bw : Nat) (vs : List (List E)) (i : Nat) (x : OpL) (w : World) (hp : HistL w bh vs i) (hq : RHistL w bw vs i) (hne : bh ≠ bw) (hr : RdF w x.lv x.l) (hid : ∀ y ∈ x.l, y.1 < 4294967296) (hk : x.kind = 3) (hi0 : vs.length ≤ i + 1)  :
    Calls Try.prog 33 #[.agg #[.pointer (some ⟨bh, 0, none⟩), .pointer (some ⟨bw, 0, none⟩)], .agg (opCells x).toArray] w fun e w' => e = .returned (.bool true) ∧ PlaysQ bh bw w w' := by
  obtain ⟨kd, xa, xb, x2, xn, xv, xl⟩ := x
  simp only at hk hr hid
  subst hk
  obtain ⟨sa, sc, hxv, hsc, hrd⟩ := hr
  subst hxv
  have hr : RdF w (.slice sa xl.length sc) xl := ⟨sa, sc, rfl, hsc, hrd⟩
  clear hrd
  have a0 : Below w.heap.size w (w.alloc (.cells #[.pointer (some ⟨bh, 0, none⟩), .pointer (some ⟨bw, 0, none⟩)] 64)) := (Below.refl _ _).alloc (Nat.le_refl _) _
  have b0 : Holds (w.alloc (.cells #[.pointer (some ⟨bh, 0, none⟩), .pointer (some ⟨bw, 0, none⟩)] 64)) w.heap.size (prC bh bw) := Holds.alloc w (prC bh bw) 64
  have a1 : Below (w.alloc (.cells #[.pointer (some ⟨bh, 0, none⟩), .pointer (some ⟨bw, 0, none⟩)] 64)).heap.size (w.alloc (.cells #[.pointer (some ⟨bh, 0, none⟩), .pointer (some ⟨bw, 0, none⟩)] 64)) ((w.alloc (.cells #[.pointer (some ⟨bh, 0, none⟩), .pointer (some ⟨bw, 0, none⟩)] 64)).alloc (.cells (opCells ⟨3, xa, xb, x2, xn, .slice sa xl.length sc, xl⟩).toArray 73)) := (Below.refl _ _).alloc (Nat.le_refl _) _
  have b1 := Holds.alloc (w.alloc (.cells #[.pointer (some ⟨bh, 0, none⟩), .pointer (some ⟨bw, 0, none⟩)] 64)) (opCells ⟨3, xa, xb, x2, xn, .slice sa xl.length sc, xl⟩) 73
  have hlt := hp.facts.2.2.2
  have hlt2 := hq.facts.2.2.2
  have hil := hp.facts.1
  have hvl := hp.facts.2.1
  have ha := a0.trans (a1.mono a0.size)
  have P0 := Lib.hid (b0.ext a1)
  have O1 : Hid (Holds ((w.alloc (.cells #[.pointer (some ⟨bh, 0, none⟩), .pointer (some ⟨bw, 0, none⟩)] 64)).alloc (.cells (opCells ⟨3, xa, xb, x2, xn, .slice sa xl.length sc, xl⟩).toArray 73)) (w.heap.size + 1) (opCells ⟨3, xa, xb, x2, xn, .slice sa xl.length sc, xl⟩)) := Lib.hid (by rw [World.size_alloc] at b1; exact b1)
  have H0 := Lib.hid (hp.ext ha)
  have Q0 := Lib.hid (hq.ext ha)
  have F0 := Lib.hid (Frm.of_below (S := [bh, bw]) ha)
  have R0 := Lib.hid (hr.ext ha)
  have HN := Lib.hid hne
  have VL := Lib.hid hp.facts.2.2.1
  have c0 := P0.out.cell (i := 0) rfl
  have c1 := P0.out.cell (i := 1) rfl
  have o0 := O1.out.cell (i := 0) rfl
  have o1 := O1.out.cell (i := 1) rfl
  have o2 := O1.out.cell (i := 2) rfl
  have o4 := O1.out.cell (i := 4) rfl
  have o5 := O1.out.cell (i := 5) rfl
  have HLT := Lib.hid hlt
  have HLT2 := Lib.hid hlt2
  clear a0 b0 a1 b1 ha hp hq hr hne hlt hlt2
  have HI := Lib.hid hi0
  clear hi0
  go_enter Try.func33, Try.ntmps33
  go_wp2_with fail
  refine (redo_no bh vs i _ H0.out HI.out).mono ?_
  rintro e w1 ⟨rfl, hb1⟩
  have p1 := (P0.out.ext hb1).cell (i := 1) rfl
  have Q1 := Lib.hid (Q0.out.ext hb1)
  have H1 := Lib.hid (H0.out.ext hb1)
  have F1 := Lib.hid (F0.out.trans (Frm.of_below hb1))
  clear hb1
  go_wp2_with fail
  refine (rredo_no bw vs i _ Q1.out HI.out).mono ?_
  rintro e w2 ⟨rfl, hb2⟩
  have Q2 := Lib.hid (Q1.out.ext hb2)
  have H2 := Lib.hid (H1.out.ext hb2)
  have F2 := Lib.hid (F1.out.trans (Frm.of_below hb2))
  clear hb2
  go_wp2_with fail
  refine (same_nn _).mono ?_
  rintro e w3 ⟨rfl, hb3⟩
  have Q3 := Lib.hid (Q2.out.ext hb3)
  have H3 := Lib.hid (H2.out.ext hb3)
  have F3 := Lib.hid (F2.out.trans (Frm.of_below hb3))
  clear hb3
  go_wp2
  go_returns
  exact ⟨rfl, _, _, H3.out, Q3.out, F3.out⟩
set_option maxRecDepth 100000 in
set_option maxHeartbeats 3200000 in
theorem plays_3t (bh bw : Nat) (vs : List (List E)) (i : Nat) (x : OpL) (w : World) (hp : HistL w bh vs i) (hq : RHistL w bw vs i) (hne : bh ≠ bw) (hr : RdF w x.lv x.l) (hid : ∀ y ∈ x.l, y.1 < 4294967296) (hk : x.kind = 3) (hj : i + 1 < vs.length)  :
    Calls Try.prog 33 #[.agg #[.pointer (some ⟨bh, 0, none⟩), .pointer (some ⟨bw, 0, none⟩)], .agg (opCells x).toArray] w fun e w' => e = .returned (.bool true) ∧ PlaysQ bh bw w w' := by
  obtain ⟨kd, xa, xb, x2, xn, xv, xl⟩ := x
  simp only at hk hr hid
  subst hk
  obtain ⟨sa, sc, hxv, hsc, hrd⟩ := hr
  subst hxv
  have hr : RdF w (.slice sa xl.length sc) xl := ⟨sa, sc, rfl, hsc, hrd⟩
  clear hrd
  have a0 : Below w.heap.size w (w.alloc (.cells #[.pointer (some ⟨bh, 0, none⟩), .pointer (some ⟨bw, 0, none⟩)] 64)) := (Below.refl _ _).alloc (Nat.le_refl _) _
  have b0 : Holds (w.alloc (.cells #[.pointer (some ⟨bh, 0, none⟩), .pointer (some ⟨bw, 0, none⟩)] 64)) w.heap.size (prC bh bw) := Holds.alloc w (prC bh bw) 64
  have a1 : Below (w.alloc (.cells #[.pointer (some ⟨bh, 0, none⟩), .pointer (some ⟨bw, 0, none⟩)] 64)).heap.size (w.alloc (.cells #[.pointer (some ⟨bh, 0, none⟩), .pointer (some ⟨bw, 0, none⟩)] 64)) ((w.alloc (.cells #[.pointer (some ⟨bh, 0, none⟩), .pointer (some ⟨bw, 0, none⟩)] 64)).alloc (.cells (opCells ⟨3, xa, xb, x2, xn, .slice sa xl.length sc, xl⟩).toArray 73)) := (Below.refl _ _).alloc (Nat.le_refl _) _
  have b1 := Holds.alloc (w.alloc (.cells #[.pointer (some ⟨bh, 0, none⟩), .pointer (some ⟨bw, 0, none⟩)] 64)) (opCells ⟨3, xa, xb, x2, xn, .slice sa xl.length sc, xl⟩) 73
  have hlt := hp.facts.2.2.2
  have hlt2 := hq.facts.2.2.2
  have hil := hp.facts.1
  have hvl := hp.facts.2.1
  have ha := a0.trans (a1.mono a0.size)
  have P0 := Lib.hid (b0.ext a1)
  have O1 : Hid (Holds ((w.alloc (.cells #[.pointer (some ⟨bh, 0, none⟩), .pointer (some ⟨bw, 0, none⟩)] 64)).alloc (.cells (opCells ⟨3, xa, xb, x2, xn, .slice sa xl.length sc, xl⟩).toArray 73)) (w.heap.size + 1) (opCells ⟨3, xa, xb, x2, xn, .slice sa xl.length sc, xl⟩)) := Lib.hid (by rw [World.size_alloc] at b1; exact b1)
  have H0 := Lib.hid (hp.ext ha)
  have Q0 := Lib.hid (hq.ext ha)
  have F0 := Lib.hid (Frm.of_below (S := [bh, bw]) ha)
  have R0 := Lib.hid (hr.ext ha)
  have HN := Lib.hid hne
  have VL := Lib.hid hp.facts.2.2.1
  have c0 := P0.out.cell (i := 0) rfl
  have c1 := P0.out.cell (i := 1) rfl
  have o0 := O1.out.cell (i := 0) rfl
  have o1 := O1.out.cell (i := 1) rfl
  have o2 := O1.out.cell (i := 2) rfl
  have o4 := O1.out.cell (i := 4) rfl
  have o5 := O1.out.cell (i := 5) rfl
  have HLT := Lib.hid hlt
  have HLT2 := Lib.hid hlt2
  clear a0 b0 a1 b1 ha hp hq hr hne hlt hlt2
  have HI := Lib.hid hj
  clear hj
  go_enter Try.func33, Try.ntmps33
  go_wp2_with fail
  refine (redo_to bh vs i _ H0.out HI.out).mono ?_
  rintro e w1 ⟨c, l, rfl, hl1, hm1, hh1, ho1⟩
  have L1 := Lib.hid hl1
  have M1 := Lib.hid hm1
  clear hl1 hm1
  have F1 := Lib.hid (F0.out.trans (Frm.of_only H0.out.blk (by simp) ho1))
  have Q1 := Lib.hid (Q0.out.onlyB H0.out.blk (fun e => HN.out e.symm) ho1)
  have P1 := Lib.hid (ho1.holds P0.out (by have := HLT.out; omega))
  have X1 := Lib.hid (ho1.holds O1.out (by have := HLT.out; omega))
  have HH1 := Lib.hid hh1
  have p1 := P1.out.cell (i := 1) rfl
  have x1 := X1.out.cell (i := 1) rfl
  clear ho1 hh1
  go_wp2_with fail
  refine (rredo_to bw vs i _ Q1.out HI.out).mono ?_
  rintro e w2 ⟨c', l', rfl, hl2, hm2, hh2, ho2⟩
  obtain rfl : l' = l := Option.some.inj (hl2.symm.trans L1.out)
  have M2 := Lib.hid (M1.out.onlyB Q1.out.blk ho2)
  have N2 := Lib.hid hm2
  have hll : l'.length ≤ 200 := VL.out l' (List.mem_of_getElem? hl2)
  have F2 := Lib.hid (F1.out.trans (Frm.of_only Q1.out.blk (by simp) ho2))
  have HH2 := Lib.hid (HistL.onlyB HH1.out Q1.out.blk HN.out ho2)
  have QQ2 := Lib.hid hh2
  clear ho2 hh2 hl2 hm2
  go_wp2_with fail
  refine (same_pp c c' l' _ M2.out N2.out hll).mono ?_
  rintro e w3 ⟨rfl, hb3⟩
  have Q3 := Lib.hid (RHistL.ext QQ2.out hb3)
  have H3 := Lib.hid (HistL.ext HH2.out hb3)
  have F3 := Lib.hid (F2.out.trans (Frm.of_below hb3))
  clear hb3
  go_wp2
  go_returns
  exact ⟨rfl, _, _, H3.out, Q3.out, F3.out⟩
set_option maxRecDepth 100000 in
set_option maxHeartbeats 3200000 in
theorem plays_6 (bh bw : Nat) (vs : List (List E)) (i : Nat) (x : OpL) (w : World) (hp : HistL w bh vs i) (hq : RHistL w bw vs i) (hne : bh ≠ bw) (hr : RdF w x.lv x.l) (hid : ∀ y ∈ x.l, y.1 < 4294967296) (hk : x.kind = 6)  :
    Calls Try.prog 33 #[.agg #[.pointer (some ⟨bh, 0, none⟩), .pointer (some ⟨bw, 0, none⟩)], .agg (opCells x).toArray] w fun e w' => e = .returned (.bool true) ∧ PlaysQ bh bw w w' := by
  obtain ⟨kd, xa, xb, x2, xn, xv, xl⟩ := x
  simp only at hk hr hid
  subst hk
  obtain ⟨sa, sc, hxv, hsc, hrd⟩ := hr
  subst hxv
  have hr : RdF w (.slice sa xl.length sc) xl := ⟨sa, sc, rfl, hsc, hrd⟩
  clear hrd
  have a0 : Below w.heap.size w (w.alloc (.cells #[.pointer (some ⟨bh, 0, none⟩), .pointer (some ⟨bw, 0, none⟩)] 64)) := (Below.refl _ _).alloc (Nat.le_refl _) _
  have b0 : Holds (w.alloc (.cells #[.pointer (some ⟨bh, 0, none⟩), .pointer (some ⟨bw, 0, none⟩)] 64)) w.heap.size (prC bh bw) := Holds.alloc w (prC bh bw) 64
  have a1 : Below (w.alloc (.cells #[.pointer (some ⟨bh, 0, none⟩), .pointer (some ⟨bw, 0, none⟩)] 64)).heap.size (w.alloc (.cells #[.pointer (some ⟨bh, 0, none⟩), .pointer (some ⟨bw, 0, none⟩)] 64)) ((w.alloc (.cells #[.pointer (some ⟨bh, 0, none⟩), .pointer (some ⟨bw, 0, none⟩)] 64)).alloc (.cells (opCells ⟨6, xa, xb, x2, xn, .slice sa xl.length sc, xl⟩).toArray 73)) := (Below.refl _ _).alloc (Nat.le_refl _) _
  have b1 := Holds.alloc (w.alloc (.cells #[.pointer (some ⟨bh, 0, none⟩), .pointer (some ⟨bw, 0, none⟩)] 64)) (opCells ⟨6, xa, xb, x2, xn, .slice sa xl.length sc, xl⟩) 73
  have hlt := hp.facts.2.2.2
  have hlt2 := hq.facts.2.2.2
  have hil := hp.facts.1
  have hvl := hp.facts.2.1
  have ha := a0.trans (a1.mono a0.size)
  have P0 := Lib.hid (b0.ext a1)
  have O1 : Hid (Holds ((w.alloc (.cells #[.pointer (some ⟨bh, 0, none⟩), .pointer (some ⟨bw, 0, none⟩)] 64)).alloc (.cells (opCells ⟨6, xa, xb, x2, xn, .slice sa xl.length sc, xl⟩).toArray 73)) (w.heap.size + 1) (opCells ⟨6, xa, xb, x2, xn, .slice sa xl.length sc, xl⟩)) := Lib.hid (by rw [World.size_alloc] at b1; exact b1)
  have H0 := Lib.hid (hp.ext ha)
  have Q0 := Lib.hid (hq.ext ha)
  have F0 := Lib.hid (Frm.of_below (S := [bh, bw]) ha)
  have R0 := Lib.hid (hr.ext ha)
  have HN := Lib.hid hne
  have VL := Lib.hid hp.facts.2.2.1
  have c0 := P0.out.cell (i := 0) rfl
  have c1 := P0.out.cell (i := 1) rfl
  have o0 := O1.out.cell (i := 0) rfl
  have o1 := O1.out.cell (i := 1) rfl
  have o2 := O1.out.cell (i := 2) rfl
  have o4 := O1.out.cell (i := 4) rfl
  have o5 := O1.out.cell (i := 5) rfl
  have HLT := Lib.hid hlt
  have HLT2 := Lib.hid hlt2
  clear a0 b0 a1 b1 ha hp hq hr hne hlt hlt2
  go_enter Try.func33, Try.ntmps33
  go_wp2_with fail
  refine (forget_r bh vs i xa _ H0.out).mono ?_
  rintro e w1 ⟨rfl, hh1, ho1⟩
  have F1 := Lib.hid (F0.out.trans (Frm.of_only H0.out.blk (by simp) ho1))
  have Q1 := Lib.hid (Q0.out.onlyB H0.out.blk (fun e => HN.out e.symm) ho1)
  have P1 := Lib.hid (ho1.holds P0.out (by have := HLT.out; omega))
  have X1 := Lib.hid (ho1.holds O1.out (by have := HLT.out; omega))
  have HH1 := Lib.hid hh1
  have p1 := P1.out.cell (i := 1) rfl
  have x1 := X1.out.cell (i := 1) rfl
  clear ho1 hh1
  go_wp2_with fail
  refine (rforget_r bw vs i xa _ Q1.out).mono ?_
  rintro e w2 ⟨rfl, hh2, ho2⟩
  have F2 := Lib.hid (F1.out.trans (Frm.of_only Q1.out.blk (by simp) ho2))
  have HH2 := Lib.hid (HistL.onlyB HH1.out Q1.out.blk HN.out ho2)
  have QQ2 := Lib.hid hh2
  clear ho2 hh2
  go_wp2
  go_returns
  exact ⟨by simp, _, _, HH2.out, QQ2.out, F2.out⟩
set_option maxRecDepth 100000 in
set_option maxHeartbeats 3200000 in
theorem plays_1n (bh bw : Nat) (vs : List (List E)) (i : Nat) (x : OpL) (w : World) (hp : HistL w bh vs i) (hq : RHistL w bw vs i) (hne : bh ≠ bw) (hr : RdF w x.lv x.l) (hid : ∀ y ∈ x.l, y.1 < 4294967296) (hk : x.kind = 1) (hn : x.nil = true)  :
    Calls Try.prog 33 #[.agg #[.pointer (some ⟨bh, 0, none⟩), .pointer (some ⟨bw, 0, none⟩)], .agg (opCells x).toArray] w fun e w' => e = .returned (.bool true) ∧ PlaysQ bh bw w w' := by
  obtain ⟨kd, xa, xb, x2, xn, xv, xl⟩ := x
  simp only at hk hr hid hn
  subst hk hn
  obtain ⟨sa, sc, hxv, hsc, hrd⟩ := hr
  subst hxv
  have hr : RdF w (.slice sa xl.length sc) xl := ⟨sa, sc, rfl, hsc, hrd⟩
  clear hrd
  have a0 : Below w.heap.size w (w.alloc (.cells #[.pointer (some ⟨bh, 0, none⟩), .pointer (some ⟨bw, 0, none⟩)] 64)) := (Below.refl _ _).alloc (Nat.le_refl _) _
  have b0 : Holds (w.alloc (.cells #[.pointer (some ⟨bh, 0, none⟩), .pointer (some ⟨bw, 0, none⟩)] 64)) w.heap.size (prC bh bw) := Holds.alloc w (prC bh bw) 64
  have a1 : Below (w.alloc (.cells #[.pointer (some ⟨bh, 0, none⟩), .pointer (some ⟨bw, 0, none⟩)] 64)).heap.size (w.alloc (.cells #[.pointer (some ⟨bh, 0, none⟩), .pointer (some ⟨bw, 0, none⟩)] 64)) ((w.alloc (.cells #[.pointer (some ⟨bh, 0, none⟩), .pointer (some ⟨bw, 0, none⟩)] 64)).alloc (.cells (opCells ⟨1, xa, xb, x2, true, .slice sa xl.length sc, xl⟩).toArray 73)) := (Below.refl _ _).alloc (Nat.le_refl _) _
  have b1 := Holds.alloc (w.alloc (.cells #[.pointer (some ⟨bh, 0, none⟩), .pointer (some ⟨bw, 0, none⟩)] 64)) (opCells ⟨1, xa, xb, x2, true, .slice sa xl.length sc, xl⟩) 73
  have hlt := hp.facts.2.2.2
  have hlt2 := hq.facts.2.2.2
  have hil := hp.facts.1
  have hvl := hp.facts.2.1
  have ha := a0.trans (a1.mono a0.size)
  have P0 := Lib.hid (b0.ext a1)
  have O1 : Hid (Holds ((w.alloc (.cells #[.pointer (some ⟨bh, 0, none⟩), .pointer (some ⟨bw, 0, none⟩)] 64)).alloc (.cells (opCells ⟨1, xa, xb, x2, true, .slice sa xl.length sc, xl⟩).toArray 73)) (w.heap.size + 1) (opCells ⟨1, xa, xb, x2, true, .slice sa xl.length sc, xl⟩)) := Lib.hid (by rw [World.size_alloc] at b1; exact b1)
  have H0 := Lib.hid (hp.ext ha)
  have Q0 := Lib.hid (hq.ext ha)
  have F0 := Lib.hid (Frm.of_below (S := [bh, bw]) ha)
  have R0 := Lib.hid (hr.ext ha)
  have HN := Lib.hid hne
  have VL := Lib.hid hp.facts.2.2.1
  have c0 := P0.out.cell (i := 0) rfl
  have c1 := P0.out.cell (i := 1) rfl
  have o0 := O1.out.cell (i := 0) rfl
  have o1 := O1.out.cell (i := 1) rfl
  have o2 := O1.out.cell (i := 2) rfl
  have o4 := O1.out.cell (i := 4) rfl
  have o5 := O1.out.cell (i := 5) rfl
  have HLT := Lib.hid hlt
  have HLT2 := Lib.hid hlt2
  clear a0 b0 a1 b1 ha hp hq hr hne hlt hlt2
  go_enter Try.func33, Try.ntmps33
  go_wp2_with fail
  refine (push_r bh vs i _ [] _ H0.out (.inr ⟨rfl, rfl⟩) (by simp)).mono ?_
  rintro e w1 ⟨rfl, hh1, ho1⟩
  have F1 := Lib.hid (F0.out.trans (Frm.of_only H0.out.blk (by simp) ho1))
  have Q1 := Lib.hid (Q0.out.onlyB H0.out.blk (fun e => HN.out e.symm) ho1)
  have P1 := Lib.hid (ho1.holds P0.out (by have := HLT.out; omega))
  have X1 := Lib.hid (ho1.holds O1.out (by have := HLT.out; omega))
  have HH1 := Lib.hid hh1
  have p1 := P1.out.cell (i := 1) rfl
  have x1 := X1.out.cell (i := 1) rfl
  clear ho1 hh1
  go_wp2_with fail
  refine (rpush_r bw vs i _ [] _ Q1.out (.inr ⟨rfl, rfl⟩) (by simp)).mono ?_
  rintro e w2 ⟨rfl, hh2, ho2⟩
  have F2 := Lib.hid (F1.out.trans (Frm.of_only Q1.out.blk (by simp) ho2))
  have HH2 := Lib.hid (HistL.onlyB HH1.out Q1.out.blk HN.out ho2)
  have QQ2 := Lib.hid hh2
  clear ho2 hh2
  go_wp2
  go_returns
  exact ⟨by simp, _, _, HH2.out, QQ2.out, F2.out⟩
set_option maxRecDepth 100000 in
set_option maxHeartbeats 3200000 in
theorem plays_5 (bh bw : Nat) (vs : List (List E)) (i : Nat) (x : OpL) (w : World) (hp : HistL w bh vs i) (hq : RHistL w bw vs i) (hne : bh ≠ bw) (hr : RdF w x.lv x.l) (hid : ∀ y ∈ x.l, y.1 < 4294967296) (hk : x.kind = 5)  :
    Calls Try.prog 33 #[.agg #[.pointer (some ⟨bh, 0, none⟩), .pointer (some ⟨bw, 0, none⟩)], .agg (opCells x).toArray] w fun e w' => e = .returned (.bool true) ∧ PlaysQ bh bw w w' := by
  obtain ⟨kd, xa, xb, x2, xn, xv, xl⟩ := x
  simp only at hk hr hid
  subst hk
  obtain ⟨sa, sc, hxv, hsc, hrd⟩ := hr
  subst hxv
  have hr : RdF w (.slice sa xl.length sc) xl := ⟨sa, sc, rfl, hsc, hrd⟩
  clear hrd
  have a0 : Below w.heap.size w (w.alloc (.cells #[.pointer (some ⟨bh, 0, none⟩), .pointer (some ⟨bw, 0, none⟩)] 64)) := (Below.refl _ _).alloc (Nat.le_refl _) _
  have b0 : Holds (w.alloc (.cells #[.pointer (some ⟨bh, 0, none⟩), .pointer (some ⟨bw, 0, none⟩)] 64)) w.heap.size (prC bh bw) := Holds.alloc w (prC bh bw) 64
  have a1 : Below (w.alloc (.cells #[.pointer (some ⟨bh, 0, none⟩), .pointer (some ⟨bw, 0, none⟩)] 64)).heap.size (w.alloc (.cells #[.pointer (some ⟨bh, 0, none⟩), .pointer (some ⟨bw, 0, none⟩)] 64)) ((w.alloc (.cells #[.pointer (some ⟨bh, 0, none⟩), .pointer (some ⟨bw, 0, none⟩)] 64)).alloc (.cells (opCells ⟨5, xa, xb, x2, xn, .slice sa xl.length sc, xl⟩).toArray 73)) := (Below.refl _ _).alloc (Nat.le_refl _) _
  have b1 := Holds.alloc (w.alloc (.cells #[.pointer (some ⟨bh, 0, none⟩), .pointer (some ⟨bw, 0, none⟩)] 64)) (opCells ⟨5, xa, xb, x2, xn, .slice sa xl.length sc, xl⟩) 73
  have hlt := hp.facts.2.2.2
  have hlt2 := hq.facts.2.2.2
  have hil := hp.facts.1
  have hvl := hp.facts.2.1
  have ha := a0.trans (a1.mono a0.size)
  have P0 := Lib.hid (b0.ext a1)
  have O1 : Hid (Holds ((w.alloc (.cells #[.pointer (some ⟨bh, 0, none⟩), .pointer (some ⟨bw, 0, none⟩)] 64)).alloc (.cells (opCells ⟨5, xa, xb, x2, xn, .slice sa xl.length sc, xl⟩).toArray 73)) (w.heap.size + 1) (opCells ⟨5, xa, xb, x2, xn, .slice sa xl.length sc, xl⟩)) := Lib.hid (by rw [World.size_alloc] at b1; exact b1)
  have H0 := Lib.hid (hp.ext ha)
  have Q0 := Lib.hid (hq.ext ha)
  have F0 := Lib.hid (Frm.of_below (S := [bh, bw]) ha)
  have R0 := Lib.hid (hr.ext ha)
  have HN := Lib.hid hne
  have VL := Lib.hid hp.facts.2.2.1
  have c0 := P0.out.cell (i := 0) rfl
  have c1 := P0.out.cell (i := 1) rfl
  have o0 := O1.out.cell (i := 0) rfl
  have o1 := O1.out.cell (i := 1) rfl
  have o2 := O1.out.cell (i := 2) rfl
  have o4 := O1.out.cell (i := 4) rfl
  have o5 := O1.out.cell (i := 5) rfl
  have HLT := Lib.hid hlt
  have HLT2 := Lib.hid hlt2
  clear a0 b0 a1 b1 ha hp hq hr hne hlt hlt2
  go_enter Try.func33, Try.ntmps33
  have hd1 := Lib.hid (depth_any bh vs i _ H0.out)
  go_wp2_with fail
  refine hd1.out.mono ?_
  rintro e w1 ⟨rfl, hb1⟩
  have p1 := (P0.out.ext hb1).cell (i := 1) rfl
  have Q1 := Lib.hid (Q0.out.ext hb1)
  have H1 := Lib.hid (H0.out.ext hb1)
  have F1 := Lib.hid (F0.out.trans (Frm.of_below hb1))
  clear hb1 hd1
  go_wp2_with fail
  refine (rdepth_any bw vs i _ Q1.out).mono ?_
  rintro e w2 ⟨rfl, hb2⟩
  have Q2 := Lib.hid (Q1.out.ext hb2)
  have H2 := Lib.hid (H1.out.ext hb2)
  have F2 := Lib.hid (F1.out.trans (Frm.of_below hb2))
  clear hb2
  generalize vs.length - 1 - i = r
  go_wp2
  go_returns
  exact ⟨by simp, _, _, H2.out, Q2.out, F2.out⟩
set_option maxRecDepth 100000 in
set_option maxHeartbeats 3200000 in
theorem plays_7 (bh bw : Nat) (vs : List (List E)) (i : Nat) (x : OpL) (w : World) (hp : HistL w bh vs i) (hq : RHistL w bw vs i) (hne : bh ≠ bw) (hr : RdF w x.lv x.l) (hid : ∀ y ∈ x.l, y.1 < 4294967296) (hk : x.kind = 7)  :
    Calls Try.prog 33 #[.agg #[.pointer (some ⟨bh, 0, none⟩), .pointer (some ⟨bw, 0, none⟩)], .agg (opCells x).toArray] w fun e w' => e = .returned (.bool true) ∧ PlaysQ bh bw w w' := by
  obtain ⟨kd, xa, xb, x2, xn, xv, xl⟩ := x
  simp only at hk hr hid
  subst hk
  obtain ⟨sa, sc, hxv, hsc, hrd⟩ := hr
  subst hxv
  have hr : RdF w (.slice sa xl.length sc) xl := ⟨sa, sc, rfl, hsc, hrd⟩
  clear hrd
  have a0 : Below w.heap.size w (w.alloc (.cells #[.pointer (some ⟨bh, 0, none⟩), .pointer (some ⟨bw, 0, none⟩)] 64)) := (Below.refl _ _).alloc (Nat.le_refl _) _
  have b0 : Holds (w.alloc (.cells #[.pointer (some ⟨bh, 0, none⟩), .pointer (some ⟨bw, 0, none⟩)] 64)) w.heap.size (prC bh bw) := Holds.alloc w (prC bh bw) 64
  have a1 : Below (w.alloc (.cells #[.pointer (some ⟨bh, 0, none⟩), .pointer (some ⟨bw, 0, none⟩)] 64)).heap.size (w.alloc (.cells #[.pointer (some ⟨bh, 0, none⟩), .pointer (some ⟨bw, 0, none⟩)] 64)) ((w.alloc (.cells #[.pointer (some ⟨bh, 0, none⟩), .pointer (some ⟨bw, 0, none⟩)] 64)).alloc (.cells (opCells ⟨7, xa, xb, x2, xn, .slice sa xl.length sc, xl⟩).toArray 73)) := (Below.refl _ _).alloc (Nat.le_refl _) _
  have b1 := Holds.alloc (w.alloc (.cells #[.pointer (some ⟨bh, 0, none⟩), .pointer (some ⟨bw, 0, none⟩)] 64)) (opCells ⟨7, xa, xb, x2, xn, .slice sa xl.length sc, xl⟩) 73
  have hlt := hp.facts.2.2.2
  have hlt2 := hq.facts.2.2.2
  have hil := hp.facts.1
  have hvl := hp.facts.2.1
  have ha := a0.trans (a1.mono a0.size)
  have P0 := Lib.hid (b0.ext a1)
  have O1 : Hid (Holds ((w.alloc (.cells #[.pointer (some ⟨bh, 0, none⟩), .pointer (some ⟨bw, 0, none⟩)] 64)).alloc (.cells (opCells ⟨7, xa, xb, x2, xn, .slice sa xl.length sc, xl⟩).toArray 73)) (w.heap.size + 1) (opCells ⟨7, xa, xb, x2, xn, .slice sa xl.length sc, xl⟩)) := Lib.hid (by rw [World.size_alloc] at b1; exact b1)
  have H0 := Lib.hid (hp.ext ha)
  have Q0 := Lib.hid (hq.ext ha)
  have F0 := Lib.hid (Frm.of_below (S := [bh, bw]) ha)
  have R0 := Lib.hid (hr.ext ha)
  have HN := Lib.hid hne
  have VL := Lib.hid hp.facts.2.2.1
  have c0 := P0.out.cell (i := 0) rfl
  have c1 := P0.out.cell (i := 1) rfl
  have o0 := O1.out.cell (i := 0) rfl
  have o1 := O1.out.cell (i := 1) rfl
  have o2 := O1.out.cell (i := 2) rfl
  have o4 := O1.out.cell (i := 4) rfl
  have o5 := O1.out.cell (i := 5) rfl
  have HLT := Lib.hid hlt
  have HLT2 := Lib.hid hlt2
  clear a0 b0 a1 b1 ha hp hq hr hne hlt hlt2
  go_enter Try.func33, Try.ntmps33
  obtain ⟨ps, hp0, hv1⟩ := H0.out
  obtain ⟨qs, hq0, hv2⟩ := Q0.out
  have hE := Lib.hid (hv1.trans hv2.symm)
  have hc := Lib.hid (psteps_any bh bw ps qs i xa _ hp0 hq0 hE.out)
  clear hp0 hq0 hv1 hv2
  go_wp2_with fail
  refine hc.out.mono ?_
  rintro e w1 ⟨rfl, hb1⟩
  have Q1 := Lib.hid (Q0.out.ext hb1)
  have H1 := Lib.hid (H0.out.ext hb1)
  have F1 := Lib.hid (F0.out.trans (Frm.of_below hb1))
  clear hb1
  go_wp2
  go_returns
  exact ⟨rfl, _, _, H1.out, Q1.out, F1.out⟩
set_option maxRecDepth 100000 in
set_option maxHeartbeats 3200000 in
theorem plays_8 (bh bw : Nat) (vs : List (List E)) (i : Nat) (x : OpL) (w : World) (hp : HistL w bh vs i) (hq : RHistL w bw vs i) (hne : bh ≠ bw) (hr : RdF w x.lv x.l) (hid : ∀ y ∈ x.l, y.1 < 4294967296) (hk : x.kind = 8)  :
    Calls Try.prog 33 #[.agg #[.pointer (some ⟨bh, 0, none⟩), .pointer (some ⟨bw, 0, none⟩)], .agg (opCells x).toArray] w fun e w' => e = .returned (.bool true) ∧ PlaysQ bh bw w w' := by
  obtain ⟨kd, xa, xb, x2, xn, xv, xl⟩ := x
  simp only at hk hr hid
  subst hk
  obtain ⟨sa, sc, hxv, hsc, hrd⟩ := hr
  subst hxv
  have hr : RdF w (.slice sa xl.length sc) xl := ⟨sa, sc, rfl, hsc, hrd⟩
  clear hrd
  have a0 : Below w.heap.size w (w.alloc (.cells #[.pointer (some ⟨bh, 0, none⟩), .pointer (some ⟨bw, 0, none⟩)] 64)) := (Below.refl _ _).alloc (Nat.le_refl _) _
  have b0 : Holds (w.alloc (.cells #[.pointer (some ⟨bh, 0, none⟩), .pointer (some ⟨bw, 0, none⟩)] 64)) w.heap.size (prC bh bw) := Holds.alloc w (prC bh bw) 64
  have a1 : Below (w.alloc (.cells #[.pointer (some ⟨bh, 0, none⟩), .pointer (some ⟨bw, 0, none⟩)] 64)).heap.size (w.alloc (.cells #[.pointer (some ⟨bh, 0, none⟩), .pointer (some ⟨bw, 0, none⟩)] 64)) ((w.alloc (.cells #[.pointer (some ⟨bh, 0, none⟩), .pointer (some ⟨bw, 0, none⟩)] 64)).alloc (.cells (opCells ⟨8, xa, xb, x2, xn, .slice sa xl.length sc, xl⟩).toArray 73)) := (Below.refl _ _).alloc (Nat.le_refl _) _
  have b1 := Holds.alloc (w.alloc (.cells #[.pointer (some ⟨bh, 0, none⟩), .pointer (some ⟨bw, 0, none⟩)] 64)) (opCells ⟨8, xa, xb, x2, xn, .slice sa xl.length sc, xl⟩) 73
  have hlt := hp.facts.2.2.2
  have hlt2 := hq.facts.2.2.2
  have hil := hp.facts.1
  have hvl := hp.facts.2.1
  have ha := a0.trans (a1.mono a0.size)
  have P0 := Lib.hid (b0.ext a1)
  have O1 : Hid (Holds ((w.alloc (.cells #[.pointer (some ⟨bh, 0, none⟩), .pointer (some ⟨bw, 0, none⟩)] 64)).alloc (.cells (opCells ⟨8, xa, xb, x2, xn, .slice sa xl.length sc, xl⟩).toArray 73)) (w.heap.size + 1) (opCells ⟨8, xa, xb, x2, xn, .slice sa xl.length sc, xl⟩)) := Lib.hid (by rw [World.size_alloc] at b1; exact b1)
  have H0 := Lib.hid (hp.ext ha)
  have Q0 := Lib.hid (hq.ext ha)
  have F0 := Lib.hid (Frm.of_below (S := [bh, bw]) ha)
  have R0 := Lib.hid (hr.ext ha)
  have HN := Lib.hid hne
  have VL := Lib.hid hp.facts.2.2.1
  have c0 := P0.out.cell (i := 0) rfl
  have c1 := P0.out.cell (i := 1) rfl
  have o0 := O1.out.cell (i := 0) rfl
  have o1 := O1.out.cell (i := 1) rfl
  have o2 := O1.out.cell (i := 2) rfl
  have o4 := O1.out.cell (i := 4) rfl
  have o5 := O1.out.cell (i := 5) rfl
  have HLT := Lib.hid hlt
  have HLT2 := Lib.hid hlt2
  clear a0 b0 a1 b1 ha hp hq hr hne hlt hlt2
  go_enter Try.func33, Try.ntmps33
  obtain ⟨ps, hp0, hv1⟩ := H0.out
  obtain ⟨qs, hq0, hv2⟩ := Q0.out
  have hE := Lib.hid (hv1.trans hv2.symm)
  have hc := Lib.hid (ptouched_any bh bw ps qs i xa xb _ hp0 hq0 hE.out)
  clear hp0 hq0 hv1 hv2
  go_wp2_with fail
  refine hc.out.mono ?_
  rintro e w1 ⟨rfl, hb1⟩
  have Q1 := Lib.hid (Q0.out.ext hb1)
  have H1 := Lib.hid (H0.out.ext hb1)
  have F1 := Lib.hid (F0.out.trans (Frm.of_below hb1))
  clear hb1
  go_wp2
  go_returns
  exact ⟨rfl, _, _, H1.out, Q1.out, F1.out⟩
set_option maxRecDepth 100000 in
set_option maxHeartbeats 3200000 in
theorem plays_x (bh bw : Nat) (vs : List (List E)) (i : Nat) (x : OpL) (w : World) (hp : HistL w bh vs i) (hq : RHistL w bw vs i) (hne : bh ≠ bw) (hr : RdF w x.lv x.l) (hid : ∀ y ∈ x.l, y.1 < 4294967296) (hk : x.kind ≠ 1 ∧ x.kind ≠ 10 ∧ x.kind ≠ 2 ∧ x.kind ≠ 3 ∧ x.kind ≠ 4 ∧ x.kind ≠ 5 ∧ x.kind ≠ 6 ∧ x.kind ≠ 7 ∧ x.kind ≠ 8)  :
    Calls Try.prog 33 #[.agg #[.pointer (some ⟨bh, 0, none⟩), .pointer (some ⟨bw, 0, none⟩)], .agg (opCells x).toArray] w fun e w' => e = .returned (.bool true) ∧ PlaysQ bh bw w w' := by
  obtain ⟨kd, xa, xb, x2, xn, xv, xl⟩ := x
  simp only at hk hr hid

  obtain ⟨sa, sc, hxv, hsc, hrd⟩ := hr
  subst hxv
  have hr : RdF w (.slice sa xl.length sc) xl := ⟨sa, sc, rfl, hsc, hrd⟩
  clear hrd
  have a0 : Below w.heap.size w (w.alloc (.cells #[.pointer (some ⟨bh, 0, none⟩), .pointer (some ⟨bw, 0, none⟩)] 64)) := (Below.refl _ _).alloc (Nat.le_refl _) _
  have b0 : Holds (w.alloc (.cells #[.pointer (some ⟨bh, 0, none⟩), .pointer (some ⟨bw, 0, none⟩)] 64)) w.heap.size (prC bh bw) := Holds.alloc w (prC bh bw) 64
  have a1 : Below (w.alloc (.cells #[.pointer (some ⟨bh, 0, none⟩), .pointer (some ⟨bw, 0, none⟩)] 64)).heap.size (w.alloc (.cells #[.pointer (some ⟨bh, 0, none⟩), .pointer (some ⟨bw, 0, none⟩)] 64)) ((w.alloc (.cells #[.pointer (some ⟨bh, 0, none⟩), .pointer (some ⟨bw, 0, none⟩)] 64)).alloc (.cells (opCells ⟨kd, xa, xb, x2, xn, .slice sa xl.length sc, xl⟩).toArray 73)) := (Below.refl _ _).alloc (Nat.le_refl _) _
  have b1 := Holds.alloc (w.alloc (.cells #[.pointer (some ⟨bh, 0, none⟩), .pointer (some ⟨bw, 0, none⟩)] 64)) (opCells ⟨kd, xa, xb, x2, xn, .slice sa xl.length sc, xl⟩) 73
  have hlt := hp.facts.2.2.2
  have hlt2 := hq.facts.2.2.2
  have hil := hp.facts.1
  have hvl := hp.facts.2.1
  have ha := a0.trans (a1.mono a0.size)
  have P0 := Lib.hid (b0.ext a1)
  have O1 : Hid (Holds ((w.alloc (.cells #[.pointer (some ⟨bh, 0, none⟩), .pointer (some ⟨bw, 0, none⟩)] 64)).alloc (.cells (opCells ⟨kd, xa, xb, x2, xn, .slice sa xl.length sc, xl⟩).toArray 73)) (w.heap.size + 1) (opCells ⟨kd, xa, xb, x2, xn, .slice sa xl.length sc, xl⟩)) := Lib.hid (by rw [World.size_alloc] at b1; exact b1)
  have H0 := Lib.hid (hp.ext ha)
  have Q0 := Lib.hid (hq.ext ha)
  have F0 := Lib.hid (Frm.of_below (S := [bh, bw]) ha)
  have R0 := Lib.hid (hr.ext ha)
  have HN := Lib.hid hne
  have VL := Lib.hid hp.facts.2.2.1
  have c0 := P0.out.cell (i := 0) rfl
  have c1 := P0.out.cell (i := 1) rfl
  have o0 := O1.out.cell (i := 0) rfl
  have o1 := O1.out.cell (i := 1) rfl
  have o2 := O1.out.cell (i := 2) rfl
  have o4 := O1.out.cell (i := 4) rfl
  have o5 := O1.out.cell (i := 5) rfl
  have HLT := Lib.hid hlt
  have HLT2 := Lib.hid hlt2
  clear a0 b0 a1 b1 ha hp hq hr hne hlt hlt2
  go_enter Try.func33, Try.ntmps33
  obtain ⟨k1, k2, k3, k4, k5, k6, k7, k8, k9⟩ : (kd == 1) = false ∧ (kd == 10) = false ∧ (kd == 2) = false ∧ (kd == 3) = false ∧ (kd == 4) = false ∧ (kd == 5) = false ∧ (kd == 6) = false ∧ (kd == 7) = false ∧ (kd == 8) = false := by simpa using hk
  clear hk
  go_wp2
  go_returns
  exact ⟨rfl, _, _, H0.out, Q0.out, F0.out⟩
end Go.Proofs.Ytmhhejpokgdjoaa
