/- The walk of levylaw11.begin; how HistAll's two histories stand between its calls. -/
import Derived.Test.YtmhhejpokgdjoaaJk
namespace Go.Proofs.Ytmhhejpokgdjoaa
open Go Go.RowKit
set_option linter.unusedVariables false
set_option linter.unusedSimpArgs false
attribute [local go_sem] Oper.semAt_some

def nnC : List Value := [.pointer none, .pointer none]
theorem nnC_not : ∀ a n c i, nnC ≠ hCells (.slice a n c) i := by
  intro a n c i h
  simp [nnC, hCells] at h
theorem tree_offN {w : World} {Q : Nat} (h : Holds w Q (nnC)) : ∀ {d : Nat} {t : Tr d}, t.at w → t.all (· ≠ Q)
  | 0, none, _ => trivial
  | 0, some (g, v), ht => by
    intro e
    subst e
    have := holds_same (show Holds w g (vCells v) from ht) h
    simp [vCells, nnC] at this
  | d + 1, none, _ => trivial
  | d + 1, some (g, f), ht => by
    refine ⟨?_, fun i => tree_offN h (ht.2 i)⟩
    intro e
    subst e
    have := congrArg List.length (holds_same ht.1 h)
    rw [nodeCells_length] at this
    simp [nnC] at this
theorem MapL.onlyN {w w' : World} {Q c : Nat} {l : List E} (h : MapL w c l) (hQ : Holds w Q (nnC)) (ho : Only Q w w') : MapL w' c l := by
  obtain ⟨t, h1, h2⟩ := h
  refine ⟨t, ⟨ho.holds h1.map ?_, ho.tree h1.tree (tree_offN hQ h1.tree)⟩, h2⟩
  intro e
  subst e
  have := holds_same h1.map hQ
  simp [Tr.mapCells, nnC] at this
theorem rd_offN {α : Type} {w : World} {Q s : Nat} {enc : α → List Value} {l : List α} {v : Value} (hQ : Holds w Q (nnC)) (hr : Rd w s enc v l)
    (hn : ∀ p ∈ l, ∃ u, (enc p)[0]? = some u ∧ u ≠ .pointer none) : ∀ g o m k, v = .slice (some ⟨g, o, none⟩) m k → l ≠ [] → g ≠ Q := by
  rintro g o m k rfl hne rfl
  obtain ⟨a', c', hv, hr⟩ := hr
  rcases hr with rfl | ⟨g', off, ha, hlt, hc⟩
  · exact hne rfl
  · simp only [Value.slice.injEq] at hv
    obtain ⟨rfl, _, _⟩ := hv
    simp only [Option.some.injEq, Addr.mk.injEq] at ha
    obtain ⟨rfl, rfl, _⟩ := ha
    cases l with
    | nil => exact hne rfl
    | cons p l =>
      obtain ⟨u, hu, hn1⟩ := hn p List.mem_cons_self
      have h0 := hc 0 p 0 u rfl hu
      obtain ⟨ty, hB⟩ := hQ
      simp only [World.cell?, hB, nnC, Nat.zero_mul, Nat.add_zero] at h0
      match o, h0 with
      | 0, h0 => simp at h0; exact hn1 h0.symm
      | 1, h0 => simp at h0; exact hn1 h0.symm
      | o + 2, h0 => simp at h0
theorem RefL.onlyN {w w' : World} {Q c : Nat} {l : List E} (h : RefL w c l) (hQ : Holds w Q (nnC)) (ho : Only Q w w') : RefL w' c l := by
  obtain ⟨L, h1, h2⟩ := h
  obtain ⟨ia, ic, va, vc, sa, sc, q1, q2, q3, q4⟩ := h1.cells
  refine ⟨L, ⟨⟨ia, ic, va, vc, sa, sc, ho.holds q1 ?_, ho.rd q2 (rd_offN hQ q2 fun p _ => ⟨_, rfl, by simp⟩), ho.rd q3 (rd_offN hQ q3 fun p _ => ⟨_, rfl, by simp⟩), ho.rd q4 (rd_offN hQ q4 fun p _ => ⟨_, rfl, by simp⟩)⟩, h1.ids⟩, h2⟩
  intro e
  subst e
  have := congrArg List.length (holds_same q1 hQ)
  simp [nnC] at this
theorem HistL.onlyN {w w' : World} {Q b i : Nat} {vs : List (List E)} (h : HistL w b vs i) (hQ : Holds w Q nnC) (ho : Only Q w w') : HistL w' b vs i := by
  obtain ⟨ps, h1, h2⟩ := h
  obtain ⟨a, c, q1, q2, q3⟩ := h1.cells
  refine ⟨ps, ⟨⟨a, c, ho.holds q1 ?_, ho.rd q2 (rd_offN hQ q2 fun p hp => ⟨_, rfl, by simp⟩), q3⟩, fun p hp => (h1.maps p hp).onlyN hQ ho, h1.small, h1.lt, h1.len⟩, h2⟩
  intro e
  subst e
  exact nnC_not _ _ _ _ (holds_same hQ q1)
theorem RHistL.onlyN {w w' : World} {Q b i : Nat} {vs : List (List E)} (h : RHistL w b vs i) (hQ : Holds w Q nnC) (ho : Only Q w w') : RHistL w' b vs i := by
  obtain ⟨ps, h1, h2⟩ := h
  obtain ⟨a, c, q1, q2, q3⟩ := h1.cells
  refine ⟨ps, ⟨⟨a, c, ho.holds q1 ?_, ho.rd q2 (rd_offN hQ q2 fun p hp => ⟨_, rfl, by simp⟩), q3⟩, fun p hp => (h1.maps p hp).onlyN hQ ho, h1.small, h1.lt, h1.len⟩, h2⟩
  intro e
  subst e
  exact nnC_not _ _ _ _ (holds_same hQ q1)
/-- A pair's block is filled. -/
theorem fill_pair {w : World} {R bh bw i : Nat} {vs : List (List E)} (h : HistL w bh vs i) (q : RHistL w bw vs i) (hR : Holds w R nnC) :
    HistL ((w.setCell ⟨R, 0, none⟩ (.pointer (some ⟨bh, 0, none⟩))).setCell ⟨R, 1, none⟩ (.pointer (some ⟨bw, 0, none⟩))) bh vs i ∧ RHistL ((w.setCell ⟨R, 0, none⟩ (.pointer (some ⟨bh, 0, none⟩))).setCell ⟨R, 1, none⟩ (.pointer (some ⟨bw, 0, none⟩))) bw vs i ∧
    Holds ((w.setCell ⟨R, 0, none⟩ (.pointer (some ⟨bh, 0, none⟩))).setCell ⟨R, 1, none⟩ (.pointer (some ⟨bw, 0, none⟩))) R (prC bh bw) ∧ Only R w ((w.setCell ⟨R, 0, none⟩ (.pointer (some ⟨bh, 0, none⟩))).setCell ⟨R, 1, none⟩ (.pointer (some ⟨bw, 0, none⟩))) := by
  have ho : Only R w ((w.setCell ⟨R, 0, none⟩ (.pointer (some ⟨bh, 0, none⟩))).setCell ⟨R, 1, none⟩ (.pointer (some ⟨bw, 0, none⟩))) := (Only.of_upd (Upd.setCell _)).trans (Only.of_upd (Upd.setCell _))
  exact ⟨h.onlyN hR ho, q.onlyN hR ho, (hR.setCell (i := 0) _).setCell (i := 1) _, ho⟩
set_option maxRecDepth 100000 in
set_option maxHeartbeats 1600000 in
theorem begin_none (v : Value) (w : World) :
    Calls Try.prog 29 #[v, .bool true] w fun e w' => ∃ bh bw, e = .returned (.agg #[.pointer (some ⟨bh, 0, none⟩), .pointer (some ⟨bw, 0, none⟩)]) ∧ HistL w' bh [[]] 0 ∧ RHistL w' bw [[]] 0 ∧ bh ≠ bw ∧ w.heap.size ≤ bh ∧ w.heap.size ≤ bw ∧ Below w.heap.size w w' := by
  have hal : Below w.heap.size w (w.alloc (.cells #[.pointer none, .pointer none] 64)) := (Below.refl _ _).alloc (Nat.le_refl _) _
  have hR0 : Holds (w.alloc (.cells #[.pointer none, .pointer none] 64)) w.heap.size nnC := Holds.alloc w nnC _
  have HA := Lib.hid hal
  have R0 := Lib.hid hR0
  clear hal hR0
  go_enter Try.func29, Try.ntmps29
  go_wp2_with fail
  refine (new_any _ [] _ (.inr ⟨rfl, rfl⟩) (by simp)).mono ?_
  rintro e w1 ⟨bh, rfl, hh, hge, hb1⟩
  have H1 := Lib.hid hh
  have R1 := Lib.hid (R0.out.ext hb1)
  have B1 := Lib.hid (HA.out.trans (hb1.mono HA.out.size))
  have hz1 := H1.out.facts.2.2.2
  have hg1 : w.heap.size + 1 ≤ bh := by simpa using hge
  clear hh hb1 hge
  go_wp2_with fail
  refine (rnew_any _ [] w1 (.inr ⟨rfl, rfl⟩) (by simp)).mono ?_
  rintro e w2 ⟨bw, rfl, hq, hge2, hb2⟩
  have R2 := Lib.hid (R1.out.ext hb2)
  have hlt := R2.out.lt
  have fr0 := R2.out.free 0
  have fr1 := R2.out.free 1
  have HF := Lib.hid (fill_pair (H1.out.ext hb2) hq R2.out)
  have B2 := Lib.hid (B1.out.trans (hb2.mono B1.out.size))
  have hz := B1.out.size
  have k0 := HF.out.2.2.1.cell (i := 0) rfl
  have k1 := HF.out.2.2.1.cell (i := 1) rfl
  have e0 := (R2.out.setCell (i := 0) (.pointer (some ⟨bh, 0, none⟩))).cell (i := 0) rfl
  have c0 := R2.out.cell (i := 0) rfl
  have c1 := R2.out.cell (i := 1) rfl
  clear hq hb2
  go_wp2
  refine bodyPost_ret (v := .agg #[.pointer (some ⟨bh, 0, none⟩), .pointer (some ⟨bw, 0, none⟩)]) (by simp [results, Try.results29, go_sem, k0, k1, e0]) rfl ?_
  exact ⟨bh, bw, rfl, HF.out.1, HF.out.2.1, by omega, by omega, by omega, B2.out.trans (HF.out.2.2.2.below (Nat.le_refl _) B2.out.size)⟩
set_option maxRecDepth 100000 in
set_option maxHeartbeats 1600000 in
theorem begin_some (v : Value) (l : List E) (w : World) (hr : RdF w v l) (hid : ∀ x ∈ l, x.1 < 4294967296) :
    Calls Try.prog 29 #[v, .bool false] w fun e w' => ∃ bh bw, e = .returned (.agg #[.pointer (some ⟨bh, 0, none⟩), .pointer (some ⟨bw, 0, none⟩)]) ∧ HistL w' bh [buildL l] 0 ∧ RHistL w' bw [buildL l] 0 ∧ bh ≠ bw ∧ w.heap.size ≤ bh ∧ w.heap.size ≤ bw ∧ Below w.heap.size w w' := by
  obtain ⟨sa, sc, rfl, hsc, hrd⟩ := hr
  have hal : Below w.heap.size w (w.alloc (.cells #[.pointer none, .pointer none] 64)) := (Below.refl _ _).alloc (Nat.le_refl _) _
  have hR0 : Holds (w.alloc (.cells #[.pointer none, .pointer none] 64)) w.heap.size nnC := Holds.alloc w nnC _
  have HA := Lib.hid hal
  have R0 := Lib.hid hR0
  have RD := Lib.hid hrd
  clear hal hR0 hrd
  go_enter Try.func29, Try.ntmps29
  go_wp2_with fail
  refine (build_any _ l _ ⟨sa, sc, rfl, hsc, RD.out.ext HA.out⟩ hid).mono ?_
  rintro e w0 ⟨bm, rfl, hm, hb0⟩
  have M0 := Lib.hid hm
  have R1 := Lib.hid (R0.out.ext hb0)
  have B0 := Lib.hid (HA.out.trans (hb0.mono HA.out.size))
  have hz0 : w.heap.size + 1 ≤ w0.heap.size := by have := hb0.size; simpa using this
  clear hm hb0 HA R0
  go_wp2_with fail
  refine (new_any _ (buildL l) w0 (.inl ⟨bm, rfl, M0.out⟩) (buildL_len l)).mono ?_
  rintro e w1 ⟨bh, rfl, hh, hge, hb1⟩
  have H1 := Lib.hid hh
  have R2 := Lib.hid (R1.out.ext hb1)
  have B1 := Lib.hid (B0.out.trans (hb1.mono B0.out.size))
  have hz1 := H1.out.facts.2.2.2
  clear hh hb1
  go_wp2_with fail
  refine (part_any sa sc l w1 (RD.out.ext B1.out) hsc).mono ?_
  rintro e w1' ⟨rfl, hw⟩
  subst hw
  obtain ⟨N, hN⟩ : ∃ N, N = min l.length 200 := ⟨_, rfl⟩
  have hN1 : N ≤ l.length := by omega
  have hN2 : N ≤ 200 := by omega
  have HNN := Lib.hid (show buildK l N = buildL l by rw [hN]; exact buildK_min l)
  rw [← hN]
  clear hN
  go_wp2_with fail
  refine (of_any sa sc N l _ (RD.out.ext B1.out) hid hN1 hN2).mono ?_
  rintro e w2 ⟨bc, rfl, hm2, hb2⟩
  rw [HNN.out] at hm2
  have N2 := Lib.hid hm2
  have H2 := Lib.hid (H1.out.ext hb2)
  have R3 := Lib.hid (R2.out.ext hb2)
  have B2 := Lib.hid (B1.out.trans (hb2.mono B1.out.size))
  have hz2 := hb2.size
  clear hm2 hb2
  go_wp2_with fail
  refine (rnew_any _ (buildL l) w2 (.inl ⟨bc, rfl, N2.out⟩) (buildL_len l)).mono ?_
  rintro e w3 ⟨bw, rfl, hq, hge2, hb3⟩
  have R4 := Lib.hid (R3.out.ext hb3)
  have hlt := R4.out.lt
  have fr0 := R4.out.free 0
  have fr1 := R4.out.free 1
  have HF := Lib.hid (fill_pair (H2.out.ext hb3) hq R4.out)
  have B3 := Lib.hid (B2.out.trans (hb3.mono B2.out.size))
  have k0 := HF.out.2.2.1.cell (i := 0) rfl
  have k1 := HF.out.2.2.1.cell (i := 1) rfl
  have e0 := (R4.out.setCell (i := 0) (.pointer (some ⟨bh, 0, none⟩))).cell (i := 0) rfl
  have c0 := R4.out.cell (i := 0) rfl
  have c1 := R4.out.cell (i := 1) rfl
  clear hq hb3
  go_wp2
  refine bodyPost_ret (v := .agg #[.pointer (some ⟨bh, 0, none⟩), .pointer (some ⟨bw, 0, none⟩)]) (by simp [results, Try.results29, go_sem, k0, k1, e0]) rfl ?_
  exact ⟨bh, bw, rfl, HF.out.1, HF.out.2.1, by omega, by omega, by omega, B3.out.trans (HF.out.2.2.2.below (Nat.le_refl _) B3.out.size)⟩
theorem begin_any (v : Value) (l : List E) (nb : Bool) (w : World) (hr : RdF w v l) (hid : ∀ x ∈ l, x.1 < 4294967296) :
    Calls Try.prog 29 #[v, .bool nb] w fun e w' => ∃ bh bw vs, e = .returned (.agg #[.pointer (some ⟨bh, 0, none⟩), .pointer (some ⟨bw, 0, none⟩)]) ∧ HistL w' bh vs 0 ∧ RHistL w' bw vs 0 ∧ bh ≠ bw ∧ w.heap.size ≤ bh ∧ w.heap.size ≤ bw ∧ Below w.heap.size w w' := by
  cases nb with
  | true => exact (begin_none v w).mono fun e w' ⟨bh, bw, h⟩ => ⟨bh, bw, _, h⟩
  | false => exact (begin_some v l w hr hid).mono fun e w' ⟨bh, bw, h⟩ => ⟨bh, bw, _, h⟩
/-- The two histories of HistAll, its pairs' blocks and its iterator's variables. -/
structure AllS (w : World) (P Q B1 B2 B3 bp cp : Nat) (vs : List (List E)) (i : Nat) (us : List (List E)) (j bq cq : Nat) (wr : World) : Prop where
  h1 : HistL wr bp vs i
  q1 : RHistL wr cp vs i
  h2 : HistL wr bq us j
  q2 : RHistL wr cq us j
  n1 : bp ≠ cp
  n2 : bq ≠ cq
  n3 : bq ≠ bp
  n4 : bq ≠ cp
  n5 : cq ≠ bp
  n6 : cq ≠ cp
  hP : Holds wr P (prC bp cp)
  hQ : Holds wr Q (prC bq cq)
  b1 : Holds wr B1 [.pointer (some ⟨bp, 0, none⟩)]
  b2 : Holds wr B2 [.int .i64 (-1)]
  b3 : Holds wr B3 [.int .i64 0]
  nPQ : P ≠ Q
  lo : w.heap.size ≤ bp ∧ w.heap.size ≤ cp ∧ w.heap.size ≤ bq ∧ w.heap.size ≤ cq ∧ w.heap.size ≤ Q
  below : Below w.heap.size w wr
theorem one_not (v : Value) : ∀ a n c i, [v] ≠ hCells (.slice a n c) i := by
  intro a n c i h
  simp [hCells] at h
theorem AllS.ext {w wr wr' : World} {P Q B1 B2 B3 bp cp i j bq cq : Nat} {vs us : List (List E)} (h : AllS w P Q B1 B2 B3 bp cp vs i us j bq cq wr) (hb : Below wr.heap.size wr wr') : AllS w P Q B1 B2 B3 bp cp vs i us j bq cq wr' :=
  ⟨h.h1.ext hb, h.q1.ext hb, h.h2.ext hb, h.q2.ext hb, h.n1, h.n2, h.n3, h.n4, h.n5, h.n6, h.hP.ext hb, h.hQ.ext hb, h.b1.ext hb, h.b2.ext hb, h.b3.ext hb, h.nPQ, h.lo, h.below.trans (hb.mono h.below.size)⟩
theorem AllS.play1 {w wr wr' : World} {P Q B1 B2 B3 bp cp i j bq cq i' : Nat} {vs us vs' : List (List E)} (h : AllS w P Q B1 B2 B3 bp cp vs i us j bq cq wr) (hf : Frm [bp, cp] wr wr') (k1 : HistL wr' bp vs' i') (k2 : RHistL wr' cp vs' i') : AllS w P Q B1 B2 B3 bp cp vs' i' us j bq cq wr' :=
  ⟨k1, k2, hf.histL (by simp; exact ⟨h.n3, h.n4⟩) h.h2, hf.rhistL (by simp; exact ⟨h.n5, h.n6⟩) h.q2, h.n1, h.n2, h.n3, h.n4, h.n5, h.n6, hf.hold _ _ (prC_not _ _) h.hP, hf.hold _ _ (prC_not _ _) h.hQ, hf.hold _ _ (one_not _) h.b1, hf.hold _ _ (one_not _) h.b2, hf.hold _ _ (one_not _) h.b3, h.nPQ, h.lo,
    h.below.trans (hf.below _ (by intro b hb; simp at hb; rcases hb with rfl | rfl; exact h.lo.1; exact h.lo.2.1) h.below.size)⟩
theorem AllS.play2 {w wr wr' : World} {P Q B1 B2 B3 bp cp i j bq cq j' : Nat} {vs us us' : List (List E)} (h : AllS w P Q B1 B2 B3 bp cp vs i us j bq cq wr) (hf : Frm [bq, cq] wr wr') (k1 : HistL wr' bq us' j') (k2 : RHistL wr' cq us' j') : AllS w P Q B1 B2 B3 bp cp vs i us' j' bq cq wr' :=
  ⟨hf.histL (by simp; exact ⟨fun e => h.n3 e.symm, fun e => h.n5 e.symm⟩) h.h1, hf.rhistL (by simp; exact ⟨fun e => h.n4 e.symm, fun e => h.n6 e.symm⟩) h.q1, k1, k2, h.n1, h.n2, h.n3, h.n4, h.n5, h.n6, hf.hold _ _ (prC_not _ _) h.hP, hf.hold _ _ (prC_not _ _) h.hQ, hf.hold _ _ (one_not _) h.b1, hf.hold _ _ (one_not _) h.b2, hf.hold _ _ (one_not _) h.b3, h.nPQ, h.lo,
    h.below.trans (hf.below _ (by intro b hb; simp at hb; rcases hb with rfl | rfl; exact h.lo.2.2.1; exact h.lo.2.2.2.1) h.below.size)⟩
theorem holds_oneQ {w w' : World} {b Q x y : Nat} {v : Value} (h : Holds w b [v]) (hQ : Holds w Q (prC x y)) (ho : Only Q w w') : Holds w' b [v] := by
  refine ho.holds h ?_
  intro e
  subst e
  have := congrArg List.length (holds_same h hQ)
  simp [prC] at this
theorem AllS.clone {w wr : World} {P Q B1 B2 B3 bp cp i j bq cq c d : Nat} {vs us : List (List E)} (h : AllS w P Q B1 B2 B3 bp cp vs i us j bq cq wr) (hc : HistL wr c vs i) (hd : RHistL wr d vs i) (n : c ≠ d) (m1 : c ≠ bp) (m2 : c ≠ cp) (m3 : d ≠ bp) (m4 : d ≠ cp) (l1 : w.heap.size ≤ c) (l2 : w.heap.size ≤ d) :
    AllS w P Q B1 B2 B3 bp cp vs i vs i c d ((wr.setCell ⟨Q, 0, none⟩ (.pointer (some ⟨c, 0, none⟩))).setCell ⟨Q, 1, none⟩ (.pointer (some ⟨d, 0, none⟩))) := by
  have ho : Only Q wr ((wr.setCell ⟨Q, 0, none⟩ (.pointer (some ⟨c, 0, none⟩))).setCell ⟨Q, 1, none⟩ (.pointer (some ⟨d, 0, none⟩))) := (Only.of_upd (Upd.setCell _)).trans (Only.of_upd (Upd.setCell _))
  have x := h.h2.blk
  have y := h.q2.blk
  exact ⟨h.h1.onlyQ h.hQ x y ho, h.q1.onlyQ h.hQ x y ho, hc.onlyQ h.hQ x y ho, hd.onlyQ h.hQ x y ho, h.n1, n, m1, m2, m3, m4, ho.holds h.hP h.nPQ, (h.hQ.setCell (i := 0) _).setCell (i := 1) _, holds_oneQ h.b1 h.hQ ho, holds_oneQ h.b2 h.hQ ho, holds_oneQ h.b3 h.hQ ho, h.nPQ,
    ⟨h.lo.1, h.lo.2.1, l1, l2, h.lo.2.2.2.2⟩, h.below.trans (ho.below h.lo.2.2.2.2 h.below.size)⟩
end Go.Proofs.Ytmhhejpokgdjoaa
