/- What a call on two histories leaves alone; the store of a pair; the walks of same, begin. -/
import Derived.Test.YtmhhejpokgdjoaaJd
import Derived.Test.YtmhhejpokgdjoaaKaX
namespace Go.Proofs.Ytmhhejpokgdjoaa
open Go Go.RowKit
set_option linter.unusedVariables false
set_option linter.unusedSimpArgs false
attribute [local go_sem] Oper.semAt_some

theorem RdF.only {w w' : World} {c : Nat} {v : Value} {l : List E} (h : RdF w v l) (hc : HBlk w c) (ho : Only c w w') : RdF w' v l := by
  obtain ⟨a, n, k, j, g⟩ := hc
  obtain ⟨a', c', h1, h2, h3⟩ := h
  exact ⟨a', c', h1, h2, ho.rd h3 (rd_offG g h3 fun x => ⟨_, rfl, by simp, .inl (by simp)⟩)⟩
/-- Of the histories those of S alone turn; all else stays. -/
structure Frm (S : List Nat) (w w' : World) : Prop where
  size : w.heap.size ≤ w'.heap.size
  hist : ∀ b ps i, b ∉ S → HistP w b ps i → HistP w' b ps i
  rhist : ∀ b ps i, b ∉ S → RHistP w b ps i → RHistP w' b ps i
  hold : ∀ b cs, (∀ a n c i, cs ≠ hCells (.slice a n c) i) → Holds w b cs → Holds w' b cs
  map : ∀ b l, MapL w b l → MapL w' b l
  ref : ∀ b l, RefL w b l → RefL w' b l
  rdf : ∀ v l, RdF w v l → RdF w' v l
  below : ∀ B, (∀ b ∈ S, B ≤ b) → B ≤ w.heap.size → Below B w w'
theorem Frm.trans {S : List Nat} {x y z : World} (h : Frm S x y) (k : Frm S y z) : Frm S x z :=
  ⟨Nat.le_trans h.size k.size, fun b ps i hb hh => k.hist b ps i hb (h.hist b ps i hb hh), fun b ps i hb hh => k.rhist b ps i hb (h.rhist b ps i hb hh), fun b cs hc hh => k.hold b cs hc (h.hold b cs hc hh),
    fun b l hh => k.map b l (h.map b l hh), fun b l hh => k.ref b l (h.ref b l hh), fun v l hh => k.rdf v l (h.rdf v l hh), fun B hB hs => (h.below B hB hs).trans (k.below B hB (Nat.le_trans hs h.size))⟩
theorem Frm.of_below {S : List Nat} {w w' : World} (hb : Below w.heap.size w w') : Frm S w w' :=
  ⟨hb.size, fun b ps i _ h => h.ext hb, fun b ps i _ h => h.ext hb, fun b cs _ h => h.ext hb, fun b l h => h.ext hb, fun b l h => h.ext hb, fun v l h => h.ext hb, fun B _ hs => hb.mono hs⟩
theorem Frm.of_only {S : List Nat} {c : Nat} {w w' : World} (hc : HBlk w c) (hS : c ∈ S) (ho : Only c w w') : Frm S w w' := by
  obtain ⟨a, n, k, j, g⟩ := hc
  refine ⟨ho.size, fun b ps i hb h => h.only g (fun e => hb (e ▸ hS)) ho, fun b ps i hb h => h.only g (fun e => hb (e ▸ hS)) ho, fun b cs hcs h => ho.holds h ?_, fun b l h => h.only g ho, fun b l h => h.only g ho,
    fun v l h => h.only ⟨a, n, k, j, g⟩ ho, fun B hB hs => ho.below (hB c hS) hs⟩
  intro e
  subst e
  exact hcs _ _ _ _ (holds_same h g)
theorem Frm.histL {S : List Nat} {w w' : World} (h : Frm S w w') {b : Nat} {vs : List (List E)} {i : Nat} (hb : b ∉ S) (hh : HistL w b vs i) : HistL w' b vs i := by
  obtain ⟨ps, h1, h2⟩ := hh
  exact ⟨ps, h.hist b ps i hb h1, h2⟩
theorem Frm.rhistL {S : List Nat} {w w' : World} (h : Frm S w w') {b : Nat} {vs : List (List E)} {i : Nat} (hb : b ∉ S) (hh : RHistL w b vs i) : RHistL w' b vs i := by
  obtain ⟨ps, h1, h2⟩ := hh
  exact ⟨ps, h.rhist b ps i hb h1, h2⟩
/-! A pair's block is written: what stands beside it stays. -/
def prC (x y : Nat) : List Value := [.pointer (some ⟨x, 0, none⟩), .pointer (some ⟨y, 0, none⟩)]
theorem prC_not (x y : Nat) : ∀ a n c i, prC x y ≠ hCells (.slice a n c) i := by
  intro a n c i h
  simp [prC, hCells] at h
theorem tree_offQ {w : World} {Q x y : Nat} (h : Holds w Q (prC x y)) : ∀ {d : Nat} {t : Tr d}, t.at w → t.all (· ≠ Q)
  | 0, none, _ => trivial
  | 0, some (g, v), ht => by
    intro e
    subst e
    have := holds_same (show Holds w g (vCells v) from ht) h
    simp [vCells, prC] at this
  | d + 1, none, _ => trivial
  | d + 1, some (g, f), ht => by
    refine ⟨?_, fun i => tree_offQ h (ht.2 i)⟩
    intro e
    subst e
    have := congrArg List.length (holds_same ht.1 h)
    rw [nodeCells_length] at this
    simp [prC] at this
theorem MapL.onlyQ {w w' : World} {Q x y c : Nat} {l : List E} (h : MapL w c l) (hQ : Holds w Q (prC x y)) (ho : Only Q w w') : MapL w' c l := by
  obtain ⟨t, h1, h2⟩ := h
  refine ⟨t, ⟨ho.holds h1.map ?_, ho.tree h1.tree (tree_offQ hQ h1.tree)⟩, h2⟩
  intro e
  subst e
  have := holds_same h1.map hQ
  simp [Tr.mapCells, prC] at this
theorem rd_offQ {α : Type} {w : World} {Q x y s : Nat} {enc : α → List Value} {l : List α} {v : Value} (hQ : Holds w Q (prC x y)) (hr : Rd w s enc v l)
    (hn : ∀ p ∈ l, ∃ u, (enc p)[0]? = some u ∧ u ≠ .pointer (some ⟨x, 0, none⟩) ∧ u ≠ .pointer (some ⟨y, 0, none⟩)) : ∀ g o m k, v = .slice (some ⟨g, o, none⟩) m k → l ≠ [] → g ≠ Q := by
  rintro g o m k rfl hne rfl
  obtain ⟨a', c', hv, hr⟩ := hr
  rcases hr with rfl | ⟨g', off, ha, hlt, hc⟩
  · exact hne rfl
  · simp only [Value.slice.injEq] at hv
    obtain ⟨rfl, _, _⟩ := hv
    simp only [Option.some.injEq, Addr.mk.injEq] at ha
    obtain ⟨rfl, rfl, _⟩ := ha
    cases l with
    | nil => exact hne rfl
    | cons p l =>
      obtain ⟨u, hu, hn1, hn2⟩ := hn p List.mem_cons_self
      have h0 := hc 0 p 0 u rfl hu
      obtain ⟨ty, hB⟩ := hQ
      simp only [World.cell?, hB, prC, Nat.zero_mul, Nat.add_zero] at h0
      match o, h0 with
      | 0, h0 => simp at h0; exact hn1 h0.symm
      | 1, h0 => simp at h0; exact hn2 h0.symm
      | o + 2, h0 => simp at h0
theorem RefL.onlyQ {w w' : World} {Q x y c : Nat} {l : List E} (h : RefL w c l) (hQ : Holds w Q (prC x y)) (ho : Only Q w w') : RefL w' c l := by
  obtain ⟨L, h1, h2⟩ := h
  obtain ⟨ia, ic, va, vc, sa, sc, q1, q2, q3, q4⟩ := h1.cells
  refine ⟨L, ⟨⟨ia, ic, va, vc, sa, sc, ho.holds q1 ?_, ho.rd q2 (rd_offQ hQ q2 fun p _ => ⟨_, rfl, by simp, by simp⟩), ho.rd q3 (rd_offQ hQ q3 fun p _ => ⟨_, rfl, by simp, by simp⟩), ho.rd q4 (rd_offQ hQ q4 fun p _ => ⟨_, rfl, by simp, by simp⟩)⟩, h1.ids⟩, h2⟩
  intro e
  subst e
  have := congrArg List.length (holds_same q1 hQ)
  simp [prC] at this
theorem map_no {w : World} {x : Nat} {l : List E} (h : MapL w x l) (hb : HBlk w x) : False := by
  obtain ⟨t, h1, _⟩ := h
  obtain ⟨a, n, c, i, g⟩ := hb
  have := holds_same h1.map g
  simp [Tr.mapCells, hCells, Tr.ptr, ptrOf] at this
theorem ref_no {w : World} {x : Nat} {l : List E} (h : RefL w x l) (hb : HBlk w x) : False := by
  obtain ⟨L, h1, _⟩ := h
  obtain ⟨ia, ic, va, vc, sa, sc, q1, _⟩ := h1.cells
  obtain ⟨a, n, c, i, g⟩ := hb
  have := congrArg List.length (holds_same q1 g)
  simp [hCells] at this
theorem HistL.onlyQ {w w' : World} {Q x y b i : Nat} {vs : List (List E)} (h : HistL w b vs i) (hQ : Holds w Q (prC x y)) (hx : HBlk w x) (hy : HBlk w y) (ho : Only Q w w') : HistL w' b vs i := by
  obtain ⟨ps, h1, h2⟩ := h
  obtain ⟨a, c, q1, q2, q3⟩ := h1.cells
  refine ⟨ps, ⟨⟨a, c, ho.holds q1 ?_, ho.rd q2 (rd_offQ hQ q2 fun p hp => ⟨_, rfl, ?_, ?_⟩), q3⟩, fun p hp => (h1.maps p hp).onlyQ hQ ho, h1.small, h1.lt, h1.len⟩, h2⟩
  · intro e
    subst e
    exact prC_not _ _ _ _ _ _ (holds_same hQ q1)
  · intro e
    simp only [Value.pointer.injEq, Option.some.injEq, Addr.mk.injEq, and_true] at e
    exact map_no (e ▸ h1.maps p hp) hx
  · intro e
    simp only [Value.pointer.injEq, Option.some.injEq, Addr.mk.injEq, and_true] at e
    exact map_no (e ▸ h1.maps p hp) hy
theorem RHistL.onlyQ {w w' : World} {Q x y b i : Nat} {vs : List (List E)} (h : RHistL w b vs i) (hQ : Holds w Q (prC x y)) (hx : HBlk w x) (hy : HBlk w y) (ho : Only Q w w') : RHistL w' b vs i := by
  obtain ⟨ps, h1, h2⟩ := h
  obtain ⟨a, c, q1, q2, q3⟩ := h1.cells
  refine ⟨ps, ⟨⟨a, c, ho.holds q1 ?_, ho.rd q2 (rd_offQ hQ q2 fun p hp => ⟨_, rfl, ?_, ?_⟩), q3⟩, fun p hp => (h1.maps p hp).onlyQ hQ ho, h1.small, h1.lt, h1.len⟩, h2⟩
  · intro e
    subst e
    exact prC_not _ _ _ _ _ _ (holds_same hQ q1)
  · intro e
    simp only [Value.pointer.injEq, Option.some.injEq, Addr.mk.injEq, and_true] at e
    exact ref_no (e ▸ h1.maps p hp) hx
  · intro e
    simp only [Value.pointer.injEq, Option.some.injEq, Addr.mk.injEq, and_true] at e
    exact ref_no (e ▸ h1.maps p hp) hy
set_option maxRecDepth 100000 in
theorem same_pp (b c : Nat) (l : List E) (w : World) (hm : MapL w b l) (hr : RefL w c l) (hl : l.length ≤ 200) :
    Calls Try.prog 57 #[.pointer (some ⟨b, 0, none⟩), .pointer (some ⟨c, 0, none⟩)] w fun e w' => e = .returned (.bool true) ∧ Below w.heap.size w w' := by
  have hE1 := fun W => eql_pm_nil ⟨b, 0, none⟩ W
  have hE2 := fun W => eql_rm_nil ⟨c, 0, none⟩ W
  obtain ⟨L, r1, r2, r3⟩ := hr
  have HM := Lib.hid hm
  have HR := Lib.hid r1
  have HL := Lib.hid r2
  have hll : L.length ≤ 200 := by rw [← r2, List.length_map] at hl; exact hl
  clear hm r1 r2 r3
  go_enter Try.func57, Try.ntmps57
  go_wp2_with fail
  refine (entries_any _ l w (.inl ⟨b, rfl, HM.out⟩) (by omega)).mono ?_
  rintro e w1 ⟨es, rfl, hO, hb1⟩
  obtain ⟨ea, ec, rfl, _⟩ := own_len hO
  have HO := Lib.hid (hO.rd encL_len)
  have HB1 := Lib.hid hb1
  clear hO hb1
  go_wp2_with fail
  refine (rlist_any c L w1 (HR.out.ext HB1.out) (by omega)).mono ?_
  rintro e w2 ⟨fs, rfl, hO2, hb2⟩
  rw [HL.out] at hO2
  obtain ⟨fa, fc, rfl, _⟩ := own_len hO2
  have HO2 := Lib.hid (hO2.rd encL_len)
  have HO1 := Lib.hid (HO.out.ext hb2)
  have HB2 := Lib.hid (HB1.out.trans (hb2.mono HB1.out.size))
  clear hO2 hb2
  go_wp2_with fail
  refine (sameEntries_any _ _ l l w2 HO1.out HO2.out (by omega) (by omega)).mono ?_
  rintro e w3 ⟨rfl, hb3⟩
  have HB3 := Lib.hid (HB2.out.trans (hb3.mono HB2.out.size))
  clear hb3
  rw [decide_eq_true (rfl : l = l)]
  go_wp2
  go_returns
  exact ⟨rfl, HB3.out⟩
theorem same_nn (w : World) : Calls Try.prog 57 #[.pointer none, .pointer none] w fun e w' => e = .returned (.bool true) ∧ Below w.heap.size w w' := by
  have hE1 := fun W => eql_pm_nn W
  have hE2 := fun W => eql_rm_nn W
  go_enter Try.func57, Try.ntmps57
  go_wp2
  go_returns
  exact ⟨rfl, Below.refl _ _⟩
end Go.Proofs.Ytmhhejpokgdjoaa
