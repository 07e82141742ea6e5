/- The walks of the reference's history: Version, Forget, Push, Clone. -/
import Derived.Test.YtmhhejpokgdjoaaJb
import Derived.Test.YtmhhejpokgdjoaaTkX
namespace Go.Proofs.Ytmhhejpokgdjoaa
open Go Go.RowKit
set_option linter.unusedVariables false
set_option linter.unusedSimpArgs false

set_option maxRecDepth 100000 in
theorem rversion_to (b : Nat) (ps : List (Nat × List E)) (i j : Nat) (n : Int) (p : Nat × List E) (w : World) (hp : RHistP w b ps i) (e1 : ps[j]? = some p) (hn : (i : Int) + n = j) :
    Calls Try.prog 63 #[.pointer (some ⟨b, 0, none⟩), .int .i64 n] w fun e w' => e = .returned (.tuple #[.pointer (some ⟨p.1, 0, none⟩), .bool true]) ∧ Below w.heap.size w w' := by
  obtain ⟨a, c, h1, h2, h3⟩ := hp.cells
  have hi := hp.lt
  have hl := hp.len
  have hj := (List.getElem?_eq_some_iff.1 e1).1
  obtain ⟨g, o, rfl⟩ := rd_some h2 (by intro e; rw [e] at hi; simp at hi)
  have k0 := h1.cell (i := 0) rfl
  have k1 := h1.cell (i := 1) rfl
  have k2 := rd_at h2 e1
  have d1 : decide (n < -(i : Int)) = false := by simp; omega
  have d2 : decide ((ps.length : Int) - 1 - (i : Int) < n) = false := by simp; omega
  clear h1 h2 e1 hp
  go_enter Try.func63, Try.ntmps63
  go_wp2
  refine rgn [0, 1, 2, 3, 4, 5, 6, 7, 8, 9, 10, 11, 12, 13, 14, 15, 16, 17, 18, 19, 20, 21] [6, 13, 14, 19, 20] (ord_fast (by kernel_rfl)) ?_
  simp only [pickL, List.getD_cons_zero, List.getD_cons_succ]
  go_wp2
  try refine ⟨by first | rfl | kernel_rfl | (simp [chkD, dyn, Region.wanted, yielded, Act.eval, scalarV]), ?_⟩
  go_wp2
  refine rgn [0, 1, 2, 3, 4, 5, 6, 7, 8, 9, 10, 11, 12, 13] [9] (by kernel_rfl) ?_
  simp only [pickL, List.getD_cons_zero, List.getD_cons_succ]
  go_wp2
  have hj' : (i : Int) + n = ((j : Nat) : Int) := hn
  try refine ⟨by simp [chkD, dyn, Region.wanted, yielded, Act.eval, scalarV], ?_⟩
  go_wp2
  go_returns
  exact ⟨rfl, (Below.refl _ _).drew.drew⟩
set_option maxRecDepth 100000 in
theorem rversion_no (b : Nat) (vs : List (List E)) (i : Nat) (n : Int) (w : World) (h : RHistL w b vs i) (hn : n < -(i : Int) ∨ ((vs.length - 1 - i : Nat) : Int) < n) :
    Calls Try.prog 63 #[.pointer (some ⟨b, 0, none⟩), .int .i64 n] w fun e w' => e = .returned (.tuple #[.pointer none, .bool false]) ∧ Below w.heap.size w w' := by
  obtain ⟨ps, hp, rfl⟩ := h
  rw [List.length_map] at hn
  obtain ⟨a, c, h1, h2, h3⟩ := hp.cells
  have hi := hp.lt
  have hl := hp.len
  have k0 := h1.cell (i := 0) rfl
  have k1 := h1.cell (i := 1) rfl
  clear h1 h2 hp
  by_cases h1 : n < -(i : Int)
  · have d1 : decide (n < -(i : Int)) = true := by simpa using h1
    clear hn
    go_enter Try.func63, Try.ntmps63
    go_wp2
    refine rgn [0, 1, 2, 3, 4, 5, 6, 7, 8, 9, 10, 11, 12, 13, 14, 15, 16, 17, 18, 19, 20, 21] [6, 13, 14, 19, 20] (ord_fast (by kernel_rfl)) ?_
    simp only [pickL, List.getD_cons_zero, List.getD_cons_succ]
    go_wp2
    try refine ⟨by first | rfl | kernel_rfl | (simp [chkD, dyn, Region.wanted, yielded, Act.eval, scalarV]), ?_⟩
    go_wp2
    go_returns
    exact ⟨rfl, (Below.refl _ _).drew⟩
  · have d1 : decide (n < -(i : Int)) = false := by simpa using h1
    have d2 : decide ((ps.length : Int) - 1 - (i : Int) < n) = true := by simp; omega
    clear hn h1
    go_enter Try.func63, Try.ntmps63
    go_wp2
    refine rgn [0, 1, 2, 3, 4, 5, 6, 7, 8, 9, 10, 11, 12, 13, 14, 15, 16, 17, 18, 19, 20, 21] [6, 13, 14, 19, 20] (ord_fast (by kernel_rfl)) ?_
    simp only [pickL, List.getD_cons_zero, List.getD_cons_succ]
    go_wp2
    try refine ⟨by first | rfl | kernel_rfl | (simp [chkD, dyn, Region.wanted, yielded, Act.eval, scalarV]), ?_⟩
    go_wp2
    go_returns
    exact ⟨rfl, (Below.refl _ _).drew⟩
theorem rversion_any (b : Nat) (ps : List (Nat × List E)) (i : Nat) (n : Int) (w : World) (hp : RHistP w b ps i) :
    Calls Try.prog 63 #[.pointer (some ⟨b, 0, none⟩), .int .i64 n] w fun e w' => Below w.heap.size w w' ∧
      ((∃ p, verP ps i n = some p ∧ e = .returned (.tuple #[.pointer (some ⟨p.1, 0, none⟩), .bool true])) ∨ (verP ps i n = none ∧ e = .returned (.tuple #[.pointer none, .bool false]))) := by
  by_cases h : n < -(i : Int) ∨ ((ps.length - 1 - i : Nat) : Int) < n
  · refine (rversion_no b _ i n w ⟨ps, hp, rfl⟩ (by simpa using h)).mono ?_
    rintro e w' ⟨he, hb⟩
    exact ⟨hb, .inr ⟨by unfold verP; rw [if_pos h], he⟩⟩
  · have hi := hp.lt
    have hj : ((i : Int) + n).toNat < ps.length := by omega
    have e1 : ps[((i : Int) + n).toNat]? = some ps[((i : Int) + n).toNat] := List.getElem?_eq_getElem hj
    refine (rversion_to b ps i _ n _ w hp e1 (by omega)).mono ?_
    rintro e w' ⟨he, hb⟩
    exact ⟨hb, .inl ⟨_, by unfold verP; rw [if_neg h]; exact e1, he⟩⟩
/-- Another list of versions is laid. -/
theorem rhist_put {W : World} {b base j n c : Nat} {a : Option Addr} {i : Int} {v' : Value} {qs : List (Nat × List E)} (hh : Holds W b (hCells (.slice a n c) i)) (ho : Own W base 104 1 encP v' qs) (hb : b < base)
    (hm : ∀ p ∈ qs, RefL W p.1 p.2) (hs : ∀ p ∈ qs, p.2.length ≤ 200) (hj : j < qs.length) (hl : qs.length ≤ 33) :
    RHistP ((W.setCell ⟨b, 0, none⟩ v').setCell ⟨b, 1, none⟩ (.int .i64 (j : Nat))) b qs j ∧ Only b W ((W.setCell ⟨b, 0, none⟩ v').setCell ⟨b, 1, none⟩ (.int .i64 (j : Nat))) := by
  have hu : Only b W ((W.setCell ⟨b, 0, none⟩ v').setCell ⟨b, 1, none⟩ (.int .i64 (j : Nat))) := (Only.of_upd (Upd.setCell _)).trans (Only.of_upd (Upd.setCell _))
  obtain ⟨a', c', rfl, hf⟩ := own_fits ho
  refine ⟨⟨⟨a', c', ?_, (hu.own ho hb).rd encP_len, hf⟩, fun p hp => (hm p hp).only hh hu, hs, hj, hl⟩, hu⟩
  exact (hh.setCell (i := 0) (.slice a' qs.length c')).setCell (i := 1) (.int .i64 (j : Nat))
set_option maxRecDepth 100000 in
theorem rforget_no (b : Nat) (vs : List (List E)) (i : Nat) (n : Int) (w : World) (h : RHistL w b vs i) (hn : n < 0 ∨ (i : Int) < n) :
    Calls Try.prog 60 #[.pointer (some ⟨b, 0, none⟩), .int .i64 n] w fun e w' => e = .returned (.int .i64 113) ∧ Below w.heap.size w w' := by
  obtain ⟨ps, hp, rfl⟩ := h
  obtain ⟨a, c, h1, h2, h3⟩ := hp.cells
  have k1 := h1.cell (i := 1) rfl
  clear h1 h2 hp
  by_cases h0 : n < 0
  · have d1 : decide (n < 0) = true := by simpa using h0
    go_enter Try.func60, Try.ntmps60
    go_wp2
    go_returns
    exact ⟨rfl, Below.refl _ _⟩
  · have d1 : decide (n < 0) = false := by simpa using h0
    have h4 : (i : Int) < n := by omega
    have d2 : decide ((i : Int) < n) = true := by simpa using h4
    go_enter Try.func60, Try.ntmps60
    go_wp2
    go_returns
    exact ⟨rfl, Below.refl _ _⟩
set_option maxRecDepth 100000 in
theorem rforget_to (b : Nat) (vs : List (List E)) (i m : Nat) (w : World) (h : RHistL w b vs i) (hm : m ≤ i) :
    Calls Try.prog 60 #[.pointer (some ⟨b, 0, none⟩), .int .i64 (m : Nat)] w fun e w' => e = .returned (.int .i64 0) ∧ RHistL w' b (vs.drop m) (i - m) ∧ Only b w w' := by
  obtain ⟨ps, hp, rfl⟩ := h
  have HP := Lib.hid hp
  obtain ⟨a, c, h1, h2, h3⟩ := hp.cells
  have hi := hp.lt
  have hl := hp.len
  have hd := rd_drop h2 m (by omega) h3
  rw [if_neg (by omega : ¬ c = m)] at hd
  obtain ⟨a', c', hs, hnil | ⟨g, off, rfl, hg, hc⟩⟩ := h2
  · subst hnil; simp at hi
  simp only [Value.slice.injEq, true_and] at hs
  obtain ⟨rfl, rfl⟩ := hs
  have hadd : Option.map (fun x : Addr => x.add (m * 1)) (some ⟨g, off, none⟩) = some ⟨g, off + m, none⟩ := by
    simp only [Option.map_some, Addr.add, Nat.mul_one]
    by_cases h0 : m = 0 <;> simp [h0]
  rw [hadd] at hd
  have k0 := h1.cell (i := 0) rfl
  have k1 := h1.cell (i := 1) rfl
  have hdn : ps.drop m ≠ [] := by intro e; have := congrArg List.length e; rw [List.length_drop] at this; simp at this; omega
  have hdl : (ps.drop m).length = ps.length - m := List.length_drop
  have HD := Lib.hid hd
  have HDN := Lib.hid hdn
  have HDL := Lib.hid hdl
  have H1 := Lib.hid h1
  have d1 : decide ((m : Int) < 0) = false := by simp
  have d2 : decide ((i : Int) < (m : Int)) = false := by simp; omega
  have d3 : decide (i < m) = false := by simp; omega
  have hcm : ¬ c = m := by omega
  clear hp hd h1 hc hdn hdl
  go_enter Try.func60, Try.ntmps60
  go_wp2_with (refine wpList_app_rptrs rfl _ _ rfl w.heap.size (.slice none 0 0) 0 [] (ps.drop m) (World.ownsRow_nil w w.heap.size 104 1) rfl _ _ _ rfl HD.out HDN.out (by rw [HDL.out]; omega) (Nat.le_refl _) ?_; intro v1 W1 hO1 hn1 hq1 _; obtain ⟨y1, y2, hv1⟩ := row_shape hO1; subst hv1; have hh := H1.out.ext hq1; have q0 := hh.cell (i := 0) rfl; have q1 := hh.cell (i := 1) rfl; have qf := hh.free 0; have qf1 := hh.free 1; have HO1 := Lib.hid hO1; have HN1 := Lib.hid hn1; have HQ1 := Lib.hid hq1; clear hO1 hn1 hq1 hh)
  have hown : Own W1 w.heap.size 104 1 encP (.slice y1 (0 + (ps.drop m).length) y2) (ps.drop m) := by
    refine ⟨?_, ⟨fun e => absurd e HN1.out, fun e => absurd e HDN.out⟩⟩
    have := HO1.out
    simp only [Nat.zero_add, List.nil_append] at this ⊢
    exact this
  have hput := rhist_put (j := i - m) (H1.out.ext HQ1.out) hown H1.out.lt (fun p hp => (HP.out.maps p (List.mem_of_mem_drop hp)).ext HQ1.out) (fun p hp => HP.out.small p (List.mem_of_mem_drop hp)) (by rw [HDL.out]; omega) (by rw [HDL.out]; omega)
  have hsub : ((i - m : Nat) : Int) = (i : Int) - (m : Int) := by omega
  rw [hsub, Nat.zero_add, HDL.out] at hput
  have PUT := Lib.hid hput
  clear hput hown hsub HO1 HN1 k0 k1
  go_wp2
  go_returns
  exact ⟨rfl, ⟨ps.drop m, PUT.out.1, by rw [List.map_drop]⟩, (Only.of_below HQ1.out).trans PUT.out.2⟩
theorem rpush_full (b : Nat) (vs : List (List E)) (i : Nat) (v : Value) (w : World) (h : RHistL w b vs i) (hi : 32 ≤ i) :
    Calls Try.prog 54 #[.pointer (some ⟨b, 0, none⟩), v] w fun e w' => e = .returned (.int .i64 110) ∧ Below w.heap.size w w' := by
  obtain ⟨ps, hp, rfl⟩ := h
  obtain ⟨a, c, h1, h2, h3⟩ := hp.cells
  have k1 := h1.cell (i := 1) rfl
  have d1 : decide ((32 : Int) ≤ (i : Int)) = true := by simp; omega
  have d2 : decide (32 ≤ i) = true := by simpa using hi
  clear h1 h2 hp
  go_enter Try.func54, Try.ntmps54
  go_wp2
  go_returns
  exact ⟨rfl, Below.refl _ _⟩
set_option maxRecDepth 100000 in
set_option maxHeartbeats 1600000 in
theorem rpush_to (b : Nat) (vs : List (List E)) (i : Nat) (v : Value) (l : List E) (w : World) (h : RHistL w b vs i) (hi : i < 32) (hv : RefV w v l) (hl : l.length ≤ 200) :
    Calls Try.prog 54 #[.pointer (some ⟨b, 0, none⟩), v] w fun e w' => e = .returned (.int .i64 0) ∧ RHistL w' b (vs.take (i + 1) ++ [l]) (i + 1) ∧ Only b w w' := by
  obtain ⟨ps, hp, rfl⟩ := h
  have HP := Lib.hid hp
  obtain ⟨a, c, h1, h2, h3⟩ := hp.cells
  have hil := hp.lt
  have hpl := hp.len
  have ht := rd_take h2 (i + 1) (by omega) c
  obtain ⟨a', c', hs, hnil | ⟨g, off, rfl, hg, hc⟩⟩ := h2
  · subst hnil; simp at hil
  simp only [Value.slice.injEq, true_and] at hs
  obtain ⟨rfl, rfl⟩ := hs
  have k0 := h1.cell (i := 0) rfl
  have k1 := h1.cell (i := 1) rfl
  have htl : (ps.take (i + 1)).length = i + 1 := by simp; omega
  have htn : ps.take (i + 1) ≠ [] := by intro e; rw [e] at htl; simp at htl
  have HT := Lib.hid (ht.ext (Below.refl _ _).drew)
  have HTL := Lib.hid htl
  have HTN := Lib.hid htn
  have H1 := Lib.hid h1
  have HV := Lib.hid hv
  have d1 : decide ((32 : Int) ≤ (i : Int)) = false := by simp; omega
  have d2 : decide (32 ≤ i) = false := by simp; omega
  clear hp ht h1 hc hv htl htn
  go_enter Try.func54, Try.ntmps54
  go_wp2
  refine rgn [0, 1, 2, 3, 4, 5, 6, 7, 8, 9, 10, 11, 12] [9] (by kernel_rfl) ?_
  simp only [pickL, List.getD_cons_zero, List.getD_cons_succ]
  go_wp2_with (refine wpList_app_rptrs rfl _ _ rfl w.heap.size (.slice none 0 0) 0 [] (ps.take (i + 1)) (World.ownsRow_nil _ w.heap.size 104 1) rfl _ _ _ rfl HT.out HTN.out (by rw [HTL.out]; omega) (by simp) ?_; intro v1 W1 hO1 hn1 hq1 _; have hO1' := hO1; rw [HTL.out, Nat.zero_add] at hO1'; obtain ⟨y1, y2, hv1⟩ := row_shape hO1'; subst hv1; have HO1 := Lib.hid hO1; clear hO1'; have HN1 := Lib.hid hn1; have HQ1 : Hid (Below w.heap.size w W1) := Lib.hid (below_of_drew hq1); clear hO1 hn1 hq1)
  try refine ⟨by first | rfl | kernel_rfl | (simp [chkD, dyn, Region.wanted, yielded, Act.eval, scalarV]), ?_⟩
  have hown : Own W1 w.heap.size 104 1 encP (.slice y1 (i + 1) y2) (ps.take (i + 1)) := by
    refine ⟨?_, ⟨fun e => absurd e HN1.out, fun e => absurd e HTN.out⟩⟩
    have := HO1.out
    simp only [Nat.zero_add, List.nil_append] at this ⊢
    exact this
  have HO2 := Lib.hid hown
  clear hown HO1 HN1
  have hwh := Lib.hid (rwhole_any v l W1 (HV.out.ext HQ1.out))
  go_wp2_with fail
  refine hwh.out.mono ?_
  rintro e w2 ⟨b', rfl, hm2, hb2, hwv⟩
  have HWV := Lib.hid hwv
  clear hwv
  have hal : Below w2.heap.size w2 (w2.alloc (.cells #[.pointer (some ⟨b', 0, none⟩)] 104)) := (Below.refl _ _).alloc (Nat.le_refl _) _
  have HOW := Lib.hid ((HO2.out.below hb2).below hal)
  have B2 := Lib.hid (HQ1.out.trans ((hb2.trans (hal.mono hb2.size)).mono HQ1.out.size))
  have hbl : Holds (w2.alloc (.cells #[.pointer (some ⟨b', 0, none⟩)] 104)) w2.heap.size [.pointer (some ⟨b', 0, none⟩)] := Holds.alloc w2 [.pointer (some ⟨b', 0, none⟩)] _
  have hrd : Rd (w2.alloc (.cells #[.pointer (some ⟨b', 0, none⟩)] 104)) 1 encP (.slice (some ⟨w2.heap.size, 0, none⟩) 1 1) [(b', l)] := by
    refine ⟨_, _, rfl, .inr ⟨w2.heap.size, 0, rfl, by simp, fun i x j u hi hj => ?_⟩⟩
    match i, hi with
    | 0, hi =>
      cases hi
      match j, hj with
      | 0, hj =>
        cases hj
        exact hbl.cell (i := 0) rfl
      | j + 1, hj => simp [encP] at hj
    | i + 1, hi => simp at hi
  have HRD := Lib.hid hrd
  have HAL := Lib.hid hal
  have hle := B2.out.size
  have HLE := Lib.hid hle
  have hsz1 := hb2.size
  have fin : ∀ W, Below w.heap.size (w2.alloc (.cells #[.pointer (some ⟨b', 0, none⟩)] 104)) W → Holds W b (hCells (.slice (some ⟨g, off, none⟩) ps.length c) (i : Nat)) := fun W hW => H1.out.ext (B2.out.trans hW)
  have FIN := Lib.hid fin
  clear hal hb2 hbl hrd hm2 hwh fin k0 k1 hle
  have hrow := HOW.out.row
  rw [HTL.out] at hrow
  have HROW := Lib.hid hrow
  clear hrow
  go_wp2_with (refine wpList_app_rptrs rfl _ _ rfl w.heap.size _ _ _ [(b', l)] HROW.out rfl _ _ _ rfl HRD.out (by simp) (by show i + 1 + 1 ≤ 1000000; omega) HLE.out ?_; intro v3 W3 ho3 hn3 hq3 hg3; obtain ⟨y3, y4, hv3⟩ := row_shape ho3; subst hv3; have HO3 := Lib.hid ho3; have HN3 := Lib.hid hn3; have HQ3 := Lib.hid hq3; have HG3 := Lib.hid hg3; have q0 := (FIN.out W3 hq3).cell (i := 0) rfl; have q1 := (FIN.out W3 hq3).cell (i := 1) rfl; have qf := (FIN.out W3 hq3).free 0; have qf1 := (FIN.out W3 hq3).free 1; clear ho3 hn3 hq3 hg3)
  have hmap : RefL W3 b' l := by
    rcases HWV.out with ⟨hvb⟩ | ⟨rfl, hge, hhb⟩
    · rcases HV.out with ⟨b0, hv0, hm0⟩ | ⟨hv0, _⟩
      · rw [hvb] at hv0
        cases hv0
        exact hm0.ext (B2.out.trans HQ3.out)
      · rw [hvb] at hv0
        cases hv0
    · refine refL_nils ?_
      have h0 := hhb.ext HAL.out
      obtain ⟨ty, h1⟩ := h0
      refine ⟨ty, (HG3.out.block b' ?_ ?_).trans h1⟩
      · exact (Array.getElem?_eq_some_iff.1 h1).1
      · intro e
        have := (HO2.out.row.lt b' e.symm).2
        omega
  have hps : ∀ p ∈ ps.take (i + 1) ++ [(b', l)], RefL W3 p.1 p.2 := by
    intro p hp
    rcases List.mem_append.1 hp with h | h
    · exact (HP.out.maps p (List.mem_of_mem_take h)).ext (B2.out.trans HQ3.out)
    · rw [List.mem_singleton] at h
      subst h
      exact hmap
  have hsm : ∀ p ∈ ps.take (i + 1) ++ [(b', l)], p.2.length ≤ 200 := by
    intro p hp
    rcases List.mem_append.1 hp with h | h
    · exact HP.out.small p (List.mem_of_mem_take h)
    · rw [List.mem_singleton] at h
      subst h
      exact hl
  have hlq : (ps.take (i + 1) ++ [(b', l)]).length = i + 1 + 1 := by rw [List.length_append, HTL.out]; rfl
  have hown3 : Own W3 w.heap.size 104 1 encP (.slice y3 (i + 1 + 1) y4) (ps.take (i + 1) ++ [(b', l)]) := by
    refine ⟨?_, ?_⟩
    · rw [hlq, List.flatMap_append]
      exact HO3.out
    · exact ⟨fun e => absurd e HN3.out, fun e => by have := congrArg List.length e; rw [hlq] at this; simp at this⟩
  have hput := rhist_put (j := i + 1) (FIN.out W3 HQ3.out) hown3 H1.out.lt hps hsm (by rw [hlq]; omega) (by rw [hlq]; omega)
  have PUT := Lib.hid hput
  have HB3 := Lib.hid (B2.out.trans HQ3.out)
  clear hmap hps hsm hlq hown3 hput HROW HOW HRD HO3 HN3 HG3 HWV HAL HV HO2
  go_wp2
  go_returns
  exact ⟨rfl, ⟨_, PUT.out.1, by rw [List.map_append, List.map_take]; rfl⟩, (Only.of_below HB3.out).trans PUT.out.2⟩
set_option maxRecDepth 100000 in
theorem rclone_any (b : Nat) (vs : List (List E)) (i : Nat) (w : World) (h : RHistL w b vs i) :
    Calls Try.prog 32 #[.pointer (some ⟨b, 0, none⟩)] w fun e w' => ∃ c, e = .returned (.pointer (some ⟨c, 0, none⟩)) ∧ RHistL w' c vs i ∧ w.heap.size ≤ c ∧ Below w.heap.size w w' := by
  obtain ⟨ps, hp, rfl⟩ := h
  have HP := Lib.hid hp
  obtain ⟨a, c, h1, h2, h3⟩ := hp.cells
  have hil := hp.lt
  have hpl := hp.len
  have hpn : ps ≠ [] := by intro e; rw [e] at hil; simp at hil
  obtain ⟨g, off, rfl⟩ := rd_some h2 hpn
  have k0 := h1.cell (i := 0) rfl
  have k1 := h1.cell (i := 1) rfl
  have HD := Lib.hid h2
  have HN := Lib.hid hpn
  have H1 := Lib.hid h1
  clear hp h1 h2 hpn
  go_enter Try.func32, Try.ntmps32
  go_wp2_with (refine wpList_app_rptrs rfl _ _ rfl w.heap.size (.slice none 0 0) 0 [] ps (World.ownsRow_nil w w.heap.size 104 1) rfl _ _ _ rfl HD.out HN.out (by omega) (Nat.le_refl _) ?_; intro v1 W1 hO1 hn1 hq1 _; obtain ⟨y1, y2, hv1⟩ := row_shape hO1; subst hv1; have hh := H1.out.ext hq1; have q1 := hh.cell (i := 1) rfl; have HO1 := Lib.hid hO1; have HN1 := Lib.hid hn1; have HQ1 := Lib.hid hq1; clear hO1 hn1 hq1 hh)
  have hown : Own W1 w.heap.size 104 1 encP (.slice y1 (0 + ps.length) y2) ps := by
    refine ⟨?_, ⟨fun e => absurd e HN1.out, fun e => absurd e HN.out⟩⟩
    have := HO1.out
    simp only [Nat.zero_add, List.nil_append] at this ⊢
    exact this
  rw [Nat.zero_add] at hown
  have hal : Below W1.heap.size W1 (W1.alloc (.cells #[.slice y1 ps.length y2, .int .i64 (i : Nat)] 116)) := (Below.refl _ _).alloc (Nat.le_refl _) _
  have hb2 := HQ1.out.trans (hal.mono HQ1.out.size)
  obtain ⟨_, _, hsv, hf⟩ := own_fits hown
  simp only [Value.slice.injEq] at hsv
  obtain ⟨_, _, rfl⟩ := hsv
  have HC : Hid (RHistP (W1.alloc (.cells #[.slice y1 ps.length y2, .int .i64 (i : Nat)] 116)) W1.heap.size ps i) := Lib.hid
    ⟨⟨y1, y2, Holds.alloc W1 (hCells (.slice y1 ps.length y2) (i : Nat)) _, (hown.below hal).rd encP_len, hf⟩, fun p hp => (HP.out.maps p hp).ext hb2, HP.out.small, hil, hpl⟩
  have B2 := Lib.hid hb2
  have HZ := Lib.hid HQ1.out.size
  go_returns
  exact ⟨_, rfl, ⟨ps, HC.out, rfl⟩, HZ.out, B2.out⟩
end Go.Proofs.Ytmhhejpokgdjoaa
