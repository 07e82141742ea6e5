/- The walks of package hist: Undo, Redo. -/
import Derived.Test.YtmhhejpokgdjoaaHb
import Derived.Test.YtmhhejpokgdjoaaSp
namespace Go.Proofs.Ytmhhejpokgdjoaa
open Go Go.RowKit
set_option linter.unusedVariables false
set_option linter.unusedSimpArgs false

theorem HistP.setAt {w : World} {b i j : Nat} {ps : List (Nat × List E)} (h : HistP w b ps i) (hj : j < ps.length) : HistP (w.setCell ⟨b, 1, none⟩ (.int .i64 (j : Nat))) b ps j ∧ Only b w (w.setCell ⟨b, 1, none⟩ (.int .i64 (j : Nat))) := by
  obtain ⟨a, c, h1, h2, h3⟩ := h.cells
  have ho : Only b w (w.setCell ⟨b, 1, none⟩ (.int .i64 (j : Nat))) := Only.of_upd (Upd.setCell _)
  refine ⟨⟨⟨a, c, ?_, ho.rd h2 (rd_off h1 h2), h3⟩, fun p hp => (h.maps p hp).only h1 ho, h.small, hj, h.len⟩, ho⟩
  have := h1.setCell (i := 1) (.int .i64 (j : Nat))
  exact this
theorem own_fits {α : Type} {w : World} {base : Nat} {ty : TypeId} {s : Nat} {enc : α → List Value} {v : Value} {l : List α} (h : Own w base ty s enc v l) : ∃ a c, v = .slice a l.length c ∧ l.length ≤ c := by
  rcases h.row.2 with ⟨h1, h0⟩ | ⟨g, cap, cur, h1, _, _, hn, _⟩
  · exact ⟨none, 0, by rw [h1, h0], by omega⟩
  · exact ⟨_, _, h1, hn⟩
theorem row_shape {w : World} {base : Nat} {ty : TypeId} {s n : Nat} {v : Value} {xs : List Value} (h : w.ownsRow base ty s v n xs) : ∃ a c, v = .slice a n c := by
  rcases h.2 with ⟨h1, h0⟩ | ⟨g, cap, cur, h1, _⟩
  · exact ⟨none, 0, by rw [h1, h0]⟩
  · exact ⟨_, _, h1⟩
/-- Another list of versions is laid. -/
theorem hist_put {W : World} {b base j n c : Nat} {a : Option Addr} {i : Int} {v' : Value} {qs : List (Nat × List E)} (hh : Holds W b (hCells (.slice a n c) i)) (ho : Own W base 29 1 encP v' qs) (hb : b < base)
    (hm : ∀ p ∈ qs, MapL W p.1 p.2) (hs : ∀ p ∈ qs, p.2.length ≤ 200) (hj : j < qs.length) (hl : qs.length ≤ 33) :
    HistP ((W.setCell ⟨b, 0, none⟩ v').setCell ⟨b, 1, none⟩ (.int .i64 (j : Nat))) b qs j ∧ Only b W ((W.setCell ⟨b, 0, none⟩ v').setCell ⟨b, 1, none⟩ (.int .i64 (j : Nat))) := by
  have hu : Only b W ((W.setCell ⟨b, 0, none⟩ v').setCell ⟨b, 1, none⟩ (.int .i64 (j : Nat))) := (Only.of_upd (Upd.setCell _)).trans (Only.of_upd (Upd.setCell _))
  obtain ⟨a', c', rfl, hf⟩ := own_fits ho
  refine ⟨⟨⟨a', c', ?_, (hu.own ho hb).rd encP_len, hf⟩, fun p hp => (hm p hp).only hh hu, hs, hj, hl⟩, hu⟩
  exact (hh.setCell (i := 0) (.slice a' qs.length c')).setCell (i := 1) (.int .i64 (j : Nat))
set_option maxRecDepth 100000 in
theorem step_to (b : Nat) (vs : List (List E)) (i j : Nat) (by_ nn : Int) (w : World) (h : HistL w b vs i) (hj : j < vs.length) (hb : (i : Int) + by_ = (j : Nat)) :
    Calls Try.prog 44 #[.pointer (some ⟨b, 0, none⟩), .int .i64 by_, .int .i64 nn] w fun e w' => ∃ c l, e = .returned (.tuple #[.pointer (some ⟨c, 0, none⟩), .int .i64 0]) ∧ vs[j]? = some l ∧ MapL w' c l ∧ HistL w' b vs j ∧ Only b w w' := by
  obtain ⟨ps, hp, rfl⟩ := h
  rw [List.length_map] at hj
  obtain ⟨a, c, h1, h2, h3⟩ := hp.cells
  have hl := hp.len
  have hset := hp.setAt hj
  have hno := Lib.hid (now_any b (ps.map (·.2)) j _ ⟨ps, hset.1, rfl⟩)
  have k0 := h1.cell (i := 0) rfl
  have k1 := h1.cell (i := 1) rfl
  have kf := h1.free 1
  have HS := Lib.hid hset
  have d1 : decide ((j : Int) < 0) = false := by simp
  have d3 : decide (ps.length ≤ j) = false := by simp; omega
  clear h1 h2 hp hset
  go_enter Try.func44, Try.ntmps44
  go_wp2_with fail
  refine hno.out.mono ?_
  rintro e w1 ⟨x, l, rfl, hx, hm, hb1⟩
  go_wp2
  go_returns
  exact ⟨x, l, rfl, hx, hm, ⟨ps, HS.out.1.ext hb1, rfl⟩, HS.out.2.trans (Only.of_below hb1)⟩
set_option maxRecDepth 100000 in
theorem step_no (b : Nat) (vs : List (List E)) (i : Nat) (by_ nn : Int) (w : World) (h : HistL w b vs i) (hb : (i : Int) + by_ < 0 ∨ (vs.length : Int) ≤ (i : Int) + by_) (hr : -100 ≤ by_ ∧ by_ ≤ 100) :
    Calls Try.prog 44 #[.pointer (some ⟨b, 0, none⟩), .int .i64 by_, .int .i64 nn] w fun e w' => e = .returned (.tuple #[.pointer none, .int .i64 nn]) ∧ Below w.heap.size w w' := by
  obtain ⟨ps, hp, rfl⟩ := h
  rw [List.length_map] at hb
  obtain ⟨a, c, h1, h2, h3⟩ := hp.cells
  have hl := hp.len
  have hi := hp.lt
  have k0 := h1.cell (i := 0) rfl
  have k1 := h1.cell (i := 1) rfl
  clear h1 h2 hp
  by_cases hn : (i : Int) + by_ < 0
  · have d1 : decide ((i : Int) + by_ < 0) = true := by simpa using hn
    clear hb
    go_enter Try.func44, Try.ntmps44
    go_wp2
    go_returns
    exact ⟨rfl, Below.refl _ _⟩
  · obtain ⟨m, hm⟩ : ∃ m : Nat, (i : Int) + by_ = m := ⟨((i : Int) + by_).toNat, by omega⟩
    have d1 : decide ((m : Int) < 0) = false := by simp
    have d2 : decide (ps.length ≤ m) = true := by simp; omega
    have d3 : ps.length ≤ m := by omega
    clear hb hn
    go_enter Try.func44, Try.ntmps44
    go_wp2
    go_returns
    exact ⟨rfl, Below.refl _ _⟩
theorem undo_to (b : Nat) (vs : List (List E)) (i : Nat) (w : World) (h : HistL w b vs (i + 1)) :
    Calls Try.prog 18 #[.pointer (some ⟨b, 0, none⟩)] w fun e w' => ∃ c l, e = .returned (.tuple #[.pointer (some ⟨c, 0, none⟩), .int .i64 0]) ∧ vs[i]? = some l ∧ MapL w' c l ∧ HistL w' b vs i ∧ Only b w w' := by
  have hs := Lib.hid (step_to b vs (i + 1) i (-1) 111 w h (by have := h.facts.1; omega) (by omega))
  clear h
  go_enter Try.func18, Try.ntmps18
  go_wp2_with (go_at_call 44; refine hs.out.mono ?_; rintro e w1 ⟨c, l, rfl, h1, h2, h3, h4⟩)
  go_returns
  exact ⟨c, l, rfl, h1, h2, h3, h4⟩
theorem undo_no (b : Nat) (vs : List (List E)) (w : World) (h : HistL w b vs 0) :
    Calls Try.prog 18 #[.pointer (some ⟨b, 0, none⟩)] w fun e w' => e = .returned (.tuple #[.pointer none, .int .i64 111]) ∧ Below w.heap.size w w' := by
  have hs := Lib.hid (step_no b vs 0 (-1) 111 w h (.inl (by decide)) (by decide))
  clear h
  go_enter Try.func18, Try.ntmps18
  go_wp2_with (go_at_call 44; refine hs.out.mono ?_; rintro e w1 ⟨rfl, h4⟩)
  go_returns
  exact ⟨rfl, h4⟩
theorem redo_to (b : Nat) (vs : List (List E)) (i : Nat) (w : World) (h : HistL w b vs i) (hi : i + 1 < vs.length) :
    Calls Try.prog 19 #[.pointer (some ⟨b, 0, none⟩)] w fun e w' => ∃ c l, e = .returned (.tuple #[.pointer (some ⟨c, 0, none⟩), .int .i64 0]) ∧ vs[i + 1]? = some l ∧ MapL w' c l ∧ HistL w' b vs (i + 1) ∧ Only b w w' := by
  have hs := Lib.hid (step_to b vs i (i + 1) 1 112 w h hi (by omega))
  clear h
  go_enter Try.func19, Try.ntmps19
  go_wp2_with (go_at_call 44; refine hs.out.mono ?_; rintro e w1 ⟨c, l, rfl, h1, h2, h3, h4⟩)
  go_returns
  exact ⟨c, l, rfl, h1, h2, h3, h4⟩
theorem redo_no (b : Nat) (vs : List (List E)) (i : Nat) (w : World) (h : HistL w b vs i) (hi : vs.length ≤ i + 1) :
    Calls Try.prog 19 #[.pointer (some ⟨b, 0, none⟩)] w fun e w' => e = .returned (.tuple #[.pointer none, .int .i64 112]) ∧ Below w.heap.size w w' := by
  have hs := Lib.hid (step_no b vs i 1 112 w h (.inr (by omega)) (by decide))
  clear h
  go_enter Try.func19, Try.ntmps19
  go_wp2_with (go_at_call 44; refine hs.out.mono ?_; rintro e w1 ⟨rfl, h4⟩)
  go_returns
  exact ⟨rfl, h4⟩
/-- The history h, as a pair. -/
def HistS (w : World) (b : Nat) (h : HS) : Prop := HistL w b h.1 h.2
theorem undo_s (b : Nat) (h : HS) (w : World) (hh : HistS w b h) : Calls Try.prog 18 #[.pointer (some ⟨b, 0, none⟩)] w fun e w' => (∃ v, e = .returned v) ∧ HistS w' b (undoH h) ∧ Only b w w' := by
  obtain ⟨vs, i⟩ := h
  cases i with
  | zero =>
    refine (undo_no b vs w hh).mono ?_
    rintro e w' ⟨rfl, hb⟩
    exact ⟨⟨_, rfl⟩, HistL.ext hh hb, Only.of_below hb⟩
  | succ i =>
    refine (undo_to b vs i w hh).mono ?_
    rintro e w' ⟨c, l, rfl, _, _, h3, h4⟩
    exact ⟨⟨_, rfl⟩, h3, h4⟩
theorem redo_s (b : Nat) (h : HS) (w : World) (hh : HistS w b h) : Calls Try.prog 19 #[.pointer (some ⟨b, 0, none⟩)] w fun e w' => (∃ v, e = .returned v) ∧ HistS w' b (redoH h) ∧ Only b w w' := by
  obtain ⟨vs, i⟩ := h
  unfold redoH
  dsimp only
  by_cases hi : i + 1 < vs.length
  · rw [if_pos hi]
    refine (redo_to b vs i w hh hi).mono ?_
    rintro e w' ⟨c, l, rfl, _, _, h3, h4⟩
    exact ⟨⟨_, rfl⟩, h3, h4⟩
  · rw [if_neg hi]
    refine (redo_no b vs i w hh (by omega)).mono ?_
    rintro e w' ⟨rfl, hb⟩
    exact ⟨⟨_, rfl⟩, HistL.ext hh hb, Only.of_below hb⟩
set_option maxRecDepth 100000 in
theorem forget_no (b : Nat) (vs : List (List E)) (i : Nat) (n : Int) (w : World) (h : HistL w b vs i) (hn : n < 0 ∨ (i : Int) < n) :
    Calls Try.prog 21 #[.pointer (some ⟨b, 0, none⟩), .int .i64 n] w fun e w' => e = .returned (.int .i64 113) ∧ Below w.heap.size w w' := by
  obtain ⟨ps, hp, rfl⟩ := h
  obtain ⟨a, c, h1, h2, h3⟩ := hp.cells
  have k1 := h1.cell (i := 1) rfl
  clear h1 h2 hp
  by_cases h0 : n < 0
  · have d1 : decide (n < 0) = true := by simpa using h0
    go_enter Try.func21, Try.ntmps21
    go_wp2
    go_returns
    exact ⟨rfl, Below.refl _ _⟩
  · have d1 : decide (n < 0) = false := by simpa using h0
    have h4 : (i : Int) < n := by omega
    have d2 : decide ((i : Int) < n) = true := by simpa using h4
    go_enter Try.func21, Try.ntmps21
    go_wp2
    go_returns
    exact ⟨rfl, Below.refl _ _⟩
set_option maxRecDepth 100000 in
theorem forget_to (b : Nat) (vs : List (List E)) (i m : Nat) (w : World) (h : HistL w b vs i) (hm : m ≤ i) :
    Calls Try.prog 21 #[.pointer (some ⟨b, 0, none⟩), .int .i64 (m : Nat)] w fun e w' => e = .returned (.int .i64 0) ∧ HistL w' b (vs.drop m) (i - m) ∧ Only b w w' := by
  obtain ⟨ps, hp, rfl⟩ := h
  have HP := Lib.hid hp
  obtain ⟨a, c, h1, h2, h3⟩ := hp.cells
  have hi := hp.lt
  have hl := hp.len
  have hd := rd_drop h2 m (by omega) h3
  rw [if_neg (by omega : ¬ c = m)] at hd
  obtain ⟨a', c', hs, hnil | ⟨g, off, rfl, hg, hc⟩⟩ := h2
  · subst hnil; simp at hi
  simp only [Value.slice.injEq, true_and] at hs
  obtain ⟨rfl, rfl⟩ := hs
  have hadd : Option.map (fun x : Addr => x.add (m * 1)) (some ⟨g, off, none⟩) = some ⟨g, off + m, none⟩ := by
    simp only [Option.map_some, Addr.add, Nat.mul_one]
    by_cases h0 : m = 0 <;> simp [h0]
  rw [hadd] at hd
  have k0 := h1.cell (i := 0) rfl
  have k1 := h1.cell (i := 1) rfl
  have hcl := Lib.hid (clone_any _ (ps.drop m) w hd (by intro e; have := congrArg List.length e; rw [List.length_drop] at this; simp at this; omega) (by simp; omega))
  have H1 := Lib.hid h1
  have d1 : decide ((m : Int) < 0) = false := by simp
  have d2 : decide ((i : Int) < (m : Int)) = false := by simp; omega
  have d3 : decide (i < m) = false := by simp; omega
  have hcm : ¬ c = m := by omega
  clear hp hd h1 hc
  go_enter Try.func21, Try.ntmps21
  go_wp2_with fail
  refine hcl.out.mono ?_
  rintro e w1 ⟨v', rfl, ho, hb1⟩
  have hh := H1.out.ext hb1
  have q0 := hh.cell (i := 0) rfl
  have q1 := hh.cell (i := 1) rfl
  have qf := hh.free 0
  have qf1 := hh.free 1
  have hsub : ((i - m : Nat) : Int) = (i : Int) - (m : Int) := by omega
  have hput := hist_put (j := i - m) hh ho (Nat.lt_of_lt_of_le H1.out.lt (Nat.le_refl _)) (fun p hp => (HP.out.maps p (List.mem_of_mem_drop hp)).ext hb1) (fun p hp => HP.out.small p (List.mem_of_mem_drop hp)) (by simp; omega) (by simp; omega)
  rw [hsub] at hput
  obtain ⟨z1, z2, hv', hz⟩ := own_fits ho
  subst hv'
  rw [List.length_drop] at hput
  have PUT := Lib.hid hput
  have HB1 := Lib.hid hb1
  clear hput hsub hh ho hb1 k0 k1 hcl
  go_wp2
  go_returns
  exact ⟨rfl, ⟨ps.drop m, PUT.out.1, by rw [List.map_drop]⟩, (Only.of_below HB1.out).trans PUT.out.2⟩
theorem forget_s (b : Nat) (h : HS) (n : Int) (w : World) (hh : HistS w b h) : Calls Try.prog 21 #[.pointer (some ⟨b, 0, none⟩), .int .i64 n] w fun e w' => e = .returned (.int .i64 (if n < 0 ∨ (h.2 : Int) < n then 113 else 0)) ∧ HistS w' b (forgetH h n) ∧ Only b w w' := by
  obtain ⟨vs, i⟩ := h
  unfold forgetH
  dsimp only
  by_cases hn : n < 0 ∨ (i : Int) < n
  · rw [if_pos hn, if_pos hn]
    refine (forget_no b vs i n w hh hn).mono ?_
    rintro e w' ⟨rfl, hb⟩
    exact ⟨rfl, HistL.ext hh hb, Only.of_below hb⟩
  · rw [if_neg hn, if_neg hn]
    obtain ⟨m, rfl⟩ : ∃ m : Nat, n = m := ⟨n.toNat, by omega⟩
    rw [Int.toNat_natCast]
    refine (forget_to b vs i m w hh (by omega)).mono ?_
    rintro e w' ⟨rfl, h1, h2⟩
    exact ⟨rfl, h1, h2⟩
theorem push_full (b : Nat) (vs : List (List E)) (i : Nat) (v : Value) (w : World) (h : HistL w b vs i) (hi : 32 ≤ i) :
    Calls Try.prog 14 #[.pointer (some ⟨b, 0, none⟩), v] w fun e w' => e = .returned (.int .i64 110) ∧ Below w.heap.size w w' := by
  obtain ⟨ps, hp, rfl⟩ := h
  obtain ⟨a, c, h1, h2, h3⟩ := hp.cells
  have k1 := h1.cell (i := 1) rfl
  have d1 : decide ((32 : Int) ≤ (i : Int)) = true := by simp; omega
  have d2 : decide (32 ≤ i) = true := by simpa using hi
  clear h1 h2 hp
  go_enter Try.func14, Try.ntmps14
  go_wp2
  go_returns
  exact ⟨rfl, Below.refl _ _⟩
set_option maxRecDepth 100000 in
set_option maxHeartbeats 800000 in
theorem push_to (b : Nat) (vs : List (List E)) (i : Nat) (v : Value) (l : List E) (w : World) (h : HistL w b vs i) (hi : i < 32) (hv : MapV w v l) (hl : l.length ≤ 200) :
    Calls Try.prog 14 #[.pointer (some ⟨b, 0, none⟩), v] w fun e w' => e = .returned (.int .i64 0) ∧ HistL w' b (vs.take (i + 1) ++ [l]) (i + 1) ∧ Only b w w' := by
  obtain ⟨ps, hp, rfl⟩ := h
  have HP := Lib.hid hp
  obtain ⟨a, c, h1, h2, h3⟩ := hp.cells
  have hil := hp.lt
  have hpl := hp.len
  have ht := rd_take h2 (i + 1) (by omega) c
  obtain ⟨a', c', hs, hnil | ⟨g, off, rfl, hg, hc⟩⟩ := h2
  · subst hnil; simp at hil
  simp only [Value.slice.injEq, true_and] at hs
  obtain ⟨rfl, rfl⟩ := hs
  have k0 := h1.cell (i := 0) rfl
  have k1 := h1.cell (i := 1) rfl
  have htl : (ps.take (i + 1)).length = i + 1 := by simp; omega
  have hcl := Lib.hid (clone_any _ (ps.take (i + 1)) w.drew (ht.ext (Below.refl _ _).drew) (by intro e; rw [e] at htl; simp at htl) (by omega))
  have H1 := Lib.hid h1
  have HV := Lib.hid hv
  have d1 : decide ((32 : Int) ≤ (i : Int)) = false := by simp; omega
  have d2 : decide (32 ≤ i) = false := by simp; omega
  clear hp ht h1 hc hv
  go_enter Try.func14, Try.ntmps14
  go_wp2
  refine rgn [0, 1, 2, 3, 4, 5, 6, 7, 8, 9, 10, 12, 11, 13, 14, 15, 16, 17, 18] [9] (ord_fast (by kernel_rfl)) ?_
  simp only [pickL, List.getD_cons_zero, List.getD_cons_succ]
  go_wp2_with fail
  refine hcl.out.mono ?_
  rintro e w1 ⟨v1, rfl, ho1, hb1⟩
  have HO1 := Lib.hid ho1
  have B1 := Lib.hid (below_of_drew hb1)
  have hwh := Lib.hid (whole_any v l w1 (HV.out.ext B1.out))
  clear ho1 hb1 hcl
  go_wp2_with fail
  refine hwh.out.mono ?_
  rintro e w2 ⟨b', rfl, hm2, hb2, hwv⟩
  have HWV := Lib.hid hwv
  clear hwv
  have hal : Below w2.heap.size w2 (w2.alloc (.cells #[.pointer (some ⟨b', 0, none⟩)] 29)) := (Below.refl _ _).alloc (Nat.le_refl _) _
  have HOW := Lib.hid ((HO1.out.below hb2).below hal)
  have B2 := Lib.hid (B1.out.trans ((hb2.trans (hal.mono hb2.size)).mono B1.out.size))
  have hbl : Holds (w2.alloc (.cells #[.pointer (some ⟨b', 0, none⟩)] 29)) w2.heap.size [.pointer (some ⟨b', 0, none⟩)] := Holds.alloc w2 [.pointer (some ⟨b', 0, none⟩)] _
  have hrd : Rd (w2.alloc (.cells #[.pointer (some ⟨b', 0, none⟩)] 29)) 1 encP (.slice (some ⟨w2.heap.size, 0, none⟩) 1 1) [(b', l)] := by
    refine ⟨_, _, rfl, .inr ⟨w2.heap.size, 0, rfl, by simp, fun i x j u hi hj => ?_⟩⟩
    match i, hi with
    | 0, hi =>
      cases hi
      match j, hj with
      | 0, hj =>
        cases hj
        exact hbl.cell (i := 0) rfl
      | j + 1, hj => simp [encP] at hj
    | i + 1, hi => simp at hi
  have HRD := Lib.hid hrd
  have HM2 := Lib.hid (hm2.ext hal)
  have HAL := Lib.hid hal
  have hle := B2.out.size
  have HLE := Lib.hid hle
  have fin : ∀ W, Below w.heap.size (w2.alloc (.cells #[.pointer (some ⟨b', 0, none⟩)] 29)) W → Holds W b (hCells (.slice (some ⟨g, off, none⟩) ps.length c) (i : Nat)) := fun W hW => H1.out.ext (B2.out.trans hW)
  have FIN := Lib.hid fin
  clear hal hb2 hbl hrd hm2 hwh B1 fin k0 k1 hle
  have hrow := HOW.out.row
  rw [htl] at hrow
  obtain ⟨y3, y4, hv1⟩ := row_shape hrow
  subst hv1
  have HROW := Lib.hid hrow
  clear hrow
  go_wp2_with (refine wpList_app_ptrs rfl _ _ rfl w.heap.size _ _ _ [(b', l)] HROW.out rfl _ _ _ rfl HRD.out (by simp) (by show i + 1 + 1 ≤ 1000000; omega) HLE.out ?_; intro v3 W3 ho3 hn3 hq3 hg3; obtain ⟨y1, y2, hv3⟩ := row_shape ho3; subst hv3; have HO3 := Lib.hid ho3; have HN3 := Lib.hid hn3; have HQ3 := Lib.hid hq3; have HG3 := Lib.hid hg3; have q0 := (FIN.out W3 hq3).cell (i := 0) rfl; have q1 := (FIN.out W3 hq3).cell (i := 1) rfl; have qf := (FIN.out W3 hq3).free 0; have qf1 := (FIN.out W3 hq3).free 1; clear ho3 hn3 hq3 hg3)
  refine ⟨rfl, ?_⟩
  have hmap : MapL W3 b' l := by
    rcases HWV.out with ⟨hvb⟩ | ⟨rfl, hge, hhb⟩
    · rcases HV.out with ⟨b0, hv0, hm0⟩ | ⟨hv0, _⟩
      · rw [hvb] at hv0
        cases hv0
        exact hm0.ext (B2.out.trans HQ3.out)
      · rw [hvb] at hv0
        cases hv0
    · refine ⟨Tr.nil, ⟨?_, trivial⟩, rfl⟩
      have h0 := hhb.ext HAL.out
      obtain ⟨ty, h1⟩ := h0
      refine ⟨ty, (HG3.out.block b' ?_ ?_).trans h1⟩
      · exact (Array.getElem?_eq_some_iff.1 h1).1
      · intro e
        have := (HO1.out.row.lt b' e.symm).2
        omega
  have hps : ∀ p ∈ ps.take (i + 1) ++ [(b', l)], MapL W3 p.1 p.2 := by
    intro p hp
    rcases List.mem_append.1 hp with h | h
    · exact (HP.out.maps p (List.mem_of_mem_take h)).ext (B2.out.trans HQ3.out)
    · rw [List.mem_singleton] at h
      subst h
      exact hmap
  have hsm : ∀ p ∈ ps.take (i + 1) ++ [(b', l)], p.2.length ≤ 200 := by
    intro p hp
    rcases List.mem_append.1 hp with h | h
    · exact HP.out.small p (List.mem_of_mem_take h)
    · rw [List.mem_singleton] at h
      subst h
      exact hl
  have hlq : (ps.take (i + 1) ++ [(b', l)]).length = i + 1 + 1 := by rw [List.length_append, htl]; rfl
  have hown : Own W3 w.heap.size 29 1 encP (.slice y1 (i + 1 + 1) y2) (ps.take (i + 1) ++ [(b', l)]) := by
    refine ⟨?_, ?_⟩
    · rw [hlq, List.flatMap_append]
      exact HO3.out
    · exact ⟨fun e => absurd e HN3.out, fun e => by have := congrArg List.length e; rw [hlq] at this; simp at this⟩
  have hput := hist_put (j := i + 1) (FIN.out W3 HQ3.out) hown H1.out.lt hps hsm (by rw [hlq]; omega) (by rw [hlq]; omega)
  have PUT := Lib.hid hput
  have HB3 := Lib.hid (B2.out.trans HQ3.out)
  clear hmap hps hsm hlq hown hput HROW HOW HRD HM2 HO3 HN3 HG3 HWV HAL HV HO1
  go_wp2
  go_returns
  exact ⟨rfl, ⟨_, PUT.out.1, by rw [List.map_append, List.map_take]; rfl⟩, (Only.of_below HB3.out).trans PUT.out.2⟩
end Go.Proofs.Ytmhhejpokgdjoaa
