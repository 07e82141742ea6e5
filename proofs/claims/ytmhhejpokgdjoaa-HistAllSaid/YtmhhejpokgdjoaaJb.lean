/- The walks of the reference's history: whole, New, Now, Depth, Undo, Redo, Version. -/
import Derived.Test.YtmhhejpokgdjoaaJa
namespace Go.Proofs.Ytmhhejpokgdjoaa
open Go Go.RowKit
set_option linter.unusedVariables false
set_option linter.unusedSimpArgs false

theorem info_rm : (Try.prog.info? 104).map (fun i => (i.zero, i.size, i.bytes)) = some (some (.pointer none), 1, 8) := by kernel_rfl
theorem und_rms : Try.prog.underlying 114 = some (.slice 104) := by kernel_rfl
/-- The append of pointers that another slice holds. -/
theorem wpList_app_rptrs {ops : Array Oper} {rest : List Oper} {o : Oper} {a : Act} {w : World} {Q : Exit → Act → World → Prop} (hgd : o.guard = none) (s x : Operand)
    (ho : o.op = .call { callee := .builtin .append, args := #[s, x], argTypes := #[114, 114] })
    (base : Nat) (v : Value) (n : Nat) (xs : List Value) (m : List (Nat × List E)) (hown : w.ownsRow base 104 1 v n xs) (hs : a.eval s = v)
    (ad : Addr) (k c : Nat) (hx : a.eval x = .slice (some ad) k c) (hrd : Rd w 1 encP (.slice (some ad) k c) m) (hm : m ≠ []) (hn : n + m.length ≤ 1000000) (hbase : base ≤ w.heap.size)
    (h : ∀ v' W, W.ownsRow base 104 1 v' (n + m.length) (xs ++ m.flatMap encP) → v' ≠ .slice none 0 0 → Below base w W → w.grownBy W v.ownBlock → wpList Try.prog ops Q rest (a.put o.dst v') W) :
    wpList Try.prog ops Q (o :: rest) a w := by
  obtain ⟨i0, hi, hz0, hz1, hz2⟩ := info_parts info_rm
  obtain ⟨hk, hc⟩ := rd_cells1 hrd
  subst hk
  refine wpList_append_own w hgd s x _ ho base 104 i0 _ 1 8 und_rms hi hz0 hz1 hz2 rfl (by omega) v n xs hs hown ad m.length c (m.flatMap encP) hx ?_ hc ?_ (by simp only [maxLen]; omega) (by omega) hbase ?_
  · rw [flatP_len]; omega
  · intro u hu
    obtain ⟨x, _, hx⟩ := List.mem_flatMap.1 hu
    simp only [encP, List.mem_singleton] at hx
    rw [hx]; rfl
  · intro v' W h2 h3 h4
    refine h v' W h2 ?_ ⟨h3.os, h3.tape, h3.output, h3.size, fun k hk => h3.block k (Nat.lt_of_lt_of_le hk hbase) (fun e => by have := (hown.lt k e.symm).1; omega)⟩ h3
    intro e
    have := (h4.1 e).2
    exact hm (List.length_eq_zero_iff.1 this)
theorem eql_rm_nil (a : Addr) (w : World) : (binOp .eql 104 (.pointer (some a)) (.pointer none)).run Try.prog w = .ok (.bool false) w := by
  have hp : Try.prog.underlying 104 = some (.pointer 147) := by kernel_rfl
  have h : ∀ d : Nat, (Op.equalIn (d + 1) 104 (.pointer (some a)) (.pointer none)).run Try.prog w = .ok false w := fun d => by
    simp [Op.equalIn, run_underlying hp]
  simp only [binOp]
  simp [Op.equal, Op.maxDepth, h 9999]
theorem eql_rm_nn (w : World) : (binOp .eql 104 (.pointer none) (.pointer none)).run Try.prog w = .ok (.bool true) w := by
  have hp : Try.prog.underlying 104 = some (.pointer 147) := by kernel_rfl
  have h : ∀ d : Nat, (Op.equalIn (d + 1) 104 (.pointer none) (.pointer none)).run Try.prog w = .ok true w := fun d => by
    simp [Op.equalIn, run_underlying hp]
  simp only [binOp]
  simp [Op.equal, Op.maxDepth, h 9999]
/-- A map of the reference, or none for the empty one. -/
def RefV (w : World) (v : Value) (l : List E) : Prop := (∃ b, v = .pointer (some ⟨b, 0, none⟩) ∧ RefL w b l) ∨ (v = .pointer none ∧ l = [])
theorem RefV.ext {w w' : World} {v : Value} {l : List E} (h : RefV w v l) (hb : Below w.heap.size w w') : RefV w' v l := h.imp (fun ⟨b, h1, h2⟩ => ⟨b, h1, h2.ext hb⟩) id
def nilsC : List Value := [.slice none 0 0, .slice none 0 0, .slice none 0 0]
theorem refL_nils {w : World} {b : Nat} (h : Holds w b nilsC) : RefL w b [] := ⟨[], ⟨⟨none, 0, none, 0, none, 0, h, rd_nil _ _ _, rd_nil _ _ _, rd_nil _ _ _⟩, by simp⟩, rfl, List.Pairwise.nil⟩
theorem rempty_h (w : World) : Calls Try.prog 69 #[] w fun e w' => e = .returned (.pointer (some ⟨w.heap.size, 0, none⟩)) ∧ Holds w' w.heap.size nilsC ∧ Below w.heap.size w w' := by
  have hb := Holds.alloc w [.slice none 0 0, .slice none 0 0, .slice none 0 0] 147
  have hba : Below w.heap.size w (w.alloc (.cells #[.slice none 0 0, .slice none 0 0, .slice none 0 0] 147)) := (Below.refl _ _).alloc (Nat.le_refl _) _
  have HB := Lib.hid hb
  have HBA := Lib.hid hba
  clear hb hba
  go_enter Try.func69, Try.ntmps69
  go_wp2
  go_returns
  exact ⟨rfl, HB.out, HBA.out⟩
theorem rwhole_any (v : Value) (l : List E) (w : World) (h : RefV w v l) : Calls Try.prog 68 #[v] w fun e w' => ∃ b, e = .returned (.pointer (some ⟨b, 0, none⟩)) ∧ RefL w' b l ∧ Below w.heap.size w w' ∧ (v = .pointer (some ⟨b, 0, none⟩) ∨ (l = [] ∧ w.heap.size ≤ b ∧ Holds w' b nilsC)) := by
  rcases h with ⟨b, rfl, hm⟩ | ⟨rfl, rfl⟩
  · have HM := Lib.hid hm
    have hE := fun W => eql_rm_nil ⟨b, 0, none⟩ W
    clear hm
    go_enter Try.func68, Try.ntmps68
    go_wp2
    go_returns
    exact ⟨b, rfl, HM.out, Below.refl _ _, .inl rfl⟩
  · have hE := fun W => eql_rm_nn W
    go_enter Try.func68, Try.ntmps68
    go_wp2_with (go_at_call 69; refine (rempty_h _).mono ?_; rintro e w1 ⟨rfl, h1, h2⟩)
    go_returns
    exact ⟨w.heap.size, rfl, refL_nils h1, h2, .inr ⟨by trivial, Nat.le_refl _, h1⟩⟩
theorem rnew_any (v : Value) (l : List E) (w : World) (h : RefV w v l) (hl : l.length ≤ 200) : Calls Try.prog 48 #[v] w fun e w' => ∃ b, e = .returned (.pointer (some ⟨b, 0, none⟩)) ∧ RHistL w' b [l] 0 ∧ w.heap.size ≤ b ∧ Below w.heap.size w w' := by
  have HW := Lib.hid (rwhole_any v l w h)
  clear h
  go_enter Try.func48, Try.ntmps48
  go_wp2_with (go_at_call 68; refine HW.out.mono ?_; rintro e w1 ⟨b, rfl, h1, h2, _⟩)
  go_returns
  have e0 := Below.refl w1.heap.size w1
  have e1 := e0.alloc (Nat.le_refl _) (.cells #[.pointer (some ⟨b, 0, none⟩)] 104)
  have e2 := e1.alloc (by simp) (.cells #[.slice (some ⟨w1.heap.size, 0, none⟩) 1 1, .int .i64 0] 116)
  refine ⟨w1.heap.size + 1, rfl, ⟨[(b, l)], ⟨⟨some ⟨w1.heap.size, 0, none⟩, 1, ?_, ?_, Nat.le_refl _⟩, ?_, ?_, Nat.one_pos, by simp⟩, rfl⟩, by have := h2.size; omega, h2.trans (e2.mono h2.size)⟩
  · have := Holds.alloc (w1.alloc (.cells #[.pointer (some ⟨b, 0, none⟩)] 104)) (hCells (.slice (some ⟨w1.heap.size, 0, none⟩) 1 1) 0) 116
    rw [World.size_alloc] at this
    exact this
  · refine ⟨_, _, rfl, .inr ⟨w1.heap.size, 0, rfl, by simp; omega, fun i x j u hi hj => ?_⟩⟩
    have hh : Holds ((w1.alloc (.cells #[.pointer (some ⟨b, 0, none⟩)] 104)).alloc (.cells #[.slice (some ⟨w1.heap.size, 0, none⟩) 1 1, .int .i64 0] 116)) w1.heap.size [.pointer (some ⟨b, 0, none⟩)] :=
      (Holds.alloc w1 [.pointer (some ⟨b, 0, none⟩)] 104).ext ((Below.refl _ _).alloc (Nat.le_refl _) _)
    match i, hi with
    | 0, hi =>
      cases hi
      match j, hj with
      | 0, hj =>
        cases hj
        exact hh.cell (i := 0) rfl
      | j + 1, hj => simp [encP] at hj
    | i + 1, hi => simp at hi
  · intro p hp
    rw [List.mem_singleton] at hp
    subst hp
    exact h1.ext e2
  · intro p hp
    rw [List.mem_singleton] at hp
    subst hp
    exact hl
set_option maxRecDepth 100000 in
theorem rnow_any (b : Nat) (vs : List (List E)) (i : Nat) (w : World) (h : RHistL w b vs i) : Calls Try.prog 55 #[.pointer (some ⟨b, 0, none⟩)] w fun e w' => ∃ c l, e = .returned (.pointer (some ⟨c, 0, none⟩)) ∧ vs[i]? = some l ∧ RefL w' c l ∧ Below w.heap.size w w' := by
  obtain ⟨ps, hp, rfl⟩ := h
  obtain ⟨a, c, h1, h2, h3⟩ := hp.cells
  have hi := hp.lt
  have e1 : ps[i]? = some ps[i] := List.getElem?_eq_getElem hi
  have hm := hp.maps ps[i] (List.getElem_mem hi)
  have hv : (ps.map (·.2))[i]? = some ps[i].2 := by rw [List.getElem?_map, e1]; rfl
  generalize ps[i] = p at e1 hm hv
  obtain ⟨a', c', hs, hnil | ⟨g, off, rfl, hg, hc⟩⟩ := h2
  · subst hnil; simp at hi
  simp only [Value.slice.injEq, true_and] at hs
  obtain ⟨rfl, rfl⟩ := hs
  have k0 := h1.cell (i := 0) rfl
  have k1 := h1.cell (i := 1) rfl
  have k2 := hc i p 0 _ e1 rfl
  simp only [Nat.mul_one, Nat.add_zero] at k2
  have HM := Lib.hid hm
  have HV := Lib.hid hv
  clear h1 hm hc hp e1 hv
  go_enter Try.func55, Try.ntmps55
  go_wp2
  refine rgn [0, 1, 2, 3, 4, 5, 6, 7, 8, 9, 10] [] (by kernel_rfl) ?_
  simp only [pickL, List.getD_cons_zero, List.getD_cons_succ]
  go_wp2
  refine ⟨rfl, ?_⟩
  go_wp2
  go_returns
  exact ⟨p.1, p.2, rfl, HV.out, HM.out.ext (Below.refl _ _).drew, (Below.refl _ _).drew⟩
set_option maxRecDepth 100000 in
theorem rdepth_any (b : Nat) (vs : List (List E)) (i : Nat) (w : World) (h : RHistL w b vs i) : Calls Try.prog 59 #[.pointer (some ⟨b, 0, none⟩)] w fun e w' => e = .returned (.tuple #[.int .i64 (i : Nat), .int .i64 ((vs.length - 1 - i : Nat) : Int)]) ∧ Below w.heap.size w w' := by
  obtain ⟨ps, hp, rfl⟩ := h
  obtain ⟨a, c, h1, h2, h3⟩ := hp.cells
  have hi := hp.lt
  have hl := hp.len
  have k0 := h1.cell (i := 0) rfl
  have k1 := h1.cell (i := 1) rfl
  have hd : ((ps.length - 1 - i : Nat) : Int) = (ps.length : Int) - 1 - (i : Int) := by omega
  rw [List.length_map, hd]
  clear h1 h2 hp hd
  go_enter Try.func59, Try.ntmps59
  go_wp2
  refine rgn [0, 1, 2, 3, 4, 5, 6, 7, 8, 9, 10, 11, 12, 13, 14, 15, 16] [8, 9, 14] (by kernel_rfl) ?_
  simp only [pickL, List.getD_cons_zero, List.getD_cons_succ]
  go_wp2
  refine ⟨by simp [chkD, dyn, Region.wanted, yielded, Act.eval, scalarV], ?_⟩
  go_wp2
  go_returns
  exact ⟨rfl, (Below.refl _ _).drew⟩
theorem RHistP.setAt {w : World} {b i j : Nat} {ps : List (Nat × List E)} (h : RHistP w b ps i) (hj : j < ps.length) : RHistP (w.setCell ⟨b, 1, none⟩ (.int .i64 (j : Nat))) b ps j ∧ Only b w (w.setCell ⟨b, 1, none⟩ (.int .i64 (j : Nat))) := by
  obtain ⟨a, c, h1, h2, h3⟩ := h.cells
  have ho : Only b w (w.setCell ⟨b, 1, none⟩ (.int .i64 (j : Nat))) := Only.of_upd (Upd.setCell _)
  refine ⟨⟨⟨a, c, ?_, ho.rd h2 (rd_off h1 h2), h3⟩, fun p hp => (h.maps p hp).only h1 ho, h.small, hj, h.len⟩, ho⟩
  have := h1.setCell (i := 1) (.int .i64 (j : Nat))
  exact this
set_option maxRecDepth 100000 in
theorem rundo_to (b : Nat) (vs : List (List E)) (i : Nat) (w : World) (h : RHistL w b vs (i + 1)) :
    Calls Try.prog 56 #[.pointer (some ⟨b, 0, none⟩)] w fun e w' => ∃ c l, e = .returned (.tuple #[.pointer (some ⟨c, 0, none⟩), .int .i64 0]) ∧ vs[i]? = some l ∧ RefL w' c l ∧ RHistL w' b vs i ∧ Only b w w' := by
  obtain ⟨ps, hp, rfl⟩ := h
  have hi := hp.lt
  obtain ⟨a, c, h1, h2, h3⟩ := hp.cells
  have hl := hp.len
  have hset := hp.setAt (j := i) (by omega)
  have e1 : ps[i]? = some ps[i] := List.getElem?_eq_getElem (by omega)
  have hm := hset.1.maps ps[i] (List.getElem_mem (by omega))
  have hv : (ps.map (·.2))[i]? = some ps[i].2 := by rw [List.getElem?_map, e1]; rfl
  generalize ps[i] = p at e1 hm hv
  obtain ⟨a2, c2, g1, g2, g3⟩ := hset.1.cells
  have hs2 : hCells (.slice a2 ps.length c2) ((i : Nat) : Int) = hCells (.slice a ps.length c) ((i : Nat) : Int) := holds_same g1 (h1.setCell (i := 1) (.int .i64 ((i : Nat) : Int)))
  simp only [hCells, List.cons.injEq, Value.slice.injEq, true_and, and_true] at hs2
  obtain ⟨rfl, rfl⟩ := hs2
  obtain ⟨a', c', hs, hnil | ⟨g, off, rfl, hg, hc⟩⟩ := g2
  · subst hnil; simp at hi
  simp only [Value.slice.injEq, true_and] at hs
  obtain ⟨rfl, rfl⟩ := hs
  have k1 := h1.cell (i := 1) rfl
  have kf := h1.free 1
  have q0 := g1.cell (i := 0) rfl
  have q1 := g1.cell (i := 1) rfl
  have k2 := hc i p 0 _ e1 rfl
  simp only [Nat.mul_one, Nat.add_zero] at k2
  have d0 : (((i + 1 : Nat) : Int) == 0) = false := by simp; omega
  have hsub : Hid (((i + 1 : Nat) : Int) - 1 = (i : Int)) := Lib.hid (by omega)
  have HS := Lib.hid hset
  have HM := Lib.hid hm
  have HV := Lib.hid hv
  clear h1 h2 hp hset g1 hc e1 hm hv
  go_enter Try.func56, Try.ntmps56
  go_wp2
  refine rgn [0, 1, 2, 3, 4, 5, 6, 7, 8, 9, 10, 11] [] (by kernel_rfl) ?_
  simp only [pickL, List.getD_cons_zero, List.getD_cons_succ]
  go_wp2
  try refine ⟨rfl, ?_⟩
  go_wp2
  go_returns
  exact ⟨p.1, p.2, rfl, HV.out, HM.out.ext (Below.refl _ _).drew, ⟨ps, HS.out.1.ext (Below.refl _ _).drew, rfl⟩, HS.out.2.drew⟩
theorem rundo_no (b : Nat) (vs : List (List E)) (w : World) (h : RHistL w b vs 0) :
    Calls Try.prog 56 #[.pointer (some ⟨b, 0, none⟩)] w fun e w' => e = .returned (.tuple #[.pointer none, .int .i64 111]) ∧ Below w.heap.size w w' := by
  obtain ⟨ps, hp, rfl⟩ := h
  obtain ⟨a, c, h1, h2, h3⟩ := hp.cells
  have k1 := h1.cell (i := 1) rfl
  clear h1 h2 hp
  go_enter Try.func56, Try.ntmps56
  go_wp2
  go_returns
  exact ⟨rfl, Below.refl _ _⟩
set_option maxRecDepth 100000 in
theorem rredo_to (b : Nat) (vs : List (List E)) (i : Nat) (w : World) (h : RHistL w b vs i) (hj : i + 1 < vs.length) :
    Calls Try.prog 58 #[.pointer (some ⟨b, 0, none⟩)] w fun e w' => ∃ c l, e = .returned (.tuple #[.pointer (some ⟨c, 0, none⟩), .int .i64 0]) ∧ vs[i + 1]? = some l ∧ RefL w' c l ∧ RHistL w' b vs (i + 1) ∧ Only b w w' := by
  obtain ⟨ps, hp, rfl⟩ := h
  rw [List.length_map] at hj
  obtain ⟨a, c, h1, h2, h3⟩ := hp.cells
  have hl := hp.len
  have hset := hp.setAt (j := i + 1) (by omega)
  have e1 : ps[i + 1]? = some ps[i + 1] := List.getElem?_eq_getElem (by omega)
  have hm := hset.1.maps ps[i + 1] (List.getElem_mem (by omega))
  have hv : (ps.map (·.2))[i + 1]? = some ps[i + 1].2 := by rw [List.getElem?_map, e1]; rfl
  generalize ps[i + 1] = p at e1 hm hv
  obtain ⟨a2, c2, g1, g2, g3⟩ := hset.1.cells
  have hs2 : hCells (.slice a2 ps.length c2) ((i + 1 : Nat) : Int) = hCells (.slice a ps.length c) ((i + 1 : Nat) : Int) := holds_same g1 (h1.setCell (i := 1) (.int .i64 ((i + 1 : Nat) : Int)))
  simp only [hCells, List.cons.injEq, Value.slice.injEq, true_and, and_true] at hs2
  obtain ⟨rfl, rfl⟩ := hs2
  obtain ⟨a', c', hs, hnil | ⟨g, off, rfl, hg, hc⟩⟩ := g2
  · subst hnil; simp at hj
  simp only [Value.slice.injEq, true_and] at hs
  obtain ⟨rfl, rfl⟩ := hs
  have k0 := h1.cell (i := 0) rfl
  have k1 := h1.cell (i := 1) rfl
  have kf := h1.free 1
  have q0 := g1.cell (i := 0) rfl
  have q1 := g1.cell (i := 1) rfl
  have k2 := hc (i + 1) p 0 _ e1 rfl
  simp only [Nat.mul_one, Nat.add_zero] at k2
  have d0 : (((i : Nat) : Int) + 1 == (ps.length : Int)) = false := by simp; omega
  have hsub : Hid (((i + 1 : Nat) : Int) = (i : Int) + 1) := Lib.hid (by omega)
  rw [hsub.out] at q0 q1 k2 hset
  have ht : ((i : Int) + 1).toNat = i + 1 := by omega
  have HS := Lib.hid hset
  have HM := Lib.hid hm
  have HV := Lib.hid hv
  clear h1 h2 hp hset g1 hc e1 hm hv
  go_enter Try.func58, Try.ntmps58
  go_wp2
  refine rgn [0, 1, 2, 3, 4, 5, 6, 7, 8, 9, 10] [4, 9, 10] (by kernel_rfl) ?_
  simp only [pickL, List.getD_cons_zero, List.getD_cons_succ]
  go_wp2
  try refine ⟨by first | rfl | kernel_rfl | (simp [chkD, dyn, Region.wanted, yielded, Act.eval, scalarV]), ?_⟩
  go_wp2
  refine rgn [0, 1, 2, 3, 4, 5, 6, 7, 8, 9, 10, 11] [] (by kernel_rfl) ?_
  simp only [pickL, List.getD_cons_zero, List.getD_cons_succ]
  go_wp2
  try refine ⟨rfl, ?_⟩
  go_wp2
  go_returns
  exact ⟨p.1, p.2, rfl, HV.out, HM.out.ext (Below.refl _ _).drew.drew, ⟨ps, HS.out.1.ext (Below.refl _ _).drew.drew, rfl⟩, HS.out.2.drew.drew⟩
set_option maxRecDepth 100000 in
theorem rredo_no (b : Nat) (vs : List (List E)) (i : Nat) (w : World) (h : RHistL w b vs i) (hi : vs.length ≤ i + 1) :
    Calls Try.prog 58 #[.pointer (some ⟨b, 0, none⟩)] w fun e w' => e = .returned (.tuple #[.pointer none, .int .i64 112]) ∧ Below w.heap.size w w' := by
  obtain ⟨ps, hp, rfl⟩ := h
  rw [List.length_map] at hi
  obtain ⟨a, c, h1, h2, h3⟩ := hp.cells
  have hl := hp.len
  have hlt := hp.lt
  have k0 := h1.cell (i := 0) rfl
  have k1 := h1.cell (i := 1) rfl
  have d0 : (((i : Nat) : Int) + 1 == (ps.length : Int)) = true := by simp; omega
  clear h1 h2 hp
  go_enter Try.func58, Try.ntmps58
  go_wp2
  refine rgn [0, 1, 2, 3, 4, 5, 6, 7, 8, 9, 10] [4, 9, 10] (by kernel_rfl) ?_
  simp only [pickL, List.getD_cons_zero, List.getD_cons_succ]
  go_wp2
  try refine ⟨by first | rfl | kernel_rfl | (simp [chkD, dyn, Region.wanted, yielded, Act.eval, scalarV]), ?_⟩
  go_wp2
  go_returns
  exact ⟨rfl, (Below.refl _ _).drew⟩
end Go.Proofs.Ytmhhejpokgdjoaa
