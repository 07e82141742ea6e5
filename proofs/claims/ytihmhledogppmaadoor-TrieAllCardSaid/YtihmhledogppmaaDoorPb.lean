/- The block of a play, and its two rows; the walks of joins and begin. -/
import Derived.Test.YtihmhledogppmaaDoorPa
import Derived.Test.YtihmhledogppmaaDoorKe
import Derived.Test.YtihmhledogppmaaDoorRi
namespace Go.Proofs.YtihmhledogppmaaDoor
open Go Go.RowKit
set_option linter.unusedVariables false
set_option linter.unusedSimpArgs false

theorem info_refp : (Tryd.prog.info? 93).map (fun i => (i.zero, i.size, i.bytes)) = some (some (.pointer none), 1, 8) := by kernel_rfl
theorem und_refps : Tryd.prog.underlying 95 = some (.slice 93) := by kernel_rfl
theorem encP_one (b : Nat) : ∀ u ∈ encP b, u.oneCell' = true := by
  intro u hu
  simp only [encP, List.mem_singleton] at hu
  subst hu; rfl
/-- The play in block P: its rows hold these maps; S are the blocks that may turn. -/
structure Play (B : Nat) (S : List Nat) (w : World) (P : Nat) (gv wv : Value) (bs cs : List Nat) : Prop where
  cells : Holds w P [gv, wv]
  got : Own w B 24 1 encP gv bs
  want : Own w B 93 1 encP wv cs
  gS : ∃ g, gv.ownBlock = some g ∧ g ∈ S ∧ g ≠ P
  wS : ∃ g, wv.ownBlock = some g ∧ g ∈ S ∧ g ≠ P
  PS : P ∈ S
  lt : ∀ k ∈ S, k < w.heap.size
  lo : B ≤ P ∧ B ≤ w.heap.size
theorem Play.ext {B P : Nat} {S : List Nat} {w W : World} {gv wv : Value} {bs cs : List Nat} (h : Play B S w P gv wv bs cs) (hb : Below w.heap.size w W) : Play B S W P gv wv bs cs :=
  ⟨h.cells.ext hb, h.got.below hb, h.want.below hb, h.gS, h.wS, h.PS, fun k hk => Nat.lt_of_lt_of_le (h.lt k hk) hb.size, h.lo.1, Nat.le_trans h.lo.2 hb.size⟩
theorem Own.updN {α : Type} {w w' : World} {base g : Nat} {ty : TypeId} {s : Nat} {enc : α → List Value} {v : Value} {l : List α} (h : Own w base ty s enc v l) (hu : Upd g w w') (hg : v.ownBlock ≠ some g) : Own w' base ty s enc v l :=
  ⟨h.row.kept (row := some g) ⟨hu.os, hu.tape, hu.output, Nat.le_of_eq hu.size.symm, fun k hk hne => hu.block k (fun e => hne (by rw [e]))⟩ (.inr hg), h.nil⟩
theorem upd_mask {S : List Nat} {w W : World} {g : Nat} (h : Upd g w W) (hg : g ∈ S) : Below (mask S w).heap.size (mask S w) (mask S W) := by
  refine ⟨h.os, h.tape, h.output, by rw [mask_size, mask_size]; exact Nat.le_of_eq h.size.symm, fun k hk => ?_⟩
  rw [mask_get, mask_get]
  by_cases hkS : k ∈ S
  · rw [if_pos hkS, if_pos hkS]
    rw [mask_size] at hk
    have : k < W.heap.size := by rw [h.size]; exact hk
    rw [Array.getElem?_eq_getElem hk, Array.getElem?_eq_getElem this]
    rfl
  · rw [if_neg hkS, if_neg hkS]
    exact h.block k (fun e => hkS (by rw [e]; exact hg))
/-- One map more in the program's row, and the play's cell turned. -/
theorem Play.push_g {B P : Nat} {S : List Nat} {w w1 W : World} {gv gv' wv : Value} {bs cs : List Nat} {m : Nat} (h0 : Play B S w P gv wv bs cs) (hal : Below w.heap.size w w1)
    (hO : Own W B 24 1 encP gv' (bs ++ [m])) (hG : Grew w1 W gv gv') :
    W.cell? ⟨P, 0, none⟩ = some gv ∧ W.frozen? ⟨P, 0, none⟩ = false ∧
    Play B (S ++ gv'.ownBlock.toList) (W.setCell ⟨P, 0, none⟩ gv') P gv' wv (bs ++ [m]) cs ∧ Below (mask S w).heap.size (mask S w) (mask (S ++ gv'.ownBlock.toList) (W.setCell ⟨P, 0, none⟩ gv')) ∧ Below B w (W.setCell ⟨P, 0, none⟩ gv') := by
  have h := h0.ext hal
  obtain ⟨g, hg, hgS, hgP⟩ := h.gS
  obtain ⟨q, hq, hqS, hqP⟩ := h.wS
  have hB := grew_mask hG hg hgS h.lt
  obtain ⟨g', hg'⟩ := own_some hO (by simp)
  have hPlt : P < w1.heap.size := h.cells.lt
  have hgP' : g' ≠ P := by
    rcases hG.at_ with ha | ha
    · rw [ha, hg] at hg'; cases hg'; exact hgP
    · rw [ha] at hg'; cases hg'; omega
  have hne : wv.ownBlock = none ∨ wv.ownBlock ≠ gv.ownBlock := own_two h.want h.got (by decide)
  have hc : Holds W P [gv, wv] := by
    obtain ⟨ty, hc⟩ := h.cells
    exact ⟨ty, (hG.step.block P hPlt (by rw [hg]; intro e; cases e; exact hgP rfl)).trans hc⟩
  have hU : Upd P W (W.setCell ⟨P, 0, none⟩ gv') := Upd.setCell gv'
  have hBel : Below B w1 W := hG.below h.lo.2 h.got.block
  refine ⟨hc.cell (i := 0) rfl, hc.free 0, ⟨hc.setCell (i := 0) gv', hO.updN hU (by rw [hg']; intro e; cases e; exact hgP' rfl), (h.want.grew hG hne).updN hU (by rw [hq]; intro e; cases e; exact hqP rfl), ⟨g', hg', by simp [hg'], hgP'⟩, ⟨q, hq, List.mem_append_left _ hqS, hqP⟩, List.mem_append_left _ h.PS, ?_, h.lo.1, ?_⟩, ?_, ?_⟩
  · intro k hk
    rw [hU.size]
    exact grew_lt hG hO h.lt k hk
  · rw [hU.size]
    exact Nat.le_trans h.lo.2 hG.step.size
  · have h1 := below_mask hal h0.lt
    have h2 := upd_mask (S := S ++ gv'.ownBlock.toList) hU (List.mem_append_left _ h.PS)
    exact h1.trans ((hB.trans (h2.mono hB.size)).mono h1.size)
  · exact (hal.mono h0.lo.2).trans (hBel.trans (hU.below h.lo.1))
theorem Play.push_w {B P : Nat} {S : List Nat} {w w1 W : World} {gv wv wv' : Value} {bs cs : List Nat} {m : Nat} (h0 : Play B S w P gv wv bs cs) (hal : Below w.heap.size w w1)
    (hO : Own W B 93 1 encP wv' (cs ++ [m])) (hG : Grew w1 W wv wv') :
    W.cell? ⟨P, 1, none⟩ = some wv ∧ W.frozen? ⟨P, 1, none⟩ = false ∧
    Play B (S ++ wv'.ownBlock.toList) (W.setCell ⟨P, 1, none⟩ wv') P gv wv' bs (cs ++ [m]) ∧ Below (mask S w).heap.size (mask S w) (mask (S ++ wv'.ownBlock.toList) (W.setCell ⟨P, 1, none⟩ wv')) ∧ Below B w (W.setCell ⟨P, 1, none⟩ wv') := by
  have h := h0.ext hal
  obtain ⟨g, hg, hgS, hgP⟩ := h.wS
  obtain ⟨q, hq, hqS, hqP⟩ := h.gS
  have hB := grew_mask hG hg hgS h.lt
  obtain ⟨g', hg'⟩ := own_some hO (by simp)
  have hPlt : P < w1.heap.size := h.cells.lt
  have hgP' : g' ≠ P := by
    rcases hG.at_ with ha | ha
    · rw [ha, hg] at hg'; cases hg'; exact hgP
    · rw [ha] at hg'; cases hg'; omega
  have hne : gv.ownBlock = none ∨ gv.ownBlock ≠ wv.ownBlock := own_two h.got h.want (by decide)
  have hc : Holds W P [gv, wv] := by
    obtain ⟨ty, hc⟩ := h.cells
    exact ⟨ty, (hG.step.block P hPlt (by rw [hg]; intro e; cases e; exact hgP rfl)).trans hc⟩
  have hU : Upd P W (W.setCell ⟨P, 1, none⟩ wv') := Upd.setCell wv'
  have hBel : Below B w1 W := hG.below h.lo.2 h.want.block
  refine ⟨hc.cell (i := 1) rfl, hc.free 1, ⟨hc.setCell (i := 1) wv', (h.got.grew hG hne).updN hU (by rw [hq]; intro e; cases e; exact hqP rfl), hO.updN hU (by rw [hg']; intro e; cases e; exact hgP' rfl), ⟨q, hq, List.mem_append_left _ hqS, hqP⟩, ⟨g', hg', by simp [hg'], hgP'⟩, List.mem_append_left _ h.PS, ?_, h.lo.1, ?_⟩, ?_, ?_⟩
  · intro k hk
    rw [hU.size]
    exact grew_lt hG hO h.lt k hk
  · rw [hU.size]
    exact Nat.le_trans h.lo.2 hG.step.size
  · have h1 := below_mask hal h0.lt
    have h2 := upd_mask (S := S ++ wv'.ownBlock.toList) hU (List.mem_append_left _ h.PS)
    exact h1.trans ((hB.trans (h2.mono hB.size)).mono h1.size)
  · exact (hal.mono h0.lo.2).trans (hBel.trans (hU.below h.lo.1))
theorem wpList_app_g {ops : Array Oper} {rest : List Oper} {o : Oper} {a : Act} {w : World} {Q : Exit → Act → World → Prop} (hgd : o.guard = none) (s x : Operand)
    (ho : o.op = .call { callee := .builtin .append, args := #[s, x], argTypes := #[27, 27] })
    (base : Nat) (v : Value) (l : List Nat) (y : Nat) (hown : Own w base 24 1 encP v l) (hs : a.eval s = v)
    (ad : Nat) (hx : a.eval x = .slice (some ⟨ad, 0, none⟩) 1 1) (hrow : Holds w ad (encP y)) (hn : l.length ≤ 4398046511104) (hbase : base ≤ w.heap.size)
    (h : ∀ v' W, Own W base 24 1 encP v' (l ++ [y]) → Grew w W v v' → wpList Tryd.prog ops Q rest (a.put o.dst v') W) :
    wpList Tryd.prog ops Q (o :: rest) a w := by
  obtain ⟨i0, hi, hz0, hz1, hz2⟩ := info_parts info_mapp
  exact wpList_append_one hgd s x _ ho base 24 i0 _ 1 8 und_mapps hi hz0 hz1 hz2 rfl (by omega) encP v l y hs hown ad hx hrow rfl (encP_one y) (by simp only [maxLen]; omega) (by omega) hbase h
theorem wpList_app_r {ops : Array Oper} {rest : List Oper} {o : Oper} {a : Act} {w : World} {Q : Exit → Act → World → Prop} (hgd : o.guard = none) (s x : Operand)
    (ho : o.op = .call { callee := .builtin .append, args := #[s, x], argTypes := #[95, 95] })
    (base : Nat) (v : Value) (l : List Nat) (y : Nat) (hown : Own w base 93 1 encP v l) (hs : a.eval s = v)
    (ad : Nat) (hx : a.eval x = .slice (some ⟨ad, 0, none⟩) 1 1) (hrow : Holds w ad (encP y)) (hn : l.length ≤ 4398046511104) (hbase : base ≤ w.heap.size)
    (h : ∀ v' W, Own W base 93 1 encP v' (l ++ [y]) → Grew w W v v' → wpList Tryd.prog ops Q rest (a.put o.dst v') W) :
    wpList Tryd.prog ops Q (o :: rest) a w := by
  obtain ⟨i0, hi, hz0, hz1, hz2⟩ := info_parts info_refp
  exact wpList_append_one hgd s x _ ho base 93 i0 _ 1 8 und_refps hi hz0 hz1 hz2 rfl (by omega) encP v l y hs hown ad hx hrow rfl (encP_one y) (by simp only [maxLen]; omega) (by omega) hbase h
set_option maxRecDepth 100000 in
theorem joins_any (B P m c : Nat) (S : List Nat) (gv wv : Value) (bs cs : List Nat) (w : World) (h : Play B S w P gv wv bs cs) (hn : bs.length ≤ 4398046511104) (hn2 : cs.length ≤ 4398046511104) :
    Calls Tryd.prog 39 #[.pointer (some ⟨P, 0, none⟩), .pointer (some ⟨m, 0, none⟩), .pointer (some ⟨c, 0, none⟩)] w fun e w' =>
      e = .returned (.bool true) ∧ ∃ gv' wv' S', Play B S' w' P gv' wv' (bs ++ [m]) (cs ++ [c]) ∧ Below (mask S w).heap.size (mask S w) (mask S' w') ∧ Below B w w' := by
  obtain ⟨i1, hi1, ha1, hb1, hc1⟩ := info_parts info_mapp
  obtain ⟨i2, hi2, ha2, hb2, hc2⟩ := info_parts info_refp
  have c0 := h.cells.cell (i := 0) rfl
  have HP := Lib.hid h
  have hlo := h.lo.2
  clear h
  obtain ⟨ga, gc, hgs, _⟩ := own_len HP.out.got
  obtain ⟨wa, wc, hws, _⟩ := own_len HP.out.want
  subst hgs hws
  have HAL : Hid (Below w.heap.size w (w.alloc (.cells (encP m).toArray 24))) := Lib.hid ((Below.refl _ _).alloc (Nat.le_refl _) _)
  have HROW := Lib.hid (Holds.alloc w (encP m) 24)
  have hrow2 : ∀ (W : World) (v : Value), Holds ((W.setCell ⟨P, 0, none⟩ v).alloc (.cells (encP c).toArray 93)) W.heap.size (encP c) := by
    intro W v
    have := Holds.alloc (W.setCell ⟨P, 0, none⟩ v) (encP c) 93
    rwa [show (W.setCell ⟨P, 0, none⟩ v).heap.size = W.heap.size by simp [World.setCell]] at this
  go_enter Tryd.func39, Tryd.ntmps39
  go_wp2_with (first | (at_builtin; refine wpList_app_g rfl _ _ rfl B _ bs m (HP.out.got.below HAL.out) rfl w.heap.size rfl HROW.out hn (by simp; omega) ?_; intro gv' W hO hG; obtain ⟨p1, p2, p3, p4, p5⟩ := HP.out.push_g HAL.out hO hG; have P3 := Lib.hid p3; have P4 := Lib.hid p4; have P5 := Lib.hid p5; obtain ⟨sa', sn', sc', hsv⟩ := hO.shape; subst hsv; have c1 := p3.cells.cell (i := 1) rfl; have hlo2 : B ≤ W.heap.size := (by simpa [World.setCell] using p3.lo.2); have HROW2 := Lib.hid (hrow2 W (.slice sa' sn' sc')); clear HP HROW HAL p3 p4 p5 hG hO c0) | (at_builtin; go_loud (refine wpList_app_r rfl _ _ rfl B _ cs c (P3.out.want.below ((Below.refl _ _).alloc (Nat.le_refl _) _)) rfl _ rfl HROW2.out hn2 (by simp; omega) ?_); intro wv' W2 hO2 hG2; obtain ⟨q1, q2, q3, q4, q5⟩ := P3.out.push_w ((Below.refl _ _).alloc (Nat.le_refl _) _) hO2 hG2; have Q3 := Lib.hid q3; have Q4 := Lib.hid q4; have Q5 := Lib.hid q5; obtain ⟨ta', tn', tc', hsv⟩ := hO2.shape; subst hsv; clear q3 q4 q5 hG2 hO2))
  go_returns
  refine ⟨rfl, _, _, _, Q3.out, ?_, P5.out.trans Q5.out⟩
  exact P4.out.trans (Q4.out.mono P4.out.size)
end Go.Proofs.YtihmhledogppmaaDoor
