/- The walk of the law's taker.change. -/
import Derived.Test.YtihmhledogppmaaDoorDmX
import Derived.Test.YtihmhledogppmaaDoorLaB
namespace Go.Proofs.YtihmhledogppmaaDoor
open Go Go.RowKit
set_option linter.unusedVariables false
set_option linter.unusedSimpArgs false

def encC (c : Ch) : List Value := chCells c.1 c.2.1 c.2.2
theorem encC_len (c : Ch) : (encC c).length = 7 := rfl
theorem info_chg : (Tryd.prog.info? 64).map (fun i => (i.zero, i.size, i.bytes)) = some (some (.agg #[.int .u32 0, .bool false, .bool false, .int .i64 0, .int .i64 0, .int .i64 0, .int .i64 0]), 7, 40) := by kernel_rfl
theorem und_chg : Tryd.prog.underlying 61 = some (.slice 64) := by kernel_rfl
set_option maxRecDepth 100000 in
set_option maxHeartbeats 800000 in
theorem change_any (b base : Nat) (cs : Value) (l : List Ch) (x : Ch) (stop most : Int) (w : World) (h : Holds w b (tkCells (.slice none 0 0) cs stop most l.length false false)) (ho : Own w base 64 7 encC cs l) (hb : b < base) (hbase : base ≤ w.heap.size) (hn : l.length ≤ 8589934600) :
    Calls Tryd.prog 55 #[.pointer (some ⟨b, 0, none⟩), .agg (encC x).toArray] w fun e w' =>
      e = .returned (.bool (!(decide ((l.length : Int) + 1 = stop) || decide (most < (l.length : Int) + 1)))) ∧
      (∃ cs', Holds w' b (tkCells (.slice none 0 0) cs' stop most (l.length + 1 : Nat) (decide ((l.length : Int) + 1 = stop) || decide (most < (l.length : Int) + 1)) false) ∧ Own w' base 64 7 encC cs' (l ++ [x]) ∧ (∀ k, cs'.ownBlock = some k → cs.ownBlock = some k ∨ w.heap.size ≤ k)) ∧ Below b w w' ∧ (∀ k, k < w.heap.size → k ≠ b → cs.ownBlock ≠ some k → w'.heap[k]? = w.heap[k]?) := by
  have h1 := h.cell (i := 1) rfl
  have h5 := h.cell (i := 5) rfl
  have hf0 := h.free 1
  have hlt := h.lt
  obtain ⟨i0, hi, hz0, hz1, hz2⟩ := info_parts info_chg
  have hx0 : Hid (Holds (w.alloc (.cells (encC x).toArray 64)) w.heap.size (encC x)) := Lib.hid (Holds.alloc _ _ _)
  go_enter Tryd.func55, Tryd.ntmps55
  simp only [encC, chCells]
  go_wp2
  refine rgnC [[0, 1, 2, 3, 5, 4, 6], [7], [8, 9]] [] [4] [⟨b, 1, none⟩] 10 (by kernel_rfl) (by simp) ?_ ?_
  · intro p hp
    simp only [List.mem_singleton] at hp
    subst hp
    go_simp
  unfold seg
  simp only [pickL, List.getD_cons_zero, List.getD_cons_succ]
  go_wp2
  have hsame : ∀ (o : Obj) (W : World), Below (b + 1) w W → SameAt [⟨b, 1, none⟩] (w.alloc o) W := by
    intro o W hW p hp
    simp only [List.mem_singleton] at hp
    subst hp
    rw [((Below.refl (b + 1) w).alloc (by omega) _).cell (by simp)]
    exact hW.cell (by simp)
  have fin : ∀ W0 v' W, Below w.heap.size w W0 → Own W base 64 7 encC v' (l ++ [x]) → Grew W0 W cs v' →
      W.cell? ⟨b, 5, none⟩ = some (.bool false) ∧ W.frozen? ⟨b, 1, none⟩ = false ∧ W.cell? ⟨b, 1, none⟩ = some cs ∧ Below (b + 1) w W ∧
      Holds (W.setCell ⟨b, 1, none⟩ v') b (tkCells (.slice none 0 0) v' stop most l.length false false) ∧ Own (W.setCell ⟨b, 1, none⟩ v') base 64 7 encC v' (l ++ [x]) ∧ Below b w (W.setCell ⟨b, 1, none⟩ v') ∧
      (∀ k, v'.ownBlock = some k → cs.ownBlock = some k ∨ w.heap.size ≤ k) ∧ (∀ k, k < w.heap.size → k ≠ b → cs.ownBlock ≠ some k → (W.setCell ⟨b, 1, none⟩ v').heap[k]? = w.heap[k]?) := by
    intro W0 v' W hBw hO hG
    have hB : Below base w W0 := hBw.mono hbase
    have hB0 : base ≤ W0.heap.size := Nat.le_trans hbase hBw.size
    have hb2 : Below base W0 W := hG.below hB0 ho.block
    have hb3 : Below base w W := hB.trans hb2
    have hh : Holds W b _ := h.below hb3 hb
    refine ⟨hh.cell (i := 5) rfl, hh.free 1, hh.cell (i := 1) rfl, hb3.mono (by omega), hh.setCell (i := 1) v', hO.upd (Upd.setCell v') hb, (hb3.mono (by omega)).trans ((Upd.setCell v').below (Nat.le_refl _)), ?_, ?_⟩
    · intro k hk
      rcases hG.at_ with h | h
      · exact .inl (h ▸ hk)
      · rw [h] at hk
        cases hk
        exact .inr hBw.size
    · intro k hk hkb hne
      exact ((Upd.setCell v').block k hkb).trans ((hG.step.block k (Nat.lt_of_lt_of_le hk hBw.size) (fun e => hne e.symm)).trans (hBw.block k hk))
  have hrow : ∀ o, Holds ((w.alloc o).alloc (.cells (encC x).toArray 64)).drew (w.heap.size + 1) (encC x) := by
    intro o
    have := Holds.alloc (w.alloc o) (encC x) 64
    rw [World.size_alloc] at this
    exact this
  have FIN := Lib.hid fin
  clear fin
  refine ⟨hsame _ _ (Below.drew (((Below.refl (b + 1) w).alloc (by omega) _).alloc (by simp; omega) _)), ?_⟩
  unfold seg
  simp only [pickL, List.getD_cons_zero, List.getD_cons_succ]
  refine wpList_append_one rfl _ _ _ rfl base 64 i0 _ 7 40 und_chg hi hz0 hz1 hz2 rfl (by omega) encC cs l x ?_ ?_ (w.heap.size + 1) ?_ ?_ ?_ ?_ ?_ ?_ ?_ ?_
  · rfl
  · exact ho.below (Below.drew (((Below.refl w.heap.size w).alloc (Nat.le_refl _) _).alloc (by simp) _))
  · rfl
  · exact hrow _
  · rfl
  · exact chCells_one _ _ _
  · simp only [maxLen]; omega
  · omega
  · simp; omega
  · intro v' W hO hG
    obtain ⟨g5, gf, g0, gB, gH, gO, gBel, gOB, gFr⟩ := FIN.out _ v' W (Below.drew (((Below.refl w.heap.size w).alloc (Nat.le_refl _) _).alloc (by simp) _)) hO hG
    have GOB := Lib.hid gOB
    have GFR := Lib.hid gFr
    clear gOB gFr
    go_wp2
    refine ⟨hsame _ _ gB, ?_⟩
    unfold seg
    simp only [pickL, List.getD_cons_zero, List.getD_cons_succ]
    go_wp2
    refine ⟨hsame _ _ gB, rfl, ⟨.inl rfl, trivial⟩, ?_⟩
    obtain ⟨sa, sn, sc, hsv⟩ := hO.shape
    subst hsv
    simp only [pickL, List.getD_cons_zero, List.getD_cons_succ]
    go_wp2
    unfold OnlyN
    dsimp only
    go_wp2_with (go_at_call 60; refine (more_any b _ _ stop most l.length false false _ gH (by omega) (by omega)).mono ?_; rintro e w' ⟨rfl, rH, rU⟩)
    go_returns
    refine ⟨by simp [Bool.not_or], ⟨_, ?_, gO.upd rU hb, GOB.out⟩, gBel.trans (rU.below (Nat.le_refl _)), fun k hk hkb hne => (rU.block k hkb).trans (GFR.out k hk hkb hne)⟩
    rw [show ((l.length + 1 : Nat) : Int) = (l.length : Int) + 1 by simp]
    exact rH
end Go.Proofs.YtihmhledogppmaaDoor
