/- The walks of the law's taker: more, entry; run, list, from. -/
import Derived.Test.YtihmhledogppmaaDoorLaA
import Derived.Test.YtihmhledogppmaaDoorWk
namespace Go.Proofs.YtihmhledogppmaaDoor
open Go Go.RowKit
set_option linter.unusedVariables false
set_option linter.unusedSimpArgs false

def tkCells (es cs : Value) (stop most n : Int) (over deaf : Bool) : List Value := [es, cs, .int .i64 stop, .int .i64 most, .int .i64 n, .bool over, .bool deaf]
theorem Upd.drew {g : Nat} {w w' : World} (h : Upd g w w') : Upd g w w'.drew := ⟨h.os, h.tape, h.output, h.size, h.block⟩
theorem Upd.refl (g : Nat) (w : World) : Upd g w w := ⟨rfl, rfl, rfl, rfl, fun _ _ => rfl⟩
theorem Upd.trans {g : Nat} {a b c : World} (h : Upd g a b) (k : Upd g b c) : Upd g a c := ⟨k.os.trans h.os, k.tape.trans h.tape, k.output.trans h.output, k.size.trans h.size, fun i hi => (k.block i hi).trans (h.block i hi)⟩
set_option maxRecDepth 100000 in
set_option maxHeartbeats 400000 in
theorem more_any (b : Nat) (es cs : Value) (stop most n : Int) (over deaf : Bool) (w : World) (h : Holds w b (tkCells es cs stop most n over deaf)) (hn : 0 ≤ n) (hn2 : n < 1099511627776) :
    Calls Tryd.prog 60 #[.pointer (some ⟨b, 0, none⟩)] w fun e w' =>
      e = .returned (.bool (!(decide (n + 1 = stop) || decide (most < n + 1)))) ∧ Holds w' b (tkCells es cs stop most (n + 1) (decide (n + 1 = stop) || decide (most < n + 1)) deaf) ∧ Upd b w w' := by
  have h2 := h.cell (i := 2) rfl
  have h3 := h.cell (i := 3) rfl
  have h4 := h.cell (i := 4) rfl
  have h5 := h.cell (i := 5) rfl
  have hf4 := h.free 4
  have hf5 := h.free 5
  have hlt := h.lt
  have fin : ∀ ov, ov = (decide (n + 1 = stop) || decide (most < n + 1)) → ∀ W, W = (w.setCell ⟨b, 4, none⟩ (.int .i64 (n + 1))).drew.setCell ⟨b, 5, none⟩ (.bool ov) →
      Holds W b (tkCells es cs stop most (n + 1) (decide (n + 1 = stop) || decide (most < n + 1)) deaf) ∧ Upd b w W := by
    intro ov hov W hW
    subst hW
    refine ⟨?_, ((Upd.setCell _).drew).trans (Upd.setCell _)⟩
    have h1 := h.setCell (i := 4) (.int .i64 (n + 1))
    have h2 : Holds (w.setCell ⟨b, 4, none⟩ (.int .i64 (n + 1))).drew b _ := h1
    have h3 := h2.setCell (i := 5) (.bool ov)
    rw [← hov]
    exact h3
  have FIN := Lib.hid fin
  clear fin
  by_cases hs : n + 1 = stop
  · have hq : (n + 1 == stop) = true := by simpa using hs
    have HS := Lib.hid hs
    clear hs
    go_enter Tryd.func60, Tryd.ntmps60
    go_wp2
    refine rgn [0, 1, 2, 3, 4, 5, 6, 7, 8, 9, 10, 11, 12, 13, 14, 15, 16, 17, 18, 19, 20, 21, 22, 23] [9, 19] (by kernel_rfl) ?_
    simp only [pickL, List.getD_cons_zero, List.getD_cons_succ]
    go_wp2
    refine ⟨rfl, ?_⟩
    go_wp2
    go_returns
    exact ⟨by rw [decide_eq_true HS.out]; rfl, FIN.out true (by rw [decide_eq_true HS.out]; rfl) _ rfl⟩
  · have hq : (n + 1 == stop) = false := by simpa using hs
    have HS := Lib.hid hs
    clear hs
    go_enter Tryd.func60, Tryd.ntmps60
    go_wp2
    refine rgn [0, 1, 2, 3, 4, 5, 6, 7, 8, 9, 10, 11, 12, 13, 14, 15, 16, 17, 18, 19, 20, 21, 22, 23] [9, 19] (by kernel_rfl) ?_
    simp only [pickL, List.getD_cons_zero, List.getD_cons_succ]
    go_wp2
    refine ⟨rfl, ?_⟩
    go_wp2
    go_returns
    exact ⟨by rw [decide_eq_false HS.out]; rfl, FIN.out (decide (most < n + 1)) (by rw [decide_eq_false HS.out, Bool.false_or]) _ rfl⟩
theorem info_entry : (Tryd.prog.info? 43).map (fun i => (i.zero, i.size, i.bytes)) = some (some (.agg #[.int .u32 0, .int .i64 0, .int .i64 0]), 3, 24) := by kernel_rfl
theorem und_entries : Tryd.prog.underlying 35 = some (.slice 43) := by kernel_rfl
set_option maxRecDepth 100000 in
set_option maxHeartbeats 800000 in
theorem entry_any (b base : Nat) (es : Value) (l : List (Nat × V)) (x : Nat × V) (stop most : Int) (w : World) (h : Holds w b (tkCells es (.slice none 0 0) stop most l.length false false)) (ho : Own w base 43 3 encL es l) (hb : b < base) (hbase : base ≤ w.heap.size) (hn : l.length ≤ 4294967300) :
    Calls Tryd.prog 50 #[.pointer (some ⟨b, 0, none⟩), .int .u32 (x.1 : Nat), .agg #[.int .i64 x.2.k, .int .i64 x.2.n]] w fun e w' =>
      e = .returned (.bool (!(decide ((l.length : Int) + 1 = stop) || decide (most < (l.length : Int) + 1)))) ∧
      (∃ es', Holds w' b (tkCells es' (.slice none 0 0) stop most (l.length + 1 : Nat) (decide ((l.length : Int) + 1 = stop) || decide (most < (l.length : Int) + 1)) false) ∧ Own w' base 43 3 encL es' (l ++ [x])) ∧ Below b w w' := by
  have h0 := h.cell (i := 0) rfl
  have h5 := h.cell (i := 5) rfl
  have hf0 := h.free 0
  have hlt := h.lt
  obtain ⟨i0, hi, hz0, hz1, hz2⟩ := info_parts info_entry
  go_enter Tryd.func50, Tryd.ntmps50
  go_wp2
  refine rgnC [[0, 1, 2, 3, 5, 6, 7, 4, 8], [9], [10, 11]] [] [4] [⟨b, 0, none⟩] 12 (by kernel_rfl) (by simp) ?_ ?_
  · intro p hp
    simp only [List.mem_singleton] at hp
    subst hp
    go_simp
  unfold seg
  simp only [pickL, List.getD_cons_zero, List.getD_cons_succ]
  go_wp2
  have hsame : ∀ (o : Obj) (W : World), Below (b + 1) w W → SameAt [⟨b, 0, none⟩] (w.alloc o) W := by
    intro o W hW p hp
    simp only [List.mem_singleton] at hp
    subst hp
    rw [((Below.refl (b + 1) w).alloc (by omega) _).cell (by simp)]
    exact hW.cell (by simp)
  have fin : ∀ W0 v' W, Below base w W0 → base ≤ W0.heap.size → Own W base 43 3 encL v' (l ++ [x]) → Grew W0 W es v' →
      W.cell? ⟨b, 5, none⟩ = some (.bool false) ∧ W.frozen? ⟨b, 0, none⟩ = false ∧ W.cell? ⟨b, 0, none⟩ = some es ∧ Below (b + 1) w W ∧
      Holds (W.setCell ⟨b, 0, none⟩ v') b (tkCells v' (.slice none 0 0) stop most l.length false false) ∧ Own (W.setCell ⟨b, 0, none⟩ v') base 43 3 encL v' (l ++ [x]) ∧ Below b w (W.setCell ⟨b, 0, none⟩ v') := by
    intro W0 v' W hB hB0 hO hG
    have hb2 : Below base W0 W := hG.below hB0 ho.block
    have hb3 : Below base w W := hB.trans hb2
    have hh : Holds W b _ := h.below hb3 hb
    refine ⟨hh.cell (i := 5) rfl, hh.free 0, hh.cell (i := 0) rfl, hb3.mono (by omega), hh.setCell v', hO.upd (Upd.setCell v') hb, (hb3.mono (by omega)).trans ((Upd.setCell v').below (Nat.le_refl _))⟩
  have hrow : ∀ o, Holds ((w.alloc o).alloc (.cells (encL x).toArray 43)).drew (w.heap.size + 1) (encL x) := by
    intro o
    have := Holds.alloc (w.alloc o) (encL x) 43
    rw [World.size_alloc] at this
    exact this
  have FIN := Lib.hid fin
  clear fin
  refine ⟨hsame _ _ (Below.drew (((Below.refl (b + 1) w).alloc (by omega) _).alloc (by simp; omega) _)), ?_⟩
  unfold seg
  simp only [pickL, List.getD_cons_zero, List.getD_cons_succ]
  refine wpList_append_one rfl _ _ _ rfl base 43 i0 _ 3 24 und_entries hi hz0 hz1 hz2 rfl (by omega) encL es l x ?_ ?_ (w.heap.size + 1) ?_ ?_ ?_ ?_ ?_ ?_ ?_ ?_
  · rfl
  · exact ho.below (Below.drew (((Below.refl w.heap.size w).alloc (Nat.le_refl _) _).alloc (by simp) _))
  · rfl
  · exact hrow _
  · rfl
  · intro u hu
    simp only [encL, List.mem_cons, List.not_mem_nil, or_false] at hu
    rcases hu with rfl | rfl | rfl <;> rfl
  · simp only [maxLen]; omega
  · omega
  · simp; omega
  · intro v' W hO hG
    obtain ⟨g5, gf, g0, gB, gH, gO, gBel⟩ := FIN.out _ v' W (Below.drew (((Below.refl base w).alloc hbase _).alloc (by simp; omega) _)) (by simp; omega) hO hG
    go_wp2
    refine ⟨hsame _ _ gB, ?_⟩
    unfold seg
    simp only [pickL, List.getD_cons_zero, List.getD_cons_succ]
    go_wp2
    refine ⟨hsame _ _ gB, rfl, ⟨.inl rfl, trivial⟩, ?_⟩
    obtain ⟨sa, sn, sc, hsv⟩ := hO.shape
    subst hsv
    simp only [pickL, List.getD_cons_zero, List.getD_cons_succ]
    go_wp2
    unfold OnlyN
    dsimp only
    go_wp2_with (go_at_call 60; refine (more_any b _ _ stop most l.length false false _ gH (by omega) (by omega)).mono ?_; rintro e w' ⟨rfl, rH, rU⟩)
    go_returns
    refine ⟨by simp [Bool.not_or], ⟨_, ?_, gO.upd rU hb⟩, gBel.trans (rU.below (Nat.le_refl _))⟩
    rw [show ((l.length + 1 : Nat) : Int) = (l.length : Int) + 1 by simp]
    exact rH
end Go.Proofs.YtihmhledogppmaaDoor
