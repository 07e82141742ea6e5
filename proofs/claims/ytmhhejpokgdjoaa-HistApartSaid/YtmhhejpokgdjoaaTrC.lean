/- The walks of trie.with, without, Put, Drop. -/
import Derived.Test.YtmhhejpokgdjoaaTrB
import Derived.Test.YtmhhejpokgdjoaaRow
namespace Go.Proofs.Ytmhhejpokgdjoaa
open Go Go.RowKit
set_option linter.unusedVariables false
set_option linter.unusedSimpArgs false

def PutPost {d : Nat} (t : Tr (d + 1)) (w : World) (key : Nat) (v : V) (e : Ending) (w' : World) : Prop :=
  e = .returned (t.put w.heap.size key v).ptr ∧ (t.put w.heap.size key v).at w' ∧ Below w.heap.size w w' ∧ w'.heap.size = w.heap.size + 2 * (d + 1)
theorem info_node : (Try.prog.info? 133).map (·.size) = some 32 := by kernel_rfl
theorem und_node : Try.prog.underlying 133 = Try.prog.underlying 133 := rfl
/-- What the end of 'with' comes to, at the lowest level. -/
theorem put0_end {t : Tr 1} {key : Nat} {v : V} {w W : World} (ht : t.at w) (h0 : Holds W w.heap.size (vCells v)) (h1 : Holds W (w.heap.size + 1) (nodeCells t.kid)) (hb : Below w.heap.size w W) (hs : W.heap.size = w.heap.size + 2) :
    PutPost t w key v (.returned (.pointer (some ⟨w.heap.size + 1, 0, none⟩))) (W.setCell ⟨w.heap.size + 1, 16 + dg key 0, none⟩ (.pointer (some ⟨w.heap.size, 0, none⟩))) := by
  have hu := Upd.setCell (w := W) (g := w.heap.size + 1) (i := 16 + dg key 0) (.pointer (some ⟨w.heap.size, 0, none⟩))
  have hbb := hb.trans (hu.below (Nat.le_succ _))
  refine ⟨rfl, ⟨?_, fun i => ?_⟩, hbb, by rw [hu.size, hs]⟩
  · have := h1.setCell (i := 16 + dg key 0) (Tr.ptr (Tr.leaf w.heap.size v))
    rw [show dg key 0 = (dF key 0).val from rfl, nodeCells_set_leaf t.kid (dF key 0) (Tr.leaf w.heap.size v)] at this
    exact this
  · by_cases hi : i = dF key 0
    · simp only [hi, if_true]
      exact h0.upd hu (by omega)
    · simp only [hi, if_false]
      exact Tr.at_ext hbb (Tr.at_kid ht i)
set_option maxRecDepth 100000 in
set_option maxHeartbeats 400000 in
theorem with0 (t : Tr 1) (key : Nat) (v : V) (w : World) (ht : t.at w) (hk : key < 4294967296) :
    Calls Try.prog 46 #[t.ptr, .int .i64 7, .int .u32 key, .agg #[.int .i64 v.k, .int .i64 v.n]] w (PutPost t w key v) := by
  have hdig := dg_lt key 0
  have HT : Hid (t.at w) := ht
  clear ht
  obtain ⟨k0, hk0⟩ : ∃ k0, k0 = dF key 0 := ⟨_, rfl⟩
  have hkv : k0.val = dg key 0 := by rw [hk0]; rfl
  have HK0 := Lib.hid hk0
  cases t with
  | none =>
    clear hk0
    rw [Tr.ptr_none]
    go_enter Try.func46, Try.ntmps46
    go_wp2_with (first | (refine wpList_box_abs rfl 133 _ rfl (nodeCells (d := 0) fun _ => Tr.nil) (congrArg Value.agg nodeCells_lit).symm ?_; intro W hW hB hS; simp only [World.size_alloc] at hW hS; have hc := Holds.cell hW (leaf_cell (fun _ => Tr.nil) k0); rw [hkv] at hc; have hf := Holds.free hW (16 + dg key 0)) | (go_at_call 66; refine (digit_any key 0 _ _ (by omega) (by omega) hk).mono ?_; rintro e w' ⟨rfl, rfl⟩))
    go_returns
    exact put0_end HT.out ((Holds.alloc w (vCells v) _).ext hB) hW (((Below.refl _ _).alloc (Nat.le_refl _) _).trans (hB.mono (by simp))) hS
  | some p =>
    obtain ⟨bn, f⟩ := p
    have hbn := HT.out.1.lt
    have hnode := Lib.hid HT.out.1
    clear hk0
    rw [Tr.ptr_some]
    go_enter Try.func46, Try.ntmps46
    go_wp2_with (first | (refine wpList_box_abs rfl 133 _ rfl (nodeCells (d := 0) fun _ => Tr.nil) (congrArg Value.agg nodeCells_lit).symm ?_; intro W hW hB hS; simp only [World.size_alloc] at hW hS) | (refine wpList_load_abs rfl 133 _ rfl bn rfl (nodeCells f) ((hnode.out.ext ((Below.refl _ _).alloc (Nat.le_refl _) _)).ext (by assumption)) _ rfl rfl info_node ?_) | (refine wpList_store_abs rfl 133 _ _ rfl (w.heap.size + 1) _ (nodeCells f) rfl rfl (by assumption) info_node (by simp [nodeCells_length]) (nodeCells_one f) ?_; intro W2 hW2 hU; have hc := Holds.cell hW2 (leaf_cell f k0); rw [hkv] at hc; have hf := Holds.free hW2 (16 + dg key 0)) | (go_at_call 66; refine (digit_any key 0 _ _ (by omega) (by omega) hk).mono ?_; rintro e w' ⟨rfl, rfl⟩))
    go_returns
    exact put0_end HT.out (((Holds.alloc w (vCells v) _).ext hB).upd hU (by omega)) hW2 ((((Below.refl _ _).alloc (Nat.le_refl _) _).trans (hB.mono (by simp))).trans (hU.below (by omega))) (hU.size.trans hS)
theorem putS_end {d : Nat} {t : Tr (d + 2)} {key : Nat} {v : V} {w W : World} {k0 : Fin 16} (hk0 : k0 = dF key (d + 1)) (ht : t.at w) (h1 : Holds W (w.heap.size + 1) (nodeCells t.kid)) (hb : Below w.heap.size w W) (hs : W.heap.size = w.heap.size + 2 + 2 * (d + 1))
    (hn : ((t.kid k0).put (w.heap.size + 2) key v).at W) :
    PutPost t w key v (.returned (.pointer (some ⟨w.heap.size + 1, 0, none⟩))) (W.setCell ⟨w.heap.size + 1, dg key (d + 1), none⟩ ((t.kid k0).put (w.heap.size + 2) key v).ptr) := by
  subst hk0
  have hu := Upd.setCell (w := W) (g := w.heap.size + 1) (i := dg key (d + 1)) ((t.kid (dF key (d + 1))).put (w.heap.size + 2) key v).ptr
  have hbb := hb.trans (hu.below (Nat.le_succ _))
  refine ⟨rfl, ⟨?_, fun i => ?_⟩, hbb, by rw [hu.size, hs]; omega⟩
  · have := h1.setCell (i := dg key (d + 1)) ((t.kid (dF key (d + 1))).put (w.heap.size + 2) key v).ptr
    rw [show dg key (d + 1) = (dF key (d + 1)).val from rfl, nodeCells_set_kid t.kid (dF key (d + 1))] at this
    exact this
  · by_cases hi : i = dF key (d + 1)
    · simp only [hi, if_true]
      exact Tr.at_upd hu hn (Tr.put_all (Tr.all_mono (fun b hb => by omega) (Tr.all_kid (Tr.at_all ht) _)) fun b hb => by omega)
    · simp only [hi, if_false]
      exact Tr.at_ext hbb (Tr.at_kid ht i)
set_option maxRecDepth 100000 in
set_option maxHeartbeats 400000 in
theorem withS {d : Nat} (ih : ∀ (t : Tr (d + 1)) (lv : Int) (key : Nat) (v : V) (w : World), lv + d = 7 → 0 ≤ lv → t.at w → key < 4294967296 →
      Calls Try.prog 46 #[t.ptr, .int .i64 lv, .int .u32 key, .agg #[.int .i64 v.k, .int .i64 v.n]] w (PutPost t w key v))
    (t : Tr (d + 2)) (lv : Int) (key : Nat) (v : V) (w : World) (hlv : lv + (d + 1) = 7) (hl0 : 0 ≤ lv) (ht : t.at w) (hk : key < 4294967296) :
    Calls Try.prog 46 #[t.ptr, .int .i64 lv, .int .u32 key, .agg #[.int .i64 v.k, .int .i64 v.n]] w (PutPost t w key v) := by
  have hdig := dg_lt key (d + 1)
  have HT : Hid (t.at w) := ht
  clear ht
  have h7 : (lv == 7) = false := by simp; omega
  have hl6 : lv ≤ 6 := by omega
  have HL := Lib.hid hlv
  clear hlv
  obtain ⟨k0, hk0⟩ : ∃ k0, k0 = dF key (d + 1) := ⟨_, rfl⟩
  have hkv : k0.val = dg key (d + 1) := by rw [hk0]; rfl
  have HK0 := Lib.hid hk0
  clear hk0
  cases t with
  | none =>
    rw [Tr.ptr_none]
    go_enter Try.func46, Try.ntmps46
    go_wp2_with (first | (refine wpList_box_abs rfl 133 _ rfl (nodeCells (d := d + 1) fun _ => Tr.nil) (congrArg Value.agg nodeCells_lit).symm ?_; intro W hW hB hS; simp only [World.size_alloc] at hW hS; have hc := Holds.cell hW (kids_cell (fun _ => Tr.nil) k0); rw [hkv] at hc; have hf := Holds.free hW (dg key (d + 1)); have hv := (Holds.alloc w (vCells v) 50).ext hB; have hv0 := hv.cell (i := 0) rfl; have hv1 := hv.cell (i := 1) rfl) | (go_at_call 66; refine (digit_any key (d + 1) _ _ (by have := HL.out; omega) (by have := HL.out; omega) hk).mono ?_; rintro e w' ⟨rfl, rfl⟩))
    refine rgn [0, 1, 2, 3, 4, 5, 6, 7, 8, 9, 10, 11, 13, 14, 12, 15, 16] [9] (by kernel_rfl) ?_
    simp only [pickL, List.getD_cons_zero, List.getD_cons_succ]
    go_wp2_with fail
    refine (ih (Tr.nil) _ key v _ (by have := HL.out; omega) (by omega) trivial hk).mono ?_
    intro e w' hp
    obtain ⟨he, hat, hb2, hs2⟩ := hp
    rw [show W.drew.heap.size = w.heap.size + 2 from hS] at he hat hs2
    change e = .returned (.pointer _) at he
    have hb3 : Below W.heap.size W w' := below_of_drew hb2
    subst he
    have hW3 := hW.ext hb3
    have hc3 := Holds.cell hW3 (kids_cell (fun _ => Tr.nil) k0)
    have hf3 := Holds.free hW3 (dg key (d + 1))
    rw [hkv] at hc3
    have HS2 := Lib.hid hs2
    clear hs2
    go_wp2
    refine ⟨rfl, ?_⟩
    go_wp2
    go_returns
    exact putS_end (k0 := k0) (t := none) HK0.out HT.out hW3 (((((Below.refl _ _).alloc (Nat.le_refl _) _).trans (hB.mono (by simp))).trans (hb3.mono (by omega)))) HS2.out hat
  | some p =>
    obtain ⟨bn, f⟩ := p
    have hbn := HT.out.1.lt
    have hnode := Lib.hid HT.out.1
    have hkid := Lib.hid (HT.out.2 k0)
    rw [Tr.ptr_some]
    go_enter Try.func46, Try.ntmps46
    go_wp2_with (first | (refine wpList_box_abs rfl 133 _ rfl (nodeCells (d := d + 1) fun _ => Tr.nil) (congrArg Value.agg nodeCells_lit).symm ?_; intro W hW hB hS; simp only [World.size_alloc] at hW hS) | (refine wpList_load_abs rfl 133 _ rfl bn rfl (nodeCells f) ((hnode.out.ext ((Below.refl _ _).alloc (Nat.le_refl _) _)).ext (by assumption)) _ rfl rfl info_node ?_) | (refine wpList_store_abs rfl 133 _ _ rfl (w.heap.size + 1) _ (nodeCells f) rfl rfl (by assumption) info_node (by simp [nodeCells_length]) (nodeCells_one f) ?_; intro W2 hW2 hU; have hS2 := hU.size.trans hS; have hc := Holds.cell hW2 (kids_cell f k0); rw [hkv] at hc; have hf := Holds.free hW2 (dg key (d + 1)); have hv := ((Holds.alloc w (vCells v) 50).ext hB).upd hU (by omega); have hv0 := hv.cell (i := 0) rfl; have hv1 := hv.cell (i := 1) rfl; have hB2 := (((Below.refl w.heap.size w).alloc (Nat.le_refl _) (.cells (vCells v).toArray 50)).trans (hB.mono (by simp))).trans (hU.below (by omega)); clear hS) | (go_at_call 66; refine (digit_any key (d + 1) _ _ (by have := HL.out; omega) (by have := HL.out; omega) hk).mono ?_; rintro e w' ⟨rfl, rfl⟩))
    refine rgn [0, 1, 2, 3, 4, 5, 6, 7, 8, 9, 10, 11, 13, 14, 12, 15, 16] [9] (by kernel_rfl) ?_
    simp only [pickL, List.getD_cons_zero, List.getD_cons_succ]
    go_wp2_with fail
    refine (ih (f k0) _ key v _ (by have := HL.out; omega) (by omega) (Tr.at_ext hB2.drew hkid.out) hk).mono ?_
    intro e w' hp
    obtain ⟨he, hat, hb2, hs2⟩ := hp
    rw [show W2.drew.heap.size = w.heap.size + 2 from hS2] at he hat hs2
    change e = .returned (.pointer _) at he
    have hb3 : Below W2.heap.size W2 w' := below_of_drew hb2
    subst he
    have hW3 := hW2.ext hb3
    have hc3 := Holds.cell hW3 (kids_cell f k0)
    have hf3 := Holds.free hW3 (dg key (d + 1))
    rw [hkv] at hc3
    have HS2 := Lib.hid hs2
    clear hs2
    go_wp2
    refine ⟨rfl, ?_⟩
    go_wp2
    go_returns
    exact putS_end (k0 := k0) (t := some (bn, f)) HK0.out HT.out hW3 (hB2.trans (hb3.mono (by omega))) HS2.out hat
theorem with_any : ∀ (d : Nat) (t : Tr (d + 1)) (lv : Int) (key : Nat) (v : V) (w : World), lv + d = 7 → 0 ≤ lv → t.at w → key < 4294967296 →
    Calls Try.prog 46 #[t.ptr, .int .i64 lv, .int .u32 key, .agg #[.int .i64 v.k, .int .i64 v.n]] w (PutPost t w key v)
  | 0, t, lv, key, v, w, h1, h2, h3, h4 => by
    obtain rfl : lv = 7 := by omega
    exact with0 t key v w h3 h4
  | d + 1, t, lv, key, v, w, h1, h2, h3, h4 => withS (with_any d) t lv key v w (by omega) h2 h3 h4
end Go.Proofs.Ytmhhejpokgdjoaa
