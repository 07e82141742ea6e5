/- The walk of trie.without. -/
import Derived.Test.YtihmhledogppmaaDoorTrC
namespace Go.Proofs.YtihmhledogppmaaDoor
open Go Go.RowKit
set_option linter.unusedVariables false
set_option linter.unusedSimpArgs false

def DropPost {d : Nat} (t : Tr (d + 1)) (w : World) (key : Nat) (e : Ending) (w' : World) : Prop :=
  e = .returned (t.drop w.heap.size key).ptr ∧ (t.drop w.heap.size key).at w' ∧ Below w.heap.size w w' ∧ w'.heap.size = w.heap.size + (d + 1)
theorem nilP_ptr {d : Nat} (t : Tr d) : nilP t.ptr = t.blk.isNone := by
  unfold Tr.ptr ptrOf; cases t.blk <;> rfl
theorem all_map (f : Fin 16 → Bool) : ((List.finRange 16).map f).all id = decide (∀ i, f i = true) := by
  rw [Bool.eq_iff_iff]; simp
theorem half_nil {d : Nat} (f : Fin 16 → Tr d) : ((nodeCells f).take 16).all nilP = true ∧ (((nodeCells f).drop 16).take 16).all nilP = true ↔ ∀ i, (f i).blk = none := by
  have hk : ((List.finRange 16).map fun i => (f i).ptr).all nilP = true ↔ ∀ i, (f i).blk = none := by
    simp only [List.all_eq_true, List.mem_map, List.mem_finRange, true_and, forall_exists_index, forall_apply_eq_imp_iff, nilP_ptr, Option.isNone_iff_eq_none]
  have hr : (List.replicate 16 (Value.pointer none)).all nilP = true := rfl
  unfold nodeCells
  split
  · rw [List.take_left' (by simp), List.drop_left' (by simp), List.take_of_length_le (by simp)]
    simp only [hr, true_and, hk]
  · rw [List.take_left' (by simp), List.drop_left' (by simp), List.take_of_length_le (by simp)]
    simp only [hr, and_true, hk]
theorem half_ptr {d : Nat} (f : Fin 16 → Tr d) (k n : Nat) : ∀ v ∈ ((nodeCells f).drop k).take n, ∃ o, v = .pointer o := by
  intro v hv
  have := List.mem_of_mem_drop (List.mem_of_mem_take hv)
  unfold nodeCells at this
  split at this <;> simp only [List.mem_append, List.mem_map, List.mem_replicate] at this <;> rcases this with h | h <;>
    first | (obtain ⟨_, _, rfl⟩ := h; exact ⟨_, rfl⟩) | exact ⟨_, h.2⟩
theorem half_len {d : Nat} (f : Fin 16 → Tr d) (k : Nat) (hk : k ≤ 16) : (((nodeCells f).drop k).take 16).length = 16 := by simp [nodeCells_length]; omega
theorem info_kids : (Tryd.prog.info? 82).map (·.size) = some 16 := by kernel_rfl
theorem info_leaf : (Tryd.prog.info? 83).map (·.size) = some 16 := by kernel_rfl
theorem info_pn : (Tryd.prog.info? 77).map (·.size) = some 1 := by kernel_rfl
theorem info_pv : (Tryd.prog.info? 81).map (·.size) = some 1 := by kernel_rfl
theorem eqg_kids : Tryd.prog.eqGuardType Tryd.prog.depth 82 = false := by kernel_rfl
theorem eqg_leaf : Tryd.prog.eqGuardType Tryd.prog.depth 83 = false := by kernel_rfl
theorem und_kids : Tryd.prog.underlying 82 = some (.array 16 77) := by kernel_rfl
theorem und_leaf : Tryd.prog.underlying 83 = some (.array 16 81) := by kernel_rfl
theorem und_pn : Tryd.prog.underlying 77 = some (.pointer 85) := by kernel_rfl
theorem und_pv : Tryd.prog.underlying 81 = some (.pointer 32) := by kernel_rfl
/-- What the end comes to, the node's block holding F's cells. -/
theorem drop_end {d : Nat} {t : Tr (d + 1)} {key : Nat} {w W : World} {F : Fin 16 → Tr d} (hF : t.drop w.heap.size key = mkNode w.heap.size F) (hW : Holds W w.heap.size (nodeCells F)) (hk : ∀ i, (F i).at W) (hb : Below w.heap.size w W) (hs : W.heap.size = w.heap.size + (d + 1)) :
    ((∀ i, (F i).blk = none) → DropPost t w key (.returned (.pointer none)) W) ∧ ((¬ ∀ i, (F i).blk = none) → DropPost t w key (.returned (.pointer (some ⟨w.heap.size, 0, none⟩))) W) := by
  constructor
  · intro h
    have e : t.drop w.heap.size key = Tr.nil := by rw [hF, mkNode_nil h]
    exact ⟨by rw [e]; rfl, by rw [e]; trivial, hb, hs⟩
  · intro h
    have e : t.drop w.heap.size key = Tr.node w.heap.size F := by rw [hF, mkNode_node h]
    exact ⟨by rw [e]; rfl, by rw [e]; exact ⟨hW, hk⟩, hb, hs⟩
def upd {d : Nat} (f : Fin 16 → Tr d) (k : Fin 16) (x : Tr d) : Fin 16 → Tr d := fun j => if j = k then x else f j
theorem set_leaf {W : World} {g key : Nat} {f : Fin 16 → Tr 0} (h : Holds W g (nodeCells f)) : Holds (W.setCell ⟨g, 16 + dg key 0, none⟩ (.pointer none)) g (nodeCells (upd f (dF key 0) Tr.nil)) := by
  have := h.setCell (i := 16 + dg key 0) (Tr.ptr (Tr.nil : Tr 0))
  rw [show dg key 0 = (dF key 0).val from rfl, nodeCells_set_leaf f (dF key 0) Tr.nil] at this
  exact this
theorem set_kid {W : World} {g key d : Nat} {f : Fin 16 → Tr (d + 1)} {x : Tr (d + 1)} {p : Option Addr} (hp : x.ptr = .pointer p) (h : Holds W g (nodeCells f)) : Holds (W.setCell ⟨g, dg key (d + 1), none⟩ (.pointer p)) g (nodeCells (upd f (dF key (d + 1)) x)) := by
  have := h.setCell (i := dg key (d + 1)) x.ptr
  rw [show dg key (d + 1) = (dF key (d + 1)).val from rfl, nodeCells_set_kid f (dF key (d + 1)) x] at this
  rw [hp] at this
  exact this
set_option maxRecDepth 100000 in
set_option maxHeartbeats 800000 in
theorem without0 (bn : Nat) (f : Fin 16 → Tr 0) (key : Nat) (w : World) (ht : Tr.at w (d := 1) (some (bn, f))) (hk : key < 4294967296) :
    Calls Tryd.prog 37 #[.pointer (some ⟨bn, 0, none⟩), .int .i64 7, .int .u32 key] w (DropPost (d := 0) (some (bn, f)) w key) := by
  have hdig := dg_lt key 0
  have hbn := ht.1.lt
  have hnode := Lib.hid ht.1
  have HT := Lib.hid ht
  clear ht
  obtain ⟨F, hF⟩ : ∃ F, F = upd f (dF key 0) Tr.nil := ⟨_, rfl⟩
  have hkids : Hid (∀ i, (F i).at w) := fun i => by
    rw [hF]; unfold upd
    by_cases hi : i = dF key 0
    · simp only [hi, if_true]; trivial
    · simp only [hi, if_false]; exact HT.out.2 i
  have HF : Hid (Tr.drop (d := 0) (some (bn, f)) w.heap.size key = mkNode w.heap.size F) := by rw [hF]; rfl
  have hF' := Lib.hid hF
  clear hF
  have hA : ∀ bA bB, ((nodeCells F).take 16).all nilP = bA → (((nodeCells F).drop 16).take 16).all nilP = bB →
      Calls Tryd.prog 37 #[.pointer (some ⟨bn, 0, none⟩), .int .i64 7, .int .u32 key] w (DropPost (d := 0) (some (bn, f)) w key) := by
    intro bA bB hbA hbB
    have HA := Lib.hid hbA
    have HB := Lib.hid hbB
    clear hbA hbB
    cases bA <;> cases bB
    all_goals
      go_enter Tryd.func37, Tryd.ntmps37
      go_wp2_with (first | (refine wpList_box_abs rfl 85 _ rfl (nodeCells (d := 0) fun _ => Tr.nil) (congrArg Value.agg nodeCells_lit).symm ?_; intro W hW hB hS) | (refine wpList_load_abs rfl 85 _ rfl bn rfl (nodeCells f) (hnode.out.ext (by assumption)) _ rfl rfl info_node ?_) | (refine wpList_store_abs rfl 85 _ _ rfl w.heap.size _ (nodeCells f) rfl rfl (by assumption) info_node (by simp [nodeCells_length]) (nodeCells_one f) ?_; intro W2 hW2 hU; have hc := Holds.cell hW2 (leaf_cell f (dF key 0)); have hf := Holds.free hW2 (16 + dg key 0); rw [show (dF key 0).val = dg key 0 from rfl] at hc; have h3 := set_leaf (key := key) hW2; rw [← hF'.out] at h3) | (go_at_call 31; refine (digit_any key 0 _ _ (by omega) (by omega) hk).mono ?_; rintro e w' ⟨rfl, rfl⟩) | (refine wpList_load_seg rfl 82 _ rfl w.heap.size 0 16 rfl (nodeCells F) (by assumption) _ und_kids rfl info_kids (by simp [nodeCells_length]) ?_) | (refine wpList_load_seg rfl 83 _ rfl w.heap.size 16 16 rfl (nodeCells F) (by assumption) _ und_leaf rfl info_leaf (by simp [nodeCells_length]) ?_) | (refine wpList_eql_nils (n := 16) (cs := List.take 16 (nodeCells F)) rfl 82 _ _ _ rfl rfl rfl und_kids und_pn info_pn eqg_kids (half_len F 0 (by omega)) (half_ptr F 0 16) ?_; rw [HA.out]) | (refine wpList_eql_nils (n := 16) (cs := List.take 16 (List.drop 16 (nodeCells F))) rfl 83 _ _ _ rfl rfl rfl und_leaf und_pv info_pv eqg_leaf (half_len F 16 (by omega)) (half_ptr F 16 16) ?_; rw [HB.out]))
      go_returns
      have hb3 := (hB.trans (hU.below (Nat.le_refl _))).trans ((Upd.setCell (w := W2) (i := 16 + dg key 0) (.pointer none)).below (Nat.le_refl _))
      have hend := drop_end HF.out h3 (fun i => Tr.at_ext hb3 (hkids.out i)) hb3 ((Upd.setCell (w := W2) (i := 16 + dg key 0) (.pointer none)).size.trans (hU.size.trans hS))
      first
        | exact hend.1 ((half_nil F).1 ⟨HA.out, HB.out⟩)
        | exact hend.2 fun h => (Bool.false_ne_true (HA.out.symm.trans ((half_nil F).2 h).1)).elim
        | exact hend.2 fun h => (Bool.false_ne_true (HB.out.symm.trans ((half_nil F).2 h).2)).elim
  exact hA _ _ rfl rfl
set_option maxRecDepth 100000 in
set_option maxHeartbeats 1000000 in
theorem withoutS {d : Nat} (ih : ∀ (t : Tr (d + 1)) (lv : Int) (key : Nat) (w : World), lv + d = 7 → 0 ≤ lv → t.at w → (t.get key).isSome = true → key < 4294967296 →
      Calls Tryd.prog 37 #[t.ptr, .int .i64 lv, .int .u32 key] w (DropPost t w key))
    (bn : Nat) (f : Fin 16 → Tr (d + 1)) (lv : Int) (key : Nat) (w : World) (hlv : lv + (d + 1) = 7) (hl0 : 0 ≤ lv) (ht : Tr.at w (d := d + 2) (some (bn, f))) (hg : ((f (dF key (d + 1))).get key).isSome = true) (hk : key < 4294967296) :
    Calls Tryd.prog 37 #[.pointer (some ⟨bn, 0, none⟩), .int .i64 lv, .int .u32 key] w (DropPost (d := d + 1) (some (bn, f)) w key) := by
  have hdig := dg_lt key (d + 1)
  have hbn := ht.1.lt
  have hnode := Lib.hid ht.1
  have HT := Lib.hid ht
  clear ht
  have h7 : (lv == 7) = false := by simp; omega
  have hl6 : lv ≤ 6 := by omega
  have HL := Lib.hid hlv
  have HG := Lib.hid hg
  clear hlv hg
  obtain ⟨k0, hk0⟩ : ∃ k0, k0 = dF key (d + 1) := ⟨_, rfl⟩
  have hkv : k0.val = dg key (d + 1) := by rw [hk0]; rfl
  obtain ⟨x, hx⟩ : ∃ x, x = (f k0).drop (w.heap.size + 1) key := ⟨_, rfl⟩
  obtain ⟨F, hF⟩ : ∃ F, F = upd f k0 x := ⟨_, rfl⟩
  have HF : Hid (Tr.drop (d := d + 1) (some (bn, f)) w.heap.size key = mkNode w.heap.size F) := by rw [hF, hx, hk0]; rfl
  have HF' := Lib.hid hF
  have HX := Lib.hid hx
  have HK := Lib.hid hk0
  clear hF hx hk0
  have hA : ∀ bA bB, ((nodeCells F).take 16).all nilP = bA → (((nodeCells F).drop 16).take 16).all nilP = bB →
      Calls Tryd.prog 37 #[.pointer (some ⟨bn, 0, none⟩), .int .i64 lv, .int .u32 key] w (DropPost (d := d + 1) (some (bn, f)) w key) := by
    intro bA bB hbA hbB
    have HA := Lib.hid hbA
    have HB := Lib.hid hbB
    clear hbA hbB
    cases bA <;> cases bB
    all_goals
      go_enter Tryd.func37, Tryd.ntmps37
      go_wp2_with (first | (refine wpList_box_abs rfl 85 _ rfl (nodeCells (d := 0) fun _ => Tr.nil) (congrArg Value.agg nodeCells_lit).symm ?_; intro W hW hB hS) | (refine wpList_load_abs rfl 85 _ rfl bn rfl (nodeCells f) (hnode.out.ext (by assumption)) _ rfl rfl info_node ?_) | (refine wpList_store_abs rfl 85 _ _ rfl w.heap.size _ (nodeCells f) rfl rfl (by assumption) info_node (by simp [nodeCells_length]) (nodeCells_one f) ?_; intro W2 hW2 hU; have hS2 := hU.size.trans hS; have hB2 := hB.trans (hU.below (Nat.le_refl _)); clear hS) | (go_at_call 31; refine (digit_any key (d + 1) _ _ (by have := HL.out; omega) (by have := HL.out; omega) hk).mono ?_; rintro e w' ⟨rfl, rfl⟩))
      have ho := (hnode.out.ext hB2).cell (kids_cell f k0)
      rw [hkv] at ho
      refine rgn [0, 1, 2, 3, 4, 5, 6, 7, 8, 9, 10, 12, 13, 11, 14, 15] [9] (by kernel_rfl) ?_
      simp only [pickL, List.getD_cons_zero, List.getD_cons_succ]
      go_wp2_with fail
      refine (ih (f k0) _ key _ (by have := HL.out; omega) (by omega) (Tr.at_ext hB2.drew (HT.out.2 k0)) (by rw [HK.out]; exact HG.out) hk).mono ?_
      intro e w' hp
      obtain ⟨he, hat, hb2, hs2⟩ := hp
      rw [show W2.drew.heap.size = w.heap.size + 1 from hS2, ← HX.out] at he hat
      rw [show W2.drew.heap.size = w.heap.size + 1 from hS2] at hs2
      have hxp : x.ptr = .pointer (x.blk.map fun b => ⟨b, 0, none⟩) := rfl
      rw [hxp] at he
      have hb3 : Below W2.heap.size W2 w' := below_of_drew hb2
      subst he
      have hW3 := hW2.ext hb3
      have hc3 := Holds.cell hW3 (kids_cell f k0)
      have hf3 := Holds.free hW3 (dg key (d + 1))
      rw [hkv] at hc3
      have h3 := set_kid (key := key) hxp hW3
      rw [← HK.out, ← HF'.out] at h3
      have HS2 := Lib.hid hs2
      have HXP := Lib.hid hxp
      clear hs2 hxp
      go_wp2
      refine ⟨rfl, ?_⟩
      go_wp2_with (first | (refine wpList_load_seg rfl 82 _ rfl w.heap.size 0 16 rfl (nodeCells F) (by assumption) _ und_kids rfl info_kids (by simp [nodeCells_length]) ?_) | (refine wpList_load_seg rfl 83 _ rfl w.heap.size 16 16 rfl (nodeCells F) (by assumption) _ und_leaf rfl info_leaf (by simp [nodeCells_length]) ?_) | (refine wpList_eql_nils (n := 16) (cs := List.take 16 (nodeCells F)) rfl 82 _ _ _ rfl rfl rfl und_kids und_pn info_pn eqg_kids (half_len F 0 (by omega)) (half_ptr F 0 16) ?_; rw [HA.out]) | (refine wpList_eql_nils (n := 16) (cs := List.take 16 (List.drop 16 (nodeCells F))) rfl 83 _ _ _ rfl rfl rfl und_leaf und_pv info_pv eqg_leaf (half_len F 16 (by omega)) (half_ptr F 16 16) ?_; rw [HB.out]))
      go_returns
      have hu := Upd.setCell (w := w') (g := w.heap.size) (i := dg key (d + 1)) (.pointer (x.blk.map fun b => ⟨b, 0, none⟩))
      have hb4 := (hB2.trans (hb3.mono (by omega))).trans (hu.below (Nat.le_refl _))
      have hkids : ∀ i, (F i).at (w'.setCell ⟨w.heap.size, dg key (d + 1), none⟩ (.pointer (x.blk.map fun b => ⟨b, 0, none⟩))) := fun i => by
        rw [HF'.out]; unfold upd
        by_cases hi : i = k0
        · simp only [hi, if_true]
          refine Tr.at_upd hu hat ?_
          rw [HX.out]
          exact Tr.drop_all (Tr.all_mono (fun b hb => by omega) (Tr.all_kid (t := Tr.node bn f) (Tr.at_all HT.out) k0)) fun b hb => by omega
        · simp only [hi, if_false]; exact Tr.at_ext hb4 (HT.out.2 i)
      have hend := drop_end HF.out h3 hkids hb4 (hu.size.trans (HS2.out.trans (by omega)))
      first
        | exact hend.1 ((half_nil F).1 ⟨HA.out, HB.out⟩)
        | exact hend.2 fun h => (Bool.false_ne_true (HA.out.symm.trans ((half_nil F).2 h).1)).elim
        | exact hend.2 fun h => (Bool.false_ne_true (HB.out.symm.trans ((half_nil F).2 h).2)).elim
  exact hA _ _ rfl rfl
theorem without_any : ∀ (d : Nat) (t : Tr (d + 1)) (lv : Int) (key : Nat) (w : World), lv + d = 7 → 0 ≤ lv → t.at w → (t.get key).isSome = true → key < 4294967296 →
    Calls Tryd.prog 37 #[t.ptr, .int .i64 lv, .int .u32 key] w (DropPost t w key)
  | 0, none, lv, key, w, h1, h2, h3, h4, h5 => by rw [Tr.get_none] at h4; cases h4
  | d + 1, none, lv, key, w, h1, h2, h3, h4, h5 => by rw [Tr.get_none] at h4; cases h4
  | 0, some (bn, f), lv, key, w, h1, h2, h3, h4, h5 => by
    obtain rfl : lv = 7 := by omega
    exact without0 bn f key w h3 h5
  | d + 1, some (bn, f), lv, key, w, h1, h2, h3, h4, h5 => withoutS (without_any d) bn f lv key w (by omega) h2 h3 h4 h5
end Go.Proofs.YtihmhledogppmaaDoor
