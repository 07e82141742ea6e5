/- A map of the reference that is being built; the walk of stamped. -/
import Derived.Test.YtmhhejpokgdjoaaRa
import Derived.Deep.DeepCutAuto
import Derived.Deep.CutBlock
namespace Go.Proofs.Ytmhhejpokgdjoaa
open Go Go.RowKit
set_option linter.unusedVariables false
set_option linter.unusedSimpArgs false

theorem info_u32R : (Try.prog.info? 48).map (fun i => (i.zero, i.size, i.bytes)) = some (some (.int .u32 0), 1, 4) := by kernel_rfl
theorem info_va : (Try.prog.info? 50).map (fun i => (i.zero, i.size, i.bytes)) = some (some (.agg #[.int .i64 0, .int .i64 0]), 2, 16) := by kernel_rfl
theorem info_a8 : (Try.prog.info? 156).map (fun i => (i.zero, i.size, i.bytes)) = some (some (.agg #[.int .i64 0, .int .i64 0, .int .i64 0, .int .i64 0, .int .i64 0, .int .i64 0, .int .i64 0, .int .i64 0]), 8, 64) := by kernel_rfl
theorem und_u32R : Try.prog.underlying 53 = some (.slice 48) := by kernel_rfl
theorem und_vas : Try.prog.underlying 144 = some (.slice 50) := by kernel_rfl
theorem und_a8s : Try.prog.underlying 145 = some (.slice 156) := by kernel_rfl
theorem und_a8 : Try.prog.underlying 156 = some (.array 8 3) := by kernel_rfl
/-- Two rows of the call's own, of two kinds of elements: they lie in two blocks. -/
theorem own_two {α β : Type} {w : World} {base base' : Nat} {t t' : TypeId} {s s' : Nat} {enc : α → List Value} {enc' : β → List Value} {v v' : Value} {l : List α} {l' : List β} (h : Own w base t s enc v l) (h' : Own w base' t' s' enc' v' l') (ht : t ≠ t') : v.ownBlock = none ∨ v.ownBlock ≠ v'.ownBlock := by
  rcases h.row.2 with ⟨rfl, _⟩ | ⟨g, cap, cur, rfl, _, hg, _⟩
  · exact .inl rfl
  · right
    rcases h'.row.2 with ⟨rfl, _⟩ | ⟨g', cap', cur', rfl, _, hg', _⟩
    · simp [Value.ownBlock]
    · intro e
      simp only [Value.ownBlock, Option.some.injEq] at e
      subst e
      rw [hg] at hg'
      simp only [Option.some.injEq, Obj.cells.injEq] at hg'
      exact ht hg'.2.1
/-- The map in block b, its three lists of the call's own. -/
structure RefO (w : World) (b : Nat) (v1 v2 v3 : Value) (l1 l2 l3 : List RE) : Prop where
  cells : Holds w b [v1, v2, v3]
  o1 : Own w (b + 1) 48 1 encRI v1 l1
  o2 : Own w (b + 1) 50 2 encRV v2 l2
  o3 : Own w (b + 1) 156 8 encRS v3 l3
theorem RefO.ext {w w' : World} {b : Nat} {v1 v2 v3 : Value} {l1 l2 l3 : List RE} (h : RefO w b v1 v2 v3 l1 l2 l3) (hb : Below w.heap.size w w') : RefO w' b v1 v2 v3 l1 l2 l3 := ⟨h.cells.ext hb, h.o1.below hb, h.o2.below hb, h.o3.below hb⟩
theorem RefO.push1 {w W : World} {b : Nat} {v1 v2 v3 v' : Value} {l1 l2 l3 l : List RE} (h : RefO w b v1 v2 v3 l1 l2 l3) (hg : Grew w W v1 v') (ho : Own W (b + 1) 48 1 encRI v' l) : RefO (W.setCell ⟨b, 0, none⟩ v') b v' v2 v3 l l2 l3 ∧ Below b w (W.setCell ⟨b, 0, none⟩ v') ∧ W.cell? ⟨b, 0, none⟩ = some v1 ∧ W.frozen? ⟨b, 0, none⟩ = false := by
  have hlt := h.cells.lt
  have hbw : Below (b + 1) w W := hg.below (by omega) h.o1.block
  have hc := h.cells.below hbw (by omega)
  have u : Upd b W (W.setCell ⟨b, 0, none⟩ v') := Upd.setCell v'
  exact ⟨⟨hc.setCell (i := 0) v', ho.upd u (by omega), (h.o2.grew hg (own_two h.o2 h.o1 (by decide))).upd u (by omega), (h.o3.grew hg (own_two h.o3 h.o1 (by decide))).upd u (by omega)⟩, (hbw.mono (by omega)).trans (u.below (Nat.le_refl _)), hc.cell (i := 0) rfl, hc.free 0⟩
theorem RefO.push2 {w W : World} {b : Nat} {v1 v2 v3 v' : Value} {l1 l2 l3 l : List RE} (h : RefO w b v1 v2 v3 l1 l2 l3) (hg : Grew w W v2 v') (ho : Own W (b + 1) 50 2 encRV v' l) : RefO (W.setCell ⟨b, 1, none⟩ v') b v1 v' v3 l1 l l3 ∧ Below b w (W.setCell ⟨b, 1, none⟩ v') ∧ W.cell? ⟨b, 1, none⟩ = some v2 ∧ W.frozen? ⟨b, 1, none⟩ = false := by
  have hlt := h.cells.lt
  have hbw : Below (b + 1) w W := hg.below (by omega) h.o2.block
  have hc := h.cells.below hbw (by omega)
  have u : Upd b W (W.setCell ⟨b, 1, none⟩ v') := Upd.setCell v'
  exact ⟨⟨hc.setCell (i := 1) v', (h.o1.grew hg (own_two h.o1 h.o2 (by decide))).upd u (by omega), ho.upd u (by omega), (h.o3.grew hg (own_two h.o3 h.o2 (by decide))).upd u (by omega)⟩, (hbw.mono (by omega)).trans (u.below (Nat.le_refl _)), hc.cell (i := 1) rfl, hc.free 1⟩
theorem RefO.push3 {w W : World} {b : Nat} {v1 v2 v3 v' : Value} {l1 l2 l3 l : List RE} (h : RefO w b v1 v2 v3 l1 l2 l3) (hg : Grew w W v3 v') (ho : Own W (b + 1) 156 8 encRS v' l) : RefO (W.setCell ⟨b, 2, none⟩ v') b v1 v2 v' l1 l2 l ∧ Below b w (W.setCell ⟨b, 2, none⟩ v') ∧ W.cell? ⟨b, 2, none⟩ = some v3 ∧ W.frozen? ⟨b, 2, none⟩ = false := by
  have hlt := h.cells.lt
  have hbw : Below (b + 1) w W := hg.below (by omega) h.o3.block
  have hc := h.cells.below hbw (by omega)
  have u : Upd b W (W.setCell ⟨b, 2, none⟩ v') := Upd.setCell v'
  exact ⟨⟨hc.setCell (i := 2) v', (h.o1.grew hg (own_two h.o1 h.o3 (by decide))).upd u (by omega), (h.o2.grew hg (own_two h.o2 h.o3 (by decide))).upd u (by omega), ho.upd u (by omega)⟩, (hbw.mono (by omega)).trans (u.below (Nat.le_refl _)), hc.cell (i := 2) rfl, hc.free 2⟩
theorem own_len {α : Type} {w : World} {base : Nat} {ty : TypeId} {s : Nat} {enc : α → List Value} {v : Value} {l : List α} (h : Own w base ty s enc v l) : ∃ a c, v = .slice a l.length c ∧ l.length ≤ c := by
  rcases h.row.2 with ⟨rfl, h0⟩ | ⟨g, cap, cur, rfl, _, _, hn, _⟩
  · exact ⟨none, 0, by rw [h0], by omega⟩
  · exact ⟨_, _, rfl, hn⟩
theorem RefO.at_ {w : World} {b : Nat} {v1 v2 v3 : Value} {l : List RE} (h : RefO w b v1 v2 v3 l l l) (hid : ∀ e ∈ l, e.id < 4294967296) : RefAt w b l := by
  obtain ⟨a1, c1, rfl, _⟩ := own_len h.o1
  obtain ⟨a2, c2, rfl, _⟩ := own_len h.o2
  obtain ⟨a3, c3, rfl, _⟩ := own_len h.o3
  exact ⟨⟨a1, c1, a2, c2, a3, c3, h.cells, h.o1.rd encRI_len, h.o2.rd encRV_len, h.o3.rd encRS_len⟩, hid⟩
/-! ### stamped -/
def setS (e : RE) (k : Nat) (x : Int) : RE := { e with s := fun j => if j = k then x else e.s j }
def stE (id : Nat) (x : Int) (e : RE) : RE := { e with s := fun j => if pre e.id j = pre id j then x else e.s j }
/-- The stamps below level k are set. -/
def stK (id : Nat) (x : Int) (k : Nat) (e : RE) : RE := { e with s := fun j => if j < k ∧ pre e.id j = pre id j then x else e.s j }
def stampR (l : List RE) (id : Nat) (x : Int) : List RE := l.map (stE id x)
/-- Of l the first m are stamped whole, the next one below level k. -/
def stmL (l : List RE) (id : Nat) (x : Int) (m k : Nat) : List RE := (l.take m).map (stE id x) ++ (match l[m]? with | some e => [stK id x k e] | none => []) ++ l.drop (m + 1)
theorem encRS_set (e : RE) (k : Nat) (x : Int) (hk : k < 8) : encRS (setS e k x) = (encRS e).set k (.int .i64 x) := by
  match k, hk with
  | 0, _ | 1, _ | 2, _ | 3, _ | 4, _ | 5, _ | 6, _ | 7, _ => rfl
theorem encRS_get (e : RE) (k : Nat) (hk : k < 8) : (encRS e)[k]? = some (.int .i64 (e.s k)) := by
  match k, hk with
  | 0, _ | 1, _ | 2, _ | 3, _ | 4, _ | 5, _ | 6, _ | 7, _ => rfl
theorem flat_set (l : List RE) : ∀ (m k : Nat) (e : RE) (x : Int), l[m]? = some e → k < 8 → (l.flatMap encRS).set (m * 8 + k) (.int .i64 x) = (l.set m (setS e k x)).flatMap encRS := by
  induction l with
  | nil => intro m k e x h; simp at h
  | cons y l ih =>
    intro m k e x h hk
    cases m with
    | zero =>
      simp only [List.getElem?_cons_zero, Option.some.injEq] at h
      subst h
      rw [List.set_cons_zero, List.flatMap_cons, List.flatMap_cons, Nat.zero_mul, Nat.zero_add, List.set_append, if_pos (by rw [encRS_len]; exact hk), encRS_set _ _ _ hk]
    | succ m =>
      simp only [List.getElem?_cons_succ] at h
      rw [List.set_cons_succ, List.flatMap_cons, List.flatMap_cons, List.set_append, if_neg (by rw [encRS_len, Nat.add_mul]; omega), encRS_len, show (m + 1) * 8 + k - 8 = m * 8 + k by rw [Nat.add_mul]; omega, ih m k e x h hk]
theorem stmL_get (l : List RE) (id : Nat) (x : Int) (m k : Nat) (e : RE) (h : l[m]? = some e) : (stmL l id x m k)[m]? = some (stK id x k e) := by
  have hm := (List.getElem?_eq_some_iff.1 h).1
  unfold stmL
  rw [h, List.append_assoc, List.getElem?_append_right (by simp; omega), List.length_map, List.length_take, Nat.min_eq_left (by omega), Nat.sub_self]
  rfl
theorem stmL_len (l : List RE) (id : Nat) (x : Int) (m k : Nat) : (stmL l id x m k).length = l.length := by
  unfold stmL
  cases h : l[m]? with
  | none =>
    have := List.getElem?_eq_none_iff.1 h
    simp
    omega
  | some e =>
    have hm := (List.getElem?_eq_some_iff.1 h).1
    simp
    omega
theorem setS_stK (id : Nat) (x : Int) (k : Nat) (e : RE) (h : pre e.id k = pre id k) : setS (stK id x k e) k x = stK id x (k + 1) e := by
  unfold setS stK
  congr 1
  funext j
  by_cases hj : j = k
  · subst hj; simp [h]
  · rw [if_neg hj]
    by_cases hlt : j < k
    · simp [hlt, show j < k + 1 by omega]
    · simp [hlt, show ¬ j < k + 1 by omega]
theorem stK_skip (id : Nat) (x : Int) (k : Nat) (e : RE) (h : ¬ pre e.id k = pre id k) : stK id x k e = stK id x (k + 1) e := by
  unfold stK
  congr 1
  funext j
  by_cases hj : j = k
  · subst hj; simp [h]
  · by_cases hlt : j < k
    · simp [hlt, show j < k + 1 by omega]
    · simp [hlt, show ¬ j < k + 1 by omega]
theorem stmL_set (l : List RE) (id : Nat) (x : Int) (m k : Nat) (e : RE) (h : l[m]? = some e) (hp : pre e.id k = pre id k) : (stmL l id x m k).set m (setS (stK id x k e) k x) = stmL l id x m (k + 1) := by
  have hm := (List.getElem?_eq_some_iff.1 h).1
  rw [setS_stK _ _ _ _ hp]
  unfold stmL
  rw [h, List.append_assoc, List.append_assoc, List.set_append, if_neg (by simp; omega), List.length_map, List.length_take, Nat.min_eq_left (by omega), Nat.sub_self]
  rfl
theorem stmL_skip (l : List RE) (id : Nat) (x : Int) (m k : Nat) (e : RE) (h : l[m]? = some e) (hp : ¬ pre e.id k = pre id k) : stmL l id x m k = stmL l id x m (k + 1) := by
  unfold stmL
  rw [h]
  dsimp only
  rw [stK_skip _ _ _ _ hp]
theorem encRS_same {e f : RE} (h : ∀ j, j < 8 → e.s j = f.s j) : encRS e = encRS f := by
  unfold encRS
  simp [h]
theorem encRS_whole (id : Nat) (x : Int) (e : RE) : encRS (stK id x 8 e) = encRS (stE id x e) := encRS_same fun j hj => by simp [stK, stE, hj]
theorem encRS_none (id : Nat) (x : Int) (e : RE) : encRS (stK id x 0 e) = encRS e := encRS_same fun j hj => by simp [stK]
theorem stmL_next (l : List RE) (id : Nat) (x : Int) (m : Nat) : (stmL l id x m 8).flatMap encRS = (stmL l id x (m + 1) 0).flatMap encRS := by
  unfold stmL
  cases h : l[m]? with
  | none =>
    have := List.getElem?_eq_none_iff.1 h
    rw [List.getElem?_eq_none (by omega : l.length ≤ m + 1), List.take_of_length_le this, List.take_of_length_le (by omega), List.drop_of_length_le (by omega), List.drop_of_length_le (by omega)]
  | some e =>
    have hm := (List.getElem?_eq_some_iff.1 h).1
    have he := (List.getElem?_eq_some_iff.1 h).2
    rw [List.take_succ_eq_append_getElem hm, he]
    cases h2 : l[m + 1]? with
    | none =>
      have := List.getElem?_eq_none_iff.1 h2
      simp [List.drop_of_length_le this, List.drop_of_length_le (show l.length ≤ m + 1 + 1 by omega), encRS_whole]
    | some f =>
      have hm2 := (List.getElem?_eq_some_iff.1 h2).1
      have hf := (List.getElem?_eq_some_iff.1 h2).2
      have hd : l.drop (m + 1) = f :: l.drop (m + 1 + 1) := by rw [← hf]; exact (List.getElem_cons_drop hm2).symm
      rw [hd]
      simp [encRS_whole, encRS_none]
theorem stmL_zero (l : List RE) (id : Nat) (x : Int) : (stmL l id x 0 0).flatMap encRS = l.flatMap encRS := by
  unfold stmL
  cases l with
  | nil => rfl
  | cons e l => simp [encRS_none]
theorem stmL_all (l : List RE) (id : Nat) (x : Int) : (stmL l id x l.length 0).flatMap encRS = (stampR l id x).flatMap encRS := by
  unfold stmL stampR
  rw [List.drop_of_length_le (by omega)]
  simp
end Go.Proofs.Ytmhhejpokgdjoaa
