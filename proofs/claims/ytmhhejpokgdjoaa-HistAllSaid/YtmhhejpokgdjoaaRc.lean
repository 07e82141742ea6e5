/- The walk of levyref3.stamped. -/
import Derived.Test.YtmhhejpokgdjoaaRb
namespace Go.Proofs.Ytmhhejpokgdjoaa
open Go Go.RowKit
set_option linter.unusedVariables false
set_option linter.unusedSimpArgs false

theorem Own.congr {α : Type} {w : World} {base : Nat} {ty : TypeId} {s : Nat} {enc : α → List Value} {v : Value} {l l' : List α} (h : Own w base ty s enc v l) (hl : l.length = l'.length) (hf : l.flatMap enc = l'.flatMap enc) : Own w base ty s enc v l' :=
  ⟨by rw [← hl, ← hf]; exact h.row, by rw [h.nil, ← List.length_eq_zero_iff, ← List.length_eq_zero_iff, hl]⟩
theorem RefO.stamp {w : World} {b g n c m k : Nat} {v1 v2 : Value} {l1 l2 l3 : List RE} {e : RE} {x : Int} (h : RefO w b v1 v2 (.slice (some ⟨g, 0, none⟩) n c) l1 l2 l3) (hm : l3[m]? = some e) (hk : k < 8) :
    RefO (w.setCell ⟨g, m * 8 + k, none⟩ (.int .i64 x)) b v1 v2 (.slice (some ⟨g, 0, none⟩) n c) l1 l2 (l3.set m (setS e k x)) ∧ Below (b + 1) w (w.setCell ⟨g, m * 8 + k, none⟩ (.int .i64 x)) ∧
      w.cell? ⟨g, m * 8 + k, none⟩ = some (.int .i64 (e.s k)) ∧ w.frozen? ⟨g, m * 8 + k, none⟩ = false := by
  obtain ⟨a', c', hs, _⟩ := own_len h.o3
  simp only [Value.slice.injEq] at hs
  obtain ⟨_, rfl, _⟩ := hs
  have hg : b + 1 ≤ g := h.o3.block g rfl
  obtain ⟨r1, r2⟩ := h.o3.row.stored (m * 8 + k) (.int .i64 x)
  have hml := (List.getElem?_eq_some_iff.1 hm).1
  have hj : (l3.flatMap encRS)[m * 8 + k]? = some (.int .i64 (e.s k)) := flatMap_get encRS_len l3 m k e _ hm (encRS_get e k hk)
  have hc := h.o3.row.cellAt (m * 8 + k) (by have := Nat.mul_le_mul_right 8 (show m + 1 ≤ l3.length by omega); omega)
  rw [flat_set l3 m k e x hm hk] at r1
  refine ⟨⟨?_, ?_, ?_, ⟨?_, ?_⟩⟩, ?_, ?_, ?_⟩
  · exact h.cells.upd (g := g) (Upd.setCell (i := m * 8 + k) _) (by omega)
  · exact ⟨h.o1.row.kept r2 (own_two h.o1 h.o3 (by decide)), h.o1.nil⟩
  · exact ⟨h.o2.row.kept r2 (own_two h.o2 h.o3 (by decide)), h.o2.nil⟩
  · rw [List.length_set]; exact r1
  · have := h.o3.nil
    simp only [reduceCtorEq, Value.slice.injEq, false_and, false_iff] at this ⊢
    simpa using this
  · exact (Upd.setCell (i := m * 8 + k) _ : Upd g w _).below (by omega)
  · rw [hc]; exact hj
  · exact h.o3.row.frozenAt _
/-- It lies in blocks from b on alone. -/
theorem RefO.move {w X : World} {b : Nat} {v1 v2 v3 : Value} {l1 l2 l3 : List RE} (h : RefO w b v1 v2 v3 l1 l2 l3) (hX : ∀ k, b ≤ k → X.heap[k]? = w.heap[k]?) : RefO X b v1 v2 v3 l1 l2 l3 := by
  have own : ∀ {α : Type} {ty : TypeId} {s : Nat} {enc : α → List Value} {v : Value} {l : List α}, Own w (b + 1) ty s enc v l → Own X (b + 1) ty s enc v l := by
    intro α ty s enc v l h
    obtain ⟨⟨hlen, hr⟩, hn⟩ := h
    refine ⟨⟨hlen, hr.imp id ?_⟩, hn⟩
    rintro ⟨g, cap, cur, rfl, h2, h3, h4⟩
    exact ⟨g, cap, cur, rfl, h2, (hX g (by omega)).trans h3, h4⟩
  obtain ⟨t, ht⟩ := h.cells
  exact ⟨⟨t, (hX b (Nat.le_refl _)).trans ht⟩, own h.o1, own h.o2, own h.o3⟩
/-- Where a map of the reference came from: it is the old one, or it lies in new blocks alone. -/
def NewR (w w' : World) (b b' : Nat) (l l' : List RE) : Prop := (b' = b ∧ l' = l) ∨ ∀ X, (∀ k, w.heap.size ≤ k → X.heap[k]? = w'.heap[k]?) → RefAt X b' l'
theorem stampR_len (l : List RE) (id : Nat) (x : Int) : (stampR l id x).length = l.length := by simp [stampR]
theorem stampR_I (l : List RE) (id : Nat) (x : Int) : (stampR l id x).flatMap encRI = l.flatMap encRI := by
  unfold stampR
  rw [List.flatMap_map]
  rfl
theorem stampR_V (l : List RE) (id : Nat) (x : Int) : (stampR l id x).flatMap encRV = l.flatMap encRV := by
  unfold stampR
  rw [List.flatMap_map]
  rfl
theorem own_slice {α : Type} {w : World} {base : Nat} {ty : TypeId} {s : Nat} {enc : α → List Value} {v : Value} {l : List α} (h : Own w base ty s enc v l) (hne : l ≠ []) : ∃ g c, v = .slice (some ⟨g, 0, none⟩) l.length c := by
  rcases h.row.2 with ⟨rfl, h0⟩ | ⟨g, cap, cur, rfl, _, _, hn, _⟩
  · exact absurd (List.length_eq_zero_iff.1 h0) hne
  · exact ⟨_, _, rfl⟩
set_option maxRecDepth 100000 in
set_option maxHeartbeats 1600000 in
theorem stamped_r (b id : Nat) (x : Int) (l : List RE) (v1 v2 v3 : Value) (w : World) (h : RefO w b v1 v2 v3 l l l) (hids : ∀ e ∈ l, e.id < 4294967296) (hid : id < 4294967296) (hl : l.length ≤ 1099511627777) :
    Calls Try.prog 84 #[.pointer (some ⟨b, 0, none⟩), .int .u32 (id : Nat), .int .i64 x] w fun e w' => (∃ v, e = .returned v) ∧ RefO w' b v1 v2 v3 (stampR l id x) (stampR l id x) (stampR l id x) ∧ Below (b + 1) w w' := by
  obtain ⟨a1, c1, rfl, _⟩ := own_len h.o1
  have H := Lib.hid h
  have HI := Lib.hid hids
  clear h hids
  go_enter Try.func84, Try.ntmps84
  go_wp2
  go_loopw [6] (fun i wr => ∃ m : Nat, m ≤ l.length ∧ i = .int .i64 (m : Int) ∧ RefO wr b (.slice a1 l.length c1) v2 v3 l l (stmL l id x m 0) ∧ Below (b + 1) w wr) (fun i _ => l.length - (intOf i).toNat)
  case atStart =>
    refine ⟨0, by omega, rfl, ⟨H.out.cells, H.out.o1, H.out.o2, H.out.o3.congr (by rw [stmL_len]) (stmL_zero l id x).symm⟩, Below.refl _ _⟩
  case round =>
    obtain ⟨m, hm, rfl, hr, hB⟩ := hrel
    obtain ⟨wo, rfl⟩ : ∃ wo, wo = wr := ⟨wr, rfl⟩
    have c0 := hr.cells.cell (i := 0) rfl
    by_cases hml : m < l.length
    · have e1 : l[m]? = some l[m] := List.getElem?_eq_getElem hml
      generalize l[m] = y at e1
      have hy := HI.out y (List.mem_of_getElem? e1)
      have HR := Lib.hid hr
      have HB := Lib.hid hB
      have E1 := Lib.hid e1
      clear e1 hr hB
      go_wp2
      clear c0
      go_loopw [7] (fun i wr => ∃ k : Nat, k ≤ 8 ∧ i = .int .i64 (k : Int) ∧ RefO wr b (.slice a1 l.length c1) v2 v3 l l (stmL l id x m k) ∧ Below (b + 1) w wr) (fun i _ => 8 - (intOf i).toNat)
      case atStart => exact ⟨0, by omega, rfl, HR.out, HB.out⟩
      case round =>
        obtain ⟨k, hk, rfl, hr, hB⟩ := hrel
        by_cases hk8 : k < 8
        · have d1 : decide ((k : Int) < 8) = true := by simp; omega
          have c0 := hr.cells.cell (i := 0) rfl
          have c2 := hr.cells.cell (i := 2) rfl
          obtain ⟨g1, o1, rfl, _, hc⟩ := rd_elt (hr.o1.rd encRI_len) E1.out
          have f0 := hc 0 _ rfl
          simp only [Nat.add_zero, Nat.mul_one] at f0
          obtain ⟨g3, c3, rfl⟩ := own_slice hr.o3 (by intro e; have := stmL_len l id x m k; rw [e] at this; simp at this; omega)
          rw [stmL_len] at hr c2 HR
          obtain ⟨r1, r2, q0, q1⟩ := hr.stamp (x := x) (stmL_get l id x m k y E1.out) hk8
          rw [stmL_len]
          have HRR := Lib.hid hr
          have R1 := Lib.hid r1
          have R2 := Lib.hid (hB.trans (r2.mono (Nat.le_refl _)))
          have HBB := Lib.hid hB
          clear hc hr r1 r2 hB
          by_cases hp : pre y.id k = pre id k
          · have d2 : (((pre y.id k : Nat) : Int) == ((pre id k : Nat) : Int)) = true := by simp; omega
            have r3 := R1.out
            rw [stmL_set l id x m k y E1.out hp] at r3
            have R3 := Lib.hid r3
            clear hp R1 r3
            go_wp2_with fail
            refine (prefix_any y.id k (by omega) hy _).mono ?_
            rintro e w' ⟨rfl, rfl⟩
            go_wp2_with fail
            refine (prefix_any id k (by omega) hid _).mono ?_
            rintro e w' ⟨rfl, rfl⟩
            go_wp2
            go_roundw
            case rel => exact ⟨k + 1, by omega, by go_num, R3.out, R2.out⟩
            case measure => simp [intOf]; omega
          · have d2 : (((pre y.id k : Nat) : Int) == ((pre id k : Nat) : Int)) = false := by simp; omega
            have r3 := HRR.out
            rw [stmL_skip l id x m k y E1.out hp] at r3
            have R3 := Lib.hid r3
            clear hp R1 r3
            go_wp2_with fail
            refine (prefix_any y.id k (by omega) hy _).mono ?_
            rintro e w' ⟨rfl, rfl⟩
            go_wp2_with fail
            refine (prefix_any id k (by omega) hid _).mono ?_
            rintro e w' ⟨rfl, rfl⟩
            go_wp2
            go_roundw
            case rel => exact ⟨k + 1, by omega, by go_num, R3.out, HBB.out⟩
            case measure => simp [intOf]; omega
        · obtain rfl : k = 8 := by omega
          have hr2 : RefO wr b (.slice a1 l.length c1) v2 v3 l l (stmL l id x (m + 1) 0) := ⟨hr.cells, hr.o1, hr.o2, hr.o3.congr (by rw [stmL_len, stmL_len]) (stmL_next l id x m)⟩
          have HR2 := Lib.hid hr2
          have HB2 := Lib.hid hB
          clear hr hr2 hB
          go_wp2
          go_roundw
          case rel => exact ⟨m + 1, by omega, by go_num, HR2.out, HB2.out⟩
          case measure => simp [intOf]; omega
    · obtain rfl : m = l.length := by omega
      have hr2 : RefO wo b (.slice a1 l.length c1) v2 v3 (stampR l id x) (stampR l id x) (stampR l id x) := ⟨hr.cells, hr.o1.congr (stampR_len l id x).symm (stampR_I l id x).symm, hr.o2.congr (stampR_len l id x).symm (stampR_V l id x).symm, hr.o3.congr (by rw [stmL_len, stampR_len]) (stmL_all l id x)⟩
      have HR2 := Lib.hid hr2
      have HB2 := Lib.hid hB
      clear hr hr2 hB
      go_wp2
      first
        | (go_end0; exact ⟨⟨_, rfl⟩, HR2.out, HB2.out⟩)
        | (go_returns; exact ⟨⟨_, rfl⟩, HR2.out, HB2.out⟩)
end Go.Proofs.Ytmhhejpokgdjoaa
