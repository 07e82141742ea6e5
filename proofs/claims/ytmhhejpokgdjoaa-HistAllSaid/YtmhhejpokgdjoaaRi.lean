/- The walks of levyref3's Empty, Get, Len, List, From. -/
import Derived.Test.YtmhhejpokgdjoaaRd
import Derived.Test.YtmhhejpokgdjoaaKaX
import Derived.Test.YtmhhejpokgdjoaaWk
namespace Go.Proofs.Ytmhhejpokgdjoaa
open Go Go.RowKit
set_option linter.unusedVariables false
set_option linter.unusedSimpArgs false
attribute [local go_sem] Oper.semAt_some

def entR (e : RE) : Nat × V := (e.id, e.v)
theorem rempty_any (w : World) : Calls Try.prog 69 #[] w fun e w' => ∃ b, e = .returned (.pointer (some ⟨b, 0, none⟩)) ∧ RefAt w' b [] ∧ Below w.heap.size w w' := by
  have hb := Holds.alloc w [.slice none 0 0, .slice none 0 0, .slice none 0 0] 147
  have hba : Below w.heap.size w (w.alloc (.cells #[.slice none 0 0, .slice none 0 0, .slice none 0 0] 147)) := (Below.refl _ _).alloc (Nat.le_refl _) _
  have HB := Lib.hid hb
  have HBA := Lib.hid hba
  clear hb hba
  go_enter Try.func69, Try.ntmps69
  go_wp2
  go_returns
  exact ⟨_, rfl, ⟨⟨none, 0, none, 0, none, 0, HB.out, rd_nil _ _ _, rd_nil _ _ _, rd_nil _ _ _⟩, by simp⟩, HBA.out⟩
def getR (l : List RE) (id : Nat) : Option V := if okR l id then (l[plR l id]?).map (·.v) else none
set_option maxRecDepth 100000 in
set_option maxHeartbeats 800000 in
theorem rlist_any (b : Nat) (l : List RE) (w : World) (h : RefAt w b l) (hl : l.length ≤ 1099511627776) :
    Calls Try.prog 73 #[.pointer (some ⟨b, 0, none⟩)] w fun e w' => ∃ es, e = .returned es ∧ Own w' w.heap.size 59 3 encL es (l.map entR) ∧ Below w.heap.size w w' := by
  obtain ⟨i0, hi0, ha0, hb0, hc0⟩ := info_parts info_entry
  have HR := Lib.hid h
  clear h
  go_enter Try.func73, Try.ntmps73
  go_wp2
  go_loopw [3, 4] (fun es i wr => ∃ k : Nat, k ≤ l.length ∧ i = .int .i64 (k : Int) ∧ Own wr w.heap.size 59 3 encL es ((l.map entR).take k) ∧ Below w.heap.size w wr) (fun _ i _ => l.length - (intOf i).toNat)
  case atStart => exact ⟨0, by omega, rfl, by rw [List.take_zero]; exact own_nil _ _ _ _ _, Below.refl _ _⟩
  case round =>
    obtain ⟨k, hk, rfl, hO, hB⟩ := hrel
    obtain ⟨ia, ic, va, vc, sa, sc, q1, q2, q3, q4⟩ := (HR.out.ext hB).cells
    have s0 := q1.cell (i := 0) rfl
    have s1 := q1.cell (i := 1) rfl
    obtain ⟨ea, ec, rfl, hef⟩ := own_len hO
    by_cases hkl : k < l.length
    · have e1 : l[k]? = some l[k] := List.getElem?_eq_getElem hkl
      have hlt : ((l.map entR).take k).length = k := by simp; omega
      rw [hlt] at hO hef ⊢
      have hsucc : (l.map entR).take (k + 1) = (l.map entR).take k ++ [entR l[k]] := by
        rw [List.take_add_one, List.getElem?_map, e1]; rfl
      generalize l[k] = y at e1 hsucc
      obtain ⟨g1, o1, rfl, hg1, hc1⟩ := rd_elt q2 e1
      have f0 := hc1 0 _ rfl
      obtain ⟨g2, o2, rfl, hg2, hc2⟩ := rd_elt q3 e1
      have f1 := hc2 0 _ rfl
      have f2 := hc2 1 _ rfl
      simp only [Nat.add_zero, Nat.mul_one] at f0 f1
      have hal : Below wr.heap.size wr (wr.alloc (.cells #[.int .u32 (y.id : Nat), .int .i64 y.v.k, .int .i64 y.v.n] 59)) := (Below.refl _ _).alloc (Nat.le_refl _) _
      have hrow : Holds (wr.alloc (.cells #[.int .u32 (y.id : Nat), .int .i64 y.v.k, .int .i64 y.v.n] 59)) wr.heap.size (encL (entR y)) := Holds.alloc wr (encL (entR y)) 59
      have HAL := Lib.hid hal
      have HROW := Lib.hid hrow
      have HO := Lib.hid hO
      have HB := Lib.hid hB
      have HS := Lib.hid hsucc
      have HBZ := hB.size
      clear q1 q2 q3 q4 hc1 hc2 hal hrow hO hB hsucc e1
      go_wp2
      refine rgn [0, 1, 2, 3, 4, 5, 6, 7, 8, 9, 10, 11, 12, 13, 14, 15, 16, 17, 18] [] (by kernel_rfl) ?_
      simp only [pickL, List.getD_cons_zero, List.getD_cons_succ]
      go_wp2_with (at_builtin; refine wpList_append_one rfl _ _ _ rfl w.heap.size 59 i0 _ 3 24 und_entries hi0 ha0 hb0 hc0 rfl (by omega) encL _ ((l.map entR).take k) (entR y) rfl (HO.out.below HAL.out.drew) wr.heap.size rfl HROW.out.drew rfl (by intro u hu; simp only [encL, entR, List.mem_cons, List.not_mem_nil, or_false] at hu; rcases hu with rfl | rfl | rfl <;> rfl) (by rw [hlt]; simp only [maxLen]; omega) (by rw [hlt]; omega) (by simp; omega) ?_; intro v' W hO2 hG; have HO2 := Lib.hid hO2; have HB2 := Lib.hid (HB.out.trans ((HAL.out.drew.mono HBZ).trans (hG.below (by simp; omega) HO.out.block))); obtain ⟨sa', sn', sc', hsv⟩ := hO2.shape; subst hsv; clear hO2 hG)
      refine ⟨rfl, ?_⟩
      go_wp2
      go_roundw
      case rel => exact ⟨k + 1, by omega, by go_num, by rw [HS.out]; exact HO2.out, HB2.out⟩
      case measure => simp [intOf]; omega
    · have hall : (l.map entR).take k = l.map entR := List.take_of_length_le (by simp; omega)
      have hkk : k = l.length := by omega
      rw [hall] at hO ⊢
      rw [List.length_map] at hO ⊢
      subst hkk
      have HO := Lib.hid hO
      have HB := Lib.hid hB
      clear hO hB q1 q2 q3 q4 hall
      go_wp2
      go_returns
      exact ⟨_, rfl, HO.out, HB.out⟩
end Go.Proofs.Ytmhhejpokgdjoaa
