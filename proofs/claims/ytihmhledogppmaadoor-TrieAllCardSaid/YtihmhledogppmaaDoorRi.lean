/- The walks of levyref3's Empty, Get, Len, List, From. -/
import Derived.Test.YtihmhledogppmaaDoorRd
import Derived.Test.YtihmhledogppmaaDoorLaB
import Derived.Test.YtihmhledogppmaaDoorWk
namespace Go.Proofs.YtihmhledogppmaaDoor
open Go Go.RowKit
set_option linter.unusedVariables false
set_option linter.unusedSimpArgs false
attribute [local go_sem] Oper.semAt_some

def entR (e : RE) : Nat × V := (e.id, e.v)
theorem rempty_any (w : World) : Calls Tryd.prog 38 #[] w fun e w' => ∃ b, e = .returned (.pointer (some ⟨b, 0, none⟩)) ∧ RefAt w' b [] ∧ Below w.heap.size w w' := by
  have hb := Holds.alloc w [.slice none 0 0, .slice none 0 0, .slice none 0 0] 120
  have hba : Below w.heap.size w (w.alloc (.cells #[.slice none 0 0, .slice none 0 0, .slice none 0 0] 120)) := (Below.refl _ _).alloc (Nat.le_refl _) _
  have HB := Lib.hid hb
  have HBA := Lib.hid hba
  clear hb hba
  go_enter Tryd.func38, Tryd.ntmps38
  go_wp2
  go_returns
  exact ⟨_, rfl, ⟨⟨none, 0, none, 0, none, 0, HB.out, rd_nil _ _ _, rd_nil _ _ _, rd_nil _ _ _⟩, by simp⟩, HBA.out⟩
theorem rlen_any (b : Nat) (l : List RE) (w : World) (h : RefAt w b l) : Calls Tryd.prog 43 #[.pointer (some ⟨b, 0, none⟩)] w fun e w' => e = .returned (.int .i64 (l.length : Nat)) ∧ w = w' := by
  obtain ⟨ia, ic, va, vc, sa, sc, h1, _⟩ := h.cells
  have c0 := h1.cell (i := 0) rfl
  clear h h1
  go_enter Tryd.func43, Tryd.ntmps43
  go_wp2
  go_returns
  exact ⟨rfl, rfl⟩
set_option maxRecDepth 100000 in
set_option maxHeartbeats 800000 in
theorem rlist_any (b : Nat) (l : List RE) (w : World) (h : RefAt w b l) (hl : l.length ≤ 1099511627776) :
    Calls Tryd.prog 45 #[.pointer (some ⟨b, 0, none⟩)] w fun e w' => ∃ es, e = .returned es ∧ Own w' w.heap.size 43 3 encL es (l.map entR) ∧ Below w.heap.size w w' := by
  obtain ⟨i0, hi0, ha0, hb0, hc0⟩ := info_parts info_entry
  have HR := Lib.hid h
  clear h
  go_enter Tryd.func45, Tryd.ntmps45
  go_wp2
  go_loopw [3, 4] (fun es i wr => ∃ k : Nat, k ≤ l.length ∧ i = .int .i64 (k : Int) ∧ Own wr w.heap.size 43 3 encL es ((l.map entR).take k) ∧ Below w.heap.size w wr) (fun _ i _ => l.length - (intOf i).toNat)
  case atStart => exact ⟨0, by omega, rfl, by rw [List.take_zero]; exact own_nil _ _ _ _ _, Below.refl _ _⟩
  case round =>
    obtain ⟨k, hk, rfl, hO, hB⟩ := hrel
    obtain ⟨ia, ic, va, vc, sa, sc, q1, q2, q3, q4⟩ := (HR.out.ext hB).cells
    have s0 := q1.cell (i := 0) rfl
    have s1 := q1.cell (i := 1) rfl
    obtain ⟨ea, ec, rfl, hef⟩ := own_len hO
    by_cases hkl : k < l.length
    · have e1 : l[k]? = some l[k] := List.getElem?_eq_getElem hkl
      have hlt : ((l.map entR).take k).length = k := by simp; omega
      rw [hlt] at hO hef ⊢
      have hsucc : (l.map entR).take (k + 1) = (l.map entR).take k ++ [entR l[k]] := by
        rw [List.take_add_one, List.getElem?_map, e1]; rfl
      generalize l[k] = y at e1 hsucc
      obtain ⟨g1, o1, rfl, hg1, hc1⟩ := rd_elt q2 e1
      have f0 := hc1 0 _ rfl
      obtain ⟨g2, o2, rfl, hg2, hc2⟩ := rd_elt q3 e1
      have f1 := hc2 0 _ rfl
      have f2 := hc2 1 _ rfl
      simp only [Nat.add_zero, Nat.mul_one] at f0 f1
      have hal : Below wr.heap.size wr (wr.alloc (.cells #[.int .u32 (y.id : Nat), .int .i64 y.v.k, .int .i64 y.v.n] 43)) := (Below.refl _ _).alloc (Nat.le_refl _) _
      have hrow : Holds (wr.alloc (.cells #[.int .u32 (y.id : Nat), .int .i64 y.v.k, .int .i64 y.v.n] 43)) wr.heap.size (encL (entR y)) := Holds.alloc wr (encL (entR y)) 43
      have HAL := Lib.hid hal
      have HROW := Lib.hid hrow
      have HO := Lib.hid hO
      have HB := Lib.hid hB
      have HS := Lib.hid hsucc
      have HBZ := hB.size
      clear q1 q2 q3 q4 hc1 hc2 hal hrow hO hB hsucc e1
      go_wp2
      refine rgn [0, 1, 2, 3, 4, 5, 6, 7, 8, 9, 10, 11, 12, 13, 14, 15, 16, 17, 18] [] (by kernel_rfl) ?_
      simp only [pickL, List.getD_cons_zero, List.getD_cons_succ]
      go_wp2_with (at_builtin; refine wpList_append_one rfl _ _ _ rfl w.heap.size 43 i0 _ 3 24 und_entries hi0 ha0 hb0 hc0 rfl (by omega) encL _ ((l.map entR).take k) (entR y) rfl (HO.out.below HAL.out.drew) wr.heap.size rfl HROW.out.drew rfl (by intro u hu; simp only [encL, entR, List.mem_cons, List.not_mem_nil, or_false] at hu; rcases hu with rfl | rfl | rfl <;> rfl) (by rw [hlt]; simp only [maxLen]; omega) (by rw [hlt]; omega) (by simp; omega) ?_; intro v' W hO2 hG; have HO2 := Lib.hid hO2; have HB2 := Lib.hid (HB.out.trans ((HAL.out.drew.mono HBZ).trans (hG.below (by simp; omega) HO.out.block))); obtain ⟨sa', sn', sc', hsv⟩ := hO2.shape; subst hsv; clear hO2 hG)
      refine ⟨rfl, ?_⟩
      go_wp2
      go_roundw
      case rel => exact ⟨k + 1, by omega, by go_num, by rw [HS.out]; exact HO2.out, HB2.out⟩
      case measure => simp [intOf]; omega
    · have hall : (l.map entR).take k = l.map entR := List.take_of_length_le (by simp; omega)
      have hkk : k = l.length := by omega
      rw [hall] at hO ⊢
      rw [List.length_map] at hO ⊢
      subst hkk
      have HO := Lib.hid hO
      have HB := Lib.hid hB
      clear hO hB q1 q2 q3 q4 hall
      go_wp2
      go_returns
      exact ⟨_, rfl, HO.out, HB.out⟩
set_option maxRecDepth 100000 in
theorem rfrom_any (b id : Nat) (l : List RE) (w : World) (h : RefAt w b l) (hl : l.length ≤ 1099511627776) :
    Calls Tryd.prog 46 #[.pointer (some ⟨b, 0, none⟩), .int .u32 (id : Nat)] w fun e w' => ∃ es, e = .returned es ∧ Rd w' 3 encL es ((l.map entR).drop (plR l id)) ∧ Below w.heap.size w w' := by
  have HR := Lib.hid h
  have hpl := plR_le l id
  clear h
  go_enter Tryd.func46, Tryd.ntmps46
  go_wp2_with fail
  refine (place_r b id l w HR.out (by omega)).mono ?_
  rintro e w1 ⟨rfl, hb1⟩
  have R1 := Lib.hid (HR.out.ext hb1)
  have B1 := Lib.hid hb1
  clear hb1 HR
  go_wp2_with fail
  refine (rlist_any b l w1 R1.out hl).mono ?_
  rintro e w2 ⟨es, rfl, hO, hb2⟩
  obtain ⟨a, c, rfl, hf⟩ := own_len hO
  have hd := rd_drop (hO.rd encL_len) (plR l id) (by simp; exact hpl) hf
  rw [List.length_map] at hd hf ⊢
  have B2 := Lib.hid (B1.out.trans (hb2.mono B1.out.size))
  clear hO hb2
  by_cases hc : c = plR l id
  · rw [if_pos hc] at hd
    have HD := Lib.hid hd
    have hlp : l.length = plR l id := by omega
    clear hd
    subst hc
    have h0 : Hid (l.length = plR l id) := Lib.hid hlp
    go_wp2
    go_returns
    refine ⟨_, rfl, ?_, B2.out⟩
    have := HD.out
    rw [h0.out, Nat.sub_self] at this
    exact this
  · rw [if_neg hc] at hd
    have HD := Lib.hid hd
    clear hd
    go_wp2
    go_returns
    exact ⟨_, rfl, HD.out, B2.out⟩
/-- What the map holds at a key. -/
def getR (l : List RE) (id : Nat) : Option V := if okR l id then (l[plR l id]?).map (·.v) else none
set_option maxRecDepth 100000 in
set_option maxHeartbeats 800000 in
theorem rget_any (b id : Nat) (l : List RE) (w : World) (h : RefAt w b l) (hl : l.length ≤ 1099511627776) :
    Calls Tryd.prog 42 #[.pointer (some ⟨b, 0, none⟩), .int .u32 (id : Nat)] w fun e w' => e = .returned (.tuple #[.agg #[.int .i64 (gv (getR l id)).k, .int .i64 (gv (getR l id)).n], .bool (getR l id).isSome]) ∧ Below w.heap.size w w' := by
  have hal := Holds.alloc w (vCells ⟨0, 0⟩) 32
  have hba : Below w.heap.size w (w.alloc (.cells (vCells ⟨0, 0⟩).toArray 32)) := (Below.refl _ _).alloc (Nat.le_refl _) _
  have HAL := Lib.hid hal
  have HBA := Lib.hid hba
  have HR := Lib.hid (h.ext hba)
  clear h hal hba
  have fin : ∀ (W : World) (a : Act) (u : V) (o : Bool), Below w.heap.size w W → Holds W w.heap.size (vCells u) → a.tmps[4]?.getD undef = .pointer (some ⟨w.heap.size, 0, none⟩) → a.tmps[5]?.getD undef = .bool o → a.defers = [] → gv (getR l id) = u → (getR l id).isSome = o →
      bodyPost Tryd.prog Tryd.f42 (fun e w' => e = .returned (.tuple #[.agg #[.int .i64 (gv (getR l id)).k, .int .i64 (gv (getR l id)).n], .bool (getR l id).isSome]) ∧ Below w.heap.size w w') .ret a W := by
    intro W a u o hB hH h4 h5 hd h6 h7
    have c0 := hH.cell (i := 0) rfl
    have c1 := hH.cell (i := 1) rfl
    refine bodyPost_ret (v := .tuple #[.agg #[.int .i64 u.k, .int .i64 u.n], .bool o]) ?_ hd ?_
    · simp [results, Tryd.results42, go_sem, h4, h5, c0, c1]
    · exact ⟨by rw [h6, h7], hB⟩
  have FIN := Lib.hid fin
  clear fin
  have info_v2 : (Tryd.prog.info? 32).map (·.size) = some 2 := by kernel_rfl
  have one : ∀ v : V, ∀ x ∈ vCells v, x.oneCell' = true := by
    intro v x hx
    simp only [vCells, List.mem_cons, List.not_mem_nil, or_false] at hx
    rcases hx with rfl | rfl <;> rfl
  have HI := Lib.hid info_v2
  have HONE := Lib.hid one
  clear info_v2 one
  go_enter Tryd.func42, Tryd.ntmps42
  go_wp2_with fail
  refine (place_r b id l _ HR.out (by omega)).mono ?_
  rintro e w1 ⟨rfl, hb1⟩
  have R1 := Lib.hid (HR.out.ext hb1)
  have HH := Lib.hid (HAL.out.ext hb1)
  have B1 := Lib.hid (HBA.out.trans (hb1.mono HBA.out.size))
  clear hb1 HR HAL HBA
  obtain ⟨ok, HOK⟩ : ∃ ok, Hid (okR l id = ok) := ⟨_, Lib.hid rfl⟩
  rw [HOK.out]
  cases ok with
  | false =>
    have hn := Lib.hid (show getR l id = none by unfold getR; rw [HOK.out]; rfl)
    go_wp2_with (refine wpList_store_abs rfl 32 _ _ rfl w.heap.size _ (vCells ⟨0, 0⟩) rfl rfl HH.out HI.out rfl (HONE.out _) ?_; intro W2 hW2 hU)
    exact FIN.out _ _ ⟨0, 0⟩ false (B1.out.trans (hU.below (Nat.le_refl _))) hW2 rfl rfl rfl (by rw [hn.out]; rfl) (by rw [hn.out]; rfl)
  | true =>
    have hlt := ok_lt HOK.out
    have e1 : l[plR l id]? = some l[plR l id] := List.getElem?_eq_getElem hlt
    generalize l[plR l id] = y at e1
    obtain ⟨ia, ic, va, vc, sa, sc, q1, q2, q3, q4⟩ := R1.out.cells
    have s1 := q1.cell (i := 1) rfl
    obtain ⟨g2, o2, rfl, hg2, hc2⟩ := rd_elt q3 e1
    have f1 := hc2 0 _ rfl
    have f2 := hc2 1 _ rfl
    simp only [Nat.add_zero] at f1
    have hn := Lib.hid (show getR l id = some y.v by unfold getR; rw [HOK.out, e1]; rfl)
    clear e1 hc2 q1 q2 q3 q4
    go_wp2_with (refine wpList_store_abs rfl 32 _ _ rfl w.heap.size _ (vCells y.v) rfl rfl HH.out HI.out rfl (HONE.out _) ?_; intro W2 hW2 hU)
    exact FIN.out _ _ y.v true (B1.out.trans (hU.below (Nat.le_refl _))) hW2 rfl rfl rfl (by rw [hn.out]; rfl) (by rw [hn.out]; rfl)
end Go.Proofs.YtihmhledogppmaaDoor
