/- The walk of the law's laid: a list of entries with one put or dropped. -/
import Derived.Test.YtihmhledogppmaaDoorLaD
import Derived.Test.YtihmhledogppmaaDoorTrX
namespace Go.Proofs.YtihmhledogppmaaDoor
open Go Go.RowKit
set_option linter.unusedVariables false
set_option linter.unusedSimpArgs false

theorem Own.drew {α : Type} {w : World} {base : Nat} {ty : TypeId} {s : Nat} {enc : α → List Value} {v : Value} {l : List α} (h : Own w base ty s enc v l) : Own w.drew base ty s enc v l := h.below (Below.refl _ _).drew
/-- A Put of the law: its key, its value, whether it drops. -/
structure PutL where
  id : Nat
  v : V
  gone : Bool
def putCells (x : PutL) : List Value := [.int .u32 (x.id : Nat), .int .i64 x.v.k, .int .i64 x.v.n, .bool x.gone]
theorem wpList_app_entry {ops : Array Oper} {rest : List Oper} {o : Oper} {a : Act} {w : World} {Q : Exit → Act → World → Prop} (hgd : o.guard = none) (s x : Operand)
    (ho : o.op = .call { callee := .builtin .append, args := #[s, x], argTypes := #[35, 35] })
    (base : Nat) (v : Value) (l : List (Nat × V)) (y : Nat × V) (hown : Own w base 43 3 encL v l) (hs : a.eval s = v)
    (ad : Nat) (hx : a.eval x = .slice (some ⟨ad, 0, none⟩) 1 1) (hrow : Holds w ad (encL y)) (hn : l.length ≤ 1000000) (hbase : base ≤ w.heap.size)
    (h : ∀ v' W, Own W base 43 3 encL v' (l ++ [y]) → Grew w W v v' → wpList Tryd.prog ops Q rest (a.put o.dst v') W) :
    wpList Tryd.prog ops Q (o :: rest) a w := by
  obtain ⟨i0, hi, hz0, hz1, hz2⟩ := info_parts info_entry
  refine wpList_append_one hgd s x _ ho base 43 i0 _ 3 24 und_entries hi hz0 hz1 hz2 rfl (by omega) encL v l y hs hown ad hx hrow rfl ?_ (by simp only [maxLen]; omega) (by omega) hbase h
  intro u hu
  simp only [encL, List.mem_cons, List.not_mem_nil, or_false] at hu
  rcases hu with rfl | rfl | rfl <;> rfl
theorem app_step {pb : Nat} {w wr w1 W : World} {cs : List Value} {o v' : Value} {out : List (Nat × V)} (hO : Own wr (pb + 1) 43 3 encL o out) (hH : Holds wr pb cs) (hB : Below pb w wr)
    (hal : Below wr.heap.size wr w1) (hG : Grew w1 W o v') : Holds W pb cs ∧ Below pb w W ∧ pb + 1 ≤ W.heap.size ∧ Below pb wr W := by
  have hlt := hH.lt
  have h1 : Below (pb + 1) w1 W := hG.below (by have := hal.size; omega) hO.block
  have h2 : Below pb wr W := (hal.mono (by omega)).trans (h1.mono (by omega))
  exact ⟨(hH.ext hal).below h1 (by omega), hB.trans h2, by have := h1.size; have := hal.size; omega, h2⟩
def laidRel (x : PutL) (l : List (Nat × V)) (w : World) (o dn i : Value) (wr : World) : Prop :=
  ∃ (k : Nat) (out : List (Nat × V)) (done : Bool), k ≤ l.length ∧ i = .int .i64 (k : Int) ∧ dn = .bool done ∧ Own wr (w.heap.size + 1) 43 3 encL o out ∧
    laidL x.id x.v x.gone l = out ++ laidL x.id x.v done (l.drop k) ∧ Holds wr w.heap.size (putCells x) ∧ Below w.heap.size w wr ∧ out.length ≤ k + (if done = true then 1 else 0)
set_option maxRecDepth 100000 in
set_option maxHeartbeats 800000 in
theorem laid_any (vs : Value) (l : List (Nat × V)) (x : PutL) (w : World) (hl : Rd w 3 encL vs l) (hn : l.length ≤ 100000) :
    Calls Tryd.prog 13 #[vs, .agg (putCells x).toArray] w fun e w' =>
      ∃ es, e = .returned es ∧ Own w' w.heap.size 43 3 encL es (laidL x.id x.v x.gone l) ∧ Below w.heap.size w w' := by
  obtain ⟨sl, sc, rfl, hl⟩ := hl
  have h0 : Holds (w.alloc (.cells (putCells x).toArray 34)) w.heap.size (putCells x) := Holds.alloc _ _ _
  have HL := Lib.hid hl
  clear hl
  obtain ⟨key, ⟨vk, vn⟩, gone⟩ := x
  simp only [putCells]
  go_enter Tryd.func13, Tryd.ntmps13
  go_wp2
  go_loopw [5, 6, 7] (laidRel ⟨key, ⟨vk, vn⟩, gone⟩ l w) (fun _ _ i _ => l.length - (intOf i).toNat)
  case atStart => exact ⟨0, [], gone, by omega, rfl, rfl, own_nil _ _ _ _ _, rfl, h0, (Below.refl _ _).alloc (Nat.le_refl _) _, by simp⟩
  case round =>
    obtain ⟨k, out, done, hk, rfl, rfl, hO, heq, hH, hB, hlen⟩ := hrel
    have hl1 : out.length ≤ k + 1 := Nat.le_trans hlen (by split <;> omega)
    have hl2 : done = false → out.length ≤ k := fun h => by rw [h] at hlen; simpa using hlen
    have p0 := hH.cell (i := 0) rfl
    have p1 := hH.cell (i := 1) rfl
    have p2 := hH.cell (i := 2) rfl
    have p3 := hH.cell (i := 3) rfl
    simp only [] at p0 p1 p2 p3
    by_cases hlt : k < l.length
    · have e1 : l[k]? = some l[k] := List.getElem?_eq_getElem hlt
      have hdr : l.drop k = l[k] :: l.drop (k + 1) := List.drop_eq_getElem_cons hlt
      generalize l[k] = y at e1 hdr
      rcases HL.out with hnil | ⟨b, off, rfl, hb, hc⟩
      · subst hnil; simp at hlt
      have f0 := (hB.cell (p := ⟨b, _, none⟩) hb).trans (hc k y 0 _ e1 rfl)
      have f1 := (hB.cell (p := ⟨b, _, none⟩) hb).trans (hc k y 1 _ e1 rfl)
      have f2 := (hB.cell (p := ⟨b, _, none⟩) hb).trans (hc k y 2 _ e1 rfl)
      simp only [Nat.add_zero] at f0
      rw [hdr] at heq
      have HE := Lib.hid heq
      have HH := Lib.hid hH
      have HO := Lib.hid hO
      clear heq hc e1 hdr hO hH
      by_cases hy : y.1 = key
      · have hq : (((y.1 : Nat) : Int) == ((key : Nat) : Int)) = true := by simp [hy]
        have hE2 : laidL key ⟨vk, vn⟩ gone l = out ++ laidL key ⟨vk, vn⟩ done (l.drop (k + 1)) := by
          have := HE.out
          rwa [laidL_cons, if_pos hy] at this
        have HE2 := Lib.hid hE2
        clear hE2 hy
        go_wp2
        refine rgn [0, 1, 2, 3, 4, 5, 6, 7] [7] (by kernel_rfl) ?_
        simp only [pickL, List.getD_cons_zero, List.getD_cons_succ]
        go_wp2
        refine ⟨rfl, ?_⟩
        go_wp2
        go_roundw
        case rel => exact ⟨k + 1, out, done, by omega, by go_num, rfl, HO.out.drew, HE2.out, HH.out.drew, hB.drew, by split at hlen <;> simp_all <;> omega⟩
        case measure => simp [intOf]; omega
      · have hq : (((y.1 : Nat) : Int) == ((key : Nat) : Int)) = false := by simp; omega
        have hlast : ¬ (done = false ∧ key < y.1) → laidL key ⟨vk, vn⟩ gone l = (out ++ [y]) ++ laidL key ⟨vk, vn⟩ done (l.drop (k + 1)) := by
          intro hno
          have := HE.out
          rw [laidL_cons, if_neg hy, if_neg hno] at this
          rw [this]; simp
        have hsz := hB.size
        cases done with
        | true =>
          have HL2 := Lib.hid (hlast (by simp))
          clear hlast hy
          go_wp2
          refine rgn [0, 1, 2, 3, 4, 5, 6, 7] [7] (by kernel_rfl) ?_
          simp only [pickL, List.getD_cons_zero, List.getD_cons_succ]
          go_wp2
          refine ⟨rfl, ?_⟩
          go_wp2
          refine rgn [0, 1, 2, 3, 4, 5, 6, 7, 8, 9, 10, 11] [10] (by kernel_rfl) ?_
          simp only [pickL, List.getD_cons_zero, List.getD_cons_succ]
          go_wp2
          refine ⟨rfl, ?_⟩
          go_wp2_with (refine wpList_app_entry rfl _ _ rfl (w.heap.size + 1) _ out y (HO.out.below (((Below.refl _ _).alloc (Nat.le_refl _) _).drew.drew)) rfl _ rfl (Holds.alloc wr (encL y) _) (by omega) (by have := HH.out.lt; simp; omega) ?_; intro v' W hO' hG)
          go_roundw
          case rel =>
            obtain ⟨g1, g2, g3, g4⟩ := app_step HO.out HH.out hB (((Below.refl _ _).alloc (Nat.le_refl _) _).drew.drew) hG
            exact ⟨k + 1, out ++ [y], true, by omega, by go_num, rfl, hO', HL2.out, g1, g2, by simp; omega⟩
          case measure => simp [intOf]; omega
        | false =>
          have hl3 := hl2 rfl
          by_cases hgt : key < y.1
          · have hg : decide (((key : Nat) : Int) < ((y.1 : Nat) : Int)) = true := by simp; omega
            have hg2 : decide (key < y.1) = true := by simpa using hgt
            have hins : laidL key ⟨vk, vn⟩ gone l = ((out ++ [(key, ⟨vk, vn⟩)]) ++ [y]) ++ laidL key ⟨vk, vn⟩ true (l.drop (k + 1)) := by
              have := HE.out
              rw [laidL_cons, if_neg hy, if_pos ⟨rfl, hgt⟩] at this
              rw [this]; simp
            have HL2 := Lib.hid hins
            clear hlast hy hgt hins
            go_wp2
            refine rgn [0, 1, 2, 3, 4, 5, 6, 7] [7] (by kernel_rfl) ?_
            simp only [pickL, List.getD_cons_zero, List.getD_cons_succ]
            go_wp2
            refine ⟨rfl, ?_⟩
            go_wp2
            refine rgn [0, 1, 2, 3, 4, 5, 6, 7, 8, 9, 10, 11] [10] (by kernel_rfl) ?_
            simp only [pickL, List.getD_cons_zero, List.getD_cons_succ]
            go_wp2
            refine ⟨rfl, ?_⟩
            go_wp2_with (first | (refine wpList_app_entry rfl _ _ rfl (w.heap.size + 1) _ out (key, ⟨vk, vn⟩) (HO.out.below (((Below.refl _ _).alloc (Nat.le_refl _) _).drew.drew)) rfl _ rfl (Holds.alloc wr (encL (key, ⟨vk, vn⟩)) _) (by omega) (by have := HH.out.lt; simp; omega) ?_; intro v1 W1 hO1 hG1; obtain ⟨g1, g2, g3, g4⟩ := app_step HO.out HH.out hB (((Below.refl _ _).alloc (Nat.le_refl _) _).drew.drew) hG1; have k0 := (g4.cell (p := ⟨b, _, none⟩) hb).trans f0; have k1 := (g4.cell (p := ⟨b, _, none⟩) hb).trans f1; have k2 := (g4.cell (p := ⟨b, _, none⟩) hb).trans f2; have G1 := Lib.hid g1; clear g1) | (refine wpList_app_entry rfl _ _ rfl (w.heap.size + 1) _ (out ++ [(key, ⟨vk, vn⟩)]) y (hO1.below ((Below.refl _ _).alloc (Nat.le_refl _) _)) rfl _ rfl (Holds.alloc W1 (encL y) _) (by simp; omega) (by simp; omega) ?_; intro v' W hO' hG))
            go_roundw
            case rel =>
              obtain ⟨g1, g2, g3, g4⟩ := app_step hO1 G1.out g2 ((Below.refl _ _).alloc (Nat.le_refl _) _) hG
              exact ⟨k + 1, _, true, by omega, by go_num, rfl, hO', HL2.out, g1, g2, by simp; omega⟩
            case measure => simp [intOf]; omega
          · have hg : decide (((key : Nat) : Int) < ((y.1 : Nat) : Int)) = false := by simp; omega
            have hg2 : decide (key < y.1) = false := by simpa using hgt
            have HL2 := Lib.hid (hlast (by simp [hgt]))
            clear hlast hy hgt
            go_wp2
            refine rgn [0, 1, 2, 3, 4, 5, 6, 7] [7] (by kernel_rfl) ?_
            simp only [pickL, List.getD_cons_zero, List.getD_cons_succ]
            go_wp2
            refine ⟨rfl, ?_⟩
            go_wp2
            refine rgn [0, 1, 2, 3, 4, 5, 6, 7, 8, 9, 10, 11] [10] (by kernel_rfl) ?_
            simp only [pickL, List.getD_cons_zero, List.getD_cons_succ]
            go_wp2
            refine ⟨rfl, ?_⟩
            go_wp2_with (refine wpList_app_entry rfl _ _ rfl (w.heap.size + 1) _ out y (HO.out.below (((Below.refl _ _).alloc (Nat.le_refl _) _).drew.drew)) rfl _ rfl (Holds.alloc wr (encL y) _) (by omega) (by have := HH.out.lt; simp; omega) ?_; intro v' W hO' hG)
            go_roundw
            case rel =>
              obtain ⟨g1, g2, g3, g4⟩ := app_step HO.out HH.out hB (((Below.refl _ _).alloc (Nat.le_refl _) _).drew.drew) hG
              exact ⟨k + 1, out ++ [y], false, by omega, by go_num, rfl, hO', HL2.out, g1, g2, by simp; omega⟩
            case measure => simp [intOf]; omega
    · have hkl : k = l.length := by omega
      have HE := Lib.hid heq
      have HH := Lib.hid hH
      have HO := Lib.hid hO
      clear heq hH hO
      have hsz := hB.size
      cases done with
      | true =>
        have hfin : laidL key ⟨vk, vn⟩ gone l = out := by
          have := HE.out
          rw [hkl, List.drop_length] at this
          simpa [laidL] using this
        have HF := Lib.hid hfin
        clear hfin hkl
        go_wp2
        go_returns
        refine ⟨_, rfl, ?_, hB⟩
        rw [HF.out]
        exact HO.out.base (by omega)
      | false =>
        have hfin : laidL key ⟨vk, vn⟩ gone l = out ++ [(key, ⟨vk, vn⟩)] := by
          have := HE.out
          rw [hkl, List.drop_length] at this
          simpa [laidL] using this
        have HF := Lib.hid hfin
        clear hfin hkl
        go_wp2_with (refine wpList_app_entry rfl _ _ rfl (w.heap.size + 1) _ out (key, ⟨vk, vn⟩) (HO.out.below ((Below.refl _ _).alloc (Nat.le_refl _) _)) rfl _ rfl (Holds.alloc wr (encL (key, ⟨vk, vn⟩)) _) (by omega) (by have := HH.out.lt; simp; omega) ?_; intro v' W hO' hG)
        go_returns
        obtain ⟨g1, g2, g3, g4⟩ := app_step HO.out HH.out hB ((Below.refl _ _).alloc (Nat.le_refl _) _) hG
        refine ⟨_, rfl, ?_, g2⟩
        rw [HF.out]
        exact hO'.base (by omega)
end Go.Proofs.YtihmhledogppmaaDoor
