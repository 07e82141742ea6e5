/- The walks of levylaw11.versions, steps: what Steps gives. -/
import Derived.Test.YtmhhejpokgdjoaaKc
namespace Go.Proofs.Ytmhhejpokgdjoaa
open Go Go.RowKit
set_option linter.unusedVariables false
set_option linter.unusedSimpArgs false
attribute [local go_sem] Oper.semAt_some

def encW (x : Int × (Nat × List E)) : List Value := [.int .i64 x.1, .pointer (some ⟨x.2.1, 0, none⟩)]
theorem encW_len (x : Int × (Nat × List E)) : (encW x).length = 2 := rfl
theorem info_ver : (Try.prog.info? 94).map (fun i => (i.zero, i.size, i.bytes)) = some (some (.agg #[.int .i64 0, .pointer none]), 2, 16) := by kernel_rfl
theorem und_vers : Try.prog.underlying 90 = some (.slice 94) := by kernel_rfl
def verV (B : Nat) : Value := .func (.func 74) #[] #[.pointer (some ⟨B + 2, 0, none⟩), .pointer (some ⟨B + 3, 0, none⟩), .pointer (some ⟨B + 1, 0, none⟩), .pointer (some ⟨B, 0, none⟩)]
/-- What the closure's variables hold. -/
structure VerI (B : Nat) (most : Int) (over : Bool) (pre : List (Int × (Nat × List E))) (W : World) : Prop where
  out : ∃ es, Holds W (B + 1) [es] ∧ Own W (B + 4) 94 2 encW es pre
  over : Holds W (B + 2) [.bool over]
  well : Holds W (B + 3) [.bool true]
  most : Holds W B [.int .i64 most]
  size : B + 4 ≤ W.heap.size
set_option maxRecDepth 100000 in
set_option maxHeartbeats 1600000 in
theorem ver1_any (B : Nat) (most : Int) (l : List (Int × (Nat × List E))) (x : Int × (Nat × List E)) (w : World) (h : VerI B most false l w) (hn : l.length ≤ 100) :
    Calls Try.prog 74 #[.int .i64 x.1, .pointer (some ⟨x.2.1, 0, none⟩), .pointer (some ⟨B + 2, 0, none⟩), .pointer (some ⟨B + 3, 0, none⟩), .pointer (some ⟨B + 1, 0, none⟩), .pointer (some ⟨B, 0, none⟩)] w fun e w' =>
      e = .returned (.bool (!decide ((l.length : Int) + 1 = most))) ∧ VerI B most (decide ((l.length : Int) + 1 = most)) (l ++ [x]) w' ∧ Below B w w' := by
  obtain ⟨es, ho1, ho⟩ := h.out
  obtain ⟨ea, ec, he, hef⟩ := own_fits ho
  subst he
  have hsz := h.size
  have c2 := h.over.cell (i := 0) rfl
  have c1 := ho1.cell (i := 0) rfl
  obtain ⟨i0, hi, hz0, hz1, hz2⟩ := info_parts info_ver
  have HI := Lib.hid h
  have H1 := Lib.hid ho1
  have HO := Lib.hid ho
  have hal : Below w.heap.size w (w.alloc (.cells (encW x).toArray 94)) := (Below.refl _ _).alloc (Nat.le_refl _) _
  have hrow := Holds.alloc w (encW x) 94
  have B1 := Lib.hid hal
  have HR := Lib.hid hrow
  have HO2 := Lib.hid (ho.below hal)
  have fin : ∀ W, Below (B + 4) w W → Holds W (B + 1) [.slice ea l.length ec] ∧ Holds W (B + 2) [.bool false] ∧ Holds W (B + 3) [.bool true] ∧ Holds W B [.int .i64 most] := fun W hW =>
    ⟨ho1.below hW (by omega), h.over.below hW (by omega), h.well.below hW (by omega), h.most.below hW (by omega)⟩
  have FIN := Lib.hid fin
  have fin2 : ∀ (ov : Bool) (W : World) (v' : Value), Below (B + 4) w W → Own W (B + 4) 94 2 encW v' (l ++ [x]) →
      VerI B most ov (l ++ [x]) ((W.setCell ⟨B + 1, 0, none⟩ v').setCell ⟨B + 2, 0, none⟩ (.bool ov)) ∧ Below B w ((W.setCell ⟨B + 1, 0, none⟩ v').setCell ⟨B + 2, 0, none⟩ (.bool ov)) := by
    intro ov W v' hW hO
    obtain ⟨f1, f2, f3, f4⟩ := fin W hW
    have u1 : Upd (B + 1) W (W.setCell ⟨B + 1, 0, none⟩ v') := Upd.setCell v'
    have u2 : Upd (B + 2) (W.setCell ⟨B + 1, 0, none⟩ v') ((W.setCell ⟨B + 1, 0, none⟩ v').setCell ⟨B + 2, 0, none⟩ (.bool ov)) := Upd.setCell _
    refine ⟨⟨⟨v', ((f1.setCell (i := 0) v').upd u2 (by omega)), (hO.upd u1 (by omega)).upd u2 (by omega)⟩, (f2.upd u1 (by omega)).setCell (i := 0) (.bool ov), (f3.upd u1 (by omega)).upd u2 (by omega), (f4.upd u1 (by omega)).upd u2 (by omega), ?_⟩, ?_⟩
    · have := hW.size
      rw [u2.size, u1.size]
      omega
    · exact ((hW.mono (by omega)).trans (u1.below (by omega))).trans (u2.below (by omega))
  have FIN2 := Lib.hid fin2
  clear h ho1 ho hal hrow fin fin2
  have e200 : decide (200 ≤ l.length + 1) = false := by simp; omega
  have e200' : decide ((200 : Int) ≤ (l.length : Int) + 1) = false := by simp; omega
  by_cases hm : (l.length : Int) + 1 = most
  · have hq : ((l.length : Int) + 1 == most) = true := by simpa using hm
    rw [decide_eq_true hm]
    clear hm
    go_enter Try.func74, Try.ntmps74
    go_wp2_with (refine wpList_append_one rfl _ _ _ rfl (B + 4) 94 i0 _ 2 16 und_vers hi hz0 hz1 hz2 rfl (by omega) encW _ l x rfl HO2.out w.heap.size rfl HR.out rfl (by intro u hu; simp only [encW, List.mem_cons, List.not_mem_nil, or_false] at hu; rcases hu with rfl | rfl <;> rfl) (by simp only [maxLen]; omega) (by omega) (by simp; omega) ?_; intro v' W hO hG; have hBW := (B1.out.mono hsz).trans (hG.below (B := B + 4) (by simp; omega) HO.out.block); obtain ⟨f1, f2, f3, f4⟩ := FIN.out W hBW; have q1 := f1.cell (i := 0) rfl; have qf1 := f1.free 0; have qf2 := f2.free 0; have q2 := f2.cell (i := 0) rfl; have q4 := f4.cell (i := 0) rfl; obtain ⟨y1, y2, hv, hfi⟩ := own_fits hO; subst hv; rw [List.length_append, List.length_singleton] at hO; have HH1 := Lib.hid f1; have HH2 := Lib.hid f2; have HH3 := Lib.hid f3; have HH4 := Lib.hid f4; have HOO := Lib.hid hO; have HBW := Lib.hid hBW; clear f1 f2 f3 f4 hO hBW hG hfi)
    go_returns
    exact ⟨rfl, FIN2.out true W _ HBW.out HOO.out⟩
  · have hq : ((l.length : Int) + 1 == most) = false := by simpa using hm
    rw [decide_eq_false hm]
    clear hm
    go_enter Try.func74, Try.ntmps74
    go_wp2_with (refine wpList_append_one rfl _ _ _ rfl (B + 4) 94 i0 _ 2 16 und_vers hi hz0 hz1 hz2 rfl (by omega) encW _ l x rfl HO2.out w.heap.size rfl HR.out rfl (by intro u hu; simp only [encW, List.mem_cons, List.not_mem_nil, or_false] at hu; rcases hu with rfl | rfl <;> rfl) (by simp only [maxLen]; omega) (by omega) (by simp; omega) ?_; intro v' W hO hG; have hBW := (B1.out.mono hsz).trans (hG.below (B := B + 4) (by simp; omega) HO.out.block); obtain ⟨f1, f2, f3, f4⟩ := FIN.out W hBW; have q1 := f1.cell (i := 0) rfl; have qf1 := f1.free 0; have qf2 := f2.free 0; have q2 := f2.cell (i := 0) rfl; have q4 := f4.cell (i := 0) rfl; obtain ⟨y1, y2, hv, hfi⟩ := own_fits hO; subst hv; rw [List.length_append, List.length_singleton] at hO; have HH1 := Lib.hid f1; have HH2 := Lib.hid f2; have HH3 := Lib.hid f3; have HH4 := Lib.hid f4; have HOO := Lib.hid hO; have HBW := Lib.hid hBW; clear f1 f2 f3 f4 hO hBW hG hfi)
    go_returns
    exact ⟨rfl, FIN2.out false W _ HBW.out HOO.out⟩
/-- All, or as many as are asked for. -/
def cutV {α : Type} (xs : List α) (most : Int) : List α := if most < 1 then xs else xs.take most.toNat
structure VerJ (B : Nat) (W0 : World) (most : Int) (over : Bool) (pre : List (Int × (Nat × List E))) (W : World) : Prop where
  vars : VerI B most over pre W
  below : Below B W0 W
  seen : ∀ n : Nat, 1 ≤ n → n < pre.length → (n : Int) ≠ most
  last : if over then (pre.length : Int) = most else (pre = [] ∨ (pre.length : Int) ≠ most)
theorem VerI.ext {B : Nat} {most : Int} {over : Bool} {pre : List (Int × (Nat × List E))} {W W' : World} (h : VerI B most over pre W) (hb : Below W.heap.size W W') : VerI B most over pre W' := by
  obtain ⟨es, h1, h2⟩ := h.out
  exact ⟨⟨es, h1.ext hb, h2.below hb⟩, h.over.ext hb, h.well.ext hb, h.most.ext hb, Nat.le_trans h.size hb.size⟩
theorem VerJ.grows (B : Nat) (W0 : World) (most : Int) (over : Bool) : Grows (VerJ B W0 most over) := by
  intro pre W W' h hb
  exact ⟨h.vars.ext hb, h.below.trans (hb.mono (by have := h.vars.size; omega)), h.seen, h.last⟩
theorem ver_yd (B : Nat) (W0 : World) (most : Int) (xs : List (Int × (Nat × List E))) (hx : xs.length ≤ 100) : Yd Try.prog (verV B) encSt xs (VerJ B W0 most false) (VerJ B W0 most true) := by
  intro pre x post he W h
  have hlen : pre.length ≤ 100 := by
    have : xs.length = pre.length + (post.length + 1) := by rw [he]; simp
    omega
  refine callV_func (Go.Proofs.enters_of Try.func74 (by kernel_rfl) rfl) ?_
  refine (ver1_any B most pre x W h.vars hlen).mono ?_
  rintro e W' ⟨he', g1, g2⟩
  have hseen : ∀ n : Nat, 1 ≤ n → n < (pre ++ [x]).length → (n : Int) ≠ most := by
    intro n hn1 hn2
    rw [List.length_append, List.length_singleton] at hn2
    rcases Nat.lt_or_ge n pre.length with hlt | hge
    · exact h.seen n hn1 hlt
    · have hl := h.last
      rw [if_neg (by simp)] at hl
      rcases hl with hl | hl
      · subst hl; simp at hge hn2; omega
      · have : n = pre.length := by omega
        subst this; exact hl
  by_cases hm : (pre.length : Int) + 1 = most
  · right
    rw [decide_eq_true hm] at he' g1
    refine ⟨he', ⟨g1, h.below.trans g2, hseen, ?_⟩⟩
    rw [if_pos rfl, List.length_append, List.length_singleton]
    exact_mod_cast hm
  · left
    rw [decide_eq_false hm] at he' g1
    refine ⟨he', ⟨g1, h.below.trans g2, hseen, ?_⟩⟩
    rw [if_neg (by simp), List.length_append, List.length_singleton]
    right
    exact_mod_cast hm
theorem ver_end {xs : List (Int × (Nat × List E))} {B : Nat} {W0 W : World} {most : Int} (h : VerJ B W0 most false xs W ∨ ∃ pre x post, xs = pre ++ x :: post ∧ VerJ B W0 most true (pre ++ [x]) W) :
    Below B W0 W ∧ ∃ over, VerI B most over (cutV xs most) W := by
  rcases h with h | ⟨pre, x, post, he, h⟩
  · have : cutV xs most = xs := by
      unfold cutV
      split
      · rfl
      · rename_i h0
        refine List.take_of_length_le ?_
        rcases Nat.lt_or_ge most.toNat xs.length with hlt | hge
        · exact absurd (by omega) (h.seen most.toNat (by omega) hlt)
        · exact hge
    exact ⟨h.below, false, by rw [this]; exact h.vars⟩
  · have hl := h.last
    rw [if_pos rfl] at hl
    have : cutV xs most = pre ++ [x] := by
      unfold cutV
      rw [if_neg (by simp at hl; omega), ← hl, Int.toNat_natCast, he]
      rw [show pre ++ x :: post = (pre ++ [x]) ++ post by simp]
      exact List.take_left
    exact ⟨h.below, true, by rw [this]; exact h.vars⟩
end Go.Proofs.Ytmhhejpokgdjoaa
