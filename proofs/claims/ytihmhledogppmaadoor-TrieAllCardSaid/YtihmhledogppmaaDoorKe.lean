/- TrieKeeps: the two growing rows, of maps and of what each holds. -/
import Derived.Test.YtihmhledogppmaaDoorMs
import Derived.Test.YtihmhledogppmaaDoorKn
import Derived.Test.YtihmhledogppmaaDoorReg
namespace Go.Proofs.YtihmhledogppmaaDoor
open Go Go.RowKit
set_option linter.unusedVariables false
set_option linter.unusedSimpArgs false

def encP (b : Nat) : List Value := [.pointer (some ⟨b, 0, none⟩)]
def encS (v : Value) : List Value := [v]
def encI (k : Int) : List Value := [.int .i64 k]
theorem info_mapp : (Tryd.prog.info? 24).map (fun i => (i.zero, i.size, i.bytes)) = some (some (.pointer none), 1, 8) := by kernel_rfl
theorem und_mapps : Tryd.prog.underlying 27 = some (.slice 24) := by kernel_rfl
theorem info_ents : (Tryd.prog.info? 35).map (fun i => (i.zero, i.size, i.bytes)) = some (some (.slice none 0 0), 1, 24) := by kernel_rfl
theorem und_entss : Tryd.prog.underlying 28 = some (.slice 35) := by kernel_rfl
theorem wpList_app_ptr {ops : Array Oper} {rest : List Oper} {o : Oper} {a : Act} {w : World} {Q : Exit → Act → World → Prop} (hgd : o.guard = none) (s x : Operand)
    (ho : o.op = .call { callee := .builtin .append, args := #[s, x], argTypes := #[27, 27] })
    (base : Nat) (v : Value) (l : List Nat) (y : Nat) (hown : Own w base 24 1 encP v l) (hs : a.eval s = v)
    (ad : Nat) (hx : a.eval x = .slice (some ⟨ad, 0, none⟩) 1 1) (hrow : Holds w ad (encP y)) (hn : l.length ≤ 1000000) (hbase : base ≤ w.heap.size)
    (h : ∀ v' W, Own W base 24 1 encP v' (l ++ [y]) → Grew w W v v' → wpList Tryd.prog ops Q rest (a.put o.dst v') W) :
    wpList Tryd.prog ops Q (o :: rest) a w := by
  obtain ⟨i0, hi, hz0, hz1, hz2⟩ := info_parts info_mapp
  refine wpList_append_one hgd s x _ ho base 24 i0 _ 1 8 und_mapps hi hz0 hz1 hz2 rfl (by omega) encP v l y hs hown ad hx hrow rfl ?_ (by simp only [maxLen]; omega) (by omega) hbase h
  intro u hu
  simp only [encP, List.mem_singleton] at hu
  subst hu; rfl
theorem wpList_app_sl {ops : Array Oper} {rest : List Oper} {o : Oper} {a : Act} {w : World} {Q : Exit → Act → World → Prop} (hgd : o.guard = none) (s x : Operand)
    (ho : o.op = .call { callee := .builtin .append, args := #[s, x], argTypes := #[28, 28] })
    (base : Nat) (v : Value) (l : List Value) (y : Value) (hy : y.oneCell' = true) (hown : Own w base 35 1 encS v l) (hs : a.eval s = v)
    (ad : Nat) (hx : a.eval x = .slice (some ⟨ad, 0, none⟩) 1 1) (hrow : Holds w ad (encS y)) (hn : l.length ≤ 1000000) (hbase : base ≤ w.heap.size)
    (h : ∀ v' W, Own W base 35 1 encS v' (l ++ [y]) → Grew w W v v' → wpList Tryd.prog ops Q rest (a.put o.dst v') W) :
    wpList Tryd.prog ops Q (o :: rest) a w := by
  obtain ⟨i0, hi, hz0, hz1, hz2⟩ := info_parts info_ents
  refine wpList_append_one hgd s x _ ho base 35 i0 _ 1 24 und_entss hi hz0 hz1 hz2 rfl (by omega) encS v l y hs hown ad hx hrow rfl ?_ (by simp only [maxLen]; omega) (by omega) hbase h
  intro u hu
  simp only [encS, List.mem_singleton] at hu
  subst hu; exact hy
/-- The rows: bs the maps, with the entries lm; es the held slices, reading as lh. -/
structure KS (w wr : World) (S : List Nat) (mv hv : Value) (bs : List Nat) (es : List Value) (lm lh : List (List (Nat × V))) : Prop where
  m : Own wr w.heap.size 24 1 encP mv bs
  h : Own wr w.heap.size 35 1 encS hv es
  ne : mv.ownBlock ≠ hv.ownBlock
  mS : ∃ g, mv.ownBlock = some g ∧ g ∈ S
  hS : ∃ g, hv.ownBlock = some g ∧ g ∈ S
  lt : ∀ k ∈ S, k < wr.heap.size
  lb : bs.length = lm.length
  le : es.length = lh.length
  maps : ∀ (j b : Nat) (l : List (Nat × V)), bs[j]? = some b → lm[j]? = some l → MapM S wr b l
  held : ∀ (j : Nat) (v : Value) (l : List (Nat × V)), es[j]? = some v → lh[j]? = some l → RdM S wr 3 encL v l
  lens : ∀ l ∈ lm, l.length ≤ bs.length
  below : Below w.heap.size w wr
theorem KS.ext {w wr W : World} {S : List Nat} {mv hv : Value} {bs : List Nat} {es : List Value} {lm lh : List (List (Nat × V))} (h : KS w wr S mv hv bs es lm lh) (hb : Below wr.heap.size wr W) : KS w W S mv hv bs es lm lh :=
  ⟨h.m.below hb, h.h.below hb, h.ne, h.mS, h.hS, fun k hk => Nat.lt_of_lt_of_le (h.lt k hk) hb.size, h.lb, h.le, fun j b l h1 h2 => (h.maps j b l h1 h2).ext hb h.lt, fun j v l h1 h2 => (h.held j v l h1 h2).ext hb h.lt, h.lens, h.below.trans (hb.mono h.below.size)⟩
theorem get_push {α : Type} {l : List α} {x y : α} {j : Nat} (h : (l ++ [x])[j]? = some y) : (j < l.length ∧ l[j]? = some y) ∨ (j = l.length ∧ y = x) := by
  rcases Nat.lt_trichotomy j l.length with hlt | rfl | hgt
  · rw [List.getElem?_append_left hlt] at h; exact .inl ⟨hlt, h⟩
  · rw [List.getElem?_append_right (Nat.le_refl _)] at h
    simp at h; exact .inr ⟨rfl, h.symm⟩
  · rw [List.getElem?_eq_none (by simp; omega)] at h; cases h
theorem own_some {α : Type} {w : World} {base : Nat} {ty : TypeId} {s : Nat} {enc : α → List Value} {v : Value} {l : List α} (h : Own w base ty s enc v l) (hl : l ≠ []) : ∃ g, v.ownBlock = some g := by
  rcases h.row.2 with ⟨_, h0⟩ | ⟨g, cap, cur, rfl, _⟩
  · exact absurd (List.length_eq_zero_iff.1 h0) hl
  · exact ⟨g, rfl⟩
theorem KS.push_m {w wr w1 W : World} {S : List Nat} {mv mv' hv : Value} {bs : List Nat} {es : List Value} {lm lh : List (List (Nat × V))} (h0 : KS w wr S mv hv bs es lm lh) (hal : Below wr.heap.size wr w1) {b : Nat} {l : List (Nat × V)} (hm : MapM S wr b l) (hl : l.length ≤ bs.length + 1)
    (hO : Own W w.heap.size 24 1 encP mv' (bs ++ [b])) (hG : Grew w1 W mv mv') : KS w W (S ++ mv'.ownBlock.toList) mv' hv (bs ++ [b]) es (lm ++ [l]) lh := by
  have h := h0.ext hal
  have hm := hm.ext hal h0.lt
  obtain ⟨g, hg, hgS⟩ := h.mS
  obtain ⟨g2, hg2, hgS2⟩ := h.hS
  have hB := grew_mask hG hg hgS h.lt
  obtain ⟨g', hg'⟩ := own_some hO (by simp)
  refine ⟨hO, h.h.grew hG (.inr (Ne.symm h.ne)), ?_, ⟨g', hg', by simp [hg']⟩, ⟨g2, hg2, List.mem_append_left _ hgS2⟩, grew_lt hG hO h.lt, by simp [h.lb], h.le, ?_, ?_, ?_, ?_⟩
  · rcases hG.at_ with ha | ha
    · rw [ha]; exact h.ne
    · rw [ha, hg2]; intro e; cases e; have := h.lt _ hgS2; omega
  · intro j b' l' h1 h2
    rcases get_push h1 with ⟨hj, h3⟩ | ⟨rfl, rfl⟩
    · rw [List.getElem?_append_left (by rw [← h.lb]; exact hj)] at h2
      exact MapL.ext (h.maps j b' l' h3 h2) hB
    · rw [h.lb] at h2
      simp at h2; subst h2
      exact MapL.ext hm hB
  · intro j v' l' h1 h2
    exact Rd.ext (h.held j v' l' h1 h2) hB
  · intro l' hl'
    rw [List.length_append, List.length_singleton]
    rcases List.mem_append.1 hl' with hl' | hl'
    · have := h.lens l' hl'; omega
    · simp at hl'; subst hl'; exact hl
  · exact h.below.trans (hG.below h.below.size h.m.block)
theorem KS.push_h {w wr w1 W : World} {S : List Nat} {mv hv hv' : Value} {bs : List Nat} {es : List Value} {lm lh : List (List (Nat × V))} (h0 : KS w wr S mv hv bs es lm lh) (hal : Below wr.heap.size wr w1) {v : Value} {l : List (Nat × V)} (hm : RdM S wr 3 encL v l)
    (hO : Own W w.heap.size 35 1 encS hv' (es ++ [v])) (hG : Grew w1 W hv hv') : KS w W (S ++ hv'.ownBlock.toList) mv hv' bs (es ++ [v]) lm (lh ++ [l]) := by
  have h := h0.ext hal
  have hm := hm.ext hal h0.lt
  obtain ⟨g, hg, hgS⟩ := h.hS
  obtain ⟨g2, hg2, hgS2⟩ := h.mS
  have hB := grew_mask hG hg hgS h.lt
  obtain ⟨g', hg'⟩ := own_some hO (by simp)
  refine ⟨h.m.grew hG (.inr h.ne), hO, ?_, ⟨g2, hg2, List.mem_append_left _ hgS2⟩, ⟨g', hg', by simp [hg']⟩, grew_lt hG hO h.lt, h.lb, by simp [h.le], ?_, ?_, h.lens, ?_⟩
  · rcases hG.at_ with ha | ha
    · rw [ha]; exact h.ne
    · rw [ha, hg2]; intro e; cases e; have := h.lt _ hgS2; omega
  · intro j b' l' h1 h2
    exact MapL.ext (h.maps j b' l' h1 h2) hB
  · intro j v' l' h1 h2
    rcases get_push h1 with ⟨hj, h3⟩ | ⟨rfl, rfl⟩
    · rw [List.getElem?_append_left (by rw [← h.le]; exact hj)] at h2
      exact Rd.ext (h.held j v' l' h3 h2) hB
    · rw [h.le] at h2
      simp at h2; subst h2
      exact Rd.ext hm hB
  · exact h.below.trans (hG.below h.below.size h.h.block)
theorem look_any (l : List (Nat × V)) (k : Nat) : (look l k).isSome = l.any (fun e => e.1 == k) := by
  unfold look
  rw [Option.isSome_map, Bool.eq_iff_iff, List.any_eq_true]
  simp [List.find?_isSome]
/-- A cell of an own row. -/
theorem Own.get1 {α : Type} {w : World} {base : Nat} {ty : TypeId} {enc : α → List Value} {v : Value} {l : List α} (h : Own w base ty 1 enc v l) (hs : ∀ x, (enc x).length = 1) {g : Nat} (hg : v.ownBlock = some g) {j : Nat} {x : α} (hj : l[j]? = some x) {u : Value} (hu : (enc x)[0]? = some u) :
    w.cell? ⟨g, j, none⟩ = some u := by
  have := h.row.cells hg j u (by have := flatMap_get hs l j 0 x u hj hu; simpa using this)
  have hadd : (⟨g, 0, none⟩ : Addr).add j = ⟨g, j, none⟩ := by unfold Addr.add; split <;> simp_all
  rwa [hadd] at this
theorem Own.is {α : Type} {w : World} {base : Nat} {ty : TypeId} {s : Nat} {enc : α → List Value} {v : Value} {l : List α} (h : Own w base ty s enc v l) {g : Nat} (hg : v.ownBlock = some g) : ∃ c, v = .slice (some ⟨g, 0, none⟩) l.length c := by
  rcases h.row.2 with ⟨rfl, _⟩ | ⟨g', cap, cur, rfl, _⟩
  · cases hg
  · cases hg; exact ⟨_, rfl⟩
end Go.Proofs.YtihmhledogppmaaDoor
