/- A map as a tree without empty nodes: what Put, Drop, one and made make of it. -/
import Derived.Test.YtihmhledogppmaaDoorTrX
import Derived.Test.YtihmhledogppmaaDoorMd
namespace Go.Proofs.YtihmhledogppmaaDoor
open Go Go.RowKit
set_option linter.unusedVariables false

structure MapT (w : World) (b : Nat) (t : Tr 8) : Prop where
  map : MapAt w b t (t.ents 0).length
  cl : t.Cl
theorem MapT.ext {w w' : World} {b : Nat} {t : Tr 8} (h : MapT w b t) (hb : Below w.heap.size w w') : MapT w' b t := ⟨h.map.ext hb, h.cl⟩
theorem MapT.l {w : World} {b : Nat} {t : Tr 8} (h : MapT w b t) : MapL w b (t.ents 0) := ⟨t, h.map, rfl⟩
/-- What a Put or a Drop of the law makes of a tree; S: its new blocks lie from there on. -/
def NewT (S : Nat) (x : PutL) (t t' : Tr 8) : Prop :=
  (t' = t ∧ t.get x.id = if x.gone then none else some x.v) ∨ (x.gone = true ∧ (t.get x.id).isSome = true ∧ ∃ B, S ≤ B ∧ t' = t.drop B x.id) ∨ (x.gone = false ∧ t.get x.id ≠ some x.v ∧ ∃ B, S ≤ B ∧ t' = t.put B x.id x.v)
theorem NewT.mono {S S' : Nat} {x : PutL} {t t' : Tr 8} (h : NewT S x t t') (hs : S' ≤ S) : NewT S' x t t' := by
  rcases h with h | ⟨h1, h2, B, h3, h4⟩ | ⟨h1, h2, B, h3, h4⟩
  · exact .inl h
  · exact .inr (.inl ⟨h1, h2, B, by omega, h4⟩)
  · exact .inr (.inr ⟨h1, h2, B, by omega, h4⟩)
theorem NewT.cl {S : Nat} {x : PutL} {t t' : Tr 8} (h : NewT S x t t') (hc : t.Cl) : t'.Cl := by
  rcases h with ⟨rfl, _⟩ | ⟨_, _, B, _, rfl⟩ | ⟨_, _, B, _, rfl⟩
  · exact hc
  · exact Tr.cl_drop B _ hc
  · exact Tr.cl_put B _ _ hc
theorem NewT.ents {S : Nat} {x : PutL} {t t' : Tr 8} (h : NewT S x t t') (hk : x.id < 4294967296) : t'.ents 0 = laidL x.id x.v x.gone (t.ents 0) := by
  have hs := Tr.srt t 0
  rcases h with ⟨rfl, hg⟩ | ⟨hx, hg, B, _, rfl⟩ | ⟨hx, hg, B, _, rfl⟩
  · rw [← look_ents t' x.id hk] at hg
    cases hx : x.gone with
    | true => rw [hx] at hg; exact (laid_gone x.v hs hg).symm
    | false => rw [hx] at hg; exact (laid_same hs hg).symm
  · rw [hx]; exact ents_drop t B x.id x.v hk
  · rw [hx]; exact ents_put t B x.id x.v hk
theorem put_t (b key : Nat) (t : Tr 8) (v : V) (w : World) (h : MapT w b t) (hn : (t.ents 0).length ≤ 4294967296) (hk : key < 4294967296) :
    Calls Tryd.prog 26 #[.pointer (some ⟨b, 0, none⟩), .int .u32 key, .agg #[.int .i64 v.k, .int .i64 v.n]] w fun e w' =>
      ∃ b' t', e = .returned (.pointer (some ⟨b', 0, none⟩)) ∧ MapT w' b' t' ∧ NewT w.heap.size ⟨key, v, false⟩ t t' ∧ Below w.heap.size w w' := by
  have hs := h.l.srt
  refine (put_any b _ key t v w h.map (by omega) hk).mono ?_
  rintro e w' ⟨hb, h'⟩
  split at h'
  · rename_i hg
    exact ⟨b, t, h', h.ext hb, .inl ⟨rfl, hg⟩, hb⟩
  · rename_i hg
    obtain ⟨b', B, hB, _, he, hm⟩ := h'
    refine ⟨b', t.put B key v, he, ⟨?_, Tr.cl_put B key v h.cl⟩, .inr (.inr ⟨rfl, hg, B, hB, rfl⟩), hb⟩
    have hl := laid_len key v false hs
    rw [look_ents t key hk] at hl
    rw [ents_put t B key v hk, show (laidL key v false (t.ents 0)).length = if (t.get key).isSome then (t.ents 0).length else (t.ents 0).length + 1 by split <;> simp_all <;> omega]
    exact hm
theorem drop_t (b key : Nat) (t : Tr 8) (v : V) (w : World) (h : MapT w b t) (hn : (t.ents 0).length ≤ 4294967296) (hk : key < 4294967296) :
    Calls Tryd.prog 27 #[.pointer (some ⟨b, 0, none⟩), .int .u32 key] w fun e w' =>
      ∃ b' t', e = .returned (.pointer (some ⟨b', 0, none⟩)) ∧ MapT w' b' t' ∧ NewT w.heap.size ⟨key, v, true⟩ t t' ∧ Below w.heap.size w w' := by
  have hs := h.l.srt
  have hg := look_ents t key hk
  refine (drop_any b _ key t w h.map (by omega) ?_ hk).mono ?_
  · intro hg2
    rw [← hg] at hg2
    obtain ⟨u, hu⟩ := Option.isSome_iff_exists.1 hg2
    have := List.length_pos_of_mem ((look_mem hs).1 hu)
    omega
  rintro e w' ⟨hb, h'⟩
  have hl := laid_len key v true hs
  rw [hg] at hl
  split at h'
  · rename_i hg2
    obtain ⟨b', B, hB, _, he, hm⟩ := h'
    refine ⟨b', t.drop B key, he, ⟨?_, Tr.cl_drop B key h.cl⟩, .inr (.inl ⟨rfl, hg2, B, hB, rfl⟩), hb⟩
    rw [ents_drop t B key v hk, show (laidL key v true (t.ents 0)).length = (t.ents 0).length - 1 by simp [hg2] at hl; omega]
    exact hm
  · rename_i hg2
    have hno : t.get key = none := by simpa using hg2
    exact ⟨b, t, h', h.ext hb, .inl ⟨rfl, hno⟩, hb⟩
set_option maxRecDepth 100000 in
theorem one_t (b : Nat) (t : Tr 8) (x : PutL) (w : World) (h : MapT w b t) (hn : (t.ents 0).length ≤ 4294967296) (hk : x.id < 4294967296) :
    Calls Tryd.prog 12 #[.pointer (some ⟨b, 0, none⟩), .agg (putCells x).toArray] w fun e w' =>
      ∃ b' t', e = .returned (.pointer (some ⟨b', 0, none⟩)) ∧ MapT w' b' t' ∧ NewT w.heap.size x t t' ∧ Below w.heap.size w w' := by
  obtain ⟨key, v, gone⟩ := x
  have HM := Lib.hid h
  clear h
  simp only [putCells]
  cases gone with
  | true =>
    go_enter Tryd.func12, Tryd.ntmps12
    go_wp2_with (go_at_call 27; refine (drop_t b key t v _ (HM.out.ext ((Below.refl _ _).alloc (Nat.le_refl _) _)) hn hk).mono ?_; rintro e w' ⟨b', t', rfl, h1, h3, h2⟩)
    go_returns
    exact ⟨b', t', rfl, h1, h3.mono (by simp), ((Below.refl _ _).alloc (Nat.le_refl _) _).trans (h2.mono (by simp))⟩
  | false =>
    go_enter Tryd.func12, Tryd.ntmps12
    go_wp2_with (go_at_call 26; refine (put_t b key t v _ (HM.out.ext ((Below.refl _ _).alloc (Nat.le_refl _) _)) hn hk).mono ?_; rintro e w' ⟨b', t', rfl, h1, h3, h2⟩)
    go_returns
    exact ⟨b', t', rfl, h1, h3.mono (by simp), ((Below.refl _ _).alloc (Nat.le_refl _) _).trans (h2.mono (by simp))⟩
theorem empty_t (w : World) : Calls Tryd.prog 10 #[] w fun e w' => ∃ b, e = .returned (.pointer (some ⟨b, 0, none⟩)) ∧ MapT w' b Tr.nil ∧ Below w.heap.size w w' := by
  refine (empty_any w).mono ?_
  rintro e w' ⟨he, h1, h2, _⟩
  exact ⟨_, he, ⟨⟨h1, trivial⟩, trivial⟩, h2⟩
theorem made_t (vl : Value) (lp : List PutL) (n : Int) (w : World) (hl : Rd w 4 putCells vl lp) (hid : ∀ x ∈ lp, x.id < 4294967296) :
    Calls Tryd.prog 19 #[vl, .int .i64 n] w fun e w' =>
      ∃ b c t, e = .returned (.tuple #[.pointer (some ⟨b, 0, none⟩), .pointer (some ⟨c, 0, none⟩)]) ∧ MapT w' b t ∧ (t.ents 0).length ≤ 200 ∧ Below w.heap.size w w' := by
  refine (made_gen vl lp n w hl (fun W k b c => ∃ t, MapT W b t ∧ t.ents 0 = madeL lp k ∧ Below w.heap.size w W) ?_ (fun W k b c h => h.choose_spec.2.2) ?_).mono ?_
  · refine (empty_t w).mono ?_
    rintro e w' ⟨b, rfl, h1, h2⟩
    exact ⟨b, rfl, _, h1, rfl, h2⟩
  · rintro W k b c x hx hk ⟨t, h1, h2, h3⟩
    have hxk := hid x (List.mem_of_getElem? hx)
    refine (one_t b t x W h1 (by rw [h2]; have := madeL_len lp k; omega) hxk).mono ?_
    rintro e w' ⟨b', t', rfl, g1, g2, g3⟩
    exact ⟨b', rfl, t', g1, by rw [g2.ents hxk, h2, madeL_succ hx], h3.trans (g3.mono h3.size)⟩
  · rintro e w' ⟨b, c, rfl, t, h1, h2, h3⟩
    exact ⟨b, c, t, rfl, h1, by rw [h2]; exact Nat.le_trans (madeL_len _ _) (by omega), h3⟩
end Go.Proofs.YtihmhledogppmaaDoor
