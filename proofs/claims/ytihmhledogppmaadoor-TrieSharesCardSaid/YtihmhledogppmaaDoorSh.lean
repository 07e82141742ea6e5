/- The walk of levylaw3.TrieShares. -/
import Derived.Test.YtihmhledogppmaaDoorSt
import Derived.Test.YtihmhledogppmaaDoorSn
import Derived.Test.YtihmhledogppmaaDoorSw
import Derived.Test.YtihmhledogppmaaDoorKn
namespace Go.Proofs.YtihmhledogppmaaDoor
open Go Go.RowKit
set_option linter.unusedVariables false
set_option linter.unusedSimpArgs false

theorem cutL_neg' {α : Type} (l : List α) : cutL l (-1) = l := by unfold cutL; rw [if_pos (by omega)]
/-- What is anew, by what was done. -/
theorem NewT.fr {S : Nat} {x : PutL} {t t' : Tr 8} (h : NewT S x t t') (ht : t.all (· < S)) :
    (t.fr t' = 0 ∧ t.get x.id = if x.gone then none else some x.v) ∨ (x.gone = true ∧ (t.get x.id).isSome = true ∧ t.fr t' ≤ 8 ∧ (0 < t.fr t' ↔ 0 < t'.cnt)) ∨ (x.gone = false ∧ t.get x.id ≠ some x.v ∧ t.fr t' = 8) := by
  rcases h with ⟨rfl, hg⟩ | ⟨hx, hg, B, hB, rfl⟩ | ⟨hx, hg, B, hB, rfl⟩
  · exact .inl ⟨Tr.fr_self _, hg⟩
  · exact .inr (.inl ⟨hx, hg, Tr.fr_drop t B x.id (Tr.all_mono (fun b hb => by omega) ht)⟩)
  · exact .inr (.inr ⟨hx, hg, Tr.fr_put t B x.id x.v (Tr.all_mono (fun b hb => by omega) ht)⟩)
set_option maxRecDepth 100000 in
set_option maxHeartbeats 4000000 in
theorem trieShares_any (vl : Value) (lp : List PutL) (x : PutL) (w : World) (hl : Rd w 4 putCells vl lp) (hids : ∀ x ∈ lp, x.id < 4294967296) (hk : x.id < 4294967296) :
    Calls Tryd.prog 5 #[vl, .agg (putCells x).toArray] w fun e w' => e = .returned (.bool true) ∧ Below w.heap.size w w' := by
  have hl0 := Lib.hid (hl.ext ((Below.refl w.heap.size w).alloc (Nat.le_refl _) (.cells (putCells x).toArray 34)))
  have hp0 := Lib.hid (Holds.alloc w (putCells x) 34)
  have hb0 := Lib.hid ((Below.refl w.heap.size w).alloc (Nat.le_refl _) (.cells (putCells x).toArray 34))
  obtain ⟨key, ⟨xk, xn⟩, gone⟩ := x
  clear hl
  dsimp only at hk
  simp only [putCells] at hl0 hp0 hb0 ⊢
  go_enter Tryd.func5, Tryd.ntmps5
  go_wp2_with fail
  refine (made_t vl lp 0 _ hl0.out hids).mono ?_
  rintro e w1 ⟨b, c, t, rfl, hm, hn, hb1⟩
  have P1 := Lib.hid (hp0.out.ext hb1)
  have g1 := Lib.hid (hb0.out.trans (hb1.mono (by simp)))
  have M1 := Lib.hid hm
  clear hl0 hp0 hb0 hids hb1 hm
  go_wp2_with fail
  refine (known_any w1).mono ?_
  rintro e w2 ⟨rfl, hb2⟩
  have P2 := Lib.hid (P1.out.ext hb2)
  have g2 := Lib.hid (g1.out.trans (hb2.mono g1.out.size))
  have M2 := Lib.hid (M1.out.ext hb2)
  have c0 := P2.out.cell (i := 0) rfl
  clear P1 g1 M1 hb2
  go_wp2_with fail
  refine (get_l b key (t.ents 0) w2 M2.out.l hk).mono ?_
  rintro e w3 ⟨rfl, hb3⟩
  have P3 := Lib.hid (P2.out.ext hb3)
  have g3 := Lib.hid (g2.out.trans (hb3.mono g2.out.size))
  have M3 := Lib.hid (M2.out.ext hb3)
  rw [look_ents t key hk]
  have p0 := P3.out.cell (i := 0) rfl
  have p1 := P3.out.cell (i := 1) rfl
  have p2 := P3.out.cell (i := 2) rfl
  have p3 := P3.out.cell (i := 3) rfl
  have hltB := P3.out.lt
  clear P2 g2 M2 hb3 c0
  have hv0 : ∀ y : V, Holds (w3.alloc (.cells #[.int .i64 y.k, .int .i64 y.n] 32)) w3.heap.size (vCells y) := fun y => Holds.alloc _ (vCells y) _
  have HV0 := Lib.hid (hv0 (gv (t.get key)))
  have b30 := Lib.hid ((Below.refl w3.heap.size w3).alloc (Nat.le_refl _) (.cells #[.int .i64 (gv (t.get key)).k, .int .i64 (gv (t.get key)).n] 32))
  clear hv0
  go_wp2_with fail
  refine (one_t b t ⟨key, ⟨xk, xn⟩, gone⟩ _ (M3.out.ext b30.out) (by omega) hk).mono ?_
  rintro e w4 ⟨b', t', rfl, hm4, hnew, hb4⟩
  have V4 := Lib.hid (HV0.out.ext hb4)
  have P4 := Lib.hid ((P3.out.ext b30.out).ext hb4)
  have g34 := Lib.hid (b30.out.trans (hb4.mono (by simp)))
  have g4 := Lib.hid (g3.out.trans (g34.out.mono g3.out.size))
  have M4 := Lib.hid (M3.out.ext g34.out)
  have N4 := Lib.hid hm4
  have hfr := hnew.fr (Tr.all_mono (fun b hb => Nat.lt_of_lt_of_le hb (by simp)) (Tr.at_all M3.out.map.tree))
  have hn' : (t'.ents 0).length ≤ 201 := by
    rw [hnew.ents hk]
    exact Nat.le_trans (laidL_len _ _ _ _) (by omega)
  have FR := Lib.hid hfr
  clear P3 M3 g3 HV0 b30 hm4 hb4 hnew hfr p0 p1 p2 p3 g34
  have hle := Tr.fr_le t t'
  have hcl := Tr.cnt_lt t'
  have h16 := pow_le7 (d := 7) (by omega)
  have hcnt := Tr.cnt_asks t' 0 N4.out.cl (by simp)
  have hself : ∀ w W, Below w.heap.size w W → MapT w b' t' → Calls Tryd.prog 23 #[.pointer (some ⟨b', 0, none⟩), .pointer (some ⟨b', 0, none⟩)] W fun e w' => e = .returned (.tuple #[.int .i64 (t'.cnt : Nat), .int .i64 ((0 : Nat) : Int)]) ∧ Below W.heap.size W w' := by
    intro w W hb hm
    have := shared_any b' b' _ _ t' t' W (hm.map.ext hb) (hm.map.ext hb)
    rw [Tr.fr_self] at this
    simpa using this
  have hsh : Calls Tryd.prog 23 #[.pointer (some ⟨b, 0, none⟩), .pointer (some ⟨b', 0, none⟩)] w4 fun e w' => e = .returned (.tuple #[.int .i64 ((t'.cnt - t.fr t' : Nat) : Int), .int .i64 (t.fr t' : Nat)]) ∧ Below w4.heap.size w4 w' := by
    have := shared_any b b' _ _ t t' w4 M4.out.map N4.out.map
    rwa [show (t'.cnt : Int) - (t.fr t' : Int) = ((t'.cnt - t.fr t' : Nat) : Int) by omega] at this
  obtain ⟨A, hA⟩ : ∃ A, t'.cnt = A + t.fr t' := ⟨t'.cnt - t.fr t', by omega⟩
  rw [hA, Nat.add_sub_cancel] at hsh
  rw [hA] at hself hcl hcnt
  have FR' := FR.out
  rw [hA] at FR'
  generalize t.fr t' = F at hsh hself hcl hcnt FR'
  have hbd : A + F ≤ 4294967296 := by omega
  have HSH := Lib.hid hsh
  have HSE := Lib.hid hself
  have HCN := Lib.hid hcnt
  have FRR := Lib.hid FR'
  clear hle hcl h16 hcnt hself hsh hA FR FR'
  go_wp2_with fail
  refine HSH.out.mono ?_
  rintro e w5 ⟨rfl, hb5⟩
  have V5 := Lib.hid (V4.out.ext hb5)
  have P5 := Lib.hid (P4.out.ext hb5)
  have g5 := Lib.hid (g4.out.trans (hb5.mono g4.out.size))
  have N5 := Lib.hid (N4.out.ext hb5)
  clear V4 P4 g4 N4 M4 HSH hb5
  go_wp2_with fail
  refine (list_l b' (t'.ents 0) (-1) w5 N5.out.l (by omega)).mono ?_
  rintro e w6 ⟨es, rfl, ho, hb6⟩
  rw [cutL_neg'] at ho
  obtain ⟨za, zc, rfl⟩ := ho.len
  have RO := Lib.hid (ho.rd encL_len)
  have V6 := Lib.hid (V5.out.ext hb6)
  have P6 := Lib.hid (P5.out.ext hb6)
  have g6 := Lib.hid (g5.out.trans (hb6.mono g5.out.size))
  have N6 := Lib.hid (N5.out.ext hb6)
  clear V5 P5 g5 N5 ho hb6
  go_wp2_with fail
  refine (nodes_any _ (t'.ents 0) w6 RO.out N6.out.l.keys (by omega)).mono ?_
  rintro e w7 ⟨rfl, hb7⟩
  rw [← HCN.out]
  have V7 := Lib.hid (V6.out.ext hb7)
  have P7 := Lib.hid (P6.out.ext hb7)
  have g7 := Lib.hid (g6.out.trans (hb7.mono g6.out.size))
  have N7 := Lib.hid (N6.out.ext hb7)
  clear V6 P6 g6 N6 hb7 RO
  go_wp2_with fail
  refine (HSE.out w7 w7 (Below.refl _ _) N7.out).mono ?_
  rintro e w8 ⟨rfl, hb8⟩
  have V8 := Lib.hid (V7.out.ext hb8)
  have P8 := Lib.hid (P7.out.ext hb8)
  have g8 := Lib.hid (g7.out.trans (hb8.mono g7.out.size))
  have p3 := P8.out.cell (i := 3) rfl
  clear V7 P7 g7 N7 hb8 HSE HCN
  have p1 := P8.out.cell (i := 1) rfl
  have p2 := P8.out.cell (i := 2) rfl
  have v0 := V8.out.cell (i := 0) rfl
  have v1 := V8.out.cell (i := 1) rfl
  clear P8 V8
  rcases FRR.out with ⟨rfl, hg⟩ | ⟨hx, hg, hF, hiff⟩ | ⟨hx, hg, rfl⟩
  · cases gone with
    | true =>
      try dsimp only at hg
      rw [if_pos rfl] at hg
      rw [hg]
      clear p1 p2 v0 v1
      go_wp2
      go_returns
      exact ⟨rfl, g8.out⟩
    | false =>
      try dsimp only at hg
      rw [if_neg (by simp)] at hg
      rw [hg]
      rw [hg] at v0 v1
      simp only [gv, Option.getD_some] at v0 v1 ⊢
      clear hg
      go_wp2_with (go_at_call 18; refine (sameValue_any ⟨xk, xn⟩ ⟨xk, xn⟩ _).mono ?_; rintro e w9 ⟨rfl, hb9⟩; rw [decide_eq_true (rfl : (⟨xk, xn⟩ : V) = ⟨xk, xn⟩)])
      go_returns
      exact ⟨rfl, g8.out.trans (hb9.mono g8.out.size)⟩
  · try dsimp only at hx hg
    subst hx
    rw [hg]
    clear hg p1 p2 v0 v1
    have d1 : decide ((F : Int) ≤ 8) = true := by simpa using by omega
    have d2 : decide ((0 : Int) < (F : Int)) = decide (0 < F) := by simp
    have d3 : decide ((0 : Int) < (A : Int) + (F : Int)) = decide (0 < F) := by
      rw [decide_eq_decide]; omega
    have d4 : (A : Int) + (F : Int) - (F : Int) = (A : Int) := by omega
    clear hiff
    go_wp2
    go_returns
    exact ⟨rfl, g8.out⟩
  · try dsimp only at hx hg
    subst hx
    cases hq : t.get key with
    | none =>
      clear p1 p2 v0 v1
      go_wp2
      go_returns
      exact ⟨rfl, g8.out⟩
    | some u =>
      rw [hq] at v0 v1 hg
      simp only [gv, Option.getD_some] at v0 v1 ⊢
      have hu : ¬ u = ⟨xk, xn⟩ := fun e => hg (by rw [e])
      have hd := decide_eq_false hu
      have HD := Lib.hid hd
      clear hg hu hd hq
      go_wp2_with (go_at_call 18; refine (sameValue_any u ⟨xk, xn⟩ _).mono ?_; rintro e w9 ⟨rfl, hb9⟩; rw [HD.out])
      go_returns
      exact ⟨rfl, g8.out.trans (hb9.mono g8.out.size)⟩
end Go.Proofs.YtihmhledogppmaaDoor
