/- The walk of levylaw11.HistAll. -/
import Derived.Test.YtmhhejpokgdjoaaJl
namespace Go.Proofs.Ytmhhejpokgdjoaa
open Go Go.RowKit
set_option linter.unusedVariables false
set_option linter.unusedSimpArgs false
attribute [local go_sem] Oper.semAt_some

theorem touched_c (b : Nat) (na nb : Int) (w : World) : Calls Try.prog 31 #[.pointer (some ⟨b, 0, none⟩), .int .i64 na, .int .i64 nb] w fun e w' =>
    ∃ B1 B2 B3, e = .returned (.func (.func 51) #[] #[.pointer (some ⟨B1, 0, none⟩), .pointer (some ⟨B2, 0, none⟩), .pointer (some ⟨B3, 0, none⟩)]) ∧ Below w.heap.size w w' ∧ Holds w' B1 [.pointer (some ⟨b, 0, none⟩)] ∧ Holds w' B2 [.int .i64 na] ∧ Holds w' B3 [.int .i64 nb] := touched_b b na nb w
set_option maxRecDepth 100000 in
set_option maxHeartbeats 3200000 in
theorem histAll_any (v0 v2 : Value) (l : List E) (nb : Bool) (script : List OpL) (w : World) (hr : RdF w v0 l) (hid : ∀ x ∈ l, x.1 < 4294967296) (hsc : Script w v2 script) :
    Calls Try.prog 7 #[v0, .bool nb, v2] w fun e w' => e = .returned (.bool true) ∧ Below w.heap.size w w' := by
  obtain ⟨sa, sc, rfl, hrd⟩ := hsc.rd
  have HRD := Lib.hid hrd
  have HLS := Lib.hid hsc.ls
  have hlm := hsc.len
  have HBG := Lib.hid (begin_any v0 l nb w hr hid)
  have ep := fun b W => eql_ph_nil ⟨b, 0, none⟩ W
  clear hr hid hsc hrd
  go_enter Try.func7, Try.ntmps7
  go_wp2_with fail
  refine HBG.out.mono ?_
  rintro e w1 ⟨bp, cp, vs, rfl, h1, q1, n1, l1, l2, hb1⟩
  have H1 := Lib.hid h1
  have Q1 := Lib.hid q1
  have B1 := Lib.hid hb1
  have hal : Below w1.heap.size w1 (w1.alloc (.cells #[.pointer (some ⟨bp, 0, none⟩), .pointer (some ⟨cp, 0, none⟩)] 64)) := (Below.refl _ _).alloc (Nat.le_refl _) _
  have HP1 : Hid (Holds (w1.alloc (.cells #[.pointer (some ⟨bp, 0, none⟩), .pointer (some ⟨cp, 0, none⟩)] 64)) w1.heap.size (prC bp cp)) := Lib.hid (Holds.alloc w1 (prC bp cp) _)
  have HAL := Lib.hid hal
  have N1 := Lib.hid n1
  have hx1 := h1.facts.2.2.2
  have hx2 := q1.facts.2.2.2
  have hz1 := hb1.size
  clear h1 q1 hb1 hal n1 HBG
  go_wp2_with fail
  refine (begin_any (.slice none 0 0) [] true _ ⟨none, 0, rfl, Nat.le_refl _, rd_nil _ _ _⟩ (by simp)).mono ?_
  rintro e w2 ⟨bq, cq, us, rfl, h2, q2, n2, l3, l4, hb2⟩
  have l3' : w1.heap.size + 1 ≤ bq := by simpa using l3
  have l4' : w1.heap.size + 1 ≤ cq := by simpa using l4
  have hal2 : Below w2.heap.size w2 (w2.alloc (.cells #[.pointer (some ⟨bq, 0, none⟩), .pointer (some ⟨cq, 0, none⟩)] 64)) := (Below.refl _ _).alloc (Nat.le_refl _) _
  have HQ2 : Hid (Holds (w2.alloc (.cells #[.pointer (some ⟨bq, 0, none⟩), .pointer (some ⟨cq, 0, none⟩)] 64)) w2.heap.size (prC bq cq)) := Lib.hid (Holds.alloc w2 (prC bq cq) _)
  have hb2' : Below w1.heap.size w1 w2 := HAL.out.trans (hb2.mono HAL.out.size)
  have hsz2 := hb2.size
  have HP2 := Lib.hid ((HP1.out.ext hb2).ext hal2)
  have H12 := Lib.hid ((H1.out.ext hb2').ext hal2)
  have Q12 := Lib.hid ((Q1.out.ext hb2').ext hal2)
  have H22 := Lib.hid (h2.ext hal2)
  have Q22 := Lib.hid (q2.ext hal2)
  have B2 := Lib.hid ((B1.out.trans (hb2'.mono B1.out.size)).trans (hal2.mono (Nat.le_trans hz1 hb2'.size)))
  have N2 := Lib.hid n2
  have hz2 : w1.heap.size + 1 ≤ w2.heap.size := by simpa using hsz2
  have p0 := HP2.out.cell (i := 0) rfl
  clear h2 q2 n2 l3 l4 hb2 hb2' hsz2 hal2 H1 Q1 B1 HP1
  go_wp2
  refine rgnH [[0, 1, 3, 4, 2], [5], [6, 7]] [] [4] [⟨w1.heap.size, 0, none⟩] (by kernel_rfl) (by simp) ?_ ?_
  · intro p hp
    simp only [List.mem_singleton] at hp
    subst hp
    rw [p0]; rfl
  unfold seg
  simp only [pickL, List.getD_cons_zero, List.getD_cons_succ]
  go_wp2_with fail
  refine (steps_make bp _).mono ?_
  rintro e w3 ⟨rfl, hw⟩
  subst hw
  go_wp2
  refine ⟨fun p hp => rfl, ?_⟩
  unfold seg
  simp only [pickL, List.getD_cons_zero, List.getD_cons_succ]
  go_wp2_with fail
  refine (touched_c bp (-1) 0 _).mono ?_
  rintro e w3 ⟨A1, A2, A3, rfl, hb3, x1, x2, x3⟩
  have hb3' := below_of_drew hb3
  have hz3 := hb3'.size
  have A : Hid (AllS w w1.heap.size w2.heap.size A1 A2 A3 bp cp vs 0 us 0 bq cq w3) := Lib.hid
    ⟨H12.out.ext hb3', Q12.out.ext hb3', H22.out.ext hb3', Q22.out.ext hb3', N1.out, N2.out, by omega, by omega, by omega, by omega, HP2.out.ext hb3', HQ2.out.ext hb3', x1, x2, x3, by omega, ⟨l1, l2, by omega, by omega, by omega⟩, B2.out.trans (hb3'.mono B2.out.size)⟩
  have SM3 : SameAt [⟨w1.heap.size, 0, none⟩] (w2.alloc (.cells #[.pointer (some ⟨bq, 0, none⟩), .pointer (some ⟨cq, 0, none⟩)] 64)) w3 := sameAt_pr HP2.out (HP2.out.ext hb3') (k := 0) rfl
  clear hb3 hb3' x1 x2 x3 H12 Q12 H22 Q22 N1 N2 HP2 HQ2 B2 p0 hz3
  go_wp2
  refine ⟨SM3, ?_⟩
  unfold seg
  simp only [pickL, List.getD_cons_zero, List.getD_cons_succ]
  go_wp2
  refine ⟨SM3, rfl, ⟨.inl rfl, trivial⟩, ?_⟩
  clear SM3 hz1 hz2 l3' l4'
  generalize w1.heap.size = P at A ⊢
  generalize w2.heap.size = Q at A ⊢
  go_wp2
  go_loopw [11] (fun q wr => ∃ k : Nat, k ≤ script.length ∧ q = .int .i64 (k : Int) ∧ ∃ vs i us j bq cq, AllS w P Q A1 A2 A3 bp cp vs i us j bq cq wr) (fun q _ => script.length - (intOf q).toNat)
  case atStart => exact ⟨0, by omega, rfl, vs, 0, us, 0, bq, cq, A.out⟩
  case round =>
    clear A
    obtain ⟨k, hk, rfl, vs, i, us, j, bq, cq, hA⟩ := hrel
    obtain ⟨wo, rfl⟩ : ∃ x, x = wr := ⟨wr, rfl⟩
    have A := Lib.hid hA
    have p0 := hA.hP.cell (i := 0) rfl
    have p1 := hA.hP.cell (i := 1) rfl
    have c0 := hA.hQ.cell (i := 0) rfl
    have c1 := hA.hQ.cell (i := 1) rfl
    have hPlt := hA.hP.lt
    have hQlt := hA.hQ.lt
    have hbplt := hA.h1.blk.lt
    have hcplt := hA.q1.blk.lt
    have hB := hA.below
    have hBs := hB.size
    clear hA
    by_cases hkl : k < script.length
    · have e1 : script[k]? = some script[k] := List.getElem?_eq_getElem hkl
      have hls := HLS.out _ (List.getElem_mem hkl)
      rcases HRD.out with hnil | ⟨g, o, rfl, hg, hcl⟩
      · subst hnil; simp at hkl
      generalize script[k] = x at e1 hls
      obtain ⟨xk, xa, xb, x2, xn, xv, xl⟩ := x
      obtain ⟨⟨la, lc, hlv, hlf, hlr⟩, hids⟩ := hls
      simp only at hlv hlf hlr hids
      subst hlv
      have hrf : RdF wo (.slice la xl.length lc) xl := RdF.ext ⟨la, lc, rfl, hlf, hlr⟩ hB
      have f0 := (hB.cell (p := ⟨g, _, none⟩) hg).trans (hcl k _ 0 _ e1 rfl)
      have f1 := (hB.cell (p := ⟨g, _, none⟩) hg).trans (hcl k _ 1 _ e1 rfl)
      have f2 := (hB.cell (p := ⟨g, _, none⟩) hg).trans (hcl k _ 2 _ e1 rfl)
      have f3 := (hB.cell (p := ⟨g, _, none⟩) hg).trans (hcl k _ 3 _ e1 rfl)
      have f4 := (hB.cell (p := ⟨g, _, none⟩) hg).trans (hcl k _ 4 _ e1 rfl)
      have f5 := (hB.cell (p := ⟨g, _, none⟩) hg).trans (hcl k _ 5 _ e1 rfl)
      simp only [Nat.add_zero] at f0
      have hgo : g < wo.heap.size := Nat.lt_of_lt_of_le hg hB.size
      have RF := Lib.hid hrf
      have HIDS := Lib.hid hids
      clear hcl e1 hlf hlr hids hrf hB
      by_cases h9 : xk = 9
      · subst h9
        go_wp2
        refine rgnH [[0, 1, 3, 4, 2], [5], [6, 7]] [] [4] [⟨P, 1, none⟩] (by kernel_rfl) (by simp) ?_ ?_
        · intro p hp
          simp only [List.mem_singleton] at hp
          subst hp
          rw [p1]; rfl
        unfold seg
        simp only [pickL, List.getD_cons_zero, List.getD_cons_succ]
        go_wp2_with fail
        refine (hclone_any bp vs i _ (A.out.h1.ext (Below.refl _ _).drew)).mono ?_
        rintro e w4 ⟨c, rfl, hc, hge, hb4⟩
        have hb4' := below_of_drew hb4
        have hge' : wo.heap.size ≤ c := hge
        have hz4 : wo.heap.size ≤ w4.heap.size := hb4'.size
        have hclt := hc.blk.lt
        have A4 := Lib.hid (A.out.ext hb4')
        have HC := Lib.hid hc
        have SM4 := sameAt_pr A.out.hP A4.out.hP (k := 1) rfl
        clear hc hb4 hb4' hge
        go_wp2
        refine ⟨SM4, ?_⟩
        unfold seg
        simp only [pickL, List.getD_cons_zero, List.getD_cons_succ]
        go_wp2_with fail
        refine (rclone_any cp vs i w4 A4.out.q1).mono ?_
        rintro e w5 ⟨d, rfl, hd, hge5, hb5⟩
        have A5 := Lib.hid (A4.out.ext hb5)
        have HS := Lib.hid (A5.out.clone (HC.out.ext hb5) hd (by omega) (by omega) (by omega) (by omega) (by omega) (by omega) (by omega))
        have u0 := A5.out.hQ.cell (i := 0) rfl
        have u1 := A5.out.hQ.cell (i := 1) rfl
        have fr0 := A5.out.hQ.free 0
        have fr1 := A5.out.hQ.free 1
        have z0 := HS.out.hQ.cell (i := 0) rfl
        have SM5 := sameAt_pr A.out.hP A5.out.hP (k := 1) rfl
        have SM6 := sameAt_pr A.out.hP HS.out.hP (k := 1) rfl
        clear hd hb5 SM4
        go_wp2
        refine ⟨SM5, ?_⟩
        unfold seg
        simp only [pickL, List.getD_cons_zero, List.getD_cons_succ]
        go_wp2
        refine ⟨SM6, rfl, ⟨.inl rfl, trivial⟩, ?_⟩
        go_wp2
        go_roundw
        case rel => exact ⟨k + 1, by omega, by go_num, _, _, _, _, _, _, HS.out⟩
        case measure => simp [intOf]; omega
      · have q9 : (xk == 9) = false := by simpa using h9
        clear h9
        cases x2 with
        | false =>
          have hPL := fun W (hW : Below wo.heap.size wo W) => pplays_any bp cp vs i ⟨xk, xa, xb, false, xn, .slice la xl.length lc, xl⟩ W (A.out.h1.ext hW) (A.out.q1.ext hW) A.out.n1 (RF.out.ext hW) HIDS.out
          have PL := Lib.hid hPL
          have hal : Below wo.heap.size wo (wo.alloc (.cells #[.pointer (some ⟨bp, 0, none⟩), .pointer (some ⟨cp, 0, none⟩)] 64)) := (Below.refl _ _).alloc (Nat.le_refl _) _
          have HAL2 := Lib.hid hal
          clear hPL hal
          go_wp2
          refine rgn [0, 1, 2, 3, 4, 5, 6] [] (by kernel_rfl) ?_
          simp only [pickL, List.getD_cons_zero, List.getD_cons_succ]
          go_wp2_with fail
          refine (PL.out _ HAL2.out.drew).mono ?_
          rintro e w4 ⟨rfl, vs', i', k1, k2, hf⟩
          have A4 := Lib.hid ((A.out.ext HAL2.out.drew).play1 hf k1 k2)
          clear k1 k2 hf
          go_wp2
          try refine ⟨rfl, ?_⟩
          go_wp2
          go_roundw
          case rel => exact ⟨k + 1, by omega, by go_num, _, _, _, _, _, _, A4.out⟩
          case measure => simp [intOf]; omega
        | true =>
          have hPL := fun W (hW : Below wo.heap.size wo W) => pplays_any bq cq us j ⟨xk, xa, xb, true, xn, .slice la xl.length lc, xl⟩ W (A.out.h2.ext hW) (A.out.q2.ext hW) A.out.n2 (RF.out.ext hW) HIDS.out
          have PL := Lib.hid hPL
          have hal : Below wo.heap.size wo (wo.alloc (.cells #[.pointer (some ⟨bq, 0, none⟩), .pointer (some ⟨cq, 0, none⟩)] 64)) := (Below.refl _ _).alloc (Nat.le_refl _) _
          have HAL2 := Lib.hid hal
          clear hPL hal
          go_wp2
          refine rgn [0, 1, 2, 3, 4, 5, 6] [] (by kernel_rfl) ?_
          simp only [pickL, List.getD_cons_zero, List.getD_cons_succ]
          go_wp2_with fail
          refine (PL.out _ HAL2.out.drew).mono ?_
          rintro e w4 ⟨rfl, us', j', k1, k2, hf⟩
          have A4 := Lib.hid ((A.out.ext HAL2.out.drew).play2 hf k1 k2)
          clear k1 k2 hf
          go_wp2
          try refine ⟨rfl, ?_⟩
          go_wp2
          go_roundw
          case rel => exact ⟨k + 1, by omega, by go_num, _, _, _, _, _, _, A4.out⟩
          case measure => simp [intOf]; omega
    · have hno : decide ((k : Int) < (script.length : Int)) = false := by simp; omega
      obtain ⟨ps, y1, e1⟩ := A.out.h1
      obtain ⟨qs, y2, e2⟩ := A.out.q1
      obtain ⟨ps', y3, e3⟩ := A.out.h2
      obtain ⟨qs', y4, e4⟩ := A.out.q2
      have E1 := Lib.hid (e1.trans e2.symm)
      have E2 := Lib.hid (e3.trans e4.symm)
      have Y1 := Lib.hid y1
      have Y2 := Lib.hid y2
      have Y3 := Lib.hid y3
      have Y4 := Lib.hid y4
      clear e1 e2 e3 e4 y1 y2 y3 y4
      go_wp2_with fail
      refine (psteps_any bp cp ps qs i 0 _ Y1.out Y2.out E1.out).mono ?_
      rintro e w4 ⟨rfl, hb4⟩
      have A4 := Lib.hid (A.out.ext hb4)
      have Z1 := Lib.hid (Y1.out.ext hb4)
      have Z2 := Lib.hid (Y2.out.ext hb4)
      have Z3 := Lib.hid (Y3.out.ext hb4)
      have Z4 := Lib.hid (Y4.out.ext hb4)
      have s0 := A4.out.hP.cell (i := 0) rfl
      have s1 := A4.out.hP.cell (i := 1) rfl
      have t0 := A4.out.hQ.cell (i := 0) rfl
      have t1 := A4.out.hQ.cell (i := 1) rfl
      clear hb4
      go_wp2_with fail
      refine (psteps_any bq cq ps' qs' j 0 _ Z3.out Z4.out E2.out).mono ?_
      rintro e w5 ⟨rfl, hb5⟩
      have A5 := Lib.hid (A4.out.ext hb5)
      have U1 := Lib.hid (Z1.out.ext hb5)
      have U2 := Lib.hid (Z2.out.ext hb5)
      have s2 := A5.out.hP.cell (i := 0) rfl
      have s3 := A5.out.hP.cell (i := 1) rfl
      clear hb5
      go_wp2_with fail
      refine (through_any bp cp ps qs i 0 _ U1.out U2.out E1.out).mono ?_
      rintro e w6 ⟨rfl, hb6⟩
      have A6 := Lib.hid (A5.out.ext hb6)
      have V1 := Lib.hid (U1.out.ext hb6)
      have V2 := Lib.hid (U2.out.ext hb6)
      have s4 := A6.out.hP.cell (i := 0) rfl
      have s5 := A6.out.hP.cell (i := 1) rfl
      clear hb6
      go_wp2_with fail
      refine (pkeys_any bp cp ps qs i (-1) 0 A1 A2 A3 _ V1.out V2.out E1.out A6.out.b1 A6.out.b2 A6.out.b3).mono ?_
      rintro e w7 ⟨rfl, hb7⟩
      have A7 := Lib.hid (A6.out.ext hb7)
      clear hb7
      go_wp2
      go_returns
      exact ⟨rfl, A7.out.below⟩
end Go.Proofs.Ytmhhejpokgdjoaa
