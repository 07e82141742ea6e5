/- The walk of levyref3.PutAs. -/
import Derived.Test.YtmhhejpokgdjoaaRd
namespace Go.Proofs.Ytmhhejpokgdjoaa
open Go Go.RowKit
set_option linter.unusedVariables false
set_option linter.unusedSimpArgs false
attribute [local go_sem] Oper.semAt_some

theorem info_a8s : (Try.prog.info? 156).map (·.size) = some 8 := by kernel_rfl
theorem encRI_one (e : RE) : ∀ u ∈ encRI e, u.oneCell' = true := by
  intro u hu
  simp only [encRI, List.mem_cons, List.not_mem_nil, or_false] at hu
  subst hu; rfl
theorem encRV_one (e : RE) : ∀ u ∈ encRV e, u.oneCell' = true := by
  intro u hu
  simp only [encRV, vCells, List.mem_cons, List.not_mem_nil, or_false] at hu
  rcases hu with rfl | rfl <;> rfl
theorem encRS_one (e : RE) : ∀ u ∈ encRS e, u.oneCell' = true := by
  intro u hu
  simp only [encRS, List.mem_cons, List.not_mem_nil, or_false] at hu
  rcases hu with rfl | rfl | rfl | rfl | rfl | rfl | rfl | rfl <;> rfl
set_option maxRecDepth 100000 in
set_option maxHeartbeats 8000000 in
theorem putAs_r (b id : Nat) (v : V) (x : Int) (l : List RE) (w : World) (h : RefAt w b l) (hid : id < 4294967296) (hl : l.length ≤ 1099511627776) :
    Calls Try.prog 78 #[.pointer (some ⟨b, 0, none⟩), .int .u32 (id : Nat), .agg #[.int .i64 v.k, .int .i64 v.n], .int .i64 x] w fun e w' => ∃ b', e = .returned (.pointer (some ⟨b', 0, none⟩)) ∧ RefAt w' b' (putR l id v x) ∧ Below w.heap.size w w' ∧ NewR w w' b b' l (putR l id v x) := by
  obtain ⟨i1, hi1, ha1, hb1, hc1⟩ := info_parts info_u32R
  obtain ⟨i2, hi2, ha2, hb2, hc2⟩ := info_parts info_va
  obtain ⟨i3, hi3, ha3, hb3, hc3⟩ := info_parts info_a8
  have hbx := Holds.alloc w (vCells v) 50
  have hba : Below w.heap.size w (w.alloc (.cells (vCells v).toArray 50)) := (Below.refl _ _).alloc (Nat.le_refl _) _
  have HR := Lib.hid h
  have HBX := Lib.hid hbx
  have HBA := Lib.hid hba
  have hpl := plR_le l id
  clear h hbx hba
  go_enter Try.func78, Try.ntmps78
  go_wp2_with fail
  refine (place_r b id l _ (HR.out.ext HBA.out) (by omega)).mono ?_
  rintro e w1 ⟨rfl, hb⟩
  have R1 := Lib.hid ((HR.out.ext HBA.out).ext hb)
  have X1 := Lib.hid (HBX.out.ext hb)
  have B1 := Lib.hid (HBA.out.trans (hb.mono HBA.out.size))
  clear hb HBX HBA
  obtain ⟨ok, HOK⟩ : ∃ ok, Hid (okR l id = ok) := ⟨_, Lib.hid rfl⟩
  rw [HOK.out]
  go_upto_if 45 with fail
  go_cut [45] (fun t wc => t = .bool (samR l id v) ∧ Holds wc w.heap.size (vCells v) ∧ Below w1.heap.size w1 wc)
  case first =>
    obtain ⟨ia, ic, va, vc, sa, sc, q1, q2, q3, q4⟩ := R1.out.cells
    have c1 := q1.cell (i := 1) rfl
    have x0 := X1.out.cell (i := 0) rfl
    have x1 := X1.out.cell (i := 1) rfl
    cases ok with
    | false =>
      have hok := HOK.out
      have hs : Hid (samR l id v = false) := Lib.hid (by
        unfold okR at hok
        unfold samR
        split at hok
        · rename_i e he
          rw [he]
          simp only [decide_eq_false_iff_not] at hok ⊢
          exact fun h => hok h.1
        · rename_i he
          rw [he])
      clear hok
      go_wp2
      refine rgn [0, 1, 2, 3, 4, 5, 6, 7, 8, 9, 10, 11, 12, 13, 14, 15, 16, 17, 18, 19, 20, 21, 22, 23, 24, 25, 26] [12, 25] (by kernel_rfl) ?_
      simp only [pickL, List.getD_cons_zero, List.getD_cons_succ]
      go_wp2
      refine ⟨by simp [chkD, dyn, Region.wanted, yielded, Act.eval, scalarV], ?_⟩
      go_wp2
      go_meet
      case rel => exact ⟨by rw [hs.out], X1.out.drew, (Below.refl _ _).drew⟩
    | true =>
      have hok := HOK.out
      have hlt := ok_lt hok
      have e1 : l[plR l id]? = some l[plR l id] := List.getElem?_eq_getElem hlt
      have hoks : (l[plR l id]).id = id := by
        have := hok
        unfold okR at this
        rw [e1] at this
        simpa using this
      generalize l[plR l id] = y at e1 hoks
      obtain ⟨g, o, rfl, hg, hc⟩ := rd_elt q3 e1
      have f0 := hc 0 _ rfl
      have f1 := hc 1 _ rfl
      simp only [Nat.add_zero] at f0
      by_cases hv : y.v = v
      · have hs : Hid (samR l id v = true) := Lib.hid (by unfold samR; rw [e1]; simp [hoks, hv])
        have d1 : (y.v.k == v.k) = true := by rw [hv]; simp
        have d2 : (y.v.n == v.n) = true := by rw [hv]; simp
        clear hv hc e1 hoks hok
        go_wp2
        refine rgn [0, 1, 2, 3, 4, 5, 6, 7, 8, 9, 10, 11, 12, 13, 14, 15, 16, 17, 18, 19, 20, 21, 22, 23, 24, 25, 26] [12, 25] (by kernel_rfl) ?_
        simp only [pickL, List.getD_cons_zero, List.getD_cons_succ]
        go_wp2
        refine ⟨by simp [chkD, dyn, Region.wanted, yielded, Act.eval, scalarV], ?_⟩
        go_wp2
        go_meet
        case rel => exact ⟨by rw [hs.out], X1.out.drew, (Below.refl _ _).drew⟩
      · have hs : Hid (samR l id v = false) := Lib.hid (by unfold samR; rw [e1]; simp [hv])
        have d1' : (y.v.k == v.k) = false ∨ ((y.v.k == v.k) = true ∧ (y.v.n == v.n) = false) := by
          by_cases h1 : y.v.k = v.k
          · right
            refine ⟨by simpa using h1, ?_⟩
            simp only [beq_eq_false_iff_ne]
            intro h2
            exact hv (by cases hy : y.v; cases hq : v; rw [hy, hq] at h1 h2; simp at h1 h2; rw [h1, h2])
          · left; simpa using h1
        clear hv hc e1 hoks hok
        rcases d1' with d1 | ⟨d1, d2⟩
        · go_wp2
          refine rgn [0, 1, 2, 3, 4, 5, 6, 7, 8, 9, 10, 11, 12, 13, 14, 15, 16, 17, 18, 19, 20, 21, 22, 23, 24, 25, 26] [12, 25] (by kernel_rfl) ?_
          simp only [pickL, List.getD_cons_zero, List.getD_cons_succ]
          go_wp2
          refine ⟨by simp [chkD, dyn, Region.wanted, yielded, Act.eval, scalarV], ?_⟩
          go_wp2
          go_meet
          case rel => exact ⟨by rw [hs.out], X1.out.drew, (Below.refl _ _).drew⟩
        · go_wp2
          refine rgn [0, 1, 2, 3, 4, 5, 6, 7, 8, 9, 10, 11, 12, 13, 14, 15, 16, 17, 18, 19, 20, 21, 22, 23, 24, 25, 26] [12, 25] (by kernel_rfl) ?_
          simp only [pickL, List.getD_cons_zero, List.getD_cons_succ]
          go_wp2
          refine ⟨by simp [chkD, dyn, Region.wanted, yielded, Act.eval, scalarV], ?_⟩
          go_wp2
          go_meet
          case rel => exact ⟨by rw [hs.out], X1.out.drew, (Below.refl _ _).drew⟩
  case rest =>
    obtain ⟨rfl, hx, hb⟩ := hcut
    obtain ⟨w2, rfl⟩ : ∃ x, x = wc := ⟨wc, rfl⟩
    have R2 := Lib.hid (R1.out.ext hb)
    have X2 := Lib.hid hx
    have B2 := Lib.hid (B1.out.trans (hb.mono B1.out.size))
    clear hx hb R1 X1 B1 HR
    obtain ⟨sm, HSM⟩ : ∃ sm, Hid (samR l id v = sm) := ⟨_, Lib.hid rfl⟩
    rw [HSM.out]
    cases sm with
    | true =>
      go_wp2
      go_returns
      exact ⟨b, rfl, by unfold putR; rw [if_pos HSM.out]; exact R2.out, B2.out, .inl ⟨rfl, by unfold putR; rw [if_pos HSM.out]⟩⟩
    | false =>
      have hnb := Holds.alloc w2 [.slice none 0 0, .slice none 0 0, .slice none 0 0] 147
      have hba : Below w2.heap.size w2 (w2.alloc (.cells #[.slice none 0 0, .slice none 0 0, .slice none 0 0] 147)) := (Below.refl _ _).alloc (Nat.le_refl _) _
      have HNB := Lib.hid hnb
      have HBA := Lib.hid hba
      clear hnb hba
      obtain ⟨ia, ic, va, vc, sa, sc, q1, _⟩ := R2.out.cells
      have HQ1 := Lib.hid q1
      clear q1
      go_wp2
      go_loopw [12] (fun i wr => ∃ k : Nat, k ≤ l.length + 1 ∧ i = .int .i64 (k : Int) ∧ ∃ v1 v2 v3, RefO wr w2.heap.size v1 v2 v3 (curP l id v k) (curP l id v k) (curP l id v k) ∧ Below w2.heap.size w2 wr) (fun i _ => l.length + 1 - (intOf i).toNat)
      case atStart => exact ⟨0, by omega, rfl, _, _, _, by rw [curP_zero]; exact ⟨HNB.out, own_nil _ _ _ _ _, own_nil _ _ _ _ _, own_nil _ _ _ _ _⟩, HBA.out⟩
      case round =>
        obtain ⟨k, hk, rfl, v1, v2, v3, hr, hb⟩ := hrel
        have PR := Lib.hid hr
        have PB := Lib.hid hb
        have HLEN := Lib.hid (curP_len l id v k)
        clear hr hb
        obtain ⟨wP, rfl⟩ : ∃ x, x = wr := ⟨wr, rfl⟩
        have s0 := (HQ1.out.ext PB.out).cell (i := 0) rfl
        by_cases hkl : k ≤ l.length
        · have d1 : decide ((k : Int) ≤ (l.length : Int)) = true := by simp; omega
          have d2 : decide (k ≤ l.length) = true := by simpa using hkl
          go_upto_if 60 with fail
          go_cut [] (fun wc => ∃ v1 v2 v3, RefO wc w2.heap.size v1 v2 v3 (midP l id v k) (midP l id v k) (midP l id v k) ∧ Below w2.heap.size w2 wc)
          case first =>
            skip
            by_cases hka : k = plR l id
            · have hk1 : ((k : Int) == (plR l id : Int)) = true := by rw [hka]; simp
              have hk2 : (k == plR l id) = true := by rw [hka]; simp
              have hmid : Hid (midP l id v k = curP l id v k ++ [newE id v]) := Lib.hid (by unfold midP; rw [if_pos hka])
              clear hka
              obtain ⟨ra1, rc1, hrv, _⟩ := own_len PR.out.o1
              subst hrv
              have pc := PR.out.cells.cell (i := 0) rfl
              have hltB := PR.out.cells.lt
              have hal : Below wP.heap.size wP (wP.alloc (.cells #[.int .u32 (id : Nat)] 48)) := (Below.refl _ _).alloc (Nat.le_refl _) _
              have hrow : Holds (wP.alloc (.cells #[.int .u32 (id : Nat)] 48)) wP.heap.size (encRI (newE id v)) := Holds.alloc wP (encRI (newE id v)) 48
              have HROW := Lib.hid hrow
              have HAL := Lib.hid hal
              clear hrow hal
              go_wp2_with (at_builtin; refine wpList_append_one rfl _ _ _ rfl (w2.heap.size + 1) 48 i1 _ 1 4 und_u32R hi1 ha1 hb1 hc1 rfl (by omega) encRI _ (curP l id v k) (newE id v) rfl (PR.out.o1.below HAL.out) wP.heap.size rfl HROW.out rfl (encRI_one _) (by have := HLEN.out; simp only [maxLen]; omega) (by have := HLEN.out; omega) (by simp; omega) ?_; intro v' W hO hG; obtain ⟨p1, p2, p3, p4⟩ := (PR.out.ext HAL.out).push1 hG hO; obtain ⟨sa', sn', sc', hsv⟩ := hO.shape; subst hsv; have PR2 := Lib.hid p1; have PB2 := Lib.hid (PB.out.trans ((HAL.out.mono (Nat.le_of_lt hltB)).trans p2)); clear PR PB HROW HAL p1 p2 hG hO pc)
              clear p3 p4 hltB
              generalize W.setCell ⟨w2.heap.size, 0, none⟩ (.slice sa' sn' sc') = wQ at PR2 PB2 ⊢
              have PR := Lib.hid PR2.out
              have PB := Lib.hid PB2.out
              clear PR2 PB2
              obtain ⟨wP, rfl⟩ : ∃ x, x = wQ := ⟨wQ, rfl⟩
              have x0 := (X2.out.ext PB.out).cell (i := 0) rfl
              have x1 := (X2.out.ext PB.out).cell (i := 1) rfl
              obtain ⟨ra2, rc2, hrv, _⟩ := own_len PR.out.o2
              subst hrv
              have pc := PR.out.cells.cell (i := 1) rfl
              have hltB := PR.out.cells.lt
              have hal : Below wP.heap.size wP (wP.alloc (.cells #[.int .i64 v.k, .int .i64 v.n] 50)) := (Below.refl _ _).alloc (Nat.le_refl _) _
              have hrow : Holds (wP.alloc (.cells #[.int .i64 v.k, .int .i64 v.n] 50)) wP.heap.size (encRV (newE id v)) := Holds.alloc wP (encRV (newE id v)) 50
              have HROW := Lib.hid hrow
              have HAL := Lib.hid hal
              clear hrow hal
              refine rgnC [[0, 1, 2, 3, 5, 4, 6], [7], [8, 9]] [] [4] [⟨w2.heap.size, 1, none⟩] 10 (by kernel_rfl) (by simp) ?_ ?_
              · intro p hp
                simp only [List.mem_singleton] at hp
                subst hp
                rw [pc]; rfl
              have hsame : ∀ W, Below (w2.heap.size + 1) wP W → SameAt [⟨w2.heap.size, 1, none⟩] wP W := by
                intro W hW p hp
                simp only [List.mem_singleton] at hp
                subst hp
                exact hW.cell (by simp)
              have HS := Lib.hid hsame
              clear hsame
              unfold seg
              simp only [pickL, List.getD_cons_zero, List.getD_cons_succ]
              go_wp2
              refine ⟨HS.out _ (HAL.out.drew.mono hltB), ?_⟩
              unfold seg
              simp only [pickL, List.getD_cons_zero, List.getD_cons_succ]
              refine wpList_append_one rfl _ _ _ rfl (w2.heap.size + 1) 50 i2 _ 2 16 und_vas hi2 ha2 hb2 hc2 rfl (by omega) encRV _ (curP l id v k) (newE id v) rfl (PR.out.o2.below HAL.out.drew) wP.heap.size rfl HROW.out.drew rfl (encRV_one _) (by have := HLEN.out; simp only [maxLen]; omega) (by have := HLEN.out; omega) (by simp; omega) ?_
              intro v' W hO hG
              obtain ⟨p1, p2, p3, p4⟩ := (PR.out.ext HAL.out.drew).push2 hG hO
              have gB : Below (w2.heap.size + 1) wP W := (HAL.out.drew.mono hltB).trans (hG.below (by simp; omega) PR.out.o2.block)
              obtain ⟨sa', sn', sc', hsv⟩ := hO.shape
              subst hsv
              have GB := Lib.hid gB
              have PR2 := Lib.hid p1
              have PB2 := Lib.hid (PB.out.trans ((HAL.out.drew.mono (Nat.le_of_lt hltB)).trans p2))
              clear PR PB HROW HAL p1 p2 hG hO gB
              go_wp2
              refine ⟨HS.out _ GB.out, ?_⟩
              unfold seg
              simp only [pickL, List.getD_cons_zero, List.getD_cons_succ]
              go_wp2
              refine ⟨HS.out _ GB.out, rfl, ⟨.inl rfl, trivial⟩, ?_⟩
              simp only [pickL, List.getD_cons_zero, List.getD_cons_succ]
              go_wp2
              unfold OnlyN
              dsimp only
              clear p3 p4 pc hltB HS GB
              generalize W.setCell ⟨w2.heap.size, 1, none⟩ (.slice sa' sn' sc') = wQ at PR2 PB2 ⊢
              have PR := Lib.hid PR2.out
              have PB := Lib.hid PB2.out
              clear PR2 PB2
              obtain ⟨wP, rfl⟩ : ∃ x, x = wQ := ⟨wQ, rfl⟩
              clear x0 x1
              obtain ⟨ra3, rc3, hrv, _⟩ := own_len PR.out.o3
              subst hrv
              have pc := PR.out.cells.cell (i := 2) rfl
              have hltB := PR.out.cells.lt
              have hal : Below wP.heap.size wP (wP.alloc (.cells #[.int .i64 0, .int .i64 0, .int .i64 0, .int .i64 0, .int .i64 0, .int .i64 0, .int .i64 0, .int .i64 0] 156)) := (Below.refl _ _).alloc (Nat.le_refl _) _
              have hrow : Holds (wP.alloc (.cells #[.int .i64 0, .int .i64 0, .int .i64 0, .int .i64 0, .int .i64 0, .int .i64 0, .int .i64 0, .int .i64 0] 156)) wP.heap.size (encRS (newE id v)) := Holds.alloc wP (encRS (newE id v)) 156
              have HROW := Lib.hid hrow
              have HAL := Lib.hid hal
              clear hrow hal
              go_wp2_with (at_builtin; refine wpList_append_one rfl _ _ _ rfl (w2.heap.size + 1) 156 i3 _ 8 64 und_a8s hi3 ha3 hb3 hc3 rfl (by omega) encRS _ (curP l id v k) (newE id v) rfl (PR.out.o3.below HAL.out) wP.heap.size rfl HROW.out rfl (encRS_one _) (by have := HLEN.out; simp only [maxLen]; omega) (by have := HLEN.out; omega) (by simp; omega) ?_; intro v' W hO hG; obtain ⟨p1, p2, p3, p4⟩ := (PR.out.ext HAL.out).push3 hG hO; obtain ⟨sa', sn', sc', hsv⟩ := hO.shape; subst hsv; have PR2 := Lib.hid p1; have PB2 := Lib.hid (PB.out.trans ((HAL.out.mono (Nat.le_of_lt hltB)).trans p2)); clear PR PB HROW HAL p1 p2 hG hO pc)
              clear p3 p4 hltB
              generalize W.setCell ⟨w2.heap.size, 2, none⟩ (.slice sa' sn' sc') = wQ at PR2 PB2 ⊢
              have PR := Lib.hid PR2.out
              have PB := Lib.hid PB2.out
              clear PR2 PB2
              obtain ⟨wP, rfl⟩ : ∃ x, x = wQ := ⟨wQ, rfl⟩
              go_meet
              case rel => exact ⟨_, _, _, by rw [hmid.out]; exact PR.out, PB.out⟩
            · have hk1 : ((k : Int) == (plR l id : Int)) = false := by simp; omega
              have hk2 : (k == plR l id) = false := by simpa using hka
              have hmid : Hid (midP l id v k = curP l id v k) := Lib.hid (by unfold midP; rw [if_neg hka, List.append_nil])
              clear hka
              go_wp2
              go_meet
              case rel => exact ⟨_, _, _, by rw [hmid.out]; exact PR.out, PB.out⟩
          case rest =>
            obtain ⟨v1, v2, v3, hr, hb⟩ := hcut
            obtain ⟨wP, rfl⟩ : ∃ x, x = wc := ⟨wc, rfl⟩
            clear PR PB HLEN
            have PR := Lib.hid hr
            have PB := Lib.hid hb
            have HLEN := Lib.hid (midP_len l id v k)
            clear hr hb
            obtain ⟨pb, HPB⟩ : ∃ pb, Hid (pushB l id k = pb) := ⟨_, Lib.hid rfl⟩
            have s0 : wP.cell? ⟨b, 0, none⟩ = some (.slice ia l.length ic) := by
              have q2 := (HQ1.out.ext PB.out)
              exact q2.cell (i := 0) rfl
            go_upto_region 12 with fail
            go_cut [106] (fun t wc => t = .bool pb ∧ wc = wP)
            case first =>
              by_cases h1 : k < l.length
              · have q1 : decide ((k : Int) < (l.length : Int)) = true := by simp; omega
                have q2 : decide (k < l.length) = true := by simpa using h1
                by_cases h2 : k = plR l id
                · have q3 : ((k : Int) != (plR l id : Int)) = false := by rw [← h2]; simp
                  have q4 : (k != plR l id) = false := by rw [← h2]; simp
                  have q5 : Hid (pb = !ok) := Lib.hid (by rw [← HPB.out, ← HOK.out]; simp [pushB, ← h2, h1])
                  clear h2
                  cases ok with
                  | true =>
                    go_wp2
                    go_meet
                    case rel => exact ⟨by rw [q5.out]; rfl, rfl⟩
                  | false =>
                    go_wp2
                    go_meet
                    case rel => exact ⟨by rw [q5.out]; rfl, rfl⟩
                · have q3 : ((k : Int) != (plR l id : Int)) = true := by simp; omega
                  have q4 : (k != plR l id) = true := by simpa using h2
                  have q5 : Hid (pb = true) := Lib.hid (by rw [← HPB.out]; simp [pushB, h2, h1])
                  clear h2
                  go_wp2
                  go_meet
                  case rel => exact ⟨by rw [q5.out], rfl⟩
              · have q1 : decide ((k : Int) < (l.length : Int)) = false := by simp; omega
                have q2 : decide (k < l.length) = false := by simp; omega
                have q5 : Hid (pb = false) := Lib.hid (by rw [← HPB.out]; simp [pushB, h1])
                go_wp2
                go_meet
                case rel => exact ⟨by rw [q5.out], rfl⟩
            case rest =>
              obtain ⟨rfl, rfl⟩ := hcut
              obtain ⟨wP, rfl⟩ : ∃ x, x = wc := ⟨wc, rfl⟩
              cases pb with
              | false =>
                have hcur := Lib.hid (midP_skip (v := v) hkl HPB.out)
                go_wp2
                go_roundw
                case rel => exact ⟨k + 1, by omega, by go_num, _, _, _, by rw [← hcur.out]; exact PR.out, PB.out⟩
                case measure => simp [intOf]; omega
              | true =>
                have hkl2 : k < l.length := by
                  have := HPB.out
                  simp [pushB] at this
                  exact this.1
                have e1 : l[k]? = some l[k] := List.getElem?_eq_getElem hkl2
                generalize l[k] = y at e1
                have hcur := Lib.hid (midP_push (v := v) e1 HPB.out)
                have E1 := Lib.hid e1
                clear e1 s0
                go_wp2_with fail
                have hre := R2.out.ext PB.out
                obtain ⟨ia, ic, va, vc, sa, sc, q1, q2, q3, q4⟩ := hre.cells
                have s0 := q1.cell (i := 0) rfl
                obtain ⟨g, o, rfl, hg, hc⟩ := rd_elt q2 E1.out
                have f0 := hc 0 _ rfl
                simp only [Nat.add_zero, Nat.mul_one] at f0
                clear hre q1 q2 q3 q4 hc
                obtain ⟨ra1, rc1, hrv, _⟩ := own_len PR.out.o1
                subst hrv
                have pc := PR.out.cells.cell (i := 0) rfl
                have hltB := PR.out.cells.lt
                have hal : Below wP.heap.size wP (wP.alloc (.cells #[.int .u32 (y.id : Nat)] 48)) := (Below.refl _ _).alloc (Nat.le_refl _) _
                have hrow : Holds (wP.alloc (.cells #[.int .u32 (y.id : Nat)] 48)) wP.heap.size (encRI (y)) := Holds.alloc wP (encRI (y)) 48
                have HROW := Lib.hid hrow
                have HAL := Lib.hid hal
                clear hrow hal
                refine rgnC [[0, 1, 2, 3, 5, 6, 7, 8, 9, 10, 11, 4, 12], [13], [14, 15]] [] [4] [⟨w2.heap.size, 0, none⟩] 16 (by kernel_rfl) (by simp) ?_ ?_
                · intro p hp
                  simp only [List.mem_singleton] at hp
                  subst hp
                  rw [pc]; rfl
                have hsame : ∀ W, Below (w2.heap.size + 1) wP W → SameAt [⟨w2.heap.size, 0, none⟩] wP W := by
                  intro W hW p hp
                  simp only [List.mem_singleton] at hp
                  subst hp
                  exact hW.cell (by simp)
                have HS := Lib.hid hsame
                clear hsame
                unfold seg
                simp only [pickL, List.getD_cons_zero, List.getD_cons_succ]
                go_wp2
                refine ⟨HS.out _ (HAL.out.drew.mono hltB), ?_⟩
                unfold seg
                simp only [pickL, List.getD_cons_zero, List.getD_cons_succ]
                refine wpList_append_one rfl _ _ _ rfl (w2.heap.size + 1) 48 i1 _ 1 4 und_u32R hi1 ha1 hb1 hc1 rfl (by omega) encRI _ (midP l id v k) (y) rfl (PR.out.o1.below HAL.out.drew) wP.heap.size rfl HROW.out.drew rfl (encRI_one _) (by have := HLEN.out; simp only [maxLen]; omega) (by have := HLEN.out; omega) (by simp; omega) ?_
                intro v' W hO hG
                obtain ⟨p1, p2, p3, p4⟩ := (PR.out.ext HAL.out.drew).push1 hG hO
                have gB : Below (w2.heap.size + 1) wP W := (HAL.out.drew.mono hltB).trans (hG.below (by simp; omega) PR.out.o1.block)
                obtain ⟨sa', sn', sc', hsv⟩ := hO.shape
                subst hsv
                have GB := Lib.hid gB
                have PR2 := Lib.hid p1
                have PB2 := Lib.hid (PB.out.trans ((HAL.out.drew.mono (Nat.le_of_lt hltB)).trans p2))
                clear PR PB HROW HAL p1 p2 hG hO gB
                go_wp2
                refine ⟨HS.out _ GB.out, ?_⟩
                unfold seg
                simp only [pickL, List.getD_cons_zero, List.getD_cons_succ]
                go_wp2
                refine ⟨HS.out _ GB.out, rfl, ⟨.inl rfl, trivial⟩, ?_⟩
                simp only [pickL, List.getD_cons_zero, List.getD_cons_succ]
                go_wp2
                unfold OnlyN
                dsimp only
                clear p3 p4 pc hltB HS GB
                generalize W.setCell ⟨w2.heap.size, 0, none⟩ (.slice sa' sn' sc') = wQ at PR2 PB2 ⊢
                have PR := Lib.hid PR2.out
                have PB := Lib.hid PB2.out
                clear PR2 PB2
                obtain ⟨wP, rfl⟩ : ∃ x, x = wQ := ⟨wQ, rfl⟩
                clear s0 f0 hg
                go_wp2_with fail
                have hre := R2.out.ext PB.out
                obtain ⟨ia, ic, va, vc, sa, sc, q1, q2, q3, q4⟩ := hre.cells
                have s0 := q1.cell (i := 1) rfl
                obtain ⟨g, o, rfl, hg, hc⟩ := rd_elt q3 E1.out
                have f0 := hc 0 _ rfl
                have f1 := hc 1 _ rfl
                simp only [Nat.add_zero] at f0
                clear hre q1 q2 q3 q4 hc
                obtain ⟨ra2, rc2, hrv, _⟩ := own_len PR.out.o2
                subst hrv
                have pc := PR.out.cells.cell (i := 1) rfl
                have hltB := PR.out.cells.lt
                have hal : Below wP.heap.size wP (wP.alloc (.cells #[.int .i64 y.v.k, .int .i64 y.v.n] 50)) := (Below.refl _ _).alloc (Nat.le_refl _) _
                have hrow : Holds (wP.alloc (.cells #[.int .i64 y.v.k, .int .i64 y.v.n] 50)) wP.heap.size (encRV (y)) := Holds.alloc wP (encRV (y)) 50
                have HROW := Lib.hid hrow
                have HAL := Lib.hid hal
                clear hrow hal
                refine rgnC [[0, 1, 2, 3, 5, 6, 7, 8, 9, 10, 11, 4, 12], [13], [14, 15]] [] [4] [⟨w2.heap.size, 1, none⟩] 16 (by kernel_rfl) (by simp) ?_ ?_
                · intro p hp
                  simp only [List.mem_singleton] at hp
                  subst hp
                  rw [pc]; rfl
                have hsame : ∀ W, Below (w2.heap.size + 1) wP W → SameAt [⟨w2.heap.size, 1, none⟩] wP W := by
                  intro W hW p hp
                  simp only [List.mem_singleton] at hp
                  subst hp
                  exact hW.cell (by simp)
                have HS := Lib.hid hsame
                clear hsame
                unfold seg
                simp only [pickL, List.getD_cons_zero, List.getD_cons_succ]
                go_wp2
                refine ⟨HS.out _ (HAL.out.drew.mono hltB), ?_⟩
                unfold seg
                simp only [pickL, List.getD_cons_zero, List.getD_cons_succ]
                refine wpList_append_one rfl _ _ _ rfl (w2.heap.size + 1) 50 i2 _ 2 16 und_vas hi2 ha2 hb2 hc2 rfl (by omega) encRV _ (midP l id v k) (y) rfl (PR.out.o2.below HAL.out.drew) wP.heap.size rfl HROW.out.drew rfl (encRV_one _) (by have := HLEN.out; simp only [maxLen]; omega) (by have := HLEN.out; omega) (by simp; omega) ?_
                intro v' W hO hG
                obtain ⟨p1, p2, p3, p4⟩ := (PR.out.ext HAL.out.drew).push2 hG hO
                have gB : Below (w2.heap.size + 1) wP W := (HAL.out.drew.mono hltB).trans (hG.below (by simp; omega) PR.out.o2.block)
                obtain ⟨sa', sn', sc', hsv⟩ := hO.shape
                subst hsv
                have GB := Lib.hid gB
                have PR2 := Lib.hid p1
                have PB2 := Lib.hid (PB.out.trans ((HAL.out.drew.mono (Nat.le_of_lt hltB)).trans p2))
                clear PR PB HROW HAL p1 p2 hG hO gB
                go_wp2
                refine ⟨HS.out _ GB.out, ?_⟩
                unfold seg
                simp only [pickL, List.getD_cons_zero, List.getD_cons_succ]
                go_wp2
                refine ⟨HS.out _ GB.out, rfl, ⟨.inl rfl, trivial⟩, ?_⟩
                simp only [pickL, List.getD_cons_zero, List.getD_cons_succ]
                go_wp2
                unfold OnlyN
                dsimp only
                clear p3 p4 pc hltB HS GB
                generalize W.setCell ⟨w2.heap.size, 1, none⟩ (.slice sa' sn' sc') = wQ at PR2 PB2 ⊢
                have PR := Lib.hid PR2.out
                have PB := Lib.hid PB2.out
                clear PR2 PB2
                obtain ⟨wP, rfl⟩ : ∃ x, x = wQ := ⟨wQ, rfl⟩
                clear s0 f0 f1 hg
                go_wp2_with fail
                have hre := R2.out.ext PB.out
                obtain ⟨ia, ic, va, vc, sa, sc, q1, q2, q3, q4⟩ := hre.cells
                have s0 := q1.cell (i := 2) rfl
                obtain ⟨g, o, rfl, hg, hc⟩ := rd_elt q4 E1.out
                have HC := Lib.hid hc
                clear hre q1 q2 q3 q4 hc
                obtain ⟨ra3, rc3, hrv, _⟩ := own_len PR.out.o3
                subst hrv
                have pc := PR.out.cells.cell (i := 2) rfl
                have hltB := PR.out.cells.lt
                have hal : Below wP.heap.size wP (wP.alloc (.cells #[.int .i64 (y.s 0), .int .i64 (y.s 1), .int .i64 (y.s 2), .int .i64 (y.s 3), .int .i64 (y.s 4), .int .i64 (y.s 5), .int .i64 (y.s 6), .int .i64 (y.s 7)] 156)) := (Below.refl _ _).alloc (Nat.le_refl _) _
                have hrow : Holds (wP.alloc (.cells #[.int .i64 (y.s 0), .int .i64 (y.s 1), .int .i64 (y.s 2), .int .i64 (y.s 3), .int .i64 (y.s 4), .int .i64 (y.s 5), .int .i64 (y.s 6), .int .i64 (y.s 7)] 156)) wP.heap.size (encRS (y)) := Holds.alloc wP (encRS (y)) 156
                have HROW := Lib.hid hrow
                have HAL := Lib.hid hal
                clear hrow hal
                refine rgnC [[0, 1, 2, 3, 5, 6, 7, 8, 9, 10, 11, 4, 12], [13], [14, 15]] [] [4] [⟨w2.heap.size, 2, none⟩] 16 (by kernel_rfl) (by simp) ?_ ?_
                · intro p hp
                  simp only [List.mem_singleton] at hp
                  subst hp
                  rw [pc]; rfl
                have hsame : ∀ W, Below (w2.heap.size + 1) wP W → SameAt [⟨w2.heap.size, 2, none⟩] wP W := by
                  intro W hW p hp
                  simp only [List.mem_singleton] at hp
                  subst hp
                  exact hW.cell (by simp)
                have HS := Lib.hid hsame
                clear hsame
                unfold seg
                simp only [pickL, List.getD_cons_zero, List.getD_cons_succ]
                go_wp2_with (refine wpList_load_cells rfl 156 _ rfl g _ rfl [.int .i64 (y.s 0), .int .i64 (y.s 1), .int .i64 (y.s 2), .int .i64 (y.s 3), .int .i64 (y.s 4), .int .i64 (y.s 5), .int .i64 (y.s 6), .int .i64 (y.s 7)] (HC.out) _ und_a8 rfl info_a8s ?_)
                refine ⟨HS.out _ (HAL.out.drew.mono hltB), ?_⟩
                unfold seg
                simp only [pickL, List.getD_cons_zero, List.getD_cons_succ]
                refine wpList_append_one rfl _ _ _ rfl (w2.heap.size + 1) 156 i3 _ 8 64 und_a8s hi3 ha3 hb3 hc3 rfl (by omega) encRS _ (midP l id v k) (y) rfl (PR.out.o3.below HAL.out.drew) wP.heap.size rfl HROW.out.drew rfl (encRS_one _) (by have := HLEN.out; simp only [maxLen]; omega) (by have := HLEN.out; omega) (by simp; omega) ?_
                intro v' W hO hG
                obtain ⟨p1, p2, p3, p4⟩ := (PR.out.ext HAL.out.drew).push3 hG hO
                have gB : Below (w2.heap.size + 1) wP W := (HAL.out.drew.mono hltB).trans (hG.below (by simp; omega) PR.out.o3.block)
                obtain ⟨sa', sn', sc', hsv⟩ := hO.shape
                subst hsv
                have GB := Lib.hid gB
                have PR2 := Lib.hid p1
                have PB2 := Lib.hid (PB.out.trans ((HAL.out.drew.mono (Nat.le_of_lt hltB)).trans p2))
                clear PR PB HROW HAL p1 p2 hG hO gB
                go_wp2
                refine ⟨HS.out _ GB.out, ?_⟩
                unfold seg
                simp only [pickL, List.getD_cons_zero, List.getD_cons_succ]
                go_wp2
                refine ⟨HS.out _ GB.out, rfl, ⟨.inl rfl, trivial⟩, ?_⟩
                simp only [pickL, List.getD_cons_zero, List.getD_cons_succ]
                go_wp2
                unfold OnlyN
                dsimp only
                clear p3 p4 pc hltB HS GB
                generalize W.setCell ⟨w2.heap.size, 2, none⟩ (.slice sa' sn' sc') = wQ at PR2 PB2 ⊢
                have PR := Lib.hid PR2.out
                have PB := Lib.hid PB2.out
                clear PR2 PB2
                obtain ⟨wP, rfl⟩ : ∃ x, x = wQ := ⟨wQ, rfl⟩
                clear s0 HC hg
                go_wp2
                go_roundw
                case rel => exact ⟨k + 1, by omega, by go_num, _, _, _, by rw [← hcur.out]; exact PR.out, PB.out⟩
                case measure => simp [intOf]; omega
        · obtain rfl : k = l.length + 1 := by omega
          have d1 : decide (((l.length + 1 : Nat) : Int) ≤ (l.length : Int)) = false := by simp; omega
          have d1b : decide (((l.length : Nat) : Int) + 1 ≤ (l.length : Int)) = false := by simp; omega
          have d2 : decide (l.length + 1 ≤ l.length) = false := by simp
          have hce := curP_end (id := id) (v := v) hpl
          have pr := PR.out
          rw [hce] at pr
          have hids : ∀ e ∈ putR0 l id v, e.id < 4294967296 := by rw [← hce]; exact curP_ids R2.out.ids hid
          have hlen : (putR0 l id v).length ≤ 1099511627776 + 1 := by rw [← hce]; have := curP_len l id v (l.length + 1); omega
          have P2 := Lib.hid pr
          have HI := Lib.hid hids
          clear pr hce hids HLEN PR
          go_wp2_with fail
          refine (stamped_r w2.heap.size id x (putR0 l id v) v1 v2 v3 wP P2.out HI.out hid (by omega)).mono ?_
          rintro e w3 ⟨⟨u, rfl⟩, hs, hb⟩
          have HS := Lib.hid hs
          have HBB := Lib.hid (PB.out.trans (hb.mono (by omega)))
          clear hs hb
          go_wp2
          go_returns
          exact ⟨_, rfl, by unfold putR; rw [HSM.out]; exact HS.out.at_ (stampR_ids HI.out), B2.out.trans (HBB.out.mono B2.out.size), .inr fun X hX => by unfold putR; rw [HSM.out]; exact (HS.out.move (fun k hk => hX k (Nat.le_trans B2.out.size hk))).at_ (stampR_ids HI.out)⟩
end Go.Proofs.Ytmhhejpokgdjoaa
