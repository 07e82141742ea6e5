/- The walk of levylaw3.TrieGrows. -/
import Derived.Test.YtihmhledogppmaaDoorTx
import Derived.Test.YtihmhledogppmaaDoorSt
import Derived.Test.YtihmhledogppmaaDoorSw
import Derived.Test.YtihmhledogppmaaDoorSc
import Derived.Deep.DeepCutAuto
import Derived.Deep.CutBlock
namespace Go.Proofs.YtihmhledogppmaaDoor
open Go Go.RowKit
set_option linter.unusedVariables false
set_option linter.unusedSimpArgs false

theorem NewT.fr8 {S : Nat} {x : PutL} {t t' : Tr 8} (h : NewT S x t t') (ht : t.all (· < S)) : t.fr t' ≤ 8 := by
  rcases h with ⟨rfl, hg⟩ | ⟨hx, hg, B, hB, rfl⟩ | ⟨hx, hg, B, hB, rfl⟩
  · rw [Tr.fr_self]; exact Nat.zero_le _
  · exact (Tr.fr_drop t B x.id (Tr.all_mono (fun b hb => by omega) ht)).1
  · exact Nat.le_of_eq (Tr.fr_put t B x.id x.v (Tr.all_mono (fun b hb => by omega) ht))
/-- How many of k steps lie behind the n-th. -/
def behind (n : Int) (k : Nat) : Nat := if 1 ≤ n ∧ n ≤ (k : Int) then k - n.toNat else k
/-- Map s is the one behind the first n of k steps, t the last. -/
structure Grown (lp : List PutL) (n : Int) (w : World) (k b c : Nat) (t s : Tr 8) (W : World) : Prop where
  last : MapT W b t
  len : (t.ents 0).length ≤ k
  at_ : MapT W c s
  lens : (s.ents 0).length ≤ k
  fr : s.fr t ≤ 8 * behind n k
  keys : ∀ q, look (s.ents 0) q ≠ look (t.ents 0) q → ∃ x ∈ lp, x.id = q
  below : Below w.heap.size w W
theorem made_g (vl : Value) (lp : List PutL) (n : Int) (w : World) (hl : Rd w 4 putCells vl lp) (hid : ∀ x ∈ lp, x.id < 4294967296) :
    Calls Tryd.prog 19 #[vl, .int .i64 n] w fun e w' =>
      ∃ b c t s, e = .returned (.tuple #[.pointer (some ⟨b, 0, none⟩), .pointer (some ⟨c, 0, none⟩)]) ∧ Grown lp n w (min lp.length 200) b c t s w' := by
  refine (made_gen vl lp n w hl (fun W k b c => ∃ t s, Grown lp n w k b c t s W) ?_ (fun W k b c h => by obtain ⟨t, s, h⟩ := h; exact h.below) ?_).mono ?_
  · refine (empty_t w).mono ?_
    rintro e w' ⟨b, rfl, h1, h2⟩
    refine ⟨b, rfl, _, _, h1, Nat.le_refl _, h1, Nat.le_refl _, ?_, fun q hq => absurd rfl hq, h2⟩
    rw [Tr.fr_self]
    exact Nat.zero_le _
  · rintro W k b c x hx hk ⟨t, s, h⟩
    have hxk := hid x (List.mem_of_getElem? hx)
    refine (one_t b t x W h.last (by have := h.len; omega) hxk).mono ?_
    rintro e w' ⟨b', t', rfl, g1, g2, g3⟩
    have hl' : (t'.ents 0).length ≤ k + 1 := by
      rw [g2.ents hxk]
      exact Nat.le_trans (laidL_len _ _ _ _) (by have := h.len; omega)
    refine ⟨b', rfl, ?_⟩
    by_cases hn : ((k : Int) + 1 == n) = true
    · rw [if_pos hn]
      refine ⟨t', t', g1, hl', g1, hl', ?_, fun q hq => absurd rfl hq, h.below.trans (g3.mono h.below.size)⟩
      rw [Tr.fr_self]
      exact Nat.zero_le _
    · rw [if_neg hn]
      have hn' : ¬ (k : Int) + 1 = n := by simpa using hn
      have hat := Tr.at_all h.last.map.tree
      have hfr : t.fr t' ≤ 8 := g2.fr8 hat
      have htri := Tr.fr_tri s t t' (h.at_.ext g3).map.tree (h.last.ext g3).map.tree g1.map.tree
      have hb : behind n (k + 1) = behind n k + 1 := by
        unfold behind
        by_cases h1 : 1 ≤ n ∧ n ≤ (k : Int)
        · rw [if_pos h1, if_pos (by omega)]; omega
        · rw [if_neg h1, if_neg (by omega)]
      refine ⟨t', s, g1, hl', h.at_.ext g3, by have := h.lens; omega, ?_, fun q hq => ?_, h.below.trans (g3.mono h.below.size)⟩
      · rw [hb]; have := h.fr; omega
      · by_cases hqx : q = x.id
        · exact ⟨x, List.mem_of_getElem? hx, hqx.symm⟩
        · refine h.keys q (fun e => hq ?_)
          rw [e, g2.ents hxk, look_laid (Tr.srt t 0), if_neg hqx]
  · rintro e w' ⟨b, c, rfl, t, s, h⟩
    exact ⟨b, c, t, s, rfl, h⟩
set_option maxRecDepth 100000 in
set_option maxHeartbeats 8000000 in
theorem trieGrows_any (vl : Value) (n : Int) (lp : List PutL) (w : World) (hl : Rd w 4 putCells vl lp) (hlid : ∀ x ∈ lp, x.id < 4294967296) (hnb : -9223372036854775808 ≤ n ∧ n ≤ 9223372036854775807) (hlm : lp.length ≤ 9223372036854775807) :
    Calls Tryd.prog 9 #[vl, .int .i64 n] w fun e w' => e = .returned (.bool true) ∧ Below w.heap.size w w' := by
  obtain ⟨ya, yc, rfl, hl⟩ := hl
  have HR := Lib.hid (show Rd w 4 putCells (.slice ya lp.length yc) lp from ⟨ya, yc, rfl, hl⟩)
  have HL := Lib.hid hl
  have HID := Lib.hid hlid
  clear hl hlid
  go_enter Tryd.func9, Tryd.ntmps9
  go_wp2_with fail
  refine (made_g _ lp n w HR.out HID.out).mono ?_
  rintro e w1 ⟨b, c, t, s, rfl, hg⟩
  have G := Lib.hid hg
  clear hg HR HID
  go_wp2_with fail
  refine (known_any w1).mono ?_
  rintro e w2 ⟨rfl, hb2⟩
  have A2 := Lib.hid (G.out.at_.ext hb2)
  have T2 := Lib.hid (G.out.last.ext hb2)
  have B2 := Lib.hid (G.out.below.trans (hb2.mono G.out.below.size))
  have hfr := G.out.fr
  have hlt := G.out.len
  have hls := G.out.lens
  have HK := Lib.hid G.out.keys
  clear G hb2
  go_upto_if 33 with fail
  go_cut [7] (fun v wc => v = .int .i64 ((min lp.length 200 : Nat) : Int) ∧ wc = w2)
  case first =>
    by_cases h200 : 200 < lp.length
    · have d1 : decide (200 < lp.length) = true := by simpa using h200
      have d2 : decide ((200 : Int) < (lp.length : Int)) = true := by simp; omega
      go_wp2
      go_meet
      case rel => exact ⟨by rw [Nat.min_eq_right (by omega)]; rfl, rfl⟩
    · have d1 : decide (200 < lp.length) = false := by simpa using h200
      have d2 : decide ((200 : Int) < (lp.length : Int)) = false := by simp; omega
      go_wp2
      go_meet
      case rel => exact ⟨by rw [Nat.min_eq_left (by omega)], rfl⟩
  case rest =>
  obtain ⟨rfl, hw⟩ := hcut
  subst hw
  obtain ⟨K, hK⟩ : ∃ K, K = min lp.length 200 := ⟨_, rfl⟩
  have hK2 : K ≤ 200 := by omega
  rw [← hK] at hfr hlt hls ⊢
  clear hK
  go_upto_region 7 with fail
  go_cut [40] (fun v w' => v = .bool (decide (1 ≤ n ∧ n ≤ (K : Int))) ∧ w' = wc)
  case first =>
    by_cases h1 : 1 ≤ n
    · have d2 : decide (1 ≤ n) = true := by simpa using h1
      by_cases h2 : n ≤ (K : Int)
      · have d3 : decide (n ≤ (K : Int)) = true := by simpa using h2
        have HBE := Lib.hid (show decide (1 ≤ n ∧ n ≤ (K : Int)) = true by simp [h1, h2])
        go_wp2
        go_meet
        case rel => exact ⟨by rw [HBE.out], rfl⟩
      · have d3 : decide (n ≤ (K : Int)) = false := by simpa using h2
        have HBE := Lib.hid (show decide (1 ≤ n ∧ n ≤ (K : Int)) = false by simp [h2])
        go_wp2
        go_meet
        case rel => exact ⟨by rw [HBE.out], rfl⟩
    · have d2 : decide (1 ≤ n) = false := by simpa using h1
      have HBE := Lib.hid (show decide (1 ≤ n ∧ n ≤ (K : Int)) = false by simp [h1])
      go_wp2
      go_meet
      case rel => exact ⟨by rw [HBE.out], rfl⟩
  case rest =>
  obtain ⟨rfl, hw⟩ := hcut
  subst hw
  go_upto_if 40 with fail
  go_cut [7] (fun v w' => v = .int .i64 (behind n K : Nat) ∧ w' = wc)
  case first =>
    by_cases h12 : 1 ≤ n ∧ n ≤ (K : Int)
    · have hbe : ((behind n K : Nat) : Int) = (K : Int) - n := by
        unfold behind
        rw [if_pos h12]
        omega
      have HBE := Lib.hid hbe
      rw [decide_eq_true h12]
      clear hbe
      go_wp2
      go_meet
      case rel => exact ⟨by rw [HBE.out], rfl⟩
    · have hbe : behind n K = K := by
        unfold behind
        rw [if_neg h12]
      have HBE := Lib.hid hbe
      rw [decide_eq_false h12]
      clear hbe
      go_wp2
      go_meet
      case rel => exact ⟨by rw [HBE.out], rfl⟩
  case rest =>
    obtain ⟨rfl, hw⟩ := hcut
    subst hw
    have hlK : (s.ents 0).length + (t.ents 0).length ≤ 400 := by omega
    have hS : behind n K ≤ 200 := by
      unfold behind
      split <;> omega
    have hsh := shared_any c b _ _ s t wc A2.out.map T2.out.map
    obtain ⟨D, hD⟩ : ∃ D, difs s t 0 = D := ⟨_, rfl⟩
    have hdo := difOf hD
    have hlenD := hdo.len
    have HD := Lib.hid hD
    have DO := Lib.hid hdo
    generalize behind n K = S at hfr hS ⊢
    generalize s.fr t = F at hfr hsh
    generalize (t.cnt : Int) - (F : Int) = C at hsh
    have HSH := Lib.hid hsh
    have d4 : decide (8 * S < F) = false := by simp; omega
    have d5 : decide (8 * (S : Int) < (F : Int)) = false := by simp; omega
    clear hsh hD hdo
    go_wp2_with fail
    refine HSH.out.mono ?_
    rintro e w3 ⟨rfl, hb3⟩
    have A3 := Lib.hid (A2.out.ext hb3)
    have T3 := Lib.hid (T2.out.ext hb3)
    have B3 := Lib.hid (B2.out.trans (hb3.mono B2.out.size))
    clear hb3 A2 T2 B2 HSH
    go_wp2_with fail
    refine (changes_D c b s t D HD.out w3 A3.out T3.out (by omega)).mono ?_
    rintro e w4 ⟨z1, z2, rfl, hr, hb4⟩
    have B4 := Lib.hid (B3.out.trans (hb4.mono B3.out.size))
    have R4 := Lib.hid hr
    clear hb4 hr A3 T3 B3 HD d4 d5
    go_wp2
    go_loopw [11] (fun i wr => ∃ k : Nat, i = .int .i64 (k : Int) ∧ k ≤ D.length ∧ Below w4.heap.size w4 wr) (fun i _ => D.length - (intOf i).toNat)
    case atStart => exact ⟨0, rfl, by omega, Below.refl _ _⟩
    case round =>
      obtain ⟨k, rfl, hk, hB⟩ := hrel
      obtain ⟨w5, rfl⟩ : ∃ x, x = wr := ⟨wr, rfl⟩
      by_cases hkl : k < D.length
      · have e1 : D[k]? = some D[k] := List.getElem?_eq_getElem hkl
        have hmem := DO.out.mem D[k] (List.getElem_mem hkl)
        rcases R4.out with ⟨a', c', hv, hnil | ⟨vb, vo, he, hvb, hcv⟩⟩
        · subst hnil; simp at hkl
        simp only [Value.slice.injEq, true_and] at hv
        obtain ⟨rfl, rfl⟩ := hv
        subst he
        generalize D[k] = x at e1 hmem
        obtain ⟨cid, was, now⟩ := x
        obtain ⟨hid, hwas, hnow, hne⟩ := hmem
        dsimp only at hid hwas hnow hne
        have hany : lp.any (fun x => x.id == cid) = true := by
          obtain ⟨x, hx, hxc⟩ := HK.out cid (by rw [look_ents s cid hid, look_ents t cid hid, ← hwas, ← hnow]; exact hne)
          exact List.any_eq_true.2 ⟨x, hx, by simpa using hxc⟩
        have y0 := (hB.cell (p := ⟨vb, _, none⟩) hvb).trans (hcv k _ 0 _ e1 rfl)
        simp only [Nat.add_zero] at y0
        have HANY := Lib.hid hany
        have HBW := Lib.hid (B4.out.trans (hB.mono B4.out.size))
        have HB := Lib.hid hB
        have hvb5 : vb < w5.heap.size := Nat.lt_of_lt_of_le hvb hB.size
        clear hwas hnow hne hid hany hcv e1 hB
        go_wp2
        go_loopw [12, 13] (fun f i wy => ∃ m : Nat, m ≤ lp.length ∧ i = .int .i64 (m : Int) ∧ f = .bool ((lp.take m).any fun e => e.id == cid) ∧ Below w5.heap.size w5 wy) (fun _ i _ => lp.length - (intOf i).toNat)
        case atStart => exact ⟨0, by omega, rfl, rfl, Below.refl _ _⟩
        case round =>
          obtain ⟨m, hm, rfl, rfl, hby⟩ := hrel
          by_cases hml : m < lp.length
          · have e2 : lp[m]? = some lp[m] := List.getElem?_eq_getElem hml
            have htk : ∀ c : Bool, (lp.take m).any (fun e => e.id == cid) = c → (lp.take (m + 1)).any (fun e => e.id == cid) = (c || ((lp[m]).id == cid)) := by
              intro c hc
              rw [List.take_succ_eq_append_getElem hml, List.any_append, hc]
              simp
            rcases HL.out with hnil | ⟨ab, ao, rfl, hab, hca⟩
            · subst hnil; simp at hml
            generalize lp[m] = y at e2 htk
            have f0 := ((HBW.out.trans (hby.mono HBW.out.size)).cell (p := ⟨ab, _, none⟩) hab).trans (hca m y 0 _ e2 rfl)
            have x0 := (hby.cell (p := ⟨vb, _, none⟩) hvb5).trans y0
            simp only [Nat.add_zero] at f0
            clear hca e2
            cases hc : (lp.take m).any (fun e => e.id == cid) with
            | true =>
              have HT := Lib.hid (htk true hc)
              clear htk hc
              go_wp2
              refine rgn [0, 1, 2, 3, 4, 5, 6, 7, 8, 9, 10, 11, 12, 13, 14] [12] (by kernel_rfl) ?_
              simp only [pickL, List.getD_cons_zero, List.getD_cons_succ]
              go_wp2
              refine ⟨rfl, ?_⟩
              go_wp2
              go_roundw
              case rel => exact ⟨m + 1, by omega, by go_num, by rw [HT.out]; rfl, hby.drew⟩
              case measure => simp [intOf]; omega
            | false =>
              by_cases hyx : y.id = cid
              · have hq : (((y.id : Nat) : Int) == ((cid : Nat) : Int)) = true := by simp [hyx]
                have HT := Lib.hid (htk false hc)
                have HY := Lib.hid hyx
                clear htk hc hyx
                go_wp2
                refine rgn [0, 1, 2, 3, 4, 5, 6, 7, 8, 9, 10, 11, 12, 13, 14] [12] (by kernel_rfl) ?_
                simp only [pickL, List.getD_cons_zero, List.getD_cons_succ]
                go_wp2
                refine ⟨rfl, ?_⟩
                go_wp2
                go_roundw
                case rel => exact ⟨m + 1, by omega, by go_num, by rw [HT.out, HY.out]; simp, hby.drew⟩
                case measure => simp [intOf]; omega
              · have hq : (((y.id : Nat) : Int) == ((cid : Nat) : Int)) = false := by simp; omega
                have HT := Lib.hid (htk false hc)
                have HY := Lib.hid (show (y.id == cid) = false by simpa using hyx)
                clear htk hc hyx
                go_wp2
                refine rgn [0, 1, 2, 3, 4, 5, 6, 7, 8, 9, 10, 11, 12, 13, 14] [12] (by kernel_rfl) ?_
                simp only [pickL, List.getD_cons_zero, List.getD_cons_succ]
                go_wp2
                refine ⟨rfl, ?_⟩
                go_wp2
                go_roundw
                case rel => exact ⟨m + 1, by omega, by go_num, by rw [HT.out, HY.out]; simp, hby.drew⟩
                case measure => simp [intOf]; omega
          · have hnn : m = lp.length := by omega
            rw [hnn, List.take_length, HANY.out]
            have HBY := Lib.hid (HB.out.trans (hby.mono HB.out.size))
            clear hby hnn
            go_wp2
            go_roundw
            case rel => exact ⟨k + 1, by go_num, by omega, HBY.out⟩
            case measure => simp [intOf]; omega
      · have hno' : decide ((k : Int) < (D.length : Int)) = false := by simp; omega
        have HB := Lib.hid (B4.out.trans (hB.mono B4.out.size))
        clear hB
        go_wp2
        go_returns
        exact ⟨rfl, HB.out⟩
end Go.Proofs.YtihmhledogppmaaDoor
