/- The walk of levylaw3.TrieFrom. -/
import Derived.Test.YtihmhledogppmaaDoorFi
import Derived.Deep.DeepCutAuto
import Derived.Deep.CutBlock
namespace Go.Proofs.YtihmhledogppmaaDoor
open Go Go.RowKit
set_option linter.unusedVariables false
set_option linter.unusedSimpArgs false

theorem cutL_neg {α : Type} (l : List α) : cutL l (-1) = l := by unfold cutL; rw [if_pos (by omega)]
set_option maxRecDepth 100000 in
set_option maxHeartbeats 4000000 in
theorem trieFrom_any (vl : Value) (lp : List PutL) (key : Nat) (stop : Int) (w : World) (hl : Rd w 4 putCells vl lp) (hids : ∀ x ∈ lp, x.id < 4294967296) (hkey : key < 4294967296) :
    Calls Tryd.prog 4 #[vl, .int .u32 (key : Nat), .int .i64 stop] w fun e w' => e = .returned (.bool true) ∧ Below w.heap.size w w' := by
  go_enter Tryd.func4, Tryd.ntmps4
  go_wp2_with fail
  refine (made_l vl lp 0 w hl hids).mono ?_
  rintro e w1 ⟨b, c, rfl, hm, _, hb1⟩
  obtain ⟨L, hL⟩ : ∃ L, L = madeL lp (min lp.length 200) := ⟨_, rfl⟩
  have hn : L.length ≤ 200 := by rw [hL]; exact Nat.le_trans (madeL_len _ _) (by omega)
  rw [← hL] at hm
  clear hL hl hids
  have HM := Lib.hid hm
  clear hm
  go_wp2_with fail
  refine (known_any w1).mono ?_
  rintro e w2 ⟨rfl, hb2⟩
  have g2 : Below w.heap.size w w2 := hb1.trans (hb2.mono hb1.size)
  have M2 := Lib.hid (HM.out.ext hb2)
  clear hb1 hb2 HM
  go_wp2_with fail
  refine (list_l b L (-1) w2 M2.out (by omega)).mono ?_
  rintro e w3 ⟨es, rfl, ho, hb3⟩
  rw [cutL_neg] at ho
  obtain ⟨aa, ac, rfl⟩ := ho.len
  have hcap := ho.fits
  have RA := Lib.hid (ho.rd encL_len)
  have g3 : Below w.heap.size w w3 := g2.trans (hb3.mono g2.size)
  have M3 := Lib.hid (M2.out.ext hb3)
  clear ho hb3 M2 g2
  have hsrt := Lib.hid M3.out.srt
  go_upto_block 0 with fail
  go_cut [10] (fun v wc => ∃ i : Nat, v = .int .i64 (i : Int) ∧ i ≤ L.length ∧ L.drop i = fromL key L ∧ wc = w3)
  case first =>
    have KA := RA.out
    obtain ⟨aa', ac', hv, hA⟩ := KA
    simp only [Value.slice.injEq, true_and] at hv
    obtain ⟨rfl, rfl⟩ := hv
    have HA := Lib.hid hA
    clear hA
    go_wp2
    go_loopw [10] (fun i wr => ∃ k : Nat, i = .int .i64 (k : Int) ∧ k ≤ L.length ∧ wr = w3 ∧ ∀ j x, L[j]? = some x → j < k → x.1 < key) (fun i _ => L.length - (intOf i).toNat)
    case atStart => exact ⟨0, rfl, by omega, by first | rfl | trivial, fun j x _ h => by omega⟩
    case round =>
      obtain ⟨k, rfl, hk, rfl, hlow⟩ := hrel
      have HLow := Lib.hid hlow
      clear hlow
      by_cases hkl : k < L.length
      · have e1 : L[k]? = some L[k] := List.getElem?_eq_getElem hkl
        have hx := Lib.hid e1
        rcases HA.out with hnil | ⟨vb, vo, rfl, hvb, hcv⟩
        · subst hnil; simp at hkl
        have f0 := hcv k _ 0 _ e1 rfl
        simp only [Nat.add_zero] at f0
        generalize hxe : L[k] = x at e1 hx f0
        have HX := Lib.hid hxe
        clear hcv e1 hxe
        by_cases hlt : x.1 < key
        · have d1 : decide ((x.1 : Int) < (key : Int)) = true := by simpa using by omega
          have d2 : decide (x.1 < key) = true := by simpa using hlt
          go_wp2
          go_roundw
          case rel =>
            refine ⟨k + 1, by go_num, by omega, by first | rfl | trivial, fun j y hj hjk => ?_⟩
            by_cases hjk2 : j < k
            · exact HLow.out j y hj hjk2
            · obtain rfl : j = k := by omega
              rw [hx.out] at hj
              cases hj
              exact hlt
          case measure => simp [intOf]; omega
        · have d1 : decide ((x.1 : Int) < (key : Int)) = false := by simpa using by omega
          have d2 : decide (x.1 < key) = false := by simpa using hlt
          go_wp2
          go_meet
          case rel =>
            refine ⟨k, by first | rfl | trivial, hk, drop_fromL hsrt.out key k hk HLow.out (fun y hy => ?_), by first | rfl | trivial⟩
            rw [hx.out] at hy
            cases hy
            omega
      · have hno : decide ((k : Int) < (L.length : Int)) = false := by simpa using by omega
        go_wp2
        go_meet
        case rel =>
          refine ⟨k, by first | rfl | trivial, hk, drop_fromL hsrt.out key k hk HLow.out (fun y hy => ?_), by first | rfl | trivial⟩
          rw [List.getElem?_eq_none (by omega)] at hy
          cases hy
  case rest =>
    obtain ⟨i, rfl, hi, hdrop, hwc⟩ := hcut
    subst hwc
    have HD := Lib.hid hdrop
    clear hdrop
    go_wp2_with fail
    refine (from_l b key L (-1) _ hkey M3.out (by omega)).mono ?_
    rintro e w4 ⟨es, rfl, ho, hb4⟩
    rw [cutL_neg] at ho
    obtain ⟨T, hT⟩ : ∃ T, T = fromL key L := ⟨_, rfl⟩
    have hTn : T.length ≤ 200 := by rw [hT]; exact Nat.le_trans (List.length_filter_le _ _) hn
    rw [← hT] at ho
    obtain ⟨ta, tc, rfl⟩ := ho.len
    have htc := ho.fits
    have RT := Lib.hid (ho.rd encL_len)
    have g4 : Below w.heap.size w w4 := g3.trans (hb4.mono g3.size)
    have M4 := Lib.hid (M3.out.ext hb4)
    have RA4 := Lib.hid (RA.out.ext hb4)
    have HT := Lib.hid hT
    clear ho hb4 hT
    go_upto_region 9 with fail
    go_cut [58] (fun v wx => v = .bool false ∧ Below w4.heap.size w4 wx)
    case first =>
      have RD := rd_drop RA4.out i hi hcap
      by_cases hac : ac = i
      · obtain ⟨rfl, rfl⟩ : i = L.length ∧ ac = L.length := by omega
        have hT0 : T = [] := (HT.out.trans HD.out.symm).trans (List.drop_of_length_le (by omega))
        have HT0 := Lib.hid hT0
        clear RD hac hi hcap hT0
        go_wp2_with fail
        refine (sameEntries_any _ (.slice aa 0 0) T [] w4 RT.out ⟨aa, 0, rfl, .inl rfl⟩ (by omega) (by simp)).mono ?_
        rintro e w5 ⟨rfl, hb5⟩
        rw [decide_eq_true HT0.out]
        have M5 := Lib.hid (M4.out.ext hb5)
        have RA5 := Lib.hid (RA4.out.ext hb5)
        go_wp2_with fail
        refine (from_l b 0 L (-1) _ (by omega) M5.out (by omega)).mono ?_
        rintro e w6 ⟨es, rfl, ho, hb6⟩
        rw [cutL_neg, fromL_zero] at ho
        obtain ⟨za, zc, rfl⟩ := ho.len
        go_wp2_with fail
        refine (sameEntries_any _ _ L L w6 (ho.rd encL_len) (RA5.out.ext hb6) (by omega) (by omega)).mono ?_
        rintro e w7 ⟨rfl, hb7⟩
        rw [decide_eq_true (rfl : L = L)]
        go_wp2
        go_meet
        case rel => exact ⟨rfl, hb5.trans ((hb6.mono hb5.size).trans (hb7.mono (Nat.le_trans hb5.size hb6.size)))⟩
      · rw [if_neg hac] at RD
        have HR := Lib.hid RD
        clear RD
        go_wp2_with fail
        refine (sameEntries_any _ _ T (L.drop i) w4 RT.out HR.out (by omega) (by simp; omega)).mono ?_
        rintro e w5 ⟨rfl, hb5⟩
        rw [decide_eq_true (HT.out.trans HD.out.symm)]
        have M5 := Lib.hid (M4.out.ext hb5)
        have RA5 := Lib.hid (RA4.out.ext hb5)
        go_wp2_with fail
        refine (from_l b 0 L (-1) _ (by omega) M5.out (by omega)).mono ?_
        rintro e w6 ⟨es, rfl, ho, hb6⟩
        rw [cutL_neg, fromL_zero] at ho
        obtain ⟨za, zc, rfl⟩ := ho.len
        go_wp2_with fail
        refine (sameEntries_any _ _ L L w6 (ho.rd encL_len) (RA5.out.ext hb6) (by omega) (by omega)).mono ?_
        rintro e w7 ⟨rfl, hb7⟩
        rw [decide_eq_true (rfl : L = L)]
        go_wp2
        go_meet
        case rel => exact ⟨rfl, hb5.trans ((hb6.mono hb5.size).trans (hb7.mono (Nat.le_trans hb5.size hb6.size)))⟩
    case rest =>
      obtain ⟨rfl, hb7⟩ := hcut
      obtain ⟨w7, rfl⟩ : ∃ x, x = wc := ⟨wc, rfl⟩
      have g7 : Below w.heap.size w w7 := g4.trans (hb7.mono g4.size)
      have M7 := Lib.hid (M4.out.ext hb7)
      have RA7 := Lib.hid (RA4.out.ext hb7)
      have RT7 := Lib.hid (RT.out.ext hb7)
      clear hb7 RA4 RT M4 g4
      go_upto_region 11 with fail
      go_cut [66] (fun v wx => ∃ c : Bool, v = .bool c ∧ (c = false → 0 ≤ stop ∧ stop ≤ (T.length : Int)) ∧ wx = w7)
      case first =>
        by_cases hs : stop < 0
        · have d1 : decide (stop < 0) = true := by simpa using hs
          go_wp2
          go_meet
          case rel => exact ⟨true, rfl, fun h => (by cases h), rfl⟩
        · have d1 : decide (stop < 0) = false := by simpa using hs
          by_cases ht : (T.length : Int) < stop
          · have d2 : decide ((T.length : Int) < stop) = true := by simpa using ht
            go_wp2
            go_meet
            case rel => exact ⟨true, rfl, fun h => (by cases h), rfl⟩
          · have d2 : decide ((T.length : Int) < stop) = false := by simpa using ht
            go_wp2
            go_meet
            case rel => exact ⟨false, rfl, fun _ => (by omega), rfl⟩
      case rest =>
        obtain ⟨c', rfl, hc', hwx⟩ := hcut
        subst hwx
        go_upto_if 66 with fail
        go_cut [2] (fun v wx => ∃ k : Nat, v = .int .i64 (k : Int) ∧ k ≤ T.length ∧ wx = wc)
        case first =>
          cases c' with
          | true =>
            go_wp2
            go_meet
            case rel => exact ⟨T.length, rfl, by omega, rfl⟩
          | false =>
            obtain ⟨k, rfl⟩ : ∃ k : Nat, stop = (k : Int) := ⟨stop.toNat, by have := hc' rfl; omega⟩
            have hk : k ≤ T.length := by have := hc' rfl; omega
            clear hc'
            go_wp2
            go_meet
            case rel => exact ⟨k, rfl, hk, rfl⟩
        case rest =>
          obtain ⟨k, rfl, hk, hwx⟩ := hcut
          subst hwx
          clear hc'
          have hcutL : cutL T (k : Int) = T.take k := by unfold cutL; rw [if_neg (by omega)]; rfl
          go_wp2_with fail
          refine (from_l b key L (k : Int) _ hkey M7.out (by omega)).mono ?_
          rintro e w8 ⟨es, rfl, ho, hb8⟩
          rw [← HT.out, hcutL] at ho
          obtain ⟨pa, pn, pc, rfl⟩ := ho.shape
          have hpn : pn = k := by
            obtain ⟨a', c', hv⟩ := ho.len
            simp only [Value.slice.injEq, List.length_take] at hv
            omega
          subst hpn
          have RP := Lib.hid (ho.rd encL_len)
          have g8 : Below w.heap.size w w8 := g7.trans (hb8.mono g7.size)
          have M8 := Lib.hid (M7.out.ext hb8)
          have RA8 := Lib.hid (RA7.out.ext hb8)
          have RT8 := Lib.hid (rd_take (RT7.out.ext hb8) pn hk tc)
          have HC := Lib.hid hcutL
          clear ho hb8 M7 RA7 RT7 hcutL
          go_wp2_with fail
          refine (sameEntries_any _ _ (T.take pn) (T.take pn) w8 RP.out RT8.out (by simp; omega) (by simp; omega)).mono ?_
          rintro e w9 ⟨rfl, hb9⟩
          rw [decide_eq_true (rfl : T.take pn = T.take pn)]
          have g9 : Below w.heap.size w w9 := g8.trans (hb9.mono g8.size)
          have M9 := Lib.hid (M8.out.ext hb9)
          have RA9 := Lib.hid (RA8.out.ext hb9)
          have RP9 := Lib.hid (RP.out.ext hb9)
          clear hb9 M8 RA8 RP RT8
          have HP9 : Rd w9 3 encL (.slice pa pn pc) (cutL (fromL key L) (pn : Int)) := by rw [← HT.out, HC.out]; exact RP9.out
          have HPq := Lib.hid HP9
          have hW : Holds (w9.alloc (.cells (wtCells b (.slice aa L.length ac) (.slice pa pn pc) key (pn : Int) 0).toArray 51)) w9.heap.size (wtCells b (.slice aa L.length ac) (.slice pa pn pc) key (pn : Int) 0) := Holds.alloc _ _ _
          have HW := Lib.hid hW
          have hE : ∀ x y w, (binOp .eql 53 (.func (.func 51) #[] #[.pointer (some ⟨x, 0, none⟩), .pointer (some ⟨y, 0, none⟩)]) .nilFunc).run Tryd.prog w = .ok (.bool false) w := fun x y w => run_eql_func (P := Tryd.prog) (t := 53) (by kernel_rfl) _ _ _ w
          clear HP9 hW
          go_wp2_with fail
          refine (all_any b _).mono ?_
          rintro e w10 ⟨rfl, hb10, hB1, hB2⟩
          have SI : StepI b (w9.heap.size + 1) (w9.heap.size + 1 + 1) (.slice aa L.length ac) (.slice pa pn pc) key (pn : Int) w9 [] w10 := by
            refine ⟨?_, ?_, ?_, ?_⟩
            · exact ((Below.refl _ _).alloc (Nat.le_refl _) _).trans (hb10.mono (by simp))
            · exact HW.out.ext hb10
            · simpa using hB1
            · simpa using hB2
          have hc := all_step b (w9.heap.size + 1) (w9.heap.size + 1 + 1) _ _ key (pn : Int) L w9 w10 M9.out RA9.out HPq.out hkey (by omega) (by omega) (by omega) SI
          have HCS := Lib.hid hc
          clear hc SI hB1 hB2 hb10 HW
          unfold fromV
          go_wp2_with fail
          refine HCS.out.mono ?_
          rintro e w11 ⟨⟨v, rfl⟩, hs⟩
          have hb11 := hs.below
          have g11 : Below w.heap.size w w11 := g9.trans (hb11.mono g9.size)
          have M11 := Lib.hid (M9.out.ext hb11)
          have RA11 := Lib.hid (RA9.out.ext hb11)
          have c5 := hs.held.cell (i := 5) rfl
          have c6 := hs.held.cell (i := 6) rfl
          clear hs HCS hE
          go_wp2_with fail
          refine (list_l b L (-1) w11 M11.out (by omega)).mono ?_
          rintro e w12 ⟨es, rfl, ho, hb12⟩
          rw [cutL_neg] at ho
          obtain ⟨za, zc, rfl⟩ := ho.len
          have RZ := Lib.hid (ho.rd encL_len)
          have g12 : Below w.heap.size w w12 := g11.trans (hb12.mono g11.size)
          have RA12 := Lib.hid (RA11.out.ext hb12)
          clear ho hb12
          go_wp2_with fail
          refine (sameEntries_any _ _ L L w12 RZ.out RA12.out (by omega) (by omega)).mono ?_
          rintro e w13 ⟨rfl, hb13⟩
          rw [decide_eq_true (rfl : L = L)]
          have g13 : Below w.heap.size w w13 := g12.trans (hb13.mono g12.size)
          go_wp2
          go_returns
          exact ⟨rfl, g13⟩
end Go.Proofs.YtihmhledogppmaaDoor
