/- The walk of levylaw3.TrieDiff. -/
import Derived.Test.YtihmhledogppmaaDoorTg
import Derived.Test.YtihmhledogppmaaDoorDp
import Derived.Test.YtihmhledogppmaaDoorKn
import Derived.Test.YtihmhledogppmaaDoorRegG
import Derived.Deep.DeepCutAuto
import Derived.Deep.CutBlock
namespace Go.Proofs.YtihmhledogppmaaDoor
open Go Go.RowKit
set_option linter.unusedVariables false
set_option linter.unusedSimpArgs false

/-- What is told of two maps. -/
structure DifOf (D : List Ch) (a b : Tr 8) : Prop where
  mem : ∀ c ∈ D, c.1 < 4294967296 ∧ c.2.1 = a.get c.1 ∧ c.2.2 = b.get c.1 ∧ c.2.1 ≠ c.2.2
  srt : SrtC D
  nil : D = [] ↔ a.ents 0 = b.ents 0
  lays : D.foldl layC (a.ents 0) = b.ents 0
  len : D.length ≤ (a.ents 0).length + (b.ents 0).length
theorem difOf {D : List Ch} {a b : Tr 8} (h : difs a b 0 = D) : DifOf D a b := by
  subst h
  exact ⟨fun c hc => mem_difs0.1 hc, difs_srt a b 0, difs_nil_iff, lays_difs a b, difs_len a b 0⟩
theorem changes_D (ba bb : Nat) (a b : Tr 8) (D : List Ch) (hD : difs a b 0 = D) (w : World) (ha : MapT w ba a) (hb : MapT w bb b) (hN : D.length ≤ 5000) :
    Calls Tryd.prog 25 #[.pointer (some ⟨ba, 0, none⟩), .pointer (some ⟨bb, 0, none⟩), .int .i64 (-1)] w fun e w' => ∃ z c, e = .returned (.slice z D.length c) ∧ Rd w' 7 encC (.slice z D.length c) D ∧ Below w.heap.size w w' := by
  subst hD
  refine (changes_any ba bb a b (-1) (by decide) w ha hb hN).mono ?_
  rintro e w' ⟨cs, rfl, hO, hB⟩
  rw [show cutL (difs a b 0) (-1) = difs a b 0 by unfold cutL; rw [if_pos (by decide)]] at hO
  obtain ⟨z, c, rfl⟩ := hO.len
  exact ⟨z, c, rfl, hO.rd encC_len, hB⟩
theorem made_t2 (vl : Value) (lp : List PutL) (n : Int) (w : World) (hl : Rd w 4 putCells vl lp) (hid : ∀ x ∈ lp, x.id < 4294967296) :
    Calls Tryd.prog 19 #[vl, .int .i64 n] w fun e w' =>
      ∃ b c t s, e = .returned (.tuple #[.pointer (some ⟨b, 0, none⟩), .pointer (some ⟨c, 0, none⟩)]) ∧ MapT w' b t ∧ (t.ents 0).length ≤ 200 ∧ MapT w' c s ∧ (s.ents 0).length ≤ 200 ∧ Below w.heap.size w w' := by
  refine (made_gen vl lp n w hl (fun W k b c => ∃ t s, MapT W b t ∧ (t.ents 0).length ≤ k ∧ MapT W c s ∧ (s.ents 0).length ≤ k ∧ Below w.heap.size w W) ?_ (fun W k b c h => by obtain ⟨t, s, _, _, _, _, h⟩ := h; exact h) ?_).mono ?_
  · refine (empty_t w).mono ?_
    rintro e w' ⟨b, rfl, h1, h2⟩
    exact ⟨b, rfl, _, _, h1, Nat.le_refl _, h1, Nat.le_refl _, h2⟩
  · rintro W k b c x hx hk ⟨t, s, h1, h2, h3, h4, h5⟩
    have hxk := hid x (List.mem_of_getElem? hx)
    refine (one_t b t x W h1 (by omega) hxk).mono ?_
    rintro e w' ⟨b', t', rfl, g1, g2, g3⟩
    have hl' : (t'.ents 0).length ≤ k + 1 := by
      rw [g2.ents hxk]
      exact Nat.le_trans (laidL_len _ _ _ _) (by omega)
    refine ⟨b', rfl, ?_⟩
    by_cases hn : ((k : Int) + 1 == n) = true
    · rw [if_pos hn]
      exact ⟨t', t', g1, hl', g1, hl', h5.trans (g3.mono h5.size)⟩
    · rw [if_neg hn]
      exact ⟨t', s, g1, hl', h3.ext g3, by omega, h5.trans (g3.mono h5.size)⟩
  · rintro e w' ⟨b, c, rfl, t, s, h1, h2, h3, h4, h5⟩
    exact ⟨b, c, t, s, rfl, h1, by omega, h3, by omega, h5⟩
set_option maxRecDepth 100000 in
set_option maxHeartbeats 8000000 in
theorem trieDiff_any (vl vo : Value) (n : Int) (lp lo : List PutL) (w : World) (hl : Rd w 4 putCells vl lp) (hlid : ∀ x ∈ lp, x.id < 4294967296) (ho : Rd w 4 putCells vo lo) (hoid : ∀ x ∈ lo, x.id < 4294967296) :
    Calls Tryd.prog 6 #[vl, .int .i64 n, vo] w fun e w' => e = .returned (.bool true) ∧ Below w.heap.size w w' := by
  obtain ⟨za, zc, rfl, ho⟩ := ho
  obtain ⟨ya, yc, rfl, hl⟩ := hl
  have HL := Lib.hid (show Rd w 4 putCells (.slice ya lp.length yc) lp from ⟨ya, yc, rfl, hl⟩)
  have HO := Lib.hid ho
  have HID := Lib.hid hlid
  have HOD := Lib.hid hoid
  clear hl ho hlid hoid
  go_enter Tryd.func6, Tryd.ntmps6
  go_wp2_with fail
  refine (known_any w).mono ?_
  rintro e w1 ⟨rfl, hb1⟩
  have B1 := Lib.hid hb1
  clear hb1
  go_wp2_with fail
  refine (made_t2 _ lp n w1 (HL.out.ext B1.out) HID.out).mono ?_
  rintro e w2 ⟨b2, ba, t2, ta, rfl, _, _, hma, hta, hb2⟩
  have B2 := Lib.hid (B1.out.trans (hb2.mono B1.out.size))
  have M2 := Lib.hid hma
  clear hb2 hma
  go_wp2_with fail
  refine (made_t2 _ lp 0 w2 (HL.out.ext B2.out) HID.out).mono ?_
  rintro e w3 ⟨b3, b4, t3, t4, rfl, hmb, htb, _, _, hb3⟩
  have B3 := Lib.hid (B2.out.trans (hb3.mono B2.out.size))
  have M3 := Lib.hid (M2.out.ext hb3)
  have N3 := Lib.hid hmb
  clear hb3 hmb B1 B2 M2 HL
  go_upto_block 0 with fail
  go_cut [9] (fun m wc => ∃ (bb : Nat) (tb : Tr 8), m = .pointer (some ⟨bb, 0, none⟩) ∧ MapT wc bb tb ∧ (tb.ents 0).length ≤ 240 ∧ Below w3.heap.size w3 wc)
  case first =>
    go_wp2
    go_loopw [9, 11] (fun m i wr => ∃ (k bb : Nat) (tb : Tr 8), i = .int .i64 (k : Int) ∧ k ≤ lo.length ∧ k ≤ 40 ∧ m = .pointer (some ⟨bb, 0, none⟩) ∧ MapT wr bb tb ∧ (tb.ents 0).length ≤ 200 + k ∧ Below w3.heap.size w3 wr) (fun _ i _ => 40 - (intOf i).toNat)
    case atStart => exact ⟨0, b3, t3, rfl, by omega, by omega, rfl, N3.out, htb, Below.refl _ _⟩
    case round =>
      obtain ⟨k, bb, tb, rfl, hkl, hk40, rfl, hm, hlen, hB⟩ := hrel
      have HM := Lib.hid hm
      have HB := Lib.hid hB
      by_cases hlt : k < lo.length
      · by_cases h40 : k < 40
        · have e1 : lo[k]? = some lo[k] := List.getElem?_eq_getElem hlt
          have hx := HOD.out lo[k] (List.getElem_mem hlt)
          rcases HO.out with hnil | ⟨lb, lof, rfl, hlb, hcl⟩
          · subst hnil; simp at hlt
          generalize lo[k] = x at e1 hx
          have hc := Lib.hid (one_t bb tb x wr hm (by omega) hx)
          obtain ⟨xid, ⟨xk, xn⟩, xg⟩ := x
          have hBw : Below w.heap.size w wr := B3.out.trans (hB.mono B3.out.size)
          have f0 := (hBw.cell (p := ⟨lb, _, none⟩) hlb).trans (hcl k _ 0 _ e1 rfl)
          have f1 := (hBw.cell (p := ⟨lb, _, none⟩) hlb).trans (hcl k _ 1 _ e1 rfl)
          have f2 := (hBw.cell (p := ⟨lb, _, none⟩) hlb).trans (hcl k _ 2 _ e1 rfl)
          have f3 := (hBw.cell (p := ⟨lb, _, none⟩) hlb).trans (hcl k _ 3 _ e1 rfl)
          simp only [Nat.add_zero] at f0
          clear hcl e1 hm hB hBw
          go_wp2_with (go_at_call 12; refine hc.out.mono ?_; rintro e w4 ⟨b', t', rfl, g1, g2, g3⟩; have G1 := Lib.hid g1; have G2 := Lib.hid g2; have G3 := Lib.hid g3; clear g1 g2 g3)
          go_roundw
          case rel => exact ⟨k + 1, b', t', by go_num, by omega, by omega, rfl, G1.out, by rw [G2.out.ents hx]; exact Nat.le_trans (laidL_len _ _ _ _) (by omega), HB.out.trans (G3.out.mono HB.out.size)⟩
          case measure => simp [intOf]; omega
        · have hno : decide ((k : Int) < 40) = false := by simp; omega
          clear hm hB
          go_wp2
          go_meet
          case rel => exact ⟨bb, tb, rfl, HM.out, by omega, HB.out⟩
      · have hno : decide ((k : Int) < (lo.length : Int)) = false := by simp; omega
        clear hm hB
        go_wp2
        go_meet
        case rel => exact ⟨bb, tb, rfl, HM.out, by omega, HB.out⟩
  case rest =>
    obtain ⟨bb, tb, rfl, hm, hlb, hB⟩ := hcut
    obtain ⟨w4, rfl⟩ : ∃ x, x = wc := ⟨wc, rfl⟩
    have A4 := Lib.hid (M3.out.ext hB)
    have N4 := Lib.hid hm
    have B4 := Lib.hid (B3.out.trans (hB.mono B3.out.size))
    obtain ⟨D, hD⟩ : ∃ D, difs ta tb 0 = D := ⟨_, rfl⟩
    have HD := Lib.hid hD
    have hdo := difOf hD
    have hlenD := hdo.len
    have DO := Lib.hid hdo
    have hbk : difs tb ta 0 = D.map swapC := by rw [difs_swap, hD]
    have HBK := Lib.hid hbk
    clear hm hB M3 N3 B3 hD hdo hbk HO HOD HID htb
    go_wp2_with fail
    refine (changes_D ba bb ta tb D HD.out w4 A4.out N4.out (by omega)).mono ?_
    rintro e w5 ⟨d1, d2, rfl, hr, hb⟩
    have A5 := Lib.hid (A4.out.ext hb)
    have N5 := Lib.hid (N4.out.ext hb)
    have B5 := Lib.hid (B4.out.trans (hb.mono B4.out.size))
    have R5 := Lib.hid hr
    clear hr hb A4 N4 B4
    go_wp2_with fail
    refine (changes_D bb ba tb ta (D.map swapC) HBK.out w5 N5.out A5.out (by simp; omega)).mono ?_
    rintro e w6 ⟨k1, k2, rfl, hr, hb⟩
    have A6 := Lib.hid (A5.out.ext hb)
    have N6 := Lib.hid (N5.out.ext hb)
    have B6 := Lib.hid (B5.out.trans (hb.mono B5.out.size))
    have R6 := Lib.hid (R5.out.ext hb)
    rw [List.length_map] at hr ⊢
    have K6 := Lib.hid hr
    clear hr hb A5 N5 B5 R5 HD HBK
    go_upto_region 13 with fail
    go_cut [83] (fun c wc => c = .bool false ∧ Below w6.heap.size w6 wc)
    case first =>
      by_cases hnil : D = []
      · have hz : ((D.length : Int) == 0) = true := by rw [hnil]; rfl
        have heq := DO.out.nil.1 hnil
        clear hnil
        go_wp2_with fail
        refine (list_l ba (ta.ents 0) (-1) w6 A6.out.l (by omega)).mono ?_
        rintro e w7 ⟨es, rfl, ho7, hb7⟩
        rw [show cutL (ta.ents 0) (-1) = ta.ents 0 by unfold cutL; rw [if_pos (by decide)]] at ho7
        have O7 := Lib.hid (ho7.rd encL_len)
        have N7 := Lib.hid (N6.out.ext hb7)
        have HB7 := Lib.hid hb7
        clear ho7 hb7
        go_wp2_with fail
        refine (list_l bb (tb.ents 0) (-1) w7 N7.out.l (by omega)).mono ?_
        rintro e w8 ⟨es2, rfl, ho8, hb8⟩
        rw [show cutL (tb.ents 0) (-1) = tb.ents 0 by unfold cutL; rw [if_pos (by decide)]] at ho8
        have O8 := Lib.hid (ho8.rd encL_len)
        have P8 := Lib.hid (O7.out.ext hb8)
        have HB8 := Lib.hid (HB7.out.trans (hb8.mono HB7.out.size))
        clear ho8 hb8 O7 N7 HB7
        go_wp2_with fail
        refine (sameEntries_any _ _ _ _ w8 P8.out O8.out (by omega) (by omega)).mono ?_
        rintro e w9 ⟨rfl, hb9⟩
        rw [decide_eq_true heq]
        have HB9 := Lib.hid (HB8.out.trans (hb9.mono HB8.out.size))
        clear hb9 O8 P8 HB8 heq
        go_wp2
        go_meet
        case rel => exact ⟨rfl, HB9.out⟩
      · have hz : ((D.length : Int) == 0) = false := by
          cases D with
          | nil => exact absurd rfl hnil
          | cons x l => simp; omega
        have heq : ¬ ta.ents 0 = tb.ents 0 := fun h => hnil (DO.out.nil.2 h)
        clear hnil
        go_wp2_with fail
        refine (list_l ba (ta.ents 0) (-1) w6 A6.out.l (by omega)).mono ?_
        rintro e w7 ⟨es, rfl, ho7, hb7⟩
        rw [show cutL (ta.ents 0) (-1) = ta.ents 0 by unfold cutL; rw [if_pos (by decide)]] at ho7
        have O7 := Lib.hid (ho7.rd encL_len)
        have N7 := Lib.hid (N6.out.ext hb7)
        have HB7 := Lib.hid hb7
        clear ho7 hb7
        go_wp2_with fail
        refine (list_l bb (tb.ents 0) (-1) w7 N7.out.l (by omega)).mono ?_
        rintro e w8 ⟨es2, rfl, ho8, hb8⟩
        rw [show cutL (tb.ents 0) (-1) = tb.ents 0 by unfold cutL; rw [if_pos (by decide)]] at ho8
        have O8 := Lib.hid (ho8.rd encL_len)
        have P8 := Lib.hid (O7.out.ext hb8)
        have HB8 := Lib.hid (HB7.out.trans (hb8.mono HB7.out.size))
        clear ho8 hb8 O7 N7 HB7
        go_wp2_with fail
        refine (sameEntries_any _ _ _ _ w8 P8.out O8.out (by omega) (by omega)).mono ?_
        rintro e w9 ⟨rfl, hb9⟩
        rw [decide_eq_false heq]
        have HB9 := Lib.hid (HB8.out.trans (hb9.mono HB8.out.size))
        clear hb9 O8 P8 HB8 heq
        go_wp2
        go_meet
        case rel => exact ⟨rfl, HB9.out⟩
    case rest =>
      obtain ⟨rfl, hB⟩ := hcut
      obtain ⟨w7, rfl⟩ : ∃ x, x = wc := ⟨wc, rfl⟩
      have A7 := Lib.hid (A6.out.ext hB)
      have N7 := Lib.hid (N6.out.ext hB)
      have B7 := Lib.hid (B6.out.trans (hB.mono B6.out.size))
      have R7 := Lib.hid (R6.out.ext hB)
      have K7 := Lib.hid (K6.out.ext hB)
      clear hB A6 N6 B6 R6 K6
      go_upto_block 2 with fail
      go_cut [14] (fun m wc => ∃ (bm : Nat) (tm : Tr 8), m = .pointer (some ⟨bm, 0, none⟩) ∧ MapT wc bm tm ∧ tm.ents 0 = tb.ents 0 ∧ Below w7.heap.size w7 wc)
      case first =>
        go_wp2
        go_loopw [14, 15] (fun m i wr => ∃ (k bm : Nat) (tm : Tr 8), i = .int .i64 (k : Int) ∧ k ≤ D.length ∧ m = .pointer (some ⟨bm, 0, none⟩) ∧ MapT wr bm tm ∧ tm.ents 0 = (D.take k).foldl layC (ta.ents 0) ∧ (tm.ents 0).length ≤ 200 + k ∧ Below w7.heap.size w7 wr) (fun _ i _ => D.length - (intOf i).toNat)
        case atStart => exact ⟨0, ba, ta, rfl, by omega, rfl, A7.out, rfl, by omega, Below.refl _ _⟩
        case round =>
          obtain ⟨k, bm, tm, rfl, hk, rfl, hm, hme, hml, hB⟩ := hrel
          obtain ⟨w8, rfl⟩ : ∃ x, x = wr := ⟨wr, rfl⟩
          by_cases hkl : k < D.length
          · have e1 : D[k]? = some D[k] := List.getElem?_eq_getElem hkl
            have hmem := DO.out.mem D[k] (List.getElem_mem hkl)
            have htk : (D.take (k + 1)).foldl layC (ta.ents 0) = layC ((D.take k).foldl layC (ta.ents 0)) D[k] := by
              rw [List.take_succ_eq_append_getElem hkl, List.foldl_append]; rfl
            rcases R7.out with ⟨a', c', hv, hnil | ⟨vb, vo, he, hvb, hcv⟩⟩
            · subst hnil; simp at hkl
            rcases K7.out with ⟨a'', c'', hv2, hnil | ⟨kb, ko, he2, hkb, hck⟩⟩
            · rw [List.map_eq_nil_iff] at hnil; subst hnil; simp at hkl
            simp only [Value.slice.injEq, true_and] at hv
            obtain ⟨rfl, rfl⟩ := hv
            rw [List.length_map] at hv2
            simp only [Value.slice.injEq, true_and] at hv2
            obtain ⟨rfl, rfl⟩ := hv2
            subst he he2
            have e2 : (D.map swapC)[k]? = some (swapC D[k]) := by rw [List.getElem?_map, e1]; rfl
            generalize D[k] = x at e1 e2 hmem htk
            obtain ⟨id, was, now⟩ := x
            obtain ⟨hid, hwas, hnow, hne⟩ := hmem
            dsimp only at hid hwas hnow hne
            have f0 := (hB.cell (p := ⟨vb, _, none⟩) hvb).trans (hcv k _ 0 _ e1 rfl)
            have f1 := (hB.cell (p := ⟨vb, _, none⟩) hvb).trans (hcv k _ 1 _ e1 rfl)
            have f2 := (hB.cell (p := ⟨vb, _, none⟩) hvb).trans (hcv k _ 2 _ e1 rfl)
            have f3 := (hB.cell (p := ⟨vb, _, none⟩) hvb).trans (hcv k _ 3 _ e1 rfl)
            have f4 := (hB.cell (p := ⟨vb, _, none⟩) hvb).trans (hcv k _ 4 _ e1 rfl)
            have f5 := (hB.cell (p := ⟨vb, _, none⟩) hvb).trans (hcv k _ 5 _ e1 rfl)
            have f6 := (hB.cell (p := ⟨vb, _, none⟩) hvb).trans (hcv k _ 6 _ e1 rfl)
            simp only [Nat.add_zero] at f0
            have hal : Below w8.heap.size w8 (w8.alloc (.cells (chCells id was now).toArray 64)) := (Below.refl _ _).alloc (Nat.le_refl _) _
            have H16 := Lib.hid (Holds.alloc w8 (chCells id was now) 64)
            have A8 := Lib.hid ((A7.out.ext hB).ext hal)
            have N8 := Lib.hid ((N7.out.ext hB).ext hal)
            have M8 := Lib.hid (hm.ext hal)
            have G8 := Lib.hid (hB.trans (hal.mono hB.size))
            have hg1 := get_any ba _ id ta _ A8.out.map.map A8.out.map.tree hid
            rw [← hwas] at hg1
            have HG1 := Lib.hid hg1
            have HWAS := Lib.hid hwas
            have HNOW := Lib.hid hnow
            have HNE := Lib.hid hne
            have HTK := Lib.hid htk
            have HME := Lib.hid hme
            clear hg1 hal hm hwas hnow hne htk hme
            go_wp2_with fail
            refine HG1.out.mono ?_
            rintro e w9 ⟨rfl, hb9⟩
            have h16 := H16.out.ext hb9
            have c0 := h16.cell (i := 0) rfl
            have l16 : w8.heap.size < w9.heap.size := h16.lt
            have hal : Below w9.heap.size w9 (w9.alloc (.cells #[.int .i64 (gv was).k, .int .i64 (gv was).n] 32)) := (Below.refl _ _).alloc (Nat.le_refl _) _
            have H16' := Lib.hid (h16.ext hal)
            have H17 : Hid (Holds (w9.alloc (.cells #[.int .i64 (gv was).k, .int .i64 (gv was).n] 32)) w9.heap.size (vCells (gv was))) := Lib.hid (Holds.alloc w9 (vCells (gv was)) 32)
            have A9 := Lib.hid ((A8.out.ext hb9).ext hal)
            have N9 := Lib.hid ((N8.out.ext hb9).ext hal)
            have M9 := Lib.hid ((M8.out.ext hb9).ext hal)
            have G9 := Lib.hid (G8.out.trans ((hb9.trans (hal.mono hb9.size)).mono G8.out.size))
            have hg2 := get_any bb _ id tb _ N9.out.map.map N9.out.map.tree hid
            rw [← HNOW.out] at hg2
            have HG2 := Lib.hid hg2
            clear hg2 hal hb9 h16 H16 A8 N8 M8 G8 HG1
            go_wp2_with fail
            refine HG2.out.mono ?_
            rintro e w10 ⟨rfl, hb10⟩
            have hal : Below w10.heap.size w10 (w10.alloc (.cells #[.int .i64 (gv now).k, .int .i64 (gv now).n] 32)) := (Below.refl _ _).alloc (Nat.le_refl _) _
            have H16 := Lib.hid ((H16'.out.ext hb10).ext hal)
            have H17' := Lib.hid ((H17.out.ext hb10).ext hal)
            have H19 : Hid (Holds (w10.alloc (.cells #[.int .i64 (gv now).k, .int .i64 (gv now).n] 32)) w10.heap.size (vCells (gv now))) := Lib.hid (Holds.alloc w10 (vCells (gv now)) 32)
            have M10 := Lib.hid ((M9.out.ext hb10).ext hal)
            have G10 := Lib.hid (G9.out.trans ((hb10.trans (hal.mono hb10.size)).mono G9.out.size))
            clear hb10 hal A9 N9 M9 G9 H16' H17 HG2 c0
            go_upto_region 22 with fail
            obtain ⟨wA, hwA⟩ : ∃ wA, wA = w10.alloc (.cells #[.int .i64 (gv now).k, .int .i64 (gv now).n] 32) := ⟨_, rfl⟩
            have e16 : Hid (Holds wA w8.heap.size (chCells id was now)) := Lib.hid (by rw [hwA]; exact H16.out)
            have e17 : Hid (Holds wA w9.heap.size (vCells (gv was))) := Lib.hid (by rw [hwA]; exact H17'.out)
            have e19 : Hid (Holds wA w10.heap.size (vCells (gv now))) := Lib.hid (by rw [hwA]; exact H19.out)
            have MA : Hid (MapT wA bm tm) := Lib.hid (by rw [hwA]; exact M10.out)
            have GA : Hid (Below w7.heap.size w7 wA) := Lib.hid (by rw [hwA]; exact G10.out)
            rw [← hwA]
            clear hwA H16 H17' H19 M10 G10
            have HCV := Lib.hid hcv
            have HCK := Lib.hid hck
            have HE1 := Lib.hid e1
            have HE2 := Lib.hid e2
            clear hcv hck e1 e2 f0 f1 f2 f3 f4 f5 f6 l16
            generalize w8.heap.size = B16 at *
            generalize w9.heap.size = B17 at *
            generalize w10.heap.size = B19 at *
            go_cut [157] (fun c wc => c = .bool false ∧ Below wA.heap.size wA wc)
            case first =>
             as_aux_lemma =>
              have cc : ∀ W, Below wA.heap.size wA W → ∀ (i : Nat) v, (chCells id was now)[i]? = some v → W.cell? ⟨B16, i, none⟩ = some v := fun W hW i v hv => (e16.out.ext hW).cell hv
              have c7 : ∀ W, Below wA.heap.size wA W → ∀ (i : Nat) v, (vCells (gv was))[i]? = some v → W.cell? ⟨B17, i, none⟩ = some v := fun W hW i v hv => (e17.out.ext hW).cell hv
              have c9 : ∀ W, Below wA.heap.size wA W → ∀ (i : Nat) v, (vCells (gv now))[i]? = some v → W.cell? ⟨B19, i, none⟩ = some v := fun W hW i v hv => (e19.out.ext hW).cell hv
              have C16 := Lib.hid cc
              have C17 := Lib.hid c7
              have C19 := Lib.hid c9
              have hne' : was.isSome = now.isSome → ¬ gv was = gv now := by
                intro h1 h2
                apply HNE.out
                revert h1 h2
                cases was <;> cases now <;> simp [gv]
              have HNE' := Lib.hid hne'
              have a0 := cc wA (Below.refl _ _) 0 _ rfl
              have a1 := cc wA (Below.refl _ _) 1 _ rfl
              have a2 := cc wA (Below.refl _ _) 2 _ rfl
              have a3 := cc wA (Below.refl _ _) 3 _ rfl
              have a4 := cc wA (Below.refl _ _) 4 _ rfl
              have a5 := cc wA (Below.refl _ _) 5 _ rfl
              have a6 := cc wA (Below.refl _ _) 6 _ rfl
              have b0 := c7 wA (Below.refl _ _) 0 _ rfl
              have b1 := c7 wA (Below.refl _ _) 1 _ rfl
              have d0 := c9 wA (Below.refl _ _) 0 _ rfl
              have d1 := c9 wA (Below.refl _ _) 1 _ rfl
              clear cc c7 c9 hne'
              rcases Nat.eq_zero_or_pos k with hk0 | hk0
              · subst hk0
                rw [Int.natCast_zero]
                refine rgn [0, 1, 2, 3, 4, 5, 6, 7, 8, 9, 10, 11, 12, 13, 14, 15, 16, 17, 18, 19, 20, 21, 22, 23, 24, 25, 26, 27, 28, 29, 30, 31, 32, 33, 34, 35, 36, 37, 38, 39, 40, 41, 42, 43, 44, 45, 46, 47, 48] [1, 5, 11, 17, 23, 42] (ord_fast (by kernel_rfl)) ?_
                simp only [pickL, List.getD_cons_zero, List.getD_cons_succ]
                go_wp2_with fail
                refine (sameValue_any (gv was) (vOf was) _).mono ?_
                rintro e wS ⟨rfl, hbS⟩
                rw [decide_eq_true (show gv was = vOf was from rfl)]
                have hS := below_of_drew hbS
                have a5' := C16.out wS hS 5 _ rfl
                have a6' := C16.out wS hS 6 _ rfl
                have d0' := C19.out wS hS 0 _ rfl
                have d1' := C19.out wS hS 1 _ rfl
                have HS := Lib.hid hS
                clear hbS hS a0 a1 a2 a3 a4 a5 a6 b0 b1 d0 d1
                go_wp2_with fail
                refine (sameValue_any (gv now) (vOf now) _).mono ?_
                rintro e wT ⟨rfl, hbT⟩
                rw [decide_eq_true (show gv now = vOf now from rfl)]
                have hT := HS.out.trans (hbT.mono HS.out.size)
                have b0' := C17.out wT hT 0 _ rfl
                have b1' := C17.out wT hT 1 _ rfl
                have d0'' := C19.out wT hT 0 _ rfl
                have d1'' := C19.out wT hT 1 _ rfl
                have HT := Lib.hid hT
                clear hbT hT a5' a6' d0' d1' HS
                by_cases hpq : was.isSome = now.isSome
                · have hq : (was.isSome == now.isSome) = true := by simpa using hpq
                  have hv := HNE'.out hpq
                  clear hpq
                  go_wp2_with fail
                  refine (sameValue_any (gv was) (gv now) _).mono ?_
                  rintro e wU ⟨rfl, hbU⟩
                  rw [decide_eq_false hv]
                  have HU := Lib.hid (HT.out.trans (hbU.mono HT.out.size))
                  clear hbU hv HT
                  go_wp2
                  refine ⟨?_, ?_⟩
                  · simp [chkD, dyn, Region.wanted, yielded, Act.eval, scalarV]
                  go_wp2
                  go_meet
                  case rel => exact ⟨rfl, HU.out⟩
                · have hq : (was.isSome == now.isSome) = false := by simpa using hpq
                  clear hpq
                  go_wp2
                  refine ⟨?_, ?_⟩
                  · simp [chkD, dyn, Region.wanted, yielded, Act.eval, scalarV]
                  go_wp2
                  go_meet
                  case rel => exact ⟨rfl, HT.out⟩
              · obtain ⟨j, rfl⟩ : ∃ j, k = j + 1 := ⟨k - 1, by omega⟩
                have hjl : j < D.length := by omega
                have e0 : D[j]? = some D[j] := List.getElem?_eq_getElem hjl
                have hlt : D[j].1 < id := by
                  have h1 := List.pairwise_iff_getElem.1 DO.out.srt j (j + 1) hjl hkl (by omega)
                  have h2 := HE1.out
                  rw [List.getElem?_eq_getElem hkl] at h2
                  rw [Option.some.inj h2] at h1
                  exact h1
                generalize D[j] = y at e0 hlt
                obtain ⟨yid, ywas, ynow⟩ := y
                dsimp only at hlt
                have p0 := (GA.out.cell (p := ⟨vb, _, none⟩) hvb).trans (HCV.out j _ 0 _ e0 rfl)
                simp only [Nat.add_zero] at p0
                have hge : decide (id ≤ yid) = false := by simp; omega
                have hjd : (0 : Int) < (j : Int) + 1 := by omega
                rw [show ((j + 1 : Nat) : Int) = (j : Int) + 1 from rfl]
                clear e0
                refine rgn [0, 1, 2, 3, 4, 5, 6, 7, 8, 9, 10, 11, 12, 13, 14, 15, 16, 17, 18, 19, 20, 21, 22, 23, 24, 25, 26, 27, 28, 29, 30, 31, 32, 33, 34, 35, 36, 37, 38, 39, 40, 41, 42, 43, 44, 45, 46, 47, 48] [1, 5, 11, 17, 23, 42] (ord_fast (by kernel_rfl)) ?_
                simp only [pickL, List.getD_cons_zero, List.getD_cons_succ]
                go_wp2_with fail
                refine (sameValue_any (gv was) (vOf was) _).mono ?_
                rintro e wS ⟨rfl, hbS⟩
                rw [decide_eq_true (show gv was = vOf was from rfl)]
                have hS := below_of_drew hbS
                have a5' := C16.out wS hS 5 _ rfl
                have a6' := C16.out wS hS 6 _ rfl
                have d0' := C19.out wS hS 0 _ rfl
                have d1' := C19.out wS hS 1 _ rfl
                have HS := Lib.hid hS
                clear hbS hS a0 a1 a2 a3 a4 a5 a6 b0 b1 d0 d1
                go_wp2_with fail
                refine (sameValue_any (gv now) (vOf now) _).mono ?_
                rintro e wT ⟨rfl, hbT⟩
                rw [decide_eq_true (show gv now = vOf now from rfl)]
                have hT := HS.out.trans (hbT.mono HS.out.size)
                have b0' := C17.out wT hT 0 _ rfl
                have b1' := C17.out wT hT 1 _ rfl
                have d0'' := C19.out wT hT 0 _ rfl
                have d1'' := C19.out wT hT 1 _ rfl
                have HT := Lib.hid hT
                clear hbT hT a5' a6' d0' d1' HS
                by_cases hpq : was.isSome = now.isSome
                · have hq : (was.isSome == now.isSome) = true := by simpa using hpq
                  have hv := HNE'.out hpq
                  clear hpq
                  go_wp2_with fail
                  refine (sameValue_any (gv was) (gv now) _).mono ?_
                  rintro e wU ⟨rfl, hbU⟩
                  rw [decide_eq_false hv]
                  have HU := Lib.hid (HT.out.trans (hbU.mono HT.out.size))
                  clear hbU hv HT
                  go_wp2
                  refine ⟨?_, ?_⟩
                  · simp [chkD, dyn, Region.wanted, yielded, Act.eval, scalarV]
                  go_wp2
                  go_meet
                  case rel => exact ⟨rfl, HU.out⟩
                · have hq : (was.isSome == now.isSome) = false := by simpa using hpq
                  clear hpq
                  go_wp2
                  refine ⟨?_, ?_⟩
                  · simp [chkD, dyn, Region.wanted, yielded, Act.eval, scalarV]
                  go_wp2
                  go_meet
                  case rel => exact ⟨rfl, HT.out⟩
            case rest =>
              obtain ⟨rfl, hB⟩ := hcut
              obtain ⟨wB, rfl⟩ : ∃ x, x = wc := ⟨wc, rfl⟩
              have GB : Below w7.heap.size w7 wB := GA.out.trans (hB.mono GA.out.size)
              have q0 := (GB.cell (p := ⟨kb, _, none⟩) hkb).trans (HCK.out k _ 0 _ HE2.out rfl)
              have q1 := (GB.cell (p := ⟨kb, _, none⟩) hkb).trans (HCK.out k _ 1 _ HE2.out rfl)
              have q2 := (GB.cell (p := ⟨kb, _, none⟩) hkb).trans (HCK.out k _ 2 _ HE2.out rfl)
              have q3 := (GB.cell (p := ⟨kb, _, none⟩) hkb).trans (HCK.out k _ 3 _ HE2.out rfl)
              have q4 := (GB.cell (p := ⟨kb, _, none⟩) hkb).trans (HCK.out k _ 4 _ HE2.out rfl)
              have q5 := (GB.cell (p := ⟨kb, _, none⟩) hkb).trans (HCK.out k _ 5 _ HE2.out rfl)
              have q6 := (GB.cell (p := ⟨kb, _, none⟩) hkb).trans (HCK.out k _ 6 _ HE2.out rfl)
              simp only [Nat.add_zero] at q0
              dsimp only [swapC] at q0 q1 q2 q3 q4 q5 q6
              have h16 := e16.out.ext hB
              have hal : Below wB.heap.size wB (wB.alloc (.cells (chCells id now was).toArray 64)) := (Below.refl _ _).alloc (Nat.le_refl _) _
              have l16 := h16.lt
              have H16B := Lib.hid (h16.ext hal)
              have H21 := Lib.hid (Holds.alloc wB (chCells id now was) 64)
              have MB := Lib.hid ((MA.out.ext hB).ext hal)
              have GBB := Lib.hid (GB.trans (hal.mono GB.size))
              clear hB GB h16 hal
              go_upto_region 25 with fail
              obtain ⟨wC, hwC⟩ : ∃ wC, wC = wB.alloc (.cells (chCells id now was).toArray 64) := ⟨_, rfl⟩
              have E16 : Hid (Holds wC B16 (chCells id was now)) := Lib.hid (by rw [hwC]; exact H16B.out)
              have E21 : Hid (Holds wC wB.heap.size (chCells id now was)) := Lib.hid (by rw [hwC]; exact H21.out)
              have MC : Hid (MapT wC bm tm) := Lib.hid (by rw [hwC]; exact MB.out)
              have GC : Hid (Below w7.heap.size w7 wC) := Lib.hid (by rw [hwC]; exact GBB.out)
              simp only [chCells, List.toArray] at hwC
              rw [← hwC]
              clear hwC H16B H21 MB GBB q0 q1 q2 q3 q4 q5 q6 l16 MA GA e16 e17 e19
              generalize wB.heap.size = B21 at *
              have a0 := E16.out.cell (i := 0) rfl
              have a1 := E16.out.cell (i := 1) rfl
              have a2 := E16.out.cell (i := 2) rfl
              have a5 := E16.out.cell (i := 5) rfl
              have a6 := E16.out.cell (i := 6) rfl
              have b0 := E21.out.cell (i := 0) rfl
              have b1 := E21.out.cell (i := 1) rfl
              have b2' := E21.out.cell (i := 2) rfl
              have b3 := E21.out.cell (i := 3) rfl
              have b4' := E21.out.cell (i := 4) rfl
              go_wp2_with fail
              refine (sameValue_any (vOf now) (vOf now) _).mono ?_
              rintro e wD ⟨rfl, hbD⟩
              rw [decide_eq_true (rfl : vOf now = vOf now)]
              have b5 := (E21.out.ext hbD).cell (i := 5) rfl
              have b6 := (E21.out.ext hbD).cell (i := 6) rfl
              have a3 := (E16.out.ext hbD).cell (i := 3) rfl
              have a4 := (E16.out.ext hbD).cell (i := 4) rfl
              have HD := Lib.hid hbD
              clear hbD a0 a1 a2 a5 a6 b0 b1 b2' b3 b4'
              go_wp2_with fail
              refine (sameValue_any (vOf was) (vOf was) _).mono ?_
              rintro e wE ⟨rfl, hbE⟩
              rw [decide_eq_true (rfl : vOf was = vOf was)]
              have hE := HD.out.trans (hbE.mono HD.out.size)
              have z16 := E16.out.ext hE
              have a0 := z16.cell (i := 0) rfl
              have a2 := z16.cell (i := 2) rfl
              have a5 := z16.cell (i := 5) rfl
              have a6 := z16.cell (i := 6) rfl
              have ME := Lib.hid (MC.out.ext hE)
              have GE := Lib.hid (GC.out.trans (hE.mono GC.out.size))
              clear hbE hE z16 b5 b6 a3 a4 HD MC GC E16 E21
              have hone := Lib.hid (one_t bm tm ⟨id, vOf now, now.isNone⟩ wE ME.out (by omega) hid)
              go_wp2_with fail
              refine hone.out.mono ?_
              rintro e wF ⟨b', t', rfl, g1, g2, g3⟩
              have hents := g2.ents hid
              have G1 := Lib.hid g1
              have G3 := Lib.hid (GE.out.trans (g3.mono GE.out.size))
              have hlen' : (t'.ents 0).length ≤ 200 + (k + 1) := by
                rw [hents]
                exact Nat.le_trans (laidL_len _ _ _ _) (by omega)
              have hents' : t'.ents 0 = (D.take (k + 1)).foldl layC (ta.ents 0) := by
                rw [hents, HTK.out, ← HME.out]
                rfl
              have HENT := Lib.hid hents'
              clear g1 g2 g3 hents hents' a0 a2 a5 a6 hone
              go_wp2
              go_roundw
              case rel => exact ⟨k + 1, b', t', by go_num, by omega, rfl, G1.out, HENT.out, hlen', G3.out⟩
              case measure => simp [intOf]; omega
          · have hno' : decide ((k : Int) < (D.length : Int)) = false := by simp; omega
            obtain rfl : k = D.length := by omega
            rw [List.take_length, DO.out.lays] at hme
            have HB := Lib.hid hB
            have HM := Lib.hid hm
            clear hB hm
            go_wp2
            go_meet
            case rel => exact ⟨bm, tm, rfl, HM.out, hme, HB.out⟩
      case rest =>
        obtain ⟨bm, tm, rfl, hm, hme, hB⟩ := hcut
        obtain ⟨w8, rfl⟩ : ∃ x, x = wc := ⟨wc, rfl⟩
        have A8 := Lib.hid hm
        have N8 := Lib.hid (N7.out.ext hB)
        have B8 := Lib.hid (B7.out.trans (hB.mono B7.out.size))
        have HE := Lib.hid hme
        clear hm hB A7 N7 B7 R7 K7 hme DO
        obtain ⟨E, hE⟩ : ∃ E, difs tm tb 0 = E := ⟨_, rfl⟩
        have hE0 : E = [] := (difOf hE).nil.2 HE.out
        subst hE0
        have HD := Lib.hid hE
        clear hE
        go_wp2_with fail
        refine (changes_D bm bb tm tb [] HD.out w8 A8.out N8.out (by simp)).mono ?_
        rintro e w9 ⟨d3, d4, rfl, _, hb⟩
        have A9 := Lib.hid (A8.out.ext hb)
        have N9 := Lib.hid (N8.out.ext hb)
        have B9 := Lib.hid (B8.out.trans (hb.mono B8.out.size))
        clear hb A8 N8 B8 HD
        rw [show ([] : List Ch).length = 0 from rfl]
        go_wp2_with fail
        refine (list_l bm (tb.ents 0) (-1) w9 (by have := A9.out.l; rwa [HE.out] at this) (by omega)).mono ?_
        rintro e w10 ⟨es, rfl, ho7, hb7⟩
        rw [show cutL (tb.ents 0) (-1) = tb.ents 0 by unfold cutL; rw [if_pos (by decide)]] at ho7
        have O10 := Lib.hid (ho7.rd encL_len)
        have N10 := Lib.hid (N9.out.ext hb7)
        have B10 := Lib.hid (B9.out.trans (hb7.mono B9.out.size))
        clear ho7 hb7 A9 N9 B9
        go_wp2_with fail
        refine (list_l bb (tb.ents 0) (-1) w10 N10.out.l (by omega)).mono ?_
        rintro e w11 ⟨es2, rfl, ho8, hb8⟩
        rw [show cutL (tb.ents 0) (-1) = tb.ents 0 by unfold cutL; rw [if_pos (by decide)]] at ho8
        have O11 := Lib.hid (ho8.rd encL_len)
        have P11 := Lib.hid (O10.out.ext hb8)
        have B11 := Lib.hid (B10.out.trans (hb8.mono B10.out.size))
        clear ho8 hb8 O10 N10 B10
        go_wp2_with fail
        refine (sameEntries_any _ _ _ _ w11 P11.out O11.out (by omega) (by omega)).mono ?_
        rintro e w12 ⟨rfl, hb9⟩
        rw [decide_eq_true (rfl : tb.ents 0 = tb.ents 0)]
        have B12 := Lib.hid (B11.out.trans (hb9.mono B11.out.size))
        clear hb9 O11 P11 B11
        go_wp2
        go_returns
        exact ⟨rfl, B12.out⟩
end Go.Proofs.YtihmhledogppmaaDoor
