/- The walk of TrieKeeps. -/
import Derived.Test.YtihmhledogppmaaDoorKe
import Derived.Deep.DeepCutAuto
import Derived.Deep.CutBlock
namespace Go.Proofs.YtihmhledogppmaaDoor
open Go Go.RowKit
set_option linter.unusedVariables false
set_option linter.unusedSimpArgs false

theorem putCells_len (x : PutL) : (putCells x).length = 4 := rfl
def R1 (w : World) (lp : List PutL) (mv hv i : Value) (wr : World) : Prop :=
  ∃ (j : Nat) (S : List Nat) (bs : List Nat) (es : List Value) (ls : List (List (Nat × V))), i = .int .i64 (j : Int) ∧ KS w wr S mv hv bs es ls ls ∧ bs.length = j + 1 ∧ j ≤ 60 ∧ j ≤ lp.length
theorem ks_start (w wa : World) (b : Nat) (hw : Below w.heap.size w wa) (hm : MapL wa b []) (hb : w.heap.size ≤ wa.heap.size) :
    KS w ((wa.alloc (.cells (encP b).toArray 24)).alloc (.cells (encS (.slice none 0 0)).toArray 35)) [wa.heap.size, wa.heap.size + 1] (.slice (some ⟨wa.heap.size, 0, none⟩) 1 1) (.slice (some ⟨wa.heap.size + 1, 0, none⟩) 1 1) [b] [.slice none 0 0] [[]] [[]] := by
  have hal : Below wa.heap.size wa ((wa.alloc (.cells (encP b).toArray 24)).alloc (.cells (encS (.slice none 0 0)).toArray 35)) := ((Below.refl _ _).alloc (Nat.le_refl _) _).alloc (by simp) _
  have hno : ∀ k, k < wa.heap.size → k ∉ [wa.heap.size, wa.heap.size + 1] := by intro k hk hm; simp at hm; omega
  refine ⟨⟨⟨rfl, .inr ⟨wa.heap.size, 1, (encP b).toArray, rfl, hb, ?_, Nat.le_refl _, by simp [maxLen], rfl, rfl⟩⟩, by simp⟩, ⟨⟨rfl, .inr ⟨wa.heap.size + 1, 1, (encS (.slice none 0 0)).toArray, rfl, by omega, ?_, Nat.le_refl _, by simp [maxLen], rfl, rfl⟩⟩, by simp⟩, by simp [Value.ownBlock], ⟨_, rfl, by simp⟩, ⟨_, rfl, by simp⟩, ?_, rfl, rfl, ?_, ?_, by simp, ?_⟩
  · rw [Below.heap_alloc _ _ _ (by simp)]
    exact heap_alloc_new _ _
  · have := heap_alloc_new (wa.alloc (.cells (encP b).toArray 24)) (.cells (encS (.slice none 0 0)).toArray 35)
    rwa [World.size_alloc] at this
  · intro k hk
    simp at hk ⊢
    omega
  · intro j b' l h1 h2
    cases j with
    | zero =>
      simp at h1 h2
      subst h1 h2
      obtain ⟨t, h3, h4⟩ := hm
      exact ⟨t, (h3.ext hal).mask (hno b h3.map.lt) (Tr.all_mono hno (Tr.at_all h3.tree)), h4⟩
    | succ j => simp at h1
  · intro j v l h1 h2
    cases j with
    | zero =>
      simp at h1 h2
      subst h1 h2
      exact rd_nil _ _ _
    | succ j => simp at h1
  · exact hw.trans (hal.mono hb)
set_option maxRecDepth 100000 in
set_option maxHeartbeats 1600000 in
theorem keeps_any (vl von : Value) (lp : List PutL) (lon : List Int) (w : World) (hl : Rd w 4 putCells vl lp) (hid : ∀ x ∈ lp, x.id < 4294967296) (ho : Rd w 1 encI von lon) :
    Calls Tryd.prog 3 #[vl, von] w fun e w' => e = .returned (.bool true) ∧ Below w.heap.size w w' := by
  obtain ⟨la, lc, rfl, hl⟩ := hl
  obtain ⟨oa, oc, rfl, ho⟩ := ho
  have HL := Lib.hid hl
  have HO := Lib.hid ho
  clear hl ho
  go_enter Tryd.func3, Tryd.ntmps3
  go_wp2_with fail
  refine (empty_l w).mono ?_
  rintro e w1 ⟨b0, rfl, m0, h1⟩
  go_wp2_with fail
  refine (known_any w1).mono ?_
  rintro e w2 ⟨rfl, h2⟩
  have ks := ks_start w w2 b0 (h1.trans (h2.mono h1.size)) (m0.ext h2) (Nat.le_trans h1.size h2.size)
  have KS0 := Lib.hid ks
  clear ks m0 h1 h2
  go_upto_block 0 with fail
  go_cut [6, 7] (fun mv hv wc => ∃ (j : Nat) (S : List Nat) (bs : List Nat) (es : List Value) (ls : List (List (Nat × V))), KS w wc S mv hv bs es ls ls ∧ bs.length = j + 1 ∧ j ≤ 60)
  case first =>
    go_wp2
    go_loopw [6, 7, 8] (R1 w lp) (fun _ _ i _ => 60 - (intOf i).toNat)
    case atStart => exact ⟨0, _, _, _, _, rfl, KS0.out, rfl, by omega, by omega⟩
    case round =>
      obtain ⟨j, S, bs, es, ls, rfl, ks, hbl, hj60, hjl⟩ := hrel
      have hll : ls.length = j + 1 := by rw [← ks.lb]; exact hbl
      have hel : es.length = j + 1 := by rw [ks.le]; exact hll
      by_cases hlt : j < lp.length
      · by_cases h60 : j < 60
        · have e1 : lp[j]? = some lp[j] := List.getElem?_eq_getElem hlt
          have hxid := hid lp[j] (List.getElem_mem hlt)
          rcases HL.out with hnil | ⟨lb, lo, rfl, hlb, hcl⟩
          · subst hnil; simp at hlt
          obtain ⟨g, hg, _⟩ := ks.mS
          obtain ⟨g2, hg2, _⟩ := ks.hS
          obtain ⟨mc, rfl⟩ := ks.m.is hg
          obtain ⟨hc, rfl⟩ := ks.h.is hg2
          have HK := Lib.hid ks
          have hB := ks.below
          have hsz := hB.size
          clear ks
          generalize lp[j] = x at e1 hxid
          obtain ⟨xid, ⟨xk, xn⟩, xg⟩ := x
          have f0 := (hB.cell (p := ⟨lb, _, none⟩) hlb).trans (hcl j _ 0 _ e1 rfl)
          have f1 := (hB.cell (p := ⟨lb, _, none⟩) hlb).trans (hcl j _ 1 _ e1 rfl)
          have f2 := (hB.cell (p := ⟨lb, _, none⟩) hlb).trans (hcl j _ 2 _ e1 rfl)
          have f3 := (hB.cell (p := ⟨lb, _, none⟩) hlb).trans (hcl j _ 3 _ e1 rfl)
          simp only [Nat.add_zero] at f0
          clear hcl e1
          have pick : ∀ kk, kk < j + 1 → ∃ b l v, bs[kk]? = some b ∧ ls[kk]? = some l ∧ es[kk]? = some v ∧ MapM S wr b l ∧ RdM S wr 3 encL v l ∧ l.length ≤ j + 1 ∧ wr.cell? ⟨g, kk, none⟩ = some (.pointer (some ⟨b, 0, none⟩)) ∧ wr.cell? ⟨g2, kk, none⟩ = some v := by
            intro kk hk
            have q1 : bs[kk]? = some (bs[kk]'(by omega)) := List.getElem?_eq_getElem (by omega)
            have q2 : ls[kk]? = some (ls[kk]'(by omega)) := List.getElem?_eq_getElem (by omega)
            have q3 : es[kk]? = some (es[kk]'(by omega)) := List.getElem?_eq_getElem (by omega)
            exact ⟨_, _, _, q1, q2, q3, HK.out.maps kk _ _ q1 q2, HK.out.held kk _ _ q3 q2, by rw [← hbl]; exact HK.out.lens _ (List.mem_of_getElem? q2), HK.out.m.get1 (fun _ => rfl) hg q1 rfl, HK.out.h.get1 (fun _ => rfl) hg2 q3 rfl⟩
          have PK := Lib.hid pick
          clear pick
          rw [hbl, hel]
          go_upto_region 10 with fail
          go_cut [63] (fun c wc => ∃ c' : Bool, c = .bool c' ∧ wc = wr ∧ (c' = true → ∃ (ob oo kk : Nat), oa = some ⟨ob, oo, none⟩ ∧ j < lon.length ∧ kk < j + 1 ∧ wr.cell? ⟨ob, oo + j, none⟩ = some (.int .i64 (kk : Int))))
          case first =>
            by_cases hon : j < lon.length
            · have e2 : lon[j]? = some lon[j] := List.getElem?_eq_getElem hon
              rcases HO.out with hnil | ⟨ob, oo, rfl, hob, hco⟩
              · subst hnil; simp at hon
              generalize lon[j] = c at e2
              have p0 := (hB.cell (p := ⟨ob, _, none⟩) hob).trans (hco j _ 0 _ e2 rfl)
              simp only [Nat.mul_one, Nat.add_zero] at p0
              clear hco e2
              by_cases hc0 : 0 ≤ c
              · obtain ⟨kk, rfl⟩ : ∃ kk : Nat, c = (kk : Int) := ⟨c.toNat, by omega⟩
                by_cases hkk : kk < j + 1
                · have d1 : decide ((kk : Int) < (j : Int) + 1) = true := by simp; omega
                  have d2 : decide (kk < j + 1) = true := by simpa using hkk
                  have P0 := Lib.hid p0
                  go_wp2
                  go_meet
                  case rel => exact ⟨true, rfl, rfl, fun _ => ⟨_, _, kk, rfl, hon, hkk, P0.out⟩⟩
                · have d1 : decide ((kk : Int) < (j : Int) + 1) = false := by simp; omega
                  have d2 : decide (kk < j + 1) = false := by simpa using hkk
                  go_wp2
                  go_meet
                  case rel => exact ⟨false, rfl, rfl, fun h => by cases h⟩
              · have d1 : decide (0 ≤ c) = false := by simpa using hc0
                go_wp2
                go_meet
                case rel => exact ⟨false, rfl, rfl, fun h => by cases h⟩
            · go_wp2
              go_meet
              case rel => exact ⟨false, rfl, rfl, fun h => by cases h⟩
          case rest =>
            obtain ⟨c', rfl, rfl, hc'⟩ := hcut
            go_upto_if 63 with fail
            go_cut [9] (fun kv wx => ∃ kk : Nat, kk < j + 1 ∧ kv = .int .i64 (kk : Int) ∧ wx = wc)
            case first =>
              cases c' with
              | true =>
                obtain ⟨ob, oo, kk, rfl, hon, hkk, p0⟩ := hc' rfl
                have HKK := Lib.hid hkk
                go_wp2
                go_meet
                case rel => exact ⟨kk, HKK.out, rfl, rfl⟩
              | false =>
                clear hc'
                go_wp2
                go_meet
                case rel => exact ⟨j, by omega, rfl, rfl⟩
            case rest =>
              obtain ⟨kk, hkk, rfl, rfl⟩ := hcut
              clear hc'
              obtain ⟨b, l, v, q1, q2, q3, hM, hR, hln, m0, m1⟩ := PK.out kk hkk
              obtain ⟨va, vc, hve, _⟩ := id hR
              subst hve
              obtain ⟨wr, rfl⟩ : ∃ x, x = wc := ⟨wc, rfl⟩
              go_wp2
              refine rgn [0, 1, 2, 3, 4, 5, 6, 7, 8, 9] [] (by kernel_rfl) ?_
              simp only [pickL, List.getD_cons_zero, List.getD_cons_succ]
              go_wp2_with fail
              refine (one_m S b l ⟨xid, ⟨xk, xn⟩, xg⟩ wr.drew (hM.ext (Below.refl _ _).drew HK.out.lt) HK.out.lt (by omega) hxid).mono ?_
              rintro e W1 ⟨b2, rfl, hM1, hB1⟩
              have hB1' : Below wr.heap.size wr W1 := below_of_drew hB1
              have K1 := Lib.hid (HK.out.ext hB1')
              have hsz1 := hB1'.size
              have hlen2 : (laidL xid ⟨xk, xn⟩ xg l).length ≤ j + 2 := by
                have := laid_len xid ⟨xk, xn⟩ xg (MapL.srt hM)
                split at this <;> split at this <;> omega
              have R1' := Lib.hid (hR.ext hB1' HK.out.lt)
              have M1 := Lib.hid hM1
              clear hM1 hB1 hM hR
              go_wp2
              refine ⟨rfl, ?_⟩
              go_wp2_with (refine wpList_app_ptr rfl _ _ rfl w.heap.size _ bs b2 (K1.out.m.below ((Below.refl _ _).alloc (Nat.le_refl _) _)) (by rw [← hbl]; rfl) _ rfl (Holds.alloc W1 (encP b2) _) (by omega) (by simp; omega) ?_; intro mv2 W2 hO2 hG2)
              have KP := Lib.hid (K1.out.push_m ((Below.refl _ _).alloc (Nat.le_refl _) _) M1.out (by rw [hbl]; omega) hO2 hG2)
              have hR2 := KP.out.held kk _ _ q3 q2
              have n1 := KP.out.h.get1 (fun _ => rfl) hg2 q3 rfl
              have hB2 := KP.out.below
              have r0 := (hB2.cell (p := ⟨lb, _, none⟩) hlb).trans ((hB.cell (p := ⟨lb, _, none⟩) hlb).symm.trans f0)
              have r1 := (hB2.cell (p := ⟨lb, _, none⟩) hlb).trans ((hB.cell (p := ⟨lb, _, none⟩) hlb).symm.trans f1)
              have r2 := (hB2.cell (p := ⟨lb, _, none⟩) hlb).trans ((hB.cell (p := ⟨lb, _, none⟩) hlb).symm.trans f2)
              have r3 := (hB2.cell (p := ⟨lb, _, none⟩) hlb).trans ((hB.cell (p := ⟨lb, _, none⟩) hlb).symm.trans f3)
              clear hO2 hG2 f0 f1 f2 f3 m0 m1
              refine rgn [0, 1, 2, 3, 4, 5, 6, 7, 8, 9, 10, 11, 12] [] (by kernel_rfl) ?_
              simp only [pickL, List.getD_cons_zero, List.getD_cons_succ]
              go_wp2_with fail
              refine (laid_any _ l ⟨xid, ⟨xk, xn⟩, xg⟩ W2.drew (hR2.rd.ext (Below.refl _ _).drew) (by omega)).mono ?_
              rintro e W3 ⟨es3, rfl, hO3, hB3⟩
              have hB3' : Below W2.heap.size W2 W3 := below_of_drew hB3
              have K3 := Lib.hid (KP.out.ext hB3')
              have R3 := Lib.hid (hO3.rdM encL_len fun k hk => KP.out.lt k hk)
              obtain ⟨ea, en, ec, rfl⟩ := hO3.shape
              have hsz3 := hB3'.size
              have hsz2 := hB2.size
              clear hO3 hB3 hR2
              go_wp2_with (refine wpList_app_sl rfl _ _ rfl w.heap.size _ es (.slice ea en ec) rfl (K3.out.h.below ((Below.refl _ _).alloc (Nat.le_refl _) _)) (by rw [← hel]; rfl) _ rfl (Holds.alloc W3 (encS (.slice ea en ec)) _) (by omega) (by simp; omega) ?_; intro hv2 W4 hO4 hG4)
              refine ⟨rfl, ?_⟩
              go_wp2
              go_roundw
              case rel => exact ⟨j + 1, _, _, _, _, by go_num, K3.out.push_h ((Below.refl _ _).alloc (Nat.le_refl _) _) R3.out hO4 hG4, by simp [hbl], by omega, by omega⟩
              case measure => simp [intOf]; omega
        · have hno : decide ((j : Int) < 60) = false := by simp; omega
          have HK := Lib.hid ks
          clear ks
          go_wp2
          go_meet
          case rel => exact ⟨j, S, bs, es, ls, HK.out, hbl, hj60⟩
      · have hno : decide ((j : Int) < (lp.length : Int)) = false := by simp; omega
        have HK := Lib.hid ks
        clear ks
        go_wp2
        go_meet
        case rel => exact ⟨j, S, bs, es, ls, HK.out, hbl, hj60⟩
  case rest =>
    clear KS0
    obtain ⟨j, S, bs, es, ls, ks, hbl, hj60⟩ := hcut
    have hll : ls.length = j + 1 := by rw [← ks.lb]; exact hbl
    have hel : es.length = j + 1 := by rw [ks.le]; exact hll
    obtain ⟨g, hg, _⟩ := ks.mS
    obtain ⟨g2, hg2, _⟩ := ks.hS
    obtain ⟨mc, rfl⟩ := ks.m.is hg
    obtain ⟨hc, rfl⟩ := ks.h.is hg2
    have HK := Lib.hid ks
    have hB := ks.below
    have hsz := hB.size
    clear ks
    obtain ⟨wA, rfl⟩ : ∃ x, x = wc := ⟨wc, rfl⟩
    have hcutl : ∀ l : List (Nat × V), cutL l (-1) = l := fun l => rfl
    have pick : ∀ kk, kk < j + 1 → ∃ b l v, MapL wA b l ∧ Rd wA 3 encL v l ∧ l.length ≤ j + 1 ∧ wA.cell? ⟨g, kk, none⟩ = some (.pointer (some ⟨b, 0, none⟩)) ∧ wA.cell? ⟨g2, kk, none⟩ = some v := by
      intro kk hk
      have q1 : bs[kk]? = some (bs[kk]'(by omega)) := List.getElem?_eq_getElem (by omega)
      have q2 : ls[kk]? = some (ls[kk]'(by omega)) := List.getElem?_eq_getElem (by omega)
      have q3 : es[kk]? = some (es[kk]'(by omega)) := List.getElem?_eq_getElem (by omega)
      exact ⟨_, _, _, (HK.out.maps kk _ _ q1 q2).map, (HK.out.held kk _ _ q3 q2).rd, by rw [← hbl]; exact HK.out.lens _ (List.mem_of_getElem? q2), HK.out.m.get1 (fun _ => rfl) hg q1 rfl, HK.out.h.get1 (fun _ => rfl) hg2 q3 rfl⟩
    have PK := Lib.hid pick
    have hgl : g < wA.heap.size := (HK.out.m.row.lt g hg).2
    have hgl2 : g2 < wA.heap.size := (HK.out.h.row.lt g2 hg2).2
    clear pick
    rw [hbl, hel]
    go_wp2
    go_loopw [11] (fun i wx => ∃ k : Nat, k ≤ j + 1 ∧ i = .int .i64 (k : Int) ∧ Below wA.heap.size wA wx) (fun i _ => j + 1 - (intOf i).toNat)
    case atStart => exact ⟨0, by omega, rfl, Below.refl _ _⟩
    case round =>
      obtain ⟨k, hk, rfl, hbx⟩ := hrel
      by_cases hkl : k < j + 1
      · obtain ⟨b, l, v, hM, hR, hln, m0, m1⟩ := PK.out k hkl
        obtain ⟨va, vc, rfl, hRc⟩ := hR
        have m0' := (hbx.cell (p := ⟨g, k, none⟩) hgl).trans m0
        have hMx := hM.ext hbx
        have M0 := Lib.hid hM
        clear hM m0
        go_wp2_with fail
        refine (list_l b l (-1) wr hMx (by omega)).mono ?_
        rintro e W1 ⟨al, rfl, hOa, hb1⟩
        rw [hcutl] at hOa
        obtain ⟨aa, ac, rfl, hAc⟩ := hOa.rd encL_len
        have hbx1 : Below wA.heap.size wA W1 := hbx.trans (hb1.mono hbx.size)
        have AC := Lib.hid hAc
        have RC := Lib.hid hRc
        have hM1 := Lib.hid (M0.out.ext hbx1)
        have n0 := (hb1.cell (p := ⟨g, k, none⟩) (Nat.lt_of_lt_of_le hgl hbx.size)).trans m0'
        have n1 := (hbx1.cell (p := ⟨g2, k, none⟩) hgl2).trans m1
        have hszx := hbx1.size
        clear hOa hAc hRc hMx m0'
        go_wp2
        refine rgnH [[0, 1, 2, 3, 4, 5], [6, 7, 8, 9, 10, 11, 13, 14, 15, 16, 17, 12], [18, 19]] [17, 18] [16] [⟨g2, k, none⟩] (by kernel_rfl) (by simp) ?_ ?_
        · intro p hp
          simp only [List.mem_singleton] at hp
          subst hp
          rw [n1]; rfl
        unfold seg
        simp only [pickL, List.getD_cons_zero, List.getD_cons_succ]
        go_wp2_with fail
        refine (sameEntries_any _ _ l l W1.drew (Rd.ext ⟨aa, ac, rfl, AC.out⟩ (Below.refl _ _).drew) (Rd.ext (w := wA) ⟨va, vc, rfl, RC.out⟩ hbx1.drew) (by omega) (by omega)).mono ?_
        rintro e W2 ⟨rfl, hb2⟩
        rw [decide_eq_true (rfl : l = l)]
        have hb2' : Below W1.heap.size W1 W2 := below_of_drew hb2
        have k0 := (hb2'.cell (p := ⟨g, k, none⟩) (Nat.lt_of_lt_of_le hgl hszx)).trans n0
        have k1 := (hb2'.cell (p := ⟨g2, k, none⟩) (Nat.lt_of_lt_of_le hgl2 hszx)).trans n1
        have hM2 := Lib.hid (hM1.out.ext hb2')
        go_wp2
        have SM : SameAt [⟨g2, k, none⟩] W1 W2 := by
          intro p hp
          simp only [List.mem_singleton] at hp
          subst hp
          rw [n1, k1]
        refine ⟨SM, ?_⟩
        unfold seg
        simp only [pickL, List.getD_cons_zero, List.getD_cons_succ]
        go_wp2_with fail
        refine (len_l b l W2 hM2.out).mono ?_
        rintro e W3 ⟨rfl, rfl⟩
        go_wp2
        refine ⟨SM, ?_⟩
        unfold seg
        simp only [pickL, List.getD_cons_zero, List.getD_cons_succ]
        go_wp2
        refine ⟨SM, ?_, ⟨.inl rfl, trivial⟩, ?_⟩
        · simp [chkD, dyn, Region.wanted, yielded, Act.eval, scalarV]
        have hb2A : Below wA.heap.size wA W2 := hbx1.trans (hb2'.mono hszx)
        have hszB := hb2A.size
        have hsrt := hM2.out.srt
        have hkeys : ∀ y ∈ l, y.1 < 4294967296 := hM2.out.keys
        clear SM hb2 hb1 n0 n1 hM1
        go_wp2
        go_loopw [13] (fun i wx => ∃ m : Nat, m ≤ l.length ∧ i = .int .i64 (m : Int) ∧ Below W2.heap.size W2 wx) (fun i _ => l.length - (intOf i).toNat)
        case atStart => exact ⟨0, by omega, rfl, Below.refl _ _⟩
        case round =>
          obtain ⟨m, hm, rfl, hbm⟩ := hrel
          have z0 := (hbm.cell (p := ⟨g, k, none⟩) (Nat.lt_of_lt_of_le hgl hszB)).trans k0
          have z1 := (hbm.cell (p := ⟨g2, k, none⟩) (Nat.lt_of_lt_of_le hgl2 hszB)).trans k1
          have hMm := Lib.hid (hM2.out.ext hbm)
          by_cases hml : m < l.length
          · have e1 : l[m]? = some l[m] := List.getElem?_eq_getElem hml
            have hy := hkeys l[m] (List.getElem_mem hml)
            have hlk : look l (l[m]).1 = some (l[m]).2 := (look_mem hsrt).2 (List.getElem_mem hml)
            rcases RC.out with hnil | ⟨vb, vo, rfl, hvb, hcv⟩
            · subst hnil; simp at hml
            generalize l[m] = y at e1 hy hlk
            have hbA : Below wA.heap.size wA wr := hb2A.trans (hbm.mono hszB)
            have hszm := hbA.size
            have f0 := (hbA.cell (p := ⟨vb, _, none⟩) hvb).trans (hcv m y 0 _ e1 rfl)
            have f1 := (hbA.cell (p := ⟨vb, _, none⟩) hvb).trans (hcv m y 1 _ e1 rfl)
            have f2 := (hbA.cell (p := ⟨vb, _, none⟩) hvb).trans (hcv m y 2 _ e1 rfl)
            simp only [Nat.add_zero] at f0
            have LK := Lib.hid hlk
            clear hcv e1 hlk
            have SM : ∀ X, Below wr.heap.size wr X → SameAt [⟨g, k, none⟩, ⟨g2, k, none⟩, ⟨vb, vo + m * 3, none⟩] wr X := by
              intro X hX p hp
              simp only [List.mem_cons, List.not_mem_nil, or_false] at hp
              rcases hp with rfl | rfl | rfl
              · exact hX.cell (Nat.lt_of_lt_of_le hgl hszm)
              · exact hX.cell (Nat.lt_of_lt_of_le hgl2 hszm)
              · exact hX.cell (Nat.lt_of_lt_of_le hvb hszm)
            go_wp2_with fail
            go_cut [14, 15] (fun va vo wc => ∃ blk : Nat, va = .pointer (some ⟨blk, 0, none⟩) ∧ vo = .bool true ∧ Below wr.heap.size wr wc ∧ Holds wc blk (vCells y.2))
            case first =>
              refine rgnT (.seg [0, 1, 2, 4, 5, 6, 8, 3, 7, 9, 10, 11] (.two 12 16 (.seg [13, 14, 15, 16] (.seg [17] (.seg [18] .fin))) (.seg [12] (.seg [13, 14, 15, 17] (.seg [18] .fin))))) [] [3, 7, 11] [⟨g, k, none⟩, ⟨g2, k, none⟩, ⟨vb, vo + m * 3, none⟩] (by kernel_rfl) (by simp) ?_ ?_
              · intro p hp
                simp only [List.mem_cons, List.not_mem_nil, or_false] at hp
                rcases hp with rfl | rfl | rfl
                · rw [z0]; rfl
                · rw [z1]; rfl
                · rw [f0]; rfl
              unfold pl
              simp only [pickL, List.getD_cons_zero, List.getD_cons_succ]
              go_wp2
              refine ⟨SM _ (Below.refl _ _).drew, ?_⟩
              unfold pl
              refine ⟨?_, ?_⟩
              · simp only [pickL, List.getD_cons_zero, List.getD_cons_succ]
                go_wp2_with fail
                refine (get_l b y.1 l wr.drew (hMm.out.ext (Below.refl _ _).drew) hy).mono ?_
                rintro e W3 ⟨rfl, hb3⟩
                have hb3' : Below wr.heap.size wr W3 := below_of_drew hb3
                rw [LK.out]
                simp only [gv, Option.getD_some, Option.isSome_some]
                go_wp2
                refine ⟨SM _ hb3', ?_⟩
                unfold pl
                simp only [pickL, List.getD_cons_zero, List.getD_cons_succ]
                go_wp2
                refine ⟨SM _ ?_, ?_⟩
                · (repeat' (first | (with_reducible exact Below.refl _ _) | (with_reducible assumption) | (with_reducible refine below_drewN ?_ _) | (with_reducible refine Below.drew ?_) | (with_reducible refine Below.alloc ?_ ?_ _) | (with_reducible refine Below.setCell ?_ ?_ _) | (with_reducible exact Below.size (by assumption)) | go_size))
                unfold pl
                simp only [pickL, List.getD_cons_zero, List.getD_cons_succ]
                go_wp2
                refine ⟨SM _ ?_, ?_⟩
                · (repeat' (first | (with_reducible exact Below.refl _ _) | (with_reducible assumption) | (with_reducible refine below_drewN ?_ _) | (with_reducible refine Below.drew ?_) | (with_reducible refine Below.alloc ?_ ?_ _) | (with_reducible refine Below.setCell ?_ ?_ _) | (with_reducible exact Below.size (by assumption)) | go_size))
                unfold pl
                simp only [pickL, List.getD_cons_zero, List.getD_cons_succ]
                go_wp2
                refine ⟨SM _ ?_, ?_⟩
                · (repeat' (first | (with_reducible exact Below.refl _ _) | (with_reducible assumption) | (with_reducible refine below_drewN ?_ _) | (with_reducible refine Below.drew ?_) | (with_reducible refine Below.alloc ?_ ?_ _) | (with_reducible refine Below.setCell ?_ ?_ _) | (with_reducible exact Below.size (by assumption)) | go_size))
                unfold pl
                refine ⟨rfl, ⟨.inl rfl, .inl rfl, .inl rfl, trivial⟩, ?_⟩
                go_wp2
                go_meet
                case rel =>
                  refine ⟨_, rfl, rfl, ?_, ?_⟩
                  · (repeat' (first | (with_reducible exact Below.refl _ _) | (with_reducible assumption) | (with_reducible refine below_drewN ?_ _) | (with_reducible refine Below.drew ?_) | (with_reducible refine Below.alloc ?_ ?_ _) | (with_reducible refine Below.setCell ?_ ?_ _) | (with_reducible exact Below.size (by assumption)) | go_size))
                  · first | exact Holds.alloc _ _ _ | exact (hblk.setCell (i := 0) _).setCell (i := 1) _
              · simp only [pickL, List.getD_cons_zero, List.getD_cons_succ]
                go_wp2
                refine ⟨SM _ ?_, ?_⟩
                · (repeat' (first | (with_reducible exact Below.refl _ _) | (with_reducible assumption) | (with_reducible refine below_drewN ?_ _) | (with_reducible refine Below.drew ?_) | (with_reducible refine Below.alloc ?_ ?_ _) | (with_reducible refine Below.setCell ?_ ?_ _) | (with_reducible exact Below.size (by assumption)) | go_size))
                unfold pl
                simp only [pickL, List.getD_cons_zero, List.getD_cons_succ]
                go_wp2_with fail
                refine (get_l b y.1 l _ (hMm.out.ext ((Below.refl _ _).alloc (Nat.le_refl _) _).drew) hy).mono ?_
                rintro e W3 ⟨rfl, hb3⟩
                have hb3' : Below wr.heap.size wr W3 := ((Below.refl _ _).alloc (Nat.le_refl _) _).trans ((below_of_drew hb3).mono (by simp))
                have hblk : Holds W3 wr.heap.size [.int .i64 0, .int .i64 0] := (Holds.alloc wr [.int .i64 0, .int .i64 0] _).ext (below_of_drew hb3)
                have s0 := hblk.cell (i := 0) rfl
                have s1 := hblk.cell (i := 1) rfl
                have s2 := hblk.free 0
                have s3 := hblk.free 1
                have hlt3 := hblk.lt
                rw [LK.out]
                simp only [gv, Option.getD_some, Option.isSome_some]
                go_wp2
                refine ⟨SM _ hb3', ?_⟩
                unfold pl
                simp only [pickL, List.getD_cons_zero, List.getD_cons_succ]
                go_wp2
                refine ⟨SM _ ?_, ?_⟩
                · (repeat' (first | (with_reducible exact Below.refl _ _) | (with_reducible assumption) | (with_reducible refine below_drewN ?_ _) | (with_reducible refine Below.drew ?_) | (with_reducible refine Below.alloc ?_ ?_ _) | (with_reducible refine Below.setCell ?_ ?_ _) | (with_reducible exact Below.size (by assumption)) | go_size))
                unfold pl
                simp only [pickL, List.getD_cons_zero, List.getD_cons_succ]
                go_wp2
                refine ⟨SM _ ?_, ?_⟩
                · (repeat' (first | (with_reducible exact Below.refl _ _) | (with_reducible assumption) | (with_reducible refine below_drewN ?_ _) | (with_reducible refine Below.drew ?_) | (with_reducible refine Below.alloc ?_ ?_ _) | (with_reducible refine Below.setCell ?_ ?_ _) | (with_reducible exact Below.size (by assumption)) | go_size))
                unfold pl
                refine ⟨rfl, ⟨.inl rfl, .inl rfl, .inl rfl, trivial⟩, ?_⟩
                go_wp2
                go_meet
                case rel =>
                  refine ⟨_, rfl, rfl, ?_, ?_⟩
                  · (repeat' (first | (with_reducible exact Below.refl _ _) | (with_reducible assumption) | (with_reducible refine below_drewN ?_ _) | (with_reducible refine Below.drew ?_) | (with_reducible refine Below.alloc ?_ ?_ _) | (with_reducible refine Below.setCell ?_ ?_ _) | (with_reducible exact Below.size (by assumption)) | go_size))
                  · first | exact Holds.alloc _ _ _ | exact (hblk.setCell (i := 0) _).setCell (i := 1) _
            case rest =>
              obtain ⟨blk, rfl, rfl, hbX, hvX⟩ := hcut
              obtain ⟨WX, rfl⟩ : ∃ x, x = wc := ⟨wc, rfl⟩
              have y0 := hvX.cell (i := 0) rfl
              have y1 := hvX.cell (i := 1) rfl
              have x1 := (hbX.cell (p := ⟨g2, k, none⟩) (Nat.lt_of_lt_of_le hgl2 hszm)).trans z1
              have x2 := (hbX.cell (p := ⟨vb, _, none⟩) (Nat.lt_of_lt_of_le hvb hszm)).trans f1
              have x3 := (hbX.cell (p := ⟨vb, _, none⟩) (Nat.lt_of_lt_of_le hvb hszm)).trans f2
              go_wp2_with fail
              refine rgn [0, 1, 2, 3, 4, 5, 6, 7, 8, 9, 10, 11, 12, 13, 14] [] (by kernel_rfl) ?_
              simp only [pickL, List.getD_cons_zero, List.getD_cons_succ]
              go_wp2_with fail
              refine (sameValue_any y.2 y.2 WX.drew).mono ?_
              rintro e W4 ⟨rfl, hb4⟩
              rw [decide_eq_true (rfl : y.2 = y.2)]
              go_wp2
              refine ⟨rfl, ?_⟩
              go_wp2
              go_roundw
              case rel => exact ⟨m + 1, by omega, by go_num, hbm.trans ((hbX.trans ((below_of_drew hb4).mono hbX.size)).mono hbm.size)⟩
              case measure => simp [intOf]; omega
          · obtain ⟨wC, rfl⟩ : ∃ x, x = wr := ⟨wr, rfl⟩
            have hAC : Below wA.heap.size wA wC := hb2A.trans (hbm.mono hszB)
            have h1C : Below W1.heap.size W1 wC := hb2'.trans (hbm.mono hb2'.size)
            have hszC := hAC.size
            clear hkeys
            go_wp2
            go_loopw [16] (fun i wx => ∃ p : Nat, p ≤ lp.length ∧ p ≤ 60 ∧ i = .int .i64 (p : Int) ∧ Below wC.heap.size wC wx) (fun i _ => 60 - (intOf i).toNat)
            case atStart => exact ⟨0, by omega, by omega, rfl, Below.refl _ _⟩
            case round =>
              obtain ⟨p, hp, hp60, rfl, hbp⟩ := hrel
              obtain ⟨wD, rfl⟩ : ∃ x, x = wr := ⟨wr, rfl⟩
              by_cases hpl : p < lp.length
              · by_cases hq60 : p < 60
                · have e1 : lp[p]? = some lp[p] := List.getElem?_eq_getElem hpl
                  have hxid := hid lp[p] (List.getElem_mem hpl)
                  rcases HL.out with hnil | ⟨lb, lo, rfl, hlb, hcl⟩
                  · subst hnil; simp at hpl
                  generalize lp[p] = x at e1 hxid
                  have hAD : Below wA.heap.size wA wD := hAC.trans (hbp.mono hszC)
                  have hwD : Below w.heap.size w wD := hB.trans (hAD.mono hsz)
                  have hszD := hAD.size
                  have hszw := hwD.size
                  have f0 := (hwD.cell (p := ⟨lb, _, none⟩) hlb).trans (hcl p _ 0 _ e1 rfl)
                  simp only [Nat.add_zero] at f0
                  have d0 := (hbp.cell (p := ⟨g, k, none⟩) (Nat.lt_of_lt_of_le hgl hszC)).trans z0
                  have hMd := Lib.hid (hMm.out.ext hbp)
                  clear hcl e1
                  have SM : ∀ X, Below wD.heap.size wD X → SameAt [⟨g, k, none⟩, ⟨lb, lo + p * 4, none⟩] wD X := by
                    intro X hX q hq
                    simp only [List.mem_cons, List.not_mem_nil, or_false] at hq
                    rcases hq with rfl | rfl
                    · exact hX.cell (Nat.lt_of_lt_of_le hgl hszD)
                    · exact hX.cell (Nat.lt_of_lt_of_le hlb hszw)
                  go_wp2_with fail
                  go_cut [17, 18] (fun va vo wc => vo = .bool (look l x.id).isSome ∧ Below wD.heap.size wD wc)
                  case first =>
                    refine rgnT (.seg [0, 1, 2, 4, 5, 6, 7, 3, 8] (.two 9 13 (.seg [10, 11, 12, 13] (.seg [14] (.seg [15] .fin))) (.seg [9] (.seg [10, 11, 12, 14] (.seg [15] .fin))))) [] [3, 8] [⟨g, k, none⟩, ⟨lb, lo + p * 4, none⟩] (by kernel_rfl) (by simp) ?_ ?_
                    · intro q hq
                      simp only [List.mem_cons, List.not_mem_nil, or_false] at hq
                      rcases hq with rfl | rfl
                      · rw [d0]; rfl
                      · rw [f0]; rfl
                    unfold pl
                    simp only [pickL, List.getD_cons_zero, List.getD_cons_succ]
                    go_wp2
                    refine ⟨SM _ (Below.refl _ _).drew, ?_⟩
                    unfold pl
                    refine ⟨?_, ?_⟩
                    · simp only [pickL, List.getD_cons_zero, List.getD_cons_succ]
                      go_wp2_with fail
                      refine (get_l b x.id l wD.drew (hMd.out.ext (Below.refl _ _).drew) hxid).mono ?_
                      rintro e W3 ⟨rfl, hb3⟩
                      have hb3' : Below wD.heap.size wD W3 := below_of_drew hb3
                      go_wp2
                      refine ⟨SM _ ?_, ?_⟩
                      · (repeat' (first | (with_reducible exact Below.refl _ _) | (with_reducible assumption) | (with_reducible refine below_drewN ?_ _) | (with_reducible refine Below.drew ?_) | (with_reducible refine Below.alloc ?_ ?_ _) | (with_reducible refine Below.setCell ?_ ?_ _) | (with_reducible exact Below.size (by assumption)) | go_size))
                      unfold pl
                      simp only [pickL, List.getD_cons_zero, List.getD_cons_succ]
                      go_wp2
                      refine ⟨SM _ ?_, ?_⟩
                      · (repeat' (first | (with_reducible exact Below.refl _ _) | (with_reducible assumption) | (with_reducible refine below_drewN ?_ _) | (with_reducible refine Below.drew ?_) | (with_reducible refine Below.alloc ?_ ?_ _) | (with_reducible refine Below.setCell ?_ ?_ _) | (with_reducible exact Below.size (by assumption)) | go_size))
                      unfold pl
                      simp only [pickL, List.getD_cons_zero, List.getD_cons_succ]
                      go_wp2
                      refine ⟨SM _ ?_, ?_⟩
                      · (repeat' (first | (with_reducible exact Below.refl _ _) | (with_reducible assumption) | (with_reducible refine below_drewN ?_ _) | (with_reducible refine Below.drew ?_) | (with_reducible refine Below.alloc ?_ ?_ _) | (with_reducible refine Below.setCell ?_ ?_ _) | (with_reducible exact Below.size (by assumption)) | go_size))
                      unfold pl
                      simp only [pickL, List.getD_cons_zero, List.getD_cons_succ]
                      go_wp2
                      refine ⟨SM _ ?_, ?_⟩
                      · (repeat' (first | (with_reducible exact Below.refl _ _) | (with_reducible assumption) | (with_reducible refine below_drewN ?_ _) | (with_reducible refine Below.drew ?_) | (with_reducible refine Below.alloc ?_ ?_ _) | (with_reducible refine Below.setCell ?_ ?_ _) | (with_reducible exact Below.size (by assumption)) | go_size))
                      unfold pl
                      refine ⟨rfl, ⟨.inl rfl, .inl rfl, trivial⟩, ?_⟩
                      go_wp2
                      go_meet
                      case rel =>
                        refine ⟨rfl, ?_⟩
                        · (repeat' (first | (with_reducible exact Below.refl _ _) | (with_reducible assumption) | (with_reducible refine below_drewN ?_ _) | (with_reducible refine Below.drew ?_) | (with_reducible refine Below.alloc ?_ ?_ _) | (with_reducible refine Below.setCell ?_ ?_ _) | (with_reducible exact Below.size (by assumption)) | go_size))
                    · simp only [pickL, List.getD_cons_zero, List.getD_cons_succ]
                      go_wp2
                      refine ⟨SM _ ?_, ?_⟩
                      · (repeat' (first | (with_reducible exact Below.refl _ _) | (with_reducible assumption) | (with_reducible refine below_drewN ?_ _) | (with_reducible refine Below.drew ?_) | (with_reducible refine Below.alloc ?_ ?_ _) | (with_reducible refine Below.setCell ?_ ?_ _) | (with_reducible exact Below.size (by assumption)) | go_size))
                      unfold pl
                      simp only [pickL, List.getD_cons_zero, List.getD_cons_succ]
                      go_wp2_with fail
                      refine (get_l b x.id l _ (hMd.out.ext ((Below.refl _ _).alloc (Nat.le_refl _) _).drew) hxid).mono ?_
                      rintro e W3 ⟨rfl, hb3⟩
                      have hb3' : Below wD.heap.size wD W3 := ((Below.refl _ _).alloc (Nat.le_refl _) _).trans ((below_of_drew hb3).mono (by simp))
                      have hblk : Holds W3 wD.heap.size [.int .i64 0, .int .i64 0] := (Holds.alloc wD [.int .i64 0, .int .i64 0] _).ext (below_of_drew hb3)
                      have s0 := hblk.cell (i := 0) rfl
                      have s1 := hblk.cell (i := 1) rfl
                      have s2 := hblk.free 0
                      have s3 := hblk.free 1
                      have hlt3 := hblk.lt
                      go_wp2
                      refine ⟨SM _ hb3', ?_⟩
                      unfold pl
                      simp only [pickL, List.getD_cons_zero, List.getD_cons_succ]
                      go_wp2
                      refine ⟨SM _ ?_, ?_⟩
                      · (repeat' (first | (with_reducible exact Below.refl _ _) | (with_reducible assumption) | (with_reducible refine below_drewN ?_ _) | (with_reducible refine Below.drew ?_) | (with_reducible refine Below.alloc ?_ ?_ _) | (with_reducible refine Below.setCell ?_ ?_ _) | (with_reducible exact Below.size (by assumption)) | go_size))
                      unfold pl
                      simp only [pickL, List.getD_cons_zero, List.getD_cons_succ]
                      go_wp2
                      refine ⟨SM _ ?_, ?_⟩
                      · (repeat' (first | (with_reducible exact Below.refl _ _) | (with_reducible assumption) | (with_reducible refine below_drewN ?_ _) | (with_reducible refine Below.drew ?_) | (with_reducible refine Below.alloc ?_ ?_ _) | (with_reducible refine Below.setCell ?_ ?_ _) | (with_reducible exact Below.size (by assumption)) | go_size))
                      unfold pl
                      refine ⟨rfl, ⟨.inl rfl, .inl rfl, trivial⟩, ?_⟩
                      go_wp2
                      go_meet
                      case rel =>
                        refine ⟨rfl, ?_⟩
                        · (repeat' (first | (with_reducible exact Below.refl _ _) | (with_reducible assumption) | (with_reducible refine below_drewN ?_ _) | (with_reducible refine Below.drew ?_) | (with_reducible refine Below.alloc ?_ ?_ _) | (with_reducible refine Below.setCell ?_ ?_ _) | (with_reducible exact Below.size (by assumption)) | go_size))
                  case rest =>
                    obtain ⟨rfl, hbX⟩ := hcut
                    obtain ⟨WX, rfl⟩ : ∃ x, x = wc := ⟨wc, rfl⟩
                    have hAX : Below wA.heap.size wA WX := hAD.trans (hbX.mono hszD)
                    have h1X : Below W1.heap.size W1 WX := h1C.trans ((hbp.trans (hbX.mono hbp.size)).mono h1C.size)
                    have hwX : Below w.heap.size w WX := hB.trans (hAX.mono hsz)
                    have r0 := (hbX.cell (p := ⟨lb, _, none⟩) (Nat.lt_of_lt_of_le hlb hszw)).trans f0
                    have hfo : (look l x.id).isSome = l.any (fun e => e.1 == x.id) := look_any l x.id
                    rw [hfo]
                    clear hfo SM
                    go_wp2
                    go_loopw [19, 20] (fun f i wy => ∃ n : Nat, n ≤ l.length ∧ i = .int .i64 (n : Int) ∧ f = .bool ((l.take n).any fun e => e.1 == x.id) ∧ Below WX.heap.size WX wy) (fun _ i _ => l.length - (intOf i).toNat)
                    case atStart => exact ⟨0, by omega, rfl, rfl, Below.refl _ _⟩
                    case round =>
                      obtain ⟨n, hn, rfl, rfl, hby⟩ := hrel
                      have y0 := (hby.cell (p := ⟨lb, _, none⟩) (Nat.lt_of_lt_of_le hlb hwX.size)).trans r0
                      by_cases hnl : n < l.length
                      · have e2 : l[n]? = some l[n] := List.getElem?_eq_getElem hnl
                        have htk : ∀ c : Bool, (l.take n).any (fun e => e.1 == x.id) = c → (l.take (n + 1)).any (fun e => e.1 == x.id) = (c || ((l[n]).1 == x.id)) := by
                          intro c hc
                          rw [List.take_succ_eq_append_getElem hnl, List.any_append, hc]
                          simp
                        rcases AC.out with hnil | ⟨ab, ao, rfl, hab, hca⟩
                        · subst hnil; simp at hnl
                        generalize l[n] = y at e2 htk
                        have a0 := ((h1X.trans (hby.mono h1X.size)).cell (p := ⟨ab, _, none⟩) hab).trans (hca n y 0 _ e2 rfl)
                        simp only [Nat.add_zero] at a0
                        clear hca e2
                        cases hc : (l.take n).any (fun e => e.1 == x.id) with
                        | true =>
                          have HT := Lib.hid (htk true hc)
                          clear htk hc
                          go_wp2
                          refine rgn [0, 1, 2, 3, 4, 5, 6, 7, 8, 9, 10, 11, 12, 13, 14] [12] (by kernel_rfl) ?_
                          simp only [pickL, List.getD_cons_zero, List.getD_cons_succ]
                          go_wp2
                          refine ⟨rfl, ?_⟩
                          go_wp2
                          go_roundw
                          case rel => exact ⟨n + 1, by omega, by go_num, by rw [HT.out]; rfl, hby.drew⟩
                          case measure => simp [intOf]; omega
                        | false =>
                          by_cases hyx : y.1 = x.id
                          · have hq : (((y.1 : Nat) : Int) == ((x.id : Nat) : Int)) = true := by simp [hyx]
                            have HT := Lib.hid (htk false hc)
                            have HY := Lib.hid hyx
                            clear htk hc hyx
                            go_wp2
                            refine rgn [0, 1, 2, 3, 4, 5, 6, 7, 8, 9, 10, 11, 12, 13, 14] [12] (by kernel_rfl) ?_
                            simp only [pickL, List.getD_cons_zero, List.getD_cons_succ]
                            go_wp2
                            refine ⟨rfl, ?_⟩
                            go_wp2
                            go_roundw
                            case rel => exact ⟨n + 1, by omega, by go_num, by rw [HT.out, HY.out]; simp, hby.drew⟩
                            case measure => simp [intOf]; omega
                          · have hq : (((y.1 : Nat) : Int) == ((x.id : Nat) : Int)) = false := by simp; omega
                            have HT := Lib.hid (htk false hc)
                            have HY := Lib.hid (show (y.1 == x.id) = false by simpa using hyx)
                            clear htk hc hyx
                            go_wp2
                            refine rgn [0, 1, 2, 3, 4, 5, 6, 7, 8, 9, 10, 11, 12, 13, 14] [12] (by kernel_rfl) ?_
                            simp only [pickL, List.getD_cons_zero, List.getD_cons_succ]
                            go_wp2
                            refine ⟨rfl, ?_⟩
                            go_wp2
                            go_roundw
                            case rel => exact ⟨n + 1, by omega, by go_num, by rw [HT.out, HY.out]; simp, hby.drew⟩
                            case measure => simp [intOf]; omega
                      · have hnn : n = l.length := by omega
                        rw [hnn, List.take_length]
                        cases hc : l.any (fun e => e.1 == x.id) with
                        | true =>
                          go_wp2
                          go_roundw
                          case rel => exact ⟨p + 1, by omega, by omega, by go_num, hbp.trans ((hbX.trans (hby.mono hbX.size)).mono hbp.size)⟩
                          case measure => simp [intOf]; omega
                        | false =>
                          go_wp2
                          go_roundw
                          case rel => exact ⟨p + 1, by omega, by omega, by go_num, hbp.trans ((hbX.trans (hby.mono hbX.size)).mono hbp.size)⟩
                          case measure => simp [intOf]; omega
                · have hq : decide ((p : Int) < 60) = false := by simp; omega
                  go_wp2
                  go_roundw
                  case rel => exact ⟨k + 1, by omega, by go_num, hAC.trans (hbp.mono hszC)⟩
                  case measure => simp [intOf]; omega
              · have hq : decide ((p : Int) < (lp.length : Int)) = false := by simp; omega
                go_wp2
                go_roundw
                case rel => exact ⟨k + 1, by omega, by go_num, hAC.trans (hbp.mono hszC)⟩
                case measure => simp [intOf]; omega
      · go_wp2
        go_returns
        exact ⟨rfl, hB.trans (hbx.mono hsz)⟩
end Go.Proofs.YtihmhledogppmaaDoor
