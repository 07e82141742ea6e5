/- The walk of levylaw3.TrieOrder. -/
import Derived.Test.YtihmhledogppmaaDoorOs
import Derived.Test.YtihmhledogppmaaDoorKn
import Derived.Deep.DeepCutAuto
import Derived.Deep.CutBlock
namespace Go.Proofs.YtihmhledogppmaaDoor
open Go Go.RowKit
set_option linter.unusedVariables false
set_option linter.unusedSimpArgs false

theorem own_fits {α : Type} {w : World} {base : Nat} {ty : TypeId} {s : Nat} {enc : α → List Value} {a : Option Addr} {n c : Nat} {l : List α} (h : Own w base ty s enc (.slice a n c) l) : n ≤ c := by
  rcases h.row.2 with ⟨h1, h0⟩ | ⟨g, cap, cur, h1, _, _, hn, _⟩
  · simp only [Value.slice.injEq] at h1
    omega
  · simp only [Value.slice.injEq] at h1
    obtain ⟨_, rfl, rfl⟩ := h1
    exact hn
def lenV : Value → Nat
  | .slice _ n _ => n
  | _ => 0
theorem cut_at {L : List (Nat × V)} {i : Nat} {x : Nat × V} (h : L[i]? = some x) :
    (∀ e ∈ L, e ∈ L.take i ++ L.drop (i + 1) ∨ e = x) ∧ (∀ e ∈ L.take i ++ L.drop (i + 1), e ∈ L) ∧ (Srt L → Srt (L.take i ++ L.drop (i + 1))) ∧ (L.take i ++ L.drop (i + 1)).length + 1 = L.length := by
  obtain ⟨hi, rfl⟩ := List.getElem?_eq_some_iff.1 h
  have e : L = L.take i ++ L[i] :: L.drop (i + 1) := by
    rw [← List.drop_eq_getElem_cons hi, List.take_append_drop]
  have hsub : (L.take i ++ L.drop (i + 1)).Sublist L := by
    have h1 : (L.take i ++ L.drop (i + 1)).Sublist (L.take i ++ L[i] :: L.drop (i + 1)) := List.Sublist.append_left (List.sublist_cons_self _ _) _
    rwa [← e] at h1
  refine ⟨fun y hy => ?_, fun y hy => hsub.subset hy, fun hs => List.Pairwise.sublist hsub hs, ?_⟩
  · rw [e] at hy
    rcases List.mem_append.1 hy with h1 | h1
    · exact .inl (List.mem_append_left _ h1)
    · rcases List.mem_cons.1 h1 with h2 | h2
      · exact .inr h2
      · exact .inl (List.mem_append_right _ h2)
  · rw [List.length_append, List.length_take, List.length_drop]; omega
/-- Of the keys from the k-th on (the first 40) none is q. -/
def NoK (ln : List PutL) (k q : Nat) : Prop := ∀ j x, ln[j]? = some x → k ≤ j → j < 40 → x.id ≠ q
theorem look_any' (l : List (Nat × V)) (k : Nat) : (look l k).isSome = l.any (fun e => e.1 == k) := by
  unfold look
  rw [Option.isSome_map, Bool.eq_iff_iff, List.any_eq_true]
  simp [List.find?_isSome]
/-- What the second map holds, when the noise from the k-th on may still be there. -/
def J5 (O : List (Nat × V)) (ln : List PutL) (k : Nat) (m : List (Nat × V)) : Prop := ∀ q, (∀ v, look O q = some v → look m q = some v) ∧ (look O q = none → NoK ln k q → look m q = none)
theorem J5.skip {O m : List (Nat × V)} {ln : List PutL} {k : Nat} {x : PutL} (h : J5 O ln k m) (hx : ln[k]? = some x) (hin : (look O x.id).isSome = true) : J5 O ln (k + 1) m := fun q =>
  ⟨(h q).1, fun hq hno => (h q).2 hq fun j y hj hkj hj40 => by
    by_cases hjk : j = k
    · subst hjk
      rw [hx] at hj
      cases hj
      intro e
      rw [e, hq] at hin
      cases hin
    · exact hno j y hj (by omega) hj40⟩
theorem J5.drop {O m : List (Nat × V)} {ln : List PutL} {k : Nat} {x : PutL} (h : J5 O ln k m) (hm : Srt m) (hx : ln[k]? = some x) (hin : (look O x.id).isSome = false) : J5 O ln (k + 1) (laidL x.id x.v true m) := fun q => by
  rw [look_laid hm]
  by_cases he : q = x.id
  · subst he
    rw [if_pos rfl]
    refine ⟨fun v hv => ?_, fun _ _ => rfl⟩
    rw [hv] at hin
    cases hin
  · rw [if_neg he]
    refine ⟨(h q).1, fun hq hno => (h q).2 hq fun j y hj hkj hj40 => ?_⟩
    by_cases hjk : j = k
    · subst hjk
      rw [hx] at hj
      cases hj
      exact fun e => he e.symm
    · exact hno j y hj (by omega) hj40
theorem J5.done {O m : List (Nat × V)} {ln : List PutL} {k : Nat} (h : J5 O ln k m) (hO : Srt O) (hm : Srt m) (hk : k = 40 ∨ ln.length ≤ k) : m = O :=
  eq_of_look hm hO fun q => by
    cases hq : look O q with
    | some v => exact (h q).1 v hq
    | none =>
      refine (h q).2 hq fun j y hj hkj hj40 => ?_
      have := (List.getElem?_eq_some_iff.1 hj).1
      omega
theorem rem_at (y : Int) (n : Nat) (hn : 0 < n) (hb : n ≤ 1000) : ∃ i : Nat, (wrap64 (y.tmod n + n)).tmod n = (i : Int) ∧ i < n := by
  have h1 : -(n : Int) < y.tmod n ∧ y.tmod n < n := by
    rcases Int.le_total 0 y with h | h
    · have a := Int.tmod_nonneg (n : Int) h
      have b := Int.tmod_lt_of_pos y (show (0 : Int) < n by omega)
      omega
    · have a := Int.tmod_nonneg (n : Int) (show 0 ≤ -y by omega)
      have b := Int.tmod_lt_of_pos (-y) (show (0 : Int) < n by omega)
      rw [Int.neg_tmod] at a b
      omega
  have h2 : wrap64 (y.tmod n + n) = y.tmod n + n := by
    unfold wrap64
    omega
  rw [h2]
  have a := Int.tmod_nonneg (n : Int) (show 0 ≤ y.tmod n + n by omega)
  have b := Int.tmod_lt_of_pos (y.tmod n + n) (show (0 : Int) < n by omega)
  exact ⟨((y.tmod n + n).tmod n).toNat, by omega, by omega⟩
/-- What the second map holds, when L is left of O. -/
def JO (O : List (Nat × V)) (ln : List PutL) (m L : List (Nat × V)) : Prop := ∀ q, (∀ e ∈ L, e.1 ≠ q) → (∀ v, look O q = some v → look m q = some v) ∧ (look O q = none → NoK ln 0 q → look m q = none)
theorem JO.step {O m L : List (Nat × V)} {ln : List PutL} {i : Nat} {x : Nat × V} (h : JO O ln m L) (hO : Srt O) (hm : Srt m) (hL : ∀ e ∈ L, e ∈ O) (hi : L[i]? = some x) : JO O ln (laidL x.1 x.2 false m) (L.take i ++ L.drop (i + 1)) := by
  intro q hq
  have hxO : look O x.1 = some x.2 := (look_mem hO).2 (hL x (List.mem_of_getElem? hi))
  rw [look_laid hm]
  by_cases he : q = x.1
  · subst he
    rw [if_pos rfl, hxO]
    exact ⟨fun v hv => by simpa using hv, fun h => by cases h⟩
  · rw [if_neg he]
    refine h q fun e hel => ?_
    rcases (cut_at hi).1 e hel with h1 | h1
    · exact hq e h1
    · subst h1; exact fun h2 => he h2.symm
set_option maxRecDepth 100000 in
set_option maxHeartbeats 8000000 in
theorem trieOrder_any (vl von vn : Value) (lp ln : List PutL) (lon : List Int) (w : World) (hl : Rd w 4 putCells vl lp) (hids : ∀ x ∈ lp, x.id < 4294967296) (ho : Rd w 1 (fun n => [.int .i64 n]) von lon) (hob : ∀ x ∈ lon, -9223372036854775808 ≤ x ∧ x ≤ 9223372036854775807)
    (hn : Rd w 4 putCells vn ln) (hidn : ∀ x ∈ ln, x.id < 4294967296) :
    Calls Tryd.prog 7 #[vl, von, vn] w fun e w' => e = .returned (.bool true) ∧ Below w.heap.size w w' := by
  obtain ⟨la, lc, rfl, hl⟩ := hl
  obtain ⟨oa, oc, rfl, ho⟩ := ho
  obtain ⟨na, nc, rfl, hn⟩ := hn
  have HL := Lib.hid hl
  have HO := Lib.hid ho
  have HN := Lib.hid hn
  have HOB := Lib.hid hob
  have HIL := Lib.hid hids
  have HIN := Lib.hid hidn
  clear hl ho hn hob hids hidn
  go_enter Tryd.func7, Tryd.ntmps7
  go_wp2_with fail
  refine (known_any w).mono ?_
  rintro e w1 ⟨rfl, hb1⟩
  have B1 := Lib.hid hb1
  clear hb1
  go_upto_block 0 with fail
  go_cut [7] (fun o wc => ∃ O : List (Nat × V), Own wc 0 43 3 encL o O ∧ Srt O ∧ O.length ≤ 60 ∧ (∀ e ∈ O, e.1 < 4294967296) ∧ Below w.heap.size w wc)
  case first =>
    go_wp2
    go_loopw [7, 8] (fun o i wr => ∃ (k : Nat) (O : List (Nat × V)), i = .int .i64 (k : Int) ∧ k ≤ lp.length ∧ k ≤ 60 ∧ Own wr 0 43 3 encL o O ∧ Srt O ∧ O.length ≤ k ∧ (∀ e ∈ O, e.1 < 4294967296) ∧ Below w.heap.size w wr) (fun _ i _ => 60 - (intOf i).toNat)
    case atStart => exact ⟨0, [], rfl, by omega, by omega, own_nil _ _ _ _ _, List.Pairwise.nil, by simp, by simp, B1.out⟩
    case round =>
      obtain ⟨k, O, rfl, hk, hk60, hO, hsO, hlO, hkO, hB⟩ := hrel
      by_cases hkl : k < lp.length
      · by_cases h60 : k < 60
        · have e1 : lp[k]? = some lp[k] := List.getElem?_eq_getElem hkl
          have hx := HIL.out lp[k] (List.getElem_mem hkl)
          rcases HL.out with hnil | ⟨lb, lo, rfl, hlb, hcl⟩
          · subst hnil; simp at hkl
          generalize lp[k] = x at e1 hx
          obtain ⟨xid, ⟨xk, xn⟩, xg⟩ := x
          have f0 := (hB.cell (p := ⟨lb, _, none⟩) hlb).trans (hcl k _ 0 _ e1 rfl)
          have f1 := (hB.cell (p := ⟨lb, _, none⟩) hlb).trans (hcl k _ 1 _ e1 rfl)
          have f2 := (hB.cell (p := ⟨lb, _, none⟩) hlb).trans (hcl k _ 2 _ e1 rfl)
          simp only [Nat.add_zero] at f0
          have hc := laid_any _ O ⟨xid, ⟨xk, xn⟩, false⟩ wr.drew ((hO.drew).rd encL_len) (by omega)
          have HC := Lib.hid hc
          have HS := Lib.hid (srt_laid xid ⟨xk, xn⟩ false hsO)
          have HLn := Lib.hid (laidL_len xid ⟨xk, xn⟩ false O)
          have HK : Hid (∀ e ∈ laidL xid ⟨xk, xn⟩ false O, e.1 < 4294967296) := Lib.hid (fun e he => by
            rcases (mem_laid _ _ _ _ _).1 he with ⟨_, rfl⟩ | ⟨h, _⟩
            · exact hx
            · exact hkO e h)
          have HB := Lib.hid hB
          clear hcl e1 hc hO hsO hkO hB
          go_wp2
          refine rgn [0, 1, 2, 3, 4, 5, 6, 7, 8, 9, 10, 11, 12, 13] [] (by kernel_rfl) ?_
          simp only [pickL, List.getD_cons_zero, List.getD_cons_succ]
          go_wp2_with fail
          refine HC.out.mono ?_
          rintro e w2 ⟨es, rfl, hO2, hb2⟩
          have H2 := Lib.hid (HB.out.trans ((below_of_drew hb2).mono HB.out.size))
          have O2 := Lib.hid (hO2.base (Nat.zero_le _))
          obtain ⟨ea, en, ec, rfl⟩ := hO2.shape
          clear hO2 hb2 HC HB
          go_wp2
          refine ⟨rfl, ?_⟩
          go_wp2
          go_roundw
          case rel => exact ⟨k + 1, _, by go_num, by omega, by omega, O2.out, HS.out, Nat.le_trans HLn.out (by omega), HK.out, H2.out⟩
          case measure => simp [intOf]; omega
        · have hno : decide ((k : Int) < 60) = false := by simp; omega
          have HB := Lib.hid hB
          have HOw := Lib.hid hO
          clear hB hO
          go_wp2
          go_meet
          case rel => exact ⟨O, HOw.out, hsO, by omega, hkO, HB.out⟩
      · have hno : decide ((k : Int) < (lp.length : Int)) = false := by simp; omega
        have HB := Lib.hid hB
        have HOw := Lib.hid hO
        clear hB hO
        go_wp2
        go_meet
        case rel => exact ⟨O, HOw.out, hsO, by omega, hkO, HB.out⟩
  case rest =>
    obtain ⟨O, hO, hsO, hlO, hkO, hB⟩ := hcut
    clear B1
    obtain ⟨aa, ac, rfl⟩ := hO.len
    have hcap := own_fits hO
    obtain ⟨wA, rfl⟩ : ∃ x, x = wc := ⟨wc, rfl⟩
    have RO := Lib.hid (hO.rd encL_len)
    have OW := Lib.hid hO
    have BA := Lib.hid hB
    have SO := Lib.hid hsO
    have KO := Lib.hid hkO
    clear hO hB hsO hkO
    go_wp2_with fail
    refine (empty_t wA).mono ?_
    rintro e w2 ⟨b0, rfl, hm0, hb2⟩
    have M2 := Lib.hid hm0
    have G2 := Lib.hid hb2
    clear hm0 hb2
    go_upto_block 2 with fail
    go_cut [9] (fun m wc => ∃ (ba : Nat) (ta : Tr 8), m = .pointer (some ⟨ba, 0, none⟩) ∧ MapT wc ba ta ∧ ta.ents 0 = O ∧ Below wA.heap.size wA wc)
    case first =>
      go_wp2
      go_loopw [9, 10] (fun m i wr => ∃ (k ba : Nat) (ta : Tr 8), i = .int .i64 (k : Int) ∧ k ≤ O.length ∧ m = .pointer (some ⟨ba, 0, none⟩) ∧ MapT wr ba ta ∧ ta.ents 0 = O.take k ∧ Below wA.heap.size wA wr) (fun _ i _ => O.length - (intOf i).toNat)
      case atStart => exact ⟨0, b0, _, rfl, by omega, rfl, M2.out, rfl, G2.out⟩
      case round =>
        obtain ⟨k, ba, ta, rfl, hk, rfl, hm, hta, hB⟩ := hrel
        by_cases hkl : k < O.length
        · have e1 : O[k]? = some O[k] := List.getElem?_eq_getElem hkl
          have hx := KO.out O[k] (List.getElem_mem hkl)
          have hlt := laid_take SO.out e1
          rcases RO.out with ⟨a', c', hv, hnil | ⟨vb, vo, he, hvb, hcv⟩⟩
          · subst hnil; simp at hkl
          simp only [Value.slice.injEq, true_and] at hv
          obtain ⟨rfl, rfl⟩ := hv
          subst he
          generalize O[k] = x at e1 hx hlt
          obtain ⟨xid, ⟨xk, xn⟩⟩ := x
          have f0 := (hB.cell (p := ⟨vb, _, none⟩) hvb).trans (hcv k _ 0 _ e1 rfl)
          have f1 := (hB.cell (p := ⟨vb, _, none⟩) hvb).trans (hcv k _ 1 _ e1 rfl)
          have f2 := (hB.cell (p := ⟨vb, _, none⟩) hvb).trans (hcv k _ 2 _ e1 rfl)
          simp only [Nat.add_zero] at f0
          have hc := put_t ba xid ta ⟨xk, xn⟩ wr.drew (hm.ext (Below.refl _ _).drew) (by rw [hta]; simp; omega) hx
          have HC := Lib.hid hc
          have HT := Lib.hid hta
          have HLT := Lib.hid hlt
          have HB := Lib.hid hB
          clear hcv e1 hc hta hlt hB hm
          go_wp2
          refine rgn [0, 1, 2, 3, 4, 5, 6, 7, 8, 9, 10, 11, 12] [] (by kernel_rfl) ?_
          simp only [pickL, List.getD_cons_zero, List.getD_cons_succ]
          go_wp2_with fail
          refine HC.out.mono ?_
          rintro e w3 ⟨b', t', rfl, hm', hnew, hb3⟩
          have he' := hnew.ents hx
          rw [HT.out] at he'
          have HE := Lib.hid (he'.trans HLT.out)
          have M3 := Lib.hid hm'
          have G3 := Lib.hid (HB.out.trans ((below_of_drew hb3).mono HB.out.size))
          clear he' hm' hnew hb3 HC HB HT HLT
          go_wp2
          refine ⟨rfl, ?_⟩
          go_wp2
          go_roundw
          case rel => exact ⟨k + 1, b', t', by go_num, by omega, rfl, M3.out, HE.out, G3.out⟩
          case measure => simp [intOf]; omega
        · have hno : decide ((k : Int) < (O.length : Int)) = false := by simp; omega
          obtain rfl : k = O.length := by omega
          rw [List.take_length] at hta
          have HT := Lib.hid hta
          have HB := Lib.hid hB
          have M3 := Lib.hid hm
          clear hta hB hm
          go_wp2
          go_meet
          case rel => exact ⟨ba, ta, rfl, M3.out, HT.out, HB.out⟩
    case rest =>
      obtain ⟨ba, ta, rfl, hma, hta, hB⟩ := hcut
      clear M2 G2
      obtain ⟨wB, rfl⟩ : ∃ x, x = wc := ⟨wc, rfl⟩
      have MA := Lib.hid hma
      have TA := Lib.hid hta
      have BB := Lib.hid hB
      clear hma hta hB
      go_wp2_with fail
      refine (empty_t wB).mono ?_
      rintro e w3 ⟨b1, rfl, hm0, hb3⟩
      have M3 := Lib.hid hm0
      have G3 := Lib.hid hb3
      clear hm0 hb3
      go_upto_block 4 with fail
      go_cut [11] (fun m wc => ∃ (bb : Nat) (tb : Tr 8), m = .pointer (some ⟨bb, 0, none⟩) ∧ MapT wc bb tb ∧ (tb.ents 0).length ≤ 40 ∧ (∀ q, NoK ln 0 q → look (tb.ents 0) q = none) ∧ Below wB.heap.size wB wc)
      case first =>
        go_wp2
        go_loopw [11, 12] (fun m i wr => ∃ (k bb : Nat) (tb : Tr 8), i = .int .i64 (k : Int) ∧ k ≤ ln.length ∧ k ≤ 40 ∧ m = .pointer (some ⟨bb, 0, none⟩) ∧ MapT wr bb tb ∧ (tb.ents 0).length ≤ k ∧ (∀ q, NoK ln 0 q → look (tb.ents 0) q = none) ∧ Below wB.heap.size wB wr) (fun _ i _ => 40 - (intOf i).toNat)
        case atStart => exact ⟨0, b1, _, rfl, by omega, by omega, rfl, M3.out, by simp [Tr.ents, Tr.nil], fun q _ => rfl, G3.out⟩
        case round =>
          obtain ⟨k, bb, tb, rfl, hk, hk40, rfl, hm, hlen, hno, hB⟩ := hrel
          by_cases hkl : k < ln.length
          · by_cases h40 : k < 40
            · have e1 : ln[k]? = some ln[k] := List.getElem?_eq_getElem hkl
              have hx := HIN.out ln[k] (List.getElem_mem hkl)
              rcases HN.out with hnil | ⟨nb, no, rfl, hnb, hcn⟩
              · subst hnil; simp at hkl
              generalize ln[k] = x at e1 hx
              obtain ⟨xid, ⟨xk, xn⟩, xg⟩ := x
              have hB0 : Below w.heap.size w wr := BA.out.trans ((BB.out.trans (hB.mono BB.out.size)).mono BA.out.size)
              have f0 := (hB0.cell (p := ⟨nb, _, none⟩) hnb).trans (hcn k _ 0 _ e1 rfl)
              have f1 := (hB0.cell (p := ⟨nb, _, none⟩) hnb).trans (hcn k _ 1 _ e1 rfl)
              have f2 := (hB0.cell (p := ⟨nb, _, none⟩) hnb).trans (hcn k _ 2 _ e1 rfl)
              simp only [Nat.add_zero] at f0
              have hc := put_t bb xid tb ⟨xk, xn⟩ wr.drew (hm.ext (Below.refl _ _).drew) (by omega) hx
              have HC := Lib.hid hc
              have HNo := Lib.hid hno
              have HB := Lib.hid hB
              have HE1 := Lib.hid e1
              clear hcn e1 hc hno hB hm hB0
              go_wp2
              refine rgn [0, 1, 2, 3, 4, 5, 6, 7, 8, 9, 10, 11, 12] [] (by kernel_rfl) ?_
              simp only [pickL, List.getD_cons_zero, List.getD_cons_succ]
              go_wp2_with fail
              refine HC.out.mono ?_
              rintro e w4 ⟨b', t', rfl, hm', hnew, hb4⟩
              have he' := hnew.ents hx
              have hl' : (t'.ents 0).length ≤ k + 1 := by rw [he']; exact Nat.le_trans (laidL_len _ _ _ _) (by omega)
              have hn' : ∀ q, NoK ln 0 q → look (t'.ents 0) q = none := by
                intro q hq
                rw [he', look_laid (Tr.srt tb 0), if_neg (fun e => hq k _ HE1.out (by omega) h40 e.symm)]
                exact HNo.out q hq
              have HL' := Lib.hid hl'
              have HN' := Lib.hid hn'
              have M4 := Lib.hid hm'
              have G4 := Lib.hid (HB.out.trans ((below_of_drew hb4).mono HB.out.size))
              clear he' hm' hnew hb4 HC HB HNo HE1 hl' hn'
              go_wp2
              refine ⟨rfl, ?_⟩
              go_wp2
              go_roundw
              case rel => exact ⟨k + 1, b', t', by go_num, by omega, by omega, rfl, M4.out, HL'.out, HN'.out, G4.out⟩
              case measure => simp [intOf]; omega
            · have hno' : decide ((k : Int) < 40) = false := by simp; omega
              have HNo := Lib.hid hno
              have HB := Lib.hid hB
              have M4 := Lib.hid hm
              clear hno hB hm
              go_wp2
              go_meet
              case rel => exact ⟨bb, tb, rfl, M4.out, by omega, HNo.out, HB.out⟩
          · have hno' : decide ((k : Int) < (ln.length : Int)) = false := by simp; omega
            have HNo := Lib.hid hno
            have HB := Lib.hid hB
            have M4 := Lib.hid hm
            clear hno hB hm
            go_wp2
            go_meet
            case rel => exact ⟨bb, tb, rfl, M4.out, by omega, HNo.out, HB.out⟩
      case rest =>
        obtain ⟨bb, tb, rfl, hmb, hlb, hnb, hB⟩ := hcut
        clear M3 G3
        obtain ⟨wC, rfl⟩ : ∃ x, x = wc := ⟨wc, rfl⟩
        have MB := Lib.hid hmb
        have BC := Lib.hid hB
        have JB : Hid (JO O ln (tb.ents 0) O) := Lib.hid (fun q hq => ⟨fun v hv => absurd rfl (hq _ ((look_mem SO.out).1 hv)), fun _ hno => hnb q hno⟩)
        clear hmb hnb hB
        go_upto_block 6 with fail
        go_cut [11] (fun m wc => ∃ (bb : Nat) (tb : Tr 8), m = .pointer (some ⟨bb, 0, none⟩) ∧ MapT wc bb tb ∧ (tb.ents 0).length ≤ 100 ∧ JO O ln (tb.ents 0) [] ∧ Below wC.heap.size wC wc)
        case first =>
          go_wp2
          go_loopw [11, 13, 14] (fun m lf n wr => ∃ (k bb : Nat) (tb : Tr 8) (L : List (Nat × V)) (a : Option Addr) (c : Nat), n = .int .i64 (k : Int) ∧ k + L.length ≤ O.length ∧ m = .pointer (some ⟨bb, 0, none⟩) ∧ lf = .slice a L.length c ∧ L.length ≤ c ∧ MapT wr bb tb ∧ (tb.ents 0).length + L.length ≤ 100 ∧ Rd wr 3 encL (.slice a L.length c) L ∧ Srt L ∧ (∀ e ∈ L, e ∈ O) ∧ JO O ln (tb.ents 0) L ∧ Below wC.heap.size wC wr) (fun _ lf _ _ => lenV lf)
          case atStart => exact ⟨0, bb, tb, O, aa, ac, rfl, by omega, rfl, rfl, hcap, MB.out, by omega, RO.out.ext (BB.out.trans (BC.out.mono BB.out.size)), SO.out, fun e h => h, JB.out, Below.refl _ _⟩
          case round =>
            obtain ⟨k, b2, t2, L, a, c, rfl, hkL, rfl, rfl, hLc, hm, hlen, hR, hsL, hLO, hJ, hB⟩ := hrel
            by_cases hL0 : 0 < L.length
            · have d0 : decide ((0 : Int) < (L.length : Int)) = true := by simpa using by omega
              obtain ⟨vb, vo, rfl, hvb, hcv⟩ : ∃ b off, a = some ⟨b, off, none⟩ ∧ b < wr.heap.size ∧ ∀ i x j u, L[i]? = some x → (encL x)[j]? = some u → wr.cell? ⟨b, off + i * 3 + j, none⟩ = some u := by
                obtain ⟨a', c', hv, h⟩ := hR
                simp only [Value.slice.injEq, true_and] at hv
                obtain ⟨rfl, rfl⟩ := hv
                exact h.resolve_left (fun e => by rw [e] at hL0; simp at hL0)
              obtain ⟨wD, rfl⟩ : ∃ x, x = wr := ⟨wr, rfl⟩
              have M4 := Lib.hid hm
              have R4 := Lib.hid hR
              have S4 := Lib.hid hsL
              have L4 := Lib.hid hLO
              have J4 := Lib.hid hJ
              have B4 := Lib.hid hB
              have C4 := Lib.hid hcv
              clear hm hR hsL hLO hJ hB hcv
              go_upto_if 109 with fail
              go_cut [15] (fun v wx => ∃ i : Nat, v = .int .i64 (i : Int) ∧ i < L.length ∧ wx = wD)
              case first =>
                by_cases hko : k < lon.length
                · have e1 : lon[k]? = some lon[k] := List.getElem?_eq_getElem hko
                  have hxb := HOB.out lon[k] (List.getElem_mem hko)
                  rcases HO.out with hnil | ⟨ob, oo, rfl, hob, hco⟩
                  · subst hnil; simp at hko
                  generalize lon[k] = y at e1 hxb
                  have hB0 : Below w.heap.size w wD := BA.out.trans ((BB.out.trans ((BC.out.trans (B4.out.mono BC.out.size)).mono BB.out.size)).mono BA.out.size)
                  have f0 := (hB0.cell (p := ⟨ob, _, none⟩) hob).trans (hco k _ 0 _ e1 rfl)
                  simp only [Nat.mul_one, Nat.add_zero] at f0
                  clear hco e1 hB0
                  go_wp2
                  go_meet
                  case rel =>
                    obtain ⟨i, hi, hi2⟩ := rem_at y L.length hL0 (by omega)
                    exact ⟨i, by rw [hi], hi2, rfl⟩
                · have hno' : decide ((k : Int) < (lon.length : Int)) = false := by simp; omega
                  go_wp2
                  go_meet
                  case rel => exact ⟨0, rfl, hL0, rfl⟩
              case rest =>
                obtain ⟨i, rfl, hi, hwx⟩ := hcut
                subst hwx
                have e1 : L[i]? = some L[i] := List.getElem?_eq_getElem hi
                have hxO := L4.out L[i] (List.getElem_mem hi)
                generalize L[i] = x at e1 hxO
                have hx := KO.out x hxO
                have hcutA := cut_at e1
                have hJ' := J4.out.step SO.out (Tr.srt t2 0) L4.out e1
                obtain ⟨xid, ⟨xk, xn⟩⟩ := x
                have f0 := C4.out i _ 0 _ e1 rfl
                have f1 := C4.out i _ 1 _ e1 rfl
                have f2 := C4.out i _ 2 _ e1 rfl
                simp only [Nat.add_zero] at f0
                have hc := put_t b2 xid t2 ⟨xk, xn⟩ wc.drew (M4.out.ext (Below.refl _ _).drew) (by omega) hx
                have HC := Lib.hid hc
                have HJ' := Lib.hid hJ'
                have HCA := Lib.hid hcutA
                clear e1 hxO hc hcutA hJ'
                go_wp2
                refine rgn [0, 1, 2, 3, 4, 5, 6, 7, 8, 9, 10, 11, 12] [] (by kernel_rfl) ?_
                simp only [pickL, List.getD_cons_zero, List.getD_cons_succ]
                go_wp2_with fail
                refine HC.out.mono ?_
                rintro e w4 ⟨b', t', rfl, hm', hnew, hb4⟩
                have he' := hnew.ents hx
                have hl' : (t'.ents 0).length ≤ (t2.ents 0).length + 1 := by rw [he']; exact laidL_len _ _ _ _
                have HE' := Lib.hid he'
                have HJ2 : Hid (JO O ln (t'.ents 0) (L.take i ++ L.drop (i + 1))) := Lib.hid (by rw [HE'.out]; exact HJ'.out)
                have hb4' := below_of_drew hb4
                have M5 := Lib.hid hm'
                have G5 := Lib.hid (B4.out.trans (hb4'.mono B4.out.size))
                have R5 := Lib.hid (R4.out.ext hb4')
                clear he' hm' hnew hb4 hb4' HC HE' HJ' M4 R4 B4 C4 f0 f1 f2
                go_wp2
                refine ⟨rfl, ?_⟩
                have RT := Lib.hid (rd_take R5.out i (by omega) c)
                have RD := rd_drop R5.out (i + 1) (by omega) hLc
                have hlT : (L.take i).length = i := by simp; omega
                have hlD : (L.drop (i + 1)).length = L.length - (i + 1) := by simp
                have hsum : (L.take i ++ L.drop (i + 1)).length = L.length - 1 := by have := HCA.out.2.2.2; omega
                by_cases hci : c = i + 1
                · rw [if_pos hci] at RD
                  have hn1 : L.length = i + 1 := by omega
                  have hD0 : L.drop (i + 1) = [] := List.drop_of_length_le (by omega)
                  have RD2 : Hid (Rd w4 3 encL (.slice (some ⟨vb, vo, none⟩) 0 0) (L.drop (i + 1))) := Lib.hid (by rw [hD0]; exact ⟨_, _, rfl, .inl rfl⟩)
                  subst hci
                  clear RD hD0
                  go_wp2_with (first | (refine wpList_app_part rfl _ _ rfl w4.heap.size (.slice none 0 0) [] (L.take i) (own_nil _ _ _ _ _) rfl _ _ _ rfl RT.out (by rw [hlT]; simp; omega) (Nat.le_refl _) ?_; intro v1 W1 hO1 hq1; rw [List.nil_append] at hO1; have HO1 := Lib.hid hO1; have HQ1 := Lib.hid hq1; clear hO1 hq1) | (refine wpList_app_part rfl _ _ rfl w4.heap.size v1 (L.take i) (L.drop (i + 1)) HO1.out rfl _ _ _ rfl (RD2.out.ext HQ1.out) (by rw [hlT, hlD]; omega) HQ1.out.size ?_; intro v2 W2 hO2 hq2; have HO2 := Lib.hid hO2; have HQ2 := Lib.hid (HQ1.out.trans hq2); obtain ⟨za, zc, hv2⟩ := hO2.len; subst hv2; clear hO2 hq2))
                  have HF := Lib.hid (own_fits HO2.out)
                  clear RT RD2 HO1 HQ1 R5
                  go_wp2
                  go_roundw
                  case rel => exact ⟨k + 1, b', t', L.take i ++ L.drop (i + 1), za, zc, by go_num, by omega, rfl, by first | (rw [hsum, hn1, Nat.add_sub_cancel]; done) | rw [hsum], HF.out, M5.out.ext HQ2.out, by omega, HO2.out.rd encL_len, HCA.out.2.2.1 S4.out, fun e he => L4.out e (HCA.out.2.1 e he), HJ2.out, G5.out.trans (HQ2.out.mono G5.out.size)⟩
                  case measure => simp [lenV]; omega
                · rw [if_neg hci] at RD
                  have RD2 := Lib.hid RD
                  clear RD
                  go_wp2_with (first | (refine wpList_app_part rfl _ _ rfl w4.heap.size (.slice none 0 0) [] (L.take i) (own_nil _ _ _ _ _) rfl _ _ _ rfl RT.out (by rw [hlT]; simp; omega) (Nat.le_refl _) ?_; intro v1 W1 hO1 hq1; rw [List.nil_append] at hO1; have HO1 := Lib.hid hO1; have HQ1 := Lib.hid hq1; clear hO1 hq1) | (refine wpList_app_part rfl _ _ rfl w4.heap.size v1 (L.take i) (L.drop (i + 1)) HO1.out rfl _ _ _ rfl (RD2.out.ext HQ1.out) (by rw [hlT, hlD]; omega) HQ1.out.size ?_; intro v2 W2 hO2 hq2; have HO2 := Lib.hid hO2; have HQ2 := Lib.hid (HQ1.out.trans hq2); obtain ⟨za, zc, hv2⟩ := hO2.len; subst hv2; clear hO2 hq2))
                  have HF := Lib.hid (own_fits HO2.out)
                  clear RT RD2 HO1 HQ1 R5
                  go_wp2
                  go_roundw
                  case rel => exact ⟨k + 1, b', t', L.take i ++ L.drop (i + 1), za, zc, by go_num, by omega, rfl, by first | (rw [hsum, hn1, Nat.add_sub_cancel]; done) | rw [hsum], HF.out, M5.out.ext HQ2.out, by omega, HO2.out.rd encL_len, HCA.out.2.2.1 S4.out, fun e he => L4.out e (HCA.out.2.1 e he), HJ2.out, G5.out.trans (HQ2.out.mono G5.out.size)⟩
                  case measure => simp [lenV]; omega
            · have hno' : decide ((0 : Int) < (L.length : Int)) = false := decide_eq_false (by omega)
              have : L = [] := by
                cases L with
                | nil => rfl
                | cons y l => simp at hL0
              subst this
              have HJ := Lib.hid hJ
              have HB := Lib.hid hB
              have HM := Lib.hid hm
              clear hJ hB hm
              go_wp2
              go_meet
              case rel => exact ⟨b2, t2, rfl, HM.out, Nat.le_trans (Nat.le_add_right _ _) hlen, HJ.out, HB.out⟩
        case rest =>
          obtain ⟨b2, t2, rfl, hm2, hl2, hj2, hB⟩ := hcut
          obtain ⟨wD, rfl⟩ : ∃ x, x = wc := ⟨wc, rfl⟩
          have M5 := Lib.hid hm2
          have BD := Lib.hid hB
          have J0 : Hid (J5 O ln 0 (t2.ents 0)) := Lib.hid (fun q => hj2 q (by simp))
          clear hm2 hj2 hB MB JB
          have hAD : Below wA.heap.size wA wD := BB.out.trans ((BC.out.trans (BD.out.mono BC.out.size)).mono BB.out.size)
          have hwD : Below w.heap.size w wD := BA.out.trans (hAD.mono BA.out.size)
          have HAD := Lib.hid hAD
          have HWD := Lib.hid hwD
          clear hAD hwD
          go_upto_block 8 with fail
          go_cut [11] (fun m wc => ∃ (bb : Nat) (tb : Tr 8), m = .pointer (some ⟨bb, 0, none⟩) ∧ MapT wc bb tb ∧ tb.ents 0 = O ∧ Below wD.heap.size wD wc)
          case first =>
            go_wp2
            go_loopw [11, 17] (fun m i wr => ∃ (k bb : Nat) (tb : Tr 8), i = .int .i64 (k : Int) ∧ k ≤ ln.length ∧ k ≤ 40 ∧ m = .pointer (some ⟨bb, 0, none⟩) ∧ MapT wr bb tb ∧ (tb.ents 0).length ≤ 100 ∧ J5 O ln k (tb.ents 0) ∧ Below wD.heap.size wD wr) (fun _ i _ => 40 - (intOf i).toNat)
            case atStart => exact ⟨0, b2, t2, rfl, by omega, by omega, rfl, M5.out, hl2, J0.out, Below.refl _ _⟩
            case round =>
              obtain ⟨k, b3, t3, rfl, hk, hk40, rfl, hm, hlen, hJ, hB⟩ := hrel
              obtain ⟨wE, rfl⟩ : ∃ x, x = wr := ⟨wr, rfl⟩
              by_cases hkl : k < ln.length
              · by_cases h40 : k < 40
                · have e1 : ln[k]? = some ln[k] := List.getElem?_eq_getElem hkl
                  have hx := HIN.out ln[k] (List.getElem_mem hkl)
                  rcases HN.out with hnil | ⟨nb, no, rfl, hnb, hcn⟩
                  · subst hnil; simp at hkl
                  generalize ln[k] = x at e1 hx
                  have hB0 : Below w.heap.size w wE := HWD.out.trans (hB.mono HWD.out.size)
                  have hA0 : Below wA.heap.size wA wE := HAD.out.trans (hB.mono HAD.out.size)
                  have r0 := (hB0.cell (p := ⟨nb, _, none⟩) hnb).trans (hcn k _ 0 _ e1 rfl)
                  simp only [Nat.add_zero] at r0
                  have hnbE : nb < wE.heap.size := Nat.lt_of_lt_of_le hnb hB0.size
                  have HA0 := Lib.hid hA0
                  have HE1 := Lib.hid e1
                  have HJ := Lib.hid hJ
                  have HB := Lib.hid hB
                  have HM := Lib.hid hm
                  clear hcn e1 hJ hB hm hB0 hA0
                  go_wp2
                  go_loopw [18, 19] (fun f i wy => ∃ n : Nat, n ≤ O.length ∧ i = .int .i64 (n : Int) ∧ f = .bool ((O.take n).any fun e => e.1 == x.id) ∧ Below wE.heap.size wE wy) (fun _ i _ => O.length - (intOf i).toNat)
                  case atStart => exact ⟨0, by omega, rfl, rfl, Below.refl _ _⟩
                  case round =>
                    obtain ⟨n, hn, rfl, rfl, hby⟩ := hrel
                    have y0 := (hby.cell (p := ⟨nb, _, none⟩) hnbE).trans r0
                    by_cases hnl : n < O.length
                    · have e2 : O[n]? = some O[n] := List.getElem?_eq_getElem hnl
                      have htk : ∀ c : Bool, (O.take n).any (fun e => e.1 == x.id) = c → (O.take (n + 1)).any (fun e => e.1 == x.id) = (c || ((O[n]).1 == x.id)) := by
                        intro c hc
                        rw [List.take_succ_eq_append_getElem hnl, List.any_append, hc]
                        simp
                      rcases RO.out with ⟨a', c', hv, hnil | ⟨ab, ao, he, hab, hca⟩⟩
                      · subst hnil; simp at hnl
                      simp only [Value.slice.injEq, true_and] at hv
                      obtain ⟨rfl, rfl⟩ := hv
                      subst he
                      generalize O[n] = y at e2 htk
                      have a0 := ((HA0.out.trans (hby.mono HA0.out.size)).cell (p := ⟨ab, _, none⟩) hab).trans (hca n y 0 _ e2 rfl)
                      simp only [Nat.add_zero] at a0
                      clear hca e2
                      cases hc : (O.take n).any (fun e => e.1 == x.id) with
                      | true =>
                        have HT := Lib.hid (htk true hc)
                        clear htk hc
                        go_wp2
                        refine rgn [0, 1, 2, 3, 4, 5, 6, 7, 8, 9, 10, 11, 12, 13, 14] [12] (by kernel_rfl) ?_
                        simp only [pickL, List.getD_cons_zero, List.getD_cons_succ]
                        go_wp2
                        refine ⟨rfl, ?_⟩
                        go_wp2
                        go_roundw
                        case rel => exact ⟨n + 1, by omega, by go_num, by rw [HT.out]; rfl, hby.drew⟩
                        case measure => simp [intOf]; omega
                      | false =>
                        by_cases hyx : y.1 = x.id
                        · have hq : (((y.1 : Nat) : Int) == ((x.id : Nat) : Int)) = true := by simp [hyx]
                          have HT := Lib.hid (htk false hc)
                          have HY := Lib.hid hyx
                          clear htk hc hyx
                          go_wp2
                          refine rgn [0, 1, 2, 3, 4, 5, 6, 7, 8, 9, 10, 11, 12, 13, 14] [12] (by kernel_rfl) ?_
                          simp only [pickL, List.getD_cons_zero, List.getD_cons_succ]
                          go_wp2
                          refine ⟨rfl, ?_⟩
                          go_wp2
                          go_roundw
                          case rel => exact ⟨n + 1, by omega, by go_num, by rw [HT.out, HY.out]; simp, hby.drew⟩
                          case measure => simp [intOf]; omega
                        · have hq : (((y.1 : Nat) : Int) == ((x.id : Nat) : Int)) = false := by simp; omega
                          have HT := Lib.hid (htk false hc)
                          have HY := Lib.hid (show (y.1 == x.id) = false by simpa using hyx)
                          clear htk hc hyx
                          go_wp2
                          refine rgn [0, 1, 2, 3, 4, 5, 6, 7, 8, 9, 10, 11, 12, 13, 14] [12] (by kernel_rfl) ?_
                          simp only [pickL, List.getD_cons_zero, List.getD_cons_succ]
                          go_wp2
                          refine ⟨rfl, ?_⟩
                          go_wp2
                          go_roundw
                          case rel => exact ⟨n + 1, by omega, by go_num, by rw [HT.out, HY.out]; simp, hby.drew⟩
                          case measure => simp [intOf]; omega
                    · have hnn : n = O.length := by omega
                      rw [hnn, List.take_length]
                      have hla := look_any' O x.id
                      cases hc : O.any (fun e => e.1 == x.id) with
                      | true =>
                        rw [hc] at hla
                        have HJ' := Lib.hid (HJ.out.skip HE1.out hla)
                        clear hla hc hnn
                        go_wp2
                        go_roundw
                        case rel => exact ⟨k + 1, b3, t3, by go_num, by omega, by omega, rfl, HM.out.ext hby, hlen, HJ'.out, HB.out.trans (hby.mono HB.out.size)⟩
                        case measure => simp [intOf]; omega
                      | false =>
                        rw [hc] at hla
                        have HJ' := Lib.hid (HJ.out.drop (Tr.srt t3 0) HE1.out hla)
                        have HBY := Lib.hid hby
                        have hdr := Lib.hid (drop_t b3 x.id t3 x.v wr (HM.out.ext hby) (by omega) hx)
                        clear hla hc hnn hby
                        go_wp2_with fail
                        refine hdr.out.mono ?_
                        rintro e w6 ⟨b4, t4, rfl, hm4, hnew, hb6⟩
                        have he4 := hnew.ents hx
                        have hl4 : (t4.ents 0).length ≤ 100 := by
                          rw [he4]
                          show (laidL x.id x.v true (t3.ents 0)).length ≤ 100
                          exact Nat.le_trans (laidL_len' _ _ true _) (by simpa using hlen)
                        have HJ4 : Hid (J5 O ln (k + 1) (t4.ents 0)) := Lib.hid (by rw [he4]; exact HJ'.out)
                        have M6 := Lib.hid hm4
                        have G6 := Lib.hid (HB.out.trans ((HBY.out.trans (hb6.mono HBY.out.size)).mono HB.out.size))
                        clear he4 hm4 hnew hb6 hdr HBY
                        go_wp2
                        go_roundw
                        case rel => exact ⟨k + 1, b4, t4, by go_num, by omega, by omega, rfl, M6.out, hl4, HJ4.out, G6.out⟩
                        case measure => simp [intOf]; omega
                · have hno' : decide ((k : Int) < 40) = false := by simp; omega
                  have HO5 := Lib.hid (hJ.done SO.out (Tr.srt t3 0) (.inl (by omega)))
                  have HB := Lib.hid hB
                  have HM := Lib.hid hm
                  clear hJ hB hm
                  go_wp2
                  go_meet
                  case rel => exact ⟨b3, t3, rfl, HM.out, HO5.out, HB.out⟩
              · have hno' : decide ((k : Int) < (ln.length : Int)) = false := by simp; omega
                have HO5 := Lib.hid (hJ.done SO.out (Tr.srt t3 0) (.inr (by omega)))
                have HB := Lib.hid hB
                have HM := Lib.hid hm
                clear hJ hB hm
                go_wp2
                go_meet
                case rel => exact ⟨b3, t3, rfl, HM.out, HO5.out, HB.out⟩
          case rest =>
            obtain ⟨b3, t3, rfl, hm3, he3, hB⟩ := hcut
            obtain ⟨wE, rfl⟩ : ∃ x, x = wc := ⟨wc, rfl⟩
            have MBE := Lib.hid hm3
            have hwE : Below w.heap.size w wE := HWD.out.trans (hB.mono HWD.out.size)
            have hAE : Below wA.heap.size wA wE := HAD.out.trans (hB.mono HAD.out.size)
            have hBE : Below wB.heap.size wB wE := BC.out.trans ((BD.out.trans (hB.mono BD.out.size)).mono BC.out.size)
            have MAE := Lib.hid (MA.out.ext hBE)
            have ROE := Lib.hid (RO.out.ext hAE)
            have GE := Lib.hid hwE
            have HE3 := Lib.hid he3
            clear hm3 he3 hB hwE hAE hBE M5 J0
            go_wp2_with fail
            refine (changes_same ba b3 ta t3 wE MAE.out MBE.out (alike_of (TA.out.trans HE3.out.symm))).mono ?_
            rintro e w7 ⟨rfl, hb7⟩
            have M7 := Lib.hid (MAE.out.ext hb7)
            have N7 := Lib.hid (MBE.out.ext hb7)
            have R7 := Lib.hid (ROE.out.ext hb7)
            have G7 := Lib.hid (GE.out.trans (hb7.mono GE.out.size))
            clear hb7 MAE MBE ROE GE
            go_wp2_with fail
            refine (list_l ba O (-1) w7 (by have := M7.out.l; rwa [TA.out] at this) (by omega)).mono ?_
            rintro e w8 ⟨es, rfl, ho8, hb8⟩
            rw [show cutL O (-1) = O by unfold cutL; rw [if_pos (by omega)]] at ho8
            obtain ⟨z1, z2, rfl⟩ := ho8.len
            have O8 := Lib.hid (ho8.rd encL_len)
            have N8 := Lib.hid (N7.out.ext hb8)
            have R8 := Lib.hid (R7.out.ext hb8)
            have G8 := Lib.hid (G7.out.trans (hb8.mono G7.out.size))
            clear ho8 hb8 M7 N7 R7 G7
            go_wp2_with fail
            refine (sameEntries_any _ _ O O w8 O8.out R8.out (by omega) (by omega)).mono ?_
            rintro e w9 ⟨rfl, hb9⟩
            rw [decide_eq_true (rfl : O = O)]
            have N9 := Lib.hid (N8.out.ext hb9)
            have R9 := Lib.hid (R8.out.ext hb9)
            have G9 := Lib.hid (G8.out.trans (hb9.mono G8.out.size))
            clear hb9 O8 N8 R8 G8
            go_wp2_with fail
            refine (list_l b3 O (-1) w9 (by have := N9.out.l; rwa [HE3.out] at this) (by omega)).mono ?_
            rintro e w10 ⟨es, rfl, ho10, hb10⟩
            rw [show cutL O (-1) = O by unfold cutL; rw [if_pos (by omega)]] at ho10
            obtain ⟨z3, z4, rfl⟩ := ho10.len
            have O10 := Lib.hid (ho10.rd encL_len)
            have R10 := Lib.hid (R9.out.ext hb10)
            have G10 := Lib.hid (G9.out.trans (hb10.mono G9.out.size))
            clear ho10 hb10 N9 R9 G9
            go_wp2_with fail
            refine (sameEntries_any _ _ O O w10 O10.out R10.out (by omega) (by omega)).mono ?_
            rintro e w11 ⟨rfl, hb11⟩
            rw [decide_eq_true (rfl : O = O)]
            have G11 := Lib.hid (G10.out.trans (hb11.mono G10.out.size))
            clear hb11
            go_wp2
            go_returns
            exact ⟨rfl, G11.out⟩
end Go.Proofs.YtihmhledogppmaaDoor
