/- The walks of levyref3.Of, of the reference's Touched; what both Toucheds tell is the same. -/
import Derived.Test.YtmhhejpokgdjoaaJc
import Derived.Test.YtmhhejpokgdjoaaRj
import Derived.Test.YtmhhejpokgdjoaaRt
import Derived.Test.YtmhhejpokgdjoaaRe
import Derived.Test.YtmhhejpokgdjoaaTkX
import Derived.Test.YtmhhejpokgdjoaaTkX
namespace Go.Proofs.Ytmhhejpokgdjoaa
open Go Go.RowKit
set_option linter.unusedVariables false
set_option linter.unusedSimpArgs false
attribute [local go_sem] Oper.semAt_some

theorem rput_h (b id : Nat) (v : V) (l : List E) (w : World) (h : RefL w b l) (hid : id < 4294967296) (hl : l.length ≤ 1000000) :
    Calls Try.prog 70 #[.pointer (some ⟨b, 0, none⟩), .int .u32 (id : Nat), .agg #[.int .i64 v.k, .int .i64 v.n]] w fun e w' => ∃ b', e = .returned (.pointer (some ⟨b', 0, none⟩)) ∧ RefL w' b' (laidL id v false l) ∧ Below w.heap.size w w' := by
  obtain ⟨L, h1, rfl, h3⟩ := h
  rw [List.length_map] at hl
  have hal : Below w.heap.size w (w.alloc (.cells #[.int .i64 v.k, .int .i64 v.n] 50)) := (Below.refl _ _).alloc (Nat.le_refl _) _
  have HP := Lib.hid (putAs_r b id v 0 L _ (h1.ext hal) hid (by omega))
  have HAL := Lib.hid hal
  have HE := Lib.hid (putR_ents h3 id v 0)
  have HS := Lib.hid (putR_srt h3 id v 0)
  clear h1 h3 hal
  go_enter Try.func70, Try.ntmps70
  go_wp2_with fail
  refine HP.out.mono ?_
  rintro e w1 ⟨b', rfl, hr, hb, _⟩
  have HR := Lib.hid hr
  have HB := Lib.hid (HAL.out.trans (hb.mono HAL.out.size))
  clear hr hb HP
  go_wp2
  go_returns
  exact ⟨b', rfl, ⟨_, HR.out, HE.out, HS.out⟩, HB.out⟩
set_option maxRecDepth 100000 in
set_option maxHeartbeats 1600000 in
theorem of_any (a : Option Addr) (c N : Nat) (l : List E) (w : World) (hr : Rd w 3 encL (.slice a l.length c) l) (hid : ∀ x ∈ l, x.1 < 4294967296) (hN1 : N ≤ l.length) (hN2 : N ≤ 200) :
    Calls Try.prog 49 #[.slice a N c] w fun e w' => ∃ b, e = .returned (.pointer (some ⟨b, 0, none⟩)) ∧ RefL w' b (buildK l N) ∧ Below w.heap.size w w' := by
  have HR := Lib.hid hr
  have HID := Lib.hid hid
  clear hr hid
  go_enter Try.func49, Try.ntmps49
  go_wp2_with fail
  refine (rempty_h w).mono ?_
  rintro e w1 ⟨rfl, hm, hb1⟩
  have M1 := Lib.hid (refL_nils hm)
  have B1 := Lib.hid hb1
  clear hm hb1
  go_wp2
  go_loopw [3, 4] (fun m i wr => ∃ (k bm : Nat), i = .int .i64 (k : Int) ∧ k ≤ N ∧ m = .pointer (some ⟨bm, 0, none⟩) ∧ RefL wr bm (buildK l k) ∧ Below w.heap.size w wr) (fun _ i _ => N - (intOf i).toNat)
  case atStart => exact ⟨0, _, rfl, by omega, rfl, M1.out, B1.out⟩
  case round =>
    obtain ⟨k, bm, rfl, hk, rfl, hm, hB⟩ := hrel
    by_cases hkn : k < N
    · have hkl : k < l.length := by omega
      have e2 : l[k]? = some l[k] := List.getElem?_eq_getElem hkl
      have hx := HID.out l[k] (List.getElem_mem hkl)
      have hsucc := buildK_succ e2
      obtain ⟨a', c', hs, hnil | ⟨g, o, rfl, hg, hcl⟩⟩ := HR.out
      · subst hnil; simp at hkl
      simp only [Value.slice.injEq, true_and] at hs
      obtain ⟨rfl, rfl⟩ := hs
      generalize l[k] = x at e2 hx hsucc
      obtain ⟨xi, ⟨xk, xn⟩⟩ := x
      have f0 := (hB.cell (p := ⟨g, _, none⟩) hg).trans (hcl k _ 0 _ e2 rfl)
      have f1 := (hB.cell (p := ⟨g, _, none⟩) hg).trans (hcl k _ 1 _ e2 rfl)
      have f2 := (hB.cell (p := ⟨g, _, none⟩) hg).trans (hcl k _ 2 _ e2 rfl)
      simp only [Nat.add_zero] at f0
      have hc := rput_h bm xi ⟨xk, xn⟩ (buildK l k) wr.drew (hm.ext (Below.refl _ _).drew) hx (by have := buildK_len l k; omega)
      have HC := Lib.hid hc
      have HS := Lib.hid hsucc
      have HB := Lib.hid hB
      clear hcl e2 hc hsucc hB hm
      go_wp2
      refine rgn [0, 1, 2, 3, 4, 5, 6, 7, 8, 9, 10, 11, 12] [] (by kernel_rfl) ?_
      simp only [pickL, List.getD_cons_zero, List.getD_cons_succ]
      go_wp2_with fail
      refine HC.out.mono ?_
      rintro e w3 ⟨b', rfl, hm', hb3⟩
      have M3 := Lib.hid hm'
      have G3 := Lib.hid (HB.out.trans ((below_of_drew hb3).mono HB.out.size))
      clear hm' hb3 HC HB
      go_wp2
      try refine ⟨rfl, ?_⟩
      go_wp2
      go_roundw
      case rel => exact ⟨k + 1, b', by go_num, by omega, rfl, by rw [HS.out]; exact M3.out, G3.out⟩
      case measure => simp [intOf]; omega
    · have hno : decide ((k : Int) < (N : Int)) = false := by simp; omega
      have hkN : k = N := by omega
      have HB := Lib.hid hB
      have hm2 : RefL wr bm (buildK l N) := by rw [← hkN]; exact hm
      have M3 := Lib.hid hm2
      clear hB hm hm2
      go_wp2
      go_returns
      exact ⟨bm, rfl, M3.out, HB.out⟩
/-- The plain law of Diff's keys. -/
theorem keyD_difL {la lb : List E} (ha : Srt la) (hb : Srt lb) (ia : ∀ e ∈ la, e.1 < 4294967296) (ib : ∀ e ∈ lb, e.1 < 4294967296) : KeyD la lb ((difL la lb).map (·.1)) := by
  obtain ⟨hs, hm⟩ := difL_spec _ la lb (Nat.le_refl _) ha hb
  refine ⟨List.pairwise_map.2 hs, ?_, ?_⟩
  · intro k
    simp only [List.mem_map]
    constructor
    · rintro ⟨c, hc, rfl⟩
      have hd := (hm c).1 hc
      refine ⟨?_, by rw [← hd.1, ← hd.2.1]; exact hd.2.2⟩
      rcases difP_key hd with ⟨e, he, h⟩ | ⟨e, he, h⟩
      · rw [← h]; exact ia e he
      · rw [← h]; exact ib e he
    · rintro ⟨h1, h2⟩
      exact ⟨(k, look la k, look lb k), (hm _).2 ⟨rfl, rfl, h2⟩, rfl⟩
  · rw [List.length_map]
    exact difL_len_h la lb
where
  difL_len_n : ∀ (n : Nat) (a b : List (Nat × V)), a.length + b.length ≤ n → (difL a b).length ≤ a.length + b.length
  | n, [], [], _ => by simp [difL]
  | 0, x :: a, b, hn => by simp at hn
  | 0, [], y :: b, hn => by simp at hn
  | n + 1, x :: a, [], hn => by
    have := difL_len_n n a [] (by simp at hn ⊢; omega)
    rw [show difL (x :: a) [] = (x.1, some x.2, none) :: difL a [] by simp [difL]]
    simp at this ⊢
    omega
  | n + 1, [], y :: b, hn => by
    have := difL_len_n n [] b (by simp at hn ⊢; omega)
    rw [show difL [] (y :: b) = (y.1, none, some y.2) :: difL [] b by simp [difL]]
    simp at this ⊢
    omega
  | n + 1, x :: a, y :: b, hn => by
    have h1 := difL_len_n n a (y :: b) (by simp at hn ⊢; omega)
    have h2 := difL_len_n n (x :: a) b (by simp at hn ⊢; omega)
    have h3 := difL_len_n n a b (by simp at hn ⊢; omega)
    rw [difL]
    simp only [List.length_cons] at h1 h2 h3 ⊢
    split
    · simp only [List.length_cons]; omega
    · split
      · simp only [List.length_cons]; omega
      · split
        · omega
        · simp only [List.length_cons]; omega
  difL_len_h (a b : List (Nat × V)) : (difL a b).length ≤ a.length + b.length := difL_len_n _ a b (Nat.le_refl _)
theorem verP_mem {ps : List (Nat × List E)} {i : Nat} {n : Int} {p : Nat × List E} (h : verP ps i n = some p) : p ∈ ps := by
  unfold verP at h
  split at h
  · cases h
  · exact List.mem_of_getElem? h
theorem verP_map {ps qs : List (Nat × List E)} {i : Nat} {n : Int} (h : ps.map (·.2) = qs.map (·.2)) : (verP ps i n).map (·.2) = (verP qs i n).map (·.2) := by
  have hl : ps.length = qs.length := by have := congrArg List.length h; simpa using this
  unfold verP
  rw [hl]
  split
  · rfl
  · rw [← List.getElem?_map, ← List.getElem?_map, h]
/-- Of like versions the same is touched. -/
theorem touchH_eq {ps qs : List (Nat × List E)} {i : Nat} {na nb : Int} {xs ys : List Nat} (h : ps.map (·.2) = qs.map (·.2)) (h1 : TouchH ps i na nb xs) (h2 : TouchH qs i na nb ys) : xs = ys := by
  have ea := verP_map (i := i) (n := na) h
  have eb := verP_map (i := i) (n := nb) h
  unfold TouchH at h1 h2
  cases p1 : verP ps i na with
  | none =>
    rw [p1] at h1 ea
    cases q1 : verP qs i na with
    | none => rw [q1] at h2; simp only at h1 h2; rw [h1, h2]
    | some q => rw [q1] at ea; cases ea
  | some p =>
    rw [p1] at h1 ea
    cases q1 : verP qs i na with
    | none => rw [q1] at ea; cases ea
    | some q =>
      rw [q1] at h2 ea
      simp only [Option.map_some, Option.some.injEq] at ea
      cases p2 : verP ps i nb with
      | none =>
        rw [p2] at h1 eb
        cases q2 : verP qs i nb with
        | none => rw [q2] at h2; simp only at h1 h2; rw [h1, h2]
        | some q' => rw [q2] at eb; cases eb
      | some p' =>
        rw [p2] at h1 eb
        cases q2 : verP qs i nb with
        | none => rw [q2] at eb; cases eb
        | some q' =>
          rw [q2] at h2 eb
          simp only [Option.map_some, Option.some.injEq] at eb
          simp only at h1 h2
          rw [ea, eb] at h1
          exact srtN_ext h1.srt h2.srt fun k => by rw [h1.mem, h2.mem]
set_option maxRecDepth 100000 in
set_option maxHeartbeats 1600000 in
theorem rtouched_any (b : Nat) (ps : List (Nat × List E)) (i : Nat) (na nb : Int) (w : World) (hp : RHistP w b ps i) :
    Calls Try.prog 64 #[.pointer (some ⟨b, 0, none⟩), .int .i64 na, .int .i64 nb] w fun e w' => ∃ es xs, TouchH ps i na nb xs ∧ e = .returned es ∧ Own w' w.heap.size 48 1 encK es xs ∧ Below w.heap.size w w' := by
  have HP := Lib.hid hp
  clear hp
  go_enter Try.func64, Try.ntmps64
  go_wp2_with fail
  refine (rversion_any b ps i na w HP.out).mono ?_
  rintro e w1 ⟨hb1, hor1⟩
  have HB1 := Lib.hid hb1
  clear hb1
  rcases hor1 with ⟨p, hp1, rfl⟩ | ⟨hp1, rfl⟩
  · have E1 := Lib.hid hp1
    clear hp1
    go_wp2_with fail
    refine (rversion_any b ps i nb w1 (HP.out.ext HB1.out)).mono ?_
    rintro e w2 ⟨hb2, hor2⟩
    have HB2 := Lib.hid (HB1.out.trans (hb2.mono HB1.out.size))
    clear hb2
    rcases hor2 with ⟨q, hq1, rfl⟩ | ⟨hq1, rfl⟩
    · have E2 := Lib.hid hq1
      clear hq1
      obtain ⟨La, ra, ea, sa⟩ := (HP.out.ext HB2.out).maps p (verP_mem E1.out)
      obtain ⟨Lb, rb, eb, sb⟩ := (HP.out.ext HB2.out).maps q (verP_mem E2.out)
      have la := HP.out.small p (verP_mem E1.out)
      have lb := HP.out.small q (verP_mem E2.out)
      have hkd := keyD_difL (srtE_iff.2 sa) (srtE_iff.2 sb) (fun e he => by obtain ⟨x, hx, rfl⟩ := List.mem_map.1 he; exact ra.ids x hx) (fun e he => by obtain ⟨x, hx, rfl⟩ := List.mem_map.1 he; exact rb.ids x hx)
      have hla : La.length ≤ 200 := by rw [← ea, List.length_map] at la; exact la
      have hlb : Lb.length ≤ 200 := by rw [← eb, List.length_map] at lb; exact lb
      have hth : TouchH ps i na nb ((difL (La.map eR) (Lb.map eR)).map (·.1)) := by
        unfold TouchH
        rw [E1.out, E2.out]
        show KeyD p.2 q.2 _
        rw [← ea, ← eb]
        exact hkd
      have hlen : (difL (La.map eR) (Lb.map eR)).length ≤ 400 := by
        have := hkd.len
        rw [List.length_map] at this
        have h1 : (La.map entR).length ≤ 200 := by rw [List.length_map]; exact hla
        have h2 : (Lb.map entR).length ≤ 200 := by rw [List.length_map]; exact hlb
        exact Nat.le_trans this (by omega)
      have hdf := rdiff_any p.1 q.1 La Lb w2 ra rb (by omega) (by omega)
      generalize difL (La.map eR) (Lb.map eR) = D at hth hlen hdf
      have HDF := Lib.hid hdf
      clear hdf ra rb hkd
      have HTH := Lib.hid hth
      clear hth
      go_wp2_with fail
      refine HDF.out.mono ?_
      rintro e w3 ⟨es, rfl, hO, hb3⟩
      obtain ⟨ea, ec, rfl, _⟩ := own_len hO
      have HO := Lib.hid (hO.rd encD_len)
      have HB3 := Lib.hid (HB2.out.trans (hb3.mono HB2.out.size))
      obtain ⟨i0, hi, hz0, hz1, hz2⟩ := info_parts info_u32
      clear hO hb3
      go_wp2
      go_loopw [11, 13] (fun o k wr => ∃ m : Nat, m ≤ D.length ∧ k = .int .i64 (m : Int) ∧ Own wr w3.heap.size 48 1 encK o ((D.map (·.1)).take m) ∧ Below w3.heap.size w3 wr) (fun _ k _ => D.length - (intOf k).toNat)
      case atStart => exact ⟨0, by omega, rfl, own_nil _ _ _ _ _, Below.refl _ _⟩
      case round =>
        obtain ⟨m, hm, rfl, hO2, hb⟩ := hrel
        obtain ⟨oa, oc, rfl, _⟩ := own_len hO2
        by_cases hlt : m < D.length
        · have e1 : D[m]? = some D[m] := List.getElem?_eq_getElem hlt
          have hlt' : m < (D.map (·.1)).length := by rw [List.length_map]; exact hlt
          have htk : (D.map (·.1)).take (m + 1) = (D.map (·.1)).take m ++ [D[m].1] := by
            rw [List.take_succ_eq_append_getElem hlt', List.getElem_map]
          have htl : ((D.map (·.1)).take m).length = m := by rw [List.length_take]; omega
          rw [htl] at hO2 ⊢
          generalize D[m] = x at e1 htk
          obtain ⟨xi, x2⟩ := x
          obtain ⟨g, o, rfl, hg, hcl⟩ := rd_elt (HO.out.ext hb) e1
          have f0 := hcl 0 _ rfl
          simp only [Nat.add_zero] at f0
          have hrow : Holds (wr.alloc (.cells (encK xi).toArray 48)) wr.heap.size (encK xi) := Holds.alloc wr (encK xi) _
          have hal : Below wr.heap.size wr (wr.alloc (.cells (encK xi).toArray 48)) := (Below.refl _ _).alloc (Nat.le_refl _) _
          have HROW := Lib.hid hrow
          have HO2 := Lib.hid (hO2.below hal)
          have HTK := Lib.hid htk
          have HTL := Lib.hid htl
          have HB := Lib.hid (hb.trans (hal.mono hb.size))
          have hz3 := hb.size
          clear hrow hal hO2 hb hcl htk htl e1
          go_wp2_with (refine wpList_append_one rfl _ _ _ rfl w3.heap.size 48 i0 _ 1 4 und_u32s hi hz0 hz1 hz2 rfl (by omega) encK _ ((D.map (·.1)).take m) xi rfl (by exact HO2.out) wr.heap.size rfl (by exact HROW.out) rfl (by intro u hu; simp only [encK, List.mem_singleton] at hu; subst hu; rfl) (by rw [HTL.out]; simp only [maxLen]; omega) (by rw [HTL.out]; omega) (by simp; omega) ?_; intro v' W hO3 hG; have HO3 := Lib.hid hO3; have HW3 := Lib.hid (HB.out.trans (hG.below (B := w3.heap.size) (by simp; omega) HO2.out.block)); obtain ⟨va, vn, vc, hv⟩ := hO3.shape; subst hv; clear hO3 hG)
          go_roundw
          case rel => exact ⟨m + 1, by omega, by go_num, by rw [HTK.out]; exact HO3.out, HW3.out⟩
          case measure => simp [intOf]; omega
        · have hall : (D.map (·.1)).take m = D.map (·.1) := List.take_of_length_le (by rw [List.length_map]; omega)
          have hno : decide ((m : Int) < (D.length : Int)) = false := by simp; omega
          rw [hall] at hO2 ⊢
          have HO2 := Lib.hid (hO2.base HB3.out.size)
          have HB := Lib.hid (HB3.out.trans (hb.mono HB3.out.size))
          clear hO2 hb hall
          go_wp2
          go_returns
          exact ⟨_, _, HTH.out, rfl, HO2.out, HB.out⟩
    · have hth : TouchH ps i na nb [] := by unfold TouchH; rw [E1.out, hq1]
      have HT := Lib.hid hth
      clear hq1 hth
      go_wp2
      go_returns
      exact ⟨_, [], HT.out, rfl, own_nil _ _ _ _ _, HB2.out⟩
  · have hth : TouchH ps i na nb [] := by unfold TouchH; rw [hp1]
    have HT := Lib.hid hth
    clear hp1 hth
    go_wp2_with fail
    refine (rversion_any b ps i nb w1 (HP.out.ext HB1.out)).mono ?_
    rintro e w2 ⟨hb2, hor2⟩
    have HB2 := Lib.hid (HB1.out.trans (hb2.mono HB1.out.size))
    clear hb2
    rcases hor2 with ⟨q, hq1, rfl⟩ | ⟨hq1, rfl⟩
    all_goals
      clear hq1
      go_wp2
      go_returns
      exact ⟨_, [], HT.out, rfl, own_nil _ _ _ _ _, HB2.out⟩
end Go.Proofs.Ytmhhejpokgdjoaa
