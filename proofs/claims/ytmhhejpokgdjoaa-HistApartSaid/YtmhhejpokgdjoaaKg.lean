/- The walks of levylaw11.sameAll, plays. -/
import Derived.Test.YtmhhejpokgdjoaaKf
namespace Go.Proofs.Ytmhhejpokgdjoaa
open Go Go.RowKit
set_option linter.unusedVariables false
set_option linter.unusedSimpArgs false

/-- The slice es reads as slices that read as vs. -/
def AllR (w : World) (es : Value) (vs : List (List E)) : Prop :=
  ∃ a c, es = .slice a vs.length c ∧ vs.length ≤ c ∧ ∀ k l, vs[k]? = some l → ∃ g o sv, a = some ⟨g, o, none⟩ ∧ g < w.heap.size ∧ w.cell? ⟨g, o + k, none⟩ = some sv ∧ RdF w sv l
theorem cell_lt {w : World} {a : Addr} {v : Value} (h : w.cell? a = some v) : a.block < w.heap.size := by
  apply Classical.byContradiction
  intro hn
  unfold World.cell? at h
  rw [Array.getElem?_eq_none (by simpa using hn)] at h
  cases h
theorem own_rdf {w : World} {base : Nat} {ty : TypeId} {v : Value} {l : List E} (h : Own w base ty 3 encL v l) : RdF w v l := by
  obtain ⟨a, c, he, hf⟩ := own_fits h
  subst he
  exact ⟨a, c, rfl, hf, h.rd encL_len⟩
theorem AllV.r {w : World} {base : Nat} {es : Value} {vs : List (List E)} (h : AllV w base es vs) : AllR w es vs := by
  obtain ⟨a, c, rfl, hf⟩ := h.len
  refine ⟨a, c, rfl, hf, fun k l hk => ?_⟩
  obtain ⟨g, sv, h1, h2, h3⟩ := h.at_ hk
  exact ⟨g, 0, sv, h1, cell_lt h2, by rw [Nat.zero_add]; exact h2, own_rdf h3⟩
theorem AllR.ext {w w' : World} {es : Value} {vs : List (List E)} (h : AllR w es vs) (hb : Below w.heap.size w w') : AllR w' es vs := by
  obtain ⟨a, c, h1, h2, h3⟩ := h
  refine ⟨a, c, h1, h2, fun k l hk => ?_⟩
  obtain ⟨g, o, sv, g1, g2, g3, g4⟩ := h3 k l hk
  exact ⟨g, o, sv, g1, Nat.lt_of_lt_of_le g2 hb.size, (hb.cell (p := ⟨g, _, none⟩) g2).trans g3, g4.ext hb⟩
theorem AllR.drop {w : World} {a : Option Addr} {n c : Nat} {vs : List (List E)} (h : AllR w (.slice a n c) vs) (m : Nat) (hm : m < vs.length) :
    n = vs.length ∧ ∃ g o, a = some ⟨g, o, none⟩ ∧ vs.length ≤ c ∧ AllR w (.slice (some ⟨g, o + m, none⟩) (vs.length - m) (c - m)) (vs.drop m) := by
  obtain ⟨a', c', hs, h2, h3⟩ := h
  simp only [Value.slice.injEq] at hs
  obtain ⟨rfl, rfl, rfl⟩ := hs
  obtain ⟨g, o, sv, h4, _⟩ := h3 m vs[m] (List.getElem?_eq_getElem hm)
  subst h4
  refine ⟨rfl, g, o, rfl, h2, _, _, by rw [List.length_drop], by rw [List.length_drop]; omega, fun k l hk => ?_⟩
  rw [List.getElem?_drop] at hk
  obtain ⟨g', o', sv', q1, q2, q3, q4⟩ := h3 (m + k) l hk
  cases q1
  exact ⟨g, o + m, sv', rfl, q2, by rw [Nat.add_assoc]; exact q3, q4⟩
set_option maxRecDepth 100000 in
set_option maxHeartbeats 1600000 in
theorem sameAll_any (e1 e2 : Value) (vs us : List (List E)) (w : World) (h1 : AllR w e1 vs) (h2 : AllR w e2 us) (hs : ∀ v ∈ vs, v.length ≤ 200) (hs2 : ∀ v ∈ us, v.length ≤ 200) (hl1 : vs.length ≤ 100) (hl2 : us.length ≤ 100) :
    Calls Try.prog 20 #[e1, e2] w fun e w' => e = .returned (.bool (decide (vs = us))) ∧ Below w.heap.size w w' := by
  obtain ⟨a1, c1, rfl, f1, h1⟩ := h1
  obtain ⟨a2, c2, rfl, f2, h2⟩ := h2
  by_cases hlen : vs.length = us.length
  · have HL := Lib.hid hlen
    have H1 := Lib.hid h1
    have H2 := Lib.hid h2
    rw [← hlen]
    clear hlen h1 h2
    go_enter Try.func20, Try.ntmps20
    go_wp2
    go_loopw [5] (fun i wr => ∃ k : Nat, k ≤ vs.length ∧ i = .int .i64 (k : Int) ∧ vs.take k = us.take k ∧ Below w.heap.size w wr) (fun i _ => vs.length - (intOf i).toNat)
    case atStart => exact ⟨0, by omega, rfl, rfl, Below.refl _ _⟩
    case round =>
      obtain ⟨k, hk, rfl, htk, hb⟩ := hrel
      have HT := Lib.hid htk
      clear htk
      by_cases hlt : k < vs.length
      · have e1 : vs[k]? = some vs[k] := List.getElem?_eq_getElem hlt
        have e2 : us[k]? = some (us[k]'(by have := HL.out; omega)) := List.getElem?_eq_getElem (by have := HL.out; omega)
        have m1 := hs _ (List.getElem_mem hlt)
        have m2 := hs2 _ (List.getElem_mem (show k < us.length by have := HL.out; omega))
        generalize vs[k] = x at e1 m1
        generalize (us[k]'(by have := HL.out; omega)) = y at e2 m2
        obtain ⟨g1, o1', s1, rfl, l1, c1', r1⟩ := H1.out k x e1
        obtain ⟨g2, o2', s2, rfl, l2, c2', r2⟩ := H2.out k y e2
        have k1 := (hb.cell (p := ⟨g1, _, none⟩) l1).trans c1'
        have k2 := (hb.cell (p := ⟨g2, _, none⟩) l2).trans c2'
        obtain ⟨y1, y2, he1, _, r1⟩ := r1
        obtain ⟨y3, y4, he2, _, r2⟩ := r2
        subst he1 he2
        have hse := sameEntries_any _ _ x y wr.drew (r1.ext hb.drew) (r2.ext hb.drew) (by omega) (by omega)
        have HSE0 := Lib.hid hse
        have E1 := Lib.hid e1
        have E2 := Lib.hid e2
        have HB := Lib.hid hb
        clear hse e1 e2 hb c1' c2' r1 r2
        by_cases hxy : x = y
        · subst hxy
          have heq : vs.take (k + 1) = us.take (k + 1) := by
            rw [List.take_add_one, List.take_add_one, HT.out, E1.out, E2.out]
          have HQ := Lib.hid heq
          have hse := HSE0.out
          rw [decide_eq_true rfl] at hse
          have HSE := Lib.hid hse
          clear heq hse HSE0
          go_wp2
          refine rgn [0, 1, 2, 3, 4, 5, 6, 7, 8, 9] [] (by kernel_rfl) ?_
          simp only [pickL, List.getD_cons_zero, List.getD_cons_succ]
          go_wp2_with (go_at_call 16; refine HSE.out.mono ?_; rintro e w' ⟨rfl, hb2⟩)
          refine ⟨rfl, ?_⟩
          go_wp2
          go_roundw
          case rel => exact ⟨k + 1, by omega, by go_num, HQ.out, HB.out.trans ((below_of_drew hb2).mono HB.out.size)⟩
          case measure => simp [intOf]; omega
        · have hno := Lib.hid (decide_eq_false (fun e : vs = us => hxy (by have a := E1.out; have b := E2.out; rw [e, b] at a; exact (Option.some.inj a).symm)))
          have hse := HSE0.out
          rw [decide_eq_false hxy] at hse
          have HSE := Lib.hid hse
          clear hse HSE0 hxy
          go_wp2
          refine rgn [0, 1, 2, 3, 4, 5, 6, 7, 8, 9] [] (by kernel_rfl) ?_
          simp only [pickL, List.getD_cons_zero, List.getD_cons_succ]
          go_wp2_with (go_at_call 16; refine HSE.out.mono ?_; rintro e w' ⟨rfl, hb2⟩)
          refine ⟨rfl, ?_⟩
          go_wp2
          go_returns
          exact ⟨by rw [hno.out]; rfl, HB.out.trans ((below_of_drew hb2).mono HB.out.size)⟩
      · have hall : vs = us := by
          have := HT.out
          rwa [List.take_of_length_le (by omega), List.take_of_length_le (by have := HL.out; omega)] at this
        have hyes := Lib.hid (decide_eq_true hall)
        clear hall
        go_wp2
        go_returns
        exact ⟨by rw [hyes.out]; rfl, hb⟩
  · have hno := Lib.hid (decide_eq_false (fun e : vs = us => hlen (by rw [e])))
    have hq : (((vs.length : Nat) : Int) != ((us.length : Nat) : Int)) = true := by simp; omega
    clear hlen h1 h2
    go_enter Try.func20, Try.ntmps20
    go_wp2
    go_returns
    exact ⟨by rw [hno.out]; rfl, Below.refl _ _⟩
/-- A call of a script. -/
structure OpL where
  kind : Int
  a : Int
  b : Int
  second : Bool
  nil : Bool
  lv : Value
  l : List E
def opCells (x : OpL) : List Value := [.int .i64 x.kind, .int .i64 x.a, .int .i64 x.b, .bool x.second, .bool x.nil, x.lv]
def playH (h : HS) (x : OpL) : HS := if x.kind = 1 then pushH h (buildL x.l) else if x.kind = 2 then undoH h else if x.kind = 3 then redoH h else if x.kind = 6 then forgetH h x.a else h
def playsH (script : List OpL) (h : HS) : HS := script.foldl playH h
theorem playsH_succ {script : List OpL} {k : Nat} {x : OpL} (h : HS) (hx : script[k]? = some x) : playsH (script.take (k + 1)) h = playH (playsH (script.take k) h) x := by
  obtain ⟨hk, rfl⟩ := List.getElem?_eq_some_iff.1 hx
  unfold playsH
  rw [List.take_succ_eq_append_getElem hk, List.foldl_append]
  rfl
/-- A script as it stands in memory. -/
structure Script (w : World) (v : Value) (script : List OpL) : Prop where
  rd : Rd w 6 opCells v script
  ls : ∀ x ∈ script, RdF w x.lv x.l ∧ ∀ y ∈ x.l, y.1 < 4294967296
  len : script.length ≤ 9223372036854775807
theorem Script.ext {w w' : World} {v : Value} {script : List OpL} (h : Script w v script) (hb : Below w.heap.size w w') : Script w' v script :=
  ⟨h.rd.ext hb, fun x hx => ⟨(h.ls x hx).1.ext hb, (h.ls x hx).2⟩, h.len⟩
set_option maxRecDepth 100000 in
set_option maxHeartbeats 4000000 in
theorem plays_any (b : Nat) (h : HS) (v : Value) (script : List OpL) (w0 w : World) (hh : HistS w b h) (hsc : Script w0 v script) (hw : Below w0.heap.size w0 w) (hb : w0.heap.size ≤ b) :
    Calls Try.prog 10 #[.pointer (some ⟨b, 0, none⟩), v] w fun e w' => (∃ v, e = .returned v) ∧ HistS w' b (playsH script h) ∧ Only b w w' := by
  obtain ⟨a, c, rfl, hr⟩ := hsc.rd
  have HR := Lib.hid hr
  have HSC := Lib.hid hsc
  have HW := Lib.hid hw
  have H0 := Lib.hid hh
  have hlm := hsc.len
  clear hr hsc hw hh
  go_enter Try.func10, Try.ntmps10
  go_wp2
  go_loopw [4] (fun i wr => ∃ k : Nat, k ≤ script.length ∧ i = .int .i64 (k : Int) ∧ HistS wr b (playsH (script.take k) h) ∧ Only b w wr) (fun i _ => script.length - (intOf i).toNat)
  case atStart => exact ⟨0, by omega, rfl, H0.out, Only.refl _ _⟩
  case round =>
    obtain ⟨k, hk, rfl, hH, hO⟩ := hrel
    by_cases hkl : k < script.length
    · have e1 : script[k]? = some script[k] := List.getElem?_eq_getElem hkl
      have hls := HSC.out.ls _ (List.getElem_mem hkl)
      have hsucc := playsH_succ h e1
      rcases HR.out with hnil | ⟨g, o, rfl, hg, hcl⟩
      · subst hnil; simp at hkl
      generalize script[k] = x at e1 hls hsucc
      have hB0 : Below w0.heap.size w0 wr := HW.out.trans (hO.below hb HW.out.size)
      have f0 := (hB0.cell (p := ⟨g, _, none⟩) hg).trans (hcl k _ 0 _ e1 rfl)
      have f1 := (hB0.cell (p := ⟨g, _, none⟩) hg).trans (hcl k _ 1 _ e1 rfl)
      have f5 := (hB0.cell (p := ⟨g, _, none⟩) hg).trans (hcl k _ 5 _ e1 rfl)
      simp only [Nat.add_zero] at f0
      have hrf := hls.1.ext hB0
      obtain ⟨la, lc, hlv, hlf, hlr⟩ := hrf
      rw [hlv] at f5
      have hrf' : RdF wr (.slice la x.l.length lc) x.l := ⟨la, lc, rfl, hlf, hlr⟩
      have hid := hls.2
      have HRF := Lib.hid hrf'
      have HO := Lib.hid hO
      have HH := Lib.hid hH
      have HSU := Lib.hid hsucc
      clear hcl e1 hls hO hH hsucc hlr hrf' hlv hB0
      generalize playsH (script.take k) h = S at HH HSU
      unfold playH at HSU
      by_cases h1 : x.kind = 1
      · have q1 : (x.kind == 1) = true := by simpa using h1
        have hsu := HSU.out
        rw [if_pos h1] at hsu
        have HS2 := Lib.hid hsu
        clear HSU hsu h1
        go_wp2_with fail
        refine (build_any _ x.l wr HRF.out hid).mono ?_
        rintro e w2 ⟨b2, rfl, hm, hb2⟩
        have hpu := push_s b S (.pointer (some ⟨b2, 0, none⟩)) (buildL x.l) w2 (HistL.ext HH.out hb2) (.inl ⟨b2, rfl, hm⟩) (buildL_len _)
        have HPU := Lib.hid hpu
        have HB2 := Lib.hid hb2
        clear hpu hb2 hm
        go_wp2_with fail
        refine HPU.out.mono ?_
        rintro e w3 ⟨rfl, g1, g2⟩
        have G1 := Lib.hid g1
        have G2 := Lib.hid g2
        clear g1 g2
        go_wp2
        go_roundw
        case rel => exact ⟨k + 1, by omega, by go_num, by rw [HS2.out]; exact G1.out, (HO.out.trans (Only.of_below HB2.out)).trans G2.out⟩
        case measure => simp [intOf]; omega
      · have q1 : (x.kind == 1) = false := by simpa using h1
        by_cases h2 : x.kind = 2
        · have q2 : (x.kind == 2) = true := by simpa using h2
          have hsu := HSU.out
          rw [if_neg h1, if_pos h2] at hsu
          have HS2 := Lib.hid hsu
          clear HSU hsu h1 h2
          go_wp2_with fail
          refine (undo_s b S wr HH.out).mono ?_
          rintro e w3 ⟨⟨v, rfl⟩, g1, g2⟩
          have G1 := Lib.hid g1
          have G2 := Lib.hid g2
          clear g1 g2
          go_wp2
          go_roundw
          case rel => exact ⟨k + 1, by omega, by go_num, by rw [HS2.out]; exact G1.out, HO.out.trans G2.out⟩
          case measure => simp [intOf]; omega
        · have q2 : (x.kind == 2) = false := by simpa using h2
          by_cases h3 : x.kind = 3
          · have q3 : (x.kind == 3) = true := by simpa using h3
            have hsu := HSU.out
            rw [if_neg h1, if_neg h2, if_pos h3] at hsu
            have HS2 := Lib.hid hsu
            clear HSU hsu h1 h2 h3
            go_wp2_with fail
            refine (redo_s b S wr HH.out).mono ?_
            rintro e w3 ⟨⟨v, rfl⟩, g1, g2⟩
            have G1 := Lib.hid g1
            have G2 := Lib.hid g2
            clear g1 g2
            go_wp2
            go_roundw
            case rel => exact ⟨k + 1, by omega, by go_num, by rw [HS2.out]; exact G1.out, HO.out.trans G2.out⟩
            case measure => simp [intOf]; omega
          · have q3 : (x.kind == 3) = false := by simpa using h3
            by_cases h6 : x.kind = 6
            · have q6 : (x.kind == 6) = true := by simpa using h6
              have hsu := HSU.out
              rw [if_neg h1, if_neg h2, if_neg h3, if_pos h6] at hsu
              have HS2 := Lib.hid hsu
              clear HSU hsu h1 h2 h3 h6
              go_wp2_with fail
              refine (forget_s b S x.a wr HH.out).mono ?_
              rintro e w3 ⟨rfl, g1, g2⟩
              have G1 := Lib.hid g1
              have G2 := Lib.hid g2
              clear g1 g2
              go_wp2
              go_roundw
              case rel => exact ⟨k + 1, by omega, by go_num, by rw [HS2.out]; exact G1.out, HO.out.trans G2.out⟩
              case measure => simp [intOf]; omega
            · have q6 : (x.kind == 6) = false := by simpa using h6
              have hsu := HSU.out
              rw [if_neg h1, if_neg h2, if_neg h3, if_neg h6] at hsu
              have HS2 := Lib.hid hsu
              clear HSU hsu h1 h2 h3 h6
              go_wp2
              go_roundw
              case rel => exact ⟨k + 1, by omega, by go_num, by rw [HS2.out]; exact HH.out, HO.out⟩
              case measure => simp [intOf]; omega
    · have hno : decide ((k : Int) < (script.length : Int)) = false := by simp; omega
      have hks : k = script.length := by omega
      have hH2 : HistS wr b (playsH script h) := by rw [hks, List.take_length] at hH; exact hH
      have HH := Lib.hid hH2
      have HO := Lib.hid hO
      clear hH hH2 hO
      go_wp2
      first
        | (go_end0; exact ⟨⟨_, rfl⟩, HH.out, HO.out⟩)
        | (go_returns; exact ⟨⟨_, rfl⟩, HH.out, HO.out⟩)
        | (trace_state; sorry)
end Go.Proofs.Ytmhhejpokgdjoaa
