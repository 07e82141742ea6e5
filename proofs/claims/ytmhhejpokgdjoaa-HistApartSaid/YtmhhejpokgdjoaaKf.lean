/- The walks of levylaw11.all, sameAll: all versions' entries. -/
import Derived.Test.YtmhhejpokgdjoaaKe
namespace Go.Proofs.Ytmhhejpokgdjoaa
open Go Go.RowKit
set_option linter.unusedVariables false
set_option linter.unusedSimpArgs false

def encS (p : Value × List E) : List Value := [p.1]
theorem encS_len (p : Value × List E) : (encS p).length = 1 := rfl
theorem info_es : (Try.prog.info? 23).map (fun i => (i.zero, i.size, i.bytes)) = some (some (.slice none 0 0), 1, 24) := by kernel_rfl
theorem und_ess : Try.prog.underlying 37 = some (.slice 23) := by kernel_rfl
theorem own_apart {α β : Type} {w : World} {b1 b2 : Nat} {t1 t2 : TypeId} {s1 s2 : Nat} {e1 : α → List Value} {e2 : β → List Value} {v1 v2 : Value} {l1 : List α} {l2 : List β} (h1 : Own w b1 t1 s1 e1 v1 l1) (h2 : Own w b2 t2 s2 e2 v2 l2) (hne : t1 ≠ t2) :
    v1.ownBlock = none ∨ v1.ownBlock ≠ v2.ownBlock := by
  rcases h1.row.2 with ⟨rfl, _⟩ | ⟨g1, c1, r1, rfl, _, q1, _⟩
  · exact .inl rfl
  · right
    intro e
    rcases h2.row.2 with ⟨rfl, _⟩ | ⟨g2, c2, r2, rfl, _, q2, _⟩
    · cases e
    · have : g1 = g2 := by simpa [Value.ownBlock] using e
      subst this
      rw [q1] at q2
      simp only [Option.some.injEq, Obj.cells.injEq] at q2
      exact hne q2.2.1
/-- The slice es holds slices that hold vs. -/
def AllV (W : World) (base : Nat) (es : Value) (vs : List (List E)) : Prop :=
  ∃ ss, Own W base 23 1 encS es ss ∧ ss.map (·.2) = vs ∧ ∀ s ∈ ss, Own W base 59 3 encL s.1 s.2
theorem AllV.below {W W' : World} {base : Nat} {es : Value} {vs : List (List E)} (h : AllV W base es vs) (hb : Below W.heap.size W W') : AllV W' base es vs := by
  obtain ⟨ss, h1, h2, h3⟩ := h
  exact ⟨ss, h1.below hb, h2, fun s hs => (h3 s hs).below hb⟩
theorem AllV.only {W W' : World} {b base : Nat} {es : Value} {vs : List (List E)} (h : AllV W base es vs) (ho : Only b W W') (hb : b < base) : AllV W' base es vs := by
  obtain ⟨ss, h1, h2, h3⟩ := h
  exact ⟨ss, ho.own h1 hb, h2, fun s hs => ho.own (h3 s hs) hb⟩
theorem AllV.len {W : World} {base : Nat} {es : Value} {vs : List (List E)} (h : AllV W base es vs) : ∃ a c, es = .slice a vs.length c ∧ vs.length ≤ c := by
  obtain ⟨ss, h1, h2, h3⟩ := h
  obtain ⟨a, c, he, hf⟩ := own_fits h1
  have : vs.length = ss.length := by rw [← h2, List.length_map]
  rw [this]
  exact ⟨a, c, he, hf⟩
theorem AllV.at_ {W : World} {base k n c : Nat} {a : Option Addr} {vs : List (List E)} {l : List E} (h : AllV W base (.slice a n c) vs) (hk : vs[k]? = some l) : ∃ g sv, a = some ⟨g, 0, none⟩ ∧ W.cell? ⟨g, k, none⟩ = some sv ∧ Own W base 59 3 encL sv l := by
  obtain ⟨ss, h1, h2, h3⟩ := h
  rw [← h2, List.getElem?_map] at hk
  obtain ⟨s, hs, rfl⟩ := Option.map_eq_some_iff.1 hk
  rcases h1.row.2 with ⟨hv, h0⟩ | ⟨g, cap, cur, hv, _⟩
  · rw [List.length_eq_zero_iff.1 h0] at hs
    simp at hs
  · obtain ⟨a', c', hv', hnil | ⟨g', o', he, hg, hc⟩⟩ := h1.rd encS_len
    · rw [hnil] at hs; simp at hs
    · simp only [Value.slice.injEq] at hv hv'
      obtain ⟨rfl, _, _⟩ := hv
      obtain ⟨rfl, _, _⟩ := hv'
      cases he
      have := hc k s 0 _ hs rfl
      simp only [Nat.zero_add, Nat.mul_one, Nat.add_zero] at this
      exact ⟨g, s.1, rfl, this, h3 s (List.mem_of_getElem? hs)⟩
theorem AllV.base {W : World} {base base' : Nat} {es : Value} {vs : List (List E)} (h : AllV W base es vs) (hb : base' ≤ base) : AllV W base' es vs := by
  obtain ⟨ss, h1, h2, h3⟩ := h
  exact ⟨ss, h1.base hb, h2, fun s hs => (h3 s hs).base hb⟩
theorem allV_nil (W : World) (base : Nat) : AllV W base (.slice none 0 0) [] := ⟨[], own_nil _ _ _ _ _, rfl, fun s hs => by cases hs⟩
set_option maxRecDepth 100000 in
set_option maxHeartbeats 1600000 in
theorem all_vs (b : Nat) (vs : List (List E)) (i : Nat) (w : World) (h : HistL w b vs i) :
    Calls Try.prog 17 #[.pointer (some ⟨b, 0, none⟩)] w fun e w' => ∃ es, e = .returned (.tuple #[es, .int .i64 (-(i : Int))]) ∧ AllV w' w.heap.size es vs ∧ Below w.heap.size w w' := by
  have HS := Lib.hid (steps_any b vs i 0 w h)
  have hlen := h.facts.2.1
  have hpos := h.facts.1
  clear h
  go_enter Try.func17, Try.ntmps17
  go_wp2_with fail
  refine HS.out.mono ?_
  rintro e w1 ⟨es, ps, rfl, hp, hvs, hO, hb1⟩
  rw [show cutV (stL ps (-(i : Int))) 0 = stL ps (-(i : Int)) by unfold cutV; rw [if_pos (by decide)]] at hO
  obtain ⟨ya, yc, he, hf⟩ := own_fits hO
  rw [stL_len] at he hf
  subst he
  have hR := hO.rd encW_len
  obtain ⟨a', c', hs, hnil | ⟨g, o, rfl, hg, hcl⟩⟩ := hR
  · have h2 := congrArg List.length hnil
    rw [stL_len] at h2
    have := hp.lt
    simp at h2
    subst h2
    simp at this
  simp only [Value.slice.injEq] at hs
  obtain ⟨rfl, _, rfl⟩ := hs
  have hpl : ps.length = vs.length := by rw [← hvs, List.length_map]
  have HP := Lib.hid hp
  have HCL := Lib.hid hcl
  have HB1 := Lib.hid hb1
  have HVS := Lib.hid hvs
  clear HS hO hp hcl hb1 hvs
  rw [hpl]
  go_wp2
  go_loopw [4, 5, 7, 8] (fun l f ok k wr => ∃ m : Nat, m ≤ vs.length ∧ k = .int .i64 (m : Int) ∧ ok = .bool true ∧ f = .int .i64 (if m = 0 then 0 else -(i : Int)) ∧ AllV wr w1.heap.size l (vs.take m) ∧ Below w1.heap.size w1 wr) (fun _ _ _ k _ => vs.length - (intOf k).toNat)
  case atStart => exact ⟨0, by omega, rfl, rfl, rfl, allV_nil _ _, Below.refl _ _⟩
  case round =>
    obtain ⟨m, hm, rfl, rfl, rfl, hA, hB⟩ := hrel
    obtain ⟨za, zc, rfl, hzf⟩ := hA.len
    rw [List.length_take, Nat.min_eq_left hm] at hA hzf ⊢
    by_cases hml : m < vs.length
    · have hmp : m < ps.length := by omega
      have e2 : ps[m]? = some ps[m] := List.getElem?_eq_getElem hmp
      have hst := stL_get ps (-(i : Int)) m ps[m] e2
      have hmem := List.getElem_mem hmp
      have hvm : vs[m]? = some ps[m].2 := by rw [← HVS.out, List.getElem?_map, e2]; rfl
      generalize ps[m] = p at e2 hst hmem hvm
      have f0 := (hB.cell (p := ⟨g, _, none⟩) hg).trans (HCL.out m _ 0 _ hst rfl)
      have f1 := (hB.cell (p := ⟨g, _, none⟩) hg).trans (HCL.out m _ 1 _ hst rfl)
      simp only [Nat.add_zero] at f0
      have hBw := HB1.out.trans (hB.mono HB1.out.size)
      have hent := entries_any (.pointer (some ⟨p.1, 0, none⟩)) p.2 wr (.inl ⟨p.1, rfl, (HP.out.maps p hmem).ext hBw⟩) (by have := HP.out.small p hmem; omega)
      have ht : vs.take (m + 1) = vs.take m ++ [p.2] := by
        rw [List.take_succ_eq_append_getElem hml]
        rw [List.getElem?_eq_getElem hml] at hvm
        rw [Option.some.inj hvm]
      have ep := fun W => eql_pm_nil ⟨p.1, 0, none⟩ W
      obtain ⟨i0, hi0, hz0, hz1, hz2⟩ := info_parts info_es
      have HE := Lib.hid hent
      have HT := Lib.hid ht
      have HB := Lib.hid hB
      have HBW := Lib.hid hBw
      have HAL := Lib.hid hA
      clear hst hmem hvm hent ht hB hBw hA e2
      go_upto_if 21 with fail
      go_cut [5] (fun f wx => f = .int .i64 (-(i : Int)) ∧ wx = wr)
      case first =>
        rcases Nat.eq_zero_or_pos m with hm0 | hm0
        · subst hm0
          simp only [Nat.zero_mul, Nat.add_zero, Nat.zero_add, Int.natCast_zero, Int.add_zero] at *
          go_wp2
          go_meet
          case rel => exact ⟨rfl, rfl⟩
        · have hq : ((m : Int) == 0) = false := by simp; omega
          rw [if_neg (by omega : ¬ m = 0)]
          go_wp2
          go_meet
          case rel => exact ⟨rfl, rfl⟩
      case rest =>
        obtain ⟨rfl, hw⟩ := hcut
        subst hw
        go_wp2_with fail
        refine HE.out.mono ?_
        rintro e w2 ⟨es', rfl, hO2, hb2⟩
        obtain ⟨ea, ec, he, hef⟩ := own_fits hO2
        subst he
        obtain ⟨ss, o1, o2, o3⟩ := HAL.out
        have hssl : ss.length = m := by
          have := congrArg List.length o2
          rw [List.length_map, List.length_take, Nat.min_eq_left hm] at this
          exact this
        obtain ⟨W3, hW3⟩ : ∃ W3, W3 = w2.alloc (.cells #[.slice ea p.2.length ec] 23) := ⟨_, rfl⟩
        have hal : Below w2.heap.size w2 W3 := by rw [hW3]; exact (Below.refl _ _).alloc (Nat.le_refl _) _
        have hb3 : Below wc.heap.size wc W3 := hb2.trans (hal.mono hb2.size)
        have hrow : Holds W3 w2.heap.size (encS (.slice ea p.2.length ec, p.2)) := by rw [hW3]; exact Holds.alloc w2 [.slice ea p.2.length ec] _
        have hwle : w1.heap.size ≤ wc.heap.size := HB.out.size
        have p1 : Own W3 w1.heap.size 23 1 encS (.slice za m zc) ss := o1.below hb3
        have p3 : ∀ s ∈ ss, Own W3 w1.heap.size 59 3 encL s.1 s.2 := fun s hs => (o3 s hs).below hb3
        have p4 : Own W3 w1.heap.size 59 3 encL (.slice ea p.2.length ec) p.2 := (hO2.below hal).base hwle
        have fin : ∀ W v', Own W w1.heap.size 23 1 encS v' (ss ++ [(.slice ea p.2.length ec, p.2)]) → Grew W3 W (.slice za m zc) v' → AllV W w1.heap.size v' (vs.take (m + 1)) ∧ Below w1.heap.size w1 W := by
          intro W v' hO hG
          refine ⟨⟨_, hO, ?_, ?_⟩, ?_⟩
          · rw [List.map_append, o2, HT.out]; rfl
          · intro s hs
            rcases List.mem_append.1 hs with h | h
            · exact (p3 s h).grew hG (own_apart (p3 s h) p1 (by decide))
            · rw [List.mem_singleton] at h
              subst h
              exact p4.grew hG (own_apart p4 p1 (by decide))
          · exact (HB.out.trans (hb3.mono HB.out.size)).trans (hG.below (Nat.le_trans hwle hb3.size) p1.block)
        have FIN := Lib.hid fin
        have HROW := Lib.hid hrow
        have P1 := Lib.hid p1
        have HW3 := Lib.hid hW3
        have hle3 : Hid (w1.heap.size ≤ W3.heap.size) := Lib.hid (Nat.le_trans hwle hb3.size)
        clear fin hrow p1 p3 p4 hO2 hb2 hal hb3 o1 o2 o3 hW3 hwle HAL HE f0 f1
        go_wp2_with (refine wpList_append_one rfl _ _ _ rfl w1.heap.size 23 i0 _ 1 24 und_ess hi0 hz0 hz1 hz2 rfl (by omega) encS _ ss (.slice ea p.2.length ec, p.2) rfl (by have := P1.out; rw [HW3.out] at this; exact this) w2.heap.size rfl (by have := HROW.out; rw [HW3.out] at this; exact this) rfl (by intro u hu; simp only [encS, List.mem_singleton] at hu; rw [hu]; rfl) (by simp only [maxLen]; omega) (by omega) (by have := hle3.out; rw [HW3.out] at this; exact this) ?_; intro v' W hO hG; rw [← HW3.out] at hG; have hfn := FIN.out W v' hO hG; obtain ⟨y1, y2, hv, hfi⟩ := own_fits hO; subst hv; rw [List.length_append, List.length_singleton, hssl] at hfn; have FN := Lib.hid hfn; clear hO hG hfn hfi)
        go_roundw
        case rel => exact ⟨m + 1, by omega, by go_num, rfl, by rw [if_neg (by omega)], FN.out.1, FN.out.2⟩
        case measure => simp [intOf]; omega
    · have hmv : m = vs.length := by omega
      have hno : decide ((m : Int) < (vs.length : Int)) = false := by simp; omega
      rw [if_neg (by omega : ¬ m = 0)]
      have htk : vs.take m = vs := by rw [hmv, List.take_length]
      rw [htk] at hA
      have HA := Lib.hid hA
      have HB := Lib.hid (HB1.out.trans (hB.mono HB1.out.size))
      clear hA hB htk
      go_wp2
      go_returns
      exact ⟨_, rfl, HA.out.base HB1.out.size, HB.out⟩
end Go.Proofs.Ytmhhejpokgdjoaa
