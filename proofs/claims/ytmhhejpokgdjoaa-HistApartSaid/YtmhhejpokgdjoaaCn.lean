/- The walk of levylaw11.many. -/
import Derived.Test.YtmhhejpokgdjoaaCm
namespace Go.Proofs.Ytmhhejpokgdjoaa
open Go Go.RowKit
set_option linter.unusedVariables false
set_option linter.unusedSimpArgs false

def encB (b : Nat) : List Value := [.pointer (some ⟨b, 0, none⟩)]
theorem encB_len (b : Nat) : (encB b).length = 1 := rfl
theorem info_ph : (Try.prog.info? 25).map (fun i => (i.zero, i.size, i.bytes)) = some (some (.pointer none), 1, 8) := by kernel_rfl
theorem und_phs : Try.prog.underlying 101 = some (.slice 25) := by kernel_rfl
/-- Histories beside one another. -/
structure ManyS (w W : World) (bs : List Nat) (f : Nat → HS) : Prop where
  at_ : ∀ (j b : Nat), bs[j]? = some b → HistS W b (f j)
  ne : ∀ (j k b : Nat), bs[j]? = some b → bs[k]? = some b → j = k
  lo : ∀ b ∈ bs, w.heap.size ≤ b
theorem ManyS.ext {w W W' : World} {bs : List Nat} {f : Nat → HS} (h : ManyS w W bs f) (hb : Below W.heap.size W W') : ManyS w W' bs f :=
  ⟨fun j b hj => HistL.ext (h.at_ j b hj) hb, h.ne, h.lo⟩
theorem ManyS.step {w W W' : World} {bs : List Nat} {f f' : Nat → HS} {k b : Nat} {S : HS} (h : ManyS w W bs f) (hk : bs[k]? = some b) (ho : Only b W W') (hS : HistS W' b S) (hf : ∀ j, f' j = if j = k then S else f j) : ManyS w W' bs f' := by
  refine ⟨fun j c hj => ?_, h.ne, h.lo⟩
  rw [hf]
  by_cases hjk : j = k
  · subst hjk
    rw [hk] at hj
    cases hj
    rw [if_pos rfl]
    exact hS
  · rw [if_neg hjk]
    exact HistL.only (h.at_ j c hj) (h.at_ k b hk) (fun e => hjk (h.ne j k c hj (by rw [e]; exact hk))) ho
theorem ManyS.congr {w W : World} {bs : List Nat} {f f' : Nat → HS} (h : ManyS w W bs f) (hf : ∀ j, j < bs.length → f' j = f j) : ManyS w W bs f' :=
  ⟨fun j b hj => by rw [hf j (List.getElem?_eq_some_iff.1 hj).1]; exact h.at_ j b hj, h.ne, h.lo⟩
theorem rdB_at {w : World} {a : Option Addr} {n c k b : Nat} {bs : List Nat} (h : Rd w 1 encB (.slice a n c) bs) (hk : bs[k]? = some b) : ∃ g o, a = some ⟨g, o, none⟩ ∧ g < w.heap.size ∧ w.cell? ⟨g, o + k, none⟩ = some (.pointer (some ⟨b, 0, none⟩)) := by
  obtain ⟨a', c', hs, hnil | ⟨g', o', he, hg, hc⟩⟩ := h
  · subst hnil; simp at hk
  · simp only [Value.slice.injEq] at hs
    have := hc k b 0 _ hk rfl
    exact ⟨g', o', hs.1.trans he, hg, by simpa using this⟩
theorem ownB_off {w : World} {base b : Nat} {v : Value} {bs : List Nat} {S : HS} (h : Own w base 25 1 encB v bs) (hh : HistS w b S) (hne : bs ≠ []) : v.ownBlock ≠ some b := by
  intro e
  rcases h.row.2 with ⟨rfl, _⟩ | ⟨g, cap, cur, rfl, _, hg, _⟩
  · cases e
  · have hgb : g = b := by simpa [Value.ownBlock] using e
    subst hgb
    cases bs with
    | nil => exact hne rfl
    | cons x l =>
      obtain ⟨g', o', he, _, hc⟩ := rdB_at (h.rd encB_len) (k := 0) rfl
      cases he
      obtain ⟨ps, hp, _⟩ := hh
      obtain ⟨a, c, h1, _⟩ := hp.cells
      have := h1.cell (i := 0) rfl
      simp only [Nat.add_zero] at hc
      rw [this] at hc
      cases hc
theorem ownB_only {w w' : World} {base b : Nat} {v : Value} {bs : List Nat} {S : HS} (h : Own w base 25 1 encB v bs) (hh : HistS w b S) (hne : bs ≠ []) (ho : Only b w w') : Own w' base 25 1 encB v bs :=
  ⟨h.row.kept (row := some b) ⟨ho.os, ho.tape, ho.output, ho.size, fun k hk hkb => ho.block k hk (fun e => hkb (by rw [e]))⟩ (.inr (ownB_off h hh hne)), h.nil⟩
theorem rdE_at {w : World} {a : Option Addr} {n c : Nat} {x : E} (h : Rd w 3 encL (.slice a n c) [x]) : ∃ g o, a = some ⟨g, o, none⟩ ∧ w.cell? ⟨g, o, none⟩ = some (.int .u32 (x.1 : Nat)) := by
  obtain ⟨a', c', hs, hnil | ⟨g', o', he, hg, hc⟩⟩ := h
  · cases hnil
  · simp only [Value.slice.injEq] at hs
    have := hc 0 x 0 _ rfl rfl
    exact ⟨g', o', hs.1.trans he, by simpa using this⟩
theorem buildL_one (x : E) : buildL [x] = [x] := rfl
def M0 (j : Nat) : HS := ([[(j, ⟨1, 7⟩)]], 0)
def M1 (j : Nat) : HS := ([[(j, ⟨1, 7⟩)], [(100 + j, ⟨1, 8⟩)]], 1)
def M2 (j : Nat) : HS := ([[(j, ⟨1, 7⟩)], [(100 + j, ⟨1, 8⟩)]], 0)
theorem rdf_one (w : World) (x : E) : RdF (w.alloc (.cells (encL x).toArray 59)) (.slice (some ⟨w.heap.size, 0, none⟩) 1 1) [x] := by
  have hho := Holds.alloc w (encL x) 59
  refine ⟨_, _, rfl, Nat.le_refl _, _, _, rfl, .inr ⟨w.heap.size, 0, rfl, by simp, fun i y j u hi hj => ?_⟩⟩
  match i, hi with
  | 0, hi =>
    cases hi
    have := hho.cell hj
    simpa using this
  | i + 1, hi => simp at hi
set_option maxRecDepth 100000 in
set_option maxHeartbeats 8000000 in
theorem many_any (w : World) : Calls Try.prog 24 #[] w fun e w' => e = .returned (.bool true) ∧ Below w.heap.size w w' := by
  have ep := fun b W => eql_ph_nil ⟨b, 0, none⟩ W
  obtain ⟨i0, hi0, hz0, hz1, hz2⟩ := info_parts info_ph
  go_enter Try.func24, Try.ntmps24
  go_upto_block 0 with fail
  go_cut [1] (fun l wc => ∃ bs, bs.length = 20 ∧ Own wc w.heap.size 25 1 encB l bs ∧ ManyS w wc bs M0 ∧ Below w.heap.size w wc)
  case first =>
   as_aux_lemma =>
    go_wp2
    go_loopw [1, 2] (fun l i wr => ∃ (k : Nat) (bs : List Nat), i = .int .i64 (k : Int) ∧ k ≤ 20 ∧ bs.length = k ∧ Own wr w.heap.size 25 1 encB l bs ∧ ManyS w (offV l wr) bs M0 ∧ Below w.heap.size w wr) (fun _ i _ => 20 - (intOf i).toNat)
    case atStart => exact ⟨0, [], rfl, by omega, rfl, own_nil _ _ _ _ _, ⟨fun j b hj => by simp at hj, fun j k b hj => by simp at hj, fun b hb => by cases hb⟩, Below.refl _ _⟩
    case round =>
      obtain ⟨k, bs, rfl, hk, hbl, hO, hM, hB⟩ := hrel
      obtain ⟨la, lc, hlv, hlf⟩ := own_fits hO
      subst hlv
      rw [hbl] at hO hM hlf ⊢
      by_cases hk20 : k < 20
      · have hd : decide ((k : Int) < 20) = true := by simp; omega
        have hd2 : decide (k < 20) = true := by simp; omega
        have HO := Lib.hid hO
        have HM := Lib.hid hM
        have HB := Lib.hid hB
        clear hO hM hB
        go_wp2_with fail
        have hal : Below wr.heap.size wr (wr.alloc (.cells (encL (k, ⟨1, 7⟩)).toArray 59)) := (Below.refl _ _).alloc (Nat.le_refl _) _
        have hbase : wr.heap.size ≤ (wr.alloc (.cells (encL (k, ⟨1, 7⟩)).toArray 59)).heap.size := hal.size
        refine (build_b _ [(k, ⟨1, 7⟩)] _ (rdf_one wr (k, ⟨1, 7⟩)) (by simp; omega)).mono ?_
        rintro e w2 ⟨b2, rfl, hm, hb2⟩
        generalize hbs : (wr.alloc (.cells (encL (k, ⟨1, 7⟩)).toArray 59)).heap.size = base0 at hm hbase
        rw [buildL_one] at hm
        have hb2' := hal.trans (hb2.mono hal.size)
        have M2' := Lib.hid hm
        have B2 := Lib.hid hb2'
        have hzb : Hid (base0 ≤ w2.heap.size) := Lib.hid (by rw [← hbs]; exact hb2.size)
        clear hal hm hb2 hb2' hbs
        go_wp2_with fail
        refine (new_b base0 b2 [(k, ⟨1, 7⟩)] w2 M2'.out hzb.out (by simp)).mono ?_
        rintro e w3 ⟨b3, rfl, hge, hlt3, hb3, hfr⟩
        have hB3 := B2.out.trans (hb3.mono B2.out.size)
        have hal : Below w3.heap.size w3 (w3.alloc (.cells (encB b3).toArray 25)) := (Below.refl _ _).alloc (Nat.le_refl _) _
        have hB4 := hB3.trans (hal.mono hB3.size)
        have hrow := Holds.alloc w3 (encB b3) 25
        have hszo := fun W => offV_size (.slice la k lc) W
        have hnew : ∀ b ∈ bs, b ≠ b3 := by
          intro b hb e
          subst e
          obtain ⟨j, hj⟩ := List.getElem?_of_mem hb
          have h1 := (HM.out.at_ j b hj).facts.2.2.2
          rw [hszo] at h1
          have := B2.out.size
          omega
        have hnewS : HistS (offV (.slice la k lc) (w3.alloc (.cells (encB b3).toArray 25))) b3 (M0 k) := by
          refine hfr _ (fun q hq hq3 => ?_) (by rw [hszo]; simp)
          rw [offV_other]
          · exact hal.block q hq3
          · intro e
            have := (HO.out.row.lt q e).2
            omega
        have hM3 : ManyS w (offV (.slice la k lc) (w3.alloc (.cells (encB b3).toArray 25))) (bs ++ [b3]) M0 := by
          refine ⟨fun j b hj => ?_, fun j j' b hj hj' => ?_, fun b hb => ?_⟩
          · rcases Nat.lt_or_ge j bs.length with hlt | hge2
            · rw [List.getElem?_append_left hlt] at hj
              exact Keep.hist (keep_below hB4) (by rw [hszo, hszo]; exact hB4.size) (HM.out.at_ j b hj)
            · have hjl : j = k := by
                have := (List.getElem?_eq_some_iff.1 hj).1
                simp at this
                omega
              subst hjl
              rw [List.getElem?_append_right hge2, hbl, Nat.sub_self] at hj
              cases hj
              exact hnewS
          · have hjj := (List.getElem?_eq_some_iff.1 hj).1
            have hjj' := (List.getElem?_eq_some_iff.1 hj').1
            simp only [List.length_append, List.length_singleton] at hjj hjj'
            rcases Nat.lt_or_ge j bs.length with h1 | h1 <;> rcases Nat.lt_or_ge j' bs.length with h2 | h2
            · rw [List.getElem?_append_left h1] at hj
              rw [List.getElem?_append_left h2] at hj'
              exact HM.out.ne j j' b hj hj'
            · rw [List.getElem?_append_left h1] at hj
              rw [List.getElem?_append_right h2, show j' - bs.length = 0 by omega] at hj'
              cases hj'
              exact absurd rfl (hnew _ (List.mem_of_getElem? hj))
            · rw [List.getElem?_append_left h2] at hj'
              rw [List.getElem?_append_right h1, show j - bs.length = 0 by omega] at hj
              cases hj
              exact absurd rfl (hnew _ (List.mem_of_getElem? hj'))
            · omega
          · rcases List.mem_append.1 hb with h | h
            · exact HM.out.lo b h
            · rw [List.mem_singleton] at h
              subst h
              have := HB.out.size
              have := B2.out.size
              omega
        have P1 := Lib.hid (HO.out.below hB4)
        have HM3 := Lib.hid hM3
        have HROW := Lib.hid hrow
        have HB4 := Lib.hid (HB.out.trans (hB4.mono HB.out.size))
        clear hB3 hal hB4 hrow hnew hM3 hb3 hge B2 M2' HM hfr hnewS hszo hlt3
        go_wp2_with (refine wpList_append_one rfl _ _ _ rfl w.heap.size 25 i0 _ 1 8 und_phs hi0 hz0 hz1 hz2 rfl (by omega) encB _ bs b3 rfl P1.out w3.heap.size rfl HROW.out rfl (by intro u hu; simp only [encB, List.mem_singleton] at hu; rw [hu]; rfl) (by simp only [maxLen]; omega) (by omega) (HB4.out.size) ?_; intro v' W hO2 hG; obtain ⟨y1, y2, hv, hfi⟩ := own_fits hO2; subst hv; rw [List.length_append, List.length_singleton, hbl] at hO2 hG; have HO2 := Lib.hid hO2; have HG := Lib.hid hG; clear hO2 hG hfi)
        have hlk : (bs ++ [b3]).length = k + 1 := by rw [List.length_append, hbl]; rfl
        have hMW : ManyS w (offV (.slice y1 (k + 1) y2) W) (bs ++ [b3]) M0 :=
          ⟨fun j b hj => Keep.hist (keep_grew HG.out) (by rw [offV_size, offV_size]; exact HG.out.step.size) (HM3.out.at_ j b hj), HM3.out.ne, HM3.out.lo⟩
        have hBW : Below w.heap.size w W := HB4.out.trans (HG.out.below (HB4.out.size) P1.out.block)
        have HMW := Lib.hid hMW
        have HBW := Lib.hid hBW
        clear hMW hBW
        go_roundw
        case rel => exact ⟨k + 1, bs ++ [b3], by go_num, by omega, hlk, HO2.out, HMW.out, HBW.out⟩
        case measure => simp [intOf]; omega
      · have hno : decide ((k : Int) < 20) = false := by simp; omega
        have hno2 : decide (k < 20) = false := by simp; omega
        have HO := Lib.hid hO
        have hM' : ManyS w wr bs M0 := ⟨fun j b hj => Keep.hist (keep_off _ _) (by rw [offV_size]; exact Nat.le_refl _) (hM.at_ j b hj), hM.ne, hM.lo⟩
        have HM := Lib.hid hM'
        have HB := Lib.hid hB
        clear hO hM hM' hB
        go_wp2
        go_meet
        case rel => exact ⟨bs, by omega, HO.out, HM.out, HB.out⟩
  case rest =>
    obtain ⟨bs, hbl, hO, hM, hB⟩ := hcut
    obtain ⟨w1, rfl⟩ : ∃ x, x = wc := ⟨wc, rfl⟩
    obtain ⟨la, lc, hlv, hlf⟩ := own_fits hO
    subst hlv
    obtain ⟨g, o, hla, _, _⟩ := rdB_at (hO.rd encB_len) (List.getElem?_eq_getElem (show 0 < bs.length by omega))
    subst hla
    have hbne : bs ≠ [] := fun e => by rw [e] at hbl; simp at hbl
    rw [hbl] at hO hlf ⊢
    have O1 := Lib.hid hO
    have M1' := Lib.hid hM
    have B1 := Lib.hid hB
    clear hO hM hB
    go_upto_block 2 with fail
    go_cut [4] (fun i wc => Own wc w.heap.size 25 1 encB (.slice (some ⟨g, o, none⟩) 20 lc) bs ∧ ManyS w wc bs M1 ∧ Below w.heap.size w wc)
    case first =>
     as_aux_lemma =>
      go_wp2
      go_loopw [4] (fun i wr => ∃ k : Nat, i = .int .i64 (k : Int) ∧ k ≤ 20 ∧ Own wr w.heap.size 25 1 encB (.slice (some ⟨g, o, none⟩) 20 lc) bs ∧ ManyS w wr bs (fun j => if j < k then M1 j else M0 j) ∧ Below w.heap.size w wr) (fun i _ => 20 - (intOf i).toNat)
      case atStart => exact ⟨0, rfl, by omega, O1.out, M1'.out.congr (fun j _ => by simp), B1.out⟩
      case round =>
        obtain ⟨k, rfl, hk, hO, hM, hB⟩ := hrel
        by_cases hk20 : k < 20
        · have hd : decide ((k : Int) < 20) = true := by simp; omega
          have hd2 : decide (k < 20) = true := by simp; omega
          have e1 : bs[k]? = some bs[k] := List.getElem?_eq_getElem (by omega)
          generalize bs[k] = bk at e1
          obtain ⟨g', o', hgg, hglt, cv⟩ := rdB_at (hO.rd encB_len) e1
          cases hgg
          have hHk := hM.at_ k bk e1
          have hoff := ownB_off hO hHk hbne
          have hgk : g ≠ bk := by
            intro e
            apply hoff
            rw [e]
            rfl
          have hlo := hM.lo bk (List.mem_of_getElem? e1)
          rw [if_neg (Nat.lt_irrefl k)] at hHk
          have hal : Below wr.heap.size wr (wr.drew.alloc (.cells (encL (100 + k, ⟨1, 8⟩)).toArray 59)) := (Below.refl _ _).drew.alloc (Nat.le_refl _) _
          have SM : ∀ W, Only bk wr W → SameAt [⟨g, o + k, none⟩] wr W := by
            intro W hW p hp
            simp only [List.mem_singleton] at hp
            subst hp
            exact World.cell?_of_block (a := ⟨g, o + k, none⟩) (hW.block g hglt hgk)
          have hbu := build_any _ [(100 + k, ⟨1, 8⟩)] _ (rdf_one wr.drew (100 + k, ⟨1, 8⟩)) (by simp; omega)
          rw [buildL_one] at hbu
          have HBU := Lib.hid hbu
          have HAL := Lib.hid hal
          have HHK := Lib.hid hHk
          have HO := Lib.hid hO
          have HM := Lib.hid hM
          have HB := Lib.hid hB
          clear hbu hal hHk hO hM hB hoff
          go_wp2
          refine rgnH [[0, 1, 2, 4, 5, 6, 7, 8, 3, 9], [10], [11], [12]] [5, 6, 12] [3] [⟨g, o + k, none⟩] (ord_fast (by kernel_rfl)) (by simp) ?_ ?_
          · intro p hp
            simp only [List.mem_singleton] at hp
            subst hp
            rw [cv]; rfl
          unfold seg
          simp only [pickL, List.getD_cons_zero, List.getD_cons_succ]
          go_wp2
          refine ⟨SM _ (Only.of_below HAL.out), ?_⟩
          unfold seg
          simp only [pickL, List.getD_cons_zero, List.getD_cons_succ]
          go_wp2_with fail
          refine HBU.out.mono ?_
          rintro e w2 ⟨b2, rfl, hm, hb2⟩
          have HB2 := Lib.hid (HAL.out.trans (hb2.mono HAL.out.size))
          have HM2 := Lib.hid hm
          clear hm hb2 HBU HAL
          go_wp2
          refine ⟨SM _ (Only.of_below HB2.out), ?_⟩
          unfold seg
          simp only [pickL, List.getD_cons_zero, List.getD_cons_succ]
          go_wp2_with fail
          refine (push_to bk [[(k, ⟨1, 7⟩)]] 0 _ [(100 + k, ⟨1, 8⟩)] w2 (HistL.ext HHK.out HB2.out) (by decide) (.inl ⟨b2, rfl, HM2.out⟩) (by simp)).mono ?_
          rintro e w3 ⟨rfl, hh, ho⟩
          have ho' : Only bk wr w3 := (Only.of_below HB2.out).trans ho
          have HO3 := Lib.hid ho'
          have HH3 : Hid (HistS w3 bk (M1 k)) := Lib.hid hh
          clear hh ho ho' HB2 HM2
          go_wp2
          refine ⟨SM _ HO3.out, ?_⟩
          unfold seg
          simp only [pickL, List.getD_cons_zero, List.getD_cons_succ]
          go_wp2
          refine ⟨SM _ HO3.out, rfl, ⟨.inl rfl, trivial⟩, ?_⟩
          go_wp2
          go_roundw
          case rel =>
            refine ⟨k + 1, by go_num, by omega, ownB_only HO.out (HM.out.at_ k bk e1) hbne HO3.out, HM.out.step e1 HO3.out HH3.out (fun j => ?_), HB.out.trans (HO3.out.below hlo HB.out.size)⟩
            by_cases hjk : j = k
            · subst hjk
              rw [if_pos rfl, if_pos (by omega)]
            · rw [if_neg hjk]
              by_cases hj : j < k
              · rw [if_pos hj, if_pos (by omega)]
              · rw [if_neg hj, if_neg (by omega)]
          case measure => simp [intOf]; omega
        · have hno : decide ((k : Int) < 20) = false := by simp; omega
          have hno2 : decide (k < 20) = false := by simp; omega
          have hk' : k = 20 := by omega
          have HM := Lib.hid (hM.congr (f' := M1) (fun j hj => by rw [if_pos (by omega)]))
          have HO := Lib.hid hO
          have HB := Lib.hid hB
          clear hM hO hB
          go_wp2
          go_meet
          case rel => exact ⟨HO.out, HM.out, HB.out⟩
    case rest =>
      obtain ⟨hO, hM, hB⟩ := hcut
      obtain ⟨w2, rfl⟩ : ∃ x, x = wc := ⟨wc, rfl⟩
      have O2 := Lib.hid hO
      have M2' := Lib.hid hM
      have B2 := Lib.hid hB
      clear hO hM hB O1 M1' B1
      go_wp2
      go_loopw [5] (fun i wr => ∃ m : Nat, i = .int .i64 ((m : Int) - 1) ∧ m ≤ 20 ∧ Own wr w.heap.size 25 1 encB (.slice (some ⟨g, o, none⟩) 20 lc) bs ∧ ManyS w wr bs (fun j => if j < m then M1 j else M2 j) ∧ Below w.heap.size w wr) (fun i _ => (intOf i + 1).toNat)
      case atStart => exact ⟨20, rfl, by omega, O2.out, M2'.out.congr (fun j hj => by rw [if_pos (by omega)]), B2.out⟩
      case round =>
        obtain ⟨m, rfl, hm, hO, hM, hB⟩ := hrel
        rcases Nat.eq_zero_or_pos m with hm0 | hm0
        · subst hm0
          have HB := Lib.hid hB
          clear hO hM hB
          rw [show ((0 : Nat) : Int) - 1 = -1 from rfl]
          go_wp2
          go_returns
          exact ⟨rfl, HB.out⟩
        · obtain ⟨k, rfl⟩ : ∃ k, m = k + 1 := ⟨m - 1, by omega⟩
          rw [show ((k + 1 : Nat) : Int) - 1 = (k : Int) by omega]
          have e1 : bs[k]? = some bs[k] := List.getElem?_eq_getElem (by omega)
          generalize bs[k] = bk at e1
          obtain ⟨g', o', hgg, hglt, cv⟩ := rdB_at (hO.rd encB_len) e1
          cases hgg
          have hHk := hM.at_ k bk e1
          have hoff := ownB_off hO hHk hbne
          have hgk : g ≠ bk := by
            intro e
            apply hoff
            rw [e]
            rfl
          have hlo := hM.lo bk (List.mem_of_getElem? e1)
          rw [if_pos (Nat.lt_succ_self k)] at hHk
          have HHK := Lib.hid (show HistL wr bk [[(k, ⟨1, 7⟩)], [(100 + k, ⟨1, 8⟩)]] 1 from hHk)
          have HO := Lib.hid hO
          have HM := Lib.hid hM
          have HB := Lib.hid hB
          clear hHk hO hM hB hoff
          go_wp2_with fail
          refine (now_any bk _ 1 wr HHK.out).mono ?_
          rintro e w3 ⟨c3, l3, rfl, hl, hm3, hb3⟩
          obtain rfl : [((100 + k : Nat), (⟨1, 8⟩ : V))] = l3 := Option.some.inj hl
          have hbk3 : Hid (bk < w3.heap.size) := Lib.hid (HistL.ext HHK.out hb3).facts.2.2.2
          have H3 := Lib.hid (HistL.ext HHK.out hb3)
          have N3 := Lib.hid hm3
          have X3 := Lib.hid (Only.of_below (b := bk) hb3)
          clear hl hm3 hb3
          go_wp2_with fail
          refine (entries_any _ _ w3 (.inl ⟨c3, rfl, N3.out⟩) (by simp)).mono ?_
          rintro e w4 ⟨es, rfl, hO4, hb4⟩
          obtain ⟨y1, y2, hv, _⟩ := own_fits hO4
          subst hv
          have H4 := Lib.hid (HistL.ext H3.out hb4)
          have X4 := Lib.hid (X3.out.trans (Only.of_below hb4))
          have E4 := Lib.hid hO4
          rw [show [((100 + k : Nat), (⟨1, 8⟩ : V))].length = 1 from rfl] at hO4 ⊢
          have cv4 := (World.cell?_of_block (a := ⟨g, o + k, none⟩) (X4.out.block g hglt hgk)).trans cv
          clear hO4 hb4 H3 N3 X3
          go_wp2_with fail
          refine (undo_to bk _ 0 w4 H4.out).mono ?_
          rintro e w5 ⟨c5, l5, rfl, hl, hm5, hh, ho⟩
          obtain rfl : [(k, (⟨1, 7⟩ : V))] = l5 := Option.some.inj hl
          have H5 := Lib.hid hh
          have X5 := Lib.hid (X4.out.trans ho)
          have E5 := Lib.hid (ho.own E4.out hbk3.out)
          have N5 := Lib.hid hm5
          clear hl hm5 hh ho H4 X4 E4 cv4
          go_wp2_with fail
          refine (entries_any _ _ w5 (.inl ⟨c5, rfl, N5.out⟩) (by simp)).mono ?_
          rintro e w6 ⟨es, rfl, hO6, hb6⟩
          obtain ⟨y3, y4, hv, _⟩ := own_fits hO6
          subst hv
          obtain ⟨g1, o1, rfl, k1⟩ := rdE_at ((E5.out.below hb6).rd encL_len)
          obtain ⟨g2, o2, rfl, k2⟩ := rdE_at (hO6.rd encL_len)
          have H6 : Hid (HistS w6 bk (M2 k)) := Lib.hid (HistL.ext H5.out hb6)
          have X6 := Lib.hid (X5.out.trans (Only.of_below hb6))
          rw [show [(k, (⟨1, 7⟩ : V))].length = 1 from rfl]
          clear hO6 hb6 H5 X5 E5 N5
          go_wp2
          go_roundw
          case rel =>
            refine ⟨k, rfl, by omega, ownB_only HO.out (HM.out.at_ k bk e1) hbne X6.out, HM.out.step e1 X6.out H6.out (fun j => ?_), HB.out.trans (X6.out.below hlo HB.out.size)⟩
            by_cases hjk : j = k
            · subst hjk
              rw [if_pos rfl, if_neg (by omega)]
            · rw [if_neg hjk]
              by_cases hj : j < k
              · rw [if_pos hj, if_pos (by omega)]
              · rw [if_neg hj, if_neg (by omega)]
          case measure => simp [intOf]
end Go.Proofs.Ytmhhejpokgdjoaa
