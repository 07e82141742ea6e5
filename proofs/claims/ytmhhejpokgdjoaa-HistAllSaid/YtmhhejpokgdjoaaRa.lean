/- levyref3's map as data; the walks of prefix, place. -/
import Derived.Test.YtmhhejpokgdjoaaTrX
import Derived.Test.YtmhhejpokgdjoaaWk
import Derived.Test.YtmhhejpokgdjoaaWk
import Derived.Test.YtmhhejpokgdjoaaReg
import Derived.Test.YtmhhejpokgdjoaaReg
namespace Go.Proofs.Ytmhhejpokgdjoaa
open Go Go.RowKit
set_option linter.unusedVariables false
set_option linter.unusedSimpArgs false

/-- An entry of the reference's map: key, value, the stamps of its nodes by level. -/
structure RE where
  id : Nat
  v : V
  s : Nat → Int
def encRI (e : RE) : List Value := [.int .u32 (e.id : Nat)]
def encRV (e : RE) : List Value := vCells e.v
def encRS (e : RE) : List Value := [.int .i64 (e.s 0), .int .i64 (e.s 1), .int .i64 (e.s 2), .int .i64 (e.s 3), .int .i64 (e.s 4), .int .i64 (e.s 5), .int .i64 (e.s 6), .int .i64 (e.s 7)]
theorem encRI_len (e : RE) : (encRI e).length = 1 := rfl
theorem encRV_len (e : RE) : (encRV e).length = 2 := rfl
theorem encRS_len (e : RE) : (encRS e).length = 8 := rfl
/-- Block b is a map of the reference, of these entries. -/
structure RefAt (w : World) (b : Nat) (l : List RE) : Prop where
  cells : ∃ ia ic va vc sa sc, Holds w b [.slice ia l.length ic, .slice va l.length vc, .slice sa l.length sc] ∧ Rd w 1 encRI (.slice ia l.length ic) l ∧ Rd w 2 encRV (.slice va l.length vc) l ∧ Rd w 8 encRS (.slice sa l.length sc) l
  ids : ∀ e ∈ l, e.id < 4294967296
theorem RefAt.ext {w w' : World} {b : Nat} {l : List RE} (h : RefAt w b l) (hb : Below w.heap.size w w') : RefAt w' b l := by
  obtain ⟨ia, ic, va, vc, sa, sc, h1, h2, h3, h4⟩ := h.cells
  exact ⟨⟨ia, ic, va, vc, sa, sc, h1.ext hb, h2.ext hb, h3.ext hb, h4.ext hb⟩, h.ids⟩
theorem RefAt.lt {w : World} {b : Nat} {l : List RE} (h : RefAt w b l) : b < w.heap.size := by
  obtain ⟨ia, ic, va, vc, sa, sc, h1, _⟩ := h.cells
  exact h1.lt
theorem rd_elt {α : Type} {w : World} {s : Nat} {enc : α → List Value} {a : Option Addr} {n c k : Nat} {l : List α} {x : α} (h : Rd w s enc (.slice a n c) l) (hk : l[k]? = some x) :
    ∃ g o, a = some ⟨g, o, none⟩ ∧ g < w.heap.size ∧ ∀ j u, (enc x)[j]? = some u → w.cell? ⟨g, o + k * s + j, none⟩ = some u := by
  obtain ⟨a', c', hv, h⟩ := h
  simp only [Value.slice.injEq] at hv
  obtain ⟨rfl, _, _⟩ := hv
  rcases h with rfl | ⟨g, o, rfl, hg, hc⟩
  · simp at hk
  · exact ⟨g, o, rfl, hg, fun j u hj => hc k x j u hk hj⟩
/-- The first 4l bits of a key. -/
def pre (id l : Nat) : Nat := id / 16 ^ (8 - l)
theorem pre_lt {id l : Nat} (h : id < 4294967296) : pre id l < 4294967296 := Nat.lt_of_le_of_lt (Nat.div_le_self _ _) h
theorem pre_step (id j : Nat) (h : 1 ≤ j) (hj : j ≤ 8) : pre id j / 16 = pre id (j - 1) := by
  unfold pre
  rw [Nat.div_div_eq_div_mul, show 8 - (j - 1) = (8 - j) + 1 by omega, Nat.pow_succ]
theorem pre_8 (id : Nat) : pre id 8 = id := by simp [pre]
theorem prefix_any (id l : Nat) (hl : l ≤ 8) (hid : id < 4294967296) (w : World) :
    Calls Try.prog 86 #[.int .u32 (id : Nat), .int .i64 (l : Nat)] w fun e w' => e = .returned (.int .u32 (pre id l : Nat)) ∧ w = w' := by
  go_enter Try.func86, Try.ntmps86
  go_wp2
  go_loop [5, 6] (fun p k => ∃ j : Nat, l ≤ j ∧ j ≤ 8 ∧ k = .int .i64 (j : Int) ∧ p = .int .u32 ((pre id j : Nat) : Int)) (fun _ k => (intOf k).toNat)
  case atStart => exact ⟨8, hl, by omega, rfl, by rw [pre_8]⟩
  case round =>
    obtain ⟨j, h1, h2, rfl, rfl⟩ := hrel
    have hpl := pre_lt (l := j) hid
    by_cases hlt : l < j
    · have hp := Lib.hid (pre_step id j (by omega) h2)
      generalize pre id j = q at hp hpl
      go_wp2
      go_round
      case rel => exact ⟨j - 1, by omega, by omega, by go_num, by rw [← hp.out]; go_num⟩
      case measure => simp [intOf]; omega
    · obtain rfl : j = l := by omega
      clear hpl
      go_wp2
      go_returns
      exact ⟨rfl, rfl⟩
/-- The place of the first key that isn't below id; is it id? -/
def plR (l : List RE) (id : Nat) : Nat := (l.takeWhile fun e => decide (e.id < id)).length
def okR (l : List RE) (id : Nat) : Bool := match l[plR l id]? with
  | some e => decide (e.id = id)
  | none => false
theorem plR_le (l : List RE) (id : Nat) : plR l id ≤ l.length := (List.takeWhile_sublist _).length_le
theorem plR_eq : ∀ {l : List RE} {id k : Nat}, k ≤ l.length → (∀ e ∈ l.take k, e.id < id) → (∀ e, l[k]? = some e → ¬ e.id < id) → plR l id = k
  | [], id, k, hk, _, _ => by simp at hk; subst hk; rfl
  | x :: l, id, 0, _, _, h => by
    have := h x rfl
    simp [plR, List.takeWhile_cons, this]
  | x :: l, id, k + 1, hk, h1, h2 => by
    have hx := h1 x (by simp)
    have := plR_eq (l := l) (id := id) (k := k) (by simpa using hk) (fun e he => h1 e (by simp [he])) (fun e he => h2 e (by simpa using he))
    unfold plR at this ⊢
    rw [List.takeWhile_cons, if_pos (by simpa using hx), List.length_cons, this]
set_option maxRecDepth 100000 in
set_option maxHeartbeats 800000 in
theorem place_r (b id : Nat) (l : List RE) (w : World) (h : RefAt w b l) (hl : l.length ≤ 4611686018427387904) :
    Calls Try.prog 83 #[.pointer (some ⟨b, 0, none⟩), .int .u32 (id : Nat)] w fun e w' => e = .returned (.tuple #[.int .i64 (plR l id : Nat), .bool (okR l id)]) ∧ Below w.heap.size w w' := by
  obtain ⟨ia, ic, va, vc, sa, sc, h1, h2, _, _⟩ := h.cells
  have hbl := h1.lt
  have HC := Lib.hid (h1.cell (i := 0) rfl)
  have HR := Lib.hid h2
  clear h h1 h2
  go_enter Try.func83, Try.ntmps83
  go_wp2
  go_loop [6] (fun i => ∃ k : Nat, k ≤ l.length ∧ i = .int .i64 (k : Int) ∧ ∀ e ∈ l.take k, e.id < id) (fun i => l.length - (intOf i).toNat)
  case atStart => exact ⟨0, by omega, rfl, by simp⟩
  case round =>
    obtain ⟨k, hk, rfl, htk⟩ := hrel
    have HT := Lib.hid htk
    have c0 := HC.out
    clear htk
    by_cases hkl : k < l.length
    · have e1 : l[k]? = some l[k] := List.getElem?_eq_getElem hkl
      have htk1 : l.take (k + 1) = l.take k ++ [l[k]] := List.take_succ_eq_append_getElem hkl
      generalize l[k] = x at e1 htk1
      obtain ⟨g, o, rfl, hg, hc⟩ := rd_elt HR.out e1
      have f0 := hc 0 _ rfl
      simp only [Nat.add_zero, Nat.mul_one] at f0
      have E1 := Lib.hid e1
      have HK := Lib.hid htk1
      clear e1 htk1 hc
      by_cases hx : x.id < id
      · have d1 : decide (x.id < id) = true := by simpa using hx
        have hall := Lib.hid (show ∀ e ∈ l.take (k + 1), e.id < id by
          rw [HK.out]
          intro e he
          rcases List.mem_append.1 he with he | he
          · exact HT.out e he
          · rw [List.mem_singleton] at he; subst he; exact hx)
        go_wp2
        go_round
        case rel => exact ⟨k + 1, by omega, by go_num, hall.out⟩
        case measure => simp [intOf]; omega
      · have d1 : decide (x.id < id) = false := by simpa using hx
        have hpl := Lib.hid (plR_eq (by omega) HT.out (fun e he => by rw [E1.out] at he; cases he; exact hx))
        have hok : Hid (okR l id = decide (x.id = id)) := Lib.hid (by unfold okR; rw [hpl.out, E1.out])
        clear hx
        by_cases hxi : x.id = id
        · have d2 : (((x.id : Nat) : Int) == ((id : Nat) : Int)) = true := by simp; omega
          have hok2 : Hid (okR l id = true) := Lib.hid (by rw [hok.out]; simpa using hxi)
          clear hok hxi
          go_wp2
          refine rgn [0, 1, 2, 3, 4, 5, 6, 7, 8, 9, 10, 11, 12, 13, 14, 15, 16, 17, 18, 19, 20] [6, 7, 17] (by kernel_rfl) ?_
          simp only [pickL, List.getD_cons_zero, List.getD_cons_succ]
          go_wp2
          refine ⟨by simp [chkD, dyn, Region.wanted, yielded, Act.eval, scalarV], ?_⟩
          go_wp2
          go_returns
          exact ⟨by rw [hpl.out, hok2.out]; rfl, (Below.refl _ _).drew⟩
        · have d2 : (((x.id : Nat) : Int) == ((id : Nat) : Int)) = false := by simp; omega
          have hok2 : Hid (okR l id = false) := Lib.hid (by rw [hok.out]; simpa using hxi)
          clear hok hxi
          go_wp2
          refine rgn [0, 1, 2, 3, 4, 5, 6, 7, 8, 9, 10, 11, 12, 13, 14, 15, 16, 17, 18, 19, 20] [6, 7, 17] (by kernel_rfl) ?_
          simp only [pickL, List.getD_cons_zero, List.getD_cons_succ]
          go_wp2
          refine ⟨by simp [chkD, dyn, Region.wanted, yielded, Act.eval, scalarV], ?_⟩
          go_wp2
          go_returns
          exact ⟨by rw [hpl.out, hok2.out]; rfl, (Below.refl _ _).drew⟩
    · have hkl2 : Hid (k = l.length) := Lib.hid (by omega)
      have hpl := Lib.hid (plR_eq (by omega) HT.out (fun e he => by rw [List.getElem?_eq_none (by omega)] at he; cases he))
      have hok : Hid (okR l id = false) := Lib.hid (by unfold okR; rw [hpl.out, List.getElem?_eq_none (by omega)])
      have d2 : decide ((k : Int) < (l.length : Int)) = false := by simp; omega
      have d3 : decide (k < l.length) = false := by simp; omega
      go_wp2
      refine rgn [0, 1, 2, 3, 4, 5, 6, 7, 8, 9, 10, 11, 12, 13, 14, 15, 16, 17, 18, 19, 20] [6, 7, 17] (by kernel_rfl) ?_
      simp only [pickL, List.getD_cons_zero, List.getD_cons_succ]
      go_wp2
      refine ⟨by simp [chkD, dyn, Region.wanted, yielded, Act.eval, scalarV], ?_⟩
      go_wp2
      go_returns
      exact ⟨by rw [hpl.out, hok.out]; rfl, (Below.refl _ _).drew⟩
end Go.Proofs.Ytmhhejpokgdjoaa
