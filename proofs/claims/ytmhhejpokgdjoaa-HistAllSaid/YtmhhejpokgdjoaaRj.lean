/- The walk of levyref3.Diff. -/
import Derived.Test.YtmhhejpokgdjoaaRd
import Derived.Test.YtmhhejpokgdjoaaDmX
import Derived.Deep.DeepCutAuto
import Derived.Deep.CutBlock
namespace Go.Proofs.Ytmhhejpokgdjoaa
open Go Go.RowKit
set_option linter.unusedVariables false
set_option linter.unusedSimpArgs false
attribute [local go_sem] Oper.semAt_some

def encD (c : Ch) : List Value := chCells c.1 c.2.1 c.2.2
theorem encD_len (c : Ch) : (encD c).length = 7 := rfl
theorem info_chD : (Try.prog.info? 113).map (fun i => (i.zero, i.size, i.bytes)) = some (some (.agg #[.int .u32 0, .bool false, .bool false, .int .i64 0, .int .i64 0, .int .i64 0, .int .i64 0]), 7, 40) := by kernel_rfl
theorem und_chD : Try.prog.underlying 141 = some (.slice 113) := by kernel_rfl
theorem info_chS : (Try.prog.info? 113).map (·.size) = some 7 := by kernel_rfl
theorem info_vS : (Try.prog.info? 50).map (·.size) = some 2 := by kernel_rfl
/-- What differs between two lists of entries that rise, in one way through both. -/
def difL : List (Nat × V) → List (Nat × V) → List Ch
  | [], [] => []
  | x :: a, [] => (x.1, some x.2, none) :: difL a []
  | [], y :: b => (y.1, none, some y.2) :: difL [] b
  | x :: a, y :: b => if x.1 < y.1 then (x.1, some x.2, none) :: difL a (y :: b) else if y.1 < x.1 then (y.1, none, some y.2) :: difL (x :: a) b else if x.2 = y.2 then difL a b else (x.1, some x.2, some y.2) :: difL a b
termination_by a b => a.length + b.length
def eR (e : RE) : Nat × V := (e.id, e.v)
def hadB (a b : List RE) (i k : Nat) : Bool := match a[i]?, b[k]? with
  | some x, some y => decide (x.id ≤ y.id)
  | some _, none => true
  | none, _ => false
def hasB (a b : List RE) (i k : Nat) : Bool := match a[i]?, b[k]? with
  | some x, some y => decide (y.id ≤ x.id)
  | none, some _ => true
  | _, none => false
/-- What is told in one round. -/
def oneD (a b : List RE) (i k : Nat) : List Ch := match a[i]?, b[k]? with
  | some x, some y => if x.id < y.id then [(x.id, some x.v, none)] else if y.id < x.id then [(y.id, none, some y.v)] else if x.v = y.v then [] else [(x.id, some x.v, some y.v)]
  | some x, none => [(x.id, some x.v, none)]
  | none, some y => [(y.id, none, some y.v)]
  | none, none => []
def restD (a b : List RE) (i k : Nat) : List Ch := difL ((a.drop i).map eR) ((b.drop k).map eR)
theorem drop_some {a : List RE} {i : Nat} {x : RE} (h : a[i]? = some x) : a.drop i = x :: a.drop (i + 1) := by
  have := List.getElem?_eq_some_iff.1 h
  rw [← this.2]
  exact (List.getElem_cons_drop this.1).symm
theorem drop_none {a : List RE} {i : Nat} (h : a[i]? = none) : a.drop i = [] := List.drop_of_length_le (List.getElem?_eq_none_iff.1 h)
theorem restD_step (a b : List RE) (i k : Nat) : restD a b i k = oneD a b i k ++ restD a b (if hadB a b i k then i + 1 else i) (if hasB a b i k then k + 1 else k) := by
  unfold restD oneD hadB hasB
  cases h1 : a[i]? with
  | none =>
    cases h2 : b[k]? with
    | none => simp
    | some y =>
      rw [drop_none h1, drop_some h2]
      simp [difL, drop_none h1, eR]
  | some x =>
    cases h2 : b[k]? with
    | none =>
      rw [drop_some h1, drop_none h2]
      simp [difL, drop_none h2, eR]
    | some y =>
      rw [drop_some h1, drop_some h2]
      simp only [List.map_cons, difL, eR]
      by_cases c1 : x.id < y.id
      · rw [if_pos c1, if_pos c1]
        have e1 : decide (x.id ≤ y.id) = true := by simp; omega
        have e2 : decide (y.id ≤ x.id) = false := by simp; omega
        simp [e1, e2, drop_some h2, eR]
      · by_cases c2 : y.id < x.id
        · rw [if_neg c1, if_pos c2, if_neg c1, if_pos c2]
          have e1 : decide (x.id ≤ y.id) = false := by simp; omega
          have e2 : decide (y.id ≤ x.id) = true := by simp; omega
          simp [e1, e2, drop_some h1, eR]
        · rw [if_neg c1, if_neg c2, if_neg c1, if_neg c2]
          have e1 : decide (x.id ≤ y.id) = true := by simp; omega
          have e2 : decide (y.id ≤ x.id) = true := by simp; omega
          by_cases c3 : x.v = y.v
          · simp [e1, e2, c3]
          · simp [e1, e2, c3]
theorem oneD_len (a b : List RE) (i k : Nat) : (oneD a b i k).length ≤ 1 := by
  unfold oneD
  cases a[i]? <;> cases b[k]? <;> dsimp only <;> (try simp)
  split
  · simp
  · split
    · simp
    · split <;> simp
theorem restD_end {a b : List RE} {i k : Nat} (h1 : a.length ≤ i) (h2 : b.length ≤ k) : restD a b i k = [] := by
  unfold restD
  rw [List.drop_of_length_le h1, List.drop_of_length_le h2]
  simp [difL]
/-- What a round lays into the change: the key, what was, what is now. -/
def wasO (had : Bool) (xo : Option RE) : Option V := if had then xo.map (·.v) else none
def idO (had : Bool) (xo : Option RE) (o : Nat) : Nat := if had then (match xo with | some x => x.id | none => o) else o
def dCells (id : Nat) (had has : Bool) (p q : V) : List Value := [.int .u32 (id : Nat), .bool had, .bool has, .int .i64 p.k, .int .i64 p.n, .int .i64 q.k, .int .i64 q.n]
theorem had_some {a b : List RE} {i k : Nat} (h : hadB a b i k = true) : ∃ x, a[i]? = some x := by
  unfold hadB at h
  cases hx : a[i]? with
  | none => rw [hx] at h; simp at h
  | some x => exact ⟨x, rfl⟩
theorem has_some {a b : List RE} {i k : Nat} (h : hasB a b i k = true) : ∃ y, b[k]? = some y := by
  unfold hasB at h
  cases hy : b[k]? with
  | none => rw [hy] at h; cases hx : a[i]? <;> rw [hx] at h <;> simp at h
  | some y => exact ⟨y, rfl⟩
/-- What the round tells, by what it laid down. -/
theorem oneD_eq {a b : List RE} {i k : Nat} {xo yo : Option RE} {had has : Bool} (h1 : a[i]? = xo) (h2 : b[k]? = yo) (h3 : hadB a b i k = had) (h4 : hasB a b i k = has) (hend : ¬ (xo = none ∧ yo = none)) :
    oneD a b i k = (if wasO had xo = wasO has yo then [] else [(idO has yo (idO had xo 0), wasO had xo, wasO has yo)]) ∧ (wasO had xo).isSome = had ∧ (wasO has yo).isSome = has ∧ ¬ (wasO had xo = none ∧ wasO has yo = none) := by
  subst h1 h2 h3 h4
  unfold oneD hadB hasB wasO idO
  cases hx : a[i]? with
  | none =>
    cases hy : b[k]? with
    | none => exact absurd ⟨hx, hy⟩ hend
    | some y => simp
  | some x =>
    cases hy : b[k]? with
    | none => simp
    | some y =>
      dsimp only
      by_cases c1 : x.id < y.id
      · have e1 : decide (x.id ≤ y.id) = true := by simp; omega
        have e2 : decide (y.id ≤ x.id) = false := by simp; omega
        simp [e1, e2, c1]
      · by_cases c2 : y.id < x.id
        · have e1 : decide (x.id ≤ y.id) = false := by simp; omega
          have e2 : decide (y.id ≤ x.id) = true := by simp; omega
          simp [e1, e2, c1, c2]
        · have e1 : decide (x.id ≤ y.id) = true := by simp; omega
          have e2 : decide (y.id ≤ x.id) = true := by simp; omega
          have e3 : x.id = y.id := by omega
          by_cases c3 : x.v = y.v
          · simp [e1, e2, e3, c3]
          · simp [e1, e2, e3, c3]
def cCells (had has : Bool) : List Value := [.int .u32 0, .bool had, .bool has, .int .i64 0, .int .i64 0, .int .i64 0, .int .i64 0]
set_option maxRecDepth 100000 in
set_option maxHeartbeats 16000000 in
theorem rdiff_any (ba bb : Nat) (a b : List RE) (w : World) (ha : RefAt w ba a) (hb : RefAt w bb b) (hla : a.length ≤ 1099511627776) (hlb : b.length ≤ 1099511627776) :
    Calls Try.prog 75 #[.pointer (some ⟨ba, 0, none⟩), .pointer (some ⟨bb, 0, none⟩)] w fun e w' => ∃ es, e = .returned es ∧ Own w' w.heap.size 113 7 encD es (difL (a.map eR) (b.map eR)) ∧ Below w.heap.size w w' := by
  obtain ⟨i0, hi0, ha0, hb0, hc0⟩ := info_parts info_chD
  have HA := Lib.hid ha
  have HB := Lib.hid hb
  clear ha hb
  go_enter Try.func75, Try.ntmps75
  go_wp2
  go_loopw [5, 6, 7] (fun es p q wr => ∃ (i k : Nat) (out : List Ch), i ≤ a.length ∧ k ≤ b.length ∧ out.length ≤ i + k ∧ p = .int .i64 (i : Int) ∧ q = .int .i64 (k : Int) ∧ Own wr w.heap.size 113 7 encD es out ∧ out ++ restD a b i k = difL (a.map eR) (b.map eR) ∧ Below w.heap.size w wr) (fun _ p q _ => a.length + b.length - (intOf p).toNat - (intOf q).toNat)
  case atStart => exact ⟨0, 0, [], by omega, by omega, by simp, rfl, rfl, own_nil _ _ _ _ _, by simp [restD], Below.refl _ _⟩
  case round =>
    obtain ⟨i, k, out, hi, hk, hol, rfl, rfl, hO, hout, hB⟩ := hrel
    obtain ⟨ea, ec, rfl, hef⟩ := own_len hO
    have HO := Lib.hid hO
    have HOUT := Lib.hid hout
    have HW := Lib.hid hB
    have hstep := Lib.hid (restD_step a b i k)
    clear hO hout hB
    obtain ⟨wr, rfl⟩ : ∃ x, x = wr := ⟨wr, rfl⟩
    obtain ⟨ia, ic, va, vc, sa, sc, q1, q2, q3, q4⟩ := (HA.out.ext HW.out).cells
    obtain ⟨ib, jc, vb, wc', sb, tc, r1, r2, r3, r4⟩ := (HB.out.ext HW.out).cells
    have a0 := q1.cell (i := 0) rfl
    have b0 := r1.cell (i := 0) rfl
    have HA1 := Lib.hid q1
    have HA2 := Lib.hid q2
    have HA3 := Lib.hid q3
    have HB1 := Lib.hid r1
    have HB2 := Lib.hid r2
    have HB3 := Lib.hid r3
    clear q1 q2 q3 q4 r1 r2 r3 r4
    by_cases hend : i = a.length ∧ k = b.length
    · obtain ⟨e1, e2⟩ := hend
      have d1 : decide ((i : Int) < (a.length : Int)) = false := by simp; omega
      have d2 : decide ((k : Int) < (b.length : Int)) = false := by simp; omega
      have d3 : decide (i < a.length) = false := by simp; omega
      have d4 : decide (k < b.length) = false := by simp; omega
      have hfin : Hid (out = difL (a.map eR) (b.map eR)) := Lib.hid (by have := HOUT.out; rw [restD_end (by omega) (by omega), List.append_nil] at this; exact this)
      clear e1 e2
      go_wp2
      go_returns
      exact ⟨_, rfl, by rw [← hfin.out]; exact HO.out, HW.out⟩
    · obtain ⟨xo, hxo⟩ : ∃ xo, a[i]? = xo := ⟨_, rfl⟩
      obtain ⟨yo, hyo⟩ : ∃ yo, b[k]? = yo := ⟨_, rfl⟩
      have HXO := Lib.hid hxo
      have HYO := Lib.hid hyo
      obtain ⟨had, HHAD⟩ : ∃ h, Hid (hadB a b i k = h) := ⟨_, Lib.hid rfl⟩
      obtain ⟨has, HHAS⟩ : ∃ h, Hid (hasB a b i k = h) := ⟨_, Lib.hid rfl⟩
      clear hxo hyo
      go_upto_region 4 with fail
      go_cut [24] (fun t wc => t = .bool true ∧ wc = wr)
      case first =>
        by_cases h1 : i < a.length
        · have u1 : decide ((i : Int) < (a.length : Int)) = true := by simp; omega
          have u2 : decide (i < a.length) = true := by simpa using h1
          go_wp2
          go_meet
          case rel => exact ⟨rfl, rfl⟩
        · have u1 : decide ((i : Int) < (a.length : Int)) = false := by simp; omega
          have u2 : decide (i < a.length) = false := by simp; omega
          have h2 : k < b.length := by omega
          have v1 : decide ((k : Int) < (b.length : Int)) = true := by simp; omega
          have v2 : decide (k < b.length) = true := by simpa using h2
          go_wp2
          go_meet
          case rel => exact ⟨rfl, rfl⟩
      case rest =>
        obtain ⟨rfl, rfl⟩ := hcut
        obtain ⟨wr, rfl⟩ : ∃ x, x = wc := ⟨wc, rfl⟩
        have hz : Holds (wr.alloc (.cells #[.int .u32 0, .bool false, .bool false, .int .i64 0, .int .i64 0, .int .i64 0, .int .i64 0] 113)) wr.heap.size (cCells false false) := Holds.alloc wr _ 113
        have hzb : Below wr.heap.size wr (wr.alloc (.cells #[.int .u32 0, .bool false, .bool false, .int .i64 0, .int .i64 0, .int .i64 0, .int .i64 0] 113)) := (Below.refl _ _).alloc (Nat.le_refl _) _
        have HC := Lib.hid hz
        have WB := Lib.hid hzb
        clear hz hzb
        go_wp2_with fail
        generalize wr.alloc (.cells #[.int .u32 0, .bool false, .bool false, .int .i64 0, .int .i64 0, .int .i64 0, .int .i64 0] 113) = W0 at HC WB ⊢
        clear a0 b0
        go_cut [] (fun wc => Holds wc wr.heap.size (cCells had false) ∧ Below wr.heap.size wr wc)
        case first =>
         as_aux_lemma =>
          have a0 := (HA1.out.ext WB.out).cell (i := 0) rfl
          have b0 := (HB1.out.ext WB.out).cell (i := 0) rfl
          have k1 := HC.out.cell (i := 1) rfl
          have k2 := HC.out.free 1
          cases xo with
          | some x =>
            have hil : i < a.length := (List.getElem?_eq_some_iff.1 HXO.out).1
            have u1 : decide ((i : Int) < (a.length : Int)) = true := by simp; omega
            have u2 : decide (i < a.length) = true := by simpa using hil
            have u3 : decide ((a.length : Int) ≤ (i : Int)) = false := by simp; omega
            have u4 : decide (a.length ≤ i) = false := by simp; omega
            obtain ⟨g1, o1, rfl, hg1, hc1⟩ := rd_elt (HA2.out.ext WB.out) HXO.out
            have f1 := hc1 0 _ rfl
            simp only [Nat.add_zero, Nat.mul_one] at f1
            clear hc1
            cases yo with
            | some y =>
              have hkl : k < b.length := (List.getElem?_eq_some_iff.1 HYO.out).1
              have v1 : decide ((k : Int) < (b.length : Int)) = true := by simp; omega
              have v2 : decide (k < b.length) = true := by simpa using hkl
              have v3 : decide ((b.length : Int) ≤ (k : Int)) = false := by simp; omega
              have v4 : decide (b.length ≤ k) = false := by simp; omega
              obtain ⟨g2, o2, rfl, hg2, hc2⟩ := rd_elt (HB2.out.ext WB.out) HYO.out
              have f2 := hc2 0 _ rfl
              simp only [Nat.add_zero, Nat.mul_one] at f2
              clear hc2
              have m1 : Hid (decide (x.id ≤ y.id) = had) := Lib.hid (by rw [← HHAD.out]; unfold hadB; rw [HXO.out, HYO.out])
              have m2 : decide (((x.id : Nat) : Int) ≤ ((y.id : Nat) : Int)) = had := by rw [← m1.out]; simp
              have m3 := m1.out
              go_wp2
              refine rgn [0, 1, 2, 3, 4, 5, 6, 7, 8, 9, 10, 11, 12, 13, 14, 15, 16, 17, 18, 19, 20, 21, 22, 23, 24, 25, 26, 27, 28, 29, 30, 31, 32, 33, 34] [5, 6, 13, 14, 30] (ord_fast (by kernel_rfl)) ?_
              simp only [pickL, List.getD_cons_zero, List.getD_cons_succ]
              go_wp2
              refine ⟨by simp [chkD, dyn, Region.wanted, yielded, Act.eval, scalarV, undef], ?_⟩
              go_wp2
              go_meet
              case rel => exact ⟨HC.out.drew.setCell (i := 1) (.bool had), (WB.out.drew).trans ((Upd.setCell (i := 1) (.bool had)).below (Nat.le_refl _))⟩
            | none =>
              have hkl : b.length ≤ k := List.getElem?_eq_none_iff.1 HYO.out
              have v1 : decide ((k : Int) < (b.length : Int)) = false := by simp; omega
              have v2 : decide (k < b.length) = false := by simp; omega
              have v3 : decide ((b.length : Int) ≤ (k : Int)) = true := by simp; omega
              have v4 : decide (b.length ≤ k) = true := by simpa using hkl
              have m1 : Hid (true = had) := Lib.hid (by rw [← HHAD.out]; unfold hadB; rw [HXO.out, HYO.out])
              have m3 := m1.out
              subst m3
              go_wp2
              refine rgn [0, 1, 2, 3, 4, 5, 6, 7, 8, 9, 10, 11, 12, 13, 14, 15, 16, 17, 18, 19, 20, 21, 22, 23, 24, 25, 26, 27, 28, 29, 30, 31, 32, 33, 34] [5, 6, 13, 14, 30] (ord_fast (by kernel_rfl)) ?_
              simp only [pickL, List.getD_cons_zero, List.getD_cons_succ]
              go_wp2
              refine ⟨by simp [chkD, dyn, Region.wanted, yielded, Act.eval, scalarV, undef], ?_⟩
              go_wp2
              go_meet
              case rel => exact ⟨HC.out.drew.setCell (i := 1) (.bool true), (WB.out.drew).trans ((Upd.setCell (i := 1) (.bool true)).below (Nat.le_refl _))⟩
          | none =>
            have hil : a.length ≤ i := List.getElem?_eq_none_iff.1 HXO.out
            have u1 : decide ((i : Int) < (a.length : Int)) = false := by simp; omega
            have u2 : decide (i < a.length) = false := by simp; omega
            have u3 : decide ((a.length : Int) ≤ (i : Int)) = true := by simp; omega
            have u4 : decide (a.length ≤ i) = true := by simpa using hil
            cases yo with
            | none => exact absurd ⟨by omega, by have := List.getElem?_eq_none_iff.1 HYO.out; omega⟩ hend
            | some y =>
              have hkl : k < b.length := (List.getElem?_eq_some_iff.1 HYO.out).1
              have v1 : decide ((k : Int) < (b.length : Int)) = true := by simp; omega
              have v2 : decide (k < b.length) = true := by simpa using hkl
              have v3 : decide ((b.length : Int) ≤ (k : Int)) = false := by simp; omega
              have v4 : decide (b.length ≤ k) = false := by simp; omega
              obtain ⟨g2, o2, rfl, hg2, hc2⟩ := rd_elt (HB2.out.ext WB.out) HYO.out
              have f2 := hc2 0 _ rfl
              simp only [Nat.add_zero, Nat.mul_one] at f2
              clear hc2
              have m1 : Hid (false = had) := Lib.hid (by rw [← HHAD.out]; unfold hadB; rw [HXO.out, HYO.out])
              have m3 := m1.out
              subst m3
              go_wp2
              refine rgn [0, 1, 2, 3, 4, 5, 6, 7, 8, 9, 10, 11, 12, 13, 14, 15, 16, 17, 18, 19, 20, 21, 22, 23, 24, 25, 26, 27, 28, 29, 30, 31, 32, 33, 34] [5, 6, 13, 14, 30] (ord_fast (by kernel_rfl)) ?_
              simp only [pickL, List.getD_cons_zero, List.getD_cons_succ]
              go_wp2
              refine ⟨by simp [chkD, dyn, Region.wanted, yielded, Act.eval, scalarV, undef], ?_⟩
              go_wp2
              go_meet
              case rel => exact ⟨HC.out.drew.setCell (i := 1) (.bool false), (WB.out.drew).trans ((Upd.setCell (i := 1) (.bool false)).below (Nat.le_refl _))⟩
        case rest =>
          obtain ⟨hc, hb⟩ := hcut
          obtain ⟨W1, rfl⟩ : ∃ x, x = wc := ⟨wc, rfl⟩
          clear HC WB
          have HC := Lib.hid hc
          have WB := Lib.hid hb
          clear hc hb
          go_wp2_with fail
          go_cut [] (fun wc => Holds wc wr.heap.size (cCells had has) ∧ Below wr.heap.size wr wc)
          case first =>
           as_aux_lemma =>
            have a0 := (HA1.out.ext WB.out).cell (i := 0) rfl
            have b0 := (HB1.out.ext WB.out).cell (i := 0) rfl
            have k1 := HC.out.cell (i := 2) rfl
            have k2 := HC.out.free 2
            cases xo with
            | some x =>
              have hil : i < a.length := (List.getElem?_eq_some_iff.1 HXO.out).1
              have u1 : decide ((i : Int) < (a.length : Int)) = true := by simp; omega
              have u2 : decide (i < a.length) = true := by simpa using hil
              have u3 : decide ((a.length : Int) ≤ (i : Int)) = false := by simp; omega
              have u4 : decide (a.length ≤ i) = false := by simp; omega
              obtain ⟨g1, o1, rfl, hg1, hc1⟩ := rd_elt (HA2.out.ext WB.out) HXO.out
              have f1 := hc1 0 _ rfl
              simp only [Nat.add_zero, Nat.mul_one] at f1
              clear hc1
              cases yo with
              | some y =>
                have hkl : k < b.length := (List.getElem?_eq_some_iff.1 HYO.out).1
                have v1 : decide ((k : Int) < (b.length : Int)) = true := by simp; omega
                have v2 : decide (k < b.length) = true := by simpa using hkl
                have v3 : decide ((b.length : Int) ≤ (k : Int)) = false := by simp; omega
                have v4 : decide (b.length ≤ k) = false := by simp; omega
                obtain ⟨g2, o2, rfl, hg2, hc2⟩ := rd_elt (HB2.out.ext WB.out) HYO.out
                have f2 := hc2 0 _ rfl
                simp only [Nat.add_zero, Nat.mul_one] at f2
                clear hc2
                have m1 : Hid (decide (y.id ≤ x.id) = has) := Lib.hid (by rw [← HHAS.out]; unfold hasB; rw [HXO.out, HYO.out])
                have m2 : decide (((y.id : Nat) : Int) ≤ ((x.id : Nat) : Int)) = has := by rw [← m1.out]; simp
                have m3 := m1.out
                go_wp2
                refine rgn [0, 1, 2, 3, 4, 5, 6, 7, 8, 9, 10, 11, 12, 13, 14, 15, 16, 17, 18, 19, 20, 21, 22, 23, 24, 25, 26, 27, 28, 29, 30, 31, 32, 33, 34] [5, 6, 13, 14, 30] (ord_fast (by kernel_rfl)) ?_
                simp only [pickL, List.getD_cons_zero, List.getD_cons_succ]
                go_wp2
                refine ⟨by simp [chkD, dyn, Region.wanted, yielded, Act.eval, scalarV, undef], ?_⟩
                go_wp2
                go_meet
                case rel => exact ⟨HC.out.drew.setCell (i := 2) (.bool has), (WB.out.drew).trans ((Upd.setCell (i := 2) (.bool has)).below (Nat.le_refl _))⟩
              | none =>
                have hkl : b.length ≤ k := List.getElem?_eq_none_iff.1 HYO.out
                have v1 : decide ((k : Int) < (b.length : Int)) = false := by simp; omega
                have v2 : decide (k < b.length) = false := by simp; omega
                have v3 : decide ((b.length : Int) ≤ (k : Int)) = true := by simp; omega
                have v4 : decide (b.length ≤ k) = true := by simpa using hkl
                have m1 : Hid (false = has) := Lib.hid (by rw [← HHAS.out]; unfold hasB; rw [HXO.out, HYO.out])
                have m3 := m1.out
                subst m3
                go_wp2
                refine rgn [0, 1, 2, 3, 4, 5, 6, 7, 8, 9, 10, 11, 12, 13, 14, 15, 16, 17, 18, 19, 20, 21, 22, 23, 24, 25, 26, 27, 28, 29, 30, 31, 32, 33, 34] [5, 6, 13, 14, 30] (ord_fast (by kernel_rfl)) ?_
                simp only [pickL, List.getD_cons_zero, List.getD_cons_succ]
                go_wp2
                refine ⟨by simp [chkD, dyn, Region.wanted, yielded, Act.eval, scalarV, undef], ?_⟩
                go_wp2
                go_meet
                case rel => exact ⟨HC.out.drew.setCell (i := 2) (.bool false), (WB.out.drew).trans ((Upd.setCell (i := 2) (.bool false)).below (Nat.le_refl _))⟩
            | none =>
              have hil : a.length ≤ i := List.getElem?_eq_none_iff.1 HXO.out
              have u1 : decide ((i : Int) < (a.length : Int)) = false := by simp; omega
              have u2 : decide (i < a.length) = false := by simp; omega
              have u3 : decide ((a.length : Int) ≤ (i : Int)) = true := by simp; omega
              have u4 : decide (a.length ≤ i) = true := by simpa using hil
              cases yo with
              | none => exact absurd ⟨by omega, by have := List.getElem?_eq_none_iff.1 HYO.out; omega⟩ hend
              | some y =>
                have hkl : k < b.length := (List.getElem?_eq_some_iff.1 HYO.out).1
                have v1 : decide ((k : Int) < (b.length : Int)) = true := by simp; omega
                have v2 : decide (k < b.length) = true := by simpa using hkl
                have v3 : decide ((b.length : Int) ≤ (k : Int)) = false := by simp; omega
                have v4 : decide (b.length ≤ k) = false := by simp; omega
                obtain ⟨g2, o2, rfl, hg2, hc2⟩ := rd_elt (HB2.out.ext WB.out) HYO.out
                have f2 := hc2 0 _ rfl
                simp only [Nat.add_zero, Nat.mul_one] at f2
                clear hc2
                have m1 : Hid (true = has) := Lib.hid (by rw [← HHAS.out]; unfold hasB; rw [HXO.out, HYO.out])
                have m3 := m1.out
                subst m3
                go_wp2
                refine rgn [0, 1, 2, 3, 4, 5, 6, 7, 8, 9, 10, 11, 12, 13, 14, 15, 16, 17, 18, 19, 20, 21, 22, 23, 24, 25, 26, 27, 28, 29, 30, 31, 32, 33, 34] [5, 6, 13, 14, 30] (ord_fast (by kernel_rfl)) ?_
                simp only [pickL, List.getD_cons_zero, List.getD_cons_succ]
                go_wp2
                refine ⟨by simp [chkD, dyn, Region.wanted, yielded, Act.eval, scalarV, undef], ?_⟩
                go_wp2
                go_meet
                case rel => exact ⟨HC.out.drew.setCell (i := 2) (.bool true), (WB.out.drew).trans ((Upd.setCell (i := 2) (.bool true)).below (Nat.le_refl _))⟩
          case rest =>
            obtain ⟨hc, hb⟩ := hcut
            obtain ⟨W2, rfl⟩ : ∃ x, x = wc := ⟨wc, rfl⟩
            clear HC WB
            have HC := Lib.hid hc
            have WB := Lib.hid hb
            clear hc hb
            clear W0 W1
            have k1 := HC.out.cell (i := 1) rfl
            have k2 := HC.out.cell (i := 2) rfl
            go_upto_if 95 with fail
            go_cut [6] (fun p wc => p = .int .i64 ((if had then i + 1 else i : Nat) : Int) ∧ Holds wc wr.heap.size (dCells (idO had xo 0) had has (vOf (wasO had xo)) ⟨0, 0⟩) ∧ Below wr.heap.size wr wc)
            case first =>
              cases had with
              | false =>
                go_wp2
                go_meet
                case rel => exact ⟨rfl, HC.out, WB.out⟩
              | true =>
                obtain ⟨x, hx⟩ := had_some HHAD.out
                have hxx : xo = some x := by rw [← HXO.out]; exact hx
                subst hxx
                have hil : i < a.length := (List.getElem?_eq_some_iff.1 hx).1
                have a0 := (HA1.out.ext WB.out).cell (i := 0) rfl
                have a1 := (HA1.out.ext WB.out).cell (i := 1) rfl
                obtain ⟨g1, o1, rfl, hg1, hc1⟩ := rd_elt (HA2.out.ext WB.out) hx
                have f1 := hc1 0 _ rfl
                simp only [Nat.add_zero, Nat.mul_one] at f1
                obtain ⟨g2, o2, rfl, hg2, hc2⟩ := rd_elt (HA3.out.ext WB.out) hx
                have f2 := hc2 0 _ rfl
                have f3 := hc2 1 _ rfl
                simp only [Nat.add_zero] at f2
                have k0 := HC.out.cell (i := 0) rfl
                have k3 := HC.out.cell (i := 3) rfl
                have k4 := HC.out.cell (i := 4) rfl
                have r0 := HC.out.free 0
                have r3 := HC.out.free 3
                have r4 := HC.out.free 4
                have hne1 : g1 ≠ wr.heap.size := by
                  intro e
                  have := HA2.out
                  obtain ⟨_, _, hs, hq | ⟨g', _, hg', hlt, _⟩⟩ := this
                  · rw [hq] at hil; simp at hil
                  · simp only [Value.slice.injEq] at hs
                    rw [← hs.1] at hg'
                    simp only [Option.some.injEq, Addr.mk.injEq] at hg'
                    omega
                have hne2 : g2 ≠ wr.heap.size := by
                  intro e
                  have := HA3.out
                  obtain ⟨_, _, hs, hq | ⟨g', _, hg', hlt, _⟩⟩ := this
                  · rw [hq] at hil; simp at hil
                  · simp only [Value.slice.injEq] at hs
                    rw [← hs.1] at hg'
                    simp only [Option.some.injEq, Addr.mk.injEq] at hg'
                    omega
                have hne3 : ba ≠ wr.heap.size := by have := HA1.out.lt; omega
                have HX := Lib.hid hx
                clear hc1 hc2 hx
                go_wp2
                go_meet
                case rel => exact ⟨by go_num, ((HC.out.setCell (i := 0) _).setCell (i := 3) _).setCell (i := 4) _, ((WB.out.trans ((Upd.setCell (i := 0) _).below (Nat.le_refl _))).trans ((Upd.setCell (i := 3) _).below (Nat.le_refl _))).trans ((Upd.setCell (i := 4) _).below (Nat.le_refl _))⟩
            case rest =>
              obtain ⟨rfl, hc, hb⟩ := hcut
              obtain ⟨W3, rfl⟩ : ∃ x, x = wc := ⟨wc, rfl⟩
              obtain ⟨i2, HI2⟩ : ∃ i2 : Nat, Hid ((if had then i + 1 else i : Nat) = i2) := ⟨_, Lib.hid rfl⟩
              rw [HI2.out]
              clear HC WB k1 k2
              have HC := Lib.hid hc
              have WB := Lib.hid hb
              clear hc hb
              have k2 := HC.out.cell (i := 2) rfl
              go_upto_if 115 with fail
              go_cut [7] (fun p wc => p = .int .i64 ((if has then k + 1 else k : Nat) : Int) ∧ Holds wc wr.heap.size (dCells (idO has yo (idO had xo 0)) had has (vOf (wasO had xo)) (vOf (wasO has yo))) ∧ Below wr.heap.size wr wc)
              case first =>
                cases has with
                | false =>
                  go_wp2
                  go_meet
                  case rel => exact ⟨rfl, HC.out, WB.out⟩
                | true =>
                  obtain ⟨y, hy⟩ := has_some HHAS.out
                  have hyy : yo = some y := by rw [← HYO.out]; exact hy
                  subst hyy
                  have hil : k < b.length := (List.getElem?_eq_some_iff.1 hy).1
                  have a0 := (HB1.out.ext WB.out).cell (i := 0) rfl
                  have a1 := (HB1.out.ext WB.out).cell (i := 1) rfl
                  obtain ⟨g1, o1, rfl, hg1, hc1⟩ := rd_elt (HB2.out.ext WB.out) hy
                  have f1 := hc1 0 _ rfl
                  simp only [Nat.add_zero, Nat.mul_one] at f1
                  obtain ⟨g2, o2, rfl, hg2, hc2⟩ := rd_elt (HB3.out.ext WB.out) hy
                  have f2 := hc2 0 _ rfl
                  have f3 := hc2 1 _ rfl
                  simp only [Nat.add_zero] at f2
                  have k0 := HC.out.cell (i := 0) rfl
                  have k5 := HC.out.cell (i := 5) rfl
                  have k6 := HC.out.cell (i := 6) rfl
                  have r0 := HC.out.free 0
                  have r5 := HC.out.free 5
                  have r6 := HC.out.free 6
                  have hne1 : g1 ≠ wr.heap.size := by
                    intro e
                    have := HB2.out
                    obtain ⟨_, _, hs, hq | ⟨g', _, hg', hlt, _⟩⟩ := this
                    · rw [hq] at hil; simp at hil
                    · simp only [Value.slice.injEq] at hs
                      rw [← hs.1] at hg'
                      simp only [Option.some.injEq, Addr.mk.injEq] at hg'
                      omega
                  have hne2 : g2 ≠ wr.heap.size := by
                    intro e
                    have := HB3.out
                    obtain ⟨_, _, hs, hq | ⟨g', _, hg', hlt, _⟩⟩ := this
                    · rw [hq] at hil; simp at hil
                    · simp only [Value.slice.injEq] at hs
                      rw [← hs.1] at hg'
                      simp only [Option.some.injEq, Addr.mk.injEq] at hg'
                      omega
                  have hne3 : bb ≠ wr.heap.size := by have := HB1.out.lt; omega
                  clear hc1 hc2 hy
                  go_wp2
                  go_meet
                  case rel => exact ⟨by go_num, ((HC.out.setCell (i := 0) _).setCell (i := 5) _).setCell (i := 6) _, ((WB.out.trans ((Upd.setCell (i := 0) _).below (Nat.le_refl _))).trans ((Upd.setCell (i := 5) _).below (Nat.le_refl _))).trans ((Upd.setCell (i := 6) _).below (Nat.le_refl _))⟩
              case rest =>
                obtain ⟨rfl, hc, hb⟩ := hcut
                obtain ⟨W4, rfl⟩ : ∃ x, x = wc := ⟨wc, rfl⟩
                obtain ⟨j2, HJ2⟩ : ∃ j2 : Nat, Hid ((if has then k + 1 else k : Nat) = j2) := ⟨_, Lib.hid rfl⟩
                rw [HJ2.out]
                clear HC k2 WB
                have HC := Lib.hid hc
                have WB := Lib.hid hb
                clear hc hb
                have hone := oneD_eq HXO.out HYO.out HHAD.out HHAS.out (fun h => hend ⟨by have := HXO.out; rw [h.1] at this; have := List.getElem?_eq_none_iff.1 this; omega, by have := HYO.out; rw [h.2] at this; have := List.getElem?_eq_none_iff.1 this; omega⟩)
                have hi2 : (if had then i + 1 else i) ≤ a.length := by
                  cases had with
                  | false => exact hi
                  | true => obtain ⟨x, hx⟩ := had_some HHAD.out; exact (List.getElem?_eq_some_iff.1 hx).1
                have hk2 : (if has then k + 1 else k) ≤ b.length := by
                  cases has with
                  | false => exact hk
                  | true => obtain ⟨x, hx⟩ := has_some HHAS.out; exact (List.getElem?_eq_some_iff.1 hx).1
                have hi3 : i ≤ (if had then i + 1 else i) := by split <;> omega
                have hk3 : k ≤ (if has then k + 1 else k) := by split <;> omega
                have hsum : i + k + 1 ≤ (if had then i + 1 else i) + (if has then k + 1 else k) := by
                  obtain ⟨_, h2, h3, h4⟩ := hone
                  cases had <;> cases has <;> simp at h2 h3 h4 ⊢ <;> first | omega | exact absurd h3 (h4 h2)
                have hsp : out ++ oneD a b i k ++ restD a b (if had then i + 1 else i) (if has then k + 1 else k) = difL (a.map eR) (b.map eR) := by
                  have h1 := HOUT.out
                  have h2 := hstep.out
                  rw [HHAD.out, HHAS.out] at h2
                  rw [h2] at h1
                  rw [List.append_assoc]
                  exact h1
                have HB4 := Lib.hid (HW.out.trans (WB.out.mono HW.out.size))
                have HO4 := Lib.hid (HO.out.below WB.out)
                rw [HI2.out] at hi2 hi3 hsum hsp
                rw [HJ2.out] at hk2 hk3 hsum hsp
                have HSP := Lib.hid hsp
                clear hsp HI2 HJ2
                generalize idO has yo (idO had xo 0) = idF at HC hone
                generalize wasO had xo = was at HC hone
                generalize wasO has yo = now at HC hone
                obtain ⟨h1, h2, h3, h4⟩ := hone
                have HONE := Lib.hid h1
                clear h1 HXO HYO HHAD HHAS hstep HOUT HA1 HA2 HA3 HB1 HB2 HB3 HO WB
                subst h2 h3
                have HBZ := HB4.out.size
                have c0 := HC.out.cell (i := 0) rfl
                have c1 := HC.out.cell (i := 1) rfl
                have c2 := HC.out.cell (i := 2) rfl
                have c3 := HC.out.cell (i := 3) rfl
                have c4 := HC.out.cell (i := 4) rfl
                have c5 := HC.out.cell (i := 5) rfl
                have c6 := HC.out.cell (i := 6) rfl
                have hrow := fun ch : Ch => Holds.alloc W4 (encD ch) 113
                have hal := fun ch : Ch => ((Below.refl W4.heap.size W4).alloc (Nat.le_refl _) (.cells (encD ch).toArray 113))
                have HROW := Lib.hid hrow
                have HAL := Lib.hid hal
                clear hrow hal
                cases was with
                | none =>
                  cases now with
                  | none => exact absurd ⟨rfl, rfl⟩ h4
                  | some q =>
                    simp only [vOf, Option.getD_some, Option.getD_none, Option.isSome_some, Option.isSome_none] at *
                    have ho1 : Hid (oneD a b i k = [(idF, none, some q)]) := Lib.hid (by rw [HONE.out]; rw [if_neg (by simp)])
                    have hr1 : Holds (W4.alloc (.cells #[.int .u32 (idF : Nat), .bool false, .bool true, .int .i64 0, .int .i64 0, .int .i64 q.k, .int .i64 q.n] 113)) W4.heap.size (encD (idF, none, some q)) := HROW.out (idF, none, some q)
                    have ha1 : Below W4.heap.size W4 (W4.alloc (.cells #[.int .u32 (idF : Nat), .bool false, .bool true, .int .i64 0, .int .i64 0, .int .i64 q.k, .int .i64 q.n] 113)) := HAL.out (idF, none, some q)
                    have HR1 := Lib.hid hr1
                    have HL1 := Lib.hid ha1
                    clear hr1 ha1
                    go_wp2_with (at_builtin; refine wpList_append_one rfl _ _ _ rfl w.heap.size 113 i0 _ 7 40 und_chD hi0 ha0 hb0 hc0 rfl (by omega) encD _ out (idF, none, some q) rfl (HO4.out.below HL1.out) W4.heap.size rfl HR1.out rfl (chCells_one _ _ _) (by simp only [maxLen]; omega) (by omega) (by simp; omega) ?_; intro v' W hO2 hG; have HO2 := Lib.hid hO2; have HB2 := Lib.hid (HB4.out.trans ((HL1.out.mono HBZ).trans (hG.below (by simp; omega) HO4.out.block))); obtain ⟨sa', sn', sc', hsv⟩ := hO2.shape; subst hsv; clear hO2 hG)
                    go_roundw
                    case rel => exact ⟨i2, j2, out ++ [(idF, none, some q)], hi2, hk2, by rw [List.length_append, List.length_singleton]; omega, by go_num, by go_num, HO2.out, by have := HSP.out; rw [ho1.out] at this; exact this, HB2.out⟩
                    case measure => simp [intOf]; omega
                | some p =>
                  cases now with
                  | none =>
                    simp only [vOf, Option.getD_some, Option.getD_none, Option.isSome_some, Option.isSome_none] at *
                    have ho1 : Hid (oneD a b i k = [(idF, some p, none)]) := Lib.hid (by rw [HONE.out]; rw [if_neg (by simp)])
                    have hr1 : Holds (W4.alloc (.cells #[.int .u32 (idF : Nat), .bool true, .bool false, .int .i64 p.k, .int .i64 p.n, .int .i64 0, .int .i64 0] 113)) W4.heap.size (encD (idF, some p, none)) := HROW.out (idF, some p, none)
                    have ha1 : Below W4.heap.size W4 (W4.alloc (.cells #[.int .u32 (idF : Nat), .bool true, .bool false, .int .i64 p.k, .int .i64 p.n, .int .i64 0, .int .i64 0] 113)) := HAL.out (idF, some p, none)
                    have HR1 := Lib.hid hr1
                    have HL1 := Lib.hid ha1
                    clear hr1 ha1
                    go_wp2_with (at_builtin; refine wpList_append_one rfl _ _ _ rfl w.heap.size 113 i0 _ 7 40 und_chD hi0 ha0 hb0 hc0 rfl (by omega) encD _ out (idF, some p, none) rfl (HO4.out.below HL1.out) W4.heap.size rfl HR1.out rfl (chCells_one _ _ _) (by simp only [maxLen]; omega) (by omega) (by simp; omega) ?_; intro v' W hO2 hG; have HO2 := Lib.hid hO2; have HB2 := Lib.hid (HB4.out.trans ((HL1.out.mono HBZ).trans (hG.below (by simp; omega) HO4.out.block))); obtain ⟨sa', sn', sc', hsv⟩ := hO2.shape; subst hsv; clear hO2 hG)
                    go_roundw
                    case rel => exact ⟨i2, j2, out ++ [(idF, some p, none)], hi2, hk2, by rw [List.length_append, List.length_singleton]; omega, by go_num, by go_num, HO2.out, by have := HSP.out; rw [ho1.out] at this; exact this, HB2.out⟩
                    case measure => simp [intOf]; omega
                  | some q =>
                    simp only [vOf, Option.getD_some, Option.getD_none, Option.isSome_some, Option.isSome_none] at *
                    by_cases hk1 : p.k = q.k
                    · by_cases hn1 : p.n = q.n
                      · have hpq : p = q := by cases p; cases q; simp at hk1 hn1; rw [hk1, hn1]
                        have ho1 : Hid (oneD a b i k = []) := Lib.hid (by rw [HONE.out, if_pos (by rw [hpq])])
                        have d1 : (p.k != q.k) = false := by rw [hk1]; simp
                        have d2 : (p.n != q.n) = false := by rw [hn1]; simp
                        clear hk1 hn1 hpq
                        go_wp2
                        go_roundw
                        case rel => exact ⟨i2, j2, out, hi2, hk2, by omega, by go_num, by go_num, HO4.out, by have := HSP.out; rw [ho1.out, List.append_nil] at this; exact this, HB4.out⟩
                        case measure => simp [intOf]; omega
                      · have d1 : (p.k != q.k) = false := by rw [hk1]; simp
                        have d2 : (p.n != q.n) = true := by simpa using hn1
                        have hne : Hid (¬ (some p = some q)) := Lib.hid (by intro e; cases e; exact hn1 rfl)
                        clear hk1 hn1
                        have ho1 : Hid (oneD a b i k = [(idF, some p, some q)]) := Lib.hid (by rw [HONE.out]; rw [if_neg hne.out])
                        have hr1 : Holds (W4.alloc (.cells #[.int .u32 (idF : Nat), .bool true, .bool true, .int .i64 p.k, .int .i64 p.n, .int .i64 q.k, .int .i64 q.n] 113)) W4.heap.size (encD (idF, some p, some q)) := HROW.out (idF, some p, some q)
                        have ha1 : Below W4.heap.size W4 (W4.alloc (.cells #[.int .u32 (idF : Nat), .bool true, .bool true, .int .i64 p.k, .int .i64 p.n, .int .i64 q.k, .int .i64 q.n] 113)) := HAL.out (idF, some p, some q)
                        have HR1 := Lib.hid hr1
                        have HL1 := Lib.hid ha1
                        clear hr1 ha1
                        go_wp2_with (at_builtin; refine wpList_append_one rfl _ _ _ rfl w.heap.size 113 i0 _ 7 40 und_chD hi0 ha0 hb0 hc0 rfl (by omega) encD _ out (idF, some p, some q) rfl (HO4.out.below HL1.out) W4.heap.size rfl HR1.out rfl (chCells_one _ _ _) (by simp only [maxLen]; omega) (by omega) (by simp; omega) ?_; intro v' W hO2 hG; have HO2 := Lib.hid hO2; have HB2 := Lib.hid (HB4.out.trans ((HL1.out.mono HBZ).trans (hG.below (by simp; omega) HO4.out.block))); obtain ⟨sa', sn', sc', hsv⟩ := hO2.shape; subst hsv; clear hO2 hG)
                        go_roundw
                        case rel => exact ⟨i2, j2, out ++ [(idF, some p, some q)], hi2, hk2, by rw [List.length_append, List.length_singleton]; omega, by go_num, by go_num, HO2.out, by have := HSP.out; rw [ho1.out] at this; exact this, HB2.out⟩
                        case measure => simp [intOf]; omega
                    · have d1 : (p.k != q.k) = true := by simpa using hk1
                      have hne : Hid (¬ (some p = some q)) := Lib.hid (by intro e; cases e; exact hk1 rfl)
                      clear hk1
                      have ho1 : Hid (oneD a b i k = [(idF, some p, some q)]) := Lib.hid (by rw [HONE.out]; rw [if_neg hne.out])
                      have hr1 : Holds (W4.alloc (.cells #[.int .u32 (idF : Nat), .bool true, .bool true, .int .i64 p.k, .int .i64 p.n, .int .i64 q.k, .int .i64 q.n] 113)) W4.heap.size (encD (idF, some p, some q)) := HROW.out (idF, some p, some q)
                      have ha1 : Below W4.heap.size W4 (W4.alloc (.cells #[.int .u32 (idF : Nat), .bool true, .bool true, .int .i64 p.k, .int .i64 p.n, .int .i64 q.k, .int .i64 q.n] 113)) := HAL.out (idF, some p, some q)
                      have HR1 := Lib.hid hr1
                      have HL1 := Lib.hid ha1
                      clear hr1 ha1
                      go_wp2_with (at_builtin; refine wpList_append_one rfl _ _ _ rfl w.heap.size 113 i0 _ 7 40 und_chD hi0 ha0 hb0 hc0 rfl (by omega) encD _ out (idF, some p, some q) rfl (HO4.out.below HL1.out) W4.heap.size rfl HR1.out rfl (chCells_one _ _ _) (by simp only [maxLen]; omega) (by omega) (by simp; omega) ?_; intro v' W hO2 hG; have HO2 := Lib.hid hO2; have HB2 := Lib.hid (HB4.out.trans ((HL1.out.mono HBZ).trans (hG.below (by simp; omega) HO4.out.block))); obtain ⟨sa', sn', sc', hsv⟩ := hO2.shape; subst hsv; clear hO2 hG)
                      go_roundw
                      case rel => exact ⟨i2, j2, out ++ [(idF, some p, some q)], hi2, hk2, by rw [List.length_append, List.length_singleton]; omega, by go_num, by go_num, HO2.out, by have := HSP.out; rw [ho1.out] at this; exact this, HB2.out⟩
                      case measure => simp [intOf]; omega
end Go.Proofs.Ytmhhejpokgdjoaa
