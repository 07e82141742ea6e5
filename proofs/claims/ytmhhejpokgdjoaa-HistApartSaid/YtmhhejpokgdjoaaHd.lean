/- The walks of package hist: Push (both ways), Clone, Steps. -/
import Derived.Test.YtmhhejpokgdjoaaHc
import Derived.Test.YtmhhejpokgdjoaaIt
namespace Go.Proofs.Ytmhhejpokgdjoaa
open Go Go.RowKit
set_option linter.unusedVariables false
set_option linter.unusedSimpArgs false
attribute [local go_sem] Oper.semAt_some

theorem push_s (b : Nat) (h : HS) (v : Value) (l : List E) (w : World) (hh : HistS w b h) (hv : MapV w v l) (hl : l.length ≤ 200) :
    Calls Try.prog 14 #[.pointer (some ⟨b, 0, none⟩), v] w fun e w' => e = .returned (.int .i64 (if 32 ≤ h.2 then 110 else 0)) ∧ HistS w' b (pushH h l) ∧ Only b w w' := by
  obtain ⟨vs, i⟩ := h
  unfold pushH
  dsimp only
  by_cases hi : 32 ≤ i
  · rw [if_pos hi, if_pos hi]
    refine (push_full b vs i v w hh hi).mono ?_
    rintro e w' ⟨rfl, hb⟩
    exact ⟨rfl, HistL.ext hh hb, Only.of_below hb⟩
  · rw [if_neg hi, if_neg hi]
    refine (push_to b vs i v l w hh (by omega) hv hl).mono ?_
    rintro e w' ⟨rfl, h1, h2⟩
    exact ⟨rfl, h1, h2⟩
set_option maxRecDepth 100000 in
theorem hclone_any (b : Nat) (vs : List (List E)) (i : Nat) (w : World) (h : HistL w b vs i) :
    Calls Try.prog 22 #[.pointer (some ⟨b, 0, none⟩)] w fun e w' => ∃ c, e = .returned (.pointer (some ⟨c, 0, none⟩)) ∧ HistL w' c vs i ∧ w.heap.size ≤ c ∧ Below w.heap.size w w' := by
  obtain ⟨ps, hp, rfl⟩ := h
  have HP := Lib.hid hp
  obtain ⟨a, c, h1, h2, h3⟩ := hp.cells
  have hil := hp.lt
  have hpl := hp.len
  have k0 := h1.cell (i := 0) rfl
  have k1 := h1.cell (i := 1) rfl
  have hcl := Lib.hid (clone_any _ ps w.drew (h2.ext (Below.refl _ _).drew) (by intro e; rw [e] at hil; simp at hil) (by omega))
  have H1 := Lib.hid h1
  clear hp h1 h2
  go_enter Try.func22, Try.ntmps22
  go_wp2
  refine rgnH [[0, 1, 2, 3, 5, 6, 7, 8, 4], [9, 10], [11]] [] [8] [⟨b, 1, none⟩] (ord_fast (by kernel_rfl)) (by simp) ?_ ?_
  · intro p hp
    simp only [List.mem_singleton] at hp
    subst hp
    rw [k1]; rfl
  unfold seg
  simp only [pickL, List.getD_cons_zero, List.getD_cons_succ]
  go_wp2_with fail
  refine hcl.out.mono ?_
  rintro e w1 ⟨v1, rfl, ho1, hb1⟩
  obtain ⟨y1, y2, rfl, hf⟩ := own_fits ho1
  have hb1' := below_of_drew hb1
  have hal : Below w1.heap.size w1 (w1.alloc (.cells #[.slice y1 ps.length y2, .int .i64 (i : Nat)] 83)) := (Below.refl _ _).alloc (Nat.le_refl _) _
  have hb2 := hb1'.trans (hal.mono hb1'.size)
  have SM : ∀ W, Below w.heap.size w W → SameAt [⟨b, 1, none⟩] w W := by
    intro W hW p hp
    simp only [List.mem_singleton] at hp
    subst hp
    rw [k1, (H1.out.ext hW).cell (i := 1) rfl]
  have HC : Hid (HistP (w1.alloc (.cells #[.slice y1 ps.length y2, .int .i64 (i : Nat)] 83)) w1.heap.size ps i) := Lib.hid
    ⟨⟨y1, y2, Holds.alloc w1 (hCells (.slice y1 ps.length y2) (i : Nat)) _, (ho1.below hal).rd encP_len, hf⟩, fun p hp => (HP.out.maps p hp).ext hb2, HP.out.small, hil, hpl⟩
  have B1 := Lib.hid hb1'
  have B2 := Lib.hid hb2
  clear ho1 hb1 hb1' hal hb2 hcl
  go_wp2
  refine ⟨SM _ B1.out, ?_⟩
  unfold seg
  simp only [pickL, List.getD_cons_zero, List.getD_cons_succ]
  go_wp2
  refine ⟨SM _ B2.out, ?_⟩
  unfold seg
  simp only [pickL, List.getD_cons_zero, List.getD_cons_succ]
  go_wp2
  refine ⟨SM _ B2.out, rfl, ⟨.inl rfl, trivial⟩, ?_⟩
  go_wp2
  go_returns
  exact ⟨_, rfl, ⟨ps, HC.out, rfl⟩, B1.out.size, B2.out⟩
theorem rd_at {w : World} {g o n c k : Nat} {ps : List (Nat × List E)} {p : Nat × List E} (h : Rd w 1 encP (.slice (some ⟨g, o, none⟩) n c) ps) (hk : ps[k]? = some p) : w.cell? ⟨g, o + k, none⟩ = some (.pointer (some ⟨p.1, 0, none⟩)) := by
  obtain ⟨a', c', hs, hnil | ⟨g', o', he, hg, hc⟩⟩ := h
  · subst hnil; simp at hk
  · simp only [Value.slice.injEq] at hs
    obtain ⟨rfl, _, _⟩ := hs
    cases he
    have := hc k p 0 _ hk rfl
    simpa using this
theorem rd_some {w : World} {a : Option Addr} {n c : Nat} {ps : List (Nat × List E)} (h : Rd w 1 encP (.slice a n c) ps) (hne : ps ≠ []) : ∃ g o, a = some ⟨g, o, none⟩ := by
  obtain ⟨a', c', hs, hnil | ⟨g', o', he, hg, hc⟩⟩ := h
  · exact absurd hnil hne
  · simp only [Value.slice.injEq] at hs
    exact ⟨g', o', hs.1.trans he⟩
def stepsV (b : Nat) : Value := .func (.func 50) #[.pointer (some ⟨b, 0, none⟩)] #[]
theorem steps_make (b : Nat) (w : World) : Calls Try.prog 30 #[.pointer (some ⟨b, 0, none⟩)] w fun e w' => e = .returned (stepsV b) ∧ w' = w := by
  go_enter Try.func30, Try.ntmps30
  go_wp2
  go_returns
  exact ⟨rfl, rfl⟩
/-- The versions with their numbers. -/
def stL : List (Nat × List E) → Int → List (Int × (Nat × List E))
  | [], _ => []
  | p :: ps, n => (n, p) :: stL ps (n + 1)
theorem stL_get : ∀ (ps : List (Nat × List E)) (n : Int) (k : Nat) (p : Nat × List E), ps[k]? = some p → (stL ps n)[k]? = some (n + k, p)
  | [], n, k, p, h => by simp at h
  | q :: ps, n, 0, p, h => by
    simp only [List.getElem?_cons_zero, Option.some.injEq] at h
    subst h
    simp [stL]
  | q :: ps, n, k + 1, p, h => by
    simp only [List.getElem?_cons_succ] at h
    show (stL ps (n + 1))[k]? = _
    rw [stL_get ps (n + 1) k p h]
    congr 2
    push_cast
    omega
theorem stL_len : ∀ (ps : List (Nat × List E)) (n : Int), (stL ps n).length = ps.length
  | [], _ => rfl
  | p :: ps, n => by show (stL ps (n + 1)).length + 1 = _; rw [stL_len ps]; rfl
def encSt (x : Int × (Nat × List E)) : Array Value := #[.int .i64 x.1, .pointer (some ⟨x.2.1, 0, none⟩)]
set_option maxRecDepth 100000 in
set_option maxHeartbeats 800000 in
theorem steps_gives (b i c : Nat) (a : Option Addr) (ps : List (Nat × List E)) (hi : i < ps.length) (hl : ps.length ≤ 33) :
    Gives Try.prog (stepsV b) encSt (stL ps (-(i : Int))) (fun W => Holds W b (hCells (.slice a ps.length c) (i : Nat)) ∧ Rd W 1 encP (.slice a ps.length c) ps) := by
  intro Y Inv Brk W hg hD hY h0
  refine callV_func (Go.Proofs.enters_of Try.func50 (by kernel_rfl) rfl) ?_
  have h1 := (hD _ _ h0).1
  obtain ⟨g, o, rfl⟩ := rd_some (hD _ _ h0).2 (by intro e; rw [e] at hi; simp at hi)
  have k0 := h1.cell (i := 0) rfl
  show Calls Try.prog 50 #[.pointer (some ⟨b, 0, none⟩), Y] W _
  have I0 := Lib.hid h0
  have HDD := Lib.hid hD
  have HYY := Lib.hid hY
  have HG := Lib.hid hg
  clear h0 hD hY h1 hg
  refine (callsIn_wide (n := 0)).1 (callsIn_of_wp Try.func50 rfl trivial ?_)
  simp only [Try.ntmps50, List.size_toArray, List.length_cons, List.length_nil, Nat.reduceAdd, Nat.reduceSub, Array.replicate_succ, Array.replicate_zero, List.push_toArray, List.append_toArray, List.nil_append, List.cons_append]
  gi_wp2
  gi_loopw [11] (fun k wr => ∃ m : Nat, m ≤ ps.length ∧ k = .int .i64 (m : Int) ∧ Inv ((stL ps (-(i : Int))).take m) wr) (fun k _ => ps.length - (intOf k).toNat)
  case atStart => exact ⟨0, by omega, rfl, I0.out⟩
  case round =>
    obtain ⟨m, hm, rfl, hI⟩ := hrel
    by_cases hml : m < ps.length
    · have e1 : ps[m]? = some ps[m] := List.getElem?_eq_getElem hml
      have hst := stL_get ps (-(i : Int)) m ps[m] e1
      obtain ⟨q1, q2⟩ := HDD.out _ _ hI
      have c1 := q1.cell (i := 1) rfl
      have c2 := rd_at q2 e1
      generalize ps[m] = p at e1 hst c2
      have hlt : m < (stL ps (-(i : Int))).length := by rw [stL_len]; exact hml
      have htk : (stL ps (-(i : Int))).take (m + 1) = (stL ps (-(i : Int))).take m ++ [(-(i : Int) + m, p)] := by
        rw [List.take_succ_eq_append_getElem hlt]
        congr 2
        rw [List.getElem?_eq_getElem hlt] at hst
        exact Option.some.inj hst
      have hspl : stL ps (-(i : Int)) = (stL ps (-(i : Int))).take m ++ (-(i : Int) + m, p) :: (stL ps (-(i : Int))).drop (m + 1) := by
        rw [← List.singleton_append, ← List.append_assoc, ← htk, List.take_append_drop]
      have hyc := HYY.out _ _ _ hspl _ hI
      rw [← htk, show -(i : Int) + (m : Int) = (m : Int) - (i : Int) by omega] at hyc
      rw [show -(i : Int) + (m : Int) = (m : Int) - (i : Int) by omega] at hspl htk
      have hd : decide ((m : Int) < (ps.length : Int)) = true := by simp; omega
      have HYC := Lib.hid hyc
      have HSP := Lib.hid hspl
      have HTK := Lib.hid htk
      clear hyc hspl htk hst e1 hI q1 q2 hlt
      gi_wp2_with (refine wpListIn_callV (open_wide _) rfl _ _ _ rfl (vs := encSt ((m : Int) - (i : Int), p)) rfl (by simp [encSt, Act.eval]) ?_; refine HYC.out.mono ?_; rintro e W' hor; rcases hor with ⟨rfl, hi'⟩ | ⟨rfl, hbk⟩)
      · go_roundw
        case rel => exact ⟨m + 1, by omega, by go_num, hi'⟩
        case measure => simp [intOf]; omega
      · refine bodyPost_ret (results_none rfl _ _ _) rfl ?_
        exact ⟨⟨_, rfl⟩, .inr ⟨_, _, _, HSP.out, by rw [← HTK.out]; exact hbk⟩⟩
    · obtain rfl : m = ps.length := by omega
      rw [List.take_of_length_le (by rw [stL_len]; exact Nat.le_refl _)] at hI
      have HI := Lib.hid hI
      have hno : decide ((ps.length : Int) < (ps.length : Int)) = false := by simp
      clear hI
      gi_wp2
      go_end0
      exact ⟨⟨_, rfl⟩, .inl HI.out⟩
end Go.Proofs.Ytmhhejpokgdjoaa
