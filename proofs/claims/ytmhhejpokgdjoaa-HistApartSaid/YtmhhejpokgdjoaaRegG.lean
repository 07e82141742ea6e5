/- The check of an order (ordAll), with what waits for what reckoned once: fast. -/
import Derived.Test.YtmhhejpokgdjoaaRegE
namespace Go.Proofs.Ytmhhejpokgdjoaa
open Go Go.RowKit
set_option linter.unusedVariables false

/-- Which operations stand ahead of one, as bits. -/
def ancO (acc : List Nat) (es : List Edge) : Nat := es.foldl (fun m e => if Region.binds .any e then m ||| (2 ^ e.on ||| acc.getD e.on 0) else m) 0
def ancL : List Oper → List Nat → List Nat
  | [], acc => acc
  | o :: r, acc => ancL r (acc ++ [ancO acc o.after.toList])
theorem ancO_bit {acc : List Nat} {i : Nat} : ∀ (es : List Edge) (m : Nat), (es.foldl (fun m e => if Region.binds .any e then m ||| (2 ^ e.on ||| acc.getD e.on 0) else m) m).testBit i = true →
    m.testBit i = true ∨ ∃ e ∈ es, Region.binds .any e = true ∧ (e.on = i ∨ (acc.getD e.on 0).testBit i = true)
  | [], m, h => .inl h
  | e :: es, m, h => by
    rw [List.foldl_cons] at h
    rcases ancO_bit es _ h with h1 | ⟨e', he', h2⟩
    · by_cases hb : Region.binds .any e = true
      · rw [if_pos hb, Nat.testBit_or, Nat.testBit_or] at h1
        simp only [Bool.or_eq_true] at h1
        rcases h1 with h1 | h1 | h1
        · exact .inl h1
        · rw [Nat.testBit_two_pow] at h1
          exact .inr ⟨e, List.mem_cons_self .., hb, .inl (by simpa using h1)⟩
        · exact .inr ⟨e, List.mem_cons_self .., hb, .inr h1⟩
      · rw [if_neg hb] at h1
        exact .inl h1
    · exact .inr ⟨e', List.mem_cons_of_mem _ he', h2⟩
theorem depB_succ {ops : Array Oper} {i : Nat} : ∀ (n j : Nat), depB .any ops i n j = true → depB .any ops i (n + 1) j = true
  | 0, j, h => by cases h
  | n + 1, j, h => by
    unfold depB at h ⊢
    cases ho : ops[j]? with
    | none => rw [ho] at h; cases h
    | some o =>
      rw [ho] at h
      dsimp only at h ⊢
      obtain ⟨e, he, h⟩ := Array.any_eq_true'.1 h
      refine Array.any_eq_true'.2 ⟨e, he, ?_⟩
      simp only [Bool.and_eq_true, Bool.or_eq_true] at h ⊢
      exact ⟨h.1, h.2.imp id (depB_succ n e.on)⟩
theorem depB_le {ops : Array Oper} {i n m j : Nat} (h : depB .any ops i n j = true) (hm : n ≤ m) : depB .any ops i m j = true := by
  induction hm with
  | refl => exact h
  | step _ ih => exact depB_succ _ _ ih
theorem ancL_bit {ops : Array Oper} : ∀ (r pre : List Oper) (acc : List Nat), ops.toList = pre ++ r → acc.length = pre.length → (∀ j m i, acc[j]? = some m → m.testBit i = true → depB .any ops i (j + 1) j = true) →
    ∀ j m i, (ancL r acc)[j]? = some m → m.testBit i = true → depB .any ops i (j + 1) j = true
  | [], pre, acc, _, _, h => h
  | o :: r, pre, acc, ho, hl, h => by
    refine ancL_bit r (pre ++ [o]) _ (by rw [ho]; simp) (by simp [hl]) ?_
    intro j m i hj hm
    rcases Nat.lt_or_ge j acc.length with hlt | hge
    · rw [List.getElem?_append_left hlt] at hj
      exact h j m i hj hm
    · have hjl : j = acc.length := by
        have := (List.getElem?_eq_some_iff.1 hj).1
        simp at this
        omega
      subst hjl
      rw [List.getElem?_append_right (Nat.le_refl _), Nat.sub_self, List.getElem?_cons_zero] at hj
      cases hj
      have hoj : ops[acc.length]? = some o := by
        rw [← Array.getElem?_toList, ho, hl, List.getElem?_append_right (Nat.le_refl _), Nat.sub_self]
        rfl
      rcases ancO_bit _ _ hm with h0 | ⟨e, he, hb, h1⟩
      · simp at h0
      · unfold depB
        rw [hoj]
        dsimp only
        refine Array.any_eq_true'.2 ⟨e, by simpa using he, ?_⟩
        simp only [Bool.and_eq_true, Bool.or_eq_true, beq_iff_eq]
        refine ⟨hb, h1.imp id fun h2 => ?_⟩
        have hlt : e.on < acc.length := by
          apply Classical.byContradiction
          intro hn
          rw [List.getD_eq_getElem?_getD, List.getElem?_eq_none (by omega)] at h2
          simp at h2
        rw [List.getD_eq_getElem?_getD, List.getElem?_eq_getElem hlt] at h2
        exact depB_le (h e.on _ i (List.getElem?_eq_getElem hlt) h2) (by omega)
theorem anc_dep {l : List Oper} {i j : Nat} (h : ((ancL l []).getD j 0).testBit i = true) : depB .any l.toArray i l.toArray.size j = true := by
  have hj : j < (ancL l []).length := by
    apply Classical.byContradiction
    intro hn
    rw [List.getD_eq_getElem?_getD, List.getElem?_eq_none (by omega)] at h
    simp at h
  have hlen : ∀ (r : List Oper) (acc : List Nat), (ancL r acc).length = acc.length + r.length := by
    intro r
    induction r with
    | nil => intro acc; rfl
    | cons o r ih =>
      intro acc
      show (ancL r _).length = _
      rw [ih]
      simp
      omega
  rw [List.getD_eq_getElem?_getD, List.getElem?_eq_getElem hj] at h
  have := ancL_bit (ops := l.toArray) l [] [] (by simp) rfl (by simp) j _ i (List.getElem?_eq_getElem hj) h
  refine depB_le this ?_
  rw [hlen] at hj
  simp at hj ⊢
  omega
def stepOkF (P : Program) (ops : Array Oper) (anc : List Nat) (listed : Array Bool) (D H : List Nat) (i : Nat) : Bool :=
  match ops[i]? with
  | none => false
  | some oi => (Region.ready .any ops listed).contains i && (!(decide (cls P oi ≤ 1) && needsDyn oi) || D.contains i) && (!H.contains i || heldOp P oi) &&
      ((decide (cls P oi ≤ 1) && (List.range ops.size).all fun j => j == i || listed.getD j true || (anc.getD j 0).testBit i ||
          match ops[j]? with | some oj => oi.apart ops oj && (cls P oi == 0 || H.contains i || decide (cls P oj ≤ 1)) | none => true) || Region.ready .any ops listed == [i])
def ordOkF (P : Program) (ops : Array Oper) (anc D H X : List Nat) : Array Bool → List Nat → Bool
  | listed, [] => Region.ready .any ops listed == X
  | listed, i :: r => stepOkF P ops anc listed D H i && (!(D.contains i || H.contains i) || lateOk ops i (i :: r)) && ordOkF P ops anc D H X (listed.setIfInBounds i true) r
def ordAllF (P : Program) (l : List Oper) (ss : List (List Nat)) (D H : List Nat) (X : List Nat := []) : Bool :=
  plainOps l.toArray && ss.flatten.length + X.length == l.length && ordOkF P l.toArray (ancL l []) D H X (Array.replicate l.length false) ss.flatten && P.follows .mixedOrders && (H.isEmpty || ss.all (lastOk P l.toArray)) && X.all fun x => (List.range l.length).all fun i => i == x || ((ancL l []).getD x 0).testBit i
theorem stepOk_of {P : Program} {l : List Oper} {listed : Array Bool} {D H : List Nat} {i : Nat} (h : stepOkF P l.toArray (ancL l []) listed D H i = true) : stepOk P l.toArray listed D H i = true := by
  unfold stepOkF at h
  unfold stepOk
  cases ho : l.toArray[i]? with
  | none => rw [ho] at h; cases h
  | some oi =>
    rw [ho] at h
    dsimp only at h ⊢
    simp only [Bool.and_eq_true, Bool.or_eq_true, List.all_eq_true] at h ⊢
    refine ⟨h.1, h.2.imp (fun ⟨h1, h2⟩ => ⟨h1, fun j hj => ?_⟩) id⟩
    rcases h2 j hj with (h3 | h3) | h3
    · exact .inl (.inl h3)
    · exact .inl (.inr (anc_dep h3))
    · exact .inr h3
theorem ordOk_of {P : Program} {l : List Oper} {D H X : List Nat} : ∀ (r : List Nat) (listed : Array Bool), ordOkF P l.toArray (ancL l []) D H X listed r = true → ordOk P l.toArray D H X listed r = true
  | [], listed, h => h
  | i :: r, listed, h => by
    unfold ordOkF at h
    unfold ordOk
    simp only [Bool.and_eq_true] at h ⊢
    exact ⟨⟨stepOk_of h.1.1, h.1.2⟩, ordOk_of r _ h.2⟩
theorem ord_fast {P : Program} {l : List Oper} {ss : List (List Nat)} {D H X : List Nat} (h : ordAllF P l ss D H X = true) : ordAll P l ss D H X = true := by
  unfold ordAllF at h
  unfold ordAll
  simp only [Bool.and_eq_true] at h ⊢
  obtain ⟨⟨⟨⟨⟨h1, h2⟩, h3⟩, h4⟩, h5⟩, h6⟩ := h
  refine ⟨⟨⟨⟨⟨h1, h2⟩, ordOk_of _ _ h3⟩, h4⟩, h5⟩, ?_⟩
  rw [List.all_eq_true] at h6 ⊢
  intro x hx
  have := h6 x hx
  rw [List.all_eq_true] at this ⊢
  intro i hi
  have := this i hi
  simp only [Bool.or_eq_true] at this ⊢
  refine this.imp id fun h => ?_
  have := anc_dep h
  simpa using this
end Go.Proofs.Ytmhhejpokgdjoaa
