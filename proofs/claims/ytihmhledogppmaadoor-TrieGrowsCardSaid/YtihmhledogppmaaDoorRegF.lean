/- A region whose order Go leaves open, walked along a plan that may fork: where two operations of class 2 are ready, each comes first once. Rules 'rgnTIn', 'rgnT'. -/
import Derived.Test.YtihmhledogppmaaDoorRegE
namespace Go.Proofs.YtihmhledogppmaaDoor
open Go Go.RowKit
set_option linter.unusedSimpArgs false
set_option linter.unusedVariables false

/-- A plan: some operations, then on; or one of two, each with its own way on. -/
inductive Pl where
  | fin
  | seg (s : List Nat) (p : Pl)
  | two (i j : Nat) (p q : Pl)
  | three (i j k : Nat) (p q r : Pl)
def Pl.path : Pl → List Nat
  | .fin => []
  | .seg s p => s ++ p.path
  | .two i _ p _ => i :: p.path
  | .three i _ _ p _ _ => i :: p.path
def Pl.len : Pl → Nat
  | .fin => 0
  | .seg s p => s.length + p.len
  | .two _ _ p _ => p.len + 1
  | .three _ _ _ p _ _ => p.len + 1
def ordL (P : Program) (ops : Array Oper) (D H : List Nat) (rest : List Nat) (k : Array Bool → Bool) : Array Bool → List Nat → Bool
  | listed, [] => k listed
  | listed, i :: r => stepOk P ops listed D H i && (!(D.contains i || H.contains i) || lateOk ops i (i :: (r ++ rest))) && ordL P ops D H rest k (listed.setIfInBounds i true) r
def ordP (P : Program) (ops : Array Oper) (D H X : List Nat) (any : Bool) : Pl → Array Bool → Bool
  | .fin, listed => Region.ready .any ops listed == X
  | .seg s p, listed => (!any || lastOk P ops s) && ordL P ops D H p.path (ordP P ops D H X any p) listed s
  | .two i j p q, listed => Region.ready .any ops listed == [i, j] && (match ops[i]?, ops[j]? with | some oi, some oj => (decide (1 < cls P oi) || !needsDyn oi) && (decide (1 < cls P oj) || !needsDyn oj) | _, _ => false) && p.len == q.len && q.path.all (fun k => decide (k < ops.size)) && ordP P ops D H X any p (listed.setIfInBounds i true) && ordP P ops D H X any q (listed.setIfInBounds j true)
  | .three i j k p q r, listed => Region.ready .any ops listed == [i, j, k] && (match ops[i]?, ops[j]?, ops[k]? with | some oi, some oj, some ok => (decide (1 < cls P oi) || !needsDyn oi) && (decide (1 < cls P oj) || !needsDyn oj) && (decide (1 < cls P ok) || !needsDyn ok) | _, _, _ => false) && p.len == q.len && p.len == r.len && q.path.all (fun k => decide (k < ops.size)) && r.path.all (fun k => decide (k < ops.size)) && ordP P ops D H X any p (listed.setIfInBounds i true) && ordP P ops D H X any q (listed.setIfInBounds j true) && ordP P ops D H X any r (listed.setIfInBounds k true)
def ordT (P : Program) (l : List Oper) (p : Pl) (D H X : List Nat) : Bool :=
  plainOps l.toArray && p.len + X.length == l.length && p.path.all (fun k => decide (k < l.length)) && ordP P l.toArray D H X (!H.isEmpty) p (Array.replicate l.length false) && P.follows .mixedOrders && X.all fun x => (List.range l.length).all fun i => i == x || depB .any l.toArray i l.length x
def plIn (F : Fence) (n : Nat) (P : Program) (l : List Oper) (S : World → Prop) (K : Act → World → Prop) : Pl → Act → World → Prop
  | .fin, a, w => K a w
  | .seg s p, a, w => wpListIn F n P l.toArray (OnlyN fun a1 w1 => S w1 ∧ plIn F n P l S K p a1 w1) (pickL l s) a w
  | .two i j p q, a, w => wpListIn F n P l.toArray (OnlyN fun a1 w1 => S w1 ∧ plIn F n P l S K p a1 w1) (pickL l [i]) a w ∧ wpListIn F n P l.toArray (OnlyN fun a1 w1 => S w1 ∧ plIn F n P l S K q a1 w1) (pickL l [j]) a w
  | .three i j k p q r, a, w => wpListIn F n P l.toArray (OnlyN fun a1 w1 => S w1 ∧ plIn F n P l S K p a1 w1) (pickL l [i]) a w ∧ wpListIn F n P l.toArray (OnlyN fun a1 w1 => S w1 ∧ plIn F n P l S K q a1 w1) (pickL l [j]) a w ∧ wpListIn F n P l.toArray (OnlyN fun a1 w1 => S w1 ∧ plIn F n P l S K r a1 w1) (pickL l [k]) a w
def pl (P : Program) (l : List Oper) (S : World → Prop) (K : Act → World → Prop) : Pl → Act → World → Prop
  | .fin, a, w => K a w
  | .seg s p, a, w => wpList P l.toArray (OnlyN fun a1 w1 => S w1 ∧ pl P l S K p a1 w1) (pickL l s) a w
  | .two i j p q, a, w => wpList P l.toArray (OnlyN fun a1 w1 => S w1 ∧ pl P l S K p a1 w1) (pickL l [i]) a w ∧ wpList P l.toArray (OnlyN fun a1 w1 => S w1 ∧ pl P l S K q a1 w1) (pickL l [j]) a w
  | .three i j k p q r, a, w => wpList P l.toArray (OnlyN fun a1 w1 => S w1 ∧ pl P l S K p a1 w1) (pickL l [i]) a w ∧ wpList P l.toArray (OnlyN fun a1 w1 => S w1 ∧ pl P l S K q a1 w1) (pickL l [j]) a w ∧ wpList P l.toArray (OnlyN fun a1 w1 => S w1 ∧ pl P l S K r a1 w1) (pickL l [k]) a w

section
variable {F : Fence} {n : Nat} {P : Program} {l : List Oper} {Q : Exit → Act → World → Prop} {D H X : List Nat} {B : Array Bool → Act → World → Prop} {K0 : Act → World → Prop} {S : World → Prop}

theorem reachesP (hD : F.depth = none) : ∀ (p : Pl) (a : Act) (w : World), plIn F n P l S K0 p a w →
    ∃ a' w', K0 a' w' ∧ ∀ t, (∀ k ∈ p.path, ∀ o, l[k]? = some o → o.dst ≠ some t) → (∀ k ∈ p.path, k < l.length) → a'.tmps[t]? = a.tmps[t]?
  | .fin, a, w, h => ⟨a, w, h, fun _ _ _ => rfl⟩
  | .seg s p, a, w, h => by
    unfold plIn at h
    obtain ⟨a1, w1, ⟨_, h1⟩, t1⟩ := reach1 hD s a w h
    obtain ⟨a2, w2, h2, t2⟩ := reachesP hD p a1 w1 h1
    refine ⟨a2, w2, h2, fun t ht hl => ?_⟩
    simp only [Pl.path, List.mem_append] at ht hl
    rw [t2 t (fun k hk => ht k (.inr hk)) (fun k hk => hl k (.inr hk)), t1 t (fun k hk => ht k (.inl hk)) (fun k hk => hl k (.inl hk))]
  | .two i j p q, a, w, h => by
    unfold plIn at h
    obtain ⟨a1, w1, ⟨_, h1⟩, t1⟩ := reach1 hD [i] a w h.1
    obtain ⟨a2, w2, h2, t2⟩ := reachesP hD p a1 w1 h1
    refine ⟨a2, w2, h2, fun t ht hl => ?_⟩
    simp only [Pl.path, List.mem_cons] at ht hl
    rw [t2 t (fun k hk => ht k (.inr hk)) (fun k hk => hl k (.inr hk)), t1 t (fun k hk => ht k (.inl (by simpa using hk))) (fun k hk => hl k (.inl (by simpa using hk)))]
  | .three i j k p q r, a, w, h => by
    unfold plIn at h
    obtain ⟨a1, w1, ⟨_, h1⟩, t1⟩ := reach1 hD [i] a w h.1
    obtain ⟨a2, w2, h2, t2⟩ := reachesP hD p a1 w1 h1
    refine ⟨a2, w2, h2, fun t ht hl => ?_⟩
    simp only [Pl.path, List.mem_cons] at ht hl
    rw [t2 t (fun k hk => ht k (.inr hk)) (fun k hk => hl k (.inr hk)), t1 t (fun k hk => ht k (.inl (by simpa using hk))) (fun k hk => hl k (.inl (by simpa using hk)))]

theorem run_stepP (hQ : ∀ c a w, ¬ Q (.panic c) a w) (hBare : Bare .any l.toArray B) (hp : plainOps l.toArray = true) (hF : ∀ f, F.fn f) (hD : F.depth = none) {ps : List Addr} {w0 : World} (hv : ∀ p ∈ ps, (w0.cell? p).isSome = true)
    (hS : S = SameAt ps w0) (hK : ∀ a w, K0 a w → chkD l a D = true ∧ chkH l a H ps) {p : Pl} {m : Nat} {s : List Nat} {i : Nat} {listed : Array Bool} {a : Act} {w : World}
    (ih : ∀ a w, S w → wpListIn F n P l.toArray (OnlyN fun a1 w1 => S w1 ∧ plIn F n P l S K0 p a1 w1) (pickL l s) a w → wpD F n P .any l.toArray S Q B m (listed.setIfInBounds i true) a w)
    (hst : stepOk P l.toArray listed D H i = true) (hlt : (!(D.contains i || H.contains i) || lateOk l.toArray i (i :: (s ++ p.path))) = true) (hL : ∀ k ∈ s ++ p.path, k < l.length) (hla : ps = [] ∨ lastOk P l.toArray (i :: s) = true) (hs : Shutl .any l.toArray listed) (hSw : S w)
    (h : wpListIn F n P l.toArray (OnlyN fun a1 w1 => S w1 ∧ plIn F n P l S K0 p a1 w1) (pickL l (i :: s)) a w) : wpD F n P .any l.toArray S Q B (m + 1) listed a w := by
  unfold stepOk at hst
  cases hi : l.toArray[i]? with
  | none => rw [hi] at hst; cases hst
  | some oi =>
    rw [hi] at hst
    simp only [Bool.and_eq_true, Bool.or_eq_true] at hst
    obtain ⟨⟨⟨hrd, hneed⟩, hheld⟩, hch⟩ := hst
    have hr : i ∈ Region.ready .any l.toArray listed := by simpa using hrd
    have hil : l[i]? = some oi := by simpa using hi
    have hg : l.getD i default = oi := by simp [List.getD_eq_getElem?_getD, hil]
    unfold pickL wpListIn at h
    rw [hg] at h
    -- what the end shows
    have hend : (D.contains i || H.contains i) = true → Region.wanted oi (yielded l.toArray a.tmps) = true → ∃ a', chkD l a' D = true ∧ chkH l a' H ps ∧ (∀ x ∈ oi.op.operands, a'.eval x = a.eval x) ∧ Region.wanted oi (yielded l.toArray a'.tmps) = Region.wanted oi (yielded l.toArray a.tmps) := by
      intro hDH hw
      rw [hDH] at hlt
      rw [if_pos hw] at h
      obtain ⟨b, v, w', hb, hk⟩ := upon_next hD h.2
      obtain ⟨a1, w1, ⟨_, h1⟩, t1⟩ := reach1 hD s _ _ hk
      obtain ⟨a', w2, hk0, t2⟩ := reachesP hD p _ _ h1
      obtain ⟨c1, c2⟩ := hK _ _ hk0
      refine ⟨a', c1, c2, ?_⟩
      refine same_eval (o := oi) (ops := l.toArray) fun t htm => ?_
      have hlt : lateOk l.toArray i (i :: (s ++ p.path)) = true := by simpa using hlt
      unfold lateOk at hlt
      rw [hi] at hlt
      have hlt := fun k hk => List.all_eq_true.1 hlt k hk
      have hown : oi.dst ≠ some t := by
        intro e
        have := hlt i List.mem_cons_self
        rw [hi] at this
        dsimp only at this
        rw [e] at this
        simp [htm] at this
      have hno : ∀ k ∈ s ++ p.path, ∀ o, l[k]? = some o → o.dst ≠ some t := by
        intro k hk o ho e
        have := hlt k (List.mem_cons_of_mem _ hk)
        have hk2 : l.toArray[k]? = some o := by simpa using ho
        rw [hk2] at this
        dsimp only at this
        rw [e] at this
        simp [htm] at this
      rw [t2 t (fun k hk => hno k (List.mem_append_right _ hk)) (fun k hk => hL k (List.mem_append_right _ hk)),
        t1 t (fun k hk => hno k (List.mem_append_left _ hk)) (fun k hk => hL k (List.mem_append_left _ hk))]
      cases hd : oi.dst with
      | none => simp [Act.put, hb]
      | some d =>
        have : d ≠ t := fun e => hown (by rw [hd, e])
        simp [Act.put, hb, Array.getElem?_setIfInBounds_ne this]
    have hdy : Region.wanted oi (yielded l.toArray a.tmps) = true → cls P oi ≤ 1 → dyn oi a = true := by
      intro hw hc
      cases hnd : needsDyn oi with
      | false => exact dyn_free hnd
      | true =>
        have hmem : D.contains i = true := by
          rcases hneed with h1 | h1
          · simp [hc, hnd] at h1
          · exact h1
        obtain ⟨a', c1, _, hev, hwd⟩ := hend (by rw [hmem]; rfl) hw
        rw [← same_dyn hev]
        exact chkD_mem c1 hmem hil (by rw [hwd]; exact hw)
    have hfirm : Region.wanted oi (yielded l.toArray a.tmps) = true → H.contains i = true → Firm P S oi a := by
      intro hw hmem
      have hho : heldOp P oi = true := hheld.resolve_left (by rw [hmem]; simp)
      unfold heldOp at hho
      cases hop : oi.op <;> rw [hop] at hho <;> (first | (cases hho; done) | skip)
      rename_i t x
      cases x <;> (first | (cases hho; done) | skip)
      rename_i tt
      obtain ⟨a', _, c2, hev, _⟩ := hend (by rw [hmem, Bool.or_true]) hw
      have hx := hev (.tmp tt) (by rw [hop]; simp [Op.operands])
      rw [hS]
      refine firm_load hop hho hv ?_
      rw [← hx]
      exact chkH_mem c2 hmem hil hop
    have hS1 : ∀ a w1, 1 < cls P oi → wpListIn F n P l.toArray (OnlyN fun a1 w1 => S w1 ∧ plIn F n P l S K0 p a1 w1) (pickL l s) a w1 → S w1 := by
      intro a w1 hc hr1
      rcases hla with hps | hla
      · rw [hS, hps]; intro p hp; cases hp
      · unfold lastOk at hla
        rw [hi] at hla
        simp only [Bool.and_eq_true, Bool.or_eq_true, decide_eq_true_eq] at hla
        rcases hla.1 with he | he
        · have : s = [] := by simpa using he
          subst this
          exact hr1.1
        · omega
    by_cases hcl : cls P oi ≤ 1
    · have key : ∀ firm, (firm = true → cls P oi = 0 ∨ H.contains i = true) →
          (∀ j oj, l.toArray[j]? = some oj → j ≠ i → listed.getD j true = false → depB .any l.toArray i l.toArray.size j = false → oi.apart l.toArray oj = true ∧ (firm = true ∨ cls P oj ≤ 1)) →
          wpD F n P .any l.toArray S Q B (m + 1) listed a w := by
        intro firm hf hap
        have hdd : Region.wanted oi (yielded l.toArray a.tmps) = true → dyn oi a = true ∧ (firm = true → Firm P S oi a) := fun hw =>
          ⟨hdy hw hcl, fun hff => by
            rcases hf hff with h0 | hm
            · exact firm_of h0 (hdy hw hcl)
            · exact hfirm hw hm⟩
        by_cases hw : Region.wanted oi (yielded l.toArray a.tmps) = true
        · rw [if_pos hw] at h
          have hup := h.2
          rw [Oper.semAt_eq _ _ _ (plain_sel hp hi).2] at hup
          cases hrun : (execOp a.eval oi).run P w with
          | ok x w' =>
            obtain ⟨hw', u, hu⟩ := keeps_of hcl (hdy hw hcl) _ _ _ hrun
            subst hu hw'
            rw [hrun] at hup
            exact take hBare hi hcl hp hQ hF _ listed a w' u hs hr hSw hap hdd (.inl ⟨hw, hrun⟩) (ih _ _ hSw hup)
          | halt x w' =>
            rw [hrun] at hup
            cases x <;> simp only [Oper.uponIn] at hup <;> exact (hup : False).elim
        · rw [if_neg hw] at h
          exact take hBare hi hcl hp hQ hF _ listed a w undef hs hr hSw hap hdd (.inr ⟨by simpa using hw, rfl⟩) (ih _ _ hSw h.2)
      rcases hch with ⟨_, hall⟩ | hone
      · refine key (cls P oi == 0 || H.contains i) (fun h => by simpa using h) fun j oj hj hne hun hdep => ?_
        have := List.all_eq_true.1 hall j (List.mem_range.2 (Array.getElem?_eq_some_iff.1 hj).1)
        rw [hj] at this
        simp only [Bool.or_eq_true, beq_iff_eq, hne, hun, hdep, Bool.false_eq_true, false_or, Bool.and_eq_true, decide_eq_true_eq] at this
        exact ⟨this.1, by simpa using this.2⟩
      · have hone : Region.ready .any l.toArray listed = [i] := by simpa using hone
        -- alone: no other is ready, now
        refine ⟨hSw, fun h0 => (by rw [hone] at h0; cases h0), fun j hj => ?_⟩
        rw [hone] at hj
        have : j = i := by simpa using hj
        subst this
        refine ⟨oi, hi, hdy, ?_⟩
        unfold wpOpIn
        rw [hi]
        dsimp only
        by_cases hw : Region.wanted oi (yielded l.toArray a.tmps) = true
        · rw [if_pos hw] at h ⊢
          refine ⟨h.1, ?_⟩
          have hup := h.2
          rw [Oper.semAt_eq _ _ _ (plain_sel hp hi).2] at hup ⊢
          cases hrun : (execOp a.eval oi).run P w with
          | ok x w' =>
            obtain ⟨hw', u, hu⟩ := keeps_of hcl (hdy hw hcl) _ _ _ hrun
            subst hu hw'
            rw [hrun] at hup
            exact ih _ _ hSw hup
          | halt x w' =>
            rw [hrun] at hup
            cases x <;> simp only [Oper.uponIn] at hup <;> exact (hup : False).elim
        · rw [if_neg hw] at h ⊢
          exact ⟨h.1, ih _ _ hSw h.2⟩
    · have hone : Region.ready .any l.toArray listed = [i] := by
        rcases hch with ⟨h1, _⟩ | h1
        · exact absurd (by simpa using h1) hcl
        · simpa using h1
      refine ⟨hSw, fun h0 => (by rw [hone] at h0; cases h0), fun j hj => ?_⟩
      rw [hone] at hj
      have : j = i := by simpa using hj
      subst this
      refine ⟨oi, hi, hdy, ?_⟩
      unfold wpOpIn
      rw [hi]
      dsimp only
      by_cases hw : Region.wanted oi (yielded l.toArray a.tmps) = true
      · rw [if_pos hw] at h ⊢
        exact ⟨h.1, uponIn_any (fun a w hr1 => ih a w (hS1 a w (by omega) hr1) hr1) h.2⟩
      · rw [if_neg hw] at h ⊢
        exact ⟨h.1, ih _ _ hSw h.2⟩


theorem run_P (hQ : ∀ c a w, ¬ Q (.panic c) a w) (hBare : Bare .any l.toArray B) (hBX : ∀ listed a w, Shutl .any l.toArray listed → Region.ready .any l.toArray listed = X → K0 a w → B listed a w) (hp : plainOps l.toArray = true) (hF : ∀ f, F.fn f) (hD : F.depth = none) {ps : List Addr} {w0 : World} (hv : ∀ p ∈ ps, (w0.cell? p).isSome = true)
    (hS : S = SameAt ps w0) (hK : ∀ a w, K0 a w → chkD l a D = true ∧ chkH l a H ps) {any : Bool} (hany : ps = [] ∨ any = true) : ∀ (p : Pl) (listed : Array Bool) (a : Act) (w : World),
    ordP P l.toArray D H X any p listed = true → (∀ k ∈ p.path, k < l.length) → Shutl .any l.toArray listed → S w → plIn F n P l S K0 p a w → wpD F n P .any l.toArray S Q B p.len listed a w := by
  intro p
  induction p with
  | fin =>
    intro listed a w ho _ hs hSw h
    unfold ordP at ho
    exact ⟨hSw, hBX _ _ _ hs (by simpa using ho) h⟩
  | seg s p ihp =>
    intro listed a w ho hL hs hSw h
    unfold ordP at ho
    simp only [Bool.and_eq_true, Bool.or_eq_true, Bool.not_eq_true'] at ho
    obtain ⟨hla0, ho⟩ := ho
    have hla : ps = [] ∨ lastOk P l.toArray s = true := by
      rcases hany with h1 | h1
      · exact .inl h1
      · rcases hla0 with h2 | h2
        · rw [h1] at h2; cases h2
        · exact .inr h2
    clear hla0
    unfold plIn at h
    unfold Pl.path at hL
    unfold Pl.len
    induction s generalizing listed a w with
    | nil =>
      unfold ordL at ho
      simp only [List.length_nil, Nat.zero_add]
      exact ihp listed a w ho (fun k hk => hL k (by simpa using hk)) hs hSw h.2
    | cons i s ihs =>
      unfold ordL at ho
      simp only [Bool.and_eq_true] at ho
      obtain ⟨⟨hst, hlt⟩, ho⟩ := ho
      have hr : i ∈ Region.ready .any l.toArray listed := by
        unfold stepOk at hst
        cases hi : l.toArray[i]? with
        | none => rw [hi] at hst; cases hst
        | some o => rw [hi] at hst; simp only [Bool.and_eq_true] at hst; simpa using hst.1.1.1
      rw [List.length_cons, Nat.add_right_comm]
      refine run_stepP hQ hBare hp hF hD hv hS hK (fun a w h1 h2 => ihs _ a w (shut_step hs hr) h1 ho ?_ h2 (fun k hk => hL k (List.mem_cons_of_mem _ hk))) hst hlt (fun k hk => hL k (List.mem_cons_of_mem _ hk)) hla hs hSw h
      refine hla.imp id fun h => ?_
      unfold lastOk at h
      simp only [Bool.and_eq_true] at h
      exact h.2
  | two i j p q ihp ihq =>
    intro listed a w ho hL hs hSw h
    unfold ordP at ho
    simp only [Bool.and_eq_true, beq_iff_eq] at ho
    obtain ⟨⟨⟨⟨⟨hrd, hcl⟩, hln⟩, hqL⟩, hop⟩, hoq⟩ := ho
    unfold plIn at h
    unfold Pl.len
    have one : ∀ (x : Nat) (r : Pl), x ∈ Region.ready .any l.toArray listed → (∀ o, l.toArray[x]? = some o → 1 < cls P o ∨ needsDyn o = false) → (∀ a w, S w → plIn F n P l S K0 r a w → wpD F n P .any l.toArray S Q B p.len (listed.setIfInBounds x true) a w) →
        wpListIn F n P l.toArray (OnlyN fun a1 w1 => S w1 ∧ plIn F n P l S K0 r a1 w1) (pickL l [x]) a w →
        ∃ o, l.toArray[x]? = some o ∧ (Region.wanted o (yielded l.toArray a.tmps) = true → cls P o ≤ 1 → dyn o a = true) ∧ wpOpIn F n P l.toArray Q x (wpD F n P .any l.toArray S Q B p.len (listed.setIfInBounds x true)) a w := by
      intro x r hx hc hk h
      obtain ⟨o, ho, _, _⟩ := ready_some hx
      have hil : l[x]? = some o := by simpa using ho
      have hg : l.getD x default = o := by simp [List.getD_eq_getElem?_getD, hil]
      refine ⟨o, ho, fun _ h1 => (hc o ho).elim (fun h => by omega) (fun h => dyn_free h), ?_⟩
      unfold pickL wpListIn at h
      rw [hg] at h
      unfold wpOpIn
      rw [ho]
      dsimp only
      by_cases hw : Region.wanted o (yielded l.toArray a.tmps) = true
      · rw [if_pos hw] at h ⊢
        exact ⟨h.1, uponIn_any (fun a w h => hk a w h.1 h.2) h.2⟩
      · rw [if_neg hw] at h ⊢
        exact ⟨h.1, hk _ _ h.2.1 h.2.2⟩
    have hpi : i ∈ Region.ready .any l.toArray listed := by rw [hrd]; simp
    have hpj : j ∈ Region.ready .any l.toArray listed := by rw [hrd]; simp
    have hci : (∀ o, l.toArray[i]? = some o → 1 < cls P o ∨ needsDyn o = false) ∧ ∀ o, l.toArray[j]? = some o → 1 < cls P o ∨ needsDyn o = false := by
      constructor <;> intro o ho <;> split at hcl <;> simp_all
    refine ⟨hSw, fun h0 => (by rw [hrd] at h0; cases h0), fun x hx => ?_⟩
    rw [hrd] at hx
    have hx : x = i ∨ x = j := by simpa using hx
    rcases hx with rfl | rfl
    · exact one x p hpi hci.1 (fun a w hS h => ihp _ a w hop (fun k hk => hL k (List.mem_cons_of_mem _ hk)) (shut_step hs hpi) hS h) h.1
    · refine one x q hpj hci.2 (fun a w hS h => ?_) h.2
      rw [hln]
      exact ihq _ a w hoq (fun k hk => by simpa using List.all_eq_true.1 hqL k hk) (shut_step hs hpj) hS h
  | three i j k p q r ihp ihq ihr =>
    intro listed a w ho hL hs hSw h
    unfold ordP at ho
    simp only [Bool.and_eq_true, beq_iff_eq] at ho
    obtain ⟨⟨⟨⟨⟨⟨⟨⟨hrd, hcl⟩, hln⟩, hlr⟩, hqL⟩, hrL⟩, hop⟩, hoq⟩, hor⟩ := ho
    unfold plIn at h
    unfold Pl.len
    have one : ∀ (x : Nat) (r : Pl), x ∈ Region.ready .any l.toArray listed → (∀ o, l.toArray[x]? = some o → 1 < cls P o ∨ needsDyn o = false) → (∀ a w, S w → plIn F n P l S K0 r a w → wpD F n P .any l.toArray S Q B p.len (listed.setIfInBounds x true) a w) →
        wpListIn F n P l.toArray (OnlyN fun a1 w1 => S w1 ∧ plIn F n P l S K0 r a1 w1) (pickL l [x]) a w →
        ∃ o, l.toArray[x]? = some o ∧ (Region.wanted o (yielded l.toArray a.tmps) = true → cls P o ≤ 1 → dyn o a = true) ∧ wpOpIn F n P l.toArray Q x (wpD F n P .any l.toArray S Q B p.len (listed.setIfInBounds x true)) a w := by
      intro x r hx hc hk h
      obtain ⟨o, ho, _, _⟩ := ready_some hx
      have hil : l[x]? = some o := by simpa using ho
      have hg : l.getD x default = o := by simp [List.getD_eq_getElem?_getD, hil]
      refine ⟨o, ho, fun _ h1 => (hc o ho).elim (fun h => by omega) (fun h => dyn_free h), ?_⟩
      unfold pickL wpListIn at h
      rw [hg] at h
      unfold wpOpIn
      rw [ho]
      dsimp only
      by_cases hw : Region.wanted o (yielded l.toArray a.tmps) = true
      · rw [if_pos hw] at h ⊢
        exact ⟨h.1, uponIn_any (fun a w h => hk a w h.1 h.2) h.2⟩
      · rw [if_neg hw] at h ⊢
        exact ⟨h.1, hk _ _ h.2.1 h.2.2⟩
    have hpi : i ∈ Region.ready .any l.toArray listed := by rw [hrd]; simp
    have hpj : j ∈ Region.ready .any l.toArray listed := by rw [hrd]; simp
    have hpk : k ∈ Region.ready .any l.toArray listed := by rw [hrd]; simp
    have hci : (∀ o, l.toArray[i]? = some o → 1 < cls P o ∨ needsDyn o = false) ∧ (∀ o, l.toArray[j]? = some o → 1 < cls P o ∨ needsDyn o = false) ∧ ∀ o, l.toArray[k]? = some o → 1 < cls P o ∨ needsDyn o = false := by
      refine ⟨?_, ?_, ?_⟩ <;> intro o ho <;> split at hcl <;> simp_all
    refine ⟨hSw, fun h0 => (by rw [hrd] at h0; cases h0), fun x hx => ?_⟩
    rw [hrd] at hx
    have hx : x = i ∨ x = j ∨ x = k := by simpa using hx
    rcases hx with rfl | rfl | rfl
    · exact one x p hpi hci.1 (fun a w hS h => ihp _ a w hop (fun k hk => hL k (List.mem_cons_of_mem _ hk)) (shut_step hs hpi) hS h) h.1
    · refine one x q hpj hci.2.1 (fun a w hS h => ?_) h.2.1
      rw [hln]
      exact ihq _ a w hoq (fun k hk => by simpa using List.all_eq_true.1 hqL k hk) (shut_step hs hpj) hS h
    · refine one x r hpk hci.2.2 (fun a w hS h => ?_) h.2.2
      rw [hlr]
      exact ihr _ a w hor (fun k hk => by simpa using List.all_eq_true.1 hrL k hk) (shut_step hs hpk) hS h

theorem close_end {x : Nat} {listed : Array Bool} {a : Act} {w : World} {K1 : Act → World → Prop} (hxd : ∀ i, i < l.toArray.size → i ≠ x → depB .any l.toArray i l.toArray.size x = true) (hrd : Region.ready .any l.toArray listed = [x]) (hsh : Shutl .any l.toArray listed)
    (h2 : wpListIn F n P l.toArray (OnlyN K1) (pickL l [x]) a w) : wpAnyIn F n P .any l.toArray (OnlyN K1) 1 listed a w := by
  refine ⟨fun h0 => (by rw [hrd] at h0; cases h0), fun i hi => ?_⟩
  rw [hrd] at hi
  have : i = x := by simpa using hi
  subst this
  have hxr : i ∈ Region.ready .any l.toArray listed := by rw [hrd]; exact List.mem_cons_self
  obtain ⟨oi, hoi, hun, haf⟩ := ready_some hxr
  have hle : Region.ready .any l.toArray (listed.setIfInBounds i true) = [] := by
    cases hq : Region.ready .any l.toArray (listed.setIfInBounds i true) with
    | nil => rfl
    | cons j r =>
      exfalso
      have hj : j ∈ Region.ready .any l.toArray (listed.setIfInBounds i true) := by rw [hq]; exact List.mem_cons_self
      obtain ⟨oj, hoj, hjn, _⟩ := ready_some hj
      by_cases hne : j = i
      · subst hne
        rcases Nat.lt_or_ge j listed.size with hlt | hge
        · simp [hlt] at hjn
        · simp [hge] at hun
      · rw [getD_set_ne _ (Ne.symm hne)] at hjn
        have h3 := dep_listed hsh _ i oi hoi haf (hxd j (Array.getElem?_eq_some_iff.1 hoj).1 hne)
        rcases Nat.lt_or_ge j listed.size with hlt | hge
        · simp [hlt] at h3 hjn
          rw [hjn] at h3; cases h3
        · simp [hge] at hjn
  have hil : l[i]? = some oi := by simpa using hoi
  have hg : l.getD i default = oi := by simp [List.getD_eq_getElem?_getD, hil]
  unfold pickL wpListIn at h2
  rw [hg] at h2
  unfold wpOpIn
  rw [hoi]
  dsimp only
  by_cases hw : Region.wanted oi (yielded l.toArray a.tmps) = true
  · rw [if_pos hw] at h2 ⊢
    exact ⟨h2.1, uponIn_any (fun a w h => ⟨hle, h⟩) h2.2⟩
  · rw [if_neg hw] at h2 ⊢
    exact ⟨h2.1, hle, h2.2⟩
theorem plan_any {id : Nat} {a : Act} {w : World} {p : Pl} {ps : List Addr} (hF : ∀ f, F.fn f) (hd : F.depth = none) (hB : ordT P l p D H [] = true) (hH : H = [] → ps = [])
    (hv : ∀ p ∈ ps, (w.cell? p).isSome = true) (hK : ∀ a w, K0 a w → chkD l a D = true ∧ chkH l a H ps)
    (h : plIn F n P l (SameAt ps w) K0 p a w.drew) : (Code.region id l.toArray true).wpIn F n P (OnlyN K0) a w := by
  unfold ordT at hB
  simp only [Bool.and_eq_true, beq_iff_eq] at hB
  obtain ⟨⟨⟨⟨⟨hp, hlen⟩, hpath⟩, ho⟩, hm⟩, _⟩ := hB
  have hr := run_P (Q := OnlyN K0) (B := fun listed a w => Region.ready .any l.toArray listed = [] ∧ K0 a w) (fun _ _ _ h => h) bare_end (fun listed a w _ h1 h2 => ⟨h1, h2⟩) (n := n) (l := l) (S := SameAt ps w) (D := D) (H := H) (K0 := K0) hp hF hd (w0 := w) hv rfl hK (any := !H.isEmpty)
    (by
      cases H with
      | nil => exact .inl (hH rfl)
      | cons _ _ => exact .inr rfl) p (Array.replicate l.length false) a w.drew (by simpa using ho) (fun k hk => by simpa using List.all_eq_true.1 hpath k hk) (shut0 _ _) (fun p _ => rfl) h
  refine wpIn_region_any hm ?_
  have := wpD_any (m := 0) (fun _ _ _ h => h) _ _ _ _ hr
  simp only [List.length_nil, Nat.add_zero] at hlen
  rw [hlen] at this
  simpa using this
theorem plan_close {id : Nat} {a : Act} {w : World} {p : Pl} {ps : List Addr} {x : Nat} {K1 : Act → World → Prop} (hF : ∀ f, F.fn f) (hd : F.depth = none) (hB : ordT P l p D H [x] = true) (hH : H = [] → ps = [])
    (hv : ∀ p ∈ ps, (w.cell? p).isSome = true) (hK : ∀ a w, K0 a w → chkD l a D = true ∧ chkH l a H ps) (hx : ∀ a w, K0 a w → wpListIn F n P l.toArray (OnlyN K1) (pickL l [x]) a w)
    (h : plIn F n P l (SameAt ps w) K0 p a w.drew) : (Code.region id l.toArray true).wpIn F n P (OnlyN K1) a w := by
  unfold ordT at hB
  simp only [Bool.and_eq_true, beq_iff_eq] at hB
  obtain ⟨⟨⟨⟨⟨hp, hlen⟩, hpath⟩, ho⟩, hm⟩, hX⟩ := hB
  have hxd : ∀ i, i < l.toArray.size → i ≠ x → depB .any l.toArray i l.toArray.size x = true := by
    intro i hi hne
    simp only [List.all_cons, List.all_nil, Bool.and_true, List.all_eq_true, List.mem_range, Bool.or_eq_true, beq_iff_eq] at hX
    simpa using (hX i (by simpa using hi)).resolve_left hne
  have hr := run_P (X := [x]) (Q := OnlyN K1) (B := fun listed a w => Region.ready .any l.toArray listed = [x] ∧ Shutl .any l.toArray listed ∧ K0 a w) (fun _ _ _ h => h) (bare_close (Q := fun listed a w => Shutl .any l.toArray listed ∧ K0 a w) hxd) (fun listed a w hs h1 h2 => ⟨h1, hs, h2⟩) (n := n) (l := l) (S := SameAt ps w) (D := D) (H := H) (K0 := K0) hp hF hd (w0 := w) hv rfl hK (any := !H.isEmpty)
    (by
      cases H with
      | nil => exact .inl (hH rfl)
      | cons _ _ => exact .inr rfl) p (Array.replicate l.length false) a w.drew (by simpa using ho) (fun k hk => by simpa using List.all_eq_true.1 hpath k hk) (shut0 _ _) (fun p _ => rfl) h
  refine wpIn_region_any hm ?_
  have := wpD_any (m := 1) (fun listed a w h => ?_) _ _ _ _ hr
  · simp only [List.length_cons, List.length_nil, Nat.zero_add] at hlen
    rw [hlen] at this
    simpa using this
  · exact close_end hxd h.1 h.2.1 (hx _ _ h.2.2)
/-- The rule along a plan, inside a fence. -/
theorem rgnTIn {id : Nat} {a : Act} {w : World} (p : Pl) (D H : List Nat) (ps : List Addr) (hF : ∀ f, F.fn f) (hd : F.depth = none) (hB : ordT P l p D H [] = true) (hH : H = [] → ps = [])
    (hv : ∀ p ∈ ps, (w.cell? p).isSome = true) (h : plIn F n P l (SameAt ps w) (RH l D H ps Q) p a w.drew) : (Code.region id l.toArray true).wpIn F n P Q a w :=
  only_to (id := id) (K0 := RH l D H ps Q) (fun a w h => h.2.2) (plan_any hF hd hB hH hv (fun a w h => ⟨h.1, h.2.1⟩) h)
theorem rgnTCIn {id : Nat} {a : Act} {w : World} (p : Pl) (D H : List Nat) (ps : List Addr) (x : Nat) (hF : ∀ f, F.fn f) (hd : F.depth = none) (hB : ordT P l p D H [x] = true) (hH : H = [] → ps = [])
    (hv : ∀ p ∈ ps, (w.cell? p).isSome = true) (h : plIn F n P l (SameAt ps w) (RC F n P l D H ps x Q) p a w.drew) : (Code.region id l.toArray true).wpIn F n P Q a w :=
  only_to (id := id) (K0 := fun a w => Q .normal a w) (fun a w h => h) (plan_close hF hd hB hH hv (fun a w h => ⟨h.1, h.2.1⟩) (fun a w h => h.2.2) h)
theorem plan_wide {K1 : Act → World → Prop} (hK : ∀ a w, K0 a w → K1 a w) : ∀ (p : Pl) (a : Act) (w : World), pl P l S K0 p a w → plIn Fence.wide n P l S K1 p a w
  | .fin, a, w, h => hK _ _ h
  | .seg s p, a, w, h => by
    unfold pl at h
    unfold plIn
    exact list_wide (fun a w h => ⟨h.1, plan_wide hK p a w h.2⟩) _ _ _ h
  | .two i j p q, a, w, h => by
    unfold pl at h
    unfold plIn
    exact ⟨list_wide (fun a w h => ⟨h.1, plan_wide hK p a w h.2⟩) _ _ _ h.1, list_wide (fun a w h => ⟨h.1, plan_wide hK q a w h.2⟩) _ _ _ h.2⟩
  | .three i j k p q r, a, w, h => by
    unfold pl at h
    unfold plIn
    exact ⟨list_wide (fun a w h => ⟨h.1, plan_wide hK p a w h.2⟩) _ _ _ h.1, list_wide (fun a w h => ⟨h.1, plan_wide hK q a w h.2⟩) _ _ _ h.2.1, list_wide (fun a w h => ⟨h.1, plan_wide hK r a w h.2⟩) _ _ _ h.2.2⟩
/-- The rule along a plan, for a plain frame. -/
theorem rgnT {id : Nat} {a : Act} {w : World} (p : Pl) (D H : List Nat) (ps : List Addr) (hB : ordT P l p D H [] = true) (hH : H = [] → ps = [])
    (hv : ∀ p ∈ ps, (w.cell? p).isSome = true) (h : pl P l (SameAt ps w) (RH l D H ps Q) p a w.drew) : (Code.region id l.toArray true).wp P Q a w :=
  (wpIn_wide (n := 0)).1 (rgnTIn p D H ps (fun _ => trivial) rfl hB hH hv (plan_wide (fun _ _ h => h) _ _ _ h))
/-- The same with a closing operation. -/
theorem rgnTC {id : Nat} {a : Act} {w : World} (p : Pl) (D H : List Nat) (ps : List Addr) (x : Nat) (hB : ordT P l p D H [x] = true) (hH : H = [] → ps = [])
    (hv : ∀ p ∈ ps, (w.cell? p).isSome = true) (h : pl P l (SameAt ps w) (RCP P l D H ps x Q) p a w.drew) : (Code.region id l.toArray true).wp P Q a w :=
  (wpIn_wide (n := 0)).1 (rgnTCIn p D H ps x (fun _ => trivial) rfl hB hH hv (plan_wide (fun _ _ h => ⟨h.1, h.2.1, list_wide (fun _ _ h => h) _ _ _ h.2.2⟩) _ _ _ h))
end
end Go.Proofs.YtihmhledogppmaaDoor
