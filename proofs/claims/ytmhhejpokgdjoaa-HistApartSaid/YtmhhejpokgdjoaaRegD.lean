/- A region whose order Go leaves open: whatever order is drawn, it comes to what ONE order comes to, if in that order each operation of class 0 or 1 may come up where it does, and each other one stands alone. -/
import Derived.Test.YtmhhejpokgdjoaaRegC
namespace Go.Proofs.Ytmhhejpokgdjoaa
open Go Go.RowKit
set_option linter.unusedSimpArgs false
set_option linter.unusedVariables false

/-- Does j wait for i, through others? -/
def depB (md : Region.Mode) (ops : Array Oper) (i : Nat) : Nat → Nat → Bool
  | 0, _ => false
  | n + 1, j => match ops[j]? with
    | some o => o.after.any fun e => Region.binds md e && (e.on == i || depB md ops i n e.on)
    | none => false
def Shutl (md : Region.Mode) (ops : Array Oper) (listed : Array Bool) : Prop :=
  ∀ j o, ops[j]? = some o → listed.getD j false = true → ∀ e ∈ o.after, Region.binds md e = true → listed.getD e.on false = true

section
variable {F : Fence} {n : Nat} {P : Program} {ops : Array Oper} {Q : Exit → Act → World → Prop} {md : Region.Mode} {S : World → Prop}

theorem dep_listed {listed : Array Bool} (hs : Shutl md ops listed) {i : Nat} : ∀ (k j : Nat) (o : Oper), ops[j]? = some o → (∀ e ∈ o.after, Region.binds md e = true → listed.getD e.on false = true) →
    depB md ops i k j = true → listed.getD i false = true
  | 0, j, o, ho, ha, h => by cases h
  | k + 1, j, o, ho, ha, h => by
    unfold depB at h
    rw [ho] at h
    obtain ⟨e, he, h⟩ := Array.any_eq_true'.1 h
    simp only [Bool.and_eq_true, Bool.or_eq_true, beq_iff_eq] at h
    have hl := ha e he h.1
    rcases h.2 with h2 | h2
    · rw [← h2]; exact hl
    · cases hj : ops[e.on]? with
      | none => cases k <;> simp [depB, hj] at h2
      | some o2 => exact dep_listed hs k e.on o2 hj (hs e.on o2 hj hl) h2

/-- Every order, S holding at each world between two operations. -/
def wpD (F : Fence) (n : Nat) (P : Program) (md : Region.Mode) (ops : Array Oper) (S : World → Prop) (Q : Exit → Act → World → Prop) (B : Array Bool → Act → World → Prop) : Nat → Array Bool → Act → World → Prop
  | 0, listed, a, w => S w ∧ B listed a w
  | k + 1, listed, a, w =>
    S w ∧ (Region.ready md ops listed = [] → Q .normal a w) ∧
    ∀ i ∈ Region.ready md ops listed, ∃ o, ops[i]? = some o ∧ (Region.wanted o (yielded ops a.tmps) = true → cls P o ≤ 1 → dyn o a = true) ∧
      wpOpIn F n P ops Q i (wpD F n P md ops S Q B k (listed.setIfInBounds i true)) a w

theorem wpD_any {B : Array Bool → Act → World → Prop} {m : Nat} (hB : ∀ listed a w, B listed a w → wpAnyIn F n P md ops Q m listed a w) : ∀ (k : Nat) (listed : Array Bool) (a : Act) (w : World), wpD F n P md ops S Q B k listed a w → wpAnyIn F n P md ops Q (k + m) listed a w
  | 0, listed, a, w, h => by rw [Nat.zero_add]; exact hB _ _ _ h.2
  | k + 1, listed, a, w, h => by
    rw [Nat.add_right_comm]
    exact ⟨h.2.1, fun i hi => by
      obtain ⟨o, ho, hd, h2⟩ := h.2.2 i hi
      exact wpOpIn_mono (fun a w => wpD_any hB k _ a w) h2⟩
theorem wpD_S {B : Array Bool → Act → World → Prop} : ∀ {k : Nat} {listed : Array Bool} {a : Act} {w : World}, wpD F n P md ops S Q B k listed a w → S w
  | 0, _, _, _, h => h.1
  | _ + 1, _, _, _, h => h.1

/-- In every world that keeps S it gives what it gives here. -/
def Firm (P : Program) (S : World → Prop) (o : Oper) (a : Act) : Prop :=
  ∀ w w' v, S w → S w' → (execOp a.eval o).run P w = .ok v w → (execOp a.eval o).run P w' = .ok v w'
theorem firm_of {o : Oper} {a : Act} (h : cls P o = 0) (hd : dyn o a = true) : Firm P S o a := fun w w' v _ _ e => ((steady_of h hd).out _ _ _ e).2 w'

theorem dyn_put {o oi : Oper} {a : Act} {v : Value} (h : oi.apart ops o = true) : dyn o (a.put oi.dst v) = dyn o a := by
  obtain ⟨h1, h2, h3⟩ := Oper.apart_spec h
  have he : ∀ x ∈ o.op.operands, (a.put oi.dst v).eval x = a.eval x := fun x hx => Act.eval_put fun d hd hxd => h1 d hd (by
    subst hxd
    exact List.mem_append_left _ (List.mem_filterMap.2 ⟨.tmp d, by simpa using hx, rfl⟩))
  unfold dyn
  cases ho : o.op <;> dsimp only
  case binOp op t x y t' => rw [he x (by rw [ho]; simp [Op.operands]), he y (by rw [ho]; simp [Op.operands])]
  case convert s t x => rw [he x (by rw [ho]; simp [Op.operands])]
  case call c =>
    have : ∀ x ∈ c.args, (a.put oi.dst v).eval x = a.eval x := fun x hx => he x (by rw [ho]; simp [Op.operands, Call.operands, hx])
    rw [Bool.eq_iff_iff, Array.all_eq_true', Array.all_eq_true']
    exact ⟨fun h x hx => by rw [← this x hx]; exact h x hx, fun h x hx => by rw [this x hx]; exact h x hx⟩

def plainOps (ops : Array Oper) : Bool := ops.all fun o => match o.op with | .select .. => false | .defer _ => false | _ => true
theorem plain_sel (h : plainOps ops = true) {i : Nat} {o : Oper} (ho : ops[i]? = some o) : (∀ cs b, o.op ≠ .select cs b) ∧ ∀ c, o.op ≠ .defer c := by
  have := Array.all_eq_true'.1 h o (Array.mem_of_getElem? ho)
  exact ⟨fun cs b e => (by rw [e] at this; cases this), fun c e => (by rw [e] at this; cases this)⟩

theorem ready_step {i j : Nat} {listed : Array Bool} (hj : j ∈ Region.ready md ops listed) (hne : j ≠ i) : j ∈ Region.ready md ops (listed.setIfInBounds i true) := ready_mono hj hne
theorem ready_some {j : Nat} {listed : Array Bool} (h : j ∈ Region.ready md ops listed) : ∃ o, ops[j]? = some o ∧ listed.getD j true = false ∧ ∀ e ∈ o.after, Region.binds md e = true → listed.getD e.on false = true := by
  have := mem_ready.1 h
  simp only [Region.ready, List.mem_filter, List.mem_range, Bool.and_eq_true, Bool.not_eq_true'] at h
  obtain ⟨h1, h2, h3⟩ := h
  refine ⟨ops[j], Array.getElem?_eq_getElem h1, h2, fun e he hb => ?_⟩
  rw [Array.getElem?_eq_getElem h1] at h3
  simp only [Option.map_some, Option.getD_some] at h3
  have := Array.all_eq_true'.1 h3 e he
  rw [hb] at this
  simpa using this
theorem shut_step {i : Nat} {listed : Array Bool} (hs : Shutl md ops listed) (hi : i ∈ Region.ready md ops listed) : Shutl md ops (listed.setIfInBounds i true) := by
  intro j o ho hl e he hb
  by_cases hji : j = i
  · subst hji
    obtain ⟨o', ho', _, ha⟩ := ready_some hi
    rw [ho] at ho'; cases ho'
    exact getD_set_true (ha e he hb)
  · rw [getD_set_ne _ (Ne.symm hji)] at hl
    exact getD_set_true (hs j o ho hl e he hb)

/-- An operation's outcome, in this world: its value; or it is passed over. -/
def Out (P : Program) (ops : Array Oper) (o : Oper) (a : Act) (w : World) (v : Value) : Prop :=
  (Region.wanted o (yielded ops a.tmps) = true ∧ (execOp a.eval o).run P w = .ok (.value v) w) ∨ (Region.wanted o (yielded ops a.tmps) = false ∧ v = undef)

/-- Where B holds, none of two that were ready is left. -/
def Bare (md : Region.Mode) (ops : Array Oper) (B : Array Bool → Act → World → Prop) : Prop :=
  ∀ listed a w i j, Shutl md ops listed → i ∈ Region.ready md ops listed → j ∈ Region.ready md ops listed → j ≠ i → B (listed.setIfInBounds i true) a w → False
theorem bare_end {Q : Act → World → Prop} : Bare md ops fun listed a w => Region.ready md ops listed = [] ∧ Q a w := by
  intro listed a w i j _ _ hj hne h
  have := ready_step hj hne
  rw [h.1] at this; cases this
theorem bare_close {x : Nat} (hx : ∀ i, i < ops.size → i ≠ x → depB md ops i ops.size x = true) {Q : Array Bool → Act → World → Prop} : Bare md ops fun listed a w => Region.ready md ops listed = [x] ∧ Q listed a w := by
  intro listed a w i j hs hi hj hne h
  have h1 := ready_step hj hne
  rw [h.1] at h1
  have : j = x := by simpa using h1
  subst this
  obtain ⟨oj, hoj, _, haf⟩ := ready_some hj
  obtain ⟨oi, hoi, h2, _⟩ := ready_some hi
  have h1 := dep_listed hs _ j oj hoj haf (hx i (Array.getElem?_eq_some_iff.1 hoi).1 (Ne.symm hne))
  rcases Nat.lt_or_ge i listed.size with hlt | hge
  · simp [hlt] at h1 h2
    rw [h1] at h2; cases h2
  · simp [hge] at h2

theorem take {B : Array Bool → Act → World → Prop} (hBare : Bare md ops B) {i : Nat} {oi : Oper} {firm : Bool} (hi : ops[i]? = some oi) (hc : cls P oi ≤ 1) (hp : plainOps ops = true) (hQ : ∀ c a w, ¬ Q (.panic c) a w) (hF : ∀ f, F.fn f) :
    ∀ (k : Nat) (listed : Array Bool) (a : Act) (w : World) (v : Value), Shutl md ops listed → i ∈ Region.ready md ops listed → S w →
      (∀ j oj, ops[j]? = some oj → j ≠ i → listed.getD j true = false → depB md ops i ops.size j = false → oi.apart ops oj = true ∧ (firm = true ∨ cls P oj ≤ 1)) →
      (Region.wanted oi (yielded ops a.tmps) = true → dyn oi a = true ∧ (firm = true → Firm P S oi a)) → Out P ops oi a w v →
      wpD F n P md ops S Q B k (listed.setIfInBounds i true) (a.put oi.dst v) w → wpD F n P md ops S Q B (k + 1) listed a w := by
  intro k listed a w v hs hr hS hap hd ho h
  have self : wpOpIn F n P ops Q i (wpD F n P md ops S Q B k (listed.setIfInBounds i true)) a w := by
    unfold wpOpIn
    rw [hi]
    dsimp only
    rcases ho with ⟨hw, hv⟩ | ⟨hw, rfl⟩
    · rw [if_pos hw]
      refine ⟨fun f _ => hF f, ?_⟩
      rw [Oper.semAt_eq _ _ _ (plain_sel hp hi).2, hv]
      exact h
    · rw [if_neg (by rw [hw]; simp)]
      exact ⟨fun f _ => hF f, h⟩
  refine ⟨hS, fun h0 => (by rw [h0] at hr; cases hr), fun j hj => ?_⟩
  by_cases hne : j = i
  · subst hne
    exact ⟨oi, hi, fun hw _ => (hd hw).1, self⟩
  induction k generalizing listed a w v j with
  | zero =>
    exact (hBare _ _ _ _ _ hs hr hj hne h.2).elim
  | succ k ih =>
    obtain ⟨oj, hoj, hun, haf⟩ := ready_some hj
    have hdep : depB md ops i ops.size j = false := by
      cases hq : depB md ops i ops.size j with
      | false => rfl
      | true =>
        have h1 := dep_listed hs _ j oj hoj haf hq
        obtain ⟨_, _, h2, _⟩ := ready_some hr
        rcases Nat.lt_or_ge i listed.size with hlt | hge
        · simp [hlt] at h1 h2
          rw [h1] at h2; cases h2
        · simp [hge] at h2
    obtain ⟨hapj, hclj⟩ := hap j oj hoj hne hun hdep
    obtain ⟨h1, h2, h3⟩ := Oper.apart_spec hapj
    obtain ⟨oj', hoj', hdj, hop⟩ := h.2.2 j (ready_step hj hne)
    rw [hoj] at hoj'; cases hoj'
    rw [dyn_put hapj, wanted_put oj a oi.dst v h1] at hdj
    refine ⟨oj, hoj, hdj, ?_⟩
    unfold wpOpIn at hop ⊢
    rw [hoj] at hop ⊢
    dsimp only at hop ⊢
    rw [wanted_put oj a oi.dst v h1] at hop
    have hcm : (listed.setIfInBounds i true).setIfInBounds j true = (listed.setIfInBounds j true).setIfInBounds i true := by
      apply Array.ext'
      simp only [Array.toList_setIfInBounds]
      exact List.set_comm _ _ (Ne.symm hne)
    have hap' : ∀ k ok, ops[k]? = some ok → k ≠ i → (listed.setIfInBounds j true).getD k true = false → depB md ops i ops.size k = false → oi.apart ops ok = true ∧ (firm = true ∨ cls P ok ≤ 1) := by
      intro k ok hk hki hkl hkd
      refine hap k ok hk hki ?_ hkd
      by_cases hkj : k = j
      · subst hkj; exact hun
      · rwa [getD_set_ne _ (Ne.symm hkj)] at hkl
    have hap2 : oj.apart ops oi = true := by
      unfold Oper.apart
      rw [Bool.and_eq_true]
      refine ⟨?_, ?_⟩
      · cases hdst : oj.dst with
        | none => rfl
        | some d =>
          have e1 := h3 d hdst
          have e2 : oi.dst ≠ some d := fun e => h2 d e hdst
          simp [e1, e2]
      · cases hdst : oi.dst with
        | none => rfl
        | some d => simp [h1 d hdst]
    have heq : ∀ (b : Act) (u : Value), b.tmps = a.tmps → execOp (b.put oj.dst u).eval oi = execOp a.eval oi := by
      intro b u hb
      have heb : b.eval = a.eval := by funext x; cases x <;> simp [Act.eval, hb]
      rw [execOp_put oi (plain_sel hp hi).1 b oj.dst u h3, heb]
    have keep : ∀ (b : Act) (u : Value) (w' : World), b.tmps = a.tmps → S w' → (firm = true ∨ w' = w) → Out P ops oi (b.put oj.dst u) w' v := by
      intro b u w' hb hS' hw'
      unfold Out
      rw [wanted_put oi b oj.dst u h3, heq b u hb, hb]
      rcases ho with ⟨hw, hv⟩ | ho
      · refine .inl ⟨hw, ?_⟩
        rcases hw' with h0 | rfl
        · exact (hd hw).2 h0 w w' _ hS hS' hv
        · exact hv
      · exact .inr ho
    have go : ∀ (b : Act) (u : Value) (w' : World), b.tmps = a.tmps → (firm = true ∨ w' = w) → wpD F n P md ops S Q B k ((listed.setIfInBounds i true).setIfInBounds j true) ((b.put oi.dst v).put oj.dst u) w' →
        wpD F n P md ops S Q B (k + 1) (listed.setIfInBounds j true) (b.put oj.dst u) w' := by
      intro b u w' hb hw' hq
      have hS' : S w' := wpD_S hq
      have hd' : Region.wanted oi (yielded ops (b.put oj.dst u).tmps) = true → dyn oi (b.put oj.dst u) = true ∧ (firm = true → Firm P S oi (b.put oj.dst u)) := by
        rw [wanted_put oi b oj.dst u h3, hb]
        intro hw
        rw [dyn_put hap2]
        have heb : b.eval = a.eval := by funext x; cases x <;> simp [Act.eval, hb]
        have : dyn oi b = dyn oi a := by unfold dyn; rw [heb]
        rw [this]
        refine ⟨(hd hw).1, fun hf => ?_⟩
        unfold Firm
        rw [heq b u hb]
        exact (hd hw).2 hf
      have hq' : wpD F n P md ops S Q B k ((listed.setIfInBounds j true).setIfInBounds i true) ((b.put oj.dst u).put oi.dst v) w' := by
        rw [← hcm, ← Act.put_comm b v u h2]
        exact hq
      have hr' : i ∈ Region.ready md ops (listed.setIfInBounds j true) := ready_step hr (Ne.symm hne)
      have ho' := keep b u w' hb hS' hw'
      have self' : wpOpIn F n P ops Q i (wpD F n P md ops S Q B k ((listed.setIfInBounds j true).setIfInBounds i true)) (b.put oj.dst u) w' := by
        unfold wpOpIn
        rw [hi]
        dsimp only
        rcases ho' with ⟨hw, hv⟩ | ⟨hw, hv⟩
        · rw [if_pos hw]
          refine ⟨fun f _ => hF f, ?_⟩
          rw [Oper.semAt_eq _ _ _ (plain_sel hp hi).2, hv]
          exact hq'
        · rw [if_neg (by rw [hw]; simp), ← hv]
          exact ⟨fun f _ => hF f, hq'⟩
      refine ⟨hS', fun h0 => (by rw [h0] at hr'; cases hr'), fun j' hj' => ?_⟩
      by_cases hne' : j' = i
      · subst hne'
        exact ⟨oi, hi, fun hw _ => (hd' hw).1, self'⟩
      · exact ih (listed.setIfInBounds j true) (b.put oj.dst u) w' v (shut_step hs hj) hr' hS' hap' hd' ho' hq' self' j' hj' hne'
    by_cases hw : Region.wanted oj (yielded ops a.tmps) = true
    · rw [if_pos hw] at hop ⊢
      refine ⟨fun f _ => hF f, ?_⟩
      have hop := hop.2
      rw [Oper.semAt_eq _ _ _ (plain_sel hp hoj).2, execOp_put oj (plain_sel hp hoj).1 a oi.dst v h1] at hop
      rw [Oper.semAt_eq _ _ _ (plain_sel hp hoj).2]
      have hk : firm = true ∨ Keeps P (execOp a.eval oj) := hclj.imp id fun hc1 => keeps_of hc1 (hdj hw hc1)
      cases hrun : (execOp a.eval oj).run P w with
      | ok x w' =>
        rw [hrun] at hop
        have hk' : firm = true ∨ (w' = w ∧ ∃ u, x = .value u) := hk.imp id fun h => h _ _ _ hrun
        cases x <;> simp only [Oper.uponIn] at hop ⊢
        case value u => exact go a u w' rfl (hk'.imp id (·.1)) hop
        case skip => exact go a undef w' rfl (hk'.imp id (·.1)) hop
        case defer d =>
          refine go { a with defers := d :: a.defers } undef w' rfl (hk'.imp id (·.1)) ?_
          rw [← Act.put_defers]
          exact hop
        case enter f args =>
          have h0 : firm = true := hk'.resolve_right fun h => by obtain ⟨_, u, hu⟩ := h; cases hu
          refine ⟨hop.1, CallsIn.mono hop.2 fun e w'' he => ?_⟩
          cases e with
          | returned u => exact go a u w'' rfl (.inl h0) he
          | panicked c => exact absurd he (hQ _ _ _)
          | outgrown => exact he
        case row row args =>
          have h0 : firm = true := hk'.resolve_right fun h => by obtain ⟨_, u, hu⟩ := h; cases hu
          exact ⟨hop.1, RowsIn.mono hop.2 fun u w'' he => go a u w'' rfl (.inl h0) he⟩
        case round l f tmps assign body =>
          have h0 : firm = true := hk'.resolve_right fun h => by obtain ⟨_, u, hu⟩ := h; cases hu
          refine ⟨hop.1, RoundIn.mono hop.2 fun e w'' he => ?_⟩
          cases e with
          | returned u => exact go a u w'' rfl (.inl h0) he
          | panicked c => exact absurd he (hQ _ _ _)
          | outgrown => exact he
      | halt x w' =>
        rw [hrun] at hop
        cases x <;> simp only [Oper.uponIn] at hop ⊢
        case panic u => exact absurd hop (hQ _ _ _)
    · rw [if_neg hw] at hop ⊢
      exact ⟨fun f _ => hF f, go a undef w rfl (.inr rfl) hop.2⟩
end
end Go.Proofs.Ytmhhejpokgdjoaa
