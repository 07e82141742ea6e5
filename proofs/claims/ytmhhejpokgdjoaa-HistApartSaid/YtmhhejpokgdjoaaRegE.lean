/- A region whose order Go leaves open, walked in one order: the rules 'rgn' (a plain frame), 'rgnIn' (inside a fence), and 'rgnH', 'rgnHIn' where a load may come up beside a call or a new block ('held': its cell reads the same behind each such operation). -/
import Derived.Test.YtmhhejpokgdjoaaRegD
namespace Go.Proofs.Ytmhhejpokgdjoaa
open Go Go.RowKit
set_option linter.unusedSimpArgs false
set_option linter.unusedVariables false

def needsDyn (o : Oper) : Bool := match o.op with | .binOp .. | .convert .. | .call _ => true | _ => false
theorem dyn_free {o : Oper} {a : Act} (h : needsDyn o = false) : dyn o a = true := by
  unfold needsDyn at h; unfold dyn; cases ho : o.op <;> rw [ho] at h <;> first | rfl | cases h
def pickL (l : List Oper) : List Nat → List Oper
  | [] => []
  | i :: r => l.getD i default :: pickL l r
def oneCell (P : Program) (t : TypeId) : Bool := match P.underlying t with | some (.struct _) | some (.array _ _) | none => false | _ => true
def heldOp (P : Program) (o : Oper) : Bool := match o.op with | .load t (.tmp _) => oneCell P t | _ => false
def stepOk (P : Program) (ops : Array Oper) (listed : Array Bool) (D H : List Nat) (i : Nat) : Bool :=
  match ops[i]? with
  | none => false
  | some oi => (Region.ready .any ops listed).contains i && (!(decide (cls P oi ≤ 1) && needsDyn oi) || D.contains i) && (!H.contains i || heldOp P oi) &&
      ((decide (cls P oi ≤ 1) && (List.range ops.size).all fun j => j == i || listed.getD j true || depB .any ops i ops.size j ||
          match ops[j]? with | some oj => oi.apart ops oj && (cls P oi == 0 || H.contains i || decide (cls P oj ≤ 1)) | none => true) || Region.ready .any ops listed == [i])
/-- Nothing that comes later writes what i looks at. -/
def lateOk (ops : Array Oper) (i : Nat) (r : List Nat) : Bool :=
  match ops[i]? with
  | none => true
  | some oi => r.all fun k => match ops[k]? with
    | some ok => (match ok.dst with | some d => !(oi.looksAt ops).contains d | none => true)
    | none => true
def ordOk (P : Program) (ops : Array Oper) (D H X : List Nat) : Array Bool → List Nat → Bool
  | listed, [] => Region.ready .any ops listed == X
  | listed, i :: r => stepOk P ops listed D H i && (!(D.contains i || H.contains i) || lateOk ops i (i :: r)) && ordOk P ops D H X (listed.setIfInBounds i true) r
/-- Where something is held, what is of class 2 stands at its segment's end. -/
def lastOk (P : Program) (ops : Array Oper) : List Nat → Bool
  | [] => true
  | i :: r => (r.isEmpty || match ops[i]? with | some o => decide (cls P o ≤ 1) | none => false) && lastOk P ops r
def ordAll (P : Program) (l : List Oper) (ss : List (List Nat)) (D H : List Nat) (X : List Nat := []) : Bool :=
  plainOps l.toArray && ss.flatten.length + X.length == l.length && ordOk P l.toArray D H X (Array.replicate l.length false) ss.flatten && P.follows .mixedOrders && (H.isEmpty || ss.all (lastOk P l.toArray)) && X.all fun x => (List.range l.length).all fun i => i == x || depB .any l.toArray i l.length x
/-- What the values must show at the end: whole numbers, bools, strings where class 0 needs it. -/
def chkD (l : List Oper) (a : Act) : List Nat → Bool
  | [] => true
  | i :: r => (match l[i]? with | some o => !(Region.wanted o (yielded l.toArray a.tmps)) || dyn o a | none => true) && chkD l a r
/-- The held loads' addresses. -/
def chkH (l : List Oper) (a : Act) : List Nat → List Addr → Prop
  | i :: r, p :: ps => (match l[i]? with | some ⟨_, .load _ x, _, _, _, _⟩ => a.eval x = .pointer (some p) ∨ a.eval x = undef | _ => False) ∧ chkH l a r ps
  | [], [] => True
  | _, _ => False
/-- It ends here, as usual, and K holds. -/
def OnlyN (K : Act → World → Prop) : Exit → Act → World → Prop
  | .normal, a, w => K a w
  | _, _, _ => False
def segIn (F : Fence) (n : Nat) (P : Program) (l : List Oper) (S : World → Prop) (K : Act → World → Prop) : List (List Nat) → Act → World → Prop
  | [], a, w => K a w
  | s :: ss, a, w => wpListIn F n P l.toArray (OnlyN fun a1 w1 => S w1 ∧ segIn F n P l S K ss a1 w1) (pickL l s) a w
def seg (P : Program) (l : List Oper) (S : World → Prop) (K : Act → World → Prop) : List (List Nat) → Act → World → Prop
  | [], a, w => K a w
  | s :: ss, a, w => wpList P l.toArray (OnlyN fun a1 w1 => S w1 ∧ seg P l S K ss a1 w1) (pickL l s) a w

section
variable {F : Fence} {n : Nat} {P : Program} {l : List Oper} {Q : Exit → Act → World → Prop} {D H X : List Nat} {B : Array Bool → Act → World → Prop} {K0 : Act → World → Prop} {S : World → Prop}

theorem only_out : ¬ LetsOut (OnlyN K0) := fun ⟨_, _, h⟩ => h
theorem uponIn_any {o : Oper} {a : Act} {K K' : Act → World → Prop} {r : Result Next} {Q' : Exit → Act → World → Prop} (hK : ∀ a w, K a w → K' a w)
    (h : o.uponIn F n P a K (OnlyN K0) r) : o.uponIn F n P a K' Q' r := by
  cases r with
  | ok x w' =>
    cases x <;> simp only [Oper.uponIn] at h ⊢ <;>
      first
        | exact hK _ _ h
        | exact ⟨h.1, CallsIn.mono h.2 (fun e w'' he => by cases e <;> first | exact hK _ _ he | exact absurd he only_out | exact (he : False).elim)⟩
        | exact ⟨h.1, RowsIn.mono h.2 (fun _ _ he => hK _ _ he)⟩
        | exact ⟨h.1, RoundIn.mono h.2 (fun e w'' he => by cases e <;> first | exact hK _ _ he | exact absurd he only_out | exact (he : False).elim)⟩
  | halt x w' => cases x <;> simp only [Oper.uponIn] at h <;> exact (h : False).elim

theorem upon_next (hD : F.depth = none) {o : Oper} {a : Act} {K : Act → World → Prop} {r : Result Next} (h : o.uponIn F n P a K (OnlyN K0) r) :
    ∃ (b : Act) (v : Value) (w' : World), b.tmps = a.tmps ∧ K (b.put o.dst v) w' := by
  have room : ∀ k, F.room k := fun k d hd => by rw [hD] at hd; cases hd
  cases r with
  | ok x w' =>
    cases x <;> simp only [Oper.uponIn] at h
    case value u => exact ⟨a, u, w', rfl, h⟩
    case skip => exact ⟨a, undef, w', rfl, h⟩
    case defer d => exact ⟨{ a with defers := d :: a.defers }, undef, w', rfl, h⟩
    case enter f args =>
      obtain ⟨e, w'', fr, he, _⟩ := h.2.2 [] (room _)
      cases e with
      | returned u => exact ⟨a, u, w'', rfl, he⟩
      | panicked c => exact (he : False).elim
      | outgrown => exact absurd he only_out
    case row row args =>
      obtain ⟨u, w'', he, _⟩ := h.2 default [] (room _)
      exact ⟨a, u, w'', rfl, he⟩
    case round i f tmps assign body =>
      obtain ⟨e, w'', he, _⟩ := h.2.2 default [] (room _)
      cases e with
      | returned u => exact ⟨a, u, w'', rfl, he⟩
      | panicked c => exact (he : False).elim
      | outgrown => exact absurd he only_out
    all_goals exact (h : False).elim
  | halt x w' => cases x <;> simp only [Oper.uponIn] at h <;> exact (h : False).elim

theorem reach1 (hD : F.depth = none) : ∀ (L : List Nat) (a : Act) (w : World), wpListIn F n P l.toArray (OnlyN K0) (pickL l L) a w →
    ∃ a' w', K0 a' w' ∧ ∀ t, (∀ k ∈ L, ∀ o, l[k]? = some o → o.dst ≠ some t) → (∀ k ∈ L, k < l.length) → a'.tmps[t]? = a.tmps[t]?
  | [], a, w, h => ⟨a, w, h, fun _ _ _ => rfl⟩
  | i :: L, a, w, h => by
    unfold pickL wpListIn at h
    have key : ∃ (b : Act) (v : Value) (w' : World), b.tmps = a.tmps ∧ wpListIn F n P l.toArray (OnlyN K0) (pickL l L) (b.put (l.getD i default).dst v) w' := by
      by_cases hw : Region.wanted (l.getD i default) (yielded l.toArray a.tmps) = true
      · rw [if_pos hw] at h
        exact upon_next hD h.2
      · rw [if_neg hw] at h
        exact ⟨a, undef, w, rfl, h.2⟩
    obtain ⟨b, v, w', hb, hk⟩ := key
    obtain ⟨a', w2, hc, ht⟩ := reach1 hD L _ _ hk
    refine ⟨a', w2, hc, fun t h1 h2 => ?_⟩
    rw [ht t (fun k hk => h1 k (List.mem_cons_of_mem _ hk)) (fun k hk => h2 k (List.mem_cons_of_mem _ hk))]
    have hi := h2 i List.mem_cons_self
    have hg : l[i]? = some (l.getD i default) := by simp [List.getD_eq_getElem?_getD, hi]
    have hne := h1 i List.mem_cons_self _ hg
    cases hd : (l.getD i default).dst with
    | none => simp [Act.put, hb]
    | some d =>
      have : d ≠ t := fun e => hne (by rw [hd, e])
      simp [Act.put, hb, Array.getElem?_setIfInBounds_ne this]
theorem reaches (hD : F.depth = none) : ∀ (ss : List (List Nat)) (a : Act) (w : World), segIn F n P l S K0 ss a w →
    ∃ a' w', K0 a' w' ∧ ∀ t, (∀ k ∈ ss.flatten, ∀ o, l[k]? = some o → o.dst ≠ some t) → (∀ k ∈ ss.flatten, k < l.length) → a'.tmps[t]? = a.tmps[t]?
  | [], a, w, h => ⟨a, w, h, fun _ _ _ => rfl⟩
  | s :: ss, a, w, h => by
    unfold segIn at h
    obtain ⟨a1, w1, ⟨_, h1⟩, t1⟩ := reach1 hD s a w h
    obtain ⟨a2, w2, h2, t2⟩ := reaches hD ss a1 w1 h1
    refine ⟨a2, w2, h2, fun t ht hl => ?_⟩
    simp only [List.flatten_cons, List.mem_append] at ht hl
    rw [t2 t (fun k hk => ht k (.inr hk)) (fun k hk => hl k (.inr hk)), t1 t (fun k hk => ht k (.inl hk)) (fun k hk => hl k (.inl hk))]

theorem chkD_mem {a : Act} : ∀ {D : List Nat} {i : Nat} {o : Oper}, chkD l a D = true → D.contains i = true → l[i]? = some o → Region.wanted o (yielded l.toArray a.tmps) = true → dyn o a = true
  | [], i, o, h, hm, _, _ => by cases hm
  | d :: D, i, o, h, hm, ho, hw => by
    unfold chkD at h
    rw [Bool.and_eq_true] at h
    rw [List.contains_cons, Bool.or_eq_true] at hm
    rcases hm with hm | hm
    · have : i = d := by simpa using hm
      subst this
      have h1 := h.1
      rw [ho] at h1
      simpa [hw] using h1
    · exact chkD_mem h.2 hm ho hw
theorem chkH_mem {a : Act} : ∀ {H : List Nat} {ps : List Addr} {i : Nat} {o : Oper} {t : TypeId} {x : Operand}, chkH l a H ps → H.contains i = true → l[i]? = some o → o.op = .load t x → (∃ p ∈ ps, a.eval x = .pointer (some p)) ∨ a.eval x = undef
  | [], ps, i, o, t, x, h, hm, _, _ => by cases hm
  | d :: H, [], i, o, t, x, h, hm, _, _ => h.elim
  | d :: H, p :: ps, i, o, t, x, h, hm, ho, hx => by
    unfold chkH at h
    rw [List.contains_cons, Bool.or_eq_true] at hm
    rcases hm with hm | hm
    · have : i = d := by simpa using hm
      subst this
      have h1 := h.1
      rw [ho] at h1
      obtain ⟨o1, o2, o3, o4, o5, o6⟩ := o
      dsimp only at hx
      subst hx
      rcases h1 with h1 | h1
      · exact .inl ⟨p, List.mem_cons_self, h1⟩
      · exact .inr h1
    · rcases chkH_mem h.2 hm ho hx with ⟨q, hq, he⟩ | he
      · exact .inl ⟨q, List.mem_cons_of_mem _ hq, he⟩
      · exact .inr he
theorem same_eval {o : Oper} {ops : Array Oper} {a b : Act} (h : ∀ t ∈ o.looksAt ops, b.tmps[t]? = a.tmps[t]?) : (∀ x ∈ o.op.operands, b.eval x = a.eval x) ∧ Region.wanted o (yielded ops b.tmps) = Region.wanted o (yielded ops a.tmps) := by
  constructor
  · intro x hx
    cases x <;> try rfl
    rename_i t
    have := h t (List.mem_append_left _ (List.mem_filterMap.2 ⟨.tmp t, by simpa using hx, rfl⟩))
    simp [Act.eval, Array.getD_eq_getD_getElem?, this]
  · unfold Region.wanted
    cases hg : o.guard with
    | none => rfl
    | some gw =>
      obtain ⟨g, want⟩ := gw
      have hy : yielded ops b.tmps g = yielded ops a.tmps g := by
        unfold yielded
        cases ht : (ops[g]?).bind (·.dst) with
        | none => rfl
        | some t =>
          have := h t (by simp [Oper.looksAt, hg, ht])
          simp [this]
      simp only [hy]
theorem same_dyn {o : Oper} {a b : Act} (h : ∀ x ∈ o.op.operands, b.eval x = a.eval x) : dyn o b = dyn o a := by
  unfold dyn
  cases ho : o.op <;> dsimp only
  case binOp op t x y t' => rw [h x (by rw [ho]; simp [Op.operands]), h y (by rw [ho]; simp [Op.operands])]
  case convert s t x => rw [h x (by rw [ho]; simp [Op.operands])]
  case call c =>
    have : ∀ x ∈ c.args, b.eval x = a.eval x := fun x hx => h x (by rw [ho]; simp [Op.operands, Call.operands, hx])
    rw [Bool.eq_iff_iff, Array.all_eq_true', Array.all_eq_true']
    exact ⟨fun h x hx => by rw [← this x hx]; exact h x hx, fun h x hx => by rw [this x hx]; exact h x hx⟩

/-- The cells at ps read as they do in w0. -/
def SameAt (ps : List Addr) (w0 w : World) : Prop := ∀ p ∈ ps, w.cell? p = w0.cell? p
theorem firm_load {o : Oper} {a : Act} {ps : List Addr} {w0 : World} {t : TypeId} {x : Operand} (ho : o.op = .load t x) (h1 : oneCell P t = true) (hv : ∀ p ∈ ps, (w0.cell? p).isSome = true)
    (ha : (∃ p ∈ ps, a.eval x = .pointer (some p)) ∨ a.eval x = undef) : Firm P (SameAt ps w0) o a := by
  intro w w' v hs hs' e
  unfold execOp at e ⊢
  rw [ho] at e ⊢
  dsimp only at e ⊢
  rcases ha with ⟨p, hp, ha⟩ | ha
  · rw [ha] at e ⊢
    unfold oneCell at h1
    cases hu : P.underlying t with
    | none => rw [hu] at h1; cases h1
    | some d =>
      rw [hu] at h1
      have hag : ∀ w, (isAgg t).run P w = .ok false w := fun w => by
        unfold isAgg underlying
        simp only [Sem.run_bind, run_program, Result.andThen_ok, hu, Sem.run_pure]
        cases d <;> first | rfl | cases h1
      obtain ⟨c, hc⟩ := Option.isSome_iff_exists.1 (hv p hp)
      have e1 : w.cell? p = some c := (hs p hp).trans hc
      have e2 : w'.cell? p = some c := (hs' p hp).trans hc
      simp only [Instr.loadAt, Instr.sureAddr, loadVar, Sem.run_bind, Sem.run_pure, Result.andThen_ok, hag, Bool.false_eq_true, if_false, run_load, e1, e2] at e ⊢
      simpa using e
  · rw [ha] at e
    unfold undef at e
    simp [Instr.loadAt, Instr.sureAddr] at e

theorem ord_idx : ∀ (L : List Nat) (listed : Array Bool), ordOk P l.toArray D H X listed L = true → ∀ k ∈ L, k < l.length := by
  intro L
  induction L with
  | nil => intro _ _ k hk; cases hk
  | cons x L ih =>
    intro listed hq k hk
    unfold ordOk at hq
    simp only [Bool.and_eq_true] at hq
    rcases List.mem_cons.1 hk with rfl | hk
    · have := hq.1.1
      unfold stepOk at this
      cases hx : l.toArray[k]? with
      | none => rw [hx] at this; cases this
      | some o => simpa using (Array.getElem?_eq_some_iff.1 hx).1
    · exact ih _ hq.2 k hk
theorem run_step (hQ : ∀ c a w, ¬ Q (.panic c) a w) (hBare : Bare .any l.toArray B) (hp : plainOps l.toArray = true) (hF : ∀ f, F.fn f) (hD : F.depth = none) {ps : List Addr} {w0 : World} (hv : ∀ p ∈ ps, (w0.cell? p).isSome = true)
    (hS : S = SameAt ps w0) (hK : ∀ a w, K0 a w → chkD l a D = true ∧ chkH l a H ps) {ss : List (List Nat)} {s : List Nat} {i : Nat} {listed : Array Bool} {a : Act} {w : World}
    (ih : ∀ a w, S w → wpListIn F n P l.toArray (OnlyN fun a1 w1 => S w1 ∧ segIn F n P l S K0 ss a1 w1) (pickL l s) a w → wpD F n P .any l.toArray S Q B (s ++ ss.flatten).length (listed.setIfInBounds i true) a w)
    (ho : ordOk P l.toArray D H X listed (i :: s ++ ss.flatten) = true) (hla : ps = [] ∨ lastOk P l.toArray (i :: s) = true) (hs : Shutl .any l.toArray listed) (hSw : S w)
    (h : wpListIn F n P l.toArray (OnlyN fun a1 w1 => S w1 ∧ segIn F n P l S K0 ss a1 w1) (pickL l (i :: s)) a w) : wpD F n P .any l.toArray S Q B (i :: s ++ ss.flatten).length listed a w := by
  rw [List.cons_append] at ho ⊢
  unfold ordOk at ho
  simp only [Bool.and_eq_true] at ho
  obtain ⟨⟨hst, hlt⟩, hrest⟩ := ho
  have hL := ord_idx _ _ hrest
  unfold stepOk at hst
  cases hi : l.toArray[i]? with
  | none => rw [hi] at hst; cases hst
  | some oi =>
    rw [hi] at hst
    simp only [Bool.and_eq_true, Bool.or_eq_true] at hst
    obtain ⟨⟨⟨hrd, hneed⟩, hheld⟩, hch⟩ := hst
    have hr : i ∈ Region.ready .any l.toArray listed := by simpa using hrd
    have hil : l[i]? = some oi := by simpa using hi
    have hg : l.getD i default = oi := by simp [List.getD_eq_getElem?_getD, hil]
    unfold pickL wpListIn at h
    rw [hg] at h
    -- what the end shows
    have hend : (D.contains i || H.contains i) = true → Region.wanted oi (yielded l.toArray a.tmps) = true → ∃ a', chkD l a' D = true ∧ chkH l a' H ps ∧ (∀ x ∈ oi.op.operands, a'.eval x = a.eval x) ∧ Region.wanted oi (yielded l.toArray a'.tmps) = Region.wanted oi (yielded l.toArray a.tmps) := by
      intro hDH hw
      rw [hDH] at hlt
      rw [if_pos hw] at h
      obtain ⟨b, v, w', hb, hk⟩ := upon_next hD h.2
      obtain ⟨a1, w1, ⟨_, h1⟩, t1⟩ := reach1 hD s _ _ hk
      obtain ⟨a', w2, hk0, t2⟩ := reaches hD ss _ _ h1
      obtain ⟨c1, c2⟩ := hK _ _ hk0
      refine ⟨a', c1, c2, ?_⟩
      refine same_eval (o := oi) (ops := l.toArray) fun t htm => ?_
      have hlt : lateOk l.toArray i (i :: (s ++ ss.flatten)) = true := by simpa using hlt
      unfold lateOk at hlt
      rw [hi] at hlt
      have hlt := fun k hk => List.all_eq_true.1 hlt k hk
      have hown : oi.dst ≠ some t := by
        intro e
        have := hlt i List.mem_cons_self
        rw [hi] at this
        dsimp only at this
        rw [e] at this
        simp [htm] at this
      have hno : ∀ k ∈ s ++ ss.flatten, ∀ o, l[k]? = some o → o.dst ≠ some t := by
        intro k hk o ho e
        have := hlt k (List.mem_cons_of_mem _ hk)
        have hk2 : l.toArray[k]? = some o := by simpa using ho
        rw [hk2] at this
        dsimp only at this
        rw [e] at this
        simp [htm] at this
      rw [t2 t (fun k hk => hno k (List.mem_append_right _ hk)) (fun k hk => hL k (List.mem_append_right _ hk)),
        t1 t (fun k hk => hno k (List.mem_append_left _ hk)) (fun k hk => hL k (List.mem_append_left _ hk))]
      cases hd : oi.dst with
      | none => simp [Act.put, hb]
      | some d =>
        have : d ≠ t := fun e => hown (by rw [hd, e])
        simp [Act.put, hb, Array.getElem?_setIfInBounds_ne this]
    have hdy : Region.wanted oi (yielded l.toArray a.tmps) = true → cls P oi ≤ 1 → dyn oi a = true := by
      intro hw hc
      cases hnd : needsDyn oi with
      | false => exact dyn_free hnd
      | true =>
        have hmem : D.contains i = true := by
          rcases hneed with h1 | h1
          · simp [hc, hnd] at h1
          · exact h1
        obtain ⟨a', c1, _, hev, hwd⟩ := hend (by rw [hmem]; rfl) hw
        rw [← same_dyn hev]
        exact chkD_mem c1 hmem hil (by rw [hwd]; exact hw)
    have hfirm : Region.wanted oi (yielded l.toArray a.tmps) = true → H.contains i = true → Firm P S oi a := by
      intro hw hmem
      have hho : heldOp P oi = true := hheld.resolve_left (by rw [hmem]; simp)
      unfold heldOp at hho
      cases hop : oi.op <;> rw [hop] at hho <;> (first | (cases hho; done) | skip)
      rename_i t x
      cases x <;> (first | (cases hho; done) | skip)
      rename_i tt
      obtain ⟨a', _, c2, hev, _⟩ := hend (by rw [hmem, Bool.or_true]) hw
      have hx := hev (.tmp tt) (by rw [hop]; simp [Op.operands])
      rw [hS]
      refine firm_load hop hho hv ?_
      rw [← hx]
      exact chkH_mem c2 hmem hil hop
    have hS1 : ∀ a w1, 1 < cls P oi → wpListIn F n P l.toArray (OnlyN fun a1 w1 => S w1 ∧ segIn F n P l S K0 ss a1 w1) (pickL l s) a w1 → S w1 := by
      intro a w1 hc hr1
      rcases hla with hps | hla
      · rw [hS, hps]; intro p hp; cases hp
      · unfold lastOk at hla
        rw [hi] at hla
        simp only [Bool.and_eq_true, Bool.or_eq_true, decide_eq_true_eq] at hla
        rcases hla.1 with he | he
        · have : s = [] := by simpa using he
          subst this
          exact hr1.1
        · omega
    by_cases hcl : cls P oi ≤ 1
    · have key : ∀ firm, (firm = true → cls P oi = 0 ∨ H.contains i = true) →
          (∀ j oj, l.toArray[j]? = some oj → j ≠ i → listed.getD j true = false → depB .any l.toArray i l.toArray.size j = false → oi.apart l.toArray oj = true ∧ (firm = true ∨ cls P oj ≤ 1)) →
          wpD F n P .any l.toArray S Q B ((i :: (s ++ ss.flatten)).length) listed a w := by
        intro firm hf hap
        have hdd : Region.wanted oi (yielded l.toArray a.tmps) = true → dyn oi a = true ∧ (firm = true → Firm P S oi a) := fun hw =>
          ⟨hdy hw hcl, fun hff => by
            rcases hf hff with h0 | hm
            · exact firm_of h0 (hdy hw hcl)
            · exact hfirm hw hm⟩
        by_cases hw : Region.wanted oi (yielded l.toArray a.tmps) = true
        · rw [if_pos hw] at h
          have hup := h.2
          rw [Oper.semAt_eq _ _ _ (plain_sel hp hi).2] at hup
          cases hrun : (execOp a.eval oi).run P w with
          | ok x w' =>
            obtain ⟨hw', u, hu⟩ := keeps_of hcl (hdy hw hcl) _ _ _ hrun
            subst hu hw'
            rw [hrun] at hup
            exact take hBare hi hcl hp hQ hF _ listed a w' u hs hr hSw hap hdd (.inl ⟨hw, hrun⟩) (ih _ _ hSw hup)
          | halt x w' =>
            rw [hrun] at hup
            cases x <;> simp only [Oper.uponIn] at hup <;> exact (hup : False).elim
        · rw [if_neg hw] at h
          exact take hBare hi hcl hp hQ hF _ listed a w undef hs hr hSw hap hdd (.inr ⟨by simpa using hw, rfl⟩) (ih _ _ hSw h.2)
      rcases hch with ⟨_, hall⟩ | hone
      · refine key (cls P oi == 0 || H.contains i) (fun h => by simpa using h) fun j oj hj hne hun hdep => ?_
        have := List.all_eq_true.1 hall j (List.mem_range.2 (Array.getElem?_eq_some_iff.1 hj).1)
        rw [hj] at this
        simp only [Bool.or_eq_true, beq_iff_eq, hne, hun, hdep, Bool.false_eq_true, false_or, Bool.and_eq_true, decide_eq_true_eq] at this
        exact ⟨this.1, by simpa using this.2⟩
      · have hone : Region.ready .any l.toArray listed = [i] := by simpa using hone
        -- alone: no other is ready, now
        refine ⟨hSw, fun h0 => (by rw [hone] at h0; cases h0), fun j hj => ?_⟩
        rw [hone] at hj
        have : j = i := by simpa using hj
        subst this
        refine ⟨oi, hi, hdy, ?_⟩
        unfold wpOpIn
        rw [hi]
        dsimp only
        by_cases hw : Region.wanted oi (yielded l.toArray a.tmps) = true
        · rw [if_pos hw] at h ⊢
          refine ⟨h.1, ?_⟩
          have hup := h.2
          rw [Oper.semAt_eq _ _ _ (plain_sel hp hi).2] at hup ⊢
          cases hrun : (execOp a.eval oi).run P w with
          | ok x w' =>
            obtain ⟨hw', u, hu⟩ := keeps_of hcl (hdy hw hcl) _ _ _ hrun
            subst hu hw'
            rw [hrun] at hup
            exact ih _ _ hSw hup
          | halt x w' =>
            rw [hrun] at hup
            cases x <;> simp only [Oper.uponIn] at hup <;> exact (hup : False).elim
        · rw [if_neg hw] at h ⊢
          exact ⟨h.1, ih _ _ hSw h.2⟩
    · have hone : Region.ready .any l.toArray listed = [i] := by
        rcases hch with ⟨h1, _⟩ | h1
        · exact absurd (by simpa using h1) hcl
        · simpa using h1
      refine ⟨hSw, fun h0 => (by rw [hone] at h0; cases h0), fun j hj => ?_⟩
      rw [hone] at hj
      have : j = i := by simpa using hj
      subst this
      refine ⟨oi, hi, hdy, ?_⟩
      unfold wpOpIn
      rw [hi]
      dsimp only
      by_cases hw : Region.wanted oi (yielded l.toArray a.tmps) = true
      · rw [if_pos hw] at h ⊢
        exact ⟨h.1, uponIn_any (fun a w hr1 => ih a w (hS1 a w (by omega) hr1) hr1) h.2⟩
      · rw [if_neg hw] at h ⊢
        exact ⟨h.1, ih _ _ hSw h.2⟩

theorem run_list (hQ : ∀ c a w, ¬ Q (.panic c) a w) (hBare : Bare .any l.toArray B) (hBX : ∀ listed a w, Shutl .any l.toArray listed → Region.ready .any l.toArray listed = X → K0 a w → B listed a w) (hp : plainOps l.toArray = true) (hF : ∀ f, F.fn f) (hD : F.depth = none) {ps : List Addr} {w0 : World} (hv : ∀ p ∈ ps, (w0.cell? p).isSome = true)
    (hS : S = SameAt ps w0) (hK : ∀ a w, K0 a w → chkD l a D = true ∧ chkH l a H ps) : ∀ (ss : List (List Nat)) (s : List Nat) (listed : Array Bool) (a : Act) (w : World),
    ordOk P l.toArray D H X listed (s ++ ss.flatten) = true → (ps = [] ∨ (lastOk P l.toArray s = true ∧ ∀ s ∈ ss, lastOk P l.toArray s = true)) → Shutl .any l.toArray listed → S w →
      wpListIn F n P l.toArray (OnlyN fun a1 w1 => S w1 ∧ segIn F n P l S K0 ss a1 w1) (pickL l s) a w → wpD F n P .any l.toArray S Q B (s ++ ss.flatten).length listed a w := by
  have ready_of : ∀ {i : Nat} {listed : Array Bool} {r : List Nat}, ordOk P l.toArray D H X listed (i :: r) = true → i ∈ Region.ready .any l.toArray listed := by
    intro i listed r h
    unfold ordOk stepOk at h
    cases hi : l.toArray[i]? with
    | none => rw [hi] at h; simp at h
    | some o => rw [hi] at h; simp only [Bool.and_eq_true] at h; simpa using h.1.1.1.1.1
  have rest_of : ∀ {i : Nat} {listed : Array Bool} {r : List Nat}, ordOk P l.toArray D H X listed (i :: r) = true → ordOk P l.toArray D H X (listed.setIfInBounds i true) r = true := by
    intro i listed r h
    unfold ordOk at h
    simp only [Bool.and_eq_true] at h
    exact h.2
  intro ss
  induction ss with
  | nil =>
    intro s
    induction s with
    | nil =>
      intro listed a w ho hla hs hSw h
      unfold ordOk at ho
      exact ⟨hSw, hBX _ _ _ hs (by simpa using ho) h.2⟩
    | cons i s ihs =>
      intro listed a w ho hla hs hSw h
      refine run_step hQ hBare hp hF hD hv hS hK (fun a w h1 h2 => ihs _ a w (rest_of ho) ?_ (shut_step hs (ready_of ho)) h1 h2) ho (hla.imp id (·.1)) hs hSw h
      refine hla.imp id fun h => ⟨?_, h.2⟩
      have := h.1
      unfold lastOk at this
      simp only [Bool.and_eq_true] at this
      exact this.2
  | cons s' ss ihss =>
    intro s
    induction s with
    | nil =>
      intro listed a w ho hla hs hSw h
      have h2 := h.2
      unfold segIn at h2
      rw [List.nil_append, List.flatten_cons] at ho ⊢
      exact ihss s' listed a w ho (hla.imp id fun h => ⟨h.2 _ List.mem_cons_self, fun s hs => h.2 s (List.mem_cons_of_mem _ hs)⟩) hs hSw h2
    | cons i s ihs =>
      intro listed a w ho hla hs hSw h
      refine run_step hQ hBare hp hF hD hv hS hK (fun a w h1 h2 => ihs _ a w (rest_of ho) ?_ (shut_step hs (ready_of ho)) h1 h2) ho (hla.imp id (·.1)) hs hSw h
      refine hla.imp id fun h => ⟨?_, h.2⟩
      have := h.1
      unfold lastOk at this
      simp only [Bool.and_eq_true] at this
      exact this.2

theorem shut0 (ops : Array Oper) (k : Nat) : Shutl .any ops (Array.replicate k false) := fun j o _ h => by
  exfalso
  by_cases hj : j < k <;> simp [hj] at h

theorem segs_any {id : Nat} {a : Act} {w : World} {ss : List (List Nat)} {ps : List Addr} (hF : ∀ f, F.fn f) (hd : F.depth = none) (hB : ordAll P l ss D H = true) (hH : H = [] → ps = [])
    (hv : ∀ p ∈ ps, (w.cell? p).isSome = true) (hK : ∀ a w, K0 a w → chkD l a D = true ∧ chkH l a H ps)
    (h : segIn F n P l (SameAt ps w) K0 ss a w.drew) : (Code.region id l.toArray true).wpIn F n P (OnlyN K0) a w := by
  unfold ordAll at hB
  simp only [Bool.and_eq_true, beq_iff_eq] at hB
  obtain ⟨⟨⟨⟨⟨hp, hlen⟩, ho⟩, hm⟩, hla⟩, _⟩ := hB
  have hr := run_list (Q := OnlyN K0) (B := fun listed a w => Region.ready .any l.toArray listed = [] ∧ K0 a w) (fun _ _ _ h => h) bare_end (fun listed a w _ h1 h2 => ⟨h1, h2⟩) (n := n) (l := l) (S := SameAt ps w) (D := D) (H := H) (K0 := K0) hp hF hd (w0 := w) hv rfl hK ss [] (Array.replicate l.length false) a w.drew (by simpa using ho)
    (by
      simp only [Bool.or_eq_true, List.all_eq_true] at hla
      rcases hla with h1 | h1
      · exact .inl (hH (by simpa using h1))
      · exact .inr ⟨rfl, h1⟩) (shut0 _ _) (fun p _ => rfl) ⟨fun p _ => rfl, h⟩
  refine wpIn_region_any hm ?_
  have := wpD_any (m := 0) (fun _ _ _ h => h) _ _ _ _ hr
  rw [List.nil_append] at this
  simp only [List.length_nil, Nat.add_zero] at hlen
  rw [hlen] at this
  simpa using this
/-- With a closing operation x that waits for all others: up to it S holds, behind it nothing is asked. -/
theorem segs_close {id : Nat} {a : Act} {w : World} {ss : List (List Nat)} {ps : List Addr} {x : Nat} {K1 : Act → World → Prop} (hF : ∀ f, F.fn f) (hd : F.depth = none) (hB : ordAll P l ss D H [x] = true) (hH : H = [] → ps = [])
    (hv : ∀ p ∈ ps, (w.cell? p).isSome = true) (hK : ∀ a w, K0 a w → chkD l a D = true ∧ chkH l a H ps) (hx : ∀ a w, K0 a w → wpListIn F n P l.toArray (OnlyN K1) (pickL l [x]) a w)
    (h : segIn F n P l (SameAt ps w) K0 ss a w.drew) : (Code.region id l.toArray true).wpIn F n P (OnlyN K1) a w := by
  unfold ordAll at hB
  simp only [Bool.and_eq_true, beq_iff_eq] at hB
  obtain ⟨⟨⟨⟨⟨hp, hlen⟩, ho⟩, hm⟩, hla⟩, hX⟩ := hB
  have hxd : ∀ i, i < l.toArray.size → i ≠ x → depB .any l.toArray i l.toArray.size x = true := by
    intro i hi hne
    simp only [List.all_cons, List.all_nil, Bool.and_true, List.all_eq_true, List.mem_range, Bool.or_eq_true, beq_iff_eq] at hX
    simpa using (hX i (by simpa using hi)).resolve_left hne
  have hr := run_list (X := [x]) (Q := OnlyN K1) (B := fun listed a w => Region.ready .any l.toArray listed = [x] ∧ Shutl .any l.toArray listed ∧ K0 a w) (fun _ _ _ h => h) (bare_close (Q := fun listed a w => Shutl .any l.toArray listed ∧ K0 a w) hxd) (fun listed a w hs h1 h2 => ⟨h1, hs, h2⟩) (n := n) (l := l) (S := SameAt ps w) (D := D) (H := H) (K0 := K0) hp hF hd (w0 := w) hv rfl hK ss [] (Array.replicate l.length false) a w.drew (by simpa using ho)
    (by
      simp only [Bool.or_eq_true, List.all_eq_true] at hla
      rcases hla with h1 | h1
      · exact .inl (hH (by simpa using h1))
      · exact .inr ⟨rfl, h1⟩) (shut0 _ _) (fun p _ => rfl) ⟨fun p _ => rfl, h⟩
  refine wpIn_region_any hm ?_
  have := wpD_any (m := 1) (fun listed a w h => ?_) _ _ _ _ hr
  · rw [List.nil_append] at this
    simp only [List.length_cons, List.length_nil, Nat.zero_add] at hlen
    rw [hlen] at this
    simpa using this
  · refine ⟨fun h0 => (by rw [h.1] at h0; cases h0), fun i hi => ?_⟩
    rw [h.1] at hi
    have : i = x := by simpa using hi
    subst this
    have h2 := hx _ _ h.2.2
    have hxr : i ∈ Region.ready .any l.toArray listed := by rw [h.1]; exact List.mem_cons_self
    obtain ⟨oi, hoi, hun, haf⟩ := ready_some hxr
    have hle : Region.ready .any l.toArray (listed.setIfInBounds i true) = [] := by
      cases hq : Region.ready .any l.toArray (listed.setIfInBounds i true) with
      | nil => rfl
      | cons j r =>
        exfalso
        have hj : j ∈ Region.ready .any l.toArray (listed.setIfInBounds i true) := by rw [hq]; exact List.mem_cons_self
        obtain ⟨oj, hoj, hjn, _⟩ := ready_some hj
        by_cases hne : j = i
        · subst hne
          rcases Nat.lt_or_ge j listed.size with hlt | hge
          · simp [hlt] at hjn
          · simp [hge] at hun
        · rw [getD_set_ne _ (Ne.symm hne)] at hjn
          have h3 := dep_listed h.2.1 _ i oi hoi haf (hxd j (Array.getElem?_eq_some_iff.1 hoj).1 hne)
          rcases Nat.lt_or_ge j listed.size with hlt | hge
          · simp [hlt] at h3 hjn
            rw [hjn] at h3; cases h3
          · simp [hge] at hjn
    have hil : l[i]? = some oi := by simpa using hoi
    have hg : l.getD i default = oi := by simp [List.getD_eq_getElem?_getD, hil]
    unfold pickL wpListIn at h2
    rw [hg] at h2
    unfold wpOpIn
    rw [hoi]
    dsimp only
    by_cases hw : Region.wanted oi (yielded l.toArray a.tmps) = true
    · rw [if_pos hw] at h2 ⊢
      exact ⟨h2.1, uponIn_any (fun a w h => ⟨hle, h⟩) h2.2⟩
    · rw [if_neg hw] at h2 ⊢
      exact ⟨h2.1, hle, h2.2⟩
/-- The end of a region: what is asked of the values, then what follows. -/
def RQ (l : List Oper) (D : List Nat) (Q : Exit → Act → World → Prop) (a : Act) (w : World) : Prop := chkD l a D = true ∧ Q .normal a w
def RH (l : List Oper) (D H : List Nat) (ps : List Addr) (Q : Exit → Act → World → Prop) (a : Act) (w : World) : Prop := chkD l a D = true ∧ chkH l a H ps ∧ Q .normal a w
theorem only_to {id : Nat} {a : Act} {w : World} {c : Code} (hq : ∀ a w, K0 a w → Q .normal a w) (h : c.wpIn F n P (OnlyN K0) a w) : c.wpIn F n P Q a w :=
  Code.wpIn_mono (Q := OnlyN K0) (fun e a w h => by cases e <;> first | exact hq _ _ h | exact (h : False).elim) h
/-- The rule, inside a fence. -/
theorem rgnIn {id : Nat} {a : Act} {w : World} (L D : List Nat) (hF : ∀ f, F.fn f) (hd : F.depth = none) (hB : ordAll P l [L] D [] = true)
    (h : wpListIn F n P l.toArray (OnlyN (RQ l D Q)) (pickL l L) a w.drew) : (Code.region id l.toArray true).wpIn F n P Q a w := by
  refine only_to (id := id) (K0 := RQ l D Q) (fun a w h => h.2) ?_
  refine segs_any (ps := []) hF hd hB (fun _ => rfl) (fun p hp => by cases hp) (fun a w h => ⟨h.1, trivial⟩) ?_
  unfold segIn
  have hm : ∀ {ls : List Oper} {b : Act} {v : World}, wpListIn F n P l.toArray (OnlyN (RQ l D Q)) ls b v → wpListIn F n P l.toArray (OnlyN fun a1 w1 => SameAt [] w w1 ∧ segIn F n P l (SameAt [] w) (RQ l D Q) [] a1 w1) ls b v := by
    intro ls
    induction ls with
    | nil => intro a w1 h; exact ⟨fun p hp => (by cases hp), h⟩
    | cons o ls ih =>
      intro a w1 h
      unfold wpListIn at h ⊢
      by_cases hw : Region.wanted o (yielded l.toArray a.tmps) = true
      · rw [if_pos hw] at h ⊢
        exact ⟨h.1, uponIn_any (fun _ _ h => ih h) h.2⟩
      · rw [if_neg hw] at h ⊢
        exact ⟨h.1, ih h.2⟩
  exact hm h
/-- Up to the closing operation, the checks; then it, then what follows. -/
def RC (F : Fence) (n : Nat) (P : Program) (l : List Oper) (D H : List Nat) (ps : List Addr) (x : Nat) (Q : Exit → Act → World → Prop) (a : Act) (w : World) : Prop := chkD l a D = true ∧ chkH l a H ps ∧ wpListIn F n P l.toArray (OnlyN fun a w => Q .normal a w) (pickL l [x]) a w
def RCP (P : Program) (l : List Oper) (D H : List Nat) (ps : List Addr) (x : Nat) (Q : Exit → Act → World → Prop) (a : Act) (w : World) : Prop := chkD l a D = true ∧ chkH l a H ps ∧ wpList P l.toArray (OnlyN fun a w => Q .normal a w) (pickL l [x]) a w
theorem rgnCIn {id : Nat} {a : Act} {w : World} (ss : List (List Nat)) (D H : List Nat) (ps : List Addr) (x : Nat) (hF : ∀ f, F.fn f) (hd : F.depth = none) (hB : ordAll P l ss D H [x] = true) (hH : H = [] → ps = [])
    (hv : ∀ p ∈ ps, (w.cell? p).isSome = true) (h : segIn F n P l (SameAt ps w) (RC F n P l D H ps x Q) ss a w.drew) : (Code.region id l.toArray true).wpIn F n P Q a w :=
  only_to (id := id) (K0 := fun a w => Q .normal a w) (fun a w h => h) (segs_close hF hd hB hH hv (fun a w h => ⟨h.1, h.2.1⟩) (fun a w h => h.2.2) h)
/-- The rule with held loads, inside a fence: H the loads, ps their addresses; each segment but the last ends with an operation of class 2. -/
theorem rgnHIn {id : Nat} {a : Act} {w : World} (ss : List (List Nat)) (D H : List Nat) (ps : List Addr) (hF : ∀ f, F.fn f) (hd : F.depth = none) (hB : ordAll P l ss D H = true) (hH : H = [] → ps = [])
    (hv : ∀ p ∈ ps, (w.cell? p).isSome = true) (h : segIn F n P l (SameAt ps w) (RH l D H ps Q) ss a w.drew) : (Code.region id l.toArray true).wpIn F n P Q a w :=
  only_to (id := id) (K0 := RH l D H ps Q) (fun a w h => h.2.2) (segs_any hF hd hB hH hv (fun a w h => ⟨h.1, h.2.1⟩) h)

theorem upon_wide {o : Oper} {a : Act} {K K' : Act → World → Prop} {r : Result Next} (hK : ∀ a w, K a w → K' a w) (h : o.upon P a K (OnlyN K0) r) {K1 : Act → World → Prop} : o.uponIn Fence.wide n P a K' (OnlyN K1) r := by
  cases r with
  | ok x w' =>
    cases x <;> simp only [Oper.upon, Oper.uponIn] at h ⊢ <;> first
      | exact hK _ _ h
      | exact h.elim
      | exact ⟨fun h => (by simp [Fence.wide] at h), callsIn_wide.2 (h.mono fun e w1 he => by cases e <;> first | exact hK _ _ he | exact absurd he only_out | exact (he : False).elim)⟩
      | exact ⟨fun h => (by simp [Fence.wide] at h), fun c cs _ => by
          obtain ⟨v, w2, hr, hs⟩ := h c cs
          exact ⟨v, w2, hK _ _ hr, stepsIn_wide.2 hs⟩⟩
  | halt x w' => cases x <;> simp only [Oper.upon, Oper.uponIn] at h ⊢ <;> exact h
theorem list_wide {K1 : Act → World → Prop} (hK : ∀ a w, K0 a w → K1 a w) : ∀ (ls : List Oper) (a : Act) (w : World), wpList P l.toArray (OnlyN K0) ls a w → wpListIn Fence.wide n P l.toArray (OnlyN K1) ls a w
  | [], a, w, h => hK _ _ h
  | o :: ls, a, w, h => by
    unfold wpList at h
    unfold wpListIn
    by_cases hw : Region.wanted o (yielded l.toArray a.tmps) = true
    · rw [if_pos hw] at h ⊢
      rcases h with h | h
      · refine ⟨fun _ _ => trivial, ?_⟩
        rw [Fence.wide_round, Oper.semAt_none]
        exact upon_wide (fun a w => list_wide hK ls a w) h
      · exact absurd h.2 only_out
    · rw [if_neg hw] at h ⊢
      exact ⟨fun _ _ => trivial, list_wide hK ls _ _ h⟩
theorem seg_wide : ∀ (ss : List (List Nat)) (a : Act) (w : World), seg P l S K0 ss a w → segIn Fence.wide n P l S K0 ss a w
  | [], a, w, h => h
  | s :: ss, a, w, h => by
    unfold seg at h
    unfold segIn
    exact list_wide (fun a w h => ⟨h.1, seg_wide ss a w h.2⟩) _ _ _ h
/-- The rule, for a plain frame. -/
theorem rgn {id : Nat} {a : Act} {w : World} (L D : List Nat) (hB : ordAll P l [L] D [] = true)
    (h : wpList P l.toArray (OnlyN (RQ l D Q)) (pickL l L) a w.drew) : (Code.region id l.toArray true).wp P Q a w :=
  (wpIn_wide (n := 0)).1 (rgnIn L D (fun _ => trivial) rfl hB (list_wide (fun _ _ h => h) _ _ _ h))
/-- The rule with held loads, for a plain frame. -/
theorem rgnH {id : Nat} {a : Act} {w : World} (ss : List (List Nat)) (D H : List Nat) (ps : List Addr) (hB : ordAll P l ss D H = true) (hH : H = [] → ps = [])
    (hv : ∀ p ∈ ps, (w.cell? p).isSome = true) (h : seg P l (SameAt ps w) (RH l D H ps Q) ss a w.drew) : (Code.region id l.toArray true).wp P Q a w :=
  (wpIn_wide (n := 0)).1 (rgnHIn ss D H ps (fun _ => trivial) rfl hB hH hv (seg_wide _ _ _ h))
theorem segs_wide {K1 : Act → World → Prop} (hK : ∀ a w, K0 a w → K1 a w) : ∀ (ss : List (List Nat)) (a : Act) (w : World), seg P l S K0 ss a w → segIn Fence.wide n P l S K1 ss a w
  | [], a, w, h => hK _ _ h
  | s :: ss, a, w, h => by
    unfold seg at h
    unfold segIn
    exact list_wide (fun a w h => ⟨h.1, segs_wide hK ss a w h.2⟩) _ _ _ h
/-- The rule with held loads and a closing operation, for a plain frame. -/
theorem rgnC {id : Nat} {a : Act} {w : World} (ss : List (List Nat)) (D H : List Nat) (ps : List Addr) (x : Nat) (hB : ordAll P l ss D H [x] = true) (hH : H = [] → ps = [])
    (hv : ∀ p ∈ ps, (w.cell? p).isSome = true) (h : seg P l (SameAt ps w) (RCP P l D H ps x Q) ss a w.drew) : (Code.region id l.toArray true).wp P Q a w :=
  (wpIn_wide (n := 0)).1 (rgnCIn ss D H ps x (fun _ => trivial) rfl hB hH hv (segs_wide (fun _ _ h => ⟨h.1, h.2.1, list_wide (fun _ _ h => h) _ _ _ h.2.2⟩) _ _ _ h))
end
end Go.Proofs.Ytmhhejpokgdjoaa
