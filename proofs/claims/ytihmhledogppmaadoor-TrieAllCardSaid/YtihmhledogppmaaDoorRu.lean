/- The plain law of the reference's Shared: stamps are alike just where the tries' nodes are. -/
import Derived.Test.YtihmhledogppmaaDoorRt
namespace Go.Proofs.YtihmhledogppmaaDoor
open Go Go.RowKit
set_option linter.unusedVariables false
set_option linter.unusedSimpArgs false

/-- Of two versions: at every node of both, the stamps are alike just if it is one block. -/
def Agree (t : Tr 8) (l : List RE) (t' : Tr 8) (l' : List RE) : Prop := ∀ e ∈ l, ∀ e' ∈ l', ∀ k, k < 8 → pre e.id k = pre e'.id k → (e.s k = e'.s k ↔ nb t e.id (8 - k) = nb t' e'.id (8 - k))
theorem Agree.symm {t t' : Tr 8} {l l' : List RE} (h : Agree t l t' l') : Agree t' l' t l := fun e he e' he' k hk hp => by
  rw [eq_comm, @eq_comm _ (nb t' e.id (8 - k))]
  exact h e' he' e he k hk hp.symm
theorem dF_of_div {x y j i : Nat} (h : x / 16 ^ j = y / 16 ^ j) (hij : j ≤ i) : dF x i = dF y i := (dF_eq x y i).2 (dg_of_div h hij)
theorem digit_step (x i : Nat) : x / 16 ^ i = x / 16 ^ (i + 1) * 16 + dg x i := by
  unfold dg
  rw [Nat.pow_succ, ← Nat.div_div_eq_div_mul]
  omega
theorem samP_pre {x y k : Nat} (hx : x < 4294967296) (hy : y < 4294967296) (hk : k ≤ 8) : samP 8 x y (8 - k) ↔ pre x k = pre y k := by
  constructor
  · intro h
    unfold pre
    have : ∀ m, m ≤ k → x / 16 ^ (8 - m) = y / 16 ^ (8 - m) := by
      intro m
      induction m with
      | zero =>
        intro _
        rw [Nat.div_eq_of_lt (by simpa using hx), Nat.div_eq_of_lt (by simpa using hy)]
      | succ m ih =>
        intro hm
        have h1 := ih (by omega)
        rw [digit_step x (8 - (m + 1)), digit_step y (8 - (m + 1)), show 8 - (m + 1) + 1 = 8 - m by omega, h1, h (8 - (m + 1)) (by omega) (by omega)]
    exact this k (Nat.le_refl _)
  · intro h
    exact samP_div h
/-- Where there is a node, there is a key below it. -/
theorem nb_key : ∀ {d : Nat} (t : Tr d) (x j : Nat), t.Cl → j ≤ d → nb t x j ≠ none → ∃ r, r < 16 ^ j ∧ t.get (x / 16 ^ j * 16 ^ j + r) ≠ none
  | 0, none, x, j, _, hj, h => absurd rfl h
  | 0, some (b, v), x, j, _, hj, h => by
    obtain rfl : j = 0 := by omega
    exact ⟨0, by simp, by simp [Tr.get]⟩
  | d + 1, t, x, j, hc, hj, h => by
    rcases Nat.lt_or_ge j (d + 1) with hl | hl
    · rw [nb_low t x j (by omega)] at h
      obtain ⟨r, hr, hg⟩ := nb_key (t.kid (dF x d)) x j (Tr.cl_kid hc _) (by omega) h
      refine ⟨r, hr, ?_⟩
      have hp : 0 < 16 ^ j := Nat.pow_pos (by decide)
      have hd : dF (x / 16 ^ j * 16 ^ j + r) d = dF x d := dF_of_div (j := j) (by rw [Nat.mul_comm, Nat.mul_add_div hp, Nat.div_eq_of_lt hr, Nat.add_zero]) (by omega)
      show (t.kid (dF (x / 16 ^ j * 16 ^ j + r) d)).get _ ≠ none
      rw [hd]
      exact hg
    · obtain rfl : j = d + 1 := by omega
      rw [nb_top] at h
      have hne := Tr.cl_ents 0 hc h
      cases hq : t.ents 0 with
      | nil => exact absurd hq hne
      | cons e es =>
        have he : (e.1, e.2) ∈ t.ents 0 := by rw [hq]; exact List.mem_cons_self
        obtain ⟨r, hr, h1, h2⟩ := (Tr.mem_ents t 0 e.1 e.2).1 he
        refine ⟨r, hr, ?_⟩
        rw [← Tr.get_mod, Nat.mul_comm, Nat.mul_add_mod, Nat.mod_eq_of_lt hr, h2]
        simp
theorem has_nb {ta tb : Tr 8} {la lb : List RE} (ca : ta.Cl) (ea : ta.ents 0 = la.map entR) (hb : ∀ e ∈ lb, e.id < 4294967296 ∧ tb.get e.id ≠ none) (hag : Agree ta la tb lb) {e : RE} (he : e ∈ lb) {k : Nat} (hk : k < 8) :
    hasR la e.id k (e.s k) = decide (nb ta e.id (8 - k) = nb tb e.id (8 - k)) := by
  obtain ⟨hid, hget⟩ := hb e he
  have hla : ∀ f ∈ la, f.id < 4294967296 := by
    intro f hf
    have : entR f ∈ ta.ents 0 := by rw [ea]; exact List.mem_map_of_mem hf
    exact (mem_ents0.1 this).1
  unfold hasR
  cases hf : la.find? fun f => decide (pre f.id k = pre e.id k) with
  | some f =>
    have hfm := List.mem_of_find?_eq_some hf
    have hfp : pre f.id k = pre e.id k := by simpa using List.find?_some hf
    have h1 := hag f hfm e he k hk hfp
    have h2 : nb ta f.id (8 - k) = nb ta e.id (8 - k) := nb_congr ta f.id e.id (8 - k) ((samP_pre (hla f hfm) hid (by omega)).2 hfp) (by omega)
    rw [h2] at h1
    dsimp only
    by_cases h3 : f.s k = e.s k
    · rw [decide_eq_true h3, decide_eq_true (h1.1 h3)]
    · rw [decide_eq_false h3, decide_eq_false (fun h => h3 (h1.2 h))]
  | none =>
    have hno : nb ta e.id (8 - k) = none := by
      apply Classical.byContradiction
      intro hn
      obtain ⟨r, hr, hg⟩ := nb_key ta e.id (8 - k) ca (by omega) hn
      have hp : 0 < 16 ^ (8 - k) := Nat.pow_pos (by decide)
      have hdiv : (e.id / 16 ^ (8 - k) * 16 ^ (8 - k) + r) / 16 ^ (8 - k) = e.id / 16 ^ (8 - k) := by rw [Nat.mul_comm, Nat.mul_add_div hp, Nat.div_eq_of_lt hr, Nat.add_zero]
      have hlt : e.id / 16 ^ (8 - k) * 16 ^ (8 - k) + r < 4294967296 := by
        have h8 := div_pow_eq hdiv (show 8 - k ≤ 8 by omega)
        rw [Nat.div_eq_of_lt (show e.id < 16 ^ 8 by simpa using hid)] at h8
        have := (Nat.div_eq_zero_iff.1 h8)
        simpa using this
      cases hv : ta.get (e.id / 16 ^ (8 - k) * 16 ^ (8 - k) + r) with
      | none => exact hg hv
      | some u =>
        have hm : (e.id / 16 ^ (8 - k) * 16 ^ (8 - k) + r, u) ∈ ta.ents 0 := mem_ents0.2 ⟨hlt, hv⟩
        rw [ea] at hm
        obtain ⟨f, hfm, hfe⟩ := List.mem_map.1 hm
        have hfid : f.id = e.id / 16 ^ (8 - k) * 16 ^ (8 - k) + r := congrArg (·.1) hfe
        have := List.find?_eq_none.1 hf f hfm
        apply this
        simp only [decide_eq_true_eq]
        unfold pre
        rw [hfid, hdiv]
    rw [hno]
    have := nb_some hget (show 8 - k ≤ 8 by omega)
    exact (decide_eq_false (fun h => this h.symm)).symm
def prevE (l : List RE) (m : Nat) : Option Nat := match m with
  | 0 => none
  | n + 1 => (l[n]?).map (·.id)
theorem skip_new {l : List RE} {m k : Nat} {e : RE} (he : l[m]? = some e) : skipB l m k e = !newAt (prevE l m) e.id (8 - k) := by
  unfold skipB prevE newAt
  cases m with
  | zero => rfl
  | succ n =>
    have hn : n < l.length := by have := (List.getElem?_eq_some_iff.1 he).1; omega
    dsimp only
    rw [List.getElem?_eq_getElem hn]
    dsimp only [Option.map_some]
    unfold pre
    by_cases h : (l[n]).id / 16 ^ (8 - k) = e.id / 16 ^ (8 - k)
    · simp [h]
    · simp [h]
theorem row_parts {la lb : List RE} {m : Nat} {e : RE} (he : lb[m]? = some e) (p : Nat → Nat → Bool) (hp : ∀ k, k < 8 → hasR la e.id k (e.s k) = !p e.id (8 - k)) :
    (rowR la lb m 8).2 = partP p 8 (prevE lb m) e.id ∧ (rowR la lb m 8).1 + (rowR la lb m 8).2 = partP (fun _ _ => true) 8 (prevE lb m) e.id := by
  have h1 : ∀ k, k < 8 → (step1 la lb m k).2 = (if newAt (prevE lb m) e.id (8 - k) && p e.id (8 - k) then 1 else 0) := by
    intro k hk
    unfold step1
    rw [he]
    dsimp only
    rw [skip_new he, hp k hk]
    cases newAt (prevE lb m) e.id (8 - k) <;> cases p e.id (8 - k) <;> rfl
  have h2 : ∀ k, k < 8 → (step1 la lb m k).1 + (step1 la lb m k).2 = (if newAt (prevE lb m) e.id (8 - k) && true then 1 else 0) := by
    intro k hk
    unfold step1
    rw [he]
    dsimp only
    rw [skip_new he]
    cases newAt (prevE lb m) e.id (8 - k) <;> cases hasR la e.id k (e.s k) <;> rfl
  have a0 := h1 0 (by omega); have a1 := h1 1 (by omega); have a2 := h1 2 (by omega); have a3 := h1 3 (by omega)
  have a4 := h1 4 (by omega); have a5 := h1 5 (by omega); have a6 := h1 6 (by omega); have a7 := h1 7 (by omega)
  have b0 := h2 0 (by omega); have b1 := h2 1 (by omega); have b2 := h2 2 (by omega); have b3 := h2 3 (by omega)
  have b4 := h2 4 (by omega); have b5 := h2 5 (by omega); have b6 := h2 6 (by omega); have b7 := h2 7 (by omega)
  simp only [Nat.reduceSub] at a0 a1 a2 a3 a4 a5 a6 a7
  simp only [Nat.reduceSub, Bool.and_true] at b0 b1 b2 b3 b4 b5 b6 b7
  constructor
  · simp only [rowR, partP, Nat.zero_add, Nat.reduceAdd]
    omega
  · clear a0 a1 a2 a3 a4 a5 a6 a7
    simp only [rowR, partP, Nat.zero_add, Nat.reduceAdd, Bool.and_true]
    omega
theorem askP_concat (p : Nat → Nat → Bool) (d : Nat) (prev : Option Nat) (l : List Nat) (x : Nat) : askP p d prev (l ++ [x]) = askP p d prev l + partP p d (match l.getLast? with | some y => some y | none => prev) x := by
  rw [askP_append]
  rfl
theorem prev_last {l : List RE} {m : Nat} (hm : m ≤ l.length) : (match ((l.take m).map (·.id)).getLast? with | some y => some y | none => none) = prevE l m := by
  unfold prevE
  cases m with
  | zero => rfl
  | succ n =>
    have hn : n < l.length := by omega
    rw [List.take_succ_eq_append_getElem hn, List.map_append, List.map_singleton, List.getLast?_concat]
    show some l[n].id = (l[n]?).map (·.id)
    rw [List.getElem?_eq_getElem hn]
    rfl
theorem tot_parts {la lb : List RE} (p : Nat → Nat → Bool) (hp : ∀ e ∈ lb, ∀ k, k < 8 → hasR la e.id k (e.s k) = !p e.id (8 - k)) : ∀ m, m ≤ lb.length →
    (totR la lb m).2 = askP p 8 none ((lb.take m).map (·.id)) ∧ (totR la lb m).1 + (totR la lb m).2 = askP (fun _ _ => true) 8 none ((lb.take m).map (·.id))
  | 0, _ => ⟨rfl, rfl⟩
  | m + 1, hm => by
    obtain ⟨h1, h2⟩ := tot_parts p hp m (by omega)
    have he : lb[m]? = some lb[m] := List.getElem?_eq_getElem (by omega)
    obtain ⟨h3, h4⟩ := row_parts (la := la) he p (hp _ (List.getElem_mem (by omega)))
    have e1 : (lb.take (m + 1)).map (·.id) = (lb.take m).map (·.id) ++ [lb[m].id] := by rw [List.take_succ_eq_append_getElem (by omega), List.map_append]; rfl
    constructor
    · rw [e1, askP_concat, prev_last (by omega), ← h1, ← h3]
      simp only [totR]
    · rw [e1, askP_concat, prev_last (by omega), ← h2, ← h4]
      simp only [totR]
      omega
theorem Tr.fr_none_cnt : ∀ {d : Nat} (t : Tr d), (Tr.nil : Tr d).fr t = t.cnt
  | 0, t => rfl
  | d + 1, none => rfl
  | d + 1, some (b, f) => by
    rw [Tr.fr_some, if_neg (by show ¬ (none : Option Nat) = some b; simp), Tr.cnt_some]
    congr 1
    refine sumK_congr 16 fun i hi => ?_
    unfold onF
    rw [dif_pos hi, dif_pos hi]
    exact fr_none_cnt (f ⟨i, hi⟩)
theorem nil_at (w : World) : ∀ {d : Nat}, (Tr.nil : Tr d).at w
  | 0 => trivial
  | d + 1 => trivial
/-- The reference counts what the tries share. -/
theorem shared_eq {w : World} {ta tb : Tr 8} {la lb : List RE} (ha : ta.at w) (hb : tb.at w) (ca : ta.Cl) (cb : tb.Cl) (ea : ta.ents 0 = la.map entR) (eb : tb.ents 0 = lb.map entR) (hag : Agree ta la tb lb) :
    (totR la lb lb.length).2 = ta.fr tb ∧ (totR la lb lb.length).1 + (totR la lb lb.length).2 = tb.cnt := by
  have hlb : ∀ e ∈ lb, e.id < 4294967296 ∧ tb.get e.id ≠ none := by
    intro e he
    have : entR e ∈ tb.ents 0 := by rw [eb]; exact List.mem_map_of_mem he
    obtain ⟨h1, h2⟩ := mem_ents0.1 this
    exact ⟨h1, by rw [show e.id = (entR e).1 from rfl, h2]; simp⟩
  have hkeys : (tb.ents 0).map (·.1) = lb.map (·.id) := by rw [eb, List.map_map]; rfl
  have hp : ∀ e ∈ lb, ∀ k, k < 8 → hasR la e.id k (e.s k) = !(decide (nb ta e.id (8 - k) ≠ nb tb e.id (8 - k))) := by
    intro e he k hk
    rw [has_nb ca ea hlb hag he hk]
    by_cases h : nb ta e.id (8 - k) = nb tb e.id (8 - k) <;> simp [h]
  obtain ⟨h1, h2⟩ := tot_parts (la := la) (lb := lb) (fun x j => decide (nb ta x j ≠ nb tb x j)) hp lb.length (Nat.le_refl _)
  rw [List.take_length] at h1 h2
  refine ⟨?_, ?_⟩
  · rw [h1, Tr.fr_ask ta tb 0 (fun x j => decide (nb ta x j ≠ nb tb x j)) ha hb cb (by simp) (fun x _ j _ _ => rfl), hkeys]
  · rw [h2, ← Tr.fr_none_cnt tb, Tr.fr_ask (Tr.nil : Tr 8) tb 0 (fun _ _ => true) (nil_at w) hb cb (by simp) ?_, hkeys]
    intro x hx j h1 h2
    rw [hkeys] at hx
    obtain ⟨e, he, rfl⟩ := List.mem_map.1 hx
    have := nb_some (hlb e he).2 h2
    rw [nb_nil]
    cases hq : nb tb e.id j with
    | none => exact absurd hq this
    | some c => rfl
/-! ### What a change makes of it -/
/-- The version (t2, l2) is (t, l) with another thing at a key: its new nodes are of the stamp x, and lie from block S on. -/
structure Chg (S : Nat) (x : Int) (id : Nat) (t : Tr 8) (l : List RE) (t2 : Tr 8) (l2 : List RE) : Prop where
  at_ : ∃ C : Nat → Nat, (∀ k, S ≤ C k) ∧ ∀ e ∈ l2, ∀ k, k < 8 → (pre e.id k = pre id k ∧ e.s k = x ∧ nb t2 e.id (8 - k) = some (C k)) ∨ (pre e.id k ≠ pre id k ∧ ∃ f ∈ l, f.id = e.id ∧ e.s k = f.s k ∧ nb t2 e.id (8 - k) = nb t f.id (8 - k))
theorem chg_put {S B id : Nat} {x : Int} {t : Tr 8} {l : List RE} {v : V} (hS : S ≤ B) (hid : id < 4294967296) (hs : SrtE l) (hl : ∀ e ∈ l, e.id < 4294967296) (h : samR l id v = false) : Chg S x id t l (Tr.put (d := 7) t B id v) (putR l id v x) where
  at_ := by
    refine ⟨fun k => B + 2 * (7 + 1 - (8 - k)) + 1, fun k => (by show S ≤ B + 2 * (7 + 1 - (8 - k)) + 1; omega), fun e he k hk => ?_⟩
    obtain ⟨f, rfl, hf⟩ := putR_mem hs h he
    have hfi : f.id < 4294967296 := by
      rcases hf with hf | ⟨hf, _⟩
      · rw [hf]; exact hid
      · exact hl f hf
    show (pre f.id k = pre id k ∧ _) ∨ _
    by_cases hp : pre f.id k = pre id k
    · left
      refine ⟨hp, by simp [stE, hp], ?_⟩
      exact nb_put_same t B id v f.id (8 - k) ((samP_pre hfi hid (by omega)).2 hp) (by omega) (by omega)
    · right
      have hfl : f ∈ l := by
        rcases hf with hf | ⟨hf, _⟩
        · exact absurd (by rw [hf]) hp
        · exact hf
      refine ⟨hp, f, hfl, rfl, by simp [stE, hp], ?_⟩
      exact nb_put_off t B id v f.id (8 - k) (fun h => hp ((samP_pre hfi hid (by omega)).1 h)) (by omega) (by omega)
theorem chg_drop {S B id : Nat} {x : Int} {t : Tr 8} {l : List RE} (hS : S ≤ B) (hid : id < 4294967296) (hl : ∀ e ∈ l, e.id < 4294967296) (h : okR l id = true) (hg : ∀ e ∈ dropR l id x, (Tr.drop (d := 7) t B id).get e.id ≠ none) : Chg S x id t l (Tr.drop (d := 7) t B id) (dropR l id x) where
  at_ := by
    refine ⟨fun k => B + (7 + 1 - (8 - k)), fun k => (by show S ≤ B + (7 + 1 - (8 - k)); omega), fun e he k hk => ?_⟩
    have hge := hg e he
    obtain ⟨f, rfl, hfl⟩ := dropR_mem h he
    have hfi := hl f hfl
    show (pre f.id k = pre id k ∧ _) ∨ _
    by_cases hp : pre f.id k = pre id k
    · left
      refine ⟨hp, by simp [stE, hp], ?_⟩
      exact nb_drop_same t B id f.id (8 - k) hge ((samP_pre hfi hid (by omega)).2 hp) (by omega) (by omega)
    · right
      refine ⟨hp, f, hfl, rfl, by simp [stE, hp], ?_⟩
      exact nb_drop_off t B id f.id (8 - k) hge (fun h => hp ((samP_pre hfi hid (by omega)).1 h)) (by omega) (by omega)
theorem Chg.agree {S id : Nat} {x : Int} {t t2 t' : Tr 8} {l l2 l' : List RE} (h : Chg S x id t l t2 l2) (ho : Agree t l t' l') (hs : ∀ e ∈ l', ∀ k, k < 8 → e.s k < x) (ht : t'.all (· < S)) : Agree t2 l2 t' l' := by
  obtain ⟨C, hC, hat⟩ := h.at_
  intro e he e' he' k hk hp
  rcases hat e he k hk with ⟨h1, h2, h3⟩ | ⟨h1, f, hf, h2, h3, h4⟩
  · rw [h2, h3]
    constructor
    · intro h; have := hs e' he' k hk; omega
    · intro h
      have := nb_all ht h.symm
      have := hC k
      omega
  · rw [h3, h4]
    exact ho f hf e' he' k hk (by rw [h2]; exact hp)
theorem Chg.self {S id : Nat} {x : Int} {t t2 : Tr 8} {l l2 : List RE} (h : Chg S x id t l t2 l2) (ho : Agree t l t l) (hs : ∀ e ∈ l, ∀ k, k < 8 → e.s k < x) (ht : t.all (· < S)) : Agree t2 l2 t2 l2 := by
  have h1 := h.agree ho hs ht
  obtain ⟨C, hC, hat⟩ := h.at_
  intro e he e' he' k hk hp
  rcases hat e' he' k hk with ⟨g1, g2, g3⟩ | ⟨g1, f, hf, g2, g3, g4⟩
  · rcases hat e he k hk with ⟨k1, k2, k3⟩ | ⟨k1, _⟩
    · rw [g2, g3, k2, k3]
      simp
    · exact absurd (hp.trans g1) k1
  · rw [g3, g4]
    exact h1 e he f hf k hk (by rw [g2]; exact hp)
theorem Chg.stamps {S id : Nat} {x : Int} {t t2 : Tr 8} {l l2 : List RE} (h : Chg S x id t l t2 l2) (hs : ∀ e ∈ l, ∀ k, k < 8 → e.s k < x) : ∀ e ∈ l2, ∀ k, k < 8 → e.s k < x + 1 := by
  obtain ⟨C, hC, hat⟩ := h.at_
  intro e he k hk
  rcases hat e he k hk with ⟨_, h2, _⟩ | ⟨_, f, hf, _, h3, _⟩
  · omega
  · have := hs f hf k hk
    omega
end Go.Proofs.YtihmhledogppmaaDoor
