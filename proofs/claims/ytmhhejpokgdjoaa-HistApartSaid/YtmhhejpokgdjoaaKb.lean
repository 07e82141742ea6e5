/- The walks of levylaw11.entries and what it hands to the iterator. -/
import Derived.Test.YtmhhejpokgdjoaaKa
namespace Go.Proofs.Ytmhhejpokgdjoaa
open Go Go.RowKit
set_option linter.unusedVariables false
set_option linter.unusedSimpArgs false
attribute [local go_sem] Oper.semAt_some

theorem info_entry : (Try.prog.info? 59).map (fun i => (i.zero, i.size, i.bytes)) = some (some (.agg #[.int .u32 0, .int .i64 0, .int .i64 0]), 3, 24) := by kernel_rfl
theorem und_entries : Try.prog.underlying 23 = some (.slice 59) := by kernel_rfl
/-- Below base block b alone may have turned. -/
structure OnlyB (b base : Nat) (w w' : World) : Prop where
  os : w'.os = w.os
  tape : w'.tape = w.tape
  output : w'.output = w.output
  size : w.heap.size ≤ w'.heap.size
  block : ∀ k, k < base → k ≠ b → w'.heap[k]? = w.heap[k]?
theorem OnlyB.of_below {b base : Nat} {w w' : World} (h : Below base w w') : OnlyB b base w w' := ⟨h.os, h.tape, h.output, h.size, fun k hk _ => h.block k hk⟩
theorem OnlyB.of_upd {b base : Nat} {w w' : World} (h : Upd b w w') : OnlyB b base w w' := ⟨h.os, h.tape, h.output, Nat.le_of_eq h.size.symm, fun k _ hne => h.block k hne⟩
theorem OnlyB.trans {b base : Nat} {x y z : World} (h : OnlyB b base x y) (k : OnlyB b base y z) : OnlyB b base x z :=
  ⟨k.os.trans h.os, k.tape.trans h.tape, k.output.trans h.output, Nat.le_trans h.size k.size, fun i hi hne => (k.block i hi hne).trans (h.block i hi hne)⟩
theorem Only.onB {b : Nat} {x y z : World} (h : Only b x y) (k : OnlyB b x.heap.size y z) : Only b x z :=
  ⟨k.os.trans h.os, k.tape.trans h.tape, k.output.trans h.output, Nat.le_trans h.size k.size, fun i hi hne => (k.block i hi hne).trans (h.block i hi hne)⟩
def entV (b : Nat) : Value := .func (.func 39) #[] #[.pointer (some ⟨b, 0, none⟩)]
set_option maxRecDepth 100000 in
set_option maxHeartbeats 800000 in
theorem ent1_any (b base : Nat) (es : Value) (l : List E) (x : E) (w : World) (h : Holds w b [es]) (ho : Own w base 59 3 encL es l) (hb : b < base) (hbase : base ≤ w.heap.size) (hn : l.length ≤ 3000) :
    Calls Try.prog 39 #[.int .u32 (x.1 : Nat), .agg #[.int .i64 x.2.k, .int .i64 x.2.n], .pointer (some ⟨b, 0, none⟩)] w fun e w' =>
      e = .returned (.bool true) ∧ (∃ es', Holds w' b [es'] ∧ Own w' base 59 3 encL es' (l ++ [x])) ∧ OnlyB b base w w' := by
  obtain ⟨ea, ec, he, hef⟩ := own_fits ho
  subst he
  have h0 := h.cell (i := 0) rfl
  have hlt := h.lt
  obtain ⟨i0, hi, hz0, hz1, hz2⟩ := info_parts info_entry
  have H0 := Lib.hid h
  have HO := Lib.hid ho
  have b1 : Below base w (w.alloc (.cells #[.int .i64 x.2.k, .int .i64 x.2.n] 50)) := (Below.refl base w).alloc hbase _
  have b2 : Below base w ((w.alloc (.cells #[.int .i64 x.2.k, .int .i64 x.2.n] 50)).alloc (.cells (encL x).toArray 59)) := b1.alloc (by simp; omega) _
  have hrow : Holds ((w.alloc (.cells #[.int .i64 x.2.k, .int .i64 x.2.n] 50)).alloc (.cells (encL x).toArray 59)) (w.heap.size + 1) (encL x) := by
    have := Holds.alloc (w.alloc (.cells #[.int .i64 x.2.k, .int .i64 x.2.n] 50)) (encL x) 59
    rw [World.size_alloc] at this
    exact this
  have ho2 := ho.below (((Below.refl w.heap.size w).alloc (Nat.le_refl _) (.cells #[.int .i64 x.2.k, .int .i64 x.2.n] 50)).alloc (by simp) (.cells (encL x).toArray 59))
  have B2 := Lib.hid b2
  have HR := Lib.hid hrow
  have HO2 := Lib.hid ho2
  have d1 : decide ((l.length : Int) + 1 < 4000) = true := by simp; omega
  have d2 : decide (l.length + 1 < 4000) = true := by simp; omega
  clear h ho b1 b2 hrow ho2
  go_enter Try.func39, Try.ntmps39
  go_wp2_with (refine wpList_append_one rfl _ _ _ rfl base 59 i0 _ 3 24 und_entries hi hz0 hz1 hz2 rfl (by omega) encL _ l x rfl HO2.out (w.heap.size + 1) rfl HR.out rfl (by intro u hu; simp only [encL, List.mem_cons, List.not_mem_nil, or_false] at hu; rcases hu with rfl | rfl | rfl <;> rfl) (by simp only [maxLen]; omega) (by omega) (by simp; omega) ?_; intro v' W hO hG; have hBW := hG.below (B := base) (by simp; omega) HO.out.block; have hH := (H0.out.below B2.out hb).below hBW hb; have q0 := hH.cell (i := 0) rfl; have qf := hH.free 0; have qlt := hH.lt; obtain ⟨y1, y2, hv, hfi⟩ := own_fits hO; subst hv; rw [List.length_append, List.length_singleton] at hO; have HH := Lib.hid hH; have HOO := Lib.hid hO; have HBW := Lib.hid hBW; clear hH hO hBW hG)
  go_returns
  exact ⟨rfl, ⟨_, HH.out.setCell (i := 0) _, HOO.out.upd (Upd.setCell _) hb⟩, (OnlyB.of_below (B2.out.trans HBW.out)).trans (OnlyB.of_upd (Upd.setCell _))⟩
theorem run_eql_func {P : Program} {t : TypeId} (hu : (match P.underlying t with | some (.func ..) => true | _ => false) = true) (f : Fn) (x y : Array Value) (w : World) : (binOp .eql t (.func f x y) .nilFunc).run P w = .ok (.bool false) w := by
  cases hq : P.underlying t with
  | none => rw [hq] at hu; cases hu
  | some d =>
    rw [hq] at hu
    cases d <;> try (cases hu; done)
    have : (Op.equal t (.func f x y) .nilFunc).run P w = .ok false w := by
      unfold Op.equal Op.maxDepth Op.equalIn
      rw [Sem.run_bind, run_underlying hq w, Result.andThen_ok]
      rfl
    simp only [binOp, Sem.run_bind, this, Result.andThen_ok, Sem.run_pure]
theorem Own.base {α : Type} {w : World} {base base' : Nat} {ty : TypeId} {s : Nat} {enc : α → List Value} {v : Value} {l : List α} (h : Own w base ty s enc v l) (hb : base' ≤ base) : Own w base' ty s enc v l := by
  obtain ⟨⟨hlen, hr⟩, hn⟩ := h
  refine ⟨⟨hlen, hr.imp id ?_⟩, hn⟩
  rintro ⟨g, cap, cur, h1, h2, h3⟩
  exact ⟨g, cap, cur, h1, Nat.le_trans hb h2, h3⟩
/-- What the closure keeps: pre has come. -/
def EntI (b : Nat) (W0 : World) (pre : List E) (W : World) : Prop :=
  (∃ es, Holds W b [es] ∧ Own W W0.heap.size 59 3 encL es pre) ∧ Only b W0 W
theorem ent_yd (b : Nat) (W0 : World) (hb : b < W0.heap.size) (xs : List E) (hx : xs.length ≤ 3000) : Yd Try.prog (entV b) encE xs (EntI b W0) (fun _ _ => False) := by
  intro pre x post he W h
  obtain ⟨⟨es, h1, h2⟩, h3⟩ := h
  have hlen : pre.length ≤ 3000 := by
    have : xs.length = pre.length + (post.length + 1) := by rw [he]; simp
    omega
  refine callV_func (Go.Proofs.enters_of Try.func39 (by kernel_rfl) rfl) ?_
  refine (ent1_any b W0.heap.size es pre x W h1 h2 hb h3.size hlen).mono ?_
  rintro e W' ⟨rfl, ⟨es', g1, g2⟩, g3⟩
  exact .inl ⟨rfl, ⟨es', g1, g2⟩, h3.onB g3⟩
theorem EntI.grows (b : Nat) (W0 : World) : Grows (EntI b W0) := by
  intro pre W W' h hb
  obtain ⟨⟨es, h1, h2⟩, h3⟩ := h
  exact ⟨⟨es, h1.ext hb, h2.below hb⟩, h3.trans (Only.of_below hb)⟩
theorem eql_pm_nn (w : World) : (binOp .eql 29 (.pointer none) (.pointer none)).run Try.prog w = .ok (.bool true) w := by
  have hp : Try.prog.underlying 29 = some (.pointer 100) := by kernel_rfl
  have h : ∀ d : Nat, (Op.equalIn (d + 1) 29 (.pointer none) (.pointer none)).run Try.prog w = .ok true w := fun d => by
    simp [Op.equalIn, run_underlying hp]
  simp only [binOp]
  simp [Op.equal, Op.maxDepth, h 9999]
set_option maxRecDepth 100000 in
set_option maxHeartbeats 800000 in
theorem entries_any (v : Value) (l : List E) (w : World) (h : MapV w v l) (hl : l.length ≤ 3000) :
    Calls Try.prog 11 #[v] w fun e w' => ∃ es, e = .returned es ∧ Own w' w.heap.size 59 3 encL es l ∧ Below w.heap.size w w' := by
  rcases h with ⟨c, rfl, t, hm, rfl⟩ | ⟨rfl, rfl⟩
  · have hE : ∀ x y w, (binOp .eql 85 (.func (.func 76) #[] #[.pointer (some ⟨x, 0, none⟩), .pointer (some ⟨y, 0, none⟩)]) .nilFunc).run Try.prog w = .ok (.bool false) w := fun x y w => run_eql_func (P := Try.prog) (t := 85) (by kernel_rfl) _ _ _ w
    have e1 := fun W => eql_pm_nil ⟨c, 0, none⟩ W
    have hal : Below w.heap.size w (w.alloc (.cells #[.slice none 0 0] 23)) := (Below.refl _ _).alloc (Nat.le_refl _) _
    have H3 := Lib.hid (Holds.alloc w [.slice none 0 0] 23)
    have HM := Lib.hid hm
    have HA := Lib.hid hal
    clear hal hm
    refine (callsIn_wide (n := 0)).1 (callsIn_of_wp Try.func11 rfl trivial ?_)
    simp only [Try.ntmps11, List.size_toArray, List.length_cons, List.length_nil, Nat.reduceAdd, Nat.reduceSub, Array.replicate_succ, Array.replicate_zero, List.push_toArray, List.append_toArray, List.nil_append, List.cons_append]
    gi_wp2_with fail
    refine ⟨trivial, rfl, (open_wide _).calls ((all_any c _).mono ?_)⟩
    rintro e W0 ⟨rfl, hb0, h1, h2⟩
    have hsz : (w.alloc (.cells #[.slice none 0 0] 23)).heap.size = w.heap.size + 1 := by simp
    rw [hsz] at h1 h2 ⊢
    have g3 := H3.out.ext hb0
    have hlt := g3.lt
    have hm0 := (HM.out.ext HA.out).ext hb0
    have hne : t.all (· ≠ w.heap.size) := Tr.all_mono (fun k hk => by omega) (Tr.at_all HM.out.tree)
    have hcne : c ≠ w.heap.size := by have := HM.out.map.lt; omega
    have hD : ∀ W, Only w.heap.size W0 W → FromD c 0 t (w.heap.size + 1) (w.heap.size + 1 + 1) W := fun W ho =>
      ⟨ho.holds h1 (by omega), ho.holds h2 (by omega), _, ⟨ho.holds hm0.map hcne, ho.tree hm0.tree hne⟩⟩
    have hc := from_gives c 0 t (w.heap.size + 1) (w.heap.size + 1 + 1) (by omega) (entV w.heap.size) (EntI w.heap.size W0) (fun _ _ => False) W0 (EntI.grows _ _) (fun pre W h => hD W h.2) (ent_yd w.heap.size W0 hlt _ (by rw [fromL_zero]; exact hl)) ⟨⟨_, g3, own_nil _ _ _ _ _⟩, Only.refl _ _⟩
    rw [fromL_zero] at hc
    have HC := Lib.hid hc
    have HB0 := Lib.hid (HA.out.trans (hb0.mono HA.out.size))
    have hsz0 : Hid (w.heap.size + 1 ≤ W0.heap.size) := Lib.hid (by have := hb0.size; rw [hsz] at this; exact this)
    clear hc hm0 hne hcne hD g3 h1 h2 hb0 HM HA H3
    unfold fromV
    gi_wp2_with (refine wpListIn_callV (open_wide _) rfl _ _ _ rfl (vs := #[entV w.heap.size]) rfl (by simp [entV, Act.eval]) ?_; refine HC.out.mono ?_; rintro e W' ⟨⟨v, rfl⟩, (hI | ⟨_, _, _, _, hF⟩)⟩; obtain ⟨⟨es, q1, q2⟩, q3⟩ := hI; have c0 := q1.cell (i := 0) rfl)
    all_goals first | exact hF.elim | skip
    go_returns
    exact ⟨es, rfl, q2.base (by have := hsz0.out; omega), HB0.out.trans (q3.below (Nat.le_refl _) (by have := hsz0.out; omega))⟩
  · have e1 := fun W => eql_pm_nn W
    go_enter Try.func11, Try.ntmps11
    go_wp2
    go_returns
    exact ⟨_, rfl, own_nil _ _ _ _ _, (Below.refl _ _).alloc (Nat.le_refl _) _⟩
end Go.Proofs.Ytmhhejpokgdjoaa
