/- The walk of levylaw11.sameEntries. · The walks of levylaw11.entries and what it hands to the iterator. · The walks of levylaw11.part, build. · The walks of levylaw11.versions, steps: what Steps gives. · The walks of levylaw11.versions, steps. · The walks of levylaw11.all, sameAll: all versions' entries. · The walks of levylaw11.sameAll, plays. · The walk of levylaw11.known. -/
import Derived.Test.YtmhhejpokgdjoaaHiX
namespace Go.Proofs.Ytmhhejpokgdjoaa
open Go Go.RowKit
set_option linter.unusedVariables false
set_option linter.unusedSimpArgs false

def encL (e : Nat × V) : List Value := [.int .u32 (e.1 : Nat), .int .i64 e.2.k, .int .i64 e.2.n]
theorem encL_len (e : Nat × V) : (encL e).length = 3 := rfl
set_option maxRecDepth 100000 in
set_option maxHeartbeats 800000 in
theorem sameEntries_any (v1 v2 : Value) (l1 l2 : List (Nat × V)) (w : World) (h1 : Rd w 3 encL v1 l1) (h2 : Rd w 3 encL v2 l2) (hn : l1.length ≤ 4294967296) (hn2 : l2.length ≤ 4294967296) :
    Calls Try.prog 16 #[v1, v2] w fun e w' => e = .returned (.bool (decide (l1 = l2))) ∧ Below w.heap.size w w' := by
  obtain ⟨a1, c1, rfl, h1⟩ := h1
  obtain ⟨a2, c2, rfl, h2⟩ := h2
  by_cases hlen : l1.length = l2.length
  · rcases h1 with rfl | ⟨b1, o1, rfl, hl1, hc1⟩
    · obtain rfl : l2 = [] := List.length_eq_zero_iff.1 hlen.symm
      go_enter Try.func16, Try.ntmps16
      go_wp2
      refine wp_loop_once ?_
      go_wp2
      go_returns
      exact ⟨rfl, Below.refl _ _⟩
    rcases h2 with rfl | ⟨b2, o2, rfl, hl2, hc2⟩
    · obtain rfl : l1 = [] := List.length_eq_zero_iff.1 hlen
      go_enter Try.func16, Try.ntmps16
      go_wp2
      refine wp_loop_once ?_
      go_wp2
      go_returns
      exact ⟨rfl, Below.refl _ _⟩
    have HL := Lib.hid hlen
    rw [← hlen]
    clear hlen
    go_enter Try.func16, Try.ntmps16
    go_wp2
    go_loopw [5] (fun i wr => ∃ k : Nat, k ≤ l1.length ∧ i = .int .i64 (k : Int) ∧ l1.take k = l2.take k ∧ Below w.heap.size w wr) (fun i _ => l1.length - (intOf i).toNat)
    case atStart => exact ⟨0, by omega, rfl, rfl, Below.refl _ _⟩
    case round =>
      obtain ⟨k, hk, rfl, htk, hb⟩ := hrel
      have HT := Lib.hid htk
      clear htk
      by_cases hlt : k < l1.length
      · have e1 : l1[k]? = some l1[k] := List.getElem?_eq_getElem hlt
        have e2 : l2[k]? = some (l2[k]'(by have := HL.out; omega)) := List.getElem?_eq_getElem (by have := HL.out; omega)
        generalize l1[k] = x at e1
        generalize (l2[k]'(by have := HL.out; omega)) = y at e2
        have f0 := (hb.cell (p := ⟨b1, _, none⟩) hl1).trans (hc1 k x 0 _ e1 rfl)
        have f1 := (hb.cell (p := ⟨b1, _, none⟩) hl1).trans (hc1 k x 1 _ e1 rfl)
        have f2 := (hb.cell (p := ⟨b1, _, none⟩) hl1).trans (hc1 k x 2 _ e1 rfl)
        have g0 := (hb.cell (p := ⟨b2, _, none⟩) hl2).trans (hc2 k y 0 _ e2 rfl)
        have g1 := (hb.cell (p := ⟨b2, _, none⟩) hl2).trans (hc2 k y 1 _ e2 rfl)
        have g2 := (hb.cell (p := ⟨b2, _, none⟩) hl2).trans (hc2 k y 2 _ e2 rfl)
        have E1 := Lib.hid e1
        have E2 := Lib.hid e2
        clear e1 e2 hc1 hc2
        simp only [Nat.add_zero] at f0 g0
        have hne : x ≠ y → l1 ≠ l2 := fun h e => h (by have a := E1.out; have b := E2.out; rw [e, b] at a; exact (Option.some.inj a).symm)
        by_cases hxy : x = y
        · subst hxy
          have heq : l1.take (k + 1) = l2.take (k + 1) := by
            rw [List.take_add_one, List.take_add_one, HT.out, E1.out, E2.out]
          have HQ := Lib.hid heq
          have HB := Lib.hid hb
          clear heq hne hb
          go_wp2
          refine rgn [0, 1, 2, 3, 4, 5, 6, 7, 8] [] (by kernel_rfl) ?_
          simp only [pickL, List.getD_cons_zero, List.getD_cons_succ]
          go_wp2
          refine ⟨rfl, ?_⟩
          go_wp2
          go_roundw
          case rel => exact ⟨k + 1, by omega, by go_num, HQ.out, HB.out.drew⟩
          case measure => simp [intOf]; omega
        · have hno := Lib.hid (decide_eq_false (hne hxy))
          obtain ⟨xi, ⟨xk, xn⟩⟩ := x
          obtain ⟨yi, ⟨yk, yn⟩⟩ := y
          have HXY : Hid (¬ (xi = yi ∧ xk = yk ∧ xn = yn)) := Lib.hid (by rintro ⟨rfl, rfl, rfl⟩; exact hxy rfl)
          have HB := Lib.hid hb
          clear hxy hne hb
          go_wp2
          refine rgn [0, 1, 2, 3, 4, 5, 6, 7, 8] [] (by kernel_rfl) ?_
          simp only [pickL, List.getD_cons_zero, List.getD_cons_succ]
          go_wp2
          all_goals first
            | (exfalso; exact HXY.out ⟨by omega, by assumption, by assumption⟩)
            | (refine ⟨rfl, ?_⟩
               go_wp2
               go_returns
               exact ⟨by rw [hno.out]; rfl, HB.out.drew⟩)
      · have hall : l1 = l2 := by
          have := HT.out
          rwa [List.take_of_length_le (by omega), List.take_of_length_le (by have := HL.out; omega)] at this
        have hyes := Lib.hid (decide_eq_true hall)
        clear hall
        go_wp2
        go_returns
        exact ⟨by rw [hyes.out]; rfl, hb⟩
  · have hno := Lib.hid (decide_eq_false (fun e : l1 = l2 => hlen (by rw [e])))
    have hq : (((l1.length : Nat) : Int) != ((l2.length : Nat) : Int)) = true := by simp; omega
    clear hlen h1 h2
    go_enter Try.func16, Try.ntmps16
    go_wp2
    go_returns
    exact ⟨by rw [hno.out]; rfl, Below.refl _ _⟩
end Go.Proofs.Ytmhhejpokgdjoaa
namespace Go.Proofs.Ytmhhejpokgdjoaa
open Go Go.RowKit
set_option linter.unusedVariables false
set_option linter.unusedSimpArgs false
attribute [local go_sem] Oper.semAt_some

theorem info_entry : (Try.prog.info? 59).map (fun i => (i.zero, i.size, i.bytes)) = some (some (.agg #[.int .u32 0, .int .i64 0, .int .i64 0]), 3, 24) := by kernel_rfl
theorem und_entries : Try.prog.underlying 23 = some (.slice 59) := by kernel_rfl
/-- Below base block b alone may have turned. -/
structure OnlyB (b base : Nat) (w w' : World) : Prop where
  os : w'.os = w.os
  tape : w'.tape = w.tape
  output : w'.output = w.output
  size : w.heap.size ≤ w'.heap.size
  block : ∀ k, k < base → k ≠ b → w'.heap[k]? = w.heap[k]?
theorem OnlyB.of_below {b base : Nat} {w w' : World} (h : Below base w w') : OnlyB b base w w' := ⟨h.os, h.tape, h.output, h.size, fun k hk _ => h.block k hk⟩
theorem OnlyB.of_upd {b base : Nat} {w w' : World} (h : Upd b w w') : OnlyB b base w w' := ⟨h.os, h.tape, h.output, Nat.le_of_eq h.size.symm, fun k _ hne => h.block k hne⟩
theorem OnlyB.trans {b base : Nat} {x y z : World} (h : OnlyB b base x y) (k : OnlyB b base y z) : OnlyB b base x z :=
  ⟨k.os.trans h.os, k.tape.trans h.tape, k.output.trans h.output, Nat.le_trans h.size k.size, fun i hi hne => (k.block i hi hne).trans (h.block i hi hne)⟩
theorem Only.onB {b : Nat} {x y z : World} (h : Only b x y) (k : OnlyB b x.heap.size y z) : Only b x z :=
  ⟨k.os.trans h.os, k.tape.trans h.tape, k.output.trans h.output, Nat.le_trans h.size k.size, fun i hi hne => (k.block i hi hne).trans (h.block i hi hne)⟩
def entV (b : Nat) : Value := .func (.func 39) #[] #[.pointer (some ⟨b, 0, none⟩)]
set_option maxRecDepth 100000 in
set_option maxHeartbeats 800000 in
theorem ent1_any (b base : Nat) (es : Value) (l : List E) (x : E) (w : World) (h : Holds w b [es]) (ho : Own w base 59 3 encL es l) (hb : b < base) (hbase : base ≤ w.heap.size) (hn : l.length ≤ 3000) :
    Calls Try.prog 39 #[.int .u32 (x.1 : Nat), .agg #[.int .i64 x.2.k, .int .i64 x.2.n], .pointer (some ⟨b, 0, none⟩)] w fun e w' =>
      e = .returned (.bool true) ∧ (∃ es', Holds w' b [es'] ∧ Own w' base 59 3 encL es' (l ++ [x])) ∧ OnlyB b base w w' := by
  obtain ⟨ea, ec, he, hef⟩ := own_fits ho
  subst he
  have h0 := h.cell (i := 0) rfl
  have hlt := h.lt
  obtain ⟨i0, hi, hz0, hz1, hz2⟩ := info_parts info_entry
  have H0 := Lib.hid h
  have HO := Lib.hid ho
  have b1 : Below base w (w.alloc (.cells #[.int .i64 x.2.k, .int .i64 x.2.n] 50)) := (Below.refl base w).alloc hbase _
  have b2 : Below base w ((w.alloc (.cells #[.int .i64 x.2.k, .int .i64 x.2.n] 50)).alloc (.cells (encL x).toArray 59)) := b1.alloc (by simp; omega) _
  have hrow : Holds ((w.alloc (.cells #[.int .i64 x.2.k, .int .i64 x.2.n] 50)).alloc (.cells (encL x).toArray 59)) (w.heap.size + 1) (encL x) := by
    have := Holds.alloc (w.alloc (.cells #[.int .i64 x.2.k, .int .i64 x.2.n] 50)) (encL x) 59
    rw [World.size_alloc] at this
    exact this
  have ho2 := ho.below (((Below.refl w.heap.size w).alloc (Nat.le_refl _) (.cells #[.int .i64 x.2.k, .int .i64 x.2.n] 50)).alloc (by simp) (.cells (encL x).toArray 59))
  have B2 := Lib.hid b2
  have HR := Lib.hid hrow
  have HO2 := Lib.hid ho2
  have d1 : decide ((l.length : Int) + 1 < 4000) = true := by simp; omega
  have d2 : decide (l.length + 1 < 4000) = true := by simp; omega
  clear h ho b1 b2 hrow ho2
  go_enter Try.func39, Try.ntmps39
  go_wp2_with (refine wpList_append_one rfl _ _ _ rfl base 59 i0 _ 3 24 und_entries hi hz0 hz1 hz2 rfl (by omega) encL _ l x rfl HO2.out (w.heap.size + 1) rfl HR.out rfl (by intro u hu; simp only [encL, List.mem_cons, List.not_mem_nil, or_false] at hu; rcases hu with rfl | rfl | rfl <;> rfl) (by simp only [maxLen]; omega) (by omega) (by simp; omega) ?_; intro v' W hO hG; have hBW := hG.below (B := base) (by simp; omega) HO.out.block; have hH := (H0.out.below B2.out hb).below hBW hb; have q0 := hH.cell (i := 0) rfl; have qf := hH.free 0; have qlt := hH.lt; obtain ⟨y1, y2, hv, hfi⟩ := own_fits hO; subst hv; rw [List.length_append, List.length_singleton] at hO; have HH := Lib.hid hH; have HOO := Lib.hid hO; have HBW := Lib.hid hBW; clear hH hO hBW hG)
  go_returns
  exact ⟨rfl, ⟨_, HH.out.setCell (i := 0) _, HOO.out.upd (Upd.setCell _) hb⟩, (OnlyB.of_below (B2.out.trans HBW.out)).trans (OnlyB.of_upd (Upd.setCell _))⟩
theorem run_eql_func {P : Program} {t : TypeId} (hu : (match P.underlying t with | some (.func ..) => true | _ => false) = true) (f : Fn) (x y : Array Value) (w : World) : (binOp .eql t (.func f x y) .nilFunc).run P w = .ok (.bool false) w := by
  cases hq : P.underlying t with
  | none => rw [hq] at hu; cases hu
  | some d =>
    rw [hq] at hu
    cases d <;> try (cases hu; done)
    have : (Op.equal t (.func f x y) .nilFunc).run P w = .ok false w := by
      unfold Op.equal Op.maxDepth Op.equalIn
      rw [Sem.run_bind, run_underlying hq w, Result.andThen_ok]
      rfl
    simp only [binOp, Sem.run_bind, this, Result.andThen_ok, Sem.run_pure]
theorem Own.base {α : Type} {w : World} {base base' : Nat} {ty : TypeId} {s : Nat} {enc : α → List Value} {v : Value} {l : List α} (h : Own w base ty s enc v l) (hb : base' ≤ base) : Own w base' ty s enc v l := by
  obtain ⟨⟨hlen, hr⟩, hn⟩ := h
  refine ⟨⟨hlen, hr.imp id ?_⟩, hn⟩
  rintro ⟨g, cap, cur, h1, h2, h3⟩
  exact ⟨g, cap, cur, h1, Nat.le_trans hb h2, h3⟩
/-- What the closure keeps: pre has come. -/
def EntI (b : Nat) (W0 : World) (pre : List E) (W : World) : Prop :=
  (∃ es, Holds W b [es] ∧ Own W W0.heap.size 59 3 encL es pre) ∧ Only b W0 W
theorem ent_yd (b : Nat) (W0 : World) (hb : b < W0.heap.size) (xs : List E) (hx : xs.length ≤ 3000) : Yd Try.prog (entV b) encE xs (EntI b W0) (fun _ _ => False) := by
  intro pre x post he W h
  obtain ⟨⟨es, h1, h2⟩, h3⟩ := h
  have hlen : pre.length ≤ 3000 := by
    have : xs.length = pre.length + (post.length + 1) := by rw [he]; simp
    omega
  refine callV_func (Go.Proofs.enters_of Try.func39 (by kernel_rfl) rfl) ?_
  refine (ent1_any b W0.heap.size es pre x W h1 h2 hb h3.size hlen).mono ?_
  rintro e W' ⟨rfl, ⟨es', g1, g2⟩, g3⟩
  exact .inl ⟨rfl, ⟨es', g1, g2⟩, h3.onB g3⟩
theorem EntI.grows (b : Nat) (W0 : World) : Grows (EntI b W0) := by
  intro pre W W' h hb
  obtain ⟨⟨es, h1, h2⟩, h3⟩ := h
  exact ⟨⟨es, h1.ext hb, h2.below hb⟩, h3.trans (Only.of_below hb)⟩
theorem eql_pm_nn (w : World) : (binOp .eql 29 (.pointer none) (.pointer none)).run Try.prog w = .ok (.bool true) w := by
  have hp : Try.prog.underlying 29 = some (.pointer 100) := by kernel_rfl
  have h : ∀ d : Nat, (Op.equalIn (d + 1) 29 (.pointer none) (.pointer none)).run Try.prog w = .ok true w := fun d => by
    simp [Op.equalIn, run_underlying hp]
  simp only [binOp]
  simp [Op.equal, Op.maxDepth, h 9999]
set_option maxRecDepth 100000 in
set_option maxHeartbeats 800000 in
theorem entries_any (v : Value) (l : List E) (w : World) (h : MapV w v l) (hl : l.length ≤ 3000) :
    Calls Try.prog 11 #[v] w fun e w' => ∃ es, e = .returned es ∧ Own w' w.heap.size 59 3 encL es l ∧ Below w.heap.size w w' := by
  rcases h with ⟨c, rfl, t, hm, rfl⟩ | ⟨rfl, rfl⟩
  · have hE : ∀ x y w, (binOp .eql 85 (.func (.func 76) #[] #[.pointer (some ⟨x, 0, none⟩), .pointer (some ⟨y, 0, none⟩)]) .nilFunc).run Try.prog w = .ok (.bool false) w := fun x y w => run_eql_func (P := Try.prog) (t := 85) (by kernel_rfl) _ _ _ w
    have e1 := fun W => eql_pm_nil ⟨c, 0, none⟩ W
    have hal : Below w.heap.size w (w.alloc (.cells #[.slice none 0 0] 23)) := (Below.refl _ _).alloc (Nat.le_refl _) _
    have H3 := Lib.hid (Holds.alloc w [.slice none 0 0] 23)
    have HM := Lib.hid hm
    have HA := Lib.hid hal
    clear hal hm
    refine (callsIn_wide (n := 0)).1 (callsIn_of_wp Try.func11 rfl trivial ?_)
    simp only [Try.ntmps11, List.size_toArray, List.length_cons, List.length_nil, Nat.reduceAdd, Nat.reduceSub, Array.replicate_succ, Array.replicate_zero, List.push_toArray, List.append_toArray, List.nil_append, List.cons_append]
    gi_wp2_with fail
    refine ⟨trivial, rfl, (open_wide _).calls ((all_any c _).mono ?_)⟩
    rintro e W0 ⟨rfl, hb0, h1, h2⟩
    have hsz : (w.alloc (.cells #[.slice none 0 0] 23)).heap.size = w.heap.size + 1 := by simp
    rw [hsz] at h1 h2 ⊢
    have g3 := H3.out.ext hb0
    have hlt := g3.lt
    have hm0 := (HM.out.ext HA.out).ext hb0
    have hne : t.all (· ≠ w.heap.size) := Tr.all_mono (fun k hk => by omega) (Tr.at_all HM.out.tree)
    have hcne : c ≠ w.heap.size := by have := HM.out.map.lt; omega
    have hD : ∀ W, Only w.heap.size W0 W → FromD c 0 t (w.heap.size + 1) (w.heap.size + 1 + 1) W := fun W ho =>
      ⟨ho.holds h1 (by omega), ho.holds h2 (by omega), _, ⟨ho.holds hm0.map hcne, ho.tree hm0.tree hne⟩⟩
    have hc := from_gives c 0 t (w.heap.size + 1) (w.heap.size + 1 + 1) (by omega) (entV w.heap.size) (EntI w.heap.size W0) (fun _ _ => False) W0 (EntI.grows _ _) (fun pre W h => hD W h.2) (ent_yd w.heap.size W0 hlt _ (by rw [fromL_zero]; exact hl)) ⟨⟨_, g3, own_nil _ _ _ _ _⟩, Only.refl _ _⟩
    rw [fromL_zero] at hc
    have HC := Lib.hid hc
    have HB0 := Lib.hid (HA.out.trans (hb0.mono HA.out.size))
    have hsz0 : Hid (w.heap.size + 1 ≤ W0.heap.size) := Lib.hid (by have := hb0.size; rw [hsz] at this; exact this)
    clear hc hm0 hne hcne hD g3 h1 h2 hb0 HM HA H3
    unfold fromV
    gi_wp2_with (refine wpListIn_callV (open_wide _) rfl _ _ _ rfl (vs := #[entV w.heap.size]) rfl (by simp [entV, Act.eval]) ?_; refine HC.out.mono ?_; rintro e W' ⟨⟨v, rfl⟩, (hI | ⟨_, _, _, _, hF⟩)⟩; obtain ⟨⟨es, q1, q2⟩, q3⟩ := hI; have c0 := q1.cell (i := 0) rfl)
    all_goals first | exact hF.elim | skip
    go_returns
    exact ⟨es, rfl, q2.base (by have := hsz0.out; omega), HB0.out.trans (q3.below (Nat.le_refl _) (by have := hsz0.out; omega))⟩
  · have e1 := fun W => eql_pm_nn W
    go_enter Try.func11, Try.ntmps11
    go_wp2
    go_returns
    exact ⟨_, rfl, own_nil _ _ _ _ _, (Below.refl _ _).alloc (Nat.le_refl _) _⟩
end Go.Proofs.Ytmhhejpokgdjoaa
namespace Go.Proofs.Ytmhhejpokgdjoaa
open Go Go.RowKit
set_option linter.unusedVariables false
set_option linter.unusedSimpArgs false

def buildK (l : List E) (k : Nat) : List E := (l.take k).foldl (fun m e => laidL e.1 e.2 false m) []
def buildL (l : List E) : List E := buildK l 200
theorem buildK_succ {l : List E} {k : Nat} {x : E} (h : l[k]? = some x) : buildK l (k + 1) = laidL x.1 x.2 false (buildK l k) := by
  obtain ⟨hk, rfl⟩ := List.getElem?_eq_some_iff.1 h
  unfold buildK
  rw [List.take_succ_eq_append_getElem hk, List.foldl_append]
  rfl
theorem laidL_len' (k : Nat) (v : V) : ∀ (done : Bool) (l : List (Nat × V)), (laidL k v done l).length ≤ l.length + (if done then 0 else 1)
  | true, [] => by simp [laidL]
  | false, [] => by simp [laidL]
  | true, (a, u) :: l => by
    have h2 := laidL_len' k v true l
    rw [laidL_cons]
    simp only [Bool.true_eq_false, false_and, if_false, if_true, List.length_cons] at *
    split <;> (try simp only [List.length_cons]) <;> omega
  | false, (a, u) :: l => by
    have h1 := laidL_len' k v false l
    have h2 := laidL_len' k v true l
    rw [laidL_cons]
    simp only [Bool.false_eq_true, true_and, if_false, if_true, List.length_cons] at *
    split
    · omega
    · split <;> simp only [List.length_cons] <;> omega
theorem buildK_len (l : List E) : ∀ k, (buildK l k).length ≤ k
  | 0 => by simp [buildK]
  | k + 1 => by
    cases h : l[k]? with
    | none =>
      have : l.take (k + 1) = l.take k := by
        rw [List.take_of_length_le (by have := List.getElem?_eq_none_iff.1 h; omega), List.take_of_length_le (List.getElem?_eq_none_iff.1 h)]
      have h2 := buildK_len l k
      unfold buildK at *
      rw [this]; omega
    | some x =>
      rw [buildK_succ h]
      have := laidL_len' x.1 x.2 false (buildK l k)
      have := buildK_len l k
      simp only [Bool.false_eq_true, if_false] at *
      omega
theorem buildL_len (l : List E) : (buildL l).length ≤ 200 := buildK_len l 200
theorem buildK_min (l : List E) : buildK l (min l.length 200) = buildL l := by
  unfold buildL buildK
  congr 1
  rcases Nat.le_total l.length 200 with h | h
  · rw [Nat.min_eq_left h, List.take_of_length_le (Nat.le_refl _), List.take_of_length_le h]
  · rw [Nat.min_eq_right h]
set_option maxRecDepth 100000 in
theorem part_any (a : Option Addr) (c : Nat) (l : List E) (w : World) (h : Rd w 3 encL (.slice a l.length c) l) (hc : l.length ≤ c) :
    Calls Try.prog 42 #[.slice a l.length c] w fun e w' => e = .returned (.slice a (min l.length 200) c) ∧ w' = w := by
  go_enter Try.func42, Try.ntmps42
  go_wp2
  · go_returns
    refine ⟨?_, rfl⟩
    rw [Nat.min_eq_right (by omega)]
    rfl
  · go_returns
    refine ⟨?_, rfl⟩
    rw [Nat.min_eq_left (by omega)]
    rfl
/-- The slice v reads as the list l and is well made. -/
def RdF (w : World) (v : Value) (l : List E) : Prop := ∃ a c, v = .slice a l.length c ∧ l.length ≤ c ∧ Rd w 3 encL (.slice a l.length c) l
theorem RdF.ext {w w' : World} {v : Value} {l : List E} (h : RdF w v l) (hb : Below w.heap.size w w') : RdF w' v l := by
  obtain ⟨a, c, h1, h2, h3⟩ := h
  exact ⟨a, c, h1, h2, h3.ext hb⟩
set_option maxRecDepth 100000 in
set_option maxHeartbeats 800000 in
theorem build_any (v : Value) (l : List E) (w : World) (h : RdF w v l) (hid : ∀ x ∈ l, x.1 < 4294967296) :
    Calls Try.prog 15 #[v] w fun e w' => ∃ b, e = .returned (.pointer (some ⟨b, 0, none⟩)) ∧ MapL w' b (buildL l) ∧ Below w.heap.size w w' := by
  obtain ⟨a, c, rfl, hc, hr⟩ := h
  have HR := Lib.hid hr
  have HID := Lib.hid hid
  have hp := fun W (hW : Below w.heap.size w W) => part_any a c l W (hr.ext hW) hc
  have HP := Lib.hid hp
  have e1 := fun b W => eql_pm_nil ⟨b, 0, none⟩ W
  clear hr hid hp
  go_enter Try.func15, Try.ntmps15
  go_wp2_with fail
  refine (empty_l w).mono ?_
  rintro e w1 ⟨b0, rfl, hm, hb1⟩
  have M1 := Lib.hid hm
  have B1 := Lib.hid hb1
  clear hm hb1
  go_wp2_with fail
  refine (HP.out w1 B1.out).mono ?_
  rintro e w1' ⟨rfl, hw⟩
  subst hw
  obtain ⟨N, hN⟩ : ∃ N, N = min l.length 200 := ⟨_, rfl⟩
  have hN1 : N ≤ l.length := by omega
  have hN2 : N ≤ 200 := by omega
  have HN := Lib.hid hN
  rw [← hN]
  clear hN HP
  go_wp2
  go_loopw [3, 4] (fun m i wr => ∃ (k bm : Nat), i = .int .i64 (k : Int) ∧ k ≤ N ∧ m = .pointer (some ⟨bm, 0, none⟩) ∧ MapL wr bm (buildK l k) ∧ Below w.heap.size w wr) (fun _ i _ => N - (intOf i).toNat)
  case atStart => exact ⟨0, b0, rfl, by omega, rfl, M1.out, B1.out⟩
  case round =>
    obtain ⟨k, bm, rfl, hk, rfl, hm, hB⟩ := hrel
    by_cases hkn : k < N
    · have hkl : k < l.length := by omega
      have e2 : l[k]? = some l[k] := List.getElem?_eq_getElem hkl
      have hx := HID.out l[k] (List.getElem_mem hkl)
      have hsucc := buildK_succ e2
      obtain ⟨a', c', hs, hnil | ⟨g, o, rfl, hg, hcl⟩⟩ := HR.out
      · subst hnil; simp at hkl
      simp only [Value.slice.injEq, true_and] at hs
      obtain ⟨rfl, rfl⟩ := hs
      generalize l[k] = x at e2 hx hsucc
      obtain ⟨xi, ⟨xk, xn⟩⟩ := x
      have f0 := (hB.cell (p := ⟨g, _, none⟩) hg).trans (hcl k _ 0 _ e2 rfl)
      have f1 := (hB.cell (p := ⟨g, _, none⟩) hg).trans (hcl k _ 1 _ e2 rfl)
      have f2 := (hB.cell (p := ⟨g, _, none⟩) hg).trans (hcl k _ 2 _ e2 rfl)
      simp only [Nat.add_zero] at f0
      have hc := put_l bm xi (buildK l k) ⟨xk, xn⟩ wr.drew (hm.ext (Below.refl _ _).drew) (by have := buildK_len l k; omega) hx
      have HC := Lib.hid hc
      have HS := Lib.hid hsucc
      have HB := Lib.hid hB
      clear hcl e2 hc hsucc hB hm
      go_wp2
      refine rgn [0, 1, 2, 3, 4, 5, 6, 7, 8, 9, 10, 11, 12] [] (by kernel_rfl) ?_
      simp only [pickL, List.getD_cons_zero, List.getD_cons_succ]
      go_wp2_with fail
      refine HC.out.mono ?_
      rintro e w3 ⟨b', rfl, hm', hb3⟩
      have M3 := Lib.hid hm'
      have G3 := Lib.hid (HB.out.trans ((below_of_drew hb3).mono HB.out.size))
      clear hm' hb3 HC HB
      go_wp2
      refine ⟨rfl, ?_⟩
      go_wp2
      go_roundw
      case rel => exact ⟨k + 1, b', by go_num, by omega, rfl, by rw [HS.out]; exact M3.out, G3.out⟩
      case measure => simp [intOf]; omega
    · have hno : decide ((k : Int) < (N : Int)) = false := by simp; omega
      have hkN : k = N := by omega
      have HB := Lib.hid hB
      have hm2 : MapL wr bm (buildL l) := by rw [← buildK_min, ← HN.out, ← hkN]; exact hm
      have M3 := Lib.hid hm2
      clear hB hm hm2
      go_wp2
      go_returns
      exact ⟨bm, rfl, M3.out, HB.out⟩
end Go.Proofs.Ytmhhejpokgdjoaa
namespace Go.Proofs.Ytmhhejpokgdjoaa
open Go Go.RowKit
set_option linter.unusedVariables false
set_option linter.unusedSimpArgs false
attribute [local go_sem] Oper.semAt_some

def encW (x : Int × (Nat × List E)) : List Value := [.int .i64 x.1, .pointer (some ⟨x.2.1, 0, none⟩)]
theorem encW_len (x : Int × (Nat × List E)) : (encW x).length = 2 := rfl
theorem info_ver : (Try.prog.info? 94).map (fun i => (i.zero, i.size, i.bytes)) = some (some (.agg #[.int .i64 0, .pointer none]), 2, 16) := by kernel_rfl
theorem und_vers : Try.prog.underlying 90 = some (.slice 94) := by kernel_rfl
def verV (B : Nat) : Value := .func (.func 74) #[] #[.pointer (some ⟨B + 2, 0, none⟩), .pointer (some ⟨B + 3, 0, none⟩), .pointer (some ⟨B + 1, 0, none⟩), .pointer (some ⟨B, 0, none⟩)]
/-- What the closure's variables hold. -/
structure VerI (B : Nat) (most : Int) (over : Bool) (pre : List (Int × (Nat × List E))) (W : World) : Prop where
  out : ∃ es, Holds W (B + 1) [es] ∧ Own W (B + 4) 94 2 encW es pre
  over : Holds W (B + 2) [.bool over]
  well : Holds W (B + 3) [.bool true]
  most : Holds W B [.int .i64 most]
  size : B + 4 ≤ W.heap.size
set_option maxRecDepth 100000 in
set_option maxHeartbeats 1600000 in
theorem ver1_any (B : Nat) (most : Int) (l : List (Int × (Nat × List E))) (x : Int × (Nat × List E)) (w : World) (h : VerI B most false l w) (hn : l.length ≤ 100) :
    Calls Try.prog 74 #[.int .i64 x.1, .pointer (some ⟨x.2.1, 0, none⟩), .pointer (some ⟨B + 2, 0, none⟩), .pointer (some ⟨B + 3, 0, none⟩), .pointer (some ⟨B + 1, 0, none⟩), .pointer (some ⟨B, 0, none⟩)] w fun e w' =>
      e = .returned (.bool (!decide ((l.length : Int) + 1 = most))) ∧ VerI B most (decide ((l.length : Int) + 1 = most)) (l ++ [x]) w' ∧ Below B w w' := by
  obtain ⟨es, ho1, ho⟩ := h.out
  obtain ⟨ea, ec, he, hef⟩ := own_fits ho
  subst he
  have hsz := h.size
  have c2 := h.over.cell (i := 0) rfl
  have c1 := ho1.cell (i := 0) rfl
  obtain ⟨i0, hi, hz0, hz1, hz2⟩ := info_parts info_ver
  have HI := Lib.hid h
  have H1 := Lib.hid ho1
  have HO := Lib.hid ho
  have hal : Below w.heap.size w (w.alloc (.cells (encW x).toArray 94)) := (Below.refl _ _).alloc (Nat.le_refl _) _
  have hrow := Holds.alloc w (encW x) 94
  have B1 := Lib.hid hal
  have HR := Lib.hid hrow
  have HO2 := Lib.hid (ho.below hal)
  have fin : ∀ W, Below (B + 4) w W → Holds W (B + 1) [.slice ea l.length ec] ∧ Holds W (B + 2) [.bool false] ∧ Holds W (B + 3) [.bool true] ∧ Holds W B [.int .i64 most] := fun W hW =>
    ⟨ho1.below hW (by omega), h.over.below hW (by omega), h.well.below hW (by omega), h.most.below hW (by omega)⟩
  have FIN := Lib.hid fin
  have fin2 : ∀ (ov : Bool) (W : World) (v' : Value), Below (B + 4) w W → Own W (B + 4) 94 2 encW v' (l ++ [x]) →
      VerI B most ov (l ++ [x]) ((W.setCell ⟨B + 1, 0, none⟩ v').setCell ⟨B + 2, 0, none⟩ (.bool ov)) ∧ Below B w ((W.setCell ⟨B + 1, 0, none⟩ v').setCell ⟨B + 2, 0, none⟩ (.bool ov)) := by
    intro ov W v' hW hO
    obtain ⟨f1, f2, f3, f4⟩ := fin W hW
    have u1 : Upd (B + 1) W (W.setCell ⟨B + 1, 0, none⟩ v') := Upd.setCell v'
    have u2 : Upd (B + 2) (W.setCell ⟨B + 1, 0, none⟩ v') ((W.setCell ⟨B + 1, 0, none⟩ v').setCell ⟨B + 2, 0, none⟩ (.bool ov)) := Upd.setCell _
    refine ⟨⟨⟨v', ((f1.setCell (i := 0) v').upd u2 (by omega)), (hO.upd u1 (by omega)).upd u2 (by omega)⟩, (f2.upd u1 (by omega)).setCell (i := 0) (.bool ov), (f3.upd u1 (by omega)).upd u2 (by omega), (f4.upd u1 (by omega)).upd u2 (by omega), ?_⟩, ?_⟩
    · have := hW.size
      rw [u2.size, u1.size]
      omega
    · exact ((hW.mono (by omega)).trans (u1.below (by omega))).trans (u2.below (by omega))
  have FIN2 := Lib.hid fin2
  clear h ho1 ho hal hrow fin fin2
  have e200 : decide (200 ≤ l.length + 1) = false := by simp; omega
  have e200' : decide ((200 : Int) ≤ (l.length : Int) + 1) = false := by simp; omega
  by_cases hm : (l.length : Int) + 1 = most
  · have hq : ((l.length : Int) + 1 == most) = true := by simpa using hm
    rw [decide_eq_true hm]
    clear hm
    go_enter Try.func74, Try.ntmps74
    go_wp2_with (refine wpList_append_one rfl _ _ _ rfl (B + 4) 94 i0 _ 2 16 und_vers hi hz0 hz1 hz2 rfl (by omega) encW _ l x rfl HO2.out w.heap.size rfl HR.out rfl (by intro u hu; simp only [encW, List.mem_cons, List.not_mem_nil, or_false] at hu; rcases hu with rfl | rfl <;> rfl) (by simp only [maxLen]; omega) (by omega) (by simp; omega) ?_; intro v' W hO hG; have hBW := (B1.out.mono hsz).trans (hG.below (B := B + 4) (by simp; omega) HO.out.block); obtain ⟨f1, f2, f3, f4⟩ := FIN.out W hBW; have q1 := f1.cell (i := 0) rfl; have qf1 := f1.free 0; have qf2 := f2.free 0; have q2 := f2.cell (i := 0) rfl; have q4 := f4.cell (i := 0) rfl; obtain ⟨y1, y2, hv, hfi⟩ := own_fits hO; subst hv; rw [List.length_append, List.length_singleton] at hO; have HH1 := Lib.hid f1; have HH2 := Lib.hid f2; have HH3 := Lib.hid f3; have HH4 := Lib.hid f4; have HOO := Lib.hid hO; have HBW := Lib.hid hBW; clear f1 f2 f3 f4 hO hBW hG hfi)
    go_returns
    exact ⟨rfl, FIN2.out true W _ HBW.out HOO.out⟩
  · have hq : ((l.length : Int) + 1 == most) = false := by simpa using hm
    rw [decide_eq_false hm]
    clear hm
    go_enter Try.func74, Try.ntmps74
    go_wp2_with (refine wpList_append_one rfl _ _ _ rfl (B + 4) 94 i0 _ 2 16 und_vers hi hz0 hz1 hz2 rfl (by omega) encW _ l x rfl HO2.out w.heap.size rfl HR.out rfl (by intro u hu; simp only [encW, List.mem_cons, List.not_mem_nil, or_false] at hu; rcases hu with rfl | rfl <;> rfl) (by simp only [maxLen]; omega) (by omega) (by simp; omega) ?_; intro v' W hO hG; have hBW := (B1.out.mono hsz).trans (hG.below (B := B + 4) (by simp; omega) HO.out.block); obtain ⟨f1, f2, f3, f4⟩ := FIN.out W hBW; have q1 := f1.cell (i := 0) rfl; have qf1 := f1.free 0; have qf2 := f2.free 0; have q2 := f2.cell (i := 0) rfl; have q4 := f4.cell (i := 0) rfl; obtain ⟨y1, y2, hv, hfi⟩ := own_fits hO; subst hv; rw [List.length_append, List.length_singleton] at hO; have HH1 := Lib.hid f1; have HH2 := Lib.hid f2; have HH3 := Lib.hid f3; have HH4 := Lib.hid f4; have HOO := Lib.hid hO; have HBW := Lib.hid hBW; clear f1 f2 f3 f4 hO hBW hG hfi)
    go_returns
    exact ⟨rfl, FIN2.out false W _ HBW.out HOO.out⟩
/-- All, or as many as are asked for. -/
def cutV {α : Type} (xs : List α) (most : Int) : List α := if most < 1 then xs else xs.take most.toNat
structure VerJ (B : Nat) (W0 : World) (most : Int) (over : Bool) (pre : List (Int × (Nat × List E))) (W : World) : Prop where
  vars : VerI B most over pre W
  below : Below B W0 W
  seen : ∀ n : Nat, 1 ≤ n → n < pre.length → (n : Int) ≠ most
  last : if over then (pre.length : Int) = most else (pre = [] ∨ (pre.length : Int) ≠ most)
theorem VerI.ext {B : Nat} {most : Int} {over : Bool} {pre : List (Int × (Nat × List E))} {W W' : World} (h : VerI B most over pre W) (hb : Below W.heap.size W W') : VerI B most over pre W' := by
  obtain ⟨es, h1, h2⟩ := h.out
  exact ⟨⟨es, h1.ext hb, h2.below hb⟩, h.over.ext hb, h.well.ext hb, h.most.ext hb, Nat.le_trans h.size hb.size⟩
theorem VerJ.grows (B : Nat) (W0 : World) (most : Int) (over : Bool) : Grows (VerJ B W0 most over) := by
  intro pre W W' h hb
  exact ⟨h.vars.ext hb, h.below.trans (hb.mono (by have := h.vars.size; omega)), h.seen, h.last⟩
theorem ver_yd (B : Nat) (W0 : World) (most : Int) (xs : List (Int × (Nat × List E))) (hx : xs.length ≤ 100) : Yd Try.prog (verV B) encSt xs (VerJ B W0 most false) (VerJ B W0 most true) := by
  intro pre x post he W h
  have hlen : pre.length ≤ 100 := by
    have : xs.length = pre.length + (post.length + 1) := by rw [he]; simp
    omega
  refine callV_func (Go.Proofs.enters_of Try.func74 (by kernel_rfl) rfl) ?_
  refine (ver1_any B most pre x W h.vars hlen).mono ?_
  rintro e W' ⟨he', g1, g2⟩
  have hseen : ∀ n : Nat, 1 ≤ n → n < (pre ++ [x]).length → (n : Int) ≠ most := by
    intro n hn1 hn2
    rw [List.length_append, List.length_singleton] at hn2
    rcases Nat.lt_or_ge n pre.length with hlt | hge
    · exact h.seen n hn1 hlt
    · have hl := h.last
      rw [if_neg (by simp)] at hl
      rcases hl with hl | hl
      · subst hl; simp at hge hn2; omega
      · have : n = pre.length := by omega
        subst this; exact hl
  by_cases hm : (pre.length : Int) + 1 = most
  · right
    rw [decide_eq_true hm] at he' g1
    refine ⟨he', ⟨g1, h.below.trans g2, hseen, ?_⟩⟩
    rw [if_pos rfl, List.length_append, List.length_singleton]
    exact_mod_cast hm
  · left
    rw [decide_eq_false hm] at he' g1
    refine ⟨he', ⟨g1, h.below.trans g2, hseen, ?_⟩⟩
    rw [if_neg (by simp), List.length_append, List.length_singleton]
    right
    exact_mod_cast hm
theorem ver_end {xs : List (Int × (Nat × List E))} {B : Nat} {W0 W : World} {most : Int} (h : VerJ B W0 most false xs W ∨ ∃ pre x post, xs = pre ++ x :: post ∧ VerJ B W0 most true (pre ++ [x]) W) :
    Below B W0 W ∧ ∃ over, VerI B most over (cutV xs most) W := by
  rcases h with h | ⟨pre, x, post, he, h⟩
  · have : cutV xs most = xs := by
      unfold cutV
      split
      · rfl
      · rename_i h0
        refine List.take_of_length_le ?_
        rcases Nat.lt_or_ge most.toNat xs.length with hlt | hge
        · exact absurd (by omega) (h.seen most.toNat (by omega) hlt)
        · exact hge
    exact ⟨h.below, false, by rw [this]; exact h.vars⟩
  · have hl := h.last
    rw [if_pos rfl] at hl
    have : cutV xs most = pre ++ [x] := by
      unfold cutV
      rw [if_neg (by simp at hl; omega), ← hl, Int.toNat_natCast, he]
      rw [show pre ++ x :: post = (pre ++ [x]) ++ post by simp]
      exact List.take_left
    exact ⟨h.below, true, by rw [this]; exact h.vars⟩
end Go.Proofs.Ytmhhejpokgdjoaa
namespace Go.Proofs.Ytmhhejpokgdjoaa
open Go Go.RowKit
set_option linter.unusedVariables false
set_option linter.unusedSimpArgs false
attribute [local go_sem] Oper.semAt_some

set_option maxRecDepth 100000 in
set_option maxHeartbeats 1600000 in
theorem versions_any (f : FuncId) (fst cap : Array Value) (xs : List (Int × (Nat × List E))) (D : World → Prop) (hG : Gives Try.prog (.func (.func f) fst cap) encSt xs D) (most : Int) (w : World)
    (hD : ∀ W, Below w.heap.size w W → D W) (hx : xs.length ≤ 100) :
    Calls Try.prog 62 #[.func (.func f) fst cap, .int .i64 most] w fun e w' => ∃ es, e = .returned (.tuple #[es, .bool true]) ∧ Own w' w.heap.size 94 2 encW es (cutV xs most) ∧ Below w.heap.size w w' := by
  have hE := run_eql_func (P := Try.prog) (t := 67) (by kernel_rfl) (.func f) fst cap
  have a0 := (Below.refl w.heap.size w).alloc (Nat.le_refl _) (.cells #[.int .i64 most] 3)
  have a1 := a0.alloc (by simp) (.cells #[.slice none 0 0] 90)
  have a2 := a1.alloc (by simp; omega) (.cells #[.bool false] 4)
  have a3 := a2.alloc (by simp; omega) (.cells #[.bool true] 4)
  obtain ⟨W0, hW0⟩ : ∃ W0, W0 = (((w.alloc (.cells #[.int .i64 most] 3)).alloc (.cells #[.slice none 0 0] 90)).alloc (.cells #[.bool false] 4)).alloc (.cells #[.bool true] 4) := ⟨_, rfl⟩
  have hsz : W0.heap.size = w.heap.size + 4 := by rw [hW0]; simp
  have hv : VerI w.heap.size most false [] W0 := by
    have r0 := Holds.alloc w [.int .i64 most] 3
    have r1 := Holds.alloc (w.alloc (.cells #[.int .i64 most] 3)) [.slice none 0 0] 90
    have r2 := Holds.alloc ((w.alloc (.cells #[.int .i64 most] 3)).alloc (.cells #[.slice none 0 0] 90)) [.bool false] 4
    have r3 := Holds.alloc (((w.alloc (.cells #[.int .i64 most] 3)).alloc (.cells #[.slice none 0 0] 90)).alloc (.cells #[.bool false] 4)) [.bool true] 4
    simp only [World.size_alloc] at r1 r2 r3
    have s : ∀ (W : World) (o : Obj), Below W.heap.size W (W.alloc o) := fun W o => (Below.refl _ _).alloc (Nat.le_refl _) _
    rw [hW0]
    exact ⟨⟨_, (r1.ext (s _ _)).ext (s _ _), own_nil _ _ _ _ _⟩, r2.ext (s _ _), r3, ((r0.ext (s _ _)).ext (s _ _)).ext (s _ _), by simp⟩
  have h0 : VerJ w.heap.size W0 most false [] W0 := ⟨hv, Below.refl _ _, by simp, by simp⟩
  have hc := hG (verV w.heap.size) (VerJ w.heap.size W0 most false) (VerJ w.heap.size W0 most true) W0 (VerJ.grows _ _ _ _) (fun pre W h => hD W ((by rw [hW0]; exact a3 : Below w.heap.size w W0).trans h.below)) (ver_yd w.heap.size W0 most xs hx) h0
  have HB0 : Hid (Below w.heap.size w W0) := Lib.hid (by rw [hW0]; exact a3)
  rw [hW0] at hc
  have HC := Lib.hid hc
  have HW0 := Lib.hid hW0
  clear hG hD hv h0 hc a0 a1 a2 a3 hW0
  refine (callsIn_wide (n := 0)).1 (callsIn_of_wp Try.func62 rfl trivial ?_)
  simp only [Try.ntmps62, List.size_toArray, List.length_cons, List.length_nil, Nat.reduceAdd, Nat.reduceSub, Array.replicate_succ, Array.replicate_zero, List.push_toArray, List.append_toArray, List.nil_append, List.cons_append]
  gi_wp2_with (refine wpListIn_callV (open_wide _) rfl _ _ _ rfl (vs := #[verV w.heap.size]) rfl (by simp [verV, Act.eval]) ?_; refine HC.out.mono ?_; rintro e W' ⟨⟨v, rfl⟩, hr⟩; rw [← HW0.out] at hr; obtain ⟨hB, ov, hV⟩ := ver_end hr; obtain ⟨es, g1, g2⟩ := hV.out; have c0 := g1.cell (i := 0) rfl; have c3 := hV.well.cell (i := 0) rfl; have GB := Lib.hid (HB0.out.trans hB); have G2 := Lib.hid g2; clear hB hV g1 g2 hr)
  obtain ⟨y1, y2, hes, hf⟩ := own_fits G2.out
  subst hes
  have c3' : W'.cell? ⟨w.heap.size + 1 + 1 + 1, 0, none⟩ = some (.bool true) := c3
  clear c3
  refine rgnIn [0, 1, 2, 3] [] (fun _ => trivial) rfl (by kernel_rfl) ?_
  simp only [pickL, List.getD_cons_zero, List.getD_cons_succ]
  gi_wp2
  refine ⟨rfl, ?_⟩
  gi_wp2
  go_returns
  exact ⟨_, rfl, (G2.out.base (by omega)).below (Below.refl _ _).drew, GB.out.drew⟩
set_option maxRecDepth 100000 in
theorem steps_any (b : Nat) (vs : List (List E)) (i : Nat) (most : Int) (w : World) (h : HistL w b vs i) :
    Calls Try.prog 43 #[.pointer (some ⟨b, 0, none⟩), .int .i64 most] w fun e w' => ∃ es ps, e = .returned (.tuple #[es, .bool true]) ∧ HistP w b ps i ∧ ps.map (·.2) = vs ∧ Own w' w.heap.size 94 2 encW es (cutV (stL ps (-(i : Int))) most) ∧ Below w.heap.size w w' := by
  obtain ⟨ps, hp, rfl⟩ := h
  obtain ⟨a, c, h1, h2, h3⟩ := hp.cells
  have hv := versions_any 50 #[.pointer (some ⟨b, 0, none⟩)] #[] (stL ps (-(i : Int))) _ (steps_gives b i c a ps hp.lt hp.len) most w (fun W hW => ⟨h1.ext hW, h2.ext hW⟩) (by rw [stL_len]; have := hp.len; omega)
  have HV := Lib.hid hv
  have HP := Lib.hid hp
  clear hv hp h1 h2
  go_enter Try.func43, Try.ntmps43
  go_wp2_with (first | (go_at_call 30; refine (steps_make b _).mono ?_; rintro e w1 ⟨rfl, hw⟩; subst hw; unfold stepsV) | (go_at_call 62; refine HV.out.mono ?_; rintro e w2 ⟨es, rfl, hO, hB⟩; have HO := Lib.hid hO; have HB := Lib.hid hB; clear hO hB))
  go_returns
  exact ⟨es, ps, rfl, HP.out, rfl, HO.out, HB.out⟩
end Go.Proofs.Ytmhhejpokgdjoaa
namespace Go.Proofs.Ytmhhejpokgdjoaa
open Go Go.RowKit
set_option linter.unusedVariables false
set_option linter.unusedSimpArgs false

def encS (p : Value × List E) : List Value := [p.1]
theorem encS_len (p : Value × List E) : (encS p).length = 1 := rfl
theorem info_es : (Try.prog.info? 23).map (fun i => (i.zero, i.size, i.bytes)) = some (some (.slice none 0 0), 1, 24) := by kernel_rfl
theorem und_ess : Try.prog.underlying 37 = some (.slice 23) := by kernel_rfl
theorem own_apart {α β : Type} {w : World} {b1 b2 : Nat} {t1 t2 : TypeId} {s1 s2 : Nat} {e1 : α → List Value} {e2 : β → List Value} {v1 v2 : Value} {l1 : List α} {l2 : List β} (h1 : Own w b1 t1 s1 e1 v1 l1) (h2 : Own w b2 t2 s2 e2 v2 l2) (hne : t1 ≠ t2) :
    v1.ownBlock = none ∨ v1.ownBlock ≠ v2.ownBlock := by
  rcases h1.row.2 with ⟨rfl, _⟩ | ⟨g1, c1, r1, rfl, _, q1, _⟩
  · exact .inl rfl
  · right
    intro e
    rcases h2.row.2 with ⟨rfl, _⟩ | ⟨g2, c2, r2, rfl, _, q2, _⟩
    · cases e
    · have : g1 = g2 := by simpa [Value.ownBlock] using e
      subst this
      rw [q1] at q2
      simp only [Option.some.injEq, Obj.cells.injEq] at q2
      exact hne q2.2.1
/-- The slice es holds slices that hold vs. -/
def AllV (W : World) (base : Nat) (es : Value) (vs : List (List E)) : Prop :=
  ∃ ss, Own W base 23 1 encS es ss ∧ ss.map (·.2) = vs ∧ ∀ s ∈ ss, Own W base 59 3 encL s.1 s.2
theorem AllV.below {W W' : World} {base : Nat} {es : Value} {vs : List (List E)} (h : AllV W base es vs) (hb : Below W.heap.size W W') : AllV W' base es vs := by
  obtain ⟨ss, h1, h2, h3⟩ := h
  exact ⟨ss, h1.below hb, h2, fun s hs => (h3 s hs).below hb⟩
theorem AllV.only {W W' : World} {b base : Nat} {es : Value} {vs : List (List E)} (h : AllV W base es vs) (ho : Only b W W') (hb : b < base) : AllV W' base es vs := by
  obtain ⟨ss, h1, h2, h3⟩ := h
  exact ⟨ss, ho.own h1 hb, h2, fun s hs => ho.own (h3 s hs) hb⟩
theorem AllV.len {W : World} {base : Nat} {es : Value} {vs : List (List E)} (h : AllV W base es vs) : ∃ a c, es = .slice a vs.length c ∧ vs.length ≤ c := by
  obtain ⟨ss, h1, h2, h3⟩ := h
  obtain ⟨a, c, he, hf⟩ := own_fits h1
  have : vs.length = ss.length := by rw [← h2, List.length_map]
  rw [this]
  exact ⟨a, c, he, hf⟩
theorem AllV.at_ {W : World} {base k n c : Nat} {a : Option Addr} {vs : List (List E)} {l : List E} (h : AllV W base (.slice a n c) vs) (hk : vs[k]? = some l) : ∃ g sv, a = some ⟨g, 0, none⟩ ∧ W.cell? ⟨g, k, none⟩ = some sv ∧ Own W base 59 3 encL sv l := by
  obtain ⟨ss, h1, h2, h3⟩ := h
  rw [← h2, List.getElem?_map] at hk
  obtain ⟨s, hs, rfl⟩ := Option.map_eq_some_iff.1 hk
  rcases h1.row.2 with ⟨hv, h0⟩ | ⟨g, cap, cur, hv, _⟩
  · rw [List.length_eq_zero_iff.1 h0] at hs
    simp at hs
  · obtain ⟨a', c', hv', hnil | ⟨g', o', he, hg, hc⟩⟩ := h1.rd encS_len
    · rw [hnil] at hs; simp at hs
    · simp only [Value.slice.injEq] at hv hv'
      obtain ⟨rfl, _, _⟩ := hv
      obtain ⟨rfl, _, _⟩ := hv'
      cases he
      have := hc k s 0 _ hs rfl
      simp only [Nat.zero_add, Nat.mul_one, Nat.add_zero] at this
      exact ⟨g, s.1, rfl, this, h3 s (List.mem_of_getElem? hs)⟩
theorem AllV.base {W : World} {base base' : Nat} {es : Value} {vs : List (List E)} (h : AllV W base es vs) (hb : base' ≤ base) : AllV W base' es vs := by
  obtain ⟨ss, h1, h2, h3⟩ := h
  exact ⟨ss, h1.base hb, h2, fun s hs => (h3 s hs).base hb⟩
theorem allV_nil (W : World) (base : Nat) : AllV W base (.slice none 0 0) [] := ⟨[], own_nil _ _ _ _ _, rfl, fun s hs => by cases hs⟩
set_option maxRecDepth 100000 in
set_option maxHeartbeats 1600000 in
theorem all_vs (b : Nat) (vs : List (List E)) (i : Nat) (w : World) (h : HistL w b vs i) :
    Calls Try.prog 17 #[.pointer (some ⟨b, 0, none⟩)] w fun e w' => ∃ es, e = .returned (.tuple #[es, .int .i64 (-(i : Int))]) ∧ AllV w' w.heap.size es vs ∧ Below w.heap.size w w' := by
  have HS := Lib.hid (steps_any b vs i 0 w h)
  have hlen := h.facts.2.1
  have hpos := h.facts.1
  clear h
  go_enter Try.func17, Try.ntmps17
  go_wp2_with fail
  refine HS.out.mono ?_
  rintro e w1 ⟨es, ps, rfl, hp, hvs, hO, hb1⟩
  rw [show cutV (stL ps (-(i : Int))) 0 = stL ps (-(i : Int)) by unfold cutV; rw [if_pos (by decide)]] at hO
  obtain ⟨ya, yc, he, hf⟩ := own_fits hO
  rw [stL_len] at he hf
  subst he
  have hR := hO.rd encW_len
  obtain ⟨a', c', hs, hnil | ⟨g, o, rfl, hg, hcl⟩⟩ := hR
  · have h2 := congrArg List.length hnil
    rw [stL_len] at h2
    have := hp.lt
    simp at h2
    subst h2
    simp at this
  simp only [Value.slice.injEq] at hs
  obtain ⟨rfl, _, rfl⟩ := hs
  have hpl : ps.length = vs.length := by rw [← hvs, List.length_map]
  have HP := Lib.hid hp
  have HCL := Lib.hid hcl
  have HB1 := Lib.hid hb1
  have HVS := Lib.hid hvs
  clear HS hO hp hcl hb1 hvs
  rw [hpl]
  go_wp2
  go_loopw [4, 5, 7, 8] (fun l f ok k wr => ∃ m : Nat, m ≤ vs.length ∧ k = .int .i64 (m : Int) ∧ ok = .bool true ∧ f = .int .i64 (if m = 0 then 0 else -(i : Int)) ∧ AllV wr w1.heap.size l (vs.take m) ∧ Below w1.heap.size w1 wr) (fun _ _ _ k _ => vs.length - (intOf k).toNat)
  case atStart => exact ⟨0, by omega, rfl, rfl, rfl, allV_nil _ _, Below.refl _ _⟩
  case round =>
    obtain ⟨m, hm, rfl, rfl, rfl, hA, hB⟩ := hrel
    obtain ⟨za, zc, rfl, hzf⟩ := hA.len
    rw [List.length_take, Nat.min_eq_left hm] at hA hzf ⊢
    by_cases hml : m < vs.length
    · have hmp : m < ps.length := by omega
      have e2 : ps[m]? = some ps[m] := List.getElem?_eq_getElem hmp
      have hst := stL_get ps (-(i : Int)) m ps[m] e2
      have hmem := List.getElem_mem hmp
      have hvm : vs[m]? = some ps[m].2 := by rw [← HVS.out, List.getElem?_map, e2]; rfl
      generalize ps[m] = p at e2 hst hmem hvm
      have f0 := (hB.cell (p := ⟨g, _, none⟩) hg).trans (HCL.out m _ 0 _ hst rfl)
      have f1 := (hB.cell (p := ⟨g, _, none⟩) hg).trans (HCL.out m _ 1 _ hst rfl)
      simp only [Nat.add_zero] at f0
      have hBw := HB1.out.trans (hB.mono HB1.out.size)
      have hent := entries_any (.pointer (some ⟨p.1, 0, none⟩)) p.2 wr (.inl ⟨p.1, rfl, (HP.out.maps p hmem).ext hBw⟩) (by have := HP.out.small p hmem; omega)
      have ht : vs.take (m + 1) = vs.take m ++ [p.2] := by
        rw [List.take_succ_eq_append_getElem hml]
        rw [List.getElem?_eq_getElem hml] at hvm
        rw [Option.some.inj hvm]
      have ep := fun W => eql_pm_nil ⟨p.1, 0, none⟩ W
      obtain ⟨i0, hi0, hz0, hz1, hz2⟩ := info_parts info_es
      have HE := Lib.hid hent
      have HT := Lib.hid ht
      have HB := Lib.hid hB
      have HBW := Lib.hid hBw
      have HAL := Lib.hid hA
      clear hst hmem hvm hent ht hB hBw hA e2
      go_upto_if 21 with fail
      go_cut [5] (fun f wx => f = .int .i64 (-(i : Int)) ∧ wx = wr)
      case first =>
        rcases Nat.eq_zero_or_pos m with hm0 | hm0
        · subst hm0
          simp only [Nat.zero_mul, Nat.add_zero, Nat.zero_add, Int.natCast_zero, Int.add_zero] at *
          go_wp2
          go_meet
          case rel => exact ⟨rfl, rfl⟩
        · have hq : ((m : Int) == 0) = false := by simp; omega
          rw [if_neg (by omega : ¬ m = 0)]
          go_wp2
          go_meet
          case rel => exact ⟨rfl, rfl⟩
      case rest =>
        obtain ⟨rfl, hw⟩ := hcut
        subst hw
        go_wp2_with fail
        refine HE.out.mono ?_
        rintro e w2 ⟨es', rfl, hO2, hb2⟩
        obtain ⟨ea, ec, he, hef⟩ := own_fits hO2
        subst he
        obtain ⟨ss, o1, o2, o3⟩ := HAL.out
        have hssl : ss.length = m := by
          have := congrArg List.length o2
          rw [List.length_map, List.length_take, Nat.min_eq_left hm] at this
          exact this
        obtain ⟨W3, hW3⟩ : ∃ W3, W3 = w2.alloc (.cells #[.slice ea p.2.length ec] 23) := ⟨_, rfl⟩
        have hal : Below w2.heap.size w2 W3 := by rw [hW3]; exact (Below.refl _ _).alloc (Nat.le_refl _) _
        have hb3 : Below wc.heap.size wc W3 := hb2.trans (hal.mono hb2.size)
        have hrow : Holds W3 w2.heap.size (encS (.slice ea p.2.length ec, p.2)) := by rw [hW3]; exact Holds.alloc w2 [.slice ea p.2.length ec] _
        have hwle : w1.heap.size ≤ wc.heap.size := HB.out.size
        have p1 : Own W3 w1.heap.size 23 1 encS (.slice za m zc) ss := o1.below hb3
        have p3 : ∀ s ∈ ss, Own W3 w1.heap.size 59 3 encL s.1 s.2 := fun s hs => (o3 s hs).below hb3
        have p4 : Own W3 w1.heap.size 59 3 encL (.slice ea p.2.length ec) p.2 := (hO2.below hal).base hwle
        have fin : ∀ W v', Own W w1.heap.size 23 1 encS v' (ss ++ [(.slice ea p.2.length ec, p.2)]) → Grew W3 W (.slice za m zc) v' → AllV W w1.heap.size v' (vs.take (m + 1)) ∧ Below w1.heap.size w1 W := by
          intro W v' hO hG
          refine ⟨⟨_, hO, ?_, ?_⟩, ?_⟩
          · rw [List.map_append, o2, HT.out]; rfl
          · intro s hs
            rcases List.mem_append.1 hs with h | h
            · exact (p3 s h).grew hG (own_apart (p3 s h) p1 (by decide))
            · rw [List.mem_singleton] at h
              subst h
              exact p4.grew hG (own_apart p4 p1 (by decide))
          · exact (HB.out.trans (hb3.mono HB.out.size)).trans (hG.below (Nat.le_trans hwle hb3.size) p1.block)
        have FIN := Lib.hid fin
        have HROW := Lib.hid hrow
        have P1 := Lib.hid p1
        have HW3 := Lib.hid hW3
        have hle3 : Hid (w1.heap.size ≤ W3.heap.size) := Lib.hid (Nat.le_trans hwle hb3.size)
        clear fin hrow p1 p3 p4 hO2 hb2 hal hb3 o1 o2 o3 hW3 hwle HAL HE f0 f1
        go_wp2_with (refine wpList_append_one rfl _ _ _ rfl w1.heap.size 23 i0 _ 1 24 und_ess hi0 hz0 hz1 hz2 rfl (by omega) encS _ ss (.slice ea p.2.length ec, p.2) rfl (by have := P1.out; rw [HW3.out] at this; exact this) w2.heap.size rfl (by have := HROW.out; rw [HW3.out] at this; exact this) rfl (by intro u hu; simp only [encS, List.mem_singleton] at hu; rw [hu]; rfl) (by simp only [maxLen]; omega) (by omega) (by have := hle3.out; rw [HW3.out] at this; exact this) ?_; intro v' W hO hG; rw [← HW3.out] at hG; have hfn := FIN.out W v' hO hG; obtain ⟨y1, y2, hv, hfi⟩ := own_fits hO; subst hv; rw [List.length_append, List.length_singleton, hssl] at hfn; have FN := Lib.hid hfn; clear hO hG hfn hfi)
        go_roundw
        case rel => exact ⟨m + 1, by omega, by go_num, rfl, by rw [if_neg (by omega)], FN.out.1, FN.out.2⟩
        case measure => simp [intOf]; omega
    · have hmv : m = vs.length := by omega
      have hno : decide ((m : Int) < (vs.length : Int)) = false := by simp; omega
      rw [if_neg (by omega : ¬ m = 0)]
      have htk : vs.take m = vs := by rw [hmv, List.take_length]
      rw [htk] at hA
      have HA := Lib.hid hA
      have HB := Lib.hid (HB1.out.trans (hB.mono HB1.out.size))
      clear hA hB htk
      go_wp2
      go_returns
      exact ⟨_, rfl, HA.out.base HB1.out.size, HB.out⟩
end Go.Proofs.Ytmhhejpokgdjoaa
namespace Go.Proofs.Ytmhhejpokgdjoaa
open Go Go.RowKit
set_option linter.unusedVariables false
set_option linter.unusedSimpArgs false

/-- The slice es reads as slices that read as vs. -/
def AllR (w : World) (es : Value) (vs : List (List E)) : Prop :=
  ∃ a c, es = .slice a vs.length c ∧ vs.length ≤ c ∧ ∀ k l, vs[k]? = some l → ∃ g o sv, a = some ⟨g, o, none⟩ ∧ g < w.heap.size ∧ w.cell? ⟨g, o + k, none⟩ = some sv ∧ RdF w sv l
theorem cell_lt {w : World} {a : Addr} {v : Value} (h : w.cell? a = some v) : a.block < w.heap.size := by
  apply Classical.byContradiction
  intro hn
  unfold World.cell? at h
  rw [Array.getElem?_eq_none (by simpa using hn)] at h
  cases h
theorem own_rdf {w : World} {base : Nat} {ty : TypeId} {v : Value} {l : List E} (h : Own w base ty 3 encL v l) : RdF w v l := by
  obtain ⟨a, c, he, hf⟩ := own_fits h
  subst he
  exact ⟨a, c, rfl, hf, h.rd encL_len⟩
theorem AllV.r {w : World} {base : Nat} {es : Value} {vs : List (List E)} (h : AllV w base es vs) : AllR w es vs := by
  obtain ⟨a, c, rfl, hf⟩ := h.len
  refine ⟨a, c, rfl, hf, fun k l hk => ?_⟩
  obtain ⟨g, sv, h1, h2, h3⟩ := h.at_ hk
  exact ⟨g, 0, sv, h1, cell_lt h2, by rw [Nat.zero_add]; exact h2, own_rdf h3⟩
theorem AllR.ext {w w' : World} {es : Value} {vs : List (List E)} (h : AllR w es vs) (hb : Below w.heap.size w w') : AllR w' es vs := by
  obtain ⟨a, c, h1, h2, h3⟩ := h
  refine ⟨a, c, h1, h2, fun k l hk => ?_⟩
  obtain ⟨g, o, sv, g1, g2, g3, g4⟩ := h3 k l hk
  exact ⟨g, o, sv, g1, Nat.lt_of_lt_of_le g2 hb.size, (hb.cell (p := ⟨g, _, none⟩) g2).trans g3, g4.ext hb⟩
theorem AllR.drop {w : World} {a : Option Addr} {n c : Nat} {vs : List (List E)} (h : AllR w (.slice a n c) vs) (m : Nat) (hm : m < vs.length) :
    n = vs.length ∧ ∃ g o, a = some ⟨g, o, none⟩ ∧ vs.length ≤ c ∧ AllR w (.slice (some ⟨g, o + m, none⟩) (vs.length - m) (c - m)) (vs.drop m) := by
  obtain ⟨a', c', hs, h2, h3⟩ := h
  simp only [Value.slice.injEq] at hs
  obtain ⟨rfl, rfl, rfl⟩ := hs
  obtain ⟨g, o, sv, h4, _⟩ := h3 m vs[m] (List.getElem?_eq_getElem hm)
  subst h4
  refine ⟨rfl, g, o, rfl, h2, _, _, by rw [List.length_drop], by rw [List.length_drop]; omega, fun k l hk => ?_⟩
  rw [List.getElem?_drop] at hk
  obtain ⟨g', o', sv', q1, q2, q3, q4⟩ := h3 (m + k) l hk
  cases q1
  exact ⟨g, o + m, sv', rfl, q2, by rw [Nat.add_assoc]; exact q3, q4⟩
set_option maxRecDepth 100000 in
set_option maxHeartbeats 1600000 in
theorem sameAll_any (e1 e2 : Value) (vs us : List (List E)) (w : World) (h1 : AllR w e1 vs) (h2 : AllR w e2 us) (hs : ∀ v ∈ vs, v.length ≤ 200) (hs2 : ∀ v ∈ us, v.length ≤ 200) (hl1 : vs.length ≤ 100) (hl2 : us.length ≤ 100) :
    Calls Try.prog 20 #[e1, e2] w fun e w' => e = .returned (.bool (decide (vs = us))) ∧ Below w.heap.size w w' := by
  obtain ⟨a1, c1, rfl, f1, h1⟩ := h1
  obtain ⟨a2, c2, rfl, f2, h2⟩ := h2
  by_cases hlen : vs.length = us.length
  · have HL := Lib.hid hlen
    have H1 := Lib.hid h1
    have H2 := Lib.hid h2
    rw [← hlen]
    clear hlen h1 h2
    go_enter Try.func20, Try.ntmps20
    go_wp2
    go_loopw [5] (fun i wr => ∃ k : Nat, k ≤ vs.length ∧ i = .int .i64 (k : Int) ∧ vs.take k = us.take k ∧ Below w.heap.size w wr) (fun i _ => vs.length - (intOf i).toNat)
    case atStart => exact ⟨0, by omega, rfl, rfl, Below.refl _ _⟩
    case round =>
      obtain ⟨k, hk, rfl, htk, hb⟩ := hrel
      have HT := Lib.hid htk
      clear htk
      by_cases hlt : k < vs.length
      · have e1 : vs[k]? = some vs[k] := List.getElem?_eq_getElem hlt
        have e2 : us[k]? = some (us[k]'(by have := HL.out; omega)) := List.getElem?_eq_getElem (by have := HL.out; omega)
        have m1 := hs _ (List.getElem_mem hlt)
        have m2 := hs2 _ (List.getElem_mem (show k < us.length by have := HL.out; omega))
        generalize vs[k] = x at e1 m1
        generalize (us[k]'(by have := HL.out; omega)) = y at e2 m2
        obtain ⟨g1, o1', s1, rfl, l1, c1', r1⟩ := H1.out k x e1
        obtain ⟨g2, o2', s2, rfl, l2, c2', r2⟩ := H2.out k y e2
        have k1 := (hb.cell (p := ⟨g1, _, none⟩) l1).trans c1'
        have k2 := (hb.cell (p := ⟨g2, _, none⟩) l2).trans c2'
        obtain ⟨y1, y2, he1, _, r1⟩ := r1
        obtain ⟨y3, y4, he2, _, r2⟩ := r2
        subst he1 he2
        have hse := sameEntries_any _ _ x y wr.drew (r1.ext hb.drew) (r2.ext hb.drew) (by omega) (by omega)
        have HSE0 := Lib.hid hse
        have E1 := Lib.hid e1
        have E2 := Lib.hid e2
        have HB := Lib.hid hb
        clear hse e1 e2 hb c1' c2' r1 r2
        by_cases hxy : x = y
        · subst hxy
          have heq : vs.take (k + 1) = us.take (k + 1) := by
            rw [List.take_add_one, List.take_add_one, HT.out, E1.out, E2.out]
          have HQ := Lib.hid heq
          have hse := HSE0.out
          rw [decide_eq_true rfl] at hse
          have HSE := Lib.hid hse
          clear heq hse HSE0
          go_wp2
          refine rgn [0, 1, 2, 3, 4, 5, 6, 7, 8, 9] [] (by kernel_rfl) ?_
          simp only [pickL, List.getD_cons_zero, List.getD_cons_succ]
          go_wp2_with (go_at_call 16; refine HSE.out.mono ?_; rintro e w' ⟨rfl, hb2⟩)
          refine ⟨rfl, ?_⟩
          go_wp2
          go_roundw
          case rel => exact ⟨k + 1, by omega, by go_num, HQ.out, HB.out.trans ((below_of_drew hb2).mono HB.out.size)⟩
          case measure => simp [intOf]; omega
        · have hno := Lib.hid (decide_eq_false (fun e : vs = us => hxy (by have a := E1.out; have b := E2.out; rw [e, b] at a; exact (Option.some.inj a).symm)))
          have hse := HSE0.out
          rw [decide_eq_false hxy] at hse
          have HSE := Lib.hid hse
          clear hse HSE0 hxy
          go_wp2
          refine rgn [0, 1, 2, 3, 4, 5, 6, 7, 8, 9] [] (by kernel_rfl) ?_
          simp only [pickL, List.getD_cons_zero, List.getD_cons_succ]
          go_wp2_with (go_at_call 16; refine HSE.out.mono ?_; rintro e w' ⟨rfl, hb2⟩)
          refine ⟨rfl, ?_⟩
          go_wp2
          go_returns
          exact ⟨by rw [hno.out]; rfl, HB.out.trans ((below_of_drew hb2).mono HB.out.size)⟩
      · have hall : vs = us := by
          have := HT.out
          rwa [List.take_of_length_le (by omega), List.take_of_length_le (by have := HL.out; omega)] at this
        have hyes := Lib.hid (decide_eq_true hall)
        clear hall
        go_wp2
        go_returns
        exact ⟨by rw [hyes.out]; rfl, hb⟩
  · have hno := Lib.hid (decide_eq_false (fun e : vs = us => hlen (by rw [e])))
    have hq : (((vs.length : Nat) : Int) != ((us.length : Nat) : Int)) = true := by simp; omega
    clear hlen h1 h2
    go_enter Try.func20, Try.ntmps20
    go_wp2
    go_returns
    exact ⟨by rw [hno.out]; rfl, Below.refl _ _⟩
/-- A call of a script. -/
structure OpL where
  kind : Int
  a : Int
  b : Int
  second : Bool
  nil : Bool
  lv : Value
  l : List E
def opCells (x : OpL) : List Value := [.int .i64 x.kind, .int .i64 x.a, .int .i64 x.b, .bool x.second, .bool x.nil, x.lv]
def playH (h : HS) (x : OpL) : HS := if x.kind = 1 then pushH h (buildL x.l) else if x.kind = 2 then undoH h else if x.kind = 3 then redoH h else if x.kind = 6 then forgetH h x.a else h
def playsH (script : List OpL) (h : HS) : HS := script.foldl playH h
theorem playsH_succ {script : List OpL} {k : Nat} {x : OpL} (h : HS) (hx : script[k]? = some x) : playsH (script.take (k + 1)) h = playH (playsH (script.take k) h) x := by
  obtain ⟨hk, rfl⟩ := List.getElem?_eq_some_iff.1 hx
  unfold playsH
  rw [List.take_succ_eq_append_getElem hk, List.foldl_append]
  rfl
/-- A script as it stands in memory. -/
structure Script (w : World) (v : Value) (script : List OpL) : Prop where
  rd : Rd w 6 opCells v script
  ls : ∀ x ∈ script, RdF w x.lv x.l ∧ ∀ y ∈ x.l, y.1 < 4294967296
  len : script.length ≤ 9223372036854775807
theorem Script.ext {w w' : World} {v : Value} {script : List OpL} (h : Script w v script) (hb : Below w.heap.size w w') : Script w' v script :=
  ⟨h.rd.ext hb, fun x hx => ⟨(h.ls x hx).1.ext hb, (h.ls x hx).2⟩, h.len⟩
set_option maxRecDepth 100000 in
set_option maxHeartbeats 4000000 in
theorem plays_any (b : Nat) (h : HS) (v : Value) (script : List OpL) (w0 w : World) (hh : HistS w b h) (hsc : Script w0 v script) (hw : Below w0.heap.size w0 w) (hb : w0.heap.size ≤ b) :
    Calls Try.prog 10 #[.pointer (some ⟨b, 0, none⟩), v] w fun e w' => (∃ v, e = .returned v) ∧ HistS w' b (playsH script h) ∧ Only b w w' := by
  obtain ⟨a, c, rfl, hr⟩ := hsc.rd
  have HR := Lib.hid hr
  have HSC := Lib.hid hsc
  have HW := Lib.hid hw
  have H0 := Lib.hid hh
  have hlm := hsc.len
  clear hr hsc hw hh
  go_enter Try.func10, Try.ntmps10
  go_wp2
  go_loopw [4] (fun i wr => ∃ k : Nat, k ≤ script.length ∧ i = .int .i64 (k : Int) ∧ HistS wr b (playsH (script.take k) h) ∧ Only b w wr) (fun i _ => script.length - (intOf i).toNat)
  case atStart => exact ⟨0, by omega, rfl, H0.out, Only.refl _ _⟩
  case round =>
    obtain ⟨k, hk, rfl, hH, hO⟩ := hrel
    by_cases hkl : k < script.length
    · have e1 : script[k]? = some script[k] := List.getElem?_eq_getElem hkl
      have hls := HSC.out.ls _ (List.getElem_mem hkl)
      have hsucc := playsH_succ h e1
      rcases HR.out with hnil | ⟨g, o, rfl, hg, hcl⟩
      · subst hnil; simp at hkl
      generalize script[k] = x at e1 hls hsucc
      have hB0 : Below w0.heap.size w0 wr := HW.out.trans (hO.below hb HW.out.size)
      have f0 := (hB0.cell (p := ⟨g, _, none⟩) hg).trans (hcl k _ 0 _ e1 rfl)
      have f1 := (hB0.cell (p := ⟨g, _, none⟩) hg).trans (hcl k _ 1 _ e1 rfl)
      have f5 := (hB0.cell (p := ⟨g, _, none⟩) hg).trans (hcl k _ 5 _ e1 rfl)
      simp only [Nat.add_zero] at f0
      have hrf := hls.1.ext hB0
      obtain ⟨la, lc, hlv, hlf, hlr⟩ := hrf
      rw [hlv] at f5
      have hrf' : RdF wr (.slice la x.l.length lc) x.l := ⟨la, lc, rfl, hlf, hlr⟩
      have hid := hls.2
      have HRF := Lib.hid hrf'
      have HO := Lib.hid hO
      have HH := Lib.hid hH
      have HSU := Lib.hid hsucc
      clear hcl e1 hls hO hH hsucc hlr hrf' hlv hB0
      generalize playsH (script.take k) h = S at HH HSU
      unfold playH at HSU
      by_cases h1 : x.kind = 1
      · have q1 : (x.kind == 1) = true := by simpa using h1
        have hsu := HSU.out
        rw [if_pos h1] at hsu
        have HS2 := Lib.hid hsu
        clear HSU hsu h1
        go_wp2_with fail
        refine (build_any _ x.l wr HRF.out hid).mono ?_
        rintro e w2 ⟨b2, rfl, hm, hb2⟩
        have hpu := push_s b S (.pointer (some ⟨b2, 0, none⟩)) (buildL x.l) w2 (HistL.ext HH.out hb2) (.inl ⟨b2, rfl, hm⟩) (buildL_len _)
        have HPU := Lib.hid hpu
        have HB2 := Lib.hid hb2
        clear hpu hb2 hm
        go_wp2_with fail
        refine HPU.out.mono ?_
        rintro e w3 ⟨rfl, g1, g2⟩
        have G1 := Lib.hid g1
        have G2 := Lib.hid g2
        clear g1 g2
        go_wp2
        go_roundw
        case rel => exact ⟨k + 1, by omega, by go_num, by rw [HS2.out]; exact G1.out, (HO.out.trans (Only.of_below HB2.out)).trans G2.out⟩
        case measure => simp [intOf]; omega
      · have q1 : (x.kind == 1) = false := by simpa using h1
        by_cases h2 : x.kind = 2
        · have q2 : (x.kind == 2) = true := by simpa using h2
          have hsu := HSU.out
          rw [if_neg h1, if_pos h2] at hsu
          have HS2 := Lib.hid hsu
          clear HSU hsu h1 h2
          go_wp2_with fail
          refine (undo_s b S wr HH.out).mono ?_
          rintro e w3 ⟨⟨v, rfl⟩, g1, g2⟩
          have G1 := Lib.hid g1
          have G2 := Lib.hid g2
          clear g1 g2
          go_wp2
          go_roundw
          case rel => exact ⟨k + 1, by omega, by go_num, by rw [HS2.out]; exact G1.out, HO.out.trans G2.out⟩
          case measure => simp [intOf]; omega
        · have q2 : (x.kind == 2) = false := by simpa using h2
          by_cases h3 : x.kind = 3
          · have q3 : (x.kind == 3) = true := by simpa using h3
            have hsu := HSU.out
            rw [if_neg h1, if_neg h2, if_pos h3] at hsu
            have HS2 := Lib.hid hsu
            clear HSU hsu h1 h2 h3
            go_wp2_with fail
            refine (redo_s b S wr HH.out).mono ?_
            rintro e w3 ⟨⟨v, rfl⟩, g1, g2⟩
            have G1 := Lib.hid g1
            have G2 := Lib.hid g2
            clear g1 g2
            go_wp2
            go_roundw
            case rel => exact ⟨k + 1, by omega, by go_num, by rw [HS2.out]; exact G1.out, HO.out.trans G2.out⟩
            case measure => simp [intOf]; omega
          · have q3 : (x.kind == 3) = false := by simpa using h3
            by_cases h6 : x.kind = 6
            · have q6 : (x.kind == 6) = true := by simpa using h6
              have hsu := HSU.out
              rw [if_neg h1, if_neg h2, if_neg h3, if_pos h6] at hsu
              have HS2 := Lib.hid hsu
              clear HSU hsu h1 h2 h3 h6
              go_wp2_with fail
              refine (forget_s b S x.a wr HH.out).mono ?_
              rintro e w3 ⟨rfl, g1, g2⟩
              have G1 := Lib.hid g1
              have G2 := Lib.hid g2
              clear g1 g2
              go_wp2
              go_roundw
              case rel => exact ⟨k + 1, by omega, by go_num, by rw [HS2.out]; exact G1.out, HO.out.trans G2.out⟩
              case measure => simp [intOf]; omega
            · have q6 : (x.kind == 6) = false := by simpa using h6
              have hsu := HSU.out
              rw [if_neg h1, if_neg h2, if_neg h3, if_neg h6] at hsu
              have HS2 := Lib.hid hsu
              clear HSU hsu h1 h2 h3 h6
              go_wp2
              go_roundw
              case rel => exact ⟨k + 1, by omega, by go_num, by rw [HS2.out]; exact HH.out, HO.out⟩
              case measure => simp [intOf]; omega
    · have hno : decide ((k : Int) < (script.length : Int)) = false := by simp; omega
      have hks : k = script.length := by omega
      have hH2 : HistS wr b (playsH script h) := by rw [hks, List.take_length] at hH; exact hH
      have HH := Lib.hid hH2
      have HO := Lib.hid hO
      clear hH hH2 hO
      go_wp2
      first
        | (go_end0; exact ⟨⟨_, rfl⟩, HH.out, HO.out⟩)
        | (go_returns; exact ⟨⟨_, rfl⟩, HH.out, HO.out⟩)
        | (trace_state; sorry)
end Go.Proofs.Ytmhhejpokgdjoaa
namespace Go.Proofs.Ytmhhejpokgdjoaa
open Go Go.RowKit
set_option linter.unusedVariables false
set_option linter.unusedSimpArgs false

theorem eql_ph_nil (a : Addr) (w : World) : (binOp .eql 25 (.pointer (some a)) (.pointer none)).run Try.prog w = .ok (.bool false) w := by
  have hp : Try.prog.underlying 25 = some (.pointer 83) := by kernel_rfl
  have h : ∀ d : Nat, (Op.equalIn (d + 1) 25 (.pointer (some a)) (.pointer none)).run Try.prog w = .ok false w := fun d => by
    simp [Op.equalIn, run_underlying hp]
  simp only [binOp]
  simp [Op.equal, Op.maxDepth, h 9999]
theorem MapL.onlyH {w w' : World} {b c i : Nat} {l : List E} {vs : List (List E)} (h : MapL w c l) (hh : HistL w b vs i) (ho : Only b w w') : MapL w' c l := by
  obtain ⟨ps, hp, _⟩ := hh
  obtain ⟨a, k, h1, _⟩ := hp.cells
  exact h.only h1 ho
set_option maxRecDepth 100000 in
set_option maxHeartbeats 4000000 in
theorem known_any (w : World) : Calls Try.prog 8 #[] w fun e w' => e = .returned (.bool true) ∧ Below w.heap.size w w' := by
  have ep := fun b W => eql_ph_nil ⟨b, 0, none⟩ W
  go_enter Try.func8, Try.ntmps8
  go_wp2_with fail
  refine (build_any _ [] w ⟨none, 0, rfl, Nat.le_refl _, rd_nil _ _ _⟩ (by simp)).mono ?_
  rintro e w1 ⟨a, rfl, ma, hb1⟩
  have A1 := Lib.hid ma
  have B1 := Lib.hid hb1
  clear ma hb1
  go_wp2_with fail
  have hal : Below w1.heap.size w1 (w1.alloc (.cells (encL (3, ⟨1, 7⟩)).toArray 59)) := (Below.refl _ _).alloc (Nat.le_refl _) _
  have hho := Holds.alloc w1 (encL (3, ⟨1, 7⟩)) 59
  have hrf : RdF (w1.alloc (.cells (encL (3, ⟨1, 7⟩)).toArray 59)) (.slice (some ⟨w1.heap.size, 0, none⟩) 1 1) [(3, ⟨1, 7⟩)] := by
    refine ⟨_, _, rfl, Nat.le_refl _, _, _, rfl, .inr ⟨w1.heap.size, 0, rfl, by simp, fun i x j u hi hj => ?_⟩⟩
    match i, hi with
    | 0, hi =>
      cases hi
      have := hho.cell hj
      simpa using this
    | i + 1, hi => simp at hi
  refine (build_any _ [(3, ⟨1, 7⟩)] _ hrf (by simp)).mono ?_
  rintro e w2 ⟨b, rfl, mb, hb2⟩
  rw [show buildL [] = [] from rfl] at A1
  rw [show buildL [((3 : Nat), (⟨1, 7⟩ : V))] = [(3, ⟨1, 7⟩)] from rfl] at mb
  have A2 := Lib.hid ((A1.out.ext hal).ext hb2)
  have M2 := Lib.hid mb
  have B2 := Lib.hid (B1.out.trans ((hal.trans (hb2.mono hal.size)).mono B1.out.size))
  clear hal hho hrf mb hb2 A1 B1
  go_wp2_with fail
  refine (new_any _ [] w2 (.inl ⟨a, rfl, A2.out⟩) (by simp)).mono ?_
  rintro e w3 ⟨bh, rfl, hh, hge, hb3⟩
  have H3 := Lib.hid hh
  have M3 := Lib.hid (M2.out.ext hb3)
  have hw : Hid (w.heap.size ≤ bh) := Lib.hid (by have := B2.out.size; omega)
  have B3 := Lib.hid (B2.out.trans (hb3.mono B2.out.size))
  clear hh hb3 A2 M2 B2 hge
  go_wp2_with fail
  refine (push_to bh [[]] 0 _ _ w3 H3.out (by decide) (.inl ⟨b, rfl, M3.out⟩) (by simp)).mono ?_
  rintro e w4 ⟨rfl, hh, ho⟩
  rw [show (([[]] : List (List E)).take (0 + 1) ++ [[((3 : Nat), (⟨1, 7⟩ : V))]]) = [[], [(3, ⟨1, 7⟩)]] from rfl] at hh
  have H4 := Lib.hid hh
  have O4 := Lib.hid ho
  clear hh ho M3
  go_wp2_with fail
  refine (now_any bh _ 1 w4 H4.out).mono ?_
  rintro e w5 ⟨c5, l5, rfl, hl, hm, hb5⟩
  obtain rfl : [((3 : Nat), (⟨1, 7⟩ : V))] = l5 := Option.some.inj hl
  have H5 := Lib.hid (H4.out.ext hb5)
  have O5 := Lib.hid (O4.out.trans (Only.of_below hb5))
  have M5 := Lib.hid hm
  clear hl hm hb5 H4 O4
  go_wp2_with fail
  refine (entries_any _ _ w5 (.inl ⟨c5, rfl, M5.out⟩) (by simp)).mono ?_
  rintro e w6 ⟨es, rfl, hO, hb6⟩
  obtain ⟨y1, y2, hv, _⟩ := own_fits hO
  subst hv
  have H6 := Lib.hid (H5.out.ext hb6)
  have O6 := Lib.hid (O5.out.trans (Only.of_below hb6))
  clear hO hb6 M5 H5 O5
  rw [show [((3 : Nat), (⟨1, 7⟩ : V))].length = 1 from rfl]
  go_wp2_with fail
  refine (undo_to bh _ 0 w6 H6.out).mono ?_
  rintro e w7 ⟨c7, l7, rfl, hl, hm, hh, ho⟩
  obtain rfl : ([] : List E) = l7 := Option.some.inj hl
  have H7 := Lib.hid hh
  have O7 := Lib.hid (O6.out.trans ho)
  have M7 := Lib.hid hm
  clear hl hm hh ho H6 O6
  go_wp2_with fail
  refine (redo_to bh _ 0 w7 H7.out (by decide)).mono ?_
  rintro e w8 ⟨c8, l8, rfl, hl, hm, hh, ho⟩
  obtain rfl : [((3 : Nat), (⟨1, 7⟩ : V))] = l8 := Option.some.inj hl
  have M8 := Lib.hid (M7.out.onlyH H7.out ho)
  have H8 := Lib.hid hh
  have O8 := Lib.hid (O7.out.trans ho)
  have N8 := Lib.hid hm
  clear hl hm hh ho H7 O7 M7
  go_wp2_with fail
  refine (depth_any bh _ _ w8 H8.out).mono ?_
  rintro e w9 ⟨rfl, hb9⟩
  rw [show ((([[], [((3 : Nat), (⟨1, 7⟩ : V))]] : List (List E)).length - 1 - (0 + 1) : Nat) : Int) = 0 from rfl, show ((0 + 1 : Nat) : Int) = 1 from rfl]
  have M9 := Lib.hid (M8.out.ext hb9)
  have N9 := Lib.hid (N8.out.ext hb9)
  have O9 := Lib.hid (O8.out.trans (Only.of_below hb9))
  clear hb9 M8 N8 O8 H8
  go_wp2_with fail
  refine (entries_any _ _ w9 (.inl ⟨c7, rfl, M9.out⟩) (by simp)).mono ?_
  rintro e w10 ⟨es2, rfl, hO2, hb10⟩
  obtain ⟨y3, y4, hv2, _⟩ := own_fits hO2
  subst hv2
  have N10 := Lib.hid (N9.out.ext hb10)
  have O10 := Lib.hid (O9.out.trans (Only.of_below hb10))
  clear hO2 hb10 M9 N9 O9
  rw [show ([] : List E).length = 0 from rfl]
  go_wp2_with fail
  refine (entries_any _ _ w10 (.inl ⟨c8, rfl, N10.out⟩) (by simp)).mono ?_
  rintro e w11 ⟨es3, rfl, hO3, hb11⟩
  obtain ⟨y5, y6, hv3, _⟩ := own_fits hO3
  subst hv3
  have O11 := Lib.hid (O10.out.trans (Only.of_below hb11))
  clear hO3 hb11 N10 O10
  rw [show [((3 : Nat), (⟨1, 7⟩ : V))].length = 1 from rfl]
  go_wp2
  go_returns
  exact ⟨rfl, B3.out.trans (O11.out.below hw.out B3.out.size)⟩
end Go.Proofs.Ytmhhejpokgdjoaa
