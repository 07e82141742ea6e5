/- The walks of the law's run, list, from (2). -/
import Derived.Test.YtihmhledogppmaaDoorLaC
import Derived.Handy
namespace Go.Proofs.YtihmhledogppmaaDoor
open Go Go.RowKit
set_option linter.unusedVariables false
set_option linter.unusedSimpArgs false
attribute [local go_sem] Oper.semAt_some

theorem run_eql_func {P : Program} {t : TypeId} (hu : (match P.underlying t with | some (.func ..) => true | _ => false) = true) (f : Fn) (x y : Array Value) (w : World) : (binOp .eql t (.func f x y) .nilFunc).run P w = .ok (.bool false) w := by
  cases hq : P.underlying t with
  | none => rw [hq] at hu; cases hu
  | some d =>
    rw [hq] at hu
    cases d <;> try (cases hu; done)
    have : (Op.equal t (.func f x y) .nilFunc).run P w = .ok false w := by
      unfold Op.equal Op.maxDepth Op.equalIn
      rw [Sem.run_bind, run_underlying hq w, Result.andThen_ok]
      rfl
    simp only [binOp, Sem.run_bind, this, Result.andThen_ok, Sem.run_pure]
set_option maxRecDepth 100000 in
set_option maxHeartbeats 400000 in
theorem run_any (f : FuncId) (fst cap : Array Value) (xs : List (Nat × V)) (D : World → Prop) (hG : Gives Tryd.prog (.func (.func f) fst cap) encE xs D) (stop most : Int) (w : World)
    (hD : ∀ W, Below w.heap.size w W → D W) (hx : (xs.length : Int) ≤ most) (hm : most ≤ 4294967300) :
    Calls Tryd.prog 30 #[.func (.func f) fst cap, .int .i64 stop, .int .i64 most] w fun e w' =>
      ∃ es, e = .returned es ∧ Own w' (w.heap.size + 1) 43 3 encL es (cutL xs stop) ∧ Below w.heap.size w w' := by
  have hE := run_eql_func (P := Tryd.prog) (t := 53) (by kernel_rfl) (.func f) fst cap
  by_cases hs : stop = 0
  · subst hs
    have hq : ((0 : Int) == 0) = true := rfl
    go_enter Tryd.func30, Tryd.ntmps30
    go_wp2
    go_returns
    refine ⟨_, rfl, ?_, ?_⟩
    · exact own_nil _ _ _ _ _
    · (repeat' (first | (with_reducible exact Below.refl _ _) | (with_reducible assumption) | (with_reducible refine below_drewN ?_ _) | (with_reducible refine Below.drew ?_) | (with_reducible refine Below.alloc ?_ ?_ _) | (with_reducible refine Below.setCell ?_ ?_ _) | (with_reducible exact Below.size (by assumption)) | go_size))
  · have hq : (stop == 0) = false := by simpa using hs
    have h0 : RunI w.heap.size w stop most false [] (w.alloc (.cells (tkCells (.slice none 0 0) (.slice none 0 0) stop most 0 false false).toArray 109)) :=
      ⟨⟨_, Holds.alloc w _ _, own_nil _ _ _ _ _⟩, (Below.refl _ _).alloc (Nat.le_refl _) _, by simp, by simp, by simp⟩
    have hc := hG (entV w.heap.size) (RunI w.heap.size w stop most false) (RunI w.heap.size w stop most true) _ (RunI.grows _ _ _ _ _) (fun pre W h => hD W h.below) (entry_yd w.heap.size w stop most xs (by omega)) h0
    have HC := Lib.hid hc
    have HS := Lib.hid hs
    clear hG hD hs hc h0
    refine (callsIn_wide (n := 0)).1 (callsIn_of_wp Tryd.func30 rfl trivial ?_)
    simp only [Tryd.ntmps30, List.size_toArray, List.length_cons, List.length_nil, Nat.reduceAdd, Nat.reduceSub, Array.replicate_succ, Array.replicate_zero, List.push_toArray, List.append_toArray, List.nil_append, List.cons_append]
    gi_wp2_with (refine wpListIn_callV (open_wide _) rfl _ _ _ rfl (vs := #[entV w.heap.size]) rfl (by simp [entV, Act.eval]) ?_; refine HC.out.mono ?_; rintro e W' ⟨⟨v, rfl⟩, hr⟩; obtain ⟨hB, es, n, ov, hH, hO⟩ := run_end HS.out hx hr; have c0 := hH.cell (i := 0) rfl; have c6 := hH.cell (i := 6) rfl)
    go_returns
    exact ⟨es, rfl, hO, hB⟩
theorem Own.base {α : Type} {w : World} {base base' : Nat} {ty : TypeId} {s : Nat} {enc : α → List Value} {v : Value} {l : List α} (h : Own w base ty s enc v l) (hb : base' ≤ base) : Own w base' ty s enc v l := by
  obtain ⟨⟨hlen, hr⟩, hn⟩ := h
  refine ⟨⟨hlen, hr.imp id ?_⟩, hn⟩
  rintro ⟨g, cap, cur, h1, h2, h3⟩
  exact ⟨g, cap, cur, h1, Nat.le_trans hb h2, h3⟩
theorem from_run (b low : Nat) (t : Tr 8) (n : Nat) (stop : Int) (w W0 : World) (hl : low < 4294967296) (hW : Below w.heap.size w W0) (hm : MapAt w b t n) (B1 B2 : Nat) (h1 : Holds W0 B1 [.pointer (some ⟨b, 0, none⟩)]) (h2 : Holds W0 B2 [.int .u32 (low : Nat)])
    (hx : (fromL low (t.ents 0)).length ≤ 5000) :
    Calls Tryd.prog 30 #[fromV B1 B2, .int .i64 stop, .int .i64 5000] W0 fun e w' =>
      ∃ es, e = .returned es ∧ Own w' w.heap.size 43 3 encL es (cutL (fromL low (t.ents 0)) stop) ∧ Below w.heap.size w w' := by
  refine (run_any _ _ _ (fromL low (t.ents 0)) (FromD b low t B1 B2) (from_gives b low t B1 B2 hl) stop 5000 W0 ?_ (by omega) (by omega)).mono ?_
  · intro W hB
    exact FromD.ext ⟨h1, h2, n, hm.ext hW⟩ hB
  · rintro e w' ⟨es, he, hO, hB⟩
    exact ⟨es, he, hO.base (by have := hW.size; omega), hW.trans (hB.mono hW.size)⟩
set_option maxRecDepth 100000 in
theorem from_any' (b low : Nat) (t : Tr 8) (n : Nat) (stop : Int) (w : World) (hl : low < 4294967296) (hm : MapAt w b t n) (hx : (fromL low (t.ents 0)).length ≤ 5000) :
    Calls Tryd.prog 20 #[.pointer (some ⟨b, 0, none⟩), .int .u32 (low : Nat), .int .i64 stop] w fun e w' =>
      ∃ es, e = .returned es ∧ Own w' w.heap.size 43 3 encL es (cutL (fromL low (t.ents 0)) stop) ∧ Below w.heap.size w w' := by
  have HM := Lib.hid hm
  clear hm
  go_enter Tryd.func20, Tryd.ntmps20
  go_wp2_with (first | (go_at_call 32; refine (from_any b low _).mono ?_; rintro e W0 ⟨rfl, h1, h2, h3⟩) | (go_at_call 30; refine (from_run b low t n stop w _ hl (by assumption) HM.out _ _ (by assumption) (by assumption) hx).mono ?_; rintro e w' ⟨es, rfl, hO, hB⟩))
  go_returns
  exact ⟨_, rfl, hO, hB⟩
set_option maxRecDepth 100000 in
theorem list_any (b : Nat) (t : Tr 8) (n : Nat) (stop : Int) (w : World) (hm : MapAt w b t n) (hx : (t.ents 0).length ≤ 5000) :
    Calls Tryd.prog 14 #[.pointer (some ⟨b, 0, none⟩), .int .i64 stop] w fun e w' =>
      ∃ es, e = .returned es ∧ Own w' w.heap.size 43 3 encL es (cutL (t.ents 0) stop) ∧ Below w.heap.size w w' := by
  have HM := Lib.hid hm
  clear hm
  rw [← fromL_zero (t.ents 0)] at hx
  rw [← fromL_zero (t.ents 0)]
  go_enter Tryd.func14, Tryd.ntmps14
  go_wp2_with (first | (go_at_call 21; refine (all_any b _).mono ?_; rintro e W0 ⟨rfl, h1, h2, h3⟩) | (go_at_call 30; refine (from_run b 0 t n stop w _ (by omega) (by assumption) HM.out _ _ (by assumption) (by assumption) hx).mono ?_; rintro e w' ⟨es, rfl, hO, hB⟩))
  go_returns
  exact ⟨_, rfl, hO, hB⟩
end Go.Proofs.YtihmhledogppmaaDoor
