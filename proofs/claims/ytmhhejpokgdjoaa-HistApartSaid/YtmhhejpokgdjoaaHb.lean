/- The walks of package hist: Clone of a slice, whole, New, Now, Depth. -/
import Derived.Test.YtmhhejpokgdjoaaHa
import Derived.Test.YtmhhejpokgdjoaaTrH
import Derived.Test.YtmhhejpokgdjoaaAp
import Derived.Test.YtmhhejpokgdjoaaRegG
import Derived.Deep.DeepCutAuto
import Derived.Deep.CutBlock
namespace Go.Proofs.Ytmhhejpokgdjoaa
open Go Go.RowKit
set_option linter.unusedVariables false
set_option linter.unusedSimpArgs false

theorem info_pm : (Try.prog.info? 29).map (fun i => (i.zero, i.size, i.bytes)) = some (some (.pointer none), 1, 8) := by kernel_rfl
theorem und_pms : Try.prog.underlying 81 = some (.slice 29) := by kernel_rfl
theorem rd_cells1 {w : World} {ad : Addr} {n c : Nat} {l : List (Nat × List E)} (h : Rd w 1 encP (.slice (some ad) n c) l) : n = l.length ∧ ∀ j u, (l.flatMap encP)[j]? = some u → w.cell? (ad.add j) = some u := by
  obtain ⟨a', c', hv, h⟩ := h
  simp only [Value.slice.injEq] at hv
  obtain ⟨rfl, rfl, rfl⟩ := hv
  refine ⟨rfl, fun j u hj => ?_⟩
  rcases h with rfl | ⟨b, off, he, hb, hc⟩
  · simp at hj
  · cases he
    have hadd : (⟨b, off, none⟩ : Addr).add j = ⟨b, off + j, none⟩ := by unfold Addr.add; split <;> simp_all
    rw [hadd]
    have hfm : ∀ l : List (Nat × List E), l.flatMap encP = l.map fun p => .pointer (some ⟨p.1, 0, none⟩) := by
      intro l
      induction l with
      | nil => rfl
      | cons x l ih => rw [List.flatMap_cons, ih]; rfl
    rw [hfm, List.getElem?_map] at hj
    obtain ⟨p, hp, rfl⟩ := Option.map_eq_some_iff.1 hj
    have := hc j p 0 _ hp rfl
    simpa using this
theorem flatP_len : ∀ l : List (Nat × List E), (l.flatMap encP).length = l.length
  | [] => rfl
  | x :: l => by rw [List.flatMap_cons, List.length_append, flatP_len l, encP_len, List.length_cons]; omega
/-- The append of pointers that another slice holds. -/
theorem wpList_app_ptrs {ops : Array Oper} {rest : List Oper} {o : Oper} {a : Act} {w : World} {Q : Exit → Act → World → Prop} (hgd : o.guard = none) (s x : Operand)
    (ho : o.op = .call { callee := .builtin .append, args := #[s, x], argTypes := #[81, 81] })
    (base : Nat) (v : Value) (n : Nat) (xs : List Value) (m : List (Nat × List E)) (hown : w.ownsRow base 29 1 v n xs) (hs : a.eval s = v)
    (ad : Addr) (k c : Nat) (hx : a.eval x = .slice (some ad) k c) (hrd : Rd w 1 encP (.slice (some ad) k c) m) (hm : m ≠ []) (hn : n + m.length ≤ 1000000) (hbase : base ≤ w.heap.size)
    (h : ∀ v' W, W.ownsRow base 29 1 v' (n + m.length) (xs ++ m.flatMap encP) → v' ≠ .slice none 0 0 → Below base w W → w.grownBy W v.ownBlock → wpList Try.prog ops Q rest (a.put o.dst v') W) :
    wpList Try.prog ops Q (o :: rest) a w := by
  obtain ⟨i0, hi, hz0, hz1, hz2⟩ := info_parts info_pm
  obtain ⟨hk, hc⟩ := rd_cells1 hrd
  subst hk
  refine wpList_append_own w hgd s x _ ho base 29 i0 _ 1 8 und_pms hi hz0 hz1 hz2 rfl (by omega) v n xs hs hown ad m.length c (m.flatMap encP) hx ?_ hc ?_ (by simp only [maxLen]; omega) (by omega) hbase ?_
  · rw [flatP_len]; omega
  · intro u hu
    obtain ⟨x, _, hx⟩ := List.mem_flatMap.1 hu
    simp only [encP, List.mem_singleton] at hx
    rw [hx]; rfl
  · intro v' W h2 h3 h4
    refine h v' W h2 ?_ ⟨h3.os, h3.tape, h3.output, h3.size, fun k hk => h3.block k (Nat.lt_of_lt_of_le hk hbase) (fun e => by have := (hown.lt k e.symm).1; omega)⟩ h3
    intro e
    have := (h4.1 e).2
    exact hm (List.length_eq_zero_iff.1 this)
theorem run_eql_slice {P : Program} {t e : TypeId} (hu : P.underlying t = some (.slice e)) (a : Addr) (n c : Nat) (w : World) : (binOp .eql t (.slice (some a) n c) (.slice none 0 0)).run P w = .ok (.bool false) w := by
  have : (Op.equal t (.slice (some a) n c) (.slice none 0 0)).run P w = .ok false w := by
    unfold Op.equal Op.maxDepth Op.equalIn
    rw [Sem.run_bind, run_underlying hu w, Result.andThen_ok]
    rfl
  simp only [binOp, Sem.run_bind, this, Result.andThen_ok, Sem.run_pure]
set_option maxRecDepth 100000 in
theorem clone_any (v : Value) (ps : List (Nat × List E)) (w : World) (h : Rd w 1 encP v ps) (hne : ps ≠ []) (hl : ps.length ≤ 1000) :
    Calls Try.prog 40 #[v] w fun e w' => ∃ v', e = .returned v' ∧ Own w' w.heap.size 29 1 encP v' ps ∧ Below w.heap.size w w' := by
  have HR := Lib.hid h
  obtain ⟨a, c, rfl, h⟩ := h
  rcases h with rfl | ⟨g, off, rfl, hg, hc⟩
  · exact absurd rfl hne
  clear hc
  have hE := fun W => run_eql_slice (P := Try.prog) und_pms ⟨g, off, none⟩ ps.length c W
  go_enter Try.func40, Try.ntmps40
  have hown : (w.alloc (.cells #[] 29)).ownsRow w.heap.size 29 1 (.slice (some ⟨w.heap.size, 0, none⟩) 0 0) 0 [] :=
    ⟨rfl, .inr ⟨w.heap.size, 0, #[], rfl, Nat.le_refl _, World.alloc_heap_new w _, Nat.le_refl _, by simp [maxLen], rfl, rfl⟩⟩
  have hr1 : Rd (w.alloc (.cells #[] 29)) 1 encP (.slice (some ⟨g, off, none⟩) ps.length c) ps := HR.out.ext ((Below.refl _ _).alloc (Nat.le_refl _) _)
  have HO := Lib.hid hown
  have HR1 := Lib.hid hr1
  clear hown hr1
  go_wp2_with (refine wpList_app_ptrs rfl _ _ rfl w.heap.size (.slice (some ⟨w.heap.size, 0, none⟩) 0 0) 0 [] ps HO.out rfl _ _ _ rfl HR1.out hne (by omega) (by simp) ?_; intro v1 W1 hO1 hn1 hq1 _; have HO1 := Lib.hid hO1; have HN1 := Lib.hid hn1; have HQ1 := Lib.hid hq1; clear hO1 hn1 hq1)
  go_returns
  refine ⟨v1, rfl, ⟨?_, ?_⟩, ?_⟩
  · have := HO1.out
    rwa [Nat.zero_add, List.nil_append] at this
  · exact ⟨fun e => absurd e HN1.out, fun e => absurd e hne⟩
  · exact ((Below.refl w.heap.size w).alloc (Nat.le_refl _) _).trans HQ1.out
theorem eql_pm_nil (a : Addr) (w : World) : (binOp .eql 29 (.pointer (some a)) (.pointer none)).run Try.prog w = .ok (.bool false) w := by
  have hp : Try.prog.underlying 29 = some (.pointer 100) := by kernel_rfl
  have h : ∀ d : Nat, (Op.equalIn (d + 1) 29 (.pointer (some a)) (.pointer none)).run Try.prog w = .ok false w := fun d => by
    simp [Op.equalIn, run_underlying hp]
  simp only [binOp]
  simp [Op.equal, Op.maxDepth, h 9999]
/-- What may be handed in: a map, or none for the empty one. -/
def MapV (w : World) (v : Value) (l : List E) : Prop := (∃ b, v = .pointer (some ⟨b, 0, none⟩) ∧ MapL w b l) ∨ (v = .pointer none ∧ l = [])
theorem MapV.ext {w w' : World} {v : Value} {l : List E} (h : MapV w v l) (hb : Below w.heap.size w w') : MapV w' v l := h.imp (fun ⟨b, h1, h2⟩ => ⟨b, h1, h2.ext hb⟩) id
theorem whole_any (v : Value) (l : List E) (w : World) (h : MapV w v l) : Calls Try.prog 37 #[v] w fun e w' => ∃ b, e = .returned (.pointer (some ⟨b, 0, none⟩)) ∧ MapL w' b l ∧ Below w.heap.size w w' ∧ (v = .pointer (some ⟨b, 0, none⟩) ∨ (l = [] ∧ w.heap.size ≤ b ∧ Holds w' b ((Tr.nil : Tr 8).mapCells 0))) := by
  rcases h with ⟨b, rfl, hm⟩ | ⟨rfl, rfl⟩
  · have HM := Lib.hid hm
    clear hm
    go_enter Try.func37, Try.ntmps37
    go_wp2
    go_returns
    exact ⟨b, rfl, HM.out, Below.refl _ _, .inl rfl⟩
  · go_enter Try.func37, Try.ntmps37
    go_wp2_with (go_at_call 41; refine (empty_any _).mono ?_; rintro e w1 ⟨rfl, h1, h2, _⟩)
    go_returns
    exact ⟨w.heap.size, rfl, ⟨Tr.nil, ⟨h1, trivial⟩, rfl⟩, h2, .inr ⟨by trivial, Nat.le_refl _, h1⟩⟩
theorem new_any (v : Value) (l : List E) (w : World) (h : MapV w v l) (hl : l.length ≤ 200) : Calls Try.prog 9 #[v] w fun e w' => ∃ b, e = .returned (.pointer (some ⟨b, 0, none⟩)) ∧ HistL w' b [l] 0 ∧ w.heap.size ≤ b ∧ Below w.heap.size w w' := by
  have HW := Lib.hid (whole_any v l w h)
  clear h
  go_enter Try.func9, Try.ntmps9
  go_wp2_with (go_at_call 37; refine HW.out.mono ?_; rintro e w1 ⟨b, rfl, h1, h2, _⟩)
  go_returns
  have e0 := Below.refl w1.heap.size w1
  have e1 := e0.alloc (Nat.le_refl _) (.cells #[.pointer (some ⟨b, 0, none⟩)] 29)
  have e2 := e1.alloc (by simp) (.cells #[.slice (some ⟨w1.heap.size, 0, none⟩) 1 1, .int .i64 0] 83)
  refine ⟨w1.heap.size + 1, rfl, ⟨[(b, l)], ⟨⟨some ⟨w1.heap.size, 0, none⟩, 1, ?_, ?_, Nat.le_refl _⟩, ?_, ?_, Nat.one_pos, by simp⟩, rfl⟩, by have := h2.size; omega, h2.trans (e2.mono h2.size)⟩
  · have := Holds.alloc (w1.alloc (.cells #[.pointer (some ⟨b, 0, none⟩)] 29)) (hCells (.slice (some ⟨w1.heap.size, 0, none⟩) 1 1) 0) 83
    rw [World.size_alloc] at this
    exact this
  · refine ⟨_, _, rfl, .inr ⟨w1.heap.size, 0, rfl, by simp; omega, fun i x j u hi hj => ?_⟩⟩
    have hh : Holds ((w1.alloc (.cells #[.pointer (some ⟨b, 0, none⟩)] 29)).alloc (.cells #[.slice (some ⟨w1.heap.size, 0, none⟩) 1 1, .int .i64 0] 83)) w1.heap.size [.pointer (some ⟨b, 0, none⟩)] :=
      (Holds.alloc w1 [.pointer (some ⟨b, 0, none⟩)] 29).ext ((Below.refl _ _).alloc (Nat.le_refl _) _)
    match i, hi with
    | 0, hi =>
      cases hi
      match j, hj with
      | 0, hj =>
        cases hj
        exact hh.cell (i := 0) rfl
      | j + 1, hj => simp [encP] at hj
    | i + 1, hi => simp at hi
  · intro p hp
    rw [List.mem_singleton] at hp
    subst hp
    exact h1.ext e2
  · intro p hp
    rw [List.mem_singleton] at hp
    subst hp
    exact hl
set_option maxRecDepth 100000 in
theorem now_any (b : Nat) (vs : List (List E)) (i : Nat) (w : World) (h : HistL w b vs i) : Calls Try.prog 12 #[.pointer (some ⟨b, 0, none⟩)] w fun e w' => ∃ c l, e = .returned (.pointer (some ⟨c, 0, none⟩)) ∧ vs[i]? = some l ∧ MapL w' c l ∧ Below w.heap.size w w' := by
  obtain ⟨ps, hp, rfl⟩ := h
  obtain ⟨a, c, h1, h2, h3⟩ := hp.cells
  have hi := hp.lt
  have e1 : ps[i]? = some ps[i] := List.getElem?_eq_getElem hi
  have hm := hp.maps ps[i] (List.getElem_mem hi)
  have hv : (ps.map (·.2))[i]? = some ps[i].2 := by rw [List.getElem?_map, e1]; rfl
  generalize ps[i] = p at e1 hm hv
  obtain ⟨a', c', hs, hnil | ⟨g, off, rfl, hg, hc⟩⟩ := h2
  · subst hnil; simp at hi
  simp only [Value.slice.injEq, true_and] at hs
  obtain ⟨rfl, rfl⟩ := hs
  have k0 := h1.cell (i := 0) rfl
  have k1 := h1.cell (i := 1) rfl
  have k2 := hc i p 0 _ e1 rfl
  simp only [Nat.mul_one, Nat.add_zero] at k2
  have HM := Lib.hid hm
  have HV := Lib.hid hv
  clear h1 hm hc hp e1 hv
  go_enter Try.func12, Try.ntmps12
  go_wp2
  refine rgn [0, 1, 2, 3, 4, 5, 6, 7, 8, 9, 10] [] (by kernel_rfl) ?_
  simp only [pickL, List.getD_cons_zero, List.getD_cons_succ]
  go_wp2
  refine ⟨rfl, ?_⟩
  go_wp2
  go_returns
  exact ⟨p.1, p.2, rfl, HV.out, HM.out.ext (Below.refl _ _).drew, (Below.refl _ _).drew⟩
set_option maxRecDepth 100000 in
theorem depth_any (b : Nat) (vs : List (List E)) (i : Nat) (w : World) (h : HistL w b vs i) : Calls Try.prog 13 #[.pointer (some ⟨b, 0, none⟩)] w fun e w' => e = .returned (.tuple #[.int .i64 (i : Nat), .int .i64 ((vs.length - 1 - i : Nat) : Int)]) ∧ Below w.heap.size w w' := by
  obtain ⟨ps, hp, rfl⟩ := h
  obtain ⟨a, c, h1, h2, h3⟩ := hp.cells
  have hi := hp.lt
  have hl := hp.len
  have k0 := h1.cell (i := 0) rfl
  have k1 := h1.cell (i := 1) rfl
  have hd : ((ps.length - 1 - i : Nat) : Int) = (ps.length : Int) - 1 - (i : Int) := by omega
  rw [List.length_map, hd]
  clear h1 h2 hp hd
  go_enter Try.func13, Try.ntmps13
  go_wp2
  refine rgn [0, 1, 2, 3, 4, 5, 6, 7, 8, 9, 10, 11, 12, 13, 14, 15, 16] [8, 9, 14] (by kernel_rfl) ?_
  simp only [pickL, List.getD_cons_zero, List.getD_cons_succ]
  go_wp2
  refine ⟨by simp [chkD, dyn, Region.wanted, yielded, Act.eval, scalarV], ?_⟩
  go_wp2
  go_returns
  exact ⟨rfl, (Below.refl _ _).drew⟩
end Go.Proofs.Ytmhhejpokgdjoaa
