/- A history of the program as the list of its versions; what a step on it leaves alone. · The walks of package hist: Clone of a slice, whole, New, Now, Depth. · The walks of package hist: Undo, Redo. · The walks of package hist: Push (both ways), Clone, Steps. -/
import Derived.Test.YtmhhejpokgdjoaaTrX
import Derived.Test.YtmhhejpokgdjoaaWk
import Derived.Test.YtmhhejpokgdjoaaReg
import Derived.Deep.DeepCutAuto
import Derived.Deep.CutBlock
namespace Go.Proofs.Ytmhhejpokgdjoaa
open Go Go.RowKit
set_option linter.unusedVariables false

abbrev E := Nat × V
/-- Block b alone of what was there may have turned. -/
structure Only (b : Nat) (w w' : World) : Prop where
  os : w'.os = w.os
  tape : w'.tape = w.tape
  output : w'.output = w.output
  size : w.heap.size ≤ w'.heap.size
  block : ∀ k, k < w.heap.size → k ≠ b → w'.heap[k]? = w.heap[k]?
theorem Only.refl (b : Nat) (w : World) : Only b w w := ⟨rfl, rfl, rfl, Nat.le_refl _, fun _ _ _ => rfl⟩
theorem Only.trans {b : Nat} {x y z : World} (h : Only b x y) (k : Only b y z) : Only b x z :=
  ⟨k.os.trans h.os, k.tape.trans h.tape, k.output.trans h.output, Nat.le_trans h.size k.size, fun i hi hne => (k.block i (Nat.lt_of_lt_of_le hi h.size) hne).trans (h.block i hi hne)⟩
theorem Only.of_below {b : Nat} {w w' : World} (h : Below w.heap.size w w') : Only b w w' := ⟨h.os, h.tape, h.output, h.size, fun k hk _ => h.block k hk⟩
theorem Only.of_upd {b : Nat} {w w' : World} (h : Upd b w w') : Only b w w' := ⟨h.os, h.tape, h.output, Nat.le_of_eq h.size.symm, fun k _ hne => h.block k hne⟩
theorem Only.below {b B : Nat} {w w' : World} (h : Only b w w') (hB : B ≤ b) (hs : B ≤ w.heap.size) : Below B w w' := ⟨h.os, h.tape, h.output, h.size, fun k hk => h.block k (by omega) (by omega)⟩
theorem Only.drew {b : Nat} {w w' : World} (h : Only b w w') : Only b w w'.drew := h.trans (Only.of_below (Below.refl _ _).drew)
theorem Only.holds {b g : Nat} {w w' : World} {cs : List Value} (h : Only b w w') (hh : Holds w g cs) (hne : g ≠ b) : Holds w' g cs := by
  have hl := hh.lt
  obtain ⟨ty, h1⟩ := hh
  exact ⟨ty, (h.block g hl hne).trans h1⟩
theorem Only.rd {α : Type} {b : Nat} {w w' : World} {s : Nat} {enc : α → List Value} {v : Value} {l : List α} (h : Only b w w') (hr : Rd w s enc v l) (hne : ∀ g o n c, v = .slice (some ⟨g, o, none⟩) n c → l ≠ [] → g ≠ b) : Rd w' s enc v l := by
  obtain ⟨a, cap, hv, hr⟩ := hr
  refine ⟨a, cap, hv, ?_⟩
  rcases hr with hnil | ⟨g, off, ha, hlt, hc⟩
  · exact .inl hnil
  · by_cases hl : l = []
    · exact .inl hl
    · refine .inr ⟨g, off, ha, Nat.lt_of_lt_of_le hlt h.size, fun i x j u h1 h2 => ?_⟩
      have hgb : g ≠ b := hne g off l.length cap (by rw [hv, ha]) hl
      exact (World.cell?_of_block (a := ⟨g, _, none⟩) (h.block g hlt hgb)).trans (hc i x j u h1 h2)
theorem Only.own {α : Type} {b base : Nat} {w w' : World} {ty : TypeId} {s : Nat} {enc : α → List Value} {v : Value} {l : List α} (h : Only b w w') (ho : Own w base ty s enc v l) (hb : b < base) : Own w' base ty s enc v l :=
  ⟨ho.row.kept (row := some b) ⟨h.os, h.tape, h.output, h.size, fun k hk hne => h.block k hk (fun e => hne (by rw [e]))⟩ (by
    cases hq : v.ownBlock with
    | none => exact .inl rfl
    | some k => exact .inr (fun e => by cases e; have := (ho.row.lt b hq).1; omega)), ho.nil⟩
/-- The cells of a history: its versions, its place. -/
def hCells (v : Value) (at_ : Int) : List Value := [v, .int .i64 at_]
theorem holds_same {w : World} {b : Nat} {cs ds : List Value} (h : Holds w b cs) (k : Holds w b ds) : cs = ds := by
  obtain ⟨t, h⟩ := h
  obtain ⟨u, k⟩ := k
  rw [h] at k
  simp only [Option.some.injEq, Obj.cells.injEq] at k
  have := congrArg Array.toList k.1
  simpa using this
theorem tree_off {w : World} {b : Nat} {a : Option Addr} {n c : Nat} {i : Int} (h : Holds w b (hCells (.slice a n c) i)) : ∀ {d : Nat} {t : Tr d}, t.at w → t.all (· ≠ b)
  | 0, none, _ => trivial
  | 0, some (g, v), ht => by
    intro e
    subst e
    have := holds_same (show Holds w g (vCells v) from ht) h
    simp [vCells, hCells] at this
  | d + 1, none, _ => trivial
  | d + 1, some (g, f), ht => by
    refine ⟨?_, fun i => tree_off h (ht.2 i)⟩
    intro e
    subst e
    have := congrArg List.length (holds_same ht.1 h)
    rw [nodeCells_length] at this
    simp [hCells] at this
theorem Only.tree {b : Nat} {w w' : World} (h : Only b w w') : ∀ {d : Nat} {t : Tr d}, t.at w → t.all (· ≠ b) → t.at w'
  | 0, none, _, _ => trivial
  | 0, some (g, v), ht, hq => h.holds ht hq
  | d + 1, none, _, _ => trivial
  | d + 1, some (g, f), ht, hq => ⟨h.holds ht.1 hq.1, fun i => h.tree (ht.2 i) (hq.2 i)⟩
theorem MapL.only {b c : Nat} {w w' : World} {a : Option Addr} {n k : Nat} {i : Int} {l : List E} (h : MapL w c l) (hb : Holds w b (hCells (.slice a n k) i)) (ho : Only b w w') : MapL w' c l := by
  obtain ⟨t, h1, h2⟩ := h
  refine ⟨t, ⟨ho.holds h1.map ?_, ho.tree h1.tree (tree_off hb h1.tree)⟩, h2⟩
  intro e
  subst e
  have := holds_same h1.map hb
  simp [Tr.mapCells, hCells, Tr.ptr, ptrOf] at this
def encP (p : Nat × List E) : List Value := [.pointer (some ⟨p.1, 0, none⟩)]
theorem encP_len (p : Nat × List E) : (encP p).length = 1 := rfl
/-- Block b is a history: its versions (blocks and entries), its place. -/
structure HistP (w : World) (b : Nat) (ps : List (Nat × List E)) (i : Nat) : Prop where
  cells : ∃ a c, Holds w b (hCells (.slice a ps.length c) (i : Nat)) ∧ Rd w 1 encP (.slice a ps.length c) ps ∧ ps.length ≤ c
  maps : ∀ p ∈ ps, MapL w p.1 p.2
  small : ∀ p ∈ ps, p.2.length ≤ 200
  lt : i < ps.length
  len : ps.length ≤ 33
theorem HistP.ext {w w' : World} {b : Nat} {ps : List (Nat × List E)} {i : Nat} (h : HistP w b ps i) (hb : Below w.heap.size w w') : HistP w' b ps i := by
  obtain ⟨a, c, h1, h2, h3⟩ := h.cells
  exact ⟨⟨a, c, h1.ext hb, h2.ext hb, h3⟩, fun p hp => (h.maps p hp).ext hb, h.small, h.lt, h.len⟩
/-- A slice of pointers does not lie in a history's block. -/
theorem rd_off {w : World} {b : Nat} {a : Option Addr} {n c : Nat} {i : Int} {ps : List (Nat × List E)} {v : Value} (hb : Holds w b (hCells (.slice a n c) i)) (hr : Rd w 1 encP v ps) : ∀ g o m k, v = .slice (some ⟨g, o, none⟩) m k → ps ≠ [] → g ≠ b := by
  rintro g o m k rfl hne rfl
  obtain ⟨a', c', hv, hr⟩ := hr
  rcases hr with rfl | ⟨g', off, ha, hlt, hc⟩
  · exact hne rfl
  · simp only [Value.slice.injEq] at hv
    obtain ⟨rfl, _, _⟩ := hv
    simp only [Option.some.injEq, Addr.mk.injEq] at ha
    obtain ⟨rfl, rfl, _⟩ := ha
    cases ps with
    | nil => exact hne rfl
    | cons p ps =>
      have h0 := hc 0 p 0 _ rfl rfl
      obtain ⟨ty, h1⟩ := hb
      simp only [World.cell?, h1, hCells, Nat.zero_mul, Nat.add_zero] at h0
      match o, h0 with
      | 0, h0 => simp at h0
      | 1, h0 => simp at h0
      | o + 2, h0 => simp at h0
/-- Another history turns: this one stays. -/
theorem HistP.only {w w' : World} {b c : Nat} {ps : List (Nat × List E)} {i : Nat} {a : Option Addr} {n k : Nat} {j : Int} (h : HistP w b ps i) (hc : Holds w c (hCells (.slice a n k) j)) (hne : b ≠ c) (ho : Only c w w') : HistP w' b ps i := by
  obtain ⟨a', c', h1, h2, h3⟩ := h.cells
  exact ⟨⟨a', c', ho.holds h1 hne, ho.rd h2 (rd_off hc h2), h3⟩, fun p hp => (h.maps p hp).only hc ho, h.small, h.lt, h.len⟩
/-- A history, by its versions' entries. -/
def HistL (w : World) (b : Nat) (vs : List (List E)) (i : Nat) : Prop := ∃ ps, HistP w b ps i ∧ ps.map (·.2) = vs
theorem HistL.ext {w w' : World} {b : Nat} {vs : List (List E)} {i : Nat} (h : HistL w b vs i) (hb : Below w.heap.size w w') : HistL w' b vs i := by
  obtain ⟨ps, h1, h2⟩ := h
  exact ⟨ps, h1.ext hb, h2⟩
theorem HistL.only {w w' : World} {b c : Nat} {vs us : List (List E)} {i j : Nat} (h : HistL w b vs i) (hc : HistL w c us j) (hne : b ≠ c) (ho : Only c w w') : HistL w' b vs i := by
  obtain ⟨ps, h1, h2⟩ := h
  obtain ⟨qs, ⟨⟨a, k, g1, _, _⟩, _⟩, _⟩ := hc
  exact ⟨ps, h1.only g1 hne ho, h2⟩
theorem HistL.facts {w : World} {b : Nat} {vs : List (List E)} {i : Nat} (h : HistL w b vs i) : i < vs.length ∧ vs.length ≤ 33 ∧ (∀ v ∈ vs, v.length ≤ 200) ∧ b < w.heap.size := by
  obtain ⟨ps, h1, rfl⟩ := h
  refine ⟨by simpa using h1.lt, by simpa using h1.len, ?_, ?_⟩
  · intro v hv
    obtain ⟨p, hp, rfl⟩ := List.mem_map.1 hv
    exact h1.small p hp
  · obtain ⟨a, c, g, _⟩ := h1.cells
    exact g.lt
/-! What the calls make of it. -/
abbrev HS := List (List E) × Nat
def pushH (h : HS) (l : List E) : HS := if 32 ≤ h.2 then h else (h.1.take (h.2 + 1) ++ [l], h.2 + 1)
def undoH (h : HS) : HS := if h.2 = 0 then h else (h.1, h.2 - 1)
def redoH (h : HS) : HS := if h.2 + 1 < h.1.length then (h.1, h.2 + 1) else h
def forgetH (h : HS) (n : Int) : HS := if n < 0 ∨ (h.2 : Int) < n then h else (h.1.drop n.toNat, h.2 - n.toNat)
end Go.Proofs.Ytmhhejpokgdjoaa
namespace Go.Proofs.Ytmhhejpokgdjoaa
open Go Go.RowKit
set_option linter.unusedVariables false
set_option linter.unusedSimpArgs false

theorem info_pm : (Try.prog.info? 29).map (fun i => (i.zero, i.size, i.bytes)) = some (some (.pointer none), 1, 8) := by kernel_rfl
theorem und_pms : Try.prog.underlying 81 = some (.slice 29) := by kernel_rfl
theorem rd_cells1 {w : World} {ad : Addr} {n c : Nat} {l : List (Nat × List E)} (h : Rd w 1 encP (.slice (some ad) n c) l) : n = l.length ∧ ∀ j u, (l.flatMap encP)[j]? = some u → w.cell? (ad.add j) = some u := by
  obtain ⟨a', c', hv, h⟩ := h
  simp only [Value.slice.injEq] at hv
  obtain ⟨rfl, rfl, rfl⟩ := hv
  refine ⟨rfl, fun j u hj => ?_⟩
  rcases h with rfl | ⟨b, off, he, hb, hc⟩
  · simp at hj
  · cases he
    have hadd : (⟨b, off, none⟩ : Addr).add j = ⟨b, off + j, none⟩ := by unfold Addr.add; split <;> simp_all
    rw [hadd]
    have hfm : ∀ l : List (Nat × List E), l.flatMap encP = l.map fun p => .pointer (some ⟨p.1, 0, none⟩) := by
      intro l
      induction l with
      | nil => rfl
      | cons x l ih => rw [List.flatMap_cons, ih]; rfl
    rw [hfm, List.getElem?_map] at hj
    obtain ⟨p, hp, rfl⟩ := Option.map_eq_some_iff.1 hj
    have := hc j p 0 _ hp rfl
    simpa using this
theorem flatP_len : ∀ l : List (Nat × List E), (l.flatMap encP).length = l.length
  | [] => rfl
  | x :: l => by rw [List.flatMap_cons, List.length_append, flatP_len l, encP_len, List.length_cons]; omega
/-- The append of pointers that another slice holds. -/
theorem wpList_app_ptrs {ops : Array Oper} {rest : List Oper} {o : Oper} {a : Act} {w : World} {Q : Exit → Act → World → Prop} (hgd : o.guard = none) (s x : Operand)
    (ho : o.op = .call { callee := .builtin .append, args := #[s, x], argTypes := #[81, 81] })
    (base : Nat) (v : Value) (n : Nat) (xs : List Value) (m : List (Nat × List E)) (hown : w.ownsRow base 29 1 v n xs) (hs : a.eval s = v)
    (ad : Addr) (k c : Nat) (hx : a.eval x = .slice (some ad) k c) (hrd : Rd w 1 encP (.slice (some ad) k c) m) (hm : m ≠ []) (hn : n + m.length ≤ 1000000) (hbase : base ≤ w.heap.size)
    (h : ∀ v' W, W.ownsRow base 29 1 v' (n + m.length) (xs ++ m.flatMap encP) → v' ≠ .slice none 0 0 → Below base w W → w.grownBy W v.ownBlock → wpList Try.prog ops Q rest (a.put o.dst v') W) :
    wpList Try.prog ops Q (o :: rest) a w := by
  obtain ⟨i0, hi, hz0, hz1, hz2⟩ := info_parts info_pm
  obtain ⟨hk, hc⟩ := rd_cells1 hrd
  subst hk
  refine wpList_append_own w hgd s x _ ho base 29 i0 _ 1 8 und_pms hi hz0 hz1 hz2 rfl (by omega) v n xs hs hown ad m.length c (m.flatMap encP) hx ?_ hc ?_ (by simp only [maxLen]; omega) (by omega) hbase ?_
  · rw [flatP_len]; omega
  · intro u hu
    obtain ⟨x, _, hx⟩ := List.mem_flatMap.1 hu
    simp only [encP, List.mem_singleton] at hx
    rw [hx]; rfl
  · intro v' W h2 h3 h4
    refine h v' W h2 ?_ ⟨h3.os, h3.tape, h3.output, h3.size, fun k hk => h3.block k (Nat.lt_of_lt_of_le hk hbase) (fun e => by have := (hown.lt k e.symm).1; omega)⟩ h3
    intro e
    have := (h4.1 e).2
    exact hm (List.length_eq_zero_iff.1 this)
theorem run_eql_slice {P : Program} {t e : TypeId} (hu : P.underlying t = some (.slice e)) (a : Addr) (n c : Nat) (w : World) : (binOp .eql t (.slice (some a) n c) (.slice none 0 0)).run P w = .ok (.bool false) w := by
  have : (Op.equal t (.slice (some a) n c) (.slice none 0 0)).run P w = .ok false w := by
    unfold Op.equal Op.maxDepth Op.equalIn
    rw [Sem.run_bind, run_underlying hu w, Result.andThen_ok]
    rfl
  simp only [binOp, Sem.run_bind, this, Result.andThen_ok, Sem.run_pure]
set_option maxRecDepth 100000 in
theorem clone_any (v : Value) (ps : List (Nat × List E)) (w : World) (h : Rd w 1 encP v ps) (hne : ps ≠ []) (hl : ps.length ≤ 1000) :
    Calls Try.prog 40 #[v] w fun e w' => ∃ v', e = .returned v' ∧ Own w' w.heap.size 29 1 encP v' ps ∧ Below w.heap.size w w' := by
  have HR := Lib.hid h
  obtain ⟨a, c, rfl, h⟩ := h
  rcases h with rfl | ⟨g, off, rfl, hg, hc⟩
  · exact absurd rfl hne
  clear hc
  have hE := fun W => run_eql_slice (P := Try.prog) und_pms ⟨g, off, none⟩ ps.length c W
  go_enter Try.func40, Try.ntmps40
  have hown : (w.alloc (.cells #[] 29)).ownsRow w.heap.size 29 1 (.slice (some ⟨w.heap.size, 0, none⟩) 0 0) 0 [] :=
    ⟨rfl, .inr ⟨w.heap.size, 0, #[], rfl, Nat.le_refl _, World.alloc_heap_new w _, Nat.le_refl _, by simp [maxLen], rfl, rfl⟩⟩
  have hr1 : Rd (w.alloc (.cells #[] 29)) 1 encP (.slice (some ⟨g, off, none⟩) ps.length c) ps := HR.out.ext ((Below.refl _ _).alloc (Nat.le_refl _) _)
  have HO := Lib.hid hown
  have HR1 := Lib.hid hr1
  clear hown hr1
  go_wp2_with (refine wpList_app_ptrs rfl _ _ rfl w.heap.size (.slice (some ⟨w.heap.size, 0, none⟩) 0 0) 0 [] ps HO.out rfl _ _ _ rfl HR1.out hne (by omega) (by simp) ?_; intro v1 W1 hO1 hn1 hq1 _; have HO1 := Lib.hid hO1; have HN1 := Lib.hid hn1; have HQ1 := Lib.hid hq1; clear hO1 hn1 hq1)
  go_returns
  refine ⟨v1, rfl, ⟨?_, ?_⟩, ?_⟩
  · have := HO1.out
    rwa [Nat.zero_add, List.nil_append] at this
  · exact ⟨fun e => absurd e HN1.out, fun e => absurd e hne⟩
  · exact ((Below.refl w.heap.size w).alloc (Nat.le_refl _) _).trans HQ1.out
theorem eql_pm_nil (a : Addr) (w : World) : (binOp .eql 29 (.pointer (some a)) (.pointer none)).run Try.prog w = .ok (.bool false) w := by
  have hp : Try.prog.underlying 29 = some (.pointer 100) := by kernel_rfl
  have h : ∀ d : Nat, (Op.equalIn (d + 1) 29 (.pointer (some a)) (.pointer none)).run Try.prog w = .ok false w := fun d => by
    simp [Op.equalIn, run_underlying hp]
  simp only [binOp]
  simp [Op.equal, Op.maxDepth, h 9999]
/-- What may be handed in: a map, or none for the empty one. -/
def MapV (w : World) (v : Value) (l : List E) : Prop := (∃ b, v = .pointer (some ⟨b, 0, none⟩) ∧ MapL w b l) ∨ (v = .pointer none ∧ l = [])
theorem MapV.ext {w w' : World} {v : Value} {l : List E} (h : MapV w v l) (hb : Below w.heap.size w w') : MapV w' v l := h.imp (fun ⟨b, h1, h2⟩ => ⟨b, h1, h2.ext hb⟩) id
theorem whole_any (v : Value) (l : List E) (w : World) (h : MapV w v l) : Calls Try.prog 37 #[v] w fun e w' => ∃ b, e = .returned (.pointer (some ⟨b, 0, none⟩)) ∧ MapL w' b l ∧ Below w.heap.size w w' ∧ (v = .pointer (some ⟨b, 0, none⟩) ∨ (l = [] ∧ w.heap.size ≤ b ∧ Holds w' b ((Tr.nil : Tr 8).mapCells 0))) := by
  rcases h with ⟨b, rfl, hm⟩ | ⟨rfl, rfl⟩
  · have HM := Lib.hid hm
    clear hm
    go_enter Try.func37, Try.ntmps37
    go_wp2
    go_returns
    exact ⟨b, rfl, HM.out, Below.refl _ _, .inl rfl⟩
  · go_enter Try.func37, Try.ntmps37
    go_wp2_with (go_at_call 41; refine (empty_any _).mono ?_; rintro e w1 ⟨rfl, h1, h2, _⟩)
    go_returns
    exact ⟨w.heap.size, rfl, ⟨Tr.nil, ⟨h1, trivial⟩, rfl⟩, h2, .inr ⟨by trivial, Nat.le_refl _, h1⟩⟩
theorem new_any (v : Value) (l : List E) (w : World) (h : MapV w v l) (hl : l.length ≤ 200) : Calls Try.prog 9 #[v] w fun e w' => ∃ b, e = .returned (.pointer (some ⟨b, 0, none⟩)) ∧ HistL w' b [l] 0 ∧ w.heap.size ≤ b ∧ Below w.heap.size w w' := by
  have HW := Lib.hid (whole_any v l w h)
  clear h
  go_enter Try.func9, Try.ntmps9
  go_wp2_with (go_at_call 37; refine HW.out.mono ?_; rintro e w1 ⟨b, rfl, h1, h2, _⟩)
  go_returns
  have e0 := Below.refl w1.heap.size w1
  have e1 := e0.alloc (Nat.le_refl _) (.cells #[.pointer (some ⟨b, 0, none⟩)] 29)
  have e2 := e1.alloc (by simp) (.cells #[.slice (some ⟨w1.heap.size, 0, none⟩) 1 1, .int .i64 0] 83)
  refine ⟨w1.heap.size + 1, rfl, ⟨[(b, l)], ⟨⟨some ⟨w1.heap.size, 0, none⟩, 1, ?_, ?_, Nat.le_refl _⟩, ?_, ?_, Nat.one_pos, by simp⟩, rfl⟩, by have := h2.size; omega, h2.trans (e2.mono h2.size)⟩
  · have := Holds.alloc (w1.alloc (.cells #[.pointer (some ⟨b, 0, none⟩)] 29)) (hCells (.slice (some ⟨w1.heap.size, 0, none⟩) 1 1) 0) 83
    rw [World.size_alloc] at this
    exact this
  · refine ⟨_, _, rfl, .inr ⟨w1.heap.size, 0, rfl, by simp; omega, fun i x j u hi hj => ?_⟩⟩
    have hh : Holds ((w1.alloc (.cells #[.pointer (some ⟨b, 0, none⟩)] 29)).alloc (.cells #[.slice (some ⟨w1.heap.size, 0, none⟩) 1 1, .int .i64 0] 83)) w1.heap.size [.pointer (some ⟨b, 0, none⟩)] :=
      (Holds.alloc w1 [.pointer (some ⟨b, 0, none⟩)] 29).ext ((Below.refl _ _).alloc (Nat.le_refl _) _)
    match i, hi with
    | 0, hi =>
      cases hi
      match j, hj with
      | 0, hj =>
        cases hj
        exact hh.cell (i := 0) rfl
      | j + 1, hj => simp [encP] at hj
    | i + 1, hi => simp at hi
  · intro p hp
    rw [List.mem_singleton] at hp
    subst hp
    exact h1.ext e2
  · intro p hp
    rw [List.mem_singleton] at hp
    subst hp
    exact hl
set_option maxRecDepth 100000 in
theorem now_any (b : Nat) (vs : List (List E)) (i : Nat) (w : World) (h : HistL w b vs i) : Calls Try.prog 12 #[.pointer (some ⟨b, 0, none⟩)] w fun e w' => ∃ c l, e = .returned (.pointer (some ⟨c, 0, none⟩)) ∧ vs[i]? = some l ∧ MapL w' c l ∧ Below w.heap.size w w' := by
  obtain ⟨ps, hp, rfl⟩ := h
  obtain ⟨a, c, h1, h2, h3⟩ := hp.cells
  have hi := hp.lt
  have e1 : ps[i]? = some ps[i] := List.getElem?_eq_getElem hi
  have hm := hp.maps ps[i] (List.getElem_mem hi)
  have hv : (ps.map (·.2))[i]? = some ps[i].2 := by rw [List.getElem?_map, e1]; rfl
  generalize ps[i] = p at e1 hm hv
  obtain ⟨a', c', hs, hnil | ⟨g, off, rfl, hg, hc⟩⟩ := h2
  · subst hnil; simp at hi
  simp only [Value.slice.injEq, true_and] at hs
  obtain ⟨rfl, rfl⟩ := hs
  have k0 := h1.cell (i := 0) rfl
  have k1 := h1.cell (i := 1) rfl
  have k2 := hc i p 0 _ e1 rfl
  simp only [Nat.mul_one, Nat.add_zero] at k2
  have HM := Lib.hid hm
  have HV := Lib.hid hv
  clear h1 hm hc hp e1 hv
  go_enter Try.func12, Try.ntmps12
  go_wp2
  refine rgn [0, 1, 2, 3, 4, 5, 6, 7, 8, 9, 10] [] (by kernel_rfl) ?_
  simp only [pickL, List.getD_cons_zero, List.getD_cons_succ]
  go_wp2
  refine ⟨rfl, ?_⟩
  go_wp2
  go_returns
  exact ⟨p.1, p.2, rfl, HV.out, HM.out.ext (Below.refl _ _).drew, (Below.refl _ _).drew⟩
set_option maxRecDepth 100000 in
theorem depth_any (b : Nat) (vs : List (List E)) (i : Nat) (w : World) (h : HistL w b vs i) : Calls Try.prog 13 #[.pointer (some ⟨b, 0, none⟩)] w fun e w' => e = .returned (.tuple #[.int .i64 (i : Nat), .int .i64 ((vs.length - 1 - i : Nat) : Int)]) ∧ Below w.heap.size w w' := by
  obtain ⟨ps, hp, rfl⟩ := h
  obtain ⟨a, c, h1, h2, h3⟩ := hp.cells
  have hi := hp.lt
  have hl := hp.len
  have k0 := h1.cell (i := 0) rfl
  have k1 := h1.cell (i := 1) rfl
  have hd : ((ps.length - 1 - i : Nat) : Int) = (ps.length : Int) - 1 - (i : Int) := by omega
  rw [List.length_map, hd]
  clear h1 h2 hp hd
  go_enter Try.func13, Try.ntmps13
  go_wp2
  refine rgn [0, 1, 2, 3, 4, 5, 6, 7, 8, 9, 10, 11, 12, 13, 14, 15, 16] [8, 9, 14] (by kernel_rfl) ?_
  simp only [pickL, List.getD_cons_zero, List.getD_cons_succ]
  go_wp2
  refine ⟨by simp [chkD, dyn, Region.wanted, yielded, Act.eval, scalarV], ?_⟩
  go_wp2
  go_returns
  exact ⟨rfl, (Below.refl _ _).drew⟩
end Go.Proofs.Ytmhhejpokgdjoaa
namespace Go.Proofs.Ytmhhejpokgdjoaa
open Go Go.RowKit
set_option linter.unusedVariables false
set_option linter.unusedSimpArgs false

theorem HistP.setAt {w : World} {b i j : Nat} {ps : List (Nat × List E)} (h : HistP w b ps i) (hj : j < ps.length) : HistP (w.setCell ⟨b, 1, none⟩ (.int .i64 (j : Nat))) b ps j ∧ Only b w (w.setCell ⟨b, 1, none⟩ (.int .i64 (j : Nat))) := by
  obtain ⟨a, c, h1, h2, h3⟩ := h.cells
  have ho : Only b w (w.setCell ⟨b, 1, none⟩ (.int .i64 (j : Nat))) := Only.of_upd (Upd.setCell _)
  refine ⟨⟨⟨a, c, ?_, ho.rd h2 (rd_off h1 h2), h3⟩, fun p hp => (h.maps p hp).only h1 ho, h.small, hj, h.len⟩, ho⟩
  have := h1.setCell (i := 1) (.int .i64 (j : Nat))
  exact this
theorem own_fits {α : Type} {w : World} {base : Nat} {ty : TypeId} {s : Nat} {enc : α → List Value} {v : Value} {l : List α} (h : Own w base ty s enc v l) : ∃ a c, v = .slice a l.length c ∧ l.length ≤ c := by
  rcases h.row.2 with ⟨h1, h0⟩ | ⟨g, cap, cur, h1, _, _, hn, _⟩
  · exact ⟨none, 0, by rw [h1, h0], by omega⟩
  · exact ⟨_, _, h1, hn⟩
theorem row_shape {w : World} {base : Nat} {ty : TypeId} {s n : Nat} {v : Value} {xs : List Value} (h : w.ownsRow base ty s v n xs) : ∃ a c, v = .slice a n c := by
  rcases h.2 with ⟨h1, h0⟩ | ⟨g, cap, cur, h1, _⟩
  · exact ⟨none, 0, by rw [h1, h0]⟩
  · exact ⟨_, _, h1⟩
/-- Another list of versions is laid. -/
theorem hist_put {W : World} {b base j n c : Nat} {a : Option Addr} {i : Int} {v' : Value} {qs : List (Nat × List E)} (hh : Holds W b (hCells (.slice a n c) i)) (ho : Own W base 29 1 encP v' qs) (hb : b < base)
    (hm : ∀ p ∈ qs, MapL W p.1 p.2) (hs : ∀ p ∈ qs, p.2.length ≤ 200) (hj : j < qs.length) (hl : qs.length ≤ 33) :
    HistP ((W.setCell ⟨b, 0, none⟩ v').setCell ⟨b, 1, none⟩ (.int .i64 (j : Nat))) b qs j ∧ Only b W ((W.setCell ⟨b, 0, none⟩ v').setCell ⟨b, 1, none⟩ (.int .i64 (j : Nat))) := by
  have hu : Only b W ((W.setCell ⟨b, 0, none⟩ v').setCell ⟨b, 1, none⟩ (.int .i64 (j : Nat))) := (Only.of_upd (Upd.setCell _)).trans (Only.of_upd (Upd.setCell _))
  obtain ⟨a', c', rfl, hf⟩ := own_fits ho
  refine ⟨⟨⟨a', c', ?_, (hu.own ho hb).rd encP_len, hf⟩, fun p hp => (hm p hp).only hh hu, hs, hj, hl⟩, hu⟩
  exact (hh.setCell (i := 0) (.slice a' qs.length c')).setCell (i := 1) (.int .i64 (j : Nat))
set_option maxRecDepth 100000 in
theorem step_to (b : Nat) (vs : List (List E)) (i j : Nat) (by_ nn : Int) (w : World) (h : HistL w b vs i) (hj : j < vs.length) (hb : (i : Int) + by_ = (j : Nat)) :
    Calls Try.prog 44 #[.pointer (some ⟨b, 0, none⟩), .int .i64 by_, .int .i64 nn] w fun e w' => ∃ c l, e = .returned (.tuple #[.pointer (some ⟨c, 0, none⟩), .int .i64 0]) ∧ vs[j]? = some l ∧ MapL w' c l ∧ HistL w' b vs j ∧ Only b w w' := by
  obtain ⟨ps, hp, rfl⟩ := h
  rw [List.length_map] at hj
  obtain ⟨a, c, h1, h2, h3⟩ := hp.cells
  have hl := hp.len
  have hset := hp.setAt hj
  have hno := Lib.hid (now_any b (ps.map (·.2)) j _ ⟨ps, hset.1, rfl⟩)
  have k0 := h1.cell (i := 0) rfl
  have k1 := h1.cell (i := 1) rfl
  have kf := h1.free 1
  have HS := Lib.hid hset
  have d1 : decide ((j : Int) < 0) = false := by simp
  have d3 : decide (ps.length ≤ j) = false := by simp; omega
  clear h1 h2 hp hset
  go_enter Try.func44, Try.ntmps44
  go_wp2_with fail
  refine hno.out.mono ?_
  rintro e w1 ⟨x, l, rfl, hx, hm, hb1⟩
  go_wp2
  go_returns
  exact ⟨x, l, rfl, hx, hm, ⟨ps, HS.out.1.ext hb1, rfl⟩, HS.out.2.trans (Only.of_below hb1)⟩
set_option maxRecDepth 100000 in
theorem step_no (b : Nat) (vs : List (List E)) (i : Nat) (by_ nn : Int) (w : World) (h : HistL w b vs i) (hb : (i : Int) + by_ < 0 ∨ (vs.length : Int) ≤ (i : Int) + by_) (hr : -100 ≤ by_ ∧ by_ ≤ 100) :
    Calls Try.prog 44 #[.pointer (some ⟨b, 0, none⟩), .int .i64 by_, .int .i64 nn] w fun e w' => e = .returned (.tuple #[.pointer none, .int .i64 nn]) ∧ Below w.heap.size w w' := by
  obtain ⟨ps, hp, rfl⟩ := h
  rw [List.length_map] at hb
  obtain ⟨a, c, h1, h2, h3⟩ := hp.cells
  have hl := hp.len
  have hi := hp.lt
  have k0 := h1.cell (i := 0) rfl
  have k1 := h1.cell (i := 1) rfl
  clear h1 h2 hp
  by_cases hn : (i : Int) + by_ < 0
  · have d1 : decide ((i : Int) + by_ < 0) = true := by simpa using hn
    clear hb
    go_enter Try.func44, Try.ntmps44
    go_wp2
    go_returns
    exact ⟨rfl, Below.refl _ _⟩
  · obtain ⟨m, hm⟩ : ∃ m : Nat, (i : Int) + by_ = m := ⟨((i : Int) + by_).toNat, by omega⟩
    have d1 : decide ((m : Int) < 0) = false := by simp
    have d2 : decide (ps.length ≤ m) = true := by simp; omega
    have d3 : ps.length ≤ m := by omega
    clear hb hn
    go_enter Try.func44, Try.ntmps44
    go_wp2
    go_returns
    exact ⟨rfl, Below.refl _ _⟩
theorem undo_to (b : Nat) (vs : List (List E)) (i : Nat) (w : World) (h : HistL w b vs (i + 1)) :
    Calls Try.prog 18 #[.pointer (some ⟨b, 0, none⟩)] w fun e w' => ∃ c l, e = .returned (.tuple #[.pointer (some ⟨c, 0, none⟩), .int .i64 0]) ∧ vs[i]? = some l ∧ MapL w' c l ∧ HistL w' b vs i ∧ Only b w w' := by
  have hs := Lib.hid (step_to b vs (i + 1) i (-1) 111 w h (by have := h.facts.1; omega) (by omega))
  clear h
  go_enter Try.func18, Try.ntmps18
  go_wp2_with (go_at_call 44; refine hs.out.mono ?_; rintro e w1 ⟨c, l, rfl, h1, h2, h3, h4⟩)
  go_returns
  exact ⟨c, l, rfl, h1, h2, h3, h4⟩
theorem undo_no (b : Nat) (vs : List (List E)) (w : World) (h : HistL w b vs 0) :
    Calls Try.prog 18 #[.pointer (some ⟨b, 0, none⟩)] w fun e w' => e = .returned (.tuple #[.pointer none, .int .i64 111]) ∧ Below w.heap.size w w' := by
  have hs := Lib.hid (step_no b vs 0 (-1) 111 w h (.inl (by decide)) (by decide))
  clear h
  go_enter Try.func18, Try.ntmps18
  go_wp2_with (go_at_call 44; refine hs.out.mono ?_; rintro e w1 ⟨rfl, h4⟩)
  go_returns
  exact ⟨rfl, h4⟩
theorem redo_to (b : Nat) (vs : List (List E)) (i : Nat) (w : World) (h : HistL w b vs i) (hi : i + 1 < vs.length) :
    Calls Try.prog 19 #[.pointer (some ⟨b, 0, none⟩)] w fun e w' => ∃ c l, e = .returned (.tuple #[.pointer (some ⟨c, 0, none⟩), .int .i64 0]) ∧ vs[i + 1]? = some l ∧ MapL w' c l ∧ HistL w' b vs (i + 1) ∧ Only b w w' := by
  have hs := Lib.hid (step_to b vs i (i + 1) 1 112 w h hi (by omega))
  clear h
  go_enter Try.func19, Try.ntmps19
  go_wp2_with (go_at_call 44; refine hs.out.mono ?_; rintro e w1 ⟨c, l, rfl, h1, h2, h3, h4⟩)
  go_returns
  exact ⟨c, l, rfl, h1, h2, h3, h4⟩
theorem redo_no (b : Nat) (vs : List (List E)) (i : Nat) (w : World) (h : HistL w b vs i) (hi : vs.length ≤ i + 1) :
    Calls Try.prog 19 #[.pointer (some ⟨b, 0, none⟩)] w fun e w' => e = .returned (.tuple #[.pointer none, .int .i64 112]) ∧ Below w.heap.size w w' := by
  have hs := Lib.hid (step_no b vs i 1 112 w h (.inr (by omega)) (by decide))
  clear h
  go_enter Try.func19, Try.ntmps19
  go_wp2_with (go_at_call 44; refine hs.out.mono ?_; rintro e w1 ⟨rfl, h4⟩)
  go_returns
  exact ⟨rfl, h4⟩
/-- The history h, as a pair. -/
def HistS (w : World) (b : Nat) (h : HS) : Prop := HistL w b h.1 h.2
theorem undo_s (b : Nat) (h : HS) (w : World) (hh : HistS w b h) : Calls Try.prog 18 #[.pointer (some ⟨b, 0, none⟩)] w fun e w' => (∃ v, e = .returned v) ∧ HistS w' b (undoH h) ∧ Only b w w' := by
  obtain ⟨vs, i⟩ := h
  cases i with
  | zero =>
    refine (undo_no b vs w hh).mono ?_
    rintro e w' ⟨rfl, hb⟩
    exact ⟨⟨_, rfl⟩, HistL.ext hh hb, Only.of_below hb⟩
  | succ i =>
    refine (undo_to b vs i w hh).mono ?_
    rintro e w' ⟨c, l, rfl, _, _, h3, h4⟩
    exact ⟨⟨_, rfl⟩, h3, h4⟩
theorem redo_s (b : Nat) (h : HS) (w : World) (hh : HistS w b h) : Calls Try.prog 19 #[.pointer (some ⟨b, 0, none⟩)] w fun e w' => (∃ v, e = .returned v) ∧ HistS w' b (redoH h) ∧ Only b w w' := by
  obtain ⟨vs, i⟩ := h
  unfold redoH
  dsimp only
  by_cases hi : i + 1 < vs.length
  · rw [if_pos hi]
    refine (redo_to b vs i w hh hi).mono ?_
    rintro e w' ⟨c, l, rfl, _, _, h3, h4⟩
    exact ⟨⟨_, rfl⟩, h3, h4⟩
  · rw [if_neg hi]
    refine (redo_no b vs i w hh (by omega)).mono ?_
    rintro e w' ⟨rfl, hb⟩
    exact ⟨⟨_, rfl⟩, HistL.ext hh hb, Only.of_below hb⟩
set_option maxRecDepth 100000 in
theorem forget_no (b : Nat) (vs : List (List E)) (i : Nat) (n : Int) (w : World) (h : HistL w b vs i) (hn : n < 0 ∨ (i : Int) < n) :
    Calls Try.prog 21 #[.pointer (some ⟨b, 0, none⟩), .int .i64 n] w fun e w' => e = .returned (.int .i64 113) ∧ Below w.heap.size w w' := by
  obtain ⟨ps, hp, rfl⟩ := h
  obtain ⟨a, c, h1, h2, h3⟩ := hp.cells
  have k1 := h1.cell (i := 1) rfl
  clear h1 h2 hp
  by_cases h0 : n < 0
  · have d1 : decide (n < 0) = true := by simpa using h0
    go_enter Try.func21, Try.ntmps21
    go_wp2
    go_returns
    exact ⟨rfl, Below.refl _ _⟩
  · have d1 : decide (n < 0) = false := by simpa using h0
    have h4 : (i : Int) < n := by omega
    have d2 : decide ((i : Int) < n) = true := by simpa using h4
    go_enter Try.func21, Try.ntmps21
    go_wp2
    go_returns
    exact ⟨rfl, Below.refl _ _⟩
set_option maxRecDepth 100000 in
theorem forget_to (b : Nat) (vs : List (List E)) (i m : Nat) (w : World) (h : HistL w b vs i) (hm : m ≤ i) :
    Calls Try.prog 21 #[.pointer (some ⟨b, 0, none⟩), .int .i64 (m : Nat)] w fun e w' => e = .returned (.int .i64 0) ∧ HistL w' b (vs.drop m) (i - m) ∧ Only b w w' := by
  obtain ⟨ps, hp, rfl⟩ := h
  have HP := Lib.hid hp
  obtain ⟨a, c, h1, h2, h3⟩ := hp.cells
  have hi := hp.lt
  have hl := hp.len
  have hd := rd_drop h2 m (by omega) h3
  rw [if_neg (by omega : ¬ c = m)] at hd
  obtain ⟨a', c', hs, hnil | ⟨g, off, rfl, hg, hc⟩⟩ := h2
  · subst hnil; simp at hi
  simp only [Value.slice.injEq, true_and] at hs
  obtain ⟨rfl, rfl⟩ := hs
  have hadd : Option.map (fun x : Addr => x.add (m * 1)) (some ⟨g, off, none⟩) = some ⟨g, off + m, none⟩ := by
    simp only [Option.map_some, Addr.add, Nat.mul_one]
    by_cases h0 : m = 0 <;> simp [h0]
  rw [hadd] at hd
  have k0 := h1.cell (i := 0) rfl
  have k1 := h1.cell (i := 1) rfl
  have hcl := Lib.hid (clone_any _ (ps.drop m) w hd (by intro e; have := congrArg List.length e; rw [List.length_drop] at this; simp at this; omega) (by simp; omega))
  have H1 := Lib.hid h1
  have d1 : decide ((m : Int) < 0) = false := by simp
  have d2 : decide ((i : Int) < (m : Int)) = false := by simp; omega
  have d3 : decide (i < m) = false := by simp; omega
  have hcm : ¬ c = m := by omega
  clear hp hd h1 hc
  go_enter Try.func21, Try.ntmps21
  go_wp2_with fail
  refine hcl.out.mono ?_
  rintro e w1 ⟨v', rfl, ho, hb1⟩
  have hh := H1.out.ext hb1
  have q0 := hh.cell (i := 0) rfl
  have q1 := hh.cell (i := 1) rfl
  have qf := hh.free 0
  have qf1 := hh.free 1
  have hsub : ((i - m : Nat) : Int) = (i : Int) - (m : Int) := by omega
  have hput := hist_put (j := i - m) hh ho (Nat.lt_of_lt_of_le H1.out.lt (Nat.le_refl _)) (fun p hp => (HP.out.maps p (List.mem_of_mem_drop hp)).ext hb1) (fun p hp => HP.out.small p (List.mem_of_mem_drop hp)) (by simp; omega) (by simp; omega)
  rw [hsub] at hput
  obtain ⟨z1, z2, hv', hz⟩ := own_fits ho
  subst hv'
  rw [List.length_drop] at hput
  have PUT := Lib.hid hput
  have HB1 := Lib.hid hb1
  clear hput hsub hh ho hb1 k0 k1 hcl
  go_wp2
  go_returns
  exact ⟨rfl, ⟨ps.drop m, PUT.out.1, by rw [List.map_drop]⟩, (Only.of_below HB1.out).trans PUT.out.2⟩
theorem forget_s (b : Nat) (h : HS) (n : Int) (w : World) (hh : HistS w b h) : Calls Try.prog 21 #[.pointer (some ⟨b, 0, none⟩), .int .i64 n] w fun e w' => e = .returned (.int .i64 (if n < 0 ∨ (h.2 : Int) < n then 113 else 0)) ∧ HistS w' b (forgetH h n) ∧ Only b w w' := by
  obtain ⟨vs, i⟩ := h
  unfold forgetH
  dsimp only
  by_cases hn : n < 0 ∨ (i : Int) < n
  · rw [if_pos hn, if_pos hn]
    refine (forget_no b vs i n w hh hn).mono ?_
    rintro e w' ⟨rfl, hb⟩
    exact ⟨rfl, HistL.ext hh hb, Only.of_below hb⟩
  · rw [if_neg hn, if_neg hn]
    obtain ⟨m, rfl⟩ : ∃ m : Nat, n = m := ⟨n.toNat, by omega⟩
    rw [Int.toNat_natCast]
    refine (forget_to b vs i m w hh (by omega)).mono ?_
    rintro e w' ⟨rfl, h1, h2⟩
    exact ⟨rfl, h1, h2⟩
theorem push_full (b : Nat) (vs : List (List E)) (i : Nat) (v : Value) (w : World) (h : HistL w b vs i) (hi : 32 ≤ i) :
    Calls Try.prog 14 #[.pointer (some ⟨b, 0, none⟩), v] w fun e w' => e = .returned (.int .i64 110) ∧ Below w.heap.size w w' := by
  obtain ⟨ps, hp, rfl⟩ := h
  obtain ⟨a, c, h1, h2, h3⟩ := hp.cells
  have k1 := h1.cell (i := 1) rfl
  have d1 : decide ((32 : Int) ≤ (i : Int)) = true := by simp; omega
  have d2 : decide (32 ≤ i) = true := by simpa using hi
  clear h1 h2 hp
  go_enter Try.func14, Try.ntmps14
  go_wp2
  go_returns
  exact ⟨rfl, Below.refl _ _⟩
set_option maxRecDepth 100000 in
set_option maxHeartbeats 800000 in
theorem push_to (b : Nat) (vs : List (List E)) (i : Nat) (v : Value) (l : List E) (w : World) (h : HistL w b vs i) (hi : i < 32) (hv : MapV w v l) (hl : l.length ≤ 200) :
    Calls Try.prog 14 #[.pointer (some ⟨b, 0, none⟩), v] w fun e w' => e = .returned (.int .i64 0) ∧ HistL w' b (vs.take (i + 1) ++ [l]) (i + 1) ∧ Only b w w' := by
  obtain ⟨ps, hp, rfl⟩ := h
  have HP := Lib.hid hp
  obtain ⟨a, c, h1, h2, h3⟩ := hp.cells
  have hil := hp.lt
  have hpl := hp.len
  have ht := rd_take h2 (i + 1) (by omega) c
  obtain ⟨a', c', hs, hnil | ⟨g, off, rfl, hg, hc⟩⟩ := h2
  · subst hnil; simp at hil
  simp only [Value.slice.injEq, true_and] at hs
  obtain ⟨rfl, rfl⟩ := hs
  have k0 := h1.cell (i := 0) rfl
  have k1 := h1.cell (i := 1) rfl
  have htl : (ps.take (i + 1)).length = i + 1 := by simp; omega
  have hcl := Lib.hid (clone_any _ (ps.take (i + 1)) w.drew (ht.ext (Below.refl _ _).drew) (by intro e; rw [e] at htl; simp at htl) (by omega))
  have H1 := Lib.hid h1
  have HV := Lib.hid hv
  have d1 : decide ((32 : Int) ≤ (i : Int)) = false := by simp; omega
  have d2 : decide (32 ≤ i) = false := by simp; omega
  clear hp ht h1 hc hv
  go_enter Try.func14, Try.ntmps14
  go_wp2
  refine rgn [0, 1, 2, 3, 4, 5, 6, 7, 8, 9, 10, 12, 11, 13, 14, 15, 16, 17, 18] [9] (ord_fast (by kernel_rfl)) ?_
  simp only [pickL, List.getD_cons_zero, List.getD_cons_succ]
  go_wp2_with fail
  refine hcl.out.mono ?_
  rintro e w1 ⟨v1, rfl, ho1, hb1⟩
  have HO1 := Lib.hid ho1
  have B1 := Lib.hid (below_of_drew hb1)
  have hwh := Lib.hid (whole_any v l w1 (HV.out.ext B1.out))
  clear ho1 hb1 hcl
  go_wp2_with fail
  refine hwh.out.mono ?_
  rintro e w2 ⟨b', rfl, hm2, hb2, hwv⟩
  have HWV := Lib.hid hwv
  clear hwv
  have hal : Below w2.heap.size w2 (w2.alloc (.cells #[.pointer (some ⟨b', 0, none⟩)] 29)) := (Below.refl _ _).alloc (Nat.le_refl _) _
  have HOW := Lib.hid ((HO1.out.below hb2).below hal)
  have B2 := Lib.hid (B1.out.trans ((hb2.trans (hal.mono hb2.size)).mono B1.out.size))
  have hbl : Holds (w2.alloc (.cells #[.pointer (some ⟨b', 0, none⟩)] 29)) w2.heap.size [.pointer (some ⟨b', 0, none⟩)] := Holds.alloc w2 [.pointer (some ⟨b', 0, none⟩)] _
  have hrd : Rd (w2.alloc (.cells #[.pointer (some ⟨b', 0, none⟩)] 29)) 1 encP (.slice (some ⟨w2.heap.size, 0, none⟩) 1 1) [(b', l)] := by
    refine ⟨_, _, rfl, .inr ⟨w2.heap.size, 0, rfl, by simp, fun i x j u hi hj => ?_⟩⟩
    match i, hi with
    | 0, hi =>
      cases hi
      match j, hj with
      | 0, hj =>
        cases hj
        exact hbl.cell (i := 0) rfl
      | j + 1, hj => simp [encP] at hj
    | i + 1, hi => simp at hi
  have HRD := Lib.hid hrd
  have HM2 := Lib.hid (hm2.ext hal)
  have HAL := Lib.hid hal
  have hle := B2.out.size
  have HLE := Lib.hid hle
  have fin : ∀ W, Below w.heap.size (w2.alloc (.cells #[.pointer (some ⟨b', 0, none⟩)] 29)) W → Holds W b (hCells (.slice (some ⟨g, off, none⟩) ps.length c) (i : Nat)) := fun W hW => H1.out.ext (B2.out.trans hW)
  have FIN := Lib.hid fin
  clear hal hb2 hbl hrd hm2 hwh B1 fin k0 k1 hle
  have hrow := HOW.out.row
  rw [htl] at hrow
  obtain ⟨y3, y4, hv1⟩ := row_shape hrow
  subst hv1
  have HROW := Lib.hid hrow
  clear hrow
  go_wp2_with (refine wpList_app_ptrs rfl _ _ rfl w.heap.size _ _ _ [(b', l)] HROW.out rfl _ _ _ rfl HRD.out (by simp) (by show i + 1 + 1 ≤ 1000000; omega) HLE.out ?_; intro v3 W3 ho3 hn3 hq3 hg3; obtain ⟨y1, y2, hv3⟩ := row_shape ho3; subst hv3; have HO3 := Lib.hid ho3; have HN3 := Lib.hid hn3; have HQ3 := Lib.hid hq3; have HG3 := Lib.hid hg3; have q0 := (FIN.out W3 hq3).cell (i := 0) rfl; have q1 := (FIN.out W3 hq3).cell (i := 1) rfl; have qf := (FIN.out W3 hq3).free 0; have qf1 := (FIN.out W3 hq3).free 1; clear ho3 hn3 hq3 hg3)
  refine ⟨rfl, ?_⟩
  have hmap : MapL W3 b' l := by
    rcases HWV.out with ⟨hvb⟩ | ⟨rfl, hge, hhb⟩
    · rcases HV.out with ⟨b0, hv0, hm0⟩ | ⟨hv0, _⟩
      · rw [hvb] at hv0
        cases hv0
        exact hm0.ext (B2.out.trans HQ3.out)
      · rw [hvb] at hv0
        cases hv0
    · refine ⟨Tr.nil, ⟨?_, trivial⟩, rfl⟩
      have h0 := hhb.ext HAL.out
      obtain ⟨ty, h1⟩ := h0
      refine ⟨ty, (HG3.out.block b' ?_ ?_).trans h1⟩
      · exact (Array.getElem?_eq_some_iff.1 h1).1
      · intro e
        have := (HO1.out.row.lt b' e.symm).2
        omega
  have hps : ∀ p ∈ ps.take (i + 1) ++ [(b', l)], MapL W3 p.1 p.2 := by
    intro p hp
    rcases List.mem_append.1 hp with h | h
    · exact (HP.out.maps p (List.mem_of_mem_take h)).ext (B2.out.trans HQ3.out)
    · rw [List.mem_singleton] at h
      subst h
      exact hmap
  have hsm : ∀ p ∈ ps.take (i + 1) ++ [(b', l)], p.2.length ≤ 200 := by
    intro p hp
    rcases List.mem_append.1 hp with h | h
    · exact HP.out.small p (List.mem_of_mem_take h)
    · rw [List.mem_singleton] at h
      subst h
      exact hl
  have hlq : (ps.take (i + 1) ++ [(b', l)]).length = i + 1 + 1 := by rw [List.length_append, htl]; rfl
  have hown : Own W3 w.heap.size 29 1 encP (.slice y1 (i + 1 + 1) y2) (ps.take (i + 1) ++ [(b', l)]) := by
    refine ⟨?_, ?_⟩
    · rw [hlq, List.flatMap_append]
      exact HO3.out
    · exact ⟨fun e => absurd e HN3.out, fun e => by have := congrArg List.length e; rw [hlq] at this; simp at this⟩
  have hput := hist_put (j := i + 1) (FIN.out W3 HQ3.out) hown H1.out.lt hps hsm (by rw [hlq]; omega) (by rw [hlq]; omega)
  have PUT := Lib.hid hput
  have HB3 := Lib.hid (B2.out.trans HQ3.out)
  clear hmap hps hsm hlq hown hput HROW HOW HRD HM2 HO3 HN3 HG3 HWV HAL HV HO1
  go_wp2
  go_returns
  exact ⟨rfl, ⟨_, PUT.out.1, by rw [List.map_append, List.map_take]; rfl⟩, (Only.of_below HB3.out).trans PUT.out.2⟩
end Go.Proofs.Ytmhhejpokgdjoaa
namespace Go.Proofs.Ytmhhejpokgdjoaa
open Go Go.RowKit
set_option linter.unusedVariables false
set_option linter.unusedSimpArgs false
attribute [local go_sem] Oper.semAt_some

theorem push_s (b : Nat) (h : HS) (v : Value) (l : List E) (w : World) (hh : HistS w b h) (hv : MapV w v l) (hl : l.length ≤ 200) :
    Calls Try.prog 14 #[.pointer (some ⟨b, 0, none⟩), v] w fun e w' => e = .returned (.int .i64 (if 32 ≤ h.2 then 110 else 0)) ∧ HistS w' b (pushH h l) ∧ Only b w w' := by
  obtain ⟨vs, i⟩ := h
  unfold pushH
  dsimp only
  by_cases hi : 32 ≤ i
  · rw [if_pos hi, if_pos hi]
    refine (push_full b vs i v w hh hi).mono ?_
    rintro e w' ⟨rfl, hb⟩
    exact ⟨rfl, HistL.ext hh hb, Only.of_below hb⟩
  · rw [if_neg hi, if_neg hi]
    refine (push_to b vs i v l w hh (by omega) hv hl).mono ?_
    rintro e w' ⟨rfl, h1, h2⟩
    exact ⟨rfl, h1, h2⟩
set_option maxRecDepth 100000 in
theorem hclone_any (b : Nat) (vs : List (List E)) (i : Nat) (w : World) (h : HistL w b vs i) :
    Calls Try.prog 22 #[.pointer (some ⟨b, 0, none⟩)] w fun e w' => ∃ c, e = .returned (.pointer (some ⟨c, 0, none⟩)) ∧ HistL w' c vs i ∧ w.heap.size ≤ c ∧ Below w.heap.size w w' := by
  obtain ⟨ps, hp, rfl⟩ := h
  have HP := Lib.hid hp
  obtain ⟨a, c, h1, h2, h3⟩ := hp.cells
  have hil := hp.lt
  have hpl := hp.len
  have k0 := h1.cell (i := 0) rfl
  have k1 := h1.cell (i := 1) rfl
  have hcl := Lib.hid (clone_any _ ps w.drew (h2.ext (Below.refl _ _).drew) (by intro e; rw [e] at hil; simp at hil) (by omega))
  have H1 := Lib.hid h1
  clear hp h1 h2
  go_enter Try.func22, Try.ntmps22
  go_wp2
  refine rgnH [[0, 1, 2, 3, 5, 6, 7, 8, 4], [9, 10], [11]] [] [8] [⟨b, 1, none⟩] (ord_fast (by kernel_rfl)) (by simp) ?_ ?_
  · intro p hp
    simp only [List.mem_singleton] at hp
    subst hp
    rw [k1]; rfl
  unfold seg
  simp only [pickL, List.getD_cons_zero, List.getD_cons_succ]
  go_wp2_with fail
  refine hcl.out.mono ?_
  rintro e w1 ⟨v1, rfl, ho1, hb1⟩
  obtain ⟨y1, y2, rfl, hf⟩ := own_fits ho1
  have hb1' := below_of_drew hb1
  have hal : Below w1.heap.size w1 (w1.alloc (.cells #[.slice y1 ps.length y2, .int .i64 (i : Nat)] 83)) := (Below.refl _ _).alloc (Nat.le_refl _) _
  have hb2 := hb1'.trans (hal.mono hb1'.size)
  have SM : ∀ W, Below w.heap.size w W → SameAt [⟨b, 1, none⟩] w W := by
    intro W hW p hp
    simp only [List.mem_singleton] at hp
    subst hp
    rw [k1, (H1.out.ext hW).cell (i := 1) rfl]
  have HC : Hid (HistP (w1.alloc (.cells #[.slice y1 ps.length y2, .int .i64 (i : Nat)] 83)) w1.heap.size ps i) := Lib.hid
    ⟨⟨y1, y2, Holds.alloc w1 (hCells (.slice y1 ps.length y2) (i : Nat)) _, (ho1.below hal).rd encP_len, hf⟩, fun p hp => (HP.out.maps p hp).ext hb2, HP.out.small, hil, hpl⟩
  have B1 := Lib.hid hb1'
  have B2 := Lib.hid hb2
  clear ho1 hb1 hb1' hal hb2 hcl
  go_wp2
  refine ⟨SM _ B1.out, ?_⟩
  unfold seg
  simp only [pickL, List.getD_cons_zero, List.getD_cons_succ]
  go_wp2
  refine ⟨SM _ B2.out, ?_⟩
  unfold seg
  simp only [pickL, List.getD_cons_zero, List.getD_cons_succ]
  go_wp2
  refine ⟨SM _ B2.out, rfl, ⟨.inl rfl, trivial⟩, ?_⟩
  go_wp2
  go_returns
  exact ⟨_, rfl, ⟨ps, HC.out, rfl⟩, B1.out.size, B2.out⟩
theorem rd_at {w : World} {g o n c k : Nat} {ps : List (Nat × List E)} {p : Nat × List E} (h : Rd w 1 encP (.slice (some ⟨g, o, none⟩) n c) ps) (hk : ps[k]? = some p) : w.cell? ⟨g, o + k, none⟩ = some (.pointer (some ⟨p.1, 0, none⟩)) := by
  obtain ⟨a', c', hs, hnil | ⟨g', o', he, hg, hc⟩⟩ := h
  · subst hnil; simp at hk
  · simp only [Value.slice.injEq] at hs
    obtain ⟨rfl, _, _⟩ := hs
    cases he
    have := hc k p 0 _ hk rfl
    simpa using this
theorem rd_some {w : World} {a : Option Addr} {n c : Nat} {ps : List (Nat × List E)} (h : Rd w 1 encP (.slice a n c) ps) (hne : ps ≠ []) : ∃ g o, a = some ⟨g, o, none⟩ := by
  obtain ⟨a', c', hs, hnil | ⟨g', o', he, hg, hc⟩⟩ := h
  · exact absurd hnil hne
  · simp only [Value.slice.injEq] at hs
    exact ⟨g', o', hs.1.trans he⟩
def stepsV (b : Nat) : Value := .func (.func 50) #[.pointer (some ⟨b, 0, none⟩)] #[]
theorem steps_make (b : Nat) (w : World) : Calls Try.prog 30 #[.pointer (some ⟨b, 0, none⟩)] w fun e w' => e = .returned (stepsV b) ∧ w' = w := by
  go_enter Try.func30, Try.ntmps30
  go_wp2
  go_returns
  exact ⟨rfl, rfl⟩
/-- The versions with their numbers. -/
def stL : List (Nat × List E) → Int → List (Int × (Nat × List E))
  | [], _ => []
  | p :: ps, n => (n, p) :: stL ps (n + 1)
theorem stL_get : ∀ (ps : List (Nat × List E)) (n : Int) (k : Nat) (p : Nat × List E), ps[k]? = some p → (stL ps n)[k]? = some (n + k, p)
  | [], n, k, p, h => by simp at h
  | q :: ps, n, 0, p, h => by
    simp only [List.getElem?_cons_zero, Option.some.injEq] at h
    subst h
    simp [stL]
  | q :: ps, n, k + 1, p, h => by
    simp only [List.getElem?_cons_succ] at h
    show (stL ps (n + 1))[k]? = _
    rw [stL_get ps (n + 1) k p h]
    congr 2
    push_cast
    omega
theorem stL_len : ∀ (ps : List (Nat × List E)) (n : Int), (stL ps n).length = ps.length
  | [], _ => rfl
  | p :: ps, n => by show (stL ps (n + 1)).length + 1 = _; rw [stL_len ps]; rfl
def encSt (x : Int × (Nat × List E)) : Array Value := #[.int .i64 x.1, .pointer (some ⟨x.2.1, 0, none⟩)]
set_option maxRecDepth 100000 in
set_option maxHeartbeats 800000 in
theorem steps_gives (b i c : Nat) (a : Option Addr) (ps : List (Nat × List E)) (hi : i < ps.length) (hl : ps.length ≤ 33) :
    Gives Try.prog (stepsV b) encSt (stL ps (-(i : Int))) (fun W => Holds W b (hCells (.slice a ps.length c) (i : Nat)) ∧ Rd W 1 encP (.slice a ps.length c) ps) := by
  intro Y Inv Brk W hg hD hY h0
  refine callV_func (Go.Proofs.enters_of Try.func50 (by kernel_rfl) rfl) ?_
  have h1 := (hD _ _ h0).1
  obtain ⟨g, o, rfl⟩ := rd_some (hD _ _ h0).2 (by intro e; rw [e] at hi; simp at hi)
  have k0 := h1.cell (i := 0) rfl
  show Calls Try.prog 50 #[.pointer (some ⟨b, 0, none⟩), Y] W _
  have I0 := Lib.hid h0
  have HDD := Lib.hid hD
  have HYY := Lib.hid hY
  have HG := Lib.hid hg
  clear h0 hD hY h1 hg
  refine (callsIn_wide (n := 0)).1 (callsIn_of_wp Try.func50 rfl trivial ?_)
  simp only [Try.ntmps50, List.size_toArray, List.length_cons, List.length_nil, Nat.reduceAdd, Nat.reduceSub, Array.replicate_succ, Array.replicate_zero, List.push_toArray, List.append_toArray, List.nil_append, List.cons_append]
  gi_wp2
  gi_loopw [11] (fun k wr => ∃ m : Nat, m ≤ ps.length ∧ k = .int .i64 (m : Int) ∧ Inv ((stL ps (-(i : Int))).take m) wr) (fun k _ => ps.length - (intOf k).toNat)
  case atStart => exact ⟨0, by omega, rfl, I0.out⟩
  case round =>
    obtain ⟨m, hm, rfl, hI⟩ := hrel
    by_cases hml : m < ps.length
    · have e1 : ps[m]? = some ps[m] := List.getElem?_eq_getElem hml
      have hst := stL_get ps (-(i : Int)) m ps[m] e1
      obtain ⟨q1, q2⟩ := HDD.out _ _ hI
      have c1 := q1.cell (i := 1) rfl
      have c2 := rd_at q2 e1
      generalize ps[m] = p at e1 hst c2
      have hlt : m < (stL ps (-(i : Int))).length := by rw [stL_len]; exact hml
      have htk : (stL ps (-(i : Int))).take (m + 1) = (stL ps (-(i : Int))).take m ++ [(-(i : Int) + m, p)] := by
        rw [List.take_succ_eq_append_getElem hlt]
        congr 2
        rw [List.getElem?_eq_getElem hlt] at hst
        exact Option.some.inj hst
      have hspl : stL ps (-(i : Int)) = (stL ps (-(i : Int))).take m ++ (-(i : Int) + m, p) :: (stL ps (-(i : Int))).drop (m + 1) := by
        rw [← List.singleton_append, ← List.append_assoc, ← htk, List.take_append_drop]
      have hyc := HYY.out _ _ _ hspl _ hI
      rw [← htk, show -(i : Int) + (m : Int) = (m : Int) - (i : Int) by omega] at hyc
      rw [show -(i : Int) + (m : Int) = (m : Int) - (i : Int) by omega] at hspl htk
      have hd : decide ((m : Int) < (ps.length : Int)) = true := by simp; omega
      have HYC := Lib.hid hyc
      have HSP := Lib.hid hspl
      have HTK := Lib.hid htk
      clear hyc hspl htk hst e1 hI q1 q2 hlt
      gi_wp2_with (refine wpListIn_callV (open_wide _) rfl _ _ _ rfl (vs := encSt ((m : Int) - (i : Int), p)) rfl (by simp [encSt, Act.eval]) ?_; refine HYC.out.mono ?_; rintro e W' hor; rcases hor with ⟨rfl, hi'⟩ | ⟨rfl, hbk⟩)
      · go_roundw
        case rel => exact ⟨m + 1, by omega, by go_num, hi'⟩
        case measure => simp [intOf]; omega
      · refine bodyPost_ret (results_none rfl _ _ _) rfl ?_
        exact ⟨⟨_, rfl⟩, .inr ⟨_, _, _, HSP.out, by rw [← HTK.out]; exact hbk⟩⟩
    · obtain rfl : m = ps.length := by omega
      rw [List.take_of_length_le (by rw [stL_len]; exact Nat.le_refl _)] at hI
      have HI := Lib.hid hI
      have hno : decide ((ps.length : Int) < (ps.length : Int)) = false := by simp
      clear hI
      gi_wp2
      go_end0
      exact ⟨⟨_, rfl⟩, .inl HI.out⟩
end Go.Proofs.Ytmhhejpokgdjoaa
