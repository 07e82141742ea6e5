/- Histories and maps that are new from a block on; a history leaves alone what is no cells. -/
import Derived.Test.YtmhhejpokgdjoaaKh
namespace Go.Proofs.Ytmhhejpokgdjoaa
open Go Go.RowKit
set_option linter.unusedVariables false
set_option linter.unusedSimpArgs false

/-- What A holds in cells B holds too. -/
def Keep (A B : World) : Prop := ∀ (k : Nat) (o : Obj), A.heap[k]? = some o → o.isCells = true → B.heap[k]? = some o
theorem Keep.holds {A B : World} {b : Nat} {cs : List Value} (h : Keep A B) (hh : Holds A b cs) : Holds B b cs := by
  obtain ⟨ty, h1⟩ := hh
  exact ⟨ty, h b _ h1 rfl⟩
theorem Keep.cell {A B : World} {a : Addr} {v : Value} (h : Keep A B) (hc : A.cell? a = some v) : B.cell? a = some v := by
  obtain ⟨o, ho, hic⟩ := cells_of_cell hc
  have := h a.block o ho hic
  rw [← hc]
  exact World.cell?_of_block (this.trans ho.symm)
theorem Keep.rd {α : Type} {A B : World} {s : Nat} {enc : α → List Value} {v : Value} {l : List α} (h : Keep A B) (hz : A.heap.size ≤ B.heap.size) (hr : Rd A s enc v l) : Rd B s enc v l := by
  obtain ⟨a, cap, hv, hr⟩ := hr
  refine ⟨a, cap, hv, hr.imp id ?_⟩
  rintro ⟨g, off, ha, hlt, hc⟩
  exact ⟨g, off, ha, Nat.lt_of_lt_of_le hlt hz, fun i x j u h1 h2 => h.cell (hc i x j u h1 h2)⟩
theorem Keep.tree {A B : World} (h : Keep A B) : ∀ {d : Nat} {t : Tr d}, t.at A → t.at B
  | 0, none, _ => trivial
  | 0, some (g, v), ht => h.holds ht
  | d + 1, none, _ => trivial
  | d + 1, some (g, f), ht => ⟨h.holds ht.1, fun i => h.tree (ht.2 i)⟩
theorem Keep.map {A B : World} {b : Nat} {l : List E} (h : Keep A B) (hm : MapL A b l) : MapL B b l := by
  obtain ⟨t, h1, h2⟩ := hm
  exact ⟨t, ⟨h.holds h1.map, h.tree h1.tree⟩, h2⟩
theorem Keep.hist {A B : World} {b : Nat} {vs : List (List E)} {i : Nat} (h : Keep A B) (hz : A.heap.size ≤ B.heap.size) (hh : HistL A b vs i) : HistL B b vs i := by
  obtain ⟨ps, hp, hv⟩ := hh
  obtain ⟨a, c, h1, h2, h3⟩ := hp.cells
  exact ⟨ps, ⟨⟨a, c, h.holds h1, h.rd hz h2, h3⟩, fun p hp2 => h.map (hp.maps p hp2), hp.small, hp.lt, hp.len⟩, hv⟩
/-- The map stands in blocks from base on. -/
def MapB (base : Nat) (w : World) (b : Nat) (l : List E) : Prop := ∃ t : Tr 8, MapAt w b t l.length ∧ t.ents 0 = l ∧ t.all (base ≤ ·) ∧ base ≤ b
theorem MapB.ext {base : Nat} {w w' : World} {b : Nat} {l : List E} (h : MapB base w b l) (hb : Below w.heap.size w w') : MapB base w' b l := by
  obtain ⟨t, h1, h2⟩ := h
  exact ⟨t, h1.ext hb, h2⟩
theorem MapB.l {base : Nat} {w : World} {b : Nat} {l : List E} (h : MapB base w b l) : MapL w b l := by
  obtain ⟨t, h1, h2, _⟩ := h
  exact ⟨t, h1, h2⟩
/-- It stands wherever those blocks do. -/
theorem MapB.move {base : Nat} {w w' : World} {b : Nat} {l : List E} (h : MapB base w b l) (hs : ∀ k, base ≤ k → k < w.heap.size → w'.heap[k]? = w.heap[k]?) : MapL w' b l := by
  obtain ⟨t, h1, h2, h3, h4⟩ := h
  have hh : ∀ {g : Nat} {cs : List Value}, Holds w g cs → base ≤ g → Holds w' g cs := fun hh hg => by
    have hl := hh.lt
    obtain ⟨ty, h1⟩ := hh
    exact ⟨ty, (hs _ hg hl).trans h1⟩
  have ht : ∀ {d : Nat} {t : Tr d}, t.at w → t.all (base ≤ ·) → t.at w' := by
    intro d
    induction d with
    | zero =>
      intro t ht hq
      match t, ht, hq with
      | none, _, _ => trivial
      | some (g, v), ht, hq => exact hh ht hq
    | succ d ih =>
      intro t ht hq
      match t, ht, hq with
      | none, _, _ => trivial
      | some (g, f), ht, hq => exact ⟨hh ht.1 hq.1, fun i => ih (ht.2 i) (hq.2 i)⟩
  exact ⟨t, ⟨hh h1.map h4, ht h1.tree h3⟩, h2⟩
theorem put_b (base b key : Nat) (l : List E) (v : V) (w : World) (h : MapB base w b l) (hbase : base ≤ w.heap.size) (hn : l.length ≤ 1000000) (hk : key < 4294967296) :
    Calls Try.prog 23 #[.pointer (some ⟨b, 0, none⟩), .int .u32 key, .agg #[.int .i64 v.k, .int .i64 v.n]] w fun e w' =>
      ∃ b', e = .returned (.pointer (some ⟨b', 0, none⟩)) ∧ MapB base w' b' (laidL key v false l) ∧ Below w.heap.size w w' := by
  obtain ⟨t, h1, rfl, h3, h4⟩ := h
  have hs : Srt (t.ents 0) := Tr.srt t 0
  refine (put_any b _ key t v w h1 (by omega) hk).mono ?_
  rintro e w' ⟨hb, h⟩
  split at h
  · rename_i hg
    rw [← look_ents t key hk] at hg
    exact ⟨b, h, ⟨t, by rw [laid_same hs hg]; exact h1.ext hb, (laid_same hs hg).symm, h3, h4⟩, hb⟩
  · obtain ⟨b', B, hB, hb', he, hm⟩ := h
    refine ⟨b', he, ⟨_, ?_, ents_put t B key v hk, Tr.put_all h3 (fun k hk => by omega), by omega⟩, hb⟩
    have hl := laid_len key v false hs
    rw [look_ents t key hk] at hl
    rw [show (laidL key v false (t.ents 0)).length = if (t.get key).isSome then (t.ents 0).length else (t.ents 0).length + 1 by split <;> simp_all <;> omega]
    exact hm
set_option maxRecDepth 100000 in
set_option maxHeartbeats 800000 in
theorem build_b (v : Value) (l : List E) (w : World) (h : RdF w v l) (hid : ∀ x ∈ l, x.1 < 4294967296) :
    Calls Try.prog 15 #[v] w fun e w' => ∃ b, e = .returned (.pointer (some ⟨b, 0, none⟩)) ∧ MapB w.heap.size w' b (buildL l) ∧ Below w.heap.size w w' := by
  obtain ⟨a, c, rfl, hc, hr⟩ := h
  have HR := Lib.hid hr
  have HID := Lib.hid hid
  have hp := fun W (hW : Below w.heap.size w W) => part_any a c l W (hr.ext hW) hc
  have HP := Lib.hid hp
  have e1 := fun b W => eql_pm_nil ⟨b, 0, none⟩ W
  clear hr hid hp
  go_enter Try.func15, Try.ntmps15
  go_wp2_with fail
  refine (empty_any w).mono ?_
  rintro e w1 ⟨rfl, hm, hb1, _⟩
  have M1 : Hid (MapB w.heap.size w1 w.heap.size []) := Lib.hid ⟨Tr.nil, ⟨hm, trivial⟩, rfl, trivial, Nat.le_refl _⟩
  have B1 := Lib.hid hb1
  clear hm hb1
  go_wp2_with fail
  refine (HP.out w1 B1.out).mono ?_
  rintro e w1' ⟨rfl, hw⟩
  subst hw
  obtain ⟨N, hN⟩ : ∃ N, N = min l.length 200 := ⟨_, rfl⟩
  have hN1 : N ≤ l.length := by omega
  have hN2 : N ≤ 200 := by omega
  have HN := Lib.hid hN
  rw [← hN]
  clear hN HP
  go_wp2
  go_loopw [3, 4] (fun m i wr => ∃ (k bm : Nat), i = .int .i64 (k : Int) ∧ k ≤ N ∧ m = .pointer (some ⟨bm, 0, none⟩) ∧ MapB w.heap.size wr bm (buildK l k) ∧ Below w.heap.size w wr) (fun _ i _ => N - (intOf i).toNat)
  case atStart => exact ⟨0, _, rfl, by omega, rfl, M1.out, B1.out⟩
  case round =>
    obtain ⟨k, bm, rfl, hk, rfl, hm, hB⟩ := hrel
    by_cases hkn : k < N
    · have hkl : k < l.length := by omega
      have e2 : l[k]? = some l[k] := List.getElem?_eq_getElem hkl
      have hx := HID.out l[k] (List.getElem_mem hkl)
      have hsucc := buildK_succ e2
      obtain ⟨a', c', hs, hnil | ⟨g, o, rfl, hg, hcl⟩⟩ := HR.out
      · subst hnil; simp at hkl
      simp only [Value.slice.injEq, true_and] at hs
      obtain ⟨rfl, rfl⟩ := hs
      generalize l[k] = x at e2 hx hsucc
      obtain ⟨xi, ⟨xk, xn⟩⟩ := x
      have f0 := (hB.cell (p := ⟨g, _, none⟩) hg).trans (hcl k _ 0 _ e2 rfl)
      have f1 := (hB.cell (p := ⟨g, _, none⟩) hg).trans (hcl k _ 1 _ e2 rfl)
      have f2 := (hB.cell (p := ⟨g, _, none⟩) hg).trans (hcl k _ 2 _ e2 rfl)
      simp only [Nat.add_zero] at f0
      have hc := put_b w.heap.size bm xi (buildK l k) ⟨xk, xn⟩ wr.drew (hm.ext (Below.refl _ _).drew) hB.size (by have := buildK_len l k; omega) hx
      have HC := Lib.hid hc
      have HS := Lib.hid hsucc
      have HB := Lib.hid hB
      clear hcl e2 hc hsucc hB hm
      go_wp2
      refine rgn [0, 1, 2, 3, 4, 5, 6, 7, 8, 9, 10, 11, 12] [] (by kernel_rfl) ?_
      simp only [pickL, List.getD_cons_zero, List.getD_cons_succ]
      go_wp2_with fail
      refine HC.out.mono ?_
      rintro e w3 ⟨b', rfl, hm', hb3⟩
      have M3 := Lib.hid hm'
      have G3 := Lib.hid (HB.out.trans ((below_of_drew hb3).mono HB.out.size))
      clear hm' hb3 HC HB
      go_wp2
      refine ⟨rfl, ?_⟩
      go_wp2
      go_roundw
      case rel => exact ⟨k + 1, b', by go_num, by omega, rfl, by rw [HS.out]; exact M3.out, G3.out⟩
      case measure => simp [intOf]; omega
    · have hno : decide ((k : Int) < (N : Int)) = false := by simp; omega
      have hkN : k = N := by omega
      have HB := Lib.hid hB
      have hm2 : MapB w.heap.size wr bm (buildL l) := by rw [← buildK_min, ← HN.out, ← hkN]; exact hm
      have M3 := Lib.hid hm2
      clear hB hm hm2
      go_wp2
      go_returns
      exact ⟨bm, rfl, M3.out, HB.out⟩
theorem whole_some (m : Nat) (w : World) : Calls Try.prog 37 #[.pointer (some ⟨m, 0, none⟩)] w fun e w' => e = .returned (.pointer (some ⟨m, 0, none⟩)) ∧ w' = w := by
  go_enter Try.func37, Try.ntmps37
  go_wp2
  go_returns
  exact ⟨rfl, rfl⟩
theorem new_b (base m : Nat) (l : List E) (w : World) (h : MapB base w m l) (hbase : base ≤ w.heap.size) (hl : l.length ≤ 200) : Calls Try.prog 9 #[.pointer (some ⟨m, 0, none⟩)] w fun e w' => ∃ b, e = .returned (.pointer (some ⟨b, 0, none⟩)) ∧ w.heap.size ≤ b ∧ b < w'.heap.size ∧ Below w.heap.size w w' ∧
    ∀ W : World, (∀ k, base ≤ k → k < w'.heap.size → W.heap[k]? = w'.heap[k]?) → w'.heap.size ≤ W.heap.size → HistL W b [l] 0 := by
  have HM := Lib.hid h
  clear h
  go_enter Try.func9, Try.ntmps9
  go_wp2_with (go_at_call 37; refine (whole_some m w).mono ?_; rintro e w1 ⟨rfl, hw⟩; subst hw)
  go_returns
  have e0 := Below.refl w1.heap.size w1
  have e1 := e0.alloc (Nat.le_refl _) (.cells #[.pointer (some ⟨m, 0, none⟩)] 29)
  have e2 := e1.alloc (by simp) (.cells #[.slice (some ⟨w1.heap.size, 0, none⟩) 1 1, .int .i64 0] 83)
  have hh0 := Holds.alloc (w1.alloc (.cells #[.pointer (some ⟨m, 0, none⟩)] 29)) (hCells (.slice (some ⟨w1.heap.size, 0, none⟩) 1 1) 0) 83
  rw [World.size_alloc] at hh0
  have hp0 : Holds ((w1.alloc (.cells #[.pointer (some ⟨m, 0, none⟩)] 29)).alloc (.cells #[.slice (some ⟨w1.heap.size, 0, none⟩) 1 1, .int .i64 0] 83)) w1.heap.size [.pointer (some ⟨m, 0, none⟩)] :=
    (Holds.alloc w1 [.pointer (some ⟨m, 0, none⟩)] 29).ext ((Below.refl _ _).alloc (Nat.le_refl _) _)
  refine ⟨w1.heap.size + 1, rfl, by omega, by simp, e2, fun W hs hz => ?_⟩
  have mv : ∀ {g : Nat} {cs : List Value}, Holds ((w1.alloc (.cells #[.pointer (some ⟨m, 0, none⟩)] 29)).alloc (.cells #[.slice (some ⟨w1.heap.size, 0, none⟩) 1 1, .int .i64 0] 83)) g cs → base ≤ g → Holds W g cs := fun hh hg => by
    have hl := hh.lt
    obtain ⟨ty, h1⟩ := hh
    exact ⟨ty, (hs _ hg hl).trans h1⟩
  have q1 := mv hh0 (by omega)
  have q2 := mv hp0 hbase
  refine ⟨[(m, l)], ⟨⟨some ⟨w1.heap.size, 0, none⟩, 1, q1, ?_, Nat.le_refl _⟩, ?_, ?_, Nat.one_pos, by simp⟩, rfl⟩
  · refine ⟨_, _, rfl, .inr ⟨w1.heap.size, 0, rfl, q2.lt, fun i x j u hi hj => ?_⟩⟩
    match i, hi with
    | 0, hi =>
      cases hi
      match j, hj with
      | 0, hj =>
        cases hj
        exact q2.cell (i := 0) rfl
      | j + 1, hj => simp [encP] at hj
    | i + 1, hi => simp at hi
  · intro p hp
    rw [List.mem_singleton] at hp
    subst hp
    exact HM.out.move fun k hk hlt => (hs k hk (by simp; omega)).trans (e2.block k hlt)
  · intro p hp
    rw [List.mem_singleton] at hp
    subst hp
    exact hl
/-- The world without the block of a slice. -/
def offV (v : Value) (W : World) : World := match v.ownBlock with | none => W | some r => W.putObj r (.deferred none)
theorem offV_size (v : Value) (W : World) : (offV v W).heap.size = W.heap.size := by
  unfold offV
  split <;> simp
theorem offV_other {v : Value} {W : World} {k : Nat} (h : v.ownBlock ≠ some k) : (offV v W).heap[k]? = W.heap[k]? := by
  unfold offV
  split
  · rfl
  · rename_i r hr
    exact World.putObj_heap_other (fun e => h (by rw [hr, e]))
theorem offV_cells {v : Value} {W : World} {k : Nat} {o : Obj} (h : (offV v W).heap[k]? = some o) (hc : o.isCells = true) : v.ownBlock ≠ some k := by
  intro e
  unfold offV at h
  rw [e] at h
  dsimp only at h
  rcases Nat.lt_or_ge k W.heap.size with hlt | hge
  · rw [World.putObj_heap_same hlt] at h
    cases h
    cases hc
  · rw [Array.getElem?_eq_none (by simpa using hge)] at h
    cases h
theorem keep_off (v : Value) (W : World) : Keep (offV v W) W := fun k o hk hc => by
  rw [offV_other (offV_cells hk hc)] at hk
  exact hk
/-- What is new does not touch what stands beside the slice. -/
theorem keep_below {v : Value} {W W' : World} (h : Below W.heap.size W W') : Keep (offV v W) (offV v W') := fun k o hk hc => by
  have hne := offV_cells hk hc
  rw [offV_other hne] at hk ⊢
  exact (h.block k (Array.getElem?_eq_some_iff.1 hk).1).trans hk
/-- Nor does the slice's own growth. -/
theorem keep_grew {v v' : Value} {W W' : World} (h : Grew W W' v v') : Keep (offV v W) (offV v' W') := fun k o hk hc => by
  have hne := offV_cells hk hc
  rw [offV_other hne] at hk
  have hlt := (Array.getElem?_eq_some_iff.1 hk).1
  rw [offV_other]
  · exact (h.step.block k hlt (fun e => hne e.symm)).trans hk
  · rcases h.at_ with e | e
    · rw [e]; exact hne
    · rw [e]
      intro e2
      cases e2
      omega
end Go.Proofs.Ytmhhejpokgdjoaa
