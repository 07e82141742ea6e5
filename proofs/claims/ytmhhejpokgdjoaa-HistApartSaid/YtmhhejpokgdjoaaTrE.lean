/- The walks of trie.Put and Drop. -/
import Derived.Test.YtmhhejpokgdjoaaTrD
namespace Go.Proofs.Ytmhhejpokgdjoaa
open Go Go.RowKit
set_option linter.unusedVariables false
set_option linter.unusedSimpArgs false

/-- Block b is a map with the tree t and n keys. -/
structure MapAt (w : World) (b : Nat) (t : Tr 8) (n : Nat) : Prop where
  map : Holds w b (t.mapCells n)
  tree : t.at w
theorem MapAt.ext {w w' : World} {b n : Nat} {t : Tr 8} (h : MapAt w b t n) (hb : Below w.heap.size w w') : MapAt w' b t n := ⟨h.map.ext hb, Tr.at_ext hb h.tree⟩
/-- Put: the map as it is, if the value is there; else a new one. -/
def PutMap (b n : Nat) (t : Tr 8) (key : Nat) (v : V) (w : World) (e : Ending) (w' : World) : Prop :=
  Below w.heap.size w w' ∧
  if t.get key = some v then e = .returned (.pointer (some ⟨b, 0, none⟩))
  else ∃ b' B, w.heap.size ≤ B ∧ w.heap.size ≤ b' ∧ e = .returned (.pointer (some ⟨b', 0, none⟩)) ∧ MapAt w' b' (t.put B key v) (if (t.get key).isSome then n else n + 1)
set_option maxRecDepth 100000 in
set_option maxHeartbeats 800000 in
theorem put_any (b n key : Nat) (t : Tr 8) (v : V) (w : World) (h : MapAt w b t n) (hn : n ≤ 4294967296) (hk : key < 4294967296) :
    Calls Try.prog 23 #[.pointer (some ⟨b, 0, none⟩), .int .u32 key, .agg #[.int .i64 v.k, .int .i64 v.n]] w (PutMap b n t key v w) := by
  have hlt := h.map.lt
  have h0 := h.map.cell (i := 0) rfl
  have h1 := h.map.cell (i := 1) rfl
  cases hgk : t.get key with
  | none =>
    have HGK := Lib.hid hgk
    go_enter Try.func23, Try.ntmps23
    go_wp2_with fail
    refine (get_any b n key t _ (h.map.ext ((Below.refl _ _).alloc (Nat.le_refl _) _)) (Tr.at_ext ((Below.refl _ _).alloc (Nat.le_refl _) _) h.tree) hk).mono ?_
    rintro e w' ⟨rfl, hb⟩
    have hbox := (Holds.alloc w (vCells v) 50).ext hb
    have hb0 : Below w.heap.size w w' := ((Below.refl _ _).alloc (Nat.le_refl _) _).trans (hb.mono (by simp))
    go_wp2
    refine cutW (fun W => Below w.heap.size w W ∧ Holds W w.heap.size (vCells v)) ⟨?_, hbox.ext ((Below.refl _ _).alloc (Nat.le_refl _) _)⟩ ?_
    · (repeat' (first | (with_reducible exact Below.refl _ _) | (with_reducible assumption) | (with_reducible refine below_drewN ?_ _) | (with_reducible refine Below.drew ?_) | (with_reducible refine Below.alloc ?_ ?_ _) | (with_reducible refine Below.setCell ?_ ?_ _) | (with_reducible exact Below.size (by assumption)) | go_size))
    rintro W ⟨hB, hv⟩
    clear hbox hb hb0 h0 h1
    have hv0 := hv.cell (i := 0) rfl
    have hv1 := hv.cell (i := 1) rfl
    have hlt0 := hv.lt
    have hM := h.ext hB
    have h0 := hM.map.cell (i := 0) rfl
    have h1 := hM.map.cell (i := 1) rfl
    have hltW := hM.map.lt
    refine rgnH [[0, 1, 2, 3, 4, 5, 7, 8, 9, 10, 6], [11, 12], [13]] [] [10] [⟨b, 1, none⟩] (by kernel_rfl) (by simp) ?_ ?_
    · intro p hp
      simp only [List.mem_singleton] at hp
      subst hp
      rw [h1]; rfl
    unfold seg
    simp only [pickL, List.getD_cons_zero, List.getD_cons_succ]
    go_wp2_with fail
    refine (with_any 7 t 0 key v _ (by omega) (by omega) (Tr.at_ext hB.drew h.tree) hk).mono ?_
    intro e w2 hp
    obtain ⟨he, hat, hb2, hs2⟩ := hp
    have hxp : (t.put W.drew.heap.size key v).ptr = .pointer ((t.put W.drew.heap.size key v).blk.map fun b => ⟨b, 0, none⟩) := rfl
    rw [hxp] at he
    have hb3 : Below W.heap.size W w2 := below_of_drew hb2
    subst he
    go_wp2
    refine ⟨?_, ?_⟩
    · intro p hp
      simp only [List.mem_singleton] at hp
      subst hp
      exact hb3.cell hltW
    unfold seg
    simp only [pickL, List.getD_cons_zero, List.getD_cons_succ]
    go_wp2
    refine ⟨?_, ?_⟩
    · intro p hp
      simp only [List.mem_singleton] at hp
      subst hp
      exact (((Below.refl _ _).alloc (Nat.le_refl _) _).cell (by have := hb3.size; simp at this ⊢; omega)).trans (hb3.cell hltW)
    unfold seg
    simp only [pickL, List.getD_cons_zero, List.getD_cons_succ]
    go_wp2
    refine ⟨?_, rfl, ⟨.inl rfl, trivial⟩, ?_⟩
    · intro p hp
      simp only [List.mem_singleton] at hp
      subst hp
      exact (((Below.refl _ _).alloc (Nat.le_refl _) _).cell (by have := hb3.size; simp at this ⊢; omega)).trans (hb3.cell hltW)
    go_wp2
    go_returns
    refine ⟨?_, ?_⟩
    · (repeat' (first | (with_reducible exact Below.refl _ _) | (with_reducible assumption) | (with_reducible refine below_drewN ?_ _) | (with_reducible refine Below.drew ?_) | (with_reducible refine Below.alloc ?_ ?_ _) | (with_reducible refine Below.setCell ?_ ?_ _) | (with_reducible exact Below.size (by assumption)) | go_size))
      exact hB.trans (hb3.mono hB.size)
      exact Nat.le_trans hB.size hb3.size
    rw [if_neg (by rw [HGK.out]; simp)]
    refine ⟨w2.heap.size, W.heap.size, hB.size, Nat.le_trans hB.size hb3.size, by rw [hs2]; rfl, ?_, ?_⟩
    · rw [HGK.out]
      exact Holds.alloc w2 [_, _] _
    · exact Tr.at_ext ((Below.refl _ _).alloc (Nat.le_refl _) _) hat
  | some u =>
    have HGK := Lib.hid hgk
    by_cases huv : u = v
    · subst huv
      go_enter Try.func23, Try.ntmps23
      go_wp2_with fail
      refine (get_any b n key t _ (h.map.ext ((Below.refl _ _).alloc (Nat.le_refl _) _)) (Tr.at_ext ((Below.refl _ _).alloc (Nat.le_refl _) _) h.tree) hk).mono ?_
      rintro e w' ⟨rfl, hb⟩
      rw [hgk, show gv (some u) = u from rfl]
      have hbox := (Holds.alloc w (vCells u) 50).ext hb
      have hv0 := hbox.cell (i := 0) rfl
      have hv1 := hbox.cell (i := 1) rfl
      have hlt0 := hbox.lt
      have hb0 : Below w.heap.size w w' := ((Below.refl _ _).alloc (Nat.le_refl _) _).trans (hb.mono (by simp))
      go_wp2
      go_returns
      refine ⟨?_, by rw [if_pos HGK.out]; rfl⟩
      (repeat' (first | (with_reducible exact Below.refl _ _) | (with_reducible assumption) | (with_reducible refine below_drewN ?_ _) | (with_reducible refine Below.drew ?_) | (with_reducible refine Below.alloc ?_ ?_ _) | (with_reducible refine Below.setCell ?_ ?_ _) | (with_reducible exact Below.size (by assumption)) | go_size))
    · have hne : ∀ (x : Bool), (u.k == v.k) = true → (u.n == v.n) = x → x = false := fun x h1 h2 => by
        cases x
        · rfl
        · exact absurd (by cases u; cases v; simp_all) huv
      have HNE := Lib.hid hne
      clear hne
      have hcase : ∀ (bk : Bool), (u.k == v.k) = bk → ∀ bn, (u.n == v.n) = bn → (bk = true → bn = false) → Calls Try.prog 23 #[.pointer (some ⟨b, 0, none⟩), .int .u32 key, .agg #[.int .i64 v.k, .int .i64 v.n]] w (PutMap b n t key v w) := by
        intro bk hbk bn hbn himp
        have HI := Lib.hid himp
        clear himp
        cases bk
        all_goals first
          | (obtain rfl := HI.out rfl)
          | skip
        all_goals
          go_enter Try.func23, Try.ntmps23
          go_wp2_with fail
          refine (get_any b n key t _ (h.map.ext ((Below.refl _ _).alloc (Nat.le_refl _) _)) (Tr.at_ext ((Below.refl _ _).alloc (Nat.le_refl _) _) h.tree) hk).mono ?_
          rintro e w' ⟨rfl, hb⟩
          have hbox := (Holds.alloc w (vCells v) 50).ext hb
          have hb0 : Below w.heap.size w w' := ((Below.refl _ _).alloc (Nat.le_refl _) _).trans (hb.mono (by simp))
          rw [hgk, show gv (some u) = u from rfl]
          have hx0 := hbox.cell (i := 0) rfl
          have hx1 := hbox.cell (i := 1) rfl
          have hxl := hbox.lt
          go_wp2
          clear hx0 hx1 hxl
          refine cutW (fun W => Below w.heap.size w W ∧ Holds W w.heap.size (vCells v)) ⟨?_, hbox.ext ((Below.refl _ _).alloc (Nat.le_refl _) _)⟩ ?_
          · (repeat' (first | (with_reducible exact Below.refl _ _) | (with_reducible assumption) | (with_reducible refine below_drewN ?_ _) | (with_reducible refine Below.drew ?_) | (with_reducible refine Below.alloc ?_ ?_ _) | (with_reducible refine Below.setCell ?_ ?_ _) | (with_reducible exact Below.size (by assumption)) | go_size))
          rintro W ⟨hB, hv⟩
          clear hbox hb hb0 h0 h1
          have hv0 := hv.cell (i := 0) rfl
          have hv1 := hv.cell (i := 1) rfl
          have hlt0 := hv.lt
          have hM := h.ext hB
          have h0 := hM.map.cell (i := 0) rfl
          have h1 := hM.map.cell (i := 1) rfl
          have hltW := hM.map.lt
          refine rgnH [[0, 1, 2, 3, 4, 5, 7, 8, 9, 10, 6], [11, 12], [13]] [] [10] [⟨b, 1, none⟩] (by kernel_rfl) (by simp) ?_ ?_
          · intro p hp
            simp only [List.mem_singleton] at hp
            subst hp
            rw [h1]; rfl
          unfold seg
          simp only [pickL, List.getD_cons_zero, List.getD_cons_succ]
          go_wp2_with fail
          refine (with_any 7 t 0 key v _ (by omega) (by omega) (Tr.at_ext hB.drew h.tree) hk).mono ?_
          intro e w2 hp
          obtain ⟨he, hat, hb2, hs2⟩ := hp
          have hxp : (t.put W.drew.heap.size key v).ptr = .pointer ((t.put W.drew.heap.size key v).blk.map fun b => ⟨b, 0, none⟩) := rfl
          rw [hxp] at he
          have hb3 : Below W.heap.size W w2 := below_of_drew hb2
          subst he
          go_wp2
          refine ⟨?_, ?_⟩
          · intro p hp
            simp only [List.mem_singleton] at hp
            subst hp
            exact hb3.cell hltW
          unfold seg
          simp only [pickL, List.getD_cons_zero, List.getD_cons_succ]
          go_wp2
          refine ⟨?_, ?_⟩
          · intro p hp
            simp only [List.mem_singleton] at hp
            subst hp
            exact (((Below.refl _ _).alloc (Nat.le_refl _) _).cell (by have := hb3.size; simp at this ⊢; omega)).trans (hb3.cell hltW)
          unfold seg
          simp only [pickL, List.getD_cons_zero, List.getD_cons_succ]
          go_wp2
          refine ⟨?_, rfl, ⟨.inl rfl, trivial⟩, ?_⟩
          · intro p hp
            simp only [List.mem_singleton] at hp
            subst hp
            exact (((Below.refl _ _).alloc (Nat.le_refl _) _).cell (by have := hb3.size; simp at this ⊢; omega)).trans (hb3.cell hltW)
          go_wp2
          go_returns
          refine ⟨?_, ?_⟩
          · (repeat' (first | (with_reducible exact Below.refl _ _) | (with_reducible assumption) | (with_reducible refine below_drewN ?_ _) | (with_reducible refine Below.drew ?_) | (with_reducible refine Below.alloc ?_ ?_ _) | (with_reducible refine Below.setCell ?_ ?_ _) | (with_reducible exact Below.size (by assumption)) | go_size))
            exact hB.trans (hb3.mono hB.size)
            exact Nat.le_trans hB.size hb3.size
          rw [if_neg (by rw [HGK.out]; simp [huv])]
          refine ⟨w2.heap.size, W.heap.size, hB.size, Nat.le_trans hB.size hb3.size, by rw [hs2]; rfl, ?_, ?_⟩
          · rw [HGK.out]
            exact Holds.alloc w2 [_, _] _
          · exact Tr.at_ext ((Below.refl _ _).alloc (Nat.le_refl _) _) hat

      exact hcase _ rfl _ rfl (fun h => HNE.out _ h rfl)
end Go.Proofs.Ytmhhejpokgdjoaa
