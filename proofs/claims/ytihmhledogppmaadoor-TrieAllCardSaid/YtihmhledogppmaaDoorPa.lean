/- The versions of a script, the program's and the document's, beside rows that grow (masked). -/
import Derived.Test.YtihmhledogppmaaDoorRu
import Derived.Test.YtihmhledogppmaaDoorRl
import Derived.Test.YtihmhledogppmaaDoorSt
import Derived.Test.YtihmhledogppmaaDoorMs
namespace Go.Proofs.YtihmhledogppmaaDoor
open Go Go.RowKit
set_option linter.unusedVariables false
set_option linter.unusedSimpArgs false

theorem cell_unmask {S : List Nat} {w : World} {a : Addr} {v : Value} (h : (mask S w).cell? a = some v) : w.cell? a = some v := by
  by_cases hS : a.block ∈ S
  · exfalso
    simp only [World.cell?, mask_get, if_pos hS] at h
    cases hq : w.heap[a.block]? with
    | none => rw [hq] at h; simp at h
    | some o => rw [hq] at h; simp at h
  · simp only [World.cell?, mask_get, if_neg hS] at h ⊢
    exact h
theorem rd_unmask {α : Type} {S : List Nat} {w : World} {s : Nat} {enc : α → List Value} {v : Value} {l : List α} (h : Rd (mask S w) s enc v l) : Rd w s enc v l := by
  obtain ⟨a, cap, hv, h⟩ := h
  refine ⟨a, cap, hv, h.imp id ?_⟩
  rintro ⟨b, off, ha, hlt, hc⟩
  exact ⟨b, off, ha, by rwa [mask_size] at hlt, fun i x j u h1 h2 => cell_unmask (hc i x j u h1 h2)⟩
theorem RefAt.unmask {S : List Nat} {w : World} {c : Nat} {l : List RE} (h : RefAt (mask S w) c l) : RefAt w c l := by
  obtain ⟨ia, ic, va, vc, sa, sc, h1, h2, h3, h4⟩ := h.cells
  exact ⟨⟨ia, ic, va, vc, sa, sc, (holds_mask h1 (by simp)).1, rd_unmask h2, rd_unmask h3, rd_unmask h4⟩, h.ids⟩
theorem MapT.unmask {S : List Nat} {w : World} {b : Nat} {t : Tr 8} (h : MapT (mask S w) b t) : MapT w b t := ⟨h.map.unmask.1, h.cl⟩
theorem NewR.mask {S : List Nat} {w w' : World} {b b' : Nat} {l l' : List RE} (h : NewR w w' b b' l l') (hr : RefAt (mask S w) b l) (hb : Below w.heap.size w w') (hS : ∀ k ∈ S, k < w.heap.size) : RefAt (mask S w') b' l' := by
  rcases h with ⟨rfl, rfl⟩ | h
  · exact hr.ext (below_mask hb hS)
  · exact h _ fun k hk => mask_out fun hm => by have := hS k hm; omega
theorem put_M (S : List Nat) (b key : Nat) (t : Tr 8) (v : V) (w : World) (h : MapT (mask S w) b t) (hS : ∀ k ∈ S, k < w.heap.size) (hn : (t.ents 0).length ≤ 4294967296) (hk : key < 4294967296) :
    Calls Tryd.prog 26 #[.pointer (some ⟨b, 0, none⟩), .int .u32 key, .agg #[.int .i64 v.k, .int .i64 v.n]] w fun e w' =>
      ∃ b' t', e = .returned (.pointer (some ⟨b', 0, none⟩)) ∧ MapT (mask S w') b' t' ∧ NewT w.heap.size ⟨key, v, false⟩ t t' ∧ Below w.heap.size w w' := by
  have hs := h.l.srt
  obtain ⟨h1, hbS, htS⟩ := h.map.unmask
  refine (put_any b _ key t v w h1 (by omega) hk).mono ?_
  rintro e w' ⟨hb, h'⟩
  split at h'
  · rename_i hg
    exact ⟨b, t, h', h.ext (below_mask hb hS), .inl ⟨rfl, hg⟩, hb⟩
  · rename_i hg
    obtain ⟨b', B, hB, hb', he, hm⟩ := h'
    refine ⟨b', t.put B key v, he, ⟨?_, Tr.cl_put B key v h.cl⟩, .inr (.inr ⟨rfl, hg, B, hB, rfl⟩), hb⟩
    have hl := laid_len key v false hs
    rw [look_ents t key hk] at hl
    rw [ents_put t B key v hk, show (laidL key v false (t.ents 0)).length = if (t.get key).isSome then (t.ents 0).length else (t.ents 0).length + 1 by split <;> simp_all <;> omega]
    exact hm.mask (fun hm => by have := hS b' hm; omega) (Tr.put_all (d := 7) htS fun k hk hm => by have := hS k hm; omega)
theorem drop_M (S : List Nat) (b key : Nat) (t : Tr 8) (v : V) (w : World) (h : MapT (mask S w) b t) (hS : ∀ k ∈ S, k < w.heap.size) (hn : (t.ents 0).length ≤ 4294967296) (hk : key < 4294967296) :
    Calls Tryd.prog 27 #[.pointer (some ⟨b, 0, none⟩), .int .u32 key] w fun e w' =>
      ∃ b' t', e = .returned (.pointer (some ⟨b', 0, none⟩)) ∧ MapT (mask S w') b' t' ∧ NewT w.heap.size ⟨key, v, true⟩ t t' ∧ Below w.heap.size w w' := by
  have hs := h.l.srt
  have hg := look_ents t key hk
  obtain ⟨h1, hbS, htS⟩ := h.map.unmask
  refine (drop_any b _ key t w h1 (by omega) ?_ hk).mono ?_
  · intro hg2
    rw [← hg] at hg2
    obtain ⟨u, hu⟩ := Option.isSome_iff_exists.1 hg2
    have := List.length_pos_of_mem ((look_mem hs).1 hu)
    omega
  rintro e w' ⟨hb, h'⟩
  have hl := laid_len key v true hs
  rw [hg] at hl
  split at h'
  · rename_i hg2
    obtain ⟨b', B, hB, hb', he, hm⟩ := h'
    refine ⟨b', t.drop B key, he, ⟨?_, Tr.cl_drop B key h.cl⟩, .inr (.inl ⟨rfl, hg2, B, hB, rfl⟩), hb⟩
    rw [ents_drop t B key v hk, show (laidL key v true (t.ents 0)).length = (t.ents 0).length - 1 by simp [hg2] at hl; omega]
    exact hm.mask (fun hm => by have := hS b' hm; omega) (Tr.drop_all (d := 7) htS fun k hk hm => by have := hS k hm; omega)
  · rename_i hg2
    have hno : t.get key = none := by simpa using hg2
    exact ⟨b, t, h', h.ext (below_mask hb hS), .inl ⟨rfl, hno⟩, hb⟩
/-- A list that rises below a bound is no longer than the bound. -/
theorem srt_len : ∀ {l : List (Nat × V)} {lo N : Nat}, Srt l → (∀ e ∈ l, lo ≤ e.1 ∧ e.1 < N) → lo ≤ N → l.length ≤ N - lo
  | [], lo, N, _, _, _ => by simp
  | x :: l, lo, N, hs, hk, hlo => by
    have h1 := List.pairwise_cons.1 hs
    have hx := hk x List.mem_cons_self
    have := srt_len (lo := x.1 + 1) (N := N) h1.2 (fun e he => ⟨by have := h1.1 e he; omega, (hk e (List.mem_cons_of_mem _ he)).2⟩) (by omega)
    rw [List.length_cons]
    omega
theorem ents_len (t : Tr 8) : (t.ents 0).length ≤ 4294967296 := by
  have := srt_len (lo := 0) (N := 4294967296) (Tr.srt t 0) (fun e he => ⟨Nat.zero_le _, (mem_ents0.1 he).1⟩) (by omega)
  omega
structure Ver where
  b : Nat
  t : Tr 8
  c : Nat
  l : List RE
structure VerOk (S : List Nat) (w : World) (x : Ver) : Prop where
  map : MapT (mask S w) x.b x.t
  ref : RefAt (mask S w) x.c x.l
  ents : x.t.ents 0 = x.l.map entR
theorem VerOk.ext {S : List Nat} {w W : World} {x : Ver} (h : VerOk S w x) (hb : Below w.heap.size w W) (hS : ∀ k ∈ S, k < w.heap.size) : VerOk S W x := ⟨h.map.ext (below_mask hb hS), h.ref.ext (below_mask hb hS), h.ents⟩
theorem VerOk.srt {S : List Nat} {w : World} {x : Ver} (h : VerOk S w x) : SrtE x.l := by
  rw [← srtE_iff, ← h.ents]
  exact Tr.srt _ _
theorem VerOk.len {S : List Nat} {w : World} {x : Ver} (h : VerOk S w x) : x.l.length ≤ 4294967296 := by
  have := ents_len x.t
  rw [h.ents, List.length_map] at this
  exact this
structure Vers (S : List Nat) (w : World) (vs : List Ver) (at_ : Int) : Prop where
  ok : ∀ x ∈ vs, VerOk S w x
  agree : ∀ x ∈ vs, ∀ y ∈ vs, Agree x.t x.l y.t y.l
  st : ∀ x ∈ vs, ∀ e ∈ x.l, ∀ k, k < 8 → e.s k < at_
theorem Vers.ext {S : List Nat} {w W : World} {vs : List Ver} {a : Int} (h : Vers S w vs a) (hb : Below w.heap.size w W) (hS : ∀ k ∈ S, k < w.heap.size) : Vers S W vs a := ⟨fun x hx => (h.ok x hx).ext hb hS, h.agree, h.st⟩
theorem Vers.later {S : List Nat} {w : World} {vs : List Ver} {a a' : Int} (h : Vers S w vs a) (ha : a ≤ a') : Vers S w vs a' := ⟨h.ok, h.agree, fun x hx e he k hk => Int.lt_of_lt_of_le (h.st x hx e he k hk) ha⟩
/-- One version more, of a change. -/
theorem Vers.join {S : List Nat} {w W : World} {vs : List Ver} {a : Int} {x y : Ver} (h : Vers S w vs a) (hb : Below w.heap.size w W) (hS : ∀ k ∈ S, k < w.heap.size) (hx : x ∈ vs) (hy : VerOk S W y)
    (hc : (y.t = x.t ∧ y.l = x.l) ∨ ∃ id, Chg w.heap.size a id x.t x.l y.t y.l) : Vers S W (vs ++ [y]) (a + 1) := by
  have hw := h.ext hb hS
  have all : ∀ z ∈ vs, z.t.all (· < w.heap.size) := by
    intro z hz
    have := Tr.at_all (h.ok z hz).map.map.tree
    rwa [mask_size] at this
  have ag : ∀ z ∈ vs, Agree y.t y.l z.t z.l := by
    intro z hz
    rcases hc with ⟨h1, h2⟩ | ⟨id, hc⟩
    · rw [h1, h2]; exact h.agree x hx z hz
    · exact hc.agree (h.agree x hx z hz) (h.st z hz) (all z hz)
  have self : Agree y.t y.l y.t y.l := by
    rcases hc with ⟨h1, h2⟩ | ⟨id, hc⟩
    · rw [h1, h2]; exact h.agree x hx x hx
    · exact hc.self (h.agree x hx x hx) (h.st x hx) (all x hx)
  refine ⟨?_, ?_, ?_⟩
  · intro z hz
    rcases List.mem_append.1 hz with hz | hz
    · exact hw.ok z hz
    · rw [List.mem_singleton] at hz; rw [hz]; exact hy
  · intro z hz u hu
    rcases List.mem_append.1 hz with hz | hz <;> rcases List.mem_append.1 hu with hu | hu
    · exact h.agree z hz u hu
    · rw [List.mem_singleton] at hu; rw [hu]; exact (ag z hz).symm
    · rw [List.mem_singleton] at hz; rw [hz]; exact ag u hu
    · rw [List.mem_singleton] at hz hu; rw [hz, hu]; exact self
  · intro z hz
    rcases List.mem_append.1 hz with hz | hz
    · intro e he k hk
      have := h.st z hz e he k hk
      omega
    · rw [List.mem_singleton] at hz
      rw [hz]
      rcases hc with ⟨h1, h2⟩ | ⟨id, hc⟩
      · rw [h2]
        intro e he k hk
        have := h.st x hx e he k hk
        omega
      · exact hc.stamps (h.st x hx)
theorem put_chg {S0 id : Nat} {v : V} {t t' : Tr 8} {l : List RE} {a : Int} (he : t.ents 0 = l.map entR) (hs : SrtE l) (hid : id < 4294967296) (h : NewT S0 ⟨id, v, false⟩ t t') : (t' = t ∧ putR l id v a = l) ∨ ∃ i, Chg S0 a i t l t' (putR l id v a) := by
  have hl : ∀ e ∈ l, e.id < 4294967296 := by
    intro e hm
    have : entR e ∈ t.ents 0 := by rw [he]; exact List.mem_map_of_mem hm
    exact (mem_ents0.1 this).1
  have hsam : samR l id v = decide (t.get id = some v) := by rw [samR_look hs, ← he, look_ents t id hid]
  rcases h with ⟨rfl, hg⟩ | ⟨hx, _⟩ | ⟨_, hg, B, hB, rfl⟩
  · left
    refine ⟨rfl, ?_⟩
    unfold putR
    rw [hsam, if_pos (by simpa using hg)]
  · cases hx
  · right
    exact ⟨id, chg_put hB hid hs hl (by rw [hsam]; simpa using hg)⟩
theorem drop_chg {S0 id : Nat} {v : V} {t t' : Tr 8} {l : List RE} {a : Int} (he : t.ents 0 = l.map entR) (hs : SrtE l) (hid : id < 4294967296) (h : NewT S0 ⟨id, v, true⟩ t t') : (t' = t ∧ dropR l id a = l) ∨ ∃ i, Chg S0 a i t l t' (dropR l id a) := by
  have hl : ∀ e ∈ l, e.id < 4294967296 := by
    intro e hm
    have : entR e ∈ t.ents 0 := by rw [he]; exact List.mem_map_of_mem hm
    exact (mem_ents0.1 this).1
  have hok : okR l id = (t.get id).isSome := by rw [okR_look hs, ← he, look_ents t id hid]
  rcases h with ⟨rfl, hg⟩ | ⟨_, hg, B, hB, rfl⟩ | ⟨hx, _⟩
  · left
    refine ⟨rfl, ?_⟩
    unfold dropR
    rw [hok, if_neg]
    simp only [if_true] at hg
    rw [hg]
    simp
  · right
    refine ⟨id, chg_drop hB hid hl (by rw [hok]; exact hg) ?_⟩
    intro e hm
    have h1 : entR e ∈ (Tr.drop (d := 7) t B id).ents 0 := by
      rw [ents_drop t B id v hid, he, ← dropR_ents hs id v a]
      exact List.mem_map_of_mem hm
    rw [show e.id = (entR e).1 from rfl, (mem_ents0.1 h1).2]
    simp
  · cases hx
end Go.Proofs.YtihmhledogppmaaDoor
