/- The walks of levylaw11.keyList and what it hands to the iterator. · The walks of hist.version, levylaw11.place, in. · The walks of levylaw11.place, in, value. · The walk of what hist.Touched hands out: a range over trie.Diff inside it. · hist.Touched as an iterator, levylaw11.keys: the keys that differ. · The walk of levylaw11.keys; the plain law of what is touched. · The plain law of HistTouched. -/
import Derived.Test.YtmhhejpokgdjoaaKaX
import Derived.Test.YtmhhejpokgdjoaaDmX
namespace Go.Proofs.Ytmhhejpokgdjoaa
open Go Go.RowKit
set_option linter.unusedVariables false
set_option linter.unusedSimpArgs false
attribute [local go_sem] Oper.semAt_some

def encK (x : Nat) : List Value := [.int .u32 (x : Nat)]
def encKA (x : Nat) : Array Value := #[.int .u32 (x : Nat)]
theorem encK_len (x : Nat) : (encK x).length = 1 := rfl
theorem info_u32 : (Try.prog.info? 48).map (fun i => (i.zero, i.size, i.bytes)) = some (some (.int .u32 0), 1, 4) := by kernel_rfl
theorem und_u32s : Try.prog.underlying 53 = some (.slice 48) := by kernel_rfl
def keyV (B : Nat) : Value := .func (.func 67) #[] #[.pointer (some ⟨B + 2, 0, none⟩), .pointer (some ⟨B + 3, 0, none⟩), .pointer (some ⟨B + 1, 0, none⟩), .pointer (some ⟨B, 0, none⟩)]
/-- What the closure's variables hold. -/
structure KeyI (B : Nat) (most : Int) (over : Bool) (pre : List (Nat)) (es : Value) (W : World) : Prop where
  out : Holds W (B + 1) [es]
  own : Own W (B + 4) 48 1 encK es pre
  over : Holds W (B + 2) [.bool over]
  well : Holds W (B + 3) [.bool true]
  most : Holds W B [.int .i64 most]
  size : B + 4 ≤ W.heap.size
set_option maxRecDepth 100000 in
set_option maxHeartbeats 1600000 in
theorem key1_any (B : Nat) (most : Int) (l : List (Nat)) (x : Nat) (es : Value) (w : World) (h : KeyI B most false l es w) (hn : l.length ≤ 3000) :
    Calls Try.prog 67 #[.int .u32 (x : Nat), .pointer (some ⟨B + 2, 0, none⟩), .pointer (some ⟨B + 3, 0, none⟩), .pointer (some ⟨B + 1, 0, none⟩), .pointer (some ⟨B, 0, none⟩)] w fun e w' =>
      e = .returned (.bool (!decide ((l.length : Int) + 1 = most))) ∧ (∃ es', KeyI B most (decide ((l.length : Int) + 1 = most)) (l ++ [x]) es' w' ∧ (∀ k, es'.ownBlock = some k → es.ownBlock = some k ∨ w.heap.size ≤ k)) ∧ Below B w w' ∧
      (∀ k, k < w.heap.size → k ≠ B + 1 → k ≠ B + 2 → es.ownBlock ≠ some k → w'.heap[k]? = w.heap[k]?) := by
  have ho1 := h.out
  have ho := h.own
  obtain ⟨ea, ec, he, hef⟩ := own_fits ho
  subst he
  have hsz := h.size
  have c2 := h.over.cell (i := 0) rfl
  have c1 := ho1.cell (i := 0) rfl
  obtain ⟨i0, hi, hz0, hz1, hz2⟩ := info_parts info_u32
  have HI := Lib.hid h
  have H1 := Lib.hid ho1
  have HO := Lib.hid ho
  have hal : Below w.heap.size w (w.alloc (.cells (encK x).toArray 48)) := (Below.refl _ _).alloc (Nat.le_refl _) _
  have hrow := Holds.alloc w (encK x) 48
  have B1 := Lib.hid hal
  have HR := Lib.hid hrow
  have HO2 := Lib.hid (ho.below hal)
  have GR : Hid (∀ W v', Grew (w.alloc (.cells (encK x).toArray 48)) W (.slice ea l.length ec) v' → (∀ k, v'.ownBlock = some k → (Value.slice ea l.length ec).ownBlock = some k ∨ w.heap.size ≤ k) ∧ (∀ k, k < w.heap.size → (Value.slice ea l.length ec).ownBlock ≠ some k → W.heap[k]? = w.heap[k]?)) := Lib.hid (by
    intro W v' hG
    refine ⟨?_, ?_⟩
    · intro k hk
      rcases hG.at_ with h | h
      · exact .inl (h ▸ hk)
      · rw [h] at hk
        cases hk
        exact .inr hal.size
    · intro k hk hne
      exact (hG.step.block k (Nat.lt_of_lt_of_le hk hal.size) (fun e => hne e.symm)).trans (hal.block k hk))
  have fin : ∀ W, Below (B + 4) w W → Holds W (B + 1) [.slice ea l.length ec] ∧ Holds W (B + 2) [.bool false] ∧ Holds W (B + 3) [.bool true] ∧ Holds W B [.int .i64 most] := fun W hW =>
    ⟨ho1.below hW (by omega), h.over.below hW (by omega), h.well.below hW (by omega), h.most.below hW (by omega)⟩
  have FIN := Lib.hid fin
  have fin2 : ∀ (ov : Bool) (W : World) (v' : Value), Below (B + 4) w W → Own W (B + 4) 48 1 encK v' (l ++ [x]) → ((∀ k, v'.ownBlock = some k → (Value.slice ea l.length ec).ownBlock = some k ∨ w.heap.size ≤ k) ∧ (∀ k, k < w.heap.size → (Value.slice ea l.length ec).ownBlock ≠ some k → W.heap[k]? = w.heap[k]?)) →
      (∃ es', KeyI B most ov (l ++ [x]) es' ((W.setCell ⟨B + 1, 0, none⟩ v').setCell ⟨B + 2, 0, none⟩ (.bool ov)) ∧ (∀ k, es'.ownBlock = some k → (Value.slice ea l.length ec).ownBlock = some k ∨ w.heap.size ≤ k)) ∧ Below B w ((W.setCell ⟨B + 1, 0, none⟩ v').setCell ⟨B + 2, 0, none⟩ (.bool ov)) ∧
      (∀ k, k < w.heap.size → k ≠ B + 1 → k ≠ B + 2 → (Value.slice ea l.length ec).ownBlock ≠ some k → ((W.setCell ⟨B + 1, 0, none⟩ v').setCell ⟨B + 2, 0, none⟩ (.bool ov)).heap[k]? = w.heap[k]?) := by
    intro ov W v' hW hO hgr
    obtain ⟨f1, f2, f3, f4⟩ := fin W hW
    have u1 : Upd (B + 1) W (W.setCell ⟨B + 1, 0, none⟩ v') := Upd.setCell v'
    have u2 : Upd (B + 2) (W.setCell ⟨B + 1, 0, none⟩ v') ((W.setCell ⟨B + 1, 0, none⟩ v').setCell ⟨B + 2, 0, none⟩ (.bool ov)) := Upd.setCell _
    refine ⟨⟨v', ⟨((f1.setCell (i := 0) v').upd u2 (by omega)), (hO.upd u1 (by omega)).upd u2 (by omega), (f2.upd u1 (by omega)).setCell (i := 0) (.bool ov), (f3.upd u1 (by omega)).upd u2 (by omega), (f4.upd u1 (by omega)).upd u2 (by omega), ?_⟩, hgr.1⟩, ?_, ?_⟩
    · have := hW.size
      rw [u2.size, u1.size]
      omega
    · exact ((hW.mono (by omega)).trans (u1.below (by omega))).trans (u2.below (by omega))
    · intro k hk h1 h2 h3
      exact (u2.block k h2).trans ((u1.block k h1).trans (hgr.2 k hk h3))
  have FIN2 := Lib.hid fin2
  clear h ho1 ho hal hrow fin fin2
  have e200 : decide (4000 ≤ l.length + 1) = false := by simp; omega
  have e200' : decide ((4000 : Int) ≤ (l.length : Int) + 1) = false := by simp; omega
  by_cases hm : (l.length : Int) + 1 = most
  · have hq : ((l.length : Int) + 1 == most) = true := by simpa using hm
    rw [decide_eq_true hm]
    clear hm
    go_enter Try.func67, Try.ntmps67
    go_wp2_with (refine wpList_append_one rfl _ _ _ rfl (B + 4) 48 i0 _ 1 4 und_u32s hi hz0 hz1 hz2 rfl (by omega) encK _ l x rfl HO2.out w.heap.size rfl HR.out rfl (by intro u hu; simp only [encK, List.mem_singleton] at hu; rw [hu]; rfl) (by simp only [maxLen]; omega) (by omega) (by simp; omega) ?_; intro v' W hO hG; have hBW := (B1.out.mono hsz).trans (hG.below (B := B + 4) (by simp; omega) HO.out.block); have HFR := Lib.hid (GR.out W v' hG); obtain ⟨f1, f2, f3, f4⟩ := FIN.out W hBW; have q1 := f1.cell (i := 0) rfl; have qf1 := f1.free 0; have qf2 := f2.free 0; have q2 := f2.cell (i := 0) rfl; have q4 := f4.cell (i := 0) rfl; obtain ⟨y1, y2, hv, hfi⟩ := own_fits hO; subst hv; rw [List.length_append, List.length_singleton] at hO HFR; have HH1 := Lib.hid f1; have HH2 := Lib.hid f2; have HH3 := Lib.hid f3; have HH4 := Lib.hid f4; have HOO := Lib.hid hO; have HBW := Lib.hid hBW; clear f1 f2 f3 f4 hO hBW hG hfi)
    go_returns
    exact ⟨rfl, FIN2.out true W _ HBW.out HOO.out HFR.out⟩
  · have hq : ((l.length : Int) + 1 == most) = false := by simpa using hm
    rw [decide_eq_false hm]
    clear hm
    go_enter Try.func67, Try.ntmps67
    go_wp2_with (refine wpList_append_one rfl _ _ _ rfl (B + 4) 48 i0 _ 1 4 und_u32s hi hz0 hz1 hz2 rfl (by omega) encK _ l x rfl HO2.out w.heap.size rfl HR.out rfl (by intro u hu; simp only [encK, List.mem_singleton] at hu; rw [hu]; rfl) (by simp only [maxLen]; omega) (by omega) (by simp; omega) ?_; intro v' W hO hG; have hBW := (B1.out.mono hsz).trans (hG.below (B := B + 4) (by simp; omega) HO.out.block); have HFR := Lib.hid (GR.out W v' hG); obtain ⟨f1, f2, f3, f4⟩ := FIN.out W hBW; have q1 := f1.cell (i := 0) rfl; have qf1 := f1.free 0; have qf2 := f2.free 0; have q2 := f2.cell (i := 0) rfl; have q4 := f4.cell (i := 0) rfl; obtain ⟨y1, y2, hv, hfi⟩ := own_fits hO; subst hv; rw [List.length_append, List.length_singleton] at hO HFR; have HH1 := Lib.hid f1; have HH2 := Lib.hid f2; have HH3 := Lib.hid f3; have HH4 := Lib.hid f4; have HOO := Lib.hid hO; have HBW := Lib.hid hBW; clear f1 f2 f3 f4 hO hBW hG hfi)
    go_returns
    exact ⟨rfl, FIN2.out false W _ HBW.out HOO.out HFR.out⟩
/-- The gathering of keys as an invariant that leaves foreign blocks alone. -/
structure KeyQ (B : Nat) (w : World) (most : Int) (over : Bool) (pre : List Nat) (Q : Nat → Prop) (W : World) : Prop where
  vars : ∃ es, KeyI B most over pre es W ∧ ∀ k, es.ownBlock = some k → ¬ Q k
  q : ∀ k, B ≤ k → k < B + 4 → ¬ Q k
  lt : ∀ k, Q k → k < W.heap.size
  same : W.os = w.os ∧ W.tape = w.tape ∧ W.output = w.output
  seen : ∀ n : Nat, 1 ≤ n → n < pre.length → (n : Int) ≠ most
  last : if over then (pre.length : Int) = most else (pre = [] ∨ (pre.length : Int) ≠ most)
theorem own_same {α : Type} {w w' : World} {base : Nat} {ty : TypeId} {s : Nat} {enc : α → List Value} {v : Value} {l : List α} (h : Own w base ty s enc v l) (he : ∀ k, v.ownBlock = some k → w'.heap[k]? = w.heap[k]?) : Own w' base ty s enc v l := by
  obtain ⟨⟨hlen, hr⟩, hn⟩ := h
  refine ⟨⟨hlen, hr.imp id ?_⟩, hn⟩
  rintro ⟨g, cap, cur, rfl, h2, h3, h4⟩
  exact ⟨g, cap, cur, rfl, h2, (he g rfl).trans h3, h4⟩
theorem own_isCells {α : Type} {w : World} {base : Nat} {ty : TypeId} {s : Nat} {enc : α → List Value} {v : Value} {l : List α} (h : Own w base ty s enc v l) {k : Nat} (hk : v.ownBlock = some k) {o : Obj} (ho : w.heap[k]? = some o) : o.isCells = true := by
  obtain ⟨⟨hlen, hr⟩, hn⟩ := h
  rcases hr with ⟨rfl, _⟩ | ⟨g, cap, cur, rfl, h2, h3, h4⟩
  · cases hk
  · cases hk
    rw [h3] at ho
    cases ho
    rfl
theorem KeyI.same {B : Nat} {most : Int} {over : Bool} {pre : List Nat} {es : Value} {W W' : World} (h : KeyI B most over pre es W) (h4 : ∀ k, B ≤ k → k < B + 4 → W'.heap[k]? = W.heap[k]?) (ho : ∀ k, es.ownBlock = some k → W'.heap[k]? = W.heap[k]?) (hsz : W.heap.size ≤ W'.heap.size) : KeyI B most over pre es W' :=
  ⟨h.out.same (h4 _ (by omega) (by omega)), own_same h.own ho, h.over.same (h4 _ (by omega) (by omega)), h.well.same (h4 _ (by omega) (by omega)), h.most.same (h4 _ (by omega) (by omega)), Nat.le_trans h.size hsz⟩
theorem KeyI.cells {B : Nat} {most : Int} {over : Bool} {pre : List Nat} {es : Value} {W : World} (h : KeyI B most over pre es W) : ∀ k, B ≤ k → k < B + 4 → ∀ o, W.heap[k]? = some o → o.isCells = true := by
  intro k h1 h2 o ho
  obtain rfl | rfl | rfl | rfl : k = B ∨ k = B + 1 ∨ k = B + 2 ∨ k = B + 3 := by omega
  · exact h.most.isCells ho
  · exact h.out.isCells ho
  · exact h.over.isCells ho
  · exact h.well.isCells ho
theorem KeyQ.abide (B : Nat) (w : World) (most : Int) (over : Bool) : Abide (KeyQ B w most over) where
  turn := by
    intro pre Q W W' h hs hsz h1 h2 h3
    obtain ⟨es, hI, hQ⟩ := h.vars
    have hsI := hI.size
    refine ⟨⟨es, hI.same (fun k k1 k2 => hs k (by omega) (h.q k k1 k2)) (fun k hk => hs k (hI.own.row.lt k hk).2 (hQ k hk)) hsz, ?_⟩, ?_, ?_, ⟨h1.trans h.same.1, h2.trans h.same.2.1, h3.trans h.same.2.2⟩, h.seen, h.last⟩
    · rintro k hk (h' | ⟨h', _⟩)
      · exact hQ k hk h'
      · have := (hI.own.row.lt k hk).2; omega
    · rintro k k1 k2 (h' | ⟨h', _⟩)
      · exact h.q k k1 k2 h'
      · omega
    · rintro k (h' | ⟨_, h'⟩)
      · have := h.lt k h'; omega
      · exact h'
  less := by
    intro pre Q Q' W h hq
    obtain ⟨es, hI, hQ⟩ := h.vars
    exact ⟨⟨es, hI, fun k hk h' => hQ k hk (hq k h')⟩, fun k k1 k2 h' => h.q k k1 k2 (hq _ h'), fun k h' => h.lt k (hq k h'), h.same, h.seen, h.last⟩
theorem KeyQ.own (B : Nat) (w : World) (most : Int) (over : Bool) (Q : Nat → Prop) : Go.Own (fun pre W => KeyQ B w most over pre Q W) := by
  intro pre W W' row h hg hr
  obtain ⟨es, hI, hQ⟩ := h.vars
  have hsI := hI.size
  have hs : ∀ (k : Nat) (o : Obj), W.heap[k]? = some o → o.isCells = true → W'.heap[k]? = W.heap[k]? := fun k o ho hc => grownBy_keeps_cells hg hr ho hc
  refine ⟨⟨es, hI.same ?_ ?_ hg.size, hQ⟩, h.q, fun k hk => Nat.lt_of_lt_of_le (h.lt k hk) hg.size, ⟨hg.os.trans h.same.1, hg.tape.trans h.same.2.1, hg.output.trans h.same.2.2⟩, h.seen, h.last⟩
  · intro k k1 k2
    have hl : k < W.heap.size := by omega
    exact hs k _ (Array.getElem?_eq_getElem hl) (hI.cells k k1 k2 _ (Array.getElem?_eq_getElem hl))
  · intro k hk
    have hl := (hI.own.row.lt k hk).2
    exact hs k _ (Array.getElem?_eq_getElem hl) (own_isCells hI.own hk (Array.getElem?_eq_getElem hl))
theorem key_yd (B : Nat) (w : World) (most : Int) : YdN Try.prog (keyV B) encKA 3000 0 (KeyQ B w most false) (KeyQ B w most true) := by
  intro pre x Q W hlen h
  obtain ⟨es, hI, hQ⟩ := h.vars
  have hsI := hI.size
  refine callV_func (Go.Proofs.enters_of Try.func67 (by kernel_rfl) rfl) ?_
  refine (key1_any B most pre x es W hI (by omega)).mono ?_
  rintro e W' ⟨he', ⟨es', hI', hob⟩, hb, hfr⟩
  have hQs : ∀ k, Q k → W'.heap[k]? = W.heap[k]? := fun k hk => hfr k (h.lt k hk) (fun e => h.q _ (by omega) (by omega) (e ▸ hk)) (fun e => h.q _ (by omega) (by omega) (e ▸ hk)) (fun e => hQ k e hk)
  have hko : KeepsOthers W W' := by
    refine ⟨hb.size, fun k o hk ho => ?_⟩
    refine (hfr k (Array.getElem?_eq_some_iff.1 hk).1 (fun e => ?_) (fun e => ?_) (fun e => ?_)).trans hk
    · rw [hI.cells k (by omega) (by omega) o hk] at ho
      cases ho
    · rw [hI.cells k (by omega) (by omega) o hk] at ho
      cases ho
    · rw [own_isCells hI.own e hk] at ho
      cases ho
  have hq' : ∀ k, es'.ownBlock = some k → ¬ Q k := by
    intro k hk hq
    rcases hob k hk with h' | h'
    · exact hQ k h' hq
    · have := h.lt k hq; omega
  have hlt' : ∀ k, Q k → k < W'.heap.size := fun k hk => Nat.lt_of_lt_of_le (h.lt k hk) hb.size
  have hsm : W'.os = w.os ∧ W'.tape = w.tape ∧ W'.output = w.output := ⟨hb.os.trans h.same.1, hb.tape.trans h.same.2.1, hb.output.trans h.same.2.2⟩
  have hseen : ∀ n : Nat, 1 ≤ n → n < (pre ++ [x]).length → (n : Int) ≠ most := by
    intro n hn1 hn2
    rw [List.length_append, List.length_singleton] at hn2
    rcases Nat.lt_or_ge n pre.length with hlt | hge
    · exact h.seen n hn1 hlt
    · have hl := h.last
      rw [if_neg (by simp)] at hl
      rcases hl with hl | hl
      · subst hl; simp at hge hn2; omega
      · have : n = pre.length := by omega
        subst this; exact hl
  refine ⟨⟨hQs, hb.size⟩, hko.from 0, ?_⟩
  by_cases hm : (pre.length : Int) + 1 = most
  · right
    rw [decide_eq_true hm] at he' hI'
    refine ⟨he', ⟨⟨es', hI', hq'⟩, h.q, hlt', hsm, hseen, ?_⟩⟩
    rw [if_pos rfl, List.length_append, List.length_singleton]
    exact_mod_cast hm
  · left
    rw [decide_eq_false hm] at he' hI'
    refine ⟨he', ⟨⟨es', hI', hq'⟩, h.q, hlt', hsm, hseen, ?_⟩⟩
    rw [if_neg (by simp), List.length_append, List.length_singleton]
    right
    exact_mod_cast hm
theorem key_end {xs : List Nat} {B : Nat} {w W : World} {most : Int} {Q : Nat → Prop} (h : KeyQ B w most false xs Q W ∨ ∃ pre x post, xs = pre ++ x :: post ∧ KeyQ B w most true (pre ++ [x]) Q W) :
    (W.os = w.os ∧ W.tape = w.tape ∧ W.output = w.output) ∧ ∃ over es, KeyI B most over (cutV xs most) es W := by
  rcases h with h | ⟨pre, x, post, he, h⟩
  · have : cutV xs most = xs := by
      unfold cutV
      split
      · rfl
      · rename_i h0
        refine List.take_of_length_le ?_
        rcases Nat.lt_or_ge most.toNat xs.length with hlt | hge
        · exact absurd (by omega) (h.seen most.toNat (by omega) hlt)
        · exact hge
    obtain ⟨es, hI, _⟩ := h.vars
    exact ⟨h.same, false, es, by rw [this]; exact hI⟩
  · have hl := h.last
    rw [if_pos rfl] at hl
    have : cutV xs most = pre ++ [x] := by
      unfold cutV
      rw [if_neg (by simp at hl; omega), ← hl, Int.toNat_natCast, he]
      rw [show pre ++ x :: post = (pre ++ [x]) ++ post by simp]
      exact List.take_left
    obtain ⟨es, hI, _⟩ := h.vars
    exact ⟨h.same, true, es, by rw [this]; exact hI⟩
/-- The iterator fv gives xs, to whatever yield that leaves the blocks of Q alone; what lay in w0 is in Q. -/
def GivesF {α : Type} (P : Program) (fv : Value) (enc : α → Array Value) (xs : List α) (N : Nat) (w0 : World) : Prop :=
  ∀ (fn : Fn) (fst cap : Array Value) (B0 : Nat) (Inv Brk : List α → (Nat → Prop) → World → Prop) (W : World) (Q : Nat → Prop), YdN P (.func fn fst cap) enc N B0 Inv Brk → Abide Inv → Abide Brk →
    (∀ Q, OwnFrom B0 (fun pre W => Inv pre Q W)) → (∀ Q, OwnFrom B0 (fun pre W => Brk pre Q W)) → (∀ pre Q W, Inv pre Q W → B0 ≤ W.heap.size) → Below w0.heap.size w0 W → (∀ k, Q k → k < W.heap.size) → (∀ k, k < w0.heap.size → Q k) → Inv [] Q W →
    CallV P fv #[.func fn fst cap] W fun e W' => (∃ v, e = .returned v) ∧ FrQ Q W W' ∧ (Inv xs Q W' ∨ ∃ p x q, xs = p ++ x :: q ∧ Brk (p ++ [x]) Q W')
set_option maxRecDepth 100000 in
set_option maxHeartbeats 1600000 in
theorem keyList_any (f : FuncId) (fst cap : Array Value) (xs : List Nat) (most : Int) (w : World) (hG : GivesF Try.prog (.func (.func f) fst cap) encKA xs 3000 w) :
    Calls Try.prog 47 #[.func (.func f) fst cap, .int .i64 most] w fun e w' => ∃ es, e = .returned (.tuple #[es, .bool true]) ∧ Own w' w.heap.size 48 1 encK es (cutV xs most) ∧ Below w.heap.size w w' := by
  have hE := run_eql_func (P := Try.prog) (t := 70) (by kernel_rfl) (.func f) fst cap
  have a0 := (Below.refl w.heap.size w).alloc (Nat.le_refl _) (.cells #[.int .i64 most] 3)
  have a1 := a0.alloc (by simp) (.cells #[.slice none 0 0] 53)
  have a2 := a1.alloc (by simp; omega) (.cells #[.bool false] 4)
  have a3 := a2.alloc (by simp; omega) (.cells #[.bool true] 4)
  obtain ⟨W0, hW0⟩ : ∃ W0, W0 = (((w.alloc (.cells #[.int .i64 most] 3)).alloc (.cells #[.slice none 0 0] 53)).alloc (.cells #[.bool false] 4)).alloc (.cells #[.bool true] 4) := ⟨_, rfl⟩
  have hsz : W0.heap.size = w.heap.size + 4 := by rw [hW0]; simp
  have hv : KeyI w.heap.size most false [] (.slice none 0 0) W0 := by
    have r0 := Holds.alloc w [.int .i64 most] 3
    have r1 := Holds.alloc (w.alloc (.cells #[.int .i64 most] 3)) [.slice none 0 0] 53
    have r2 := Holds.alloc ((w.alloc (.cells #[.int .i64 most] 3)).alloc (.cells #[.slice none 0 0] 53)) [.bool false] 4
    have r3 := Holds.alloc (((w.alloc (.cells #[.int .i64 most] 3)).alloc (.cells #[.slice none 0 0] 53)).alloc (.cells #[.bool false] 4)) [.bool true] 4
    simp only [World.size_alloc] at r1 r2 r3
    have s : ∀ (W : World) (o : Obj), Below W.heap.size W (W.alloc o) := fun W o => (Below.refl _ _).alloc (Nat.le_refl _) _
    rw [hW0]
    exact ⟨(r1.ext (s _ _)).ext (s _ _), own_nil _ _ _ _ _, r2.ext (s _ _), r3, ((r0.ext (s _ _)).ext (s _ _)).ext (s _ _), by simp⟩
  have hb0 : Below w.heap.size w W0 := by rw [hW0]; exact a3
  have h0 : KeyQ w.heap.size w most false [] (fun k => k < w.heap.size) W0 := ⟨⟨_, hv, by simp [Value.ownBlock]⟩, fun k h1 h2 h3 => by omega, fun k hk => by omega, ⟨hb0.os, hb0.tape, hb0.output⟩, by simp, by simp⟩
  have hc := hG (.func 67) #[] #[.pointer (some ⟨w.heap.size + 2, 0, none⟩), .pointer (some ⟨w.heap.size + 3, 0, none⟩), .pointer (some ⟨w.heap.size + 1, 0, none⟩), .pointer (some ⟨w.heap.size, 0, none⟩)] 0 _ _ W0 _ (key_yd w.heap.size w most) (KeyQ.abide _ _ _ _) (KeyQ.abide _ _ _ _) (fun Q => (KeyQ.own _ _ _ _ Q).from 0) (fun Q => (KeyQ.own _ _ _ _ Q).from 0) (fun _ _ _ _ => Nat.zero_le _) hb0 (fun k hk => by omega) (fun k hk => hk) h0
  have HB0 : Hid (Below w.heap.size w W0) := Lib.hid hb0
  rw [hW0] at hc
  have HC := Lib.hid hc
  have HW0 := Lib.hid hW0
  clear hG hv h0 hc a0 a1 a2 a3 hW0 hb0
  refine (callsIn_wide (n := 0)).1 (callsIn_of_wp Try.func47 rfl trivial ?_)
  simp only [Try.ntmps47, List.size_toArray, List.length_cons, List.length_nil, Nat.reduceAdd, Nat.reduceSub, Array.replicate_succ, Array.replicate_zero, List.push_toArray, List.append_toArray, List.nil_append, List.cons_append]
  gi_wp2_with (refine wpListIn_callV (open_wide _) rfl _ _ _ rfl (vs := #[keyV w.heap.size]) rfl (by simp [keyV, Act.eval]) ?_; refine HC.out.mono ?_; rintro e W' ⟨⟨v, rfl⟩, hF, hr⟩; rw [← HW0.out] at hF; obtain ⟨hsm, ov, es, hV⟩ := key_end hr; have c0 := hV.out.cell (i := 0) rfl; have c3 := hV.well.cell (i := 0) rfl; have GB : Hid (Below w.heap.size w W') := Lib.hid ⟨hsm.1, hsm.2.1, hsm.2.2, Nat.le_trans HB0.out.size hF.2, fun k hk => (hF.1 k hk).trans (HB0.out.block k hk)⟩; have G2 := Lib.hid hV.own; clear hV hF hsm hr)
  obtain ⟨y1, y2, hes, hf⟩ := own_fits G2.out
  subst hes
  have c3' : W'.cell? ⟨w.heap.size + 1 + 1 + 1, 0, none⟩ = some (.bool true) := c3
  clear c3
  refine rgnIn [0, 1, 2, 3] [] (fun _ => trivial) rfl (by kernel_rfl) ?_
  simp only [pickL, List.getD_cons_zero, List.getD_cons_succ]
  gi_wp2
  refine ⟨rfl, ?_⟩
  gi_wp2
  go_returns
  exact ⟨_, rfl, (G2.out.base (by omega)).below (Below.refl _ _).drew, GB.out.drew⟩
end Go.Proofs.Ytmhhejpokgdjoaa
namespace Go.Proofs.Ytmhhejpokgdjoaa
open Go Go.RowKit
set_option linter.unusedVariables false
set_option linter.unusedSimpArgs false

set_option maxRecDepth 100000 in
theorem version_to (b : Nat) (ps : List (Nat × List E)) (i j : Nat) (n : Int) (p : Nat × List E) (w : World) (hp : HistP w b ps i) (e1 : ps[j]? = some p) (hn : (i : Int) + n = j) :
    Calls Try.prog 52 #[.pointer (some ⟨b, 0, none⟩), .int .i64 n] w fun e w' => e = .returned (.tuple #[.pointer (some ⟨p.1, 0, none⟩), .bool true]) ∧ Below w.heap.size w w' := by
  have hdp := Lib.hid (depth_any b _ i w ⟨ps, hp, rfl⟩)
  obtain ⟨a, c, h1, h2, h3⟩ := hp.cells
  have hi := hp.lt
  have hl := hp.len
  have hj := (List.getElem?_eq_some_iff.1 e1).1
  rw [List.length_map] at hdp
  obtain ⟨g, o, rfl⟩ := rd_some h2 (by intro e; rw [e] at hi; simp at hi)
  have H1 := Lib.hid h1
  have H2 := Lib.hid h2
  have E1 := Lib.hid e1
  have d1 : decide (n < -(i : Int)) = false := by simp; omega
  have d2 : decide (((ps.length - 1 - i : Nat) : Int) < n) = false := by simp; omega
  clear h1 h2 e1 hp
  go_enter Try.func52, Try.ntmps52
  go_wp2_with fail
  refine hdp.out.mono ?_
  rintro e w1 ⟨rfl, hb1⟩
  have k0 := (H1.out.ext hb1).cell (i := 0) rfl
  have k1 := (H1.out.ext hb1).cell (i := 1) rfl
  have k2 := rd_at (H2.out.ext hb1) E1.out
  have HB := Lib.hid hb1
  clear hb1 hdp
  go_wp2
  refine rgn [0, 1, 2, 3, 4, 5, 6, 7, 8, 9, 10, 11, 12, 13] [9] (by kernel_rfl) ?_
  simp only [pickL, List.getD_cons_zero, List.getD_cons_succ]
  go_wp2
  have hj' : (i : Int) + n = ((j : Nat) : Int) := hn
  refine ⟨by simp [chkD, dyn, Region.wanted, yielded, Act.eval, scalarV], ?_⟩
  go_wp2
  go_returns
  exact ⟨rfl, HB.out.drew⟩
set_option maxRecDepth 100000 in
theorem version_no (b : Nat) (vs : List (List E)) (i : Nat) (n : Int) (w : World) (h : HistL w b vs i) (hn : n < -(i : Int) ∨ ((vs.length - 1 - i : Nat) : Int) < n) :
    Calls Try.prog 52 #[.pointer (some ⟨b, 0, none⟩), .int .i64 n] w fun e w' => e = .returned (.tuple #[.pointer none, .bool false]) ∧ Below w.heap.size w w' := by
  have hdp := Lib.hid (depth_any b vs i w h)
  obtain ⟨hi, hl, _, _⟩ := h.facts
  clear h
  go_enter Try.func52, Try.ntmps52
  rcases hn with hn | hn
  · have d1 : decide (n < -(i : Int)) = true := by simpa using hn
    go_wp2_with (refine hdp.out.mono ?_; rintro e w1 ⟨rfl, hb1⟩)
    go_returns
    exact ⟨rfl, hb1⟩
  · have d2 : decide (((vs.length - 1 - i : Nat) : Int) < n) = true := by simpa using hn
    by_cases h1 : n < -(i : Int)
    · have d1 : decide (n < -(i : Int)) = true := by simpa using h1
      go_wp2_with (refine hdp.out.mono ?_; rintro e w1 ⟨rfl, hb1⟩)
      go_returns
      exact ⟨rfl, hb1⟩
    · have d1 : decide (n < -(i : Int)) = false := by simpa using h1
      go_wp2_with (refine hdp.out.mono ?_; rintro e w1 ⟨rfl, hb1⟩)
      go_returns
      exact ⟨rfl, hb1⟩
/-- The version of a number. -/
def verP (ps : List (Nat × List E)) (i : Nat) (n : Int) : Option (Nat × List E) := if n < -(i : Int) ∨ ((ps.length - 1 - i : Nat) : Int) < n then none else ps[((i : Int) + n).toNat]?
theorem version_any (b : Nat) (ps : List (Nat × List E)) (i : Nat) (n : Int) (w : World) (hp : HistP w b ps i) :
    Calls Try.prog 52 #[.pointer (some ⟨b, 0, none⟩), .int .i64 n] w fun e w' => Below w.heap.size w w' ∧
      ((∃ p, verP ps i n = some p ∧ e = .returned (.tuple #[.pointer (some ⟨p.1, 0, none⟩), .bool true])) ∨ (verP ps i n = none ∧ e = .returned (.tuple #[.pointer none, .bool false]))) := by
  by_cases h : n < -(i : Int) ∨ ((ps.length - 1 - i : Nat) : Int) < n
  · refine (version_no b _ i n w ⟨ps, hp, rfl⟩ (by simpa using h)).mono ?_
    rintro e w' ⟨he, hb⟩
    exact ⟨hb, .inr ⟨by unfold verP; rw [if_pos h], he⟩⟩
  · have hi := hp.lt
    have hj : ((i : Int) + n).toNat < ps.length := by omega
    have e1 : ps[((i : Int) + n).toNat]? = some ps[((i : Int) + n).toNat] := List.getElem?_eq_getElem hj
    refine (version_to b ps i _ n _ w hp e1 (by omega)).mono ?_
    rintro e w' ⟨he, hb⟩
    exact ⟨hb, .inl ⟨_, by unfold verP; rw [if_neg h]; exact e1, he⟩⟩
end Go.Proofs.Ytmhhejpokgdjoaa
namespace Go.Proofs.Ytmhhejpokgdjoaa
open Go Go.RowKit
set_option linter.unusedVariables false
set_option linter.unusedSimpArgs false

theorem info_v2 : (Try.prog.info? 50).map (·.size) = some 2 := by kernel_rfl
theorem vCells_one (v : V) : ∀ x ∈ vCells v, x.oneCell' = true := by
  intro x hx
  simp only [vCells, List.mem_cons, List.not_mem_nil, or_false] at hx
  rcases hx with rfl | rfl <;> rfl
def placeH (a : Int) (n : Nat) : Nat := (if a < 0 then -(a + 1) else a).toNat % n
theorem place_any (a : Int) (n : Nat) (hn : 0 < n) (hn2 : n < 1000) (h1 : -9223372036854775808 ≤ a) (h2 : a < 9223372036854775808) (w : World) :
    Calls Try.prog 25 #[.int .i64 a, .int .i64 (n : Nat)] w fun e w' => e = .returned (.int .i64 (placeH a n : Nat)) ∧ Below w.heap.size w w' := by
  go_enter Try.func25, Try.ntmps25
  by_cases h : a < 0
  · have d1 : decide (a < 0) = true := by simpa using h
    obtain ⟨m, hm⟩ : ∃ m : Nat, a = -((m : Int) + 1) := ⟨(-(a + 1)).toNat, by omega⟩
    have hp : placeH a n = m % n := by
      unfold placeH
      rw [if_pos h, show (-(a + 1)).toNat = m by omega]
    have hq : (-(a + 1)).tmod (n : Int) = ((m % n : Nat) : Int) := by
      rw [show -(a + 1) = (m : Int) by omega, Int.natCast_emod]
      exact Int.tmod_eq_emod_of_nonneg (by omega)
    rw [Int.neg_tmod] at hq
    clear hm
    go_wp2
    go_returns
    exact ⟨by rw [hp, Int.natCast_emod]; rfl, Below.refl _ _⟩
  · have d1 : decide (a < 0) = false := by simpa using h
    obtain ⟨m, hm⟩ : ∃ m : Nat, a = (m : Int) := ⟨a.toNat, by omega⟩
    have hp : placeH a n = m % n := by
      unfold placeH
      rw [if_neg h, show a.toNat = m by omega]
    have hq : a % (n : Int) = ((m % n : Nat) : Int) := by
      rw [hm, Int.natCast_emod]
    clear hm
    go_wp2
    go_returns
    exact ⟨rfl, Below.refl _ _⟩
theorem placeH_lt (a : Int) {n : Nat} (hn : 0 < n) : placeH a n < n := Nat.mod_lt _ hn
set_option maxRecDepth 100000 in
set_option maxHeartbeats 800000 in
theorem in_any (v : Value) (l : List Nat) (x : Nat) (w : World) (h : Rd w 1 encK v l) (hn : l.length ≤ 4294967296) :
    Calls Try.prog 28 #[v, .int .u32 (x : Nat)] w fun e w' => e = .returned (.bool (decide (x ∈ l))) ∧ Below w.heap.size w w' := by
  obtain ⟨a1, c1, rfl, h1⟩ := h
  rcases h1 with rfl | ⟨b1, o1, rfl, hl1, hc1⟩
  · go_enter Try.func28, Try.ntmps28
    go_wp2
    refine wp_loop_once ?_
    go_wp2
    go_returns
    exact ⟨rfl, Below.refl _ _⟩
  go_enter Try.func28, Try.ntmps28
  go_wp2
  go_loopw [5] (fun i wr => ∃ k : Nat, k ≤ l.length ∧ i = .int .i64 (k : Int) ∧ x ∉ l.take k ∧ Below w.heap.size w wr) (fun i _ => l.length - (intOf i).toNat)
  case atStart => exact ⟨0, by omega, rfl, by simp, Below.refl _ _⟩
  case round =>
    obtain ⟨k, hk, rfl, htk, hb⟩ := hrel
    have HT := Lib.hid htk
    clear htk
    by_cases hlt : k < l.length
    · have e1 : l[k]? = some l[k] := List.getElem?_eq_getElem hlt
      generalize l[k] = y at e1
      have f0 := (hb.cell (p := ⟨b1, _, none⟩) hl1).trans (hc1 k y 0 _ e1 rfl)
      simp only [Nat.add_zero, Nat.mul_one] at f0
      have HB := Lib.hid hb
      have E1 := Lib.hid e1
      clear e1 hc1 hb
      by_cases hxy : y = x
      · have hq : (((y : Nat) : Int) == ((x : Nat) : Int)) = true := by simp; omega
        have hin := Lib.hid (decide_eq_true (show x ∈ l by have := List.mem_of_getElem? E1.out; rwa [hxy] at this))
        go_wp2
        go_returns
        exact ⟨by rw [hin.out]; rfl, HB.out⟩
      · have hq : (((y : Nat) : Int) == ((x : Nat) : Int)) = false := by simp; omega
        have hno := Lib.hid (show x ∉ l.take (k + 1) by
          rw [List.take_add_one, E1.out]
          simp only [Option.toList_some, List.mem_append, List.mem_singleton, not_or]
          exact ⟨HT.out, fun e => hxy e.symm⟩)
        clear hxy
        go_wp2
        go_roundw
        case rel => exact ⟨k + 1, by omega, by go_num, hno.out, HB.out⟩
        case measure => simp [intOf]; omega
    · have hno := Lib.hid (decide_eq_false (show x ∉ l by have := HT.out; rwa [List.take_of_length_le (by omega)] at this))
      clear hc1
      go_wp2
      go_returns
      exact ⟨by rw [hno.out]; rfl, hb⟩
set_option maxRecDepth 100000 in
set_option maxHeartbeats 800000 in
theorem value_any (v : Value) (l : List E) (x : Nat) (w : World) (h : Rd w 3 encL v l) (hn : l.length ≤ 4294967296) :
    Calls Try.prog 27 #[v, .int .u32 (x : Nat)] w fun e w' => e = .returned (.tuple #[.agg #[.int .i64 (gv (look l x)).k, .int .i64 (gv (look l x)).n], .bool (look l x).isSome]) ∧ Below w.heap.size w w' := by
  obtain ⟨a1, c1, rfl, h1⟩ := h
  have hal := Holds.alloc w (vCells ⟨0, 0⟩) 50
  have hba : Below w.heap.size w (w.alloc (.cells (vCells ⟨0, 0⟩).toArray 50)) := (Below.refl _ _).alloc (Nat.le_refl _) _
  have HAL := Lib.hid hal
  have HBA := Lib.hid hba
  clear hal hba
  have fin : ∀ (W : World) (a : Act) (u : V) (o : Bool), Below w.heap.size w W → Holds W w.heap.size (vCells u) → a.tmps[4]?.getD undef = .pointer (some ⟨w.heap.size, 0, none⟩) → a.tmps[5]?.getD undef = .bool o → a.defers = [] → gv (look l x) = u → (look l x).isSome = o →
      bodyPost Try.prog Try.f27 (fun e w' => e = .returned (.tuple #[.agg #[.int .i64 (gv (look l x)).k, .int .i64 (gv (look l x)).n], .bool (look l x).isSome]) ∧ Below w.heap.size w w') .ret a W := by
    intro W a u o hB hH h4 h5 hd h6 h7
    have c0 := hH.cell (i := 0) rfl
    have c1 := hH.cell (i := 1) rfl
    refine bodyPost_ret (v := .tuple #[.agg #[.int .i64 u.k, .int .i64 u.n], .bool o]) ?_ hd ?_
    · simp [results, Try.results27, go_sem, h4, h5, c0, c1]
    · exact ⟨by rw [h6, h7], hB⟩
  rcases h1 with rfl | ⟨b1, o1, rfl, hl1, hc1⟩
  · go_enter Try.func27, Try.ntmps27
    go_wp2
    refine wp_loop_once ?_
    go_wp2
    exact fin _ _ ⟨0, 0⟩ false HBA.out HAL.out rfl rfl rfl rfl rfl
  have FIN := Lib.hid fin
  clear fin
  go_enter Try.func27, Try.ntmps27
  go_wp2
  go_loopw [6] (fun i wr => ∃ k : Nat, k ≤ l.length ∧ i = .int .i64 (k : Int) ∧ (∀ y ∈ l.take k, y.1 ≠ x) ∧ Below w.heap.size w wr ∧ Holds wr w.heap.size (vCells ⟨0, 0⟩)) (fun i _ => l.length - (intOf i).toNat)
  case atStart => exact ⟨0, by omega, rfl, by simp, HBA.out, HAL.out⟩
  case round =>
    obtain ⟨k, hk, rfl, htk, hb, hH⟩ := hrel
    have HT := Lib.hid htk
    have HH := Lib.hid hH
    clear htk hH
    by_cases hlt : k < l.length
    · have e1 : l[k]? = some l[k] := List.getElem?_eq_getElem hlt
      generalize l[k] = y at e1
      have f0 := (hb.cell (p := ⟨b1, _, none⟩) hl1).trans (hc1 k y 0 _ e1 rfl)
      have f1 := (hb.cell (p := ⟨b1, _, none⟩) hl1).trans (hc1 k y 1 _ e1 rfl)
      have f2 := (hb.cell (p := ⟨b1, _, none⟩) hl1).trans (hc1 k y 2 _ e1 rfl)
      simp only [Nat.add_zero] at f0
      have HB := Lib.hid hb
      have E1 := Lib.hid e1
      clear e1 hc1 hb
      by_cases hxy : y.1 = x
      · have hq : (((y.1 : Nat) : Int) == ((x : Nat) : Int)) = true := by simp; omega
        have hlk := Lib.hid (show look l x = some y.2 by
          unfold look
          have hl : l = l.take k ++ y :: l.drop (k + 1) := by
            have h2 := List.getElem?_eq_some_iff.1 E1.out
            rw [← h2.2, List.getElem_cons_drop, List.take_append_drop]
          rw [hl, List.find?_append, List.find?_eq_none.2 (by intro z hz; simpa using HT.out z hz)]
          simp [hxy])
        clear hxy
        go_wp2_with (refine wpList_store_abs rfl 50 _ _ rfl w.heap.size _ (vCells y.2) rfl rfl HH.out info_v2 rfl (vCells_one _) ?_; intro W2 hW2 hU)
        exact FIN.out _ _ y.2 true (HB.out.trans (hU.below (Nat.le_refl _))) hW2 rfl rfl rfl (by rw [hlk.out]; rfl) (by rw [hlk.out]; rfl)
      · have hq : (((y.1 : Nat) : Int) == ((x : Nat) : Int)) = false := by simp; omega
        have hno := Lib.hid (show ∀ z ∈ l.take (k + 1), z.1 ≠ x by
          rw [List.take_add_one, E1.out]
          intro z hz
          simp only [Option.toList_some, List.mem_append, List.mem_singleton] at hz
          rcases hz with hz | rfl
          · exact HT.out z hz
          · exact hxy)
        clear hxy
        go_wp2
        go_roundw
        case rel => exact ⟨k + 1, by omega, by go_num, hno.out, HB.out, HH.out⟩
        case measure => simp [intOf]; omega
    · have hno := Lib.hid (show look l x = none by
        have := HT.out
        rw [List.take_of_length_le (by omega)] at this
        unfold look
        rw [List.find?_eq_none.2 (by intro z hz; simpa using this z hz)]
        rfl)
      clear hc1
      go_wp2_with (refine wpList_store_abs rfl 50 _ _ rfl w.heap.size _ (vCells ⟨0, 0⟩) rfl rfl HH.out info_v2 rfl (vCells_one _) ?_; intro W2 hW2 hU)
      exact FIN.out _ _ ⟨0, 0⟩ false (hb.trans (hU.below (Nat.le_refl _))) hW2 rfl rfl rfl (by rw [hno.out]; rfl) (by rw [hno.out]; rfl)
end Go.Proofs.Ytmhhejpokgdjoaa
namespace Go.Proofs.Ytmhhejpokgdjoaa
open Go Go.RowKit
set_option linter.unusedVariables false
set_option linter.unusedSimpArgs false
attribute [local go_sem] Oper.semAt_some

theorem version_some (b : Nat) (ps : List (Nat × List E)) (i : Nat) (n : Int) (p : Nat × List E) (w : World) (hp : HistP w b ps i) (hv : verP ps i n = some p) :
    Calls Try.prog 52 #[.pointer (some ⟨b, 0, none⟩), .int .i64 n] w fun e w' => e = .returned (.tuple #[.pointer (some ⟨p.1, 0, none⟩), .bool true]) ∧ Below w.heap.size w w' := by
  refine (version_any b ps i n w hp).mono ?_
  rintro e w' ⟨hb, ⟨q, hq, he⟩ | ⟨hq, he⟩⟩
  · rw [hv] at hq; cases hq; exact ⟨he, hb⟩
  · rw [hv] at hq; cases hq
/-- Where the two numbers name versions, the pair of them. -/
def verPP (ps : List (Nat × List E)) (i : Nat) (na nb : Int) : Option ((Nat × List E) × (Nat × List E)) := match verP ps i na, verP ps i nb with
  | some p, some q => some (p, q)
  | _, _ => none
/-- What goes to the yield of a loop whose round hands on the key of each change. -/
def InvC (Inv : List Nat → (Nat → Prop) → World → Prop) (pre : List Ch) : (Nat → Prop) → World → Prop := Inv (pre.map (·.1))
structure InvR (R : Nat) (yv : Value) (Inv : List Nat → (Nat → Prop) → World → Prop) (pre : List Ch) (Q : Nat → Prop) (W : World) : Prop where
  inv : Inv (pre.map (·.1)) (fun k => Q k ∨ k = R) W
  box : Holds W R [yv]
  out : ¬ Q R
  lt : ∀ k, Q k → k < W.heap.size
theorem InvR.abide {R : Nat} {yv : Value} {Inv : List Nat → (Nat → Prop) → World → Prop} (h : Abide Inv) : Abide (InvR R yv Inv) where
  turn := by
    intro pre Q W W' hi hs hsz e1 e2 e3
    have hl := hi.box.lt
    refine ⟨h.less _ _ _ _ (h.turn _ _ _ _ hi.inv (fun k hk hn => hs k hk (fun h' => hn (.inl h'))) hsz e1 e2 e3) ?_, hi.box.same (hs R hl hi.out), ?_, ?_⟩
    · rintro k ((h' | h') | h')
      · exact .inl (.inl h')
      · exact .inr h'
      · exact .inl (.inr h')
    · rintro (h' | ⟨h', _⟩)
      · exact hi.out h'
      · omega
    · rintro k (h' | ⟨_, h'⟩)
      · exact Nat.lt_of_lt_of_le (hi.lt k h') hsz
      · exact h'
  less := by
    intro pre Q Q' W hi hq
    exact ⟨h.less _ _ _ _ hi.inv (fun k hk => hk.imp (hq k) id), hi.box, fun h' => hi.out (hq _ h'), fun k hk => hi.lt k (hq k hk)⟩
theorem InvR.own {R B : Nat} {yv : Value} {Inv : List Nat → (Nat → Prop) → World → Prop} (h : ∀ Q, OwnFrom B (fun pre W => Inv pre Q W)) (Q : Nat → Prop) : OwnFrom B (fun pre W => InvR R yv Inv pre Q W) := by
  rintro pre W W' row hi hg hr
  exact ⟨h _ _ W W' row hi.inv hg hr, hi.box.own hg (fun r e => (hr r e).2), hi.out, fun k hk => Nat.lt_of_lt_of_le (hi.lt k hk) hg.size⟩
def BrkR (Brk : List Nat → (Nat → Prop) → World → Prop) (c : Code) (pre : List Ch) (Q : Nat → Prop) (W : World) : Prop := c = .ret ∧ Brk (pre.map (·.1)) Q W
theorem BrkR.abide {Brk : List Nat → (Nat → Prop) → World → Prop} (h : Abide Brk) (c : Code) : Abide (BrkR Brk c) where
  turn := by
    rintro pre Q W W' ⟨hc, hi⟩ hs hsz e1 e2 e3
    exact ⟨hc, h.turn _ _ _ _ hi hs hsz e1 e2 e3⟩
  less := by
    rintro pre Q Q' W ⟨hc, hi⟩ hq
    exact ⟨hc, h.less _ _ _ _ hi hq⟩
theorem BrkR.own {B : Nat} {Brk : List Nat → (Nat → Prop) → World → Prop} (h : ∀ Q, OwnFrom B (fun pre W => Brk pre Q W)) (c : Code) (Q : Nat → Prop) : OwnFrom B (fun pre W => BrkR Brk c pre Q W) := by
  rintro pre W W' row ⟨hc, hi⟩ hg hr
  exact ⟨hc, h _ _ W W' row hi hg hr⟩
def twTmps (R B1 B2 B3 b D : Nat) (na nb : Int) (pa pb : Nat) (fn : Fn) (fst cap : Array Value) (x : Ch) (Bx : Nat) : Array Value := #[.func fn fst cap, .pointer (some ⟨B1, 0, none⟩), .pointer (some ⟨B2, 0, none⟩), .pointer (some ⟨B3, 0, none⟩), .pointer (some ⟨R, 0, none⟩), .pointer (some ⟨pa, 0, none⟩), .bool true, .pointer (some ⟨pb, 0, none⟩), .bool true, .pointer (some ⟨Bx, 0, none⟩),
  .tuple #[.pointer (some ⟨pa, 0, none⟩), .bool true], .pointer (some ⟨b, 0, none⟩), .int .i64 na, .tuple #[.pointer (some ⟨pa, 0, none⟩), .bool true], .pointer (some ⟨pa, 0, none⟩), .bool true, .tuple #[.pointer (some ⟨pb, 0, none⟩), .bool true], .pointer (some ⟨b, 0, none⟩), .int .i64 nb, .tuple #[.pointer (some ⟨pb, 0, none⟩), .bool true], .pointer (some ⟨pb, 0, none⟩), .bool true,
  .bool true, .bool false, .bool false, .bool true, .bool false, .bool false, .pointer (some ⟨pa, 0, none⟩), .pointer (some ⟨pb, 0, none⟩), .func (.func 71) #[] #[.pointer (some ⟨D, 0, none⟩), .pointer (some ⟨D + 1, 0, none⟩)], .agg (chCells x.1 x.2.1 x.2.2).toArray, undef, undef, undef, undef, undef]
set_option maxRecDepth 100000 in
set_option maxHeartbeats 4000000 in
theorem touched1_F (b : Nat) (ps : List (Nat × List E)) (i : Nat) (na nb : Int) (pa pb : Nat × List E) (ta tb : Tr 8) (B1 B2 B3 : Nat) (fn : Fn) (fst cap : Array Value) (N B0 : Nat) (Inv Brk : List Nat → (Nat → Prop) → World → Prop)
    (hY : YdN Try.prog (.func fn fst cap) encKA N B0 Inv Brk) (hI : Abide Inv) (hK : Abide Brk) (hIo : ∀ Q, OwnFrom B0 (fun pre W => Inv pre Q W)) (hKo : ∀ Q, OwnFrom B0 (fun pre W => Brk pre Q W)) (hB0 : ∀ pre Q W, Inv pre Q W → B0 ≤ W.heap.size)
    (w : World) (Q : Nat → Prop) (h : HistP w b ps i) (hQ : ∀ k, Q k → k < w.heap.size) (h1 : Holds w B1 [.pointer (some ⟨b, 0, none⟩)]) (h2 : Holds w B2 [.int .i64 na]) (h3 : Holds w B3 [.int .i64 nb])
    (hv1 : verP ps i na = some pa) (hv2 : verP ps i nb = some pb) (hta : MapAt w pa.1 ta pa.2.length) (htb : MapAt w pb.1 tb pb.2.length) (hqa : ta.all Q) (hqb : tb.all Q) (hN : (difs ta tb 0).length ≤ N) (h0 : Inv [] Q w) :
    Calls Try.prog 51 #[.func fn fst cap, .pointer (some ⟨B1, 0, none⟩), .pointer (some ⟨B2, 0, none⟩), .pointer (some ⟨B3, 0, none⟩)] w fun e w' =>
      (∃ v, e = .returned v) ∧ FrQ Q w w' ∧ (Inv ((difs ta tb 0).map (·.1)) Q w' ∨ ∃ p x q, (difs ta tb 0).map (·.1) = p ++ x :: q ∧ Brk (p ++ [x]) Q w') := by
  have hB0w := hB0 _ _ _ h0
  have hba : Below w.heap.size w (w.alloc (.cells #[.func fn fst cap] 106)) := (Below.refl _ _).alloc (Nat.le_refl _) _
  have hr := Holds.alloc w [.func fn fst cap] 106
  have H := Lib.hid h
  have H1 := Lib.hid h1
  have H2 := Lib.hid h2
  have H3 := Lib.hid h3
  have HR := Lib.hid hr
  have HBA := Lib.hid hba
  have HQ := Lib.hid hQ
  have H0 := Lib.hid h0
  have V1 := Lib.hid hv1
  have V2 := Lib.hid hv2
  have TA := Lib.hid hta
  have TB := Lib.hid htb
  have k1 := (h1.ext hba).cell (i := 0) rfl
  have k2 := (h2.ext hba).cell (i := 0) rfl
  clear h h1 h2 h3 hr hba hQ h0 hv1 hv2 hta htb
  refine (callsIn_wide (n := 3)).1 (callsIn_of_wp_marks Try.func51 rfl trivial ?_)
  simp only [Try.ntmps51, List.size_toArray, List.length_cons, List.length_nil, Nat.reduceAdd, Nat.reduceSub, Array.replicate_succ, Array.replicate_zero, List.push_toArray, List.append_toArray, List.nil_append, List.cons_append]
  gi_wp2_with fail
  refine ⟨trivial, (open_wide _).calls ((version_some b ps i na pa _ (H.out.ext HBA.out) V1.out).mono ?_)⟩
  rintro e w1 ⟨rfl, hb1⟩
  have HB1 : Hid (Below w.heap.size w w1) := Lib.hid (HBA.out.trans (hb1.mono HBA.out.size))
  have k3 := (H1.out.ext HB1.out).cell (i := 0) rfl
  have k4 := (H3.out.ext HB1.out).cell (i := 0) rfl
  have HR1 := Lib.hid (HR.out.ext hb1)
  have hz1 : w.heap.size < w1.heap.size := Nat.lt_of_lt_of_le (by simp) hb1.size
  clear hb1 k1 k2
  gi_wp2_with fail
  refine ⟨trivial, (open_wide _).calls ((version_some b ps i nb pb _ (H.out.ext HB1.out) V2.out).mono ?_)⟩
  rintro e w2 ⟨rfl, hb2⟩
  have HB2 : Hid (Below w.heap.size w w2) := Lib.hid (HB1.out.trans (hb2.mono HB1.out.size))
  have HR2 := Lib.hid (HR1.out.ext hb2)
  have hz2 : w.heap.size < w2.heap.size := Nat.lt_of_lt_of_le hz1 hb2.size
  clear hb2 k3 k4 hz1
  gi_wp2_with fail
  refine ⟨trivial, (open_wide _).calls ((diff_any pa.1 pb.1 w2).mono ?_)⟩
  rintro e w3 ⟨rfl, hb3, hd1, hd2⟩
  unfold diffV
  have HB3 : Hid (Below w.heap.size w w3) := Lib.hid (HB2.out.trans (hb3.mono HB2.out.size))
  have HR3 := Lib.hid (HR2.out.ext hb3)
  have hz3 : w.heap.size < w3.heap.size := Nat.lt_of_lt_of_le hz2 hb3.size
  obtain ⟨Q1, hQ1⟩ : ∃ Q1 : Nat → Prop, Q1 = fun k => (Q k ∨ (w.heap.size ≤ k ∧ k < w3.heap.size)) ∧ k ≠ w.heap.size := ⟨_, rfl⟩
  have hq1 : ∀ j, Q j → Q1 j := fun j hj => by rw [hQ1]; exact ⟨.inl hj, fun e => by have := HQ.out j hj; omega⟩
  have hqs : ∀ k, Q1 k → k < w3.heap.size := fun k hk => by
    rw [hQ1] at hk
    rcases hk.1 with h' | h'
    · have := HQ.out k h'; omega
    · exact h'.2
  have hFw : FrQ Q w w3 := FrQ.below HB3.out HQ.out
  have hinv : InvR w.heap.size (.func fn fst cap) Inv [] Q1 w3 := by
    refine ⟨hI.less _ _ _ _ (hI.below H0.out HB3.out) ?_, HR3.out, by rw [hQ1]; exact fun h => h.2 rfl, hqs⟩
    rintro k (hk | rfl)
    · rw [hQ1] at hk; exact hk.1
    · exact .inr ⟨Nat.le_refl _, hz3⟩
  have hseq : SeqF Try.prog 71 #[.pointer (some ⟨w2.heap.size, 0, none⟩), .pointer (some ⟨w2.heap.size + 1, 0, none⟩)] chE (difs ta tb 0) N Q1 w3 := by
    intro l B0' Inv' Brk' W hY' hI' hK' hIo' hKo' hB0' hbW h0'
    have hbw : Below w.heap.size w W := HB3.out.trans (hbW.mono HB3.out.size)
    exact diff1_F pa.1 pb.1 w2.heap.size (w2.heap.size + 1) ta tb _ _ (.yield l) #[] #[] N hN Inv' Brk' B0' hY' hI' hK' hIo' hKo' hB0' Q1 W (fun k hk => Nat.lt_of_lt_of_le (hqs k hk) hbW.size) (TA.out.ext hbw) (TB.out.ext hbw)
      (Tr.all_mono hq1 hqa) (Tr.all_mono hq1 hqb) (hd1.ext hbW) (hd2.ext hbW) h0'
  have he := enters_of (P := Try.prog) Try.func71 (by kernel_rfl) rfl
  gi_wp2_with fail
  refine wpIn_rangeFunc_Q (by decide) (gf := 71) (lb := #[.pointer (some ⟨w2.heap.size, 0, none⟩), .pointer (some ⟨w2.heap.size + 1, 0, none⟩)]) rfl he hseq hqs (fun _ => rfl) (InvR w.heap.size (.func fn fst cap) Inv) (BrkR Brk) B0 (by omega) (InvR.abide hI) (BrkR.abide hK) (InvR.own hIo) (BrkR.own hKo) hinv
    (fun x a' W => ∃ Bx, Holds W Bx (chCells x.1 x.2.1 x.2.2) ∧ a' = { tmps := twTmps w.heap.size B1 B2 B3 b w2.heap.size na nb pa.1 pb.1 fn fst cap x Bx, defers := [] }) ?hAx ?assign ?body ?done ?stop
  case hAx =>
    rintro x a' _ W W' row ⟨Bx, h1, h2⟩ hg hr
    exact ⟨Bx, h1.own hg (fun r e => (hr r e).2), h2⟩
  case assign =>
    rintro l ys x Qc W K hi hsz hK'
    have HI := Lib.hid hi
    unfold chE chCells
    gi_wp2
    have hia := (InvR.abide hI).less _ _ Qc _ ((InvR.abide (R := w.heap.size) (yv := .func fn fst cap) hI).below HI.out ((Below.refl _ _).alloc (Nat.le_refl _) (.cells (chCells x.1 x.2.1 x.2.2).toArray 113))) (fun j hj => .inl hj)
    exact hK' _ _ ((KeepsOthers.alloc _ _).from _) (FrQ.alloc (FrQ.refl _ _) _ HI.out.lt) hia ⟨W.heap.size, Holds.alloc W (chCells x.1 x.2.1 x.2.2) 113, rfl⟩
  case body =>
    rintro l ys x Qc a' W hi ⟨Bx, hBx, rfl⟩ hlt hsz
    have hy := hY (ys.map (·.1)) x.1 (fun k => Qc k ∨ k = w.heap.size) W (by simpa using hlt) hi.inv
    have HY := Lib.hid hy
    have HI := Lib.hid hi
    have c0 := hi.box.cell (i := 0) rfl
    have c1 := hBx.cell (i := 0) rfl
    clear hy hi hBx
    unfold twTmps
    gi_wp2_with (refine wpListIn_callV (open_round _ l) rfl _ _ _ rfl (vs := encKA x.1) rfl (by simp [encKA, Act.eval]) ?_; refine HY.out.mono ?_; rintro e W' ⟨hfr, hko, hor⟩; have HFr := Lib.hid hfr; have HKo := Lib.hid hko; clear hfr hko; rcases hor with ⟨rfl, hi'⟩ | ⟨rfl, hbk⟩)
    · exact ⟨KeepsFrom.more HKo.out (by omega), HFr.out.less (fun j hj => .inl hj), ⟨by rw [List.map_append]; exact hi', HI.out.box.same (HFr.out.1 _ (.inr rfl)), HI.out.out, fun k hk => Nat.lt_of_lt_of_le (HI.out.lt k hk) HFr.out.2⟩⟩
    · exact ⟨KeepsFrom.more HKo.out (by omega), HFr.out.less (fun j hj => .inl hj), rfl, by rw [List.map_append]; exact hK.less _ _ _ _ hbk (fun j hj => .inl hj)⟩
  case done =>
    rintro D W hD hF hi hKd
    have hi' := hI.less _ _ Q _ hi.inv (fun j hj => .inl (hq1 j hj))
    have hI3 := OwnFrom.putObj (hIo Q) (.deferred none) (s := (difs ta tb 0).map (·.1)) hi' (by omega) hKd rfl
    have hF3 : FrQ Q w (W.putObj D (.deferred none)) := (hFw.trans (hF.less hq1)).trans (frQ_put (fun h => by have := HQ.out _ h; omega))
    have HI3 := Lib.hid hI3
    have HF3 := Lib.hid hF3
    have HKD := Lib.hid hKd
    clear hi' hI3 hF3 hi hF hKd
    gi_wp2
    refine ⟨by simp, .inl ⟨_, _, rfl, run_takeDeferred HKD.out, ?_⟩⟩
    exact ⟨.tuple #[], by simp [results, Try.results51, go_sem], ⟨_, rfl⟩, HF3.out, .inl HI3.out⟩
  case stop =>
    rintro D c p x q W hD hpq hF ⟨rfl, hbk⟩ hKd
    have hb' := hK.less _ _ Q _ hbk hq1
    have hI3 := OwnFrom.putObj (hKo Q) (.deferred none) (s := (p ++ [x]).map (·.1)) hb' (by omega) hKd rfl
    have hF3 : FrQ Q w (W.putObj D (.deferred none)) := (hFw.trans (hF.less hq1)).trans (frQ_put (fun h => by have := HQ.out _ h; omega))
    have HI3 := Lib.hid hI3
    have HF3 := Lib.hid hF3
    have HKD := Lib.hid hKd
    clear hb' hI3 hF3 hbk hF hKd
    gi_wp2
    refine ⟨by simp, .inl ⟨_, _, rfl, run_takeDeferred HKD.out, ?_⟩⟩
    refine ⟨.tuple #[], by simp [results, Try.results51, go_sem], ⟨_, rfl⟩, HF3.out, .inr ⟨p.map (·.1), x.1, q.map (·.1), by rw [hpq, List.map_append]; rfl, ?_⟩⟩
    have := HI3.out
    rw [List.map_append] at this
    exact this
end Go.Proofs.Ytmhhejpokgdjoaa
namespace Go.Proofs.Ytmhhejpokgdjoaa
open Go Go.RowKit
set_option linter.unusedVariables false
set_option linter.unusedSimpArgs false
attribute [local go_sem] Oper.semAt_some

def SrtN (l : List Nat) : Prop := l.Pairwise (· < ·)
/-- Just the keys that differ, rising. -/
structure KeyD (la lb : List E) (xs : List Nat) : Prop where
  srt : SrtN xs
  mem : ∀ k, k ∈ xs ↔ k < 4294967296 ∧ look la k ≠ look lb k
  len : xs.length ≤ la.length + lb.length
theorem keyD_of {la lb : List E} {ta tb : Tr 8} (h1 : ta.ents 0 = la) (h2 : tb.ents 0 = lb) : KeyD la lb ((difs ta tb 0).map (·.1)) where
  srt := List.pairwise_map.2 (difs_srt ta tb 0)
  mem := by
    intro k
    simp only [List.mem_map]
    constructor
    · rintro ⟨c, hc, rfl⟩
      obtain ⟨m1, m2, m3, m4⟩ := mem_difs0.1 hc
      rw [← h1, ← h2, look_ents ta _ m1, look_ents tb _ m1, ← m2, ← m3]
      exact ⟨m1, m4⟩
    · rintro ⟨m1, m2⟩
      rw [← h1, ← h2, look_ents ta _ m1, look_ents tb _ m1] at m2
      exact ⟨(k, ta.get k, tb.get k), mem_difs0.2 ⟨m1, rfl, rfl, m2⟩, rfl⟩
  len := by rw [List.length_map, ← h1, ← h2]; exact difs_len ta tb 0
/-- What Touched gives between the versions of two numbers. -/
def TouchH (ps : List (Nat × List E)) (i : Nat) (na nb : Int) (xs : List Nat) : Prop := match verP ps i na, verP ps i nb with
  | some p, some q => KeyD p.2 q.2 xs
  | _, _ => xs = []
def touchV (B : Nat) : Value := .func (.func 51) #[] #[.pointer (some ⟨B, 0, none⟩), .pointer (some ⟨B + 1, 0, none⟩), .pointer (some ⟨B + 2, 0, none⟩)]
theorem touched_any (b : Nat) (na nb : Int) (w : World) : Calls Try.prog 31 #[.pointer (some ⟨b, 0, none⟩), .int .i64 na, .int .i64 nb] w fun e w' =>
    e = .returned (touchV w.heap.size) ∧ Below w.heap.size w w' ∧ Holds w' w.heap.size [.pointer (some ⟨b, 0, none⟩)] ∧ Holds w' (w.heap.size + 1) [.int .i64 na] ∧ Holds w' (w.heap.size + 2) [.int .i64 nb] := by
  have r0 := Holds.alloc w [.pointer (some ⟨b, 0, none⟩)] 25
  have r1 := Holds.alloc (w.alloc (.cells #[.pointer (some ⟨b, 0, none⟩)] 25)) [.int .i64 na] 3
  have r2 := Holds.alloc ((w.alloc (.cells #[.pointer (some ⟨b, 0, none⟩)] 25)).alloc (.cells #[.int .i64 na] 3)) [.int .i64 nb] 3
  have a0 := (Below.refl w.heap.size w).alloc (Nat.le_refl _) (.cells #[.pointer (some ⟨b, 0, none⟩)] 25)
  have a1 := a0.alloc (by simp) (.cells #[.int .i64 na] 3)
  have a2 := a1.alloc (by simp; omega) (.cells #[.int .i64 nb] 3)
  simp only [World.size_alloc] at r1 r2
  have s : ∀ (W : World) (o : Obj), Below W.heap.size W (W.alloc o) := fun W o => (Below.refl _ _).alloc (Nat.le_refl _) _
  go_enter Try.func31, Try.ntmps31
  go_wp2
  go_returns
  exact ⟨rfl, a2, (r0.ext (s _ _)).ext (s _ _), r1.ext (s _ _), r2⟩
set_option maxRecDepth 100000 in
set_option maxHeartbeats 1600000 in
theorem touched1_no (b : Nat) (ps : List (Nat × List E)) (i : Nat) (na nb : Int) (B1 B2 B3 : Nat) (fn : Fn) (fst cap : Array Value) (w : World) (h : HistP w b ps i) (h1 : Holds w B1 [.pointer (some ⟨b, 0, none⟩)]) (h2 : Holds w B2 [.int .i64 na]) (h3 : Holds w B3 [.int .i64 nb])
    (hv : verP ps i na = none ∨ verP ps i nb = none) :
    Calls Try.prog 51 #[.func fn fst cap, .pointer (some ⟨B1, 0, none⟩), .pointer (some ⟨B2, 0, none⟩), .pointer (some ⟨B3, 0, none⟩)] w fun e w' => (∃ v, e = .returned v) ∧ Below w.heap.size w w' := by
  have hba : Below w.heap.size w (w.alloc (.cells #[.func fn fst cap] 106)) := (Below.refl _ _).alloc (Nat.le_refl _) _
  have H := Lib.hid h
  have H1 := Lib.hid h1
  have H2 := Lib.hid h2
  have H3 := Lib.hid h3
  have HV := Lib.hid hv
  have k1 := (h1.ext hba).cell (i := 0) rfl
  have k2 := (h2.ext hba).cell (i := 0) rfl
  have HBA := Lib.hid hba
  clear h h1 h2 h3 hba hv
  refine (callsIn_wide (n := 3)).1 (callsIn_of_wp_marks Try.func51 rfl trivial ?_)
  simp only [Try.ntmps51, List.size_toArray, List.length_cons, List.length_nil, Nat.reduceAdd, Nat.reduceSub, Array.replicate_succ, Array.replicate_zero, List.push_toArray, List.append_toArray, List.nil_append, List.cons_append]
  gi_wp2_with fail
  refine ⟨trivial, (open_wide _).calls ((version_any b ps i na _ (H.out.ext HBA.out)).mono ?_)⟩
  rintro e w1 ⟨hb1, hor1⟩
  have HB1 : Hid (Below w.heap.size w w1) := Lib.hid (HBA.out.trans (hb1.mono HBA.out.size))
  have k3 := (H1.out.ext HB1.out).cell (i := 0) rfl
  have k4 := (H3.out.ext HB1.out).cell (i := 0) rfl
  clear hb1 k1 k2
  rcases hor1 with ⟨p, hp, rfl⟩ | ⟨hp, rfl⟩
  · have HP := Lib.hid hp
    clear hp
    gi_wp2_with fail
    refine ⟨trivial, (open_wide _).calls ((version_any b ps i nb _ (H.out.ext HB1.out)).mono ?_)⟩
    rintro e w2 ⟨hb2, ⟨q, hq, rfl⟩ | ⟨hq, rfl⟩⟩
    · exfalso
      have h1 := HP.out
      rcases HV.out with h | h
      · rw [h] at h1; cases h1
      · rw [h] at hq; cases hq
    · have HB2 : Hid (Below w.heap.size w w2) := Lib.hid (HB1.out.trans (hb2.mono HB1.out.size))
      clear hb2
      gi_wp2
      exact ⟨.tuple #[], by simp [results, Try.results51, go_sem], ⟨_, rfl⟩, HB2.out⟩
  · gi_wp2_with fail
    refine ⟨trivial, (open_wide _).calls ((version_any b ps i nb _ (H.out.ext HB1.out)).mono ?_)⟩
    rintro e w2 ⟨hb2, ⟨q, hq, rfl⟩ | ⟨hq, rfl⟩⟩
    · have HB2 : Hid (Below w.heap.size w w2) := Lib.hid (HB1.out.trans (hb2.mono HB1.out.size))
      clear hb2
      gi_wp2
      exact ⟨.tuple #[], by simp [results, Try.results51, go_sem], ⟨_, rfl⟩, HB2.out⟩
    · have HB2 : Hid (Below w.heap.size w w2) := Lib.hid (HB1.out.trans (hb2.mono HB1.out.size))
      clear hb2
      gi_wp2
      exact ⟨.tuple #[], by simp [results, Try.results51, go_sem], ⟨_, rfl⟩, HB2.out⟩
theorem touched_gives (b : Nat) (ps : List (Nat × List E)) (i : Nat) (na nb : Int) (B1 B2 B3 : Nat) (w : World) (h : HistP w b ps i) (h1 : Holds w B1 [.pointer (some ⟨b, 0, none⟩)]) (h2 : Holds w B2 [.int .i64 na]) (h3 : Holds w B3 [.int .i64 nb]) :
    ∃ xs, TouchH ps i na nb xs ∧ GivesF Try.prog (.func (.func 51) #[] #[.pointer (some ⟨B1, 0, none⟩), .pointer (some ⟨B2, 0, none⟩), .pointer (some ⟨B3, 0, none⟩)]) encKA xs 3000 w := by
  have no : (verP ps i na = none ∨ verP ps i nb = none) → GivesF Try.prog (.func (.func 51) #[] #[.pointer (some ⟨B1, 0, none⟩), .pointer (some ⟨B2, 0, none⟩), .pointer (some ⟨B3, 0, none⟩)]) encKA [] 3000 w := by
    intro hv fn fst cap B0 Inv Brk W Q hY hI hK hIo hKo hB0 hb hQ hQ' h0
    refine callV_func (Go.Proofs.enters_of Try.func51 (by kernel_rfl) rfl) ?_
    refine (touched1_no b ps i na nb B1 B2 B3 fn fst cap W (h.ext hb) (h1.ext hb) (h2.ext hb) (h3.ext hb) hv).mono ?_
    rintro e W' ⟨he, hbW⟩
    exact ⟨he, FrQ.below hbW hQ, .inl (hI.less _ _ Q _ (hI.below h0 hbW) (fun j hj => .inl hj))⟩
  cases hv1 : verP ps i na with
  | none => exact ⟨[], by unfold TouchH; rw [hv1], no (.inl hv1)⟩
  | some pa =>
    cases hv2 : verP ps i nb with
    | none => exact ⟨[], by unfold TouchH; rw [hv1, hv2], no (.inr hv2)⟩
    | some pb =>
      have ver_mem : ∀ n p, verP ps i n = some p → p ∈ ps := by
        intro n p hp
        unfold verP at hp
        split at hp
        · cases hp
        · exact List.mem_of_getElem? hp
      obtain ⟨ta, hta, ea⟩ := h.maps pa (ver_mem _ _ hv1)
      obtain ⟨tb, htb, eb⟩ := h.maps pb (ver_mem _ _ hv2)
      have hk := keyD_of ea eb
      have hl1 := h.small pa (ver_mem _ _ hv1)
      have hl2 := h.small pb (ver_mem _ _ hv2)
      refine ⟨_, by unfold TouchH; rw [hv1, hv2]; exact hk, ?_⟩
      intro fn fst cap B0 Inv Brk W Q hY hI hK hIo hKo hB0 hb hQ hQ' h0
      refine callV_func (Go.Proofs.enters_of Try.func51 (by kernel_rfl) rfl) ?_
      exact touched1_F b ps i na nb pa pb ta tb B1 B2 B3 fn fst cap 3000 B0 Inv Brk hY hI hK hIo hKo hB0 W Q (h.ext hb) hQ (h1.ext hb) (h2.ext hb) (h3.ext hb) hv1 hv2 (hta.ext hb) (htb.ext hb)
        (Tr.all_mono hQ' (Tr.at_all hta.tree)) (Tr.all_mono hQ' (Tr.at_all htb.tree)) (by have := hk.len; rw [List.length_map] at this; omega) h0
end Go.Proofs.Ytmhhejpokgdjoaa
namespace Go.Proofs.Ytmhhejpokgdjoaa
open Go Go.RowKit
set_option linter.unusedVariables false
set_option linter.unusedSimpArgs false
attribute [local go_sem] Oper.semAt_some

theorem TouchH.srt {ps : List (Nat × List E)} {i : Nat} {na nb : Int} {xs : List Nat} (h : TouchH ps i na nb xs) : SrtN xs := by
  unfold TouchH at h
  split at h
  · exact h.srt
  · subst h; exact List.Pairwise.nil
theorem TouchH.len {ps : List (Nat × List E)} {i : Nat} {na nb : Int} {xs : List Nat} (h : TouchH ps i na nb xs) (hs : ∀ p ∈ ps, p.2.length ≤ 200) : xs.length ≤ 400 := by
  unfold TouchH at h
  split at h
  · rename_i p q hp hq
    have ver_mem : ∀ n p, verP ps i n = some p → p ∈ ps := by
      intro n p hp
      unfold verP at hp
      split at hp
      · cases hp
      · exact List.mem_of_getElem? hp
    have a := hs p (ver_mem _ _ hp)
    have b := hs q (ver_mem _ _ hq)
    have := h.len
    omega
  · subst h; simp
theorem rdK_at {w : World} {a : Option Addr} {n c : Nat} {xs : List Nat} (h : Rd w 1 encK (.slice a n c) xs) {k x : Nat} (hk : xs[k]? = some x) : ∃ g o, a = some ⟨g, o, none⟩ ∧ g < w.heap.size ∧ w.cell? ⟨g, o + k, none⟩ = some (.int .u32 (x : Nat)) := by
  obtain ⟨a', c', hv, h⟩ := h
  simp only [Value.slice.injEq] at hv
  obtain ⟨rfl, _, _⟩ := hv
  rcases h with rfl | ⟨g, o, rfl, hg, hc⟩
  · simp at hk
  · have := hc k x 0 _ hk rfl
    exact ⟨g, o, rfl, hg, by simpa using this⟩
set_option maxRecDepth 100000 in
set_option maxHeartbeats 1600000 in
theorem keys_any (b : Nat) (ps : List (Nat × List E)) (i : Nat) (na nb : Int) (w : World) (h : HistP w b ps i) :
    Calls Try.prog 26 #[.pointer (some ⟨b, 0, none⟩), .int .i64 na, .int .i64 nb] w fun e w' => ∃ es xs, TouchH ps i na nb xs ∧ e = .returned (.tuple #[es, .bool true]) ∧ Own w' w.heap.size 48 1 encK es xs ∧ Below w.heap.size w w' := by
  have H := Lib.hid h
  clear h
  go_enter Try.func26, Try.ntmps26
  go_wp2_with fail
  refine (touched_any b na nb w).mono ?_
  rintro e w1 ⟨rfl, hb1, c1, c2, c3⟩
  obtain ⟨xs, hx, hG⟩ := touched_gives b ps i na nb _ _ _ w1 (H.out.ext hb1) c1 c2 c3
  have hl := hx.len H.out.small
  have HX := Lib.hid hx
  have HB1 := Lib.hid hb1
  have hk := keyList_any 51 #[] _ xs 0 w1 hG
  rw [show cutV xs 0 = xs from rfl] at hk
  have HK := Lib.hid hk
  clear hx hG hk hb1 c1 c2 c3
  unfold touchV
  go_wp2_with fail
  refine HK.out.mono ?_
  rintro e w2 ⟨es, rfl, hO, hb2⟩
  obtain ⟨ea, ec, rfl, hef⟩ := own_fits hO
  have HO := Lib.hid hO
  have HB2 := Lib.hid (HB1.out.trans (hb2.mono HB1.out.size))
  have hsz2 := hb2.size
  have HZ := Lib.hid HB1.out.size
  clear hO hb2 HK
  go_wp2
  go_loopw [9, 10] (fun o k wr => ∃ m : Nat, 1 ≤ m ∧ (m ≤ xs.length ∨ m = 1) ∧ k = .int .i64 (m : Int) ∧ o = .bool true ∧ Below w2.heap.size w2 wr) (fun _ k _ => xs.length - (intOf k).toNat)
  case atStart => exact ⟨1, by omega, .inr rfl, rfl, rfl, Below.refl _ _⟩
  case round =>
    obtain ⟨m, hm1, hm2, rfl, rfl, hb⟩ := hrel
    by_cases hlt : m < xs.length
    · have e1 : xs[m]? = some xs[m] := List.getElem?_eq_getElem hlt
      have e0 : xs[m - 1]? = some (xs[m - 1]'(by omega)) := List.getElem?_eq_getElem (by omega)
      have hlt2 : xs[m - 1]'(by omega) < xs[m] := (List.pairwise_iff_getElem.1 HX.out.srt) (m - 1) m (by omega) hlt (by omega)
      generalize xs[m] = x at e1 hlt2
      generalize (xs[m - 1]'(by omega)) = y at e0 hlt2
      have hrd := (HO.out.rd encK_len).ext hb
      obtain ⟨g, o, rfl, hg, f1⟩ := rdK_at hrd e1
      obtain ⟨g', o', hgo, _, f0⟩ := rdK_at hrd e0
      simp only [Option.some.injEq, Addr.mk.injEq, and_true] at hgo
      obtain ⟨rfl, rfl⟩ := hgo
      have dq : decide (y < x) = true := by simpa using hlt2
      have HB := Lib.hid hb
      have hm3 : ((m : Int) - 1).toNat = m - 1 := by omega
      clear e1 e0 hrd hb hlt2
      go_wp2
      refine rgn [0, 1, 2, 3, 4, 5, 6, 7, 8, 9, 10, 11, 12, 13] [8, 11] (by kernel_rfl) ?_
      simp only [pickL, List.getD_cons_zero, List.getD_cons_succ]
      go_wp2
      refine ⟨by simp [chkD, dyn, Region.wanted, yielded, Act.eval, scalarV], ?_⟩
      go_wp2
      go_roundw
      case rel => exact ⟨m + 1, by omega, .inl (by omega), by go_num, rfl, HB.out.drew⟩
      case measure => simp [intOf]; omega
    · have hno : decide ((m : Int) < (xs.length : Int)) = false := by simp; omega
      have HB := Lib.hid hb
      clear hb
      go_wp2
      go_returns
      exact ⟨_, xs, HX.out, rfl, (HO.out.base HZ.out).below HB.out, HB2.out.trans (HB.out.mono HB2.out.size)⟩
end Go.Proofs.Ytmhhejpokgdjoaa
namespace Go.Proofs.Ytmhhejpokgdjoaa
open Go Go.RowKit
set_option linter.unusedVariables false
set_option linter.unusedSimpArgs false

theorem srtN_ext : ∀ {xs ys : List Nat}, SrtN xs → SrtN ys → (∀ k, k ∈ xs ↔ k ∈ ys) → xs = ys
  | [], [], _, _, _ => rfl
  | [], y :: ys, _, _, h => absurd ((h y).2 List.mem_cons_self) (by simp)
  | x :: xs, [], _, _, h => absurd ((h x).1 List.mem_cons_self) (by simp)
  | x :: xs, y :: ys, h1, h2, h => by
    have a1 := List.pairwise_cons.1 h1
    have a2 := List.pairwise_cons.1 h2
    have hxy : x = y := by
      rcases List.mem_cons.1 ((h x).1 List.mem_cons_self) with e | e
      · exact e
      · rcases List.mem_cons.1 ((h y).2 List.mem_cons_self) with e' | e'
        · exact e'.symm
        · have := a1.1 y e'; have := a2.1 x e; omega
    subst hxy
    rw [srtN_ext a1.2 a2.2 (fun k => ?_)]
    constructor
    · intro hk
      rcases List.mem_cons.1 ((h k).1 (List.mem_cons_of_mem _ hk)) with e | e
      · subst e; exact absurd (a1.1 k hk) (Nat.lt_irrefl _)
      · exact e
    · intro hk
      rcases List.mem_cons.1 ((h k).2 (List.mem_cons_of_mem _ hk)) with e | e
      · subst e; exact absurd (a2.1 k hk) (Nat.lt_irrefl _)
      · exact e
theorem KeyD.swap {la lb : List E} {xs ys : List Nat} (h : KeyD la lb xs) (k : KeyD lb la ys) : ys = xs :=
  srtN_ext k.srt h.srt fun q => by
    rw [h.mem, k.mem]
    constructor
    · rintro ⟨a, b⟩; exact ⟨a, fun e => b e.symm⟩
    · rintro ⟨a, b⟩; exact ⟨a, fun e => b e.symm⟩
theorem KeyD.self {la : List E} {xs : List Nat} (h : KeyD la la xs) : xs = [] := by
  cases xs with
  | nil => rfl
  | cons x xs => exact absurd rfl ((h.mem x).1 List.mem_cons_self).2
theorem KeyD.ne {la lb : List E} {xs : List Nat} (h : KeyD la lb xs) {x : Nat} (hx : x ∈ xs) : look la x ≠ look lb x := ((h.mem x).1 hx).2
theorem KeyD.via {la lb lc : List E} {xs ws zs : List Nat} (h1 : KeyD la lb xs) (h2 : KeyD lb lc ws) (h3 : KeyD la lc zs) {x : Nat} (hx : x ∈ zs) (hn : x ∉ xs) : x ∈ ws := by
  obtain ⟨a, b⟩ := (h3.mem x).1 hx
  refine (h2.mem x).2 ⟨a, fun e => b ?_⟩
  rw [← e]
  exact Classical.byContradiction fun h => hn ((h1.mem x).2 ⟨a, h⟩)
/-- Of what one side holds: it is among the keys just if the other side doesn't hold the same. -/
def Half (l1 l2 : List E) (xs : List Nat) : Prop := ∀ e ∈ l1, e.1 ∈ xs ↔ look l2 e.1 ≠ some e.2
theorem KeyD.half {la lb : List E} {xs : List Nat} (h : KeyD la lb xs) (hs : Srt la) (hk : ∀ e ∈ la, e.1 < 4294967296) : Half la lb xs := by
  intro e he
  rw [h.mem, (look_mem hs).2 he]
  exact ⟨fun h e' => h.2 e'.symm, fun h => ⟨hk e he, fun e' => h e'.symm⟩⟩
theorem KeyD.half2 {la lb : List E} {xs : List Nat} (h : KeyD la lb xs) (hs : Srt lb) (hk : ∀ e ∈ lb, e.1 < 4294967296) : Half lb la xs := by
  intro e he
  rw [h.mem, (look_mem hs).2 he]
  exact ⟨fun h e' => h.2 e', fun h => ⟨hk e he, fun e' => h e'⟩⟩
theorem verP_to {ps : List (Nat × List E)} {i j : Nat} {n : Int} {p : Nat × List E} (hi : i < ps.length) (h : ps[j]? = some p) (hn : n + (i : Int) = j) : verP ps i n = some p := by
  have hj := (List.getElem?_eq_some_iff.1 h).1
  unfold verP
  rw [if_neg (by omega), show ((i : Int) + n).toNat = j by omega, h]
theorem verP_no {ps : List (Nat × List E)} {i : Nat} {n : Int} (h : n < -(i : Int) ∨ ((ps.length - 1 - i : Nat) : Int) < n) : verP ps i n = none := by
  unfold verP
  rw [if_pos h]
theorem TouchH.key {ps : List (Nat × List E)} {i : Nat} {na nb : Int} {xs : List Nat} {p q : Nat × List E} (h : TouchH ps i na nb xs) (h1 : verP ps i na = some p) (h2 : verP ps i nb = some q) : KeyD p.2 q.2 xs := by
  unfold TouchH at h
  rw [h1, h2] at h
  exact h
theorem TouchH.no {ps : List (Nat × List E)} {i : Nat} {na nb : Int} {xs : List Nat} (h : TouchH ps i na nb xs) (h1 : verP ps i na = none ∨ verP ps i nb = none) : xs = [] := by
  unfold TouchH at h
  rcases h1 with h1 | h1
  · rw [h1] at h; exact h
  · cases hq : verP ps i na with
    | none => rw [hq] at h; exact h
    | some p => rw [hq, h1] at h; exact h
end Go.Proofs.Ytmhhejpokgdjoaa
