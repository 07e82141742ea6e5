/- The walks of trie.Diff's iterator, differs and changes over any two maps: what is told is difs. -/
import Derived.Test.YtihmhledogppmaaDoorTd
import Derived.Test.YtihmhledogppmaaDoorDg
import Derived.Test.YtihmhledogppmaaDoorSc
namespace Go.Proofs.YtihmhledogppmaaDoor
open Go Go.RowKit
set_option linter.unusedVariables false
set_option linter.unusedSimpArgs false

set_option maxRecDepth 100000 in
theorem diff1_walk (ba bb B1 B2 : Nat) (m1 m2 : Int) (pa pb : Value) (fn : Fn) (fst cap : Array Value) (R : Ending → World → Prop) (hR : ∀ e w, R e w → ∃ o, e = .returned (.bool o)) (w : World)
    (c1 : w.cell? ⟨B1, 0, none⟩ = some (.pointer (some ⟨ba, 0, none⟩))) (c2 : w.cell? ⟨B2, 0, none⟩ = some (.pointer (some ⟨bb, 0, none⟩))) (c3 : w.cell? ⟨ba, 0, none⟩ = some pa) (c4 : w.cell? ⟨bb, 0, none⟩ = some pb)
    (hd : Calls Tryd.prog 62 #[pa, pb, .int .i64 0, .int .u32 0, .func fn fst cap] w.drew R) :
    Calls Tryd.prog 61 #[.func fn fst cap, .pointer (some ⟨B1, 0, none⟩), .pointer (some ⟨B2, 0, none⟩)] w fun e w' => (∃ v, e = .returned v) ∧ ∃ o, R (.returned (.bool o)) w' := by
  have HD := Lib.hid hd
  clear hd
  go_enter Tryd.func61, Tryd.ntmps61
  refine rgn [0, 1, 2, 3, 4, 5, 6, 7, 8, 9] [] (by kernel_rfl) ?_
  simp only [pickL, List.getD_cons_zero, List.getD_cons_succ]
  go_wp2_with (go_at_call 62; refine HD.out.mono ?_; rintro e w1 hr; obtain ⟨o, rfl⟩ := hR _ _ hr)
  refine ⟨rfl, ?_⟩
  go_wp2
  go_returns
  exact ⟨⟨_, rfl⟩, o, hr⟩
theorem differ_0 (d : Nat) (hd : d = 7) (a b : Tr (d + 1)) (fn : Fn) (fst cap : Array Value) (N : Nat) (hN : (difs a b 0).length ≤ N) (Inv Brk : List Ch → (Nat → Prop) → World → Prop) (hY : YdN Tryd.prog (.func fn fst cap) chE N Inv Brk) (hI : Abide Inv) (hK : Abide Brk)
    (hIo : ∀ Q, Go.Own (fun pre W => Inv pre Q W)) (hKo : ∀ Q, Go.Own (fun pre W => Brk pre Q W)) (Q : Nat → Prop) (w : World) (hQ : ∀ k, Q k → k < w.heap.size) (ha : a.at w) (hb : b.at w) (haQ : a.all Q) (hbQ : b.all Q) (h0 : Inv [] Q w) :
    Calls Tryd.prog 62 #[a.ptr, b.ptr, .int .i64 0, .int .u32 0, .func fn fst cap] w fun e w' => (∃ o, e = .returned (.bool o)) ∧ FrQ Q w w' ∧ (Inv (difs a b 0) Q w' ∨ ∃ p x q, difs a b 0 = p ++ x :: q ∧ Brk (p ++ [x]) Q w') := by
  have h := differ_anyF fn fst cap (difs a b 0) Inv Brk (hY.ydF hN) hI hK (nil_F fn fst cap (difs a b 0) N hN Inv Brk hY hI hK hIo hKo) (fun d a b w h1 h2 h3 => Tr.at_inj h1 h2 h3) d a b 0 0 [] [] Q w (by omega) hQ ha hb haQ hbQ (by simp) (by rw [hd]; decide) h0
  refine h.mono ?_
  rintro e w1 ⟨hF, ⟨rfl, hi⟩ | ⟨rfl, p, x, q, hpq, hbk⟩⟩
  · exact ⟨⟨_, rfl⟩, hF, .inl hi⟩
  · exact ⟨⟨_, rfl⟩, hF, .inr ⟨p, x, q, hpq, hbk⟩⟩
theorem diff1_F (ba bb B1 B2 : Nat) (a b : Tr 8) (fn : Fn) (fst cap : Array Value) (N : Nat) (hN : (difs a b 0).length ≤ N) (Inv Brk : List Ch → (Nat → Prop) → World → Prop) (hY : YdN Tryd.prog (.func fn fst cap) chE N Inv Brk) (hI : Abide Inv) (hK : Abide Brk)
    (hIo : ∀ Q, Go.Own (fun pre W => Inv pre Q W)) (hKo : ∀ Q, Go.Own (fun pre W => Brk pre Q W)) (Q : Nat → Prop) (w : World) (hQ : ∀ k, Q k → k < w.heap.size) (ha : MapT w ba a) (hb : MapT w bb b) (haQ : a.all Q) (hbQ : b.all Q)
    (h1 : Holds w B1 [.pointer (some ⟨ba, 0, none⟩)]) (h2 : Holds w B2 [.pointer (some ⟨bb, 0, none⟩)]) (h0 : Inv [] Q w) :
    Calls Tryd.prog 61 #[.func fn fst cap, .pointer (some ⟨B1, 0, none⟩), .pointer (some ⟨B2, 0, none⟩)] w fun e w' => (∃ v, e = .returned v) ∧ FrQ Q w w' ∧ (Inv (difs a b 0) Q w' ∨ ∃ p x q, difs a b 0 = p ++ x :: q ∧ Brk (p ++ [x]) Q w') := by
  have h0' : Inv [] Q w.drew := hI.less _ _ Q _ (hI.below h0 (Below.refl _ _).drew) (fun j hj => .inl hj)
  have hd := differ_0 7 rfl a b fn fst cap N hN Inv Brk hY hI hK hIo hKo Q w.drew hQ (Tr.at_ext (Below.refl _ _).drew ha.map.tree) (Tr.at_ext (Below.refl _ _).drew hb.map.tree) haQ hbQ h0'
  refine (diff1_walk ba bb B1 B2 0 0 a.ptr b.ptr fn fst cap _ ?_ w (h1.cell (i := 0) rfl) (h2.cell (i := 0) rfl) (ha.map.map.cell (i := 0) rfl) (hb.map.map.cell (i := 0) rfl) hd).mono ?_
  · rintro e w1 ⟨h, _⟩
    exact h
  · rintro e w1 ⟨hv, o, _, hF, hr⟩
    exact ⟨hv, ⟨fun k hk => hF.1 k hk, hF.2⟩, hr⟩
set_option maxRecDepth 100000 in
set_option maxHeartbeats 800000 in
theorem differs_any (ba bb : Nat) (a b : Tr 8) (stop : Int) (hs : stop ≠ 0) (w : World) (ha : MapT w ba a) (hb : MapT w bb b) (hN : (difs a b 0).length ≤ 5000) :
    Calls Tryd.prog 35 #[.pointer (some ⟨ba, 0, none⟩), .pointer (some ⟨bb, 0, none⟩), .int .i64 stop, .int .i64 5000] w fun e w' => ∃ cs, e = .returned cs ∧ Own w' w.heap.size 64 7 encC cs (cutL (difs a b 0) stop) ∧ Below w.heap.size w w' := by
  have hE : ∀ x y w, (binOp .eql 113 (.func (.func 61) #[] #[.pointer (some ⟨x, 0, none⟩), .pointer (some ⟨y, 0, none⟩)]) .nilFunc).run Tryd.prog w = .ok (.bool false) w := fun x y w => run_eql_func (P := Tryd.prog) (t := 113) (by kernel_rfl) _ _ _ w
  have hq : (stop == 0) = false := by simpa using hs
  have HA := Lib.hid ha
  have HB := Lib.hid hb
  have HN := Lib.hid hN
  have HS := Lib.hid hs
  clear ha hb hN hs
  go_enter Tryd.func35, Tryd.ntmps35
  go_wp2_with fail
  refine (diff_any ba bb w).mono ?_
  rintro e w1 ⟨rfl, hb1, h1, h2⟩
  have A1 := HA.out.ext hb1
  have B1 := HB.out.ext hb1
  have hal0 := Holds.alloc w1 (tkCells (.slice none 0 0) (.slice none 0 0) stop 5000 0 false false) 109
  have hbal : Below w1.heap.size w1 (w1.alloc (.cells (tkCells (.slice none 0 0) (.slice none 0 0) stop 5000 0 false false).toArray 109)) := (Below.refl _ _).alloc (Nat.le_refl _) _
  obtain ⟨W2, hW2⟩ : ∃ W2, W2 = w1.alloc (.cells (tkCells (.slice none 0 0) (.slice none 0 0) stop 5000 0 false false).toArray 109) := ⟨_, rfl⟩
  have hal : ∀ {d : Nat} {t : Tr d}, t.at w1 → t.all (fun k => k < w1.heap.size) := fun h => Tr.at_all h
  have hc := diff1_F ba bb w.heap.size (w.heap.size + 1) a b (.func 55) #[.pointer (some ⟨w1.heap.size, 0, none⟩)] #[] 100000 (by have := HN.out; omega) _ _ (change_yd w1.heap.size w1 stop 5000) (RunC.abide _ _ _ _ _) (RunC.abide _ _ _ _ _) (RunC.own _ _ _ _ _) (RunC.own _ _ _ _ _)
    (fun k => k < w1.heap.size) W2 (fun k hk => by rw [hW2]; simp; omega) (by rw [hW2]; exact A1.ext hbal) (by rw [hW2]; exact B1.ext hbal) (Tr.at_all A1.map.tree) (Tr.at_all B1.map.tree) (by rw [hW2]; exact h1.ext hbal) (by rw [hW2]; exact h2.ext hbal)
    ⟨⟨_, by rw [hW2]; exact hal0, own_nil _ _ _ _ _, by simp [Value.ownBlock]⟩, by simp, fun k hk => by rw [hW2]; simp; omega, by rw [hW2]; exact ⟨rfl, rfl, rfl⟩, by simp, by simp⟩
  have hbW : Below w1.heap.size w1 W2 := by rw [hW2]; exact hbal
  rw [hW2] at hc
  rw [hW2] at hbW
  have HC := Lib.hid hc
  have HW := Lib.hid hbW
  have hsz := Lib.hid hb1
  clear A1 B1 hal0 hbal hc h1 h2 HA HB hb1 hal hW2 hbW
  unfold diffV
  go_wp2_with fail
  refine HC.out.mono ?_
  rintro e w2 ⟨⟨v, rfl⟩, hF, hr⟩
  obtain ⟨hsm, cs, n, ov, hH, hO⟩ := runC_end HS.out (by have := HN.out; omega) hr
  have hB : Below w1.heap.size w1 w2 := ⟨hsm.1, hsm.2.1, hsm.2.2, Nat.le_trans HW.out.size hF.2, fun k hk => (hF.1 k hk).trans (HW.out.block k hk)⟩
  have c1 := hH.cell (i := 1) rfl
  have c6 := hH.cell (i := 6) rfl
  have G := Lib.hid (hsz.out.trans (hB.mono hsz.out.size))
  have O := Lib.hid (hO.base (base' := w.heap.size) (by have := hsz.out.size; omega))
  clear hH hO hB hF hr hsz HW HC hsm
  go_wp2
  go_returns
  exact ⟨_, rfl, O.out, G.out⟩
theorem changes_any (ba bb : Nat) (a b : Tr 8) (stop : Int) (hs : stop ≠ 0) (w : World) (ha : MapT w ba a) (hb : MapT w bb b) (hN : (difs a b 0).length ≤ 5000) :
    Calls Tryd.prog 25 #[.pointer (some ⟨ba, 0, none⟩), .pointer (some ⟨bb, 0, none⟩), .int .i64 stop] w fun e w' => ∃ cs, e = .returned cs ∧ Own w' w.heap.size 64 7 encC cs (cutL (difs a b 0) stop) ∧ Below w.heap.size w w' := by
  have hd := Lib.hid (differs_any ba bb a b stop hs w ha hb hN)
  clear ha hb hN
  go_enter Tryd.func25, Tryd.ntmps25
  go_wp2_with (go_at_call 35; refine hd.out.mono ?_; rintro e w1 ⟨cs, rfl, hO, hb1⟩)
  go_returns
  exact ⟨_, rfl, hO, hb1⟩
end Go.Proofs.YtihmhledogppmaaDoor
