/- trie.differ over any two trees, but for what it does where the first has no node and the other has. -/
import Derived.Test.YtihmhledogppmaaDoorDh
namespace Go.Proofs.YtihmhledogppmaaDoor
open Go Go.RowKit
set_option linter.unusedVariables false

theorem eql_ptr_nil {P : Program} {tp te : TypeId} (a : Addr) (hp : P.underlying tp = some (.pointer te)) (w : World) : (binOp .eql tp (.pointer (some a)) (.pointer none)).run P w = .ok (.bool false) w := by
  have h : ∀ d : Nat, (Op.equalIn (d + 1) tp (.pointer (some a)) (.pointer none)).run P w = .ok false w := fun d => by
    simp [Op.equalIn, run_underlying hp]
  simp only [binOp]
  simp [Op.equal, Op.maxDepth, h 9999]
theorem differ_eqF (fn : Fn) (fst cap : Array Value) (Inv Brk : List Ch → (Nat → Prop) → World → Prop) (hI : Abide Inv) (o : Option Addr) (lv : Int) (head : Nat) (pre : List Ch) (Q : Nat → Prop) (w : World) (hQ : ∀ k, Q k → k < w.heap.size)
    (hE : ∀ w, (binOp .eql 77 (.pointer o) (.pointer o)).run Tryd.prog w = .ok (.bool true) w) (h0 : Inv pre Q w) :
    Calls Tryd.prog 62 #[.pointer o, .pointer o, .int .i64 lv, .int .u32 (head : Nat), .func fn fst cap] w (WentF Inv Brk pre [] Q w) := by
  refine (differ_eq o fn fst cap lv head w hE).mono ?_
  rintro e w' ⟨rfl, hb⟩
  exact ⟨FrQ.below hb hQ, .inl ⟨rfl, by rw [List.append_nil]; exact hI.less _ _ _ _ (hI.below h0 hb) (fun j hj => .inl hj)⟩⟩
/-- What is owed where the first tree has no node. -/
def NilF (fn : Fn) (fst cap : Array Value) (xs : List Ch) (Inv Brk : List Ch → (Nat → Prop) → World → Prop) : Prop :=
  ∀ (d lv bb : Nat) (b : Tr (d + 1)) (head : Nat) (pre post : List Ch) (Q : Nat → Prop) (w : World), lv + d = 7 → b.ptr = .pointer (some ⟨bb, 0, none⟩) → (∀ k, Q k → k < w.heap.size) → b.at w → b.all Q → xs = pre ++ difs Tr.nil b head ++ post → head + 16 ^ (d + 1) ≤ 4294967296 → Inv pre Q w →
    Calls Tryd.prog 62 #[.pointer none, .pointer (some ⟨bb, 0, none⟩), .int .i64 (lv : Nat), .int .u32 (head : Nat), .func fn fst cap] w (WentF Inv Brk pre (difs Tr.nil b head) Q w)
theorem ptr_cases {d : Nat} (a : Tr (d + 1)) : a = Tr.nil ∨ ∃ ba, a.ptr = .pointer (some ⟨ba, 0, none⟩) ∧ Tr.blk a = some ba := by
  cases a with
  | none => exact .inl rfl
  | some p => exact .inr ⟨p.1, rfl, rfl⟩
theorem ne_blk {d : Nat} {a b : Tr (d + 1)} {ba : Nat} (hap : a.ptr = .pointer (some ⟨ba, 0, none⟩)) (hba : Tr.blk a = some ba) (hne : ¬ Tr.blk b = some ba) {Q : Nat → Prop} {w : World} (ha : a.at w) (hb : b.at w) (haQ : a.all Q) (hbQ : b.all Q) :
    ∀ W, FrQ Q w W → (binOp .eql 77 (.pointer (some ⟨ba, 0, none⟩)) b.ptr).run Tryd.prog W = .ok (.bool false) W := by
  intro W hF
  cases b with
  | none => exact eql_ptr_nil _ und_pn W
  | some p =>
    obtain ⟨bb, g⟩ := p
    rw [← hap]
    refine eql_node a bb (nodeCells g) W (hF.tree ha haQ) (hF.tree hb hbQ).1 ?_
    rw [hba]
    intro e
    exact hne (by cases e; rfl)
theorem differ_anyF (fn : Fn) (fst cap : Array Value) (xs : List Ch) (Inv Brk : List Ch → (Nat → Prop) → World → Prop) (hY : YdF Tryd.prog (.func fn fst cap) chE xs Inv Brk) (hI : Abide Inv) (hK : Abide Brk) (hN : NilF fn fst cap xs Inv Brk)
    (hinj : ∀ (d : Nat) (a b : Tr (d + 1)) (w : World), a.at w → b.at w → Tr.blk a = Tr.blk b → a = b) :
    ∀ (d : Nat) (a b : Tr (d + 1)) (lv head : Nat) (pre post : List Ch) (Q : Nat → Prop) (w : World), lv + d = 7 → (∀ k, Q k → k < w.heap.size) → a.at w → b.at w → a.all Q → b.all Q → xs = pre ++ difs a b head ++ post → head + 16 ^ (d + 1) ≤ 4294967296 → Inv pre Q w →
      Calls Tryd.prog 62 #[a.ptr, b.ptr, .int .i64 (lv : Nat), .int .u32 (head : Nat), .func fn fst cap] w (WentF Inv Brk pre (difs a b head) Q w) := by
  intro d
  induction d with
  | zero =>
    intro a b lv head pre post Q w hl hQ ha hb haQ hbQ hx hh h0
    rcases ptr_cases a with rfl | ⟨ba, hap, hba⟩
    · rcases ptr_cases b with rfl | ⟨bb, hbp, hbb⟩
      · rw [difs_self]
        exact differ_eqF fn fst cap Inv Brk hI none lv head pre Q w hQ (fun w => eql_nn und_pn w) h0
      · rw [hbp]
        exact hN 0 lv bb b head pre post Q w hl hbp hQ hb hbQ hx hh h0
    · by_cases hne : Tr.blk b = some ba
      · obtain rfl := hinj 0 a b w ha hb (hba.trans hne.symm)
        rw [difs_self, hap]
        exact differ_eqF fn fst cap Inv Brk hI _ lv head pre Q w hQ (fun w => eql_self ba w) h0
      · rw [hap]
        obtain rfl : lv = 7 := by omega
        exact differ_lowF fn fst cap xs Inv Brk hY hI hK ba a b hap head pre post Q w hQ ha hb haQ hbQ (ne_blk hap hba hne ha hb haQ hbQ) hx (by simpa using hh) h0
  | succ d ih =>
    intro a b lv head pre post Q w hl hQ ha hb haQ hbQ hx hh h0
    rcases ptr_cases a with rfl | ⟨ba, hap, hba⟩
    · rcases ptr_cases b with rfl | ⟨bb, hbp, hbb⟩
      · rw [difs_self]
        exact differ_eqF fn fst cap Inv Brk hI none lv head pre Q w hQ (fun w => eql_nn und_pn w) h0
      · rw [hbp]
        exact hN (d + 1) lv bb b head pre post Q w hl hbp hQ hb hbQ hx hh h0
    · by_cases hne : Tr.blk b = some ba
      · obtain rfl := hinj (d + 1) a b w ha hb (hba.trans hne.symm)
        rw [difs_self, hap]
        exact differ_eqF fn fst cap Inv Brk hI _ lv head pre Q w hQ (fun w => eql_self ba w) h0
      · rw [hap]
        refine differ_highF fn fst cap xs Inv Brk hI hK ba lv a b hap head pre post Q w hl hQ ha hb haQ hbQ (fun i h pre' post' Q' W hQ' ha' hb' haQ' hbQ' hx' hh' h0' => ?_) (ne_blk hap hba hne ha hb haQ hbQ) hx hh h0
        have := ih (a.kid i) (b.kid i) (lv + 1) h pre' post' Q' W (by omega) hQ' ha' hb' haQ' hbQ' hx' hh' h0'
        simpa using this
end Go.Proofs.YtihmhledogppmaaDoor
