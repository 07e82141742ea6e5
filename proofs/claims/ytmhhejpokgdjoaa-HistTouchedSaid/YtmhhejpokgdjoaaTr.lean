/- 'levylaw11.HistTouched' answers true at every input, and each argument reads behind the call as it read before; no condition. -/
import Derived.Test.YtmhhejpokgdjoaaTz
import Derived.Test.YtmhhejpokgdjoaaHr
import Derived.Carry
namespace Go.Proofs.Ytmhhejpokgdjoaa.histTouched
open Go Go.ChangeShapes Go.WideShapes Go.ChangeAt Go.RowKit Go.Proofs.Ytmhhejpokgdjoaa

set_option maxRecDepth 100000 in
theorem contract (H : Type) (enc : TypeId × Value → H) (W : World) (base : Nat) (args : Array Value) (ds gs : List (DataW H)) (before : List MemPlace)
    (hval : ∀ (j : Nat) t v, Try.f6.params[j]? = some t → args[j]? = some v → Value.okWide Try.prog W .any base t v)
    (hW : DataW.Whole enc Try.prog Try.f6.params.toList Rows.histTouchedSpec.vars false W args.toList ds gs before) :
    Calls Try.prog 6 args W fun e W' => ∃ v, e = .returned v ∧ Rows.histTouchedSpec.post enc Try.prog Try.f6 false true false false W args v W' := by
  have hW' := hW
  obtain ⟨p, q, hA0, hV, rfl, hfz, hnd⟩ := hW
  have hA : DataW.TrodAll enc Try.prog W 0 (fun _ => true) true Try.f6.params.toList args.toList ds p := hA0
  rw [Try.params6] at hA hval
  obtain ⟨v0, v1, v2, v3, d0, d1, d2, d3, p0, p1, p2, p3, rfl, rfl, rfl, h0, h1, h2, h3⟩ := trodAll_four hA
  obtain ⟨rfl, rfl⟩ := trodVars_none hV
  obtain ⟨l0, r0⟩ := rd_script (okWide_slice Try.underlying22 (hval 0 22 v0 rfl rfl)) h0
  obtain ⟨l1, rfl, i1⟩ := int_of Try.underlying3 (hval 1 3 v1 rfl rfl) h1
  obtain ⟨l2, rfl, i2⟩ := int_of Try.underlying3 (hval 2 3 v2 rfl rfl) h2
  obtain ⟨l3, rfl, i3⟩ := int_of Try.underlying3 (hval 3 3 v3 rfl rfl) h3
  clear hA0
  simp only [List.append_nil] at hW'
  have hin0 : ∀ x ∈ p0, x ∈ p0 ++ p1 ++ p2 ++ p3 := fun x hx => by simp [hx]
  have hlt0 : ∀ x ∈ p0, x.block < W.heap.size := fun x hx => hW'.lt x (hin0 x hx)
  have hin1 : ∀ x ∈ p1, x ∈ p0 ++ p1 ++ p2 ++ p3 := fun x hx => by simp [hx]
  have hlt1 : ∀ x ∈ p1, x.block < W.heap.size := fun x hx => hW'.lt x (hin1 x hx)
  have hin2 : ∀ x ∈ p2, x ∈ p0 ++ p1 ++ p2 ++ p3 := fun x hx => by simp [hx]
  have hlt2 : ∀ x ∈ p2, x.block < W.heap.size := fun x hx => hW'.lt x (hin2 x hx)
  have hin3 : ∀ x ∈ p3, x ∈ p0 ++ p1 ++ p2 ++ p3 := fun x hx => by simp [hx]
  have hlt3 : ∀ x ∈ p3, x.block < W.heap.size := fun x hx => hW'.lt x (hin3 x hx)
  refine (histTouched_any v0 l1 l2 l3 (by omega) (by omega) (by omega) l0 W r0).mono fun e W' ⟨he, hb⟩ => ?_
  subst he
  have hold : ∀ x ∈ p0 ++ p1 ++ p2 ++ p3, (fun b => decide (b < W.heap.size)) x.block = true := fun x hx => by simpa using hW'.lt x hx
  exact ⟨_, rfl, [d0, d1, d2, d3], [], p0 ++ p1 ++ p2 ++ p3, [], p0 ++ (p1 ++ (p2 ++ p3)), [], hW', trodAll_mk1 (shut_bool Try.underlying4 _), trodAll_mk4
      (WideElems.Trod_stays laidOut (by kernel_rfl) (of_decide_eq_true (by kernel_rfl)) h0 (fun x hx => hb.same (hlt0 x hx)) (fun x hx => hold x (hin0 x hx)))
      (WideElems.Trod_stays laidOut (by kernel_rfl) (of_decide_eq_true (by kernel_rfl)) h1 (fun x hx => hb.same (hlt1 x hx)) (fun x hx => hold x (hin1 x hx)))
      (WideElems.Trod_stays laidOut (by kernel_rfl) (of_decide_eq_true (by kernel_rfl)) h2 (fun x hx => hb.same (hlt2 x hx)) (fun x hx => hold x (hin2 x hx)))
      (WideElems.Trod_stays laidOut (by kernel_rfl) (of_decide_eq_true (by kernel_rfl)) h3 (fun x hx => hb.same (hlt3 x hx)) (fun x hx => hold x (hin3 x hx))), rfl, hb.frame _, fun h => by cases h⟩

set_option maxRecDepth 100000 in
theorem lifted (os : Os) (started : os.Started) (H : Type) (enc : TypeId × Value → H) :
    ReturnsInHanded {} Try.checked os 6 .any (Rows.histTouchedSpec.pre6 enc Try.prog Try.f6 Rows.histTouchedRow.domain false) (Rows.histTouchedSpec.post enc Try.prog Try.f6 false true false false) := by
  refine returnsInHanded_of_change (C := Try.checked) own started (by kernel_rfl) Try.func6
    (ChangeSpec.witness6 (enc := enc) (C := Try.checked) false ⟨#[], #[.slice none 0 0, .int .i64 0, .int .i64 0, .int .i64 0], []⟩ 8 (by kernel_rfl) (by kernel_rfl) (by kernel_rfl) (by kernel_rfl)) ?_
  intro W base args ds gs before hval hW hcnd _
  exact contract H enc W base args ds gs before hval hW

theorem said : Rows.HistTouchedSaid :=
  OpenClaim.holds_of_wide 6 Try.f6 rfl rfl rfl rfl rfl rfl rfl ⟨rfl, rfl, rfl, rfl, rfl⟩ rfl rfl rfl rfl rfl (by kernel_rfl) Try.func6 (by kernel_rfl)
    (of_decide_eq_true (by kernel_rfl)) (by unfold Func.isWrapper; first | (rw [if_pos (by decide +kernel)]; kernel_rfl) | (rw [if_neg (by decide +kernel)]; exact ⟨rfl, rfl⟩))
    (fun os started H enc _ => lifted os started H enc)
end Go.Proofs.Ytmhhejpokgdjoaa.histTouched
