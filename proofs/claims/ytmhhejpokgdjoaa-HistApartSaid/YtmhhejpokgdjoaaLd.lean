/- A list of entries with one put or dropped. No program. -/
import Derived.Test.YtmhhejpokgdjoaaTrF
namespace Go.Proofs.Ytmhhejpokgdjoaa
open Go Go.RowKit
set_option linter.unusedVariables false

/-- The list with the key k put (or just dropped, if 'done'). -/
def laidL (k : Nat) (v : V) : Bool → List (Nat × V) → List (Nat × V)
  | done, [] => if done then [] else [(k, v)]
  | done, x :: l => if x.1 = k then laidL k v done l else if done = false ∧ k < x.1 then (k, v) :: x :: laidL k v true l else x :: laidL k v done l
theorem laidL_cons (k : Nat) (v : V) (done : Bool) (x : Nat × V) (l : List (Nat × V)) : laidL k v done (x :: l) = if x.1 = k then laidL k v done l else if done = false ∧ k < x.1 then (k, v) :: x :: laidL k v true l else x :: laidL k v done l := rfl
end Go.Proofs.Ytmhhejpokgdjoaa
