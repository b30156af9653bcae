/- The document's word on entries that are alike, and on those that may be: the walk. -/
import Derived.Test.YtenpgmnknmnofaaDoorT7
import Derived.Test.YtenpgmnknmnofaaDoorT12
namespace Go.Proofs.YtenpgmnknmnofaaDoor
open Go Go.Proofs Go.Wk
def legEq (x y : Leg) : Bool := x.acct == y.acct && (x.amt == y.amt && true)
def legsEq : List Leg → List Leg → Bool
  | [], [] => true
  | x :: r, y :: s => legEq x y && legsEq r s
  | _, _ => false
def sameB (k l : Key) (a b : List Leg) : Bool := eqK k l && legsEq a b
theorem legsEq_len : ∀ {a b : List Leg}, a.length ≠ b.length → legsEq a b = false
  | [], [], h => absurd rfl h
  | [], _ :: _, _ => rfl
  | _ :: _, [], _ => rfl
  | x :: r, y :: s, h => by
    rw [legsEq, legsEq_len (by simpa using h), Bool.and_false]
end Go.Proofs.YtenpgmnknmnofaaDoor
