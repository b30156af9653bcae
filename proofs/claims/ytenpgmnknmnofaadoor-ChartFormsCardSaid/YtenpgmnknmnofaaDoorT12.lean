/- The document's own sum, and its entry: the walk. -/
import Derived.Test.YtenpgmnknmnofaaDoorT11
namespace Go.Proofs.YtenpgmnknmnofaaDoor
open Go Go.Proofs Go.Wk
def addR (a b : Int) : Value := if in64 (a + b) then .tuple #[.int .i64 (a + b), .bool true] else .tuple #[.int .i64 0, .bool false]
theorem addR_no {a b : Int} (en : in64 (a + b) = false) : Value.tuple #[.int .i64 0, .bool false] = addR a b := by unfold addR; rw [en]; rfl
theorem addR_ok {a b : Int} (en : in64 (a + b) = true) : Value.tuple #[.int .i64 (a + b), .bool true] = addR a b := by unfold addR; rw [en]; rfl
/-- The sum of an account's legs, left to right: none at too great a sum. -/
def accGo (k : Int) : List Leg → Int → Bool → Option (Int × Bool)
  | [], s, b => some (s, b)
  | l :: r, s, b => if l.acct = k then (if in64 (s + l.amt) then accGo k r (s + l.amt) true else none) else accGo k r s b
/-- The document's entry: account by account. -/
def refGo (ls : List Leg) : Nat → Nat → List Leg → List Leg
  | 0, _, out => out
  | d + 1, k, out => match accGo k ls 0 false with
    | none => []
    | some (s, b) => refGo ls d (k + 1) (if b then out ++ [⟨k, s⟩] else out)
theorem accGo_in (k : Int) : ∀ (ls : List Leg) (s : Int) (b : Bool) (p : Int × Bool), inK .i64 s → accGo k ls s b = some p → inK .i64 p.1
  | [], s, b, p, hs, h => by simp only [accGo, Option.some.injEq] at h; subst h; exact hs
  | l :: r, s, b, p, hs, h => by
    unfold accGo at h
    split at h
    · split at h
      · rename_i en
        simp only [in64, Bool.and_eq_true, decide_eq_true_eq] at en
        exact accGo_in k r _ _ p ⟨en.1, en.2⟩ h
      · cases h
    · exact accGo_in k r s b p hs h
def refMade (ls : List Leg) : List Leg := refGo ls 256 0 []
def RefAt (ls : List Leg) (i : Nat) (out : List Leg) : Prop := ∃ d, i + d = 256 ∧ refMade ls = refGo ls d i out
theorem refGo_zero (ls : List Leg) : RefAt ls 0 [] := ⟨256, rfl, rfl⟩
end Go.Proofs.YtenpgmnknmnofaaDoor
