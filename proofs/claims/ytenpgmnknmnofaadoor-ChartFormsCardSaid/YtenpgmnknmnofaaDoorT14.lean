/- Which entries may be, by the document: the walk. -/
import Derived.Test.YtenpgmnknmnofaaDoorT13
namespace Go.Proofs.YtenpgmnknmnofaaDoor
open Go Go.Proofs Go.Wk
def rGo : List Leg → Option Int → Int → Bool
  | [], _, s => s == 0
  | l :: r, p, s => bif in64 (s + l.amt) then (bif decide (l.acct < 1) then false else bif decide (9 < l.acct) then false else bif (match p with
    | none => false
    | some a => decide (l.acct ≤ a)) then false else rGo r (some l.acct) (s + l.amt)) else false
def rightR (k : Key) (ls : List Leg) : Bool := bif decide (k.kind < 1) then false else bif decide (7 < k.kind) then false else bif decide (k.day < 0) then false else bif decide (3652058 < k.day) then false else
  bif decide ((ls.length : Int) < 1) then false else bif decide (8 < (ls.length : Int)) then false else rGo ls none 0
end Go.Proofs.YtenpgmnknmnofaaDoor
