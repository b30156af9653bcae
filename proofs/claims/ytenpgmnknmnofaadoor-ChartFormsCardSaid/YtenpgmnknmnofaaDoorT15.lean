/- Legs of any order make the document's entry: the walk. -/
import Derived.Test.YtenpgmnknmnofaaDoorT14
namespace Go.Proofs.YtenpgmnknmnofaaDoor
open Go Go.Proofs Go.Wk
/-- What the law asks of plain lists. -/
structure MakesOk (k : Key) (ls out : List Leg) : Prop where
  len : out.length ≤ 1000
  same : sameB k k out (refMade ls) = true
  right : rightB k out = rightR k (refMade ls)
  raw : rightB k ls = rightR k ls
end Go.Proofs.YtenpgmnknmnofaaDoor
