/-
  No cell of these rows narrows 'for every input' (looked for: loops, veiled, ifaces, maps, wideKeys, modest, calm, conditions, laid).
  DERIVED. THE GIVEN ROWS OF THIS SEAT. 4 by the template 'for every input the law returns true; each argument reads behind the call as it read before'; 0 by the template 'total and deterministic' (their statements: YtenpgmnknmnofaaTotals.lean).
  GIVEN WITH THE SEED: the statements are not yours to turn. If you find one false, say at which input.
  Laid BY PROGRAM, IN A SANDBOX (cutbox-rows.mjs): the forced cells as the released guide's own fill.sh prints them over the translation 1f5de7c2e7b4080e… (all of the seat's roots in one cut). By AI agents, Wed Nov 11 2026. No macro, syntax, notation, axiom, sorry.
-/
import Derived.Test.YtenpgmnknmnofaaChecked
import GoSem.Claim
import GoSem.ClaimJoined
import GoSem.ClaimMapViews
import Derived.JoinedTies
import Derived.KernelRfl
namespace Go.Proofs.Ytenpgmnknmnofaa
/- THE CELL 'sum', in the pinned program and in every row, IS THE sha256 OF THE DUMP (.gsa) THAT YtenpgmnknmnofaaProg.lean LOADS. Nothing in Lean hashes anything: it is a label: what it is worth is what the hold of that sum in a sandbox is worth. -/
noncomputable def Try.pinned : Pinned := { name := "ytenpgmnknmnofaa", sum := "1f5de7c2e7b4080ebe2c41b55b482860fc6486ff89b164d6ad9c1898c4c37be6", checked := Try.checked }
namespace Rows
def none {H : Type} : Left H := { results := [], args := [] }

/-- 'arrearslaw13.ChartMakes': WHATEVER THE INPUT: true; the input reads as it did. -/
def chartMakesSpec : ChangeSpec := { name := "chartMakes", fn := fun _ => fun
  | [d1, d2] => { results := [.lit (.bool true)], args := [d1, d2] }
  | _ => none }
def chartMakesRow : OpenClaim := { program := "ytenpgmnknmnofaa", sum := "1f5de7c2e7b4080ebe2c41b55b482860fc6486ff89b164d6ad9c1898c4c37be6", func := "arrears/arrearslaw13.ChartMakes", spec := "chartMakes", unfollowed := true, recurses := true, apart := false }
def ChartMakesSaid : Prop := chartMakesRow.holds Try.pinned (OpenSpec.ofChange chartMakesSpec)

/-- ITS FALSE NEIGHBOUR: 'it returns false'. Refute it at one input. -/
def chartMakesWrong : ChangeSpec := { name := "chartMakes", fn := fun _ => fun
  | [d1, d2] => { results := [.lit (.bool false)], args := [d1, d2] }
  | _ => none }
def ChartMakesWrongFalsely : Prop := chartMakesRow.holds Try.pinned (OpenSpec.ofChange chartMakesWrong)

/-- 'arrearslaw13.ChartOrders': WHATEVER THE INPUT: true; the input reads as it did. -/
def chartOrdersSpec : ChangeSpec := { name := "chartOrders", fn := fun _ => fun
  | [d1, d2, d3] => { results := [.lit (.bool true)], args := [d1, d2, d3] }
  | _ => none }
def chartOrdersRow : OpenClaim := { program := "ytenpgmnknmnofaa", sum := "1f5de7c2e7b4080ebe2c41b55b482860fc6486ff89b164d6ad9c1898c4c37be6", func := "arrears/arrearslaw13.ChartOrders", spec := "chartOrders", unfollowed := true, recurses := true, apart := false }
def ChartOrdersSaid : Prop := chartOrdersRow.holds Try.pinned (OpenSpec.ofChange chartOrdersSpec)

/-- ITS FALSE NEIGHBOUR: 'it returns false'. Refute it at one input. -/
def chartOrdersWrong : ChangeSpec := { name := "chartOrders", fn := fun _ => fun
  | [d1, d2, d3] => { results := [.lit (.bool false)], args := [d1, d2, d3] }
  | _ => none }
def ChartOrdersWrongFalsely : Prop := chartOrdersRow.holds Try.pinned (OpenSpec.ofChange chartOrdersWrong)

/-- 'arrearslaw13.ChartLegs': WHATEVER THE INPUT: true; the input reads as it did. -/
def chartLegsSpec : ChangeSpec := { name := "chartLegs", fn := fun _ => fun
  | [d1, d2, d3] => { results := [.lit (.bool true)], args := [d1, d2, d3] }
  | _ => none }
def chartLegsRow : OpenClaim := { program := "ytenpgmnknmnofaa", sum := "1f5de7c2e7b4080ebe2c41b55b482860fc6486ff89b164d6ad9c1898c4c37be6", func := "arrears/arrearslaw13.ChartLegs", spec := "chartLegs", unfollowed := true, recurses := true, apart := false }
def ChartLegsSaid : Prop := chartLegsRow.holds Try.pinned (OpenSpec.ofChange chartLegsSpec)

/-- ITS FALSE NEIGHBOUR: 'it returns false'. Refute it at one input. -/
def chartLegsWrong : ChangeSpec := { name := "chartLegs", fn := fun _ => fun
  | [d1, d2, d3] => { results := [.lit (.bool false)], args := [d1, d2, d3] }
  | _ => none }
def ChartLegsWrongFalsely : Prop := chartLegsRow.holds Try.pinned (OpenSpec.ofChange chartLegsWrong)

/-- 'arrearslaw13.ChartSames': WHATEVER THE INPUT: true; the input reads as it did. -/
def chartSamesSpec : ChangeSpec := { name := "chartSames", fn := fun _ => fun
  | [d1, d2, d3, d4] => { results := [.lit (.bool true)], args := [d1, d2, d3, d4] }
  | _ => none }
def chartSamesRow : OpenClaim := { program := "ytenpgmnknmnofaa", sum := "1f5de7c2e7b4080ebe2c41b55b482860fc6486ff89b164d6ad9c1898c4c37be6", func := "arrears/arrearslaw13.ChartSames", spec := "chartSames", unfollowed := true, recurses := true, apart := false }
def ChartSamesSaid : Prop := chartSamesRow.holds Try.pinned (OpenSpec.ofChange chartSamesSpec)

/-- ITS FALSE NEIGHBOUR: 'it returns false'. Refute it at one input. -/
def chartSamesWrong : ChangeSpec := { name := "chartSames", fn := fun _ => fun
  | [d1, d2, d3, d4] => { results := [.lit (.bool false)], args := [d1, d2, d3, d4] }
  | _ => none }
def ChartSamesWrongFalsely : Prop := chartSamesRow.holds Try.pinned (OpenSpec.ofChange chartSamesWrong)

/- THE SECOND FORM. 'bulk': how many values and letters a reading holds, each counted each time it is reached (what is shared counts as often as it is met; a slice's spare places count too). A statement '..UptoSaid' is the law's where the arguments, and the package variables that the reading takes, are together of bulk at most 1048576: NARROWER than '..Said'. Prove '..Said' where nothing that the law and all that it calls make is longer than what came in: it says more and counts as full. Else prove '..UptoSaid'. A law counts once. -/
mutual
def uptoBulk {H : Type} : DataW H → Nat
  | .lit (.string bytes) => bytes.length + 1
  | .lit _ => 1
  | .nil => 1
  | .ptr d => uptoBulk d + 1
  | .slice elems spare => uptoBulkAll elems + uptoBulkAll spare + 1
  | .agg parts => uptoBulkAll parts + 1
  | .iface _ d => uptoBulk d + 1
  | .map entries => uptoBulkEntries entries + 1
  | .held _ => 1
def uptoBulkAll {H : Type} : List (DataW H) → Nat
  | [] => 0
  | d :: r => uptoBulk d + uptoBulkAll r
def uptoBulkEntries {H : Type} : List (Lit × DataW H) → Nat
  | [] => 0
  | x :: r => uptoBulkEntry x + uptoBulkEntries r
def uptoBulkEntry {H : Type} : Lit × DataW H → Nat
  | (.string bytes, d) => bytes.length + uptoBulk d + 1
  | (_, d) => uptoBulk d + 1
 end
def uptoSmall : (H : Type) → List (DataW H) → Bool := fun _ ds => decide (uptoBulkAll ds ≤ 1048576)
def OpenSpec.upto (s : _root_.Go.ChangeSpec) : _root_.Go.OpenSpec := { _root_.Go.OpenSpec.ofChange s with cond := some uptoSmall }

/-- 'arrearslaw13.ChartMakes', WHERE WHAT IT READS IS OF BULK AT MOST 1048576: true; the input reads as it did. -/
def chartMakesUptoRow : OpenClaim := { program := "ytenpgmnknmnofaa", sum := "1f5de7c2e7b4080ebe2c41b55b482860fc6486ff89b164d6ad9c1898c4c37be6", func := "arrears/arrearslaw13.ChartMakes", spec := "chartMakes", unfollowed := true, recurses := true, apart := false, narrowed := true }
def ChartMakesUptoSaid : Prop := chartMakesUptoRow.holds Try.pinned (OpenSpec.upto chartMakesSpec)

/-- 'arrearslaw13.ChartOrders', WHERE WHAT IT READS IS OF BULK AT MOST 1048576: true; the input reads as it did. -/
def chartOrdersUptoRow : OpenClaim := { program := "ytenpgmnknmnofaa", sum := "1f5de7c2e7b4080ebe2c41b55b482860fc6486ff89b164d6ad9c1898c4c37be6", func := "arrears/arrearslaw13.ChartOrders", spec := "chartOrders", unfollowed := true, recurses := true, apart := false, narrowed := true }
def ChartOrdersUptoSaid : Prop := chartOrdersUptoRow.holds Try.pinned (OpenSpec.upto chartOrdersSpec)

/-- 'arrearslaw13.ChartLegs', WHERE WHAT IT READS IS OF BULK AT MOST 1048576: true; the input reads as it did. -/
def chartLegsUptoRow : OpenClaim := { program := "ytenpgmnknmnofaa", sum := "1f5de7c2e7b4080ebe2c41b55b482860fc6486ff89b164d6ad9c1898c4c37be6", func := "arrears/arrearslaw13.ChartLegs", spec := "chartLegs", unfollowed := true, recurses := true, apart := false, narrowed := true }
def ChartLegsUptoSaid : Prop := chartLegsUptoRow.holds Try.pinned (OpenSpec.upto chartLegsSpec)

/-- 'arrearslaw13.ChartSames', WHERE WHAT IT READS IS OF BULK AT MOST 1048576: true; the input reads as it did. -/
def chartSamesUptoRow : OpenClaim := { program := "ytenpgmnknmnofaa", sum := "1f5de7c2e7b4080ebe2c41b55b482860fc6486ff89b164d6ad9c1898c4c37be6", func := "arrears/arrearslaw13.ChartSames", spec := "chartSames", unfollowed := true, recurses := true, apart := false, narrowed := true }
def ChartSamesUptoSaid : Prop := chartSamesUptoRow.holds Try.pinned (OpenSpec.upto chartSamesSpec)

end Rows
end Go.Proofs.Ytenpgmnknmnofaa
