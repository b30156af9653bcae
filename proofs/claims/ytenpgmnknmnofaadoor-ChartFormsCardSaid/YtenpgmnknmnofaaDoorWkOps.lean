/- Operators on whole numbers that ask for a condition: rest, quotient, shift, bits. -/
import Derived.Test.YtenpgmnknmnofaaDoorWkRow
set_option linter.unusedVariables false
namespace Go.Wk
section
variable {P : Program} {T : Tab} {K : Value → World → Prop} {w : World} {B : Base} {S S' : List Asn} {F : List Fact}
theorem rem_rule {t : TypeId} {ox oy : Operand} {k : IntKind} {x y : Int} (hy : y ≠ 0) (h : K (.int k (x.tmod y)) w) : BinK P K w .rem t ox oy (.int k x) (.int k y) := by
  refine BinK.of ?_ h
  simp [binS, eqGuard, binOp, Op.intDiv, hy]
theorem rem_as {t : TypeId} {ox oy : Operand} {k : IntKind} {x y : Int} (v : Int) (hy : y ≠ 0) (hv : x.tmod y = v) (h : K (.int k v) w) : BinK P K w .rem t ox oy (.int k x) (.int k y) := by
  subst hv; exact rem_rule hy h
theorem quo_rule {t : TypeId} {ox oy : Operand} {k : IntKind} {x y : Int} (hy : y ≠ 0) (h : K (.int k (k.wrap (x.tdiv y))) w) : BinK P K w .quo t ox oy (.int k x) (.int k y) := by
  refine BinK.of ?_ h
  simp [binS, eqGuard, binOp, Op.intDiv, hy]
theorem shr_rule {t : TypeId} {ox oy : Operand} {k k' : IntKind} {x y : Int} (hy : 0 ≤ y) (h : K (.int k (x.fdiv (2 ^ min y.toNat k.bits))) w) : BinK P K w .shr t ox oy (.int k x) (.int k' y) := by
  refine BinK.of ?_ h
  simp [binS, eqGuard, binOp, Op.shift, Int.not_lt.2 hy]
theorem quo_as {t : TypeId} {ox oy : Operand} {k : IntKind} {x y : Int} (v : Int) (hy : y ≠ 0) (hv : k.wrap (x.tdiv y) = v) (h : K (.int k v) w) : BinK P K w .quo t ox oy (.int k x) (.int k y) := by
  subst hv; exact quo_rule hy h
theorem shr_as {t : TypeId} {ox oy : Operand} {k k' : IntKind} {x y : Int} (v : Int) (hy : 0 ≤ y) (hv : x.fdiv (2 ^ min y.toNat k.bits) = v) (h : K (.int k v) w) : BinK P K w .shr t ox oy (.int k x) (.int k' y) := by
  subst hv; exact shr_rule hy h
/-- The index of a string that is known. -/
theorem str_at (hT : T.Ok P) {t : TypeId} {it : TypeInfo} {s : ByteArray} {kd : IntKind} {j : Int} (ht : T t = some ⟨.string, it⟩) (h0 : 0 ≤ j) {b : UInt8} (hb : s[j.toNat]? = some b) (k : K (.int .u8 b.toNat) w) : IndexK P K w t (.string s) (.int kd j) := by
  refine IndexK.of (v := .int .u8 b.toNat) (w' := w) ?_ k
  simp [Instr.index, asIntOf, run_und hT ht, h0, hb]
theorem shl_rule {t : TypeId} {ox oy : Operand} {k k' : IntKind} {x y : Int} (hy : 0 ≤ y) (h : K (.int k (k.wrap (x * 2 ^ min y.toNat k.bits))) w) : BinK P K w .shl t ox oy (.int k x) (.int k' y) := by
  refine BinK.of ?_ h
  simp [binS, eqGuard, binOp, Op.shift, Int.not_lt.2 hy]
theorem and_rule {t : TypeId} {ox oy : Operand} {k : IntKind} {x y : Int} (h : K (.int k (k.wrap (BitVec.ofInt k.bits x &&& BitVec.ofInt k.bits y).toNat)) w) : BinK P K w .and t ox oy (.int k x) (.int k y) := by
  refine BinK.of ?_ h
  simp [binS, eqGuard, binOp, Op.intBits]
theorem or_rule {t : TypeId} {ox oy : Operand} {k : IntKind} {x y : Int} (h : K (.int k (k.wrap (BitVec.ofInt k.bits x ||| BitVec.ofInt k.bits y).toNat)) w) : BinK P K w .or t ox oy (.int k x) (.int k y) := by
  refine BinK.of ?_ h
  simp [binS, eqGuard, binOp, Op.intBits]
theorem xor_rule {t : TypeId} {ox oy : Operand} {k : IntKind} {x y : Int} (h : K (.int k (k.wrap (BitVec.ofInt k.bits x ^^^ BitVec.ofInt k.bits y).toNat)) w) : BinK P K w .xor t ox oy (.int k x) (.int k y) := by
  refine BinK.of ?_ h
  simp [binS, eqGuard, binOp, Op.intBits]
/-- A row that isn't empty lies in a block. -/
theorem Hp.rowSome (H : Hp B S F w) {A : Option Addr} {n c e sz : Nat} {cs : List Value} [hp : TakeR S (.slice A n c) e sz n cs S'] (hn : n ≠ 0) : ∃ b, A = some ⟨b, 0, none⟩ := by
  obtain ⟨fa, ha⟩ := H.own (A := row e sz (.slice A n c) n cs) (hp := ⟨hp.perm⟩)
  obtain ⟨A1, c1, e1, _, _, hb⟩ := row_shape ha
  injection e1 with e1 e2 e3
  subst e1
  exact hb hn
end
end Go.Wk
