/- A slice of zeros that is made; how many entries a map has. -/
import Derived.Test.YtjlfjjgjghdokaaGreatDoorK4
set_option linter.unusedVariables false
namespace Go.Wk
section
variable {P : Program} {T : Tab} {K : Value → World → Prop} {w : World} {B : Base} {S S' : List Asn} {F : List Fact}
theorem mapLen_rule {κ ν : Type} {kf : κ → Value} {vf : ν → Value} {n : Nat} {l : List (κ × ν)} (hT : T.Ok P) (H : Hp B S F w) [hp : TakeM S n kf vf l S'] {t ty kt et : TypeId} {i : TypeInfo} {cst : List Bool} (ht : T t = some ⟨.map kt et, i⟩)
    (k : K (.int .i64 (l.length : Int)) w) : BuiltinK P K w .len [t] ty cst [.map (some n)] := by
  obtain ⟨fa, _, es, clock, h1, h2, _⟩ := H.own (A := mapO n kf vf l) (hp := ⟨hp.perm⟩)
  have hlen : es.size = l.length := by simpa using congrArg List.length h2
  refine BuiltinK.of (v := .int .i64 (l.length : Int)) (w' := w) ?_ k
  have hg : (getObj n).run P w = .ok (.map es clock) w := by simp [getObj, Sem.run, h1]
  simp [builtin, Builtin.len_, run_und hT ht, hg, goInt, hlen]
theorem makeSlice_rule (hT : T.Ok P) (H : Hp B S F w) {t e : TypeId} {it : TypeInfo} {de : TD} {z : Value} {n : Nat} (cs : List Value) (ht : T t = some ⟨.slice e, it⟩) (he : T e = some de) (hz : de.info.zero = some z)
    (hs : ((Array.range (n * de.info.size)).map (z.cells[· % z.cells.size]!)).toList = cs) (hn : Nat.ble n 1000 = true) (h0 : Nat.beq (n * de.info.size) 0 = false) (hb : Nat.ble de.info.bytes 1000 = true) (k : ∀ g w', Hp B (blk g cs e :: S) F w' → K (.slice (some ⟨g, 0, none⟩) n n) w') : MakeSliceK P K w t (.int .i64 (n : Int)) (.int .i64 (n : Int)) := by
  have hn' := Nat.le_of_ble_eq_true hn
  have hb' := Nat.le_of_ble_eq_true hb
  have h0' : n * de.info.size ≠ 0 := Nat.ne_of_beq_eq_false h0
  have ew : IntKind.i64.wrap (n : Int) = (n : Int) := w64 (by omega) (by omega)
  have hm : de.info.bytes * n ≤ 1000000 := Nat.le_trans (Nat.mul_le_mul hb' hn') (by decide)
  have hm1 : ¬ ((de.info.bytes : Int) * (n : Int) > 2 ^ 48) := by
    have : ((de.info.bytes * n : Nat) : Int) ≤ 1000000 := Int.ofNat_le.2 hm
    rw [Int.natCast_mul] at this
    omega
  have hm2 : ¬ (n * de.info.bytes > roomBytes) := by
    rw [Nat.mul_comm]
    unfold roomBytes
    omega
  refine MakeSliceK.of (w' := w.alloc (.cells cs.toArray e)) (v := .slice (some ⟨w.heap.size, 0, none⟩) n n) ?_ (k _ _ (H.alloc _))
  simp only [Instr.makeSlice, Sem.run_bind, run_und hT ht, Result.andThen_ok, asInt, asIntOf, Sem.run_pure, run_info hT he, ew]
  have c3 : ¬ (((n : Int) < 0 ∨ 281474976710656 < (de.info.bytes : Int) * (n : Int)) ∨ (n : Int) < 0) := by omega
  have hA : cs.toArray = (Array.range (n * de.info.size)).map (z.cells[· % z.cells.size]!) := by rw [← hs]
  rw [hA]
  simp [askRoom, hm2, run_szOf hT he, h0', zero_rule hT he hz, newRow, c3]
end
end Go.Wk
