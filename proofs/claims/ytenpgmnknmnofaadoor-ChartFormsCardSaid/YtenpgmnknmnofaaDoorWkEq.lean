/- What compares structs, divides, shifts; strings byte by byte. -/
import Derived.Test.YtenpgmnknmnofaaDoorWkMaps
import Derived.Laws.StructEq
set_option linter.unusedVariables false
set_option linter.unusedSimpArgs false
namespace Go.Wk
def leafEq (d : Option TD) (x y : Value) : Option Bool := match d, x, y with
  | some ⟨.int _, _⟩, .int k a, .int k' b => bif kEq k k' then some (a == b) else none
  | some ⟨.bool, _⟩, .bool a, .bool b => some (a == b)
  | some ⟨.string, _⟩, .string a, .string b => some (a.toList == b.toList)
  | _, _, _ => none
def fEq (T : Tab) (xs ys : Array Value) : List Field → Option Bool
  | [] => some true
  | f :: fs => bif f.name == "_" then none else match partV (T f.type) xs f.offset, partV (T f.type) ys f.offset with
    | some a, some b => match leafEq (T f.type) a b, fEq T xs ys fs with
      | some r, some s => some (r && s)
      | _, _ => none
    | _, _ => none
section
variable {P : Program} {T : Tab} {K : Value → World → Prop} {w : World}
theorem leaf_sound (hT : T.Ok P) {d : Nat} {t : TypeId} {x y : Value} {r : Bool} (h : leafEq (T t) x y = some r) (w : World) : (Op.equalIn (d + 1) t x y).run P w = .ok r w := by
  unfold leafEq at h
  split at h
  · rename_i ht
    cases hk : kEq _ _ with
    | false => rw [hk] at h; cases h
    | true =>
      rw [hk] at h
      simp only [cond_true, Option.some.injEq] at h
      obtain rfl := kEq_eq hk
      subst h
      exact run_equalIn_int w d t _ _ _ _ (hT t _ ht).1
  · rename_i ht
    simp only [Option.some.injEq] at h
    subst h
    exact run_equalIn_bool' w d t _ _ (hT t _ ht).1
  · rename_i ht
    simp only [Option.some.injEq] at h
    subst h
    exact run_equalIn_string w d t _ _ (hT t _ ht).1
  · cases h
theorem fEq_sound (hT : T.Ok P) {d : Nat} {xs ys : Array Value} : ∀ {fs : List Field} {r : Bool}, fEq T xs ys fs = some r → ∀ w, (Op.eqFields (d + 1) xs ys fs).run P w = .ok r w
  | [], r, h, w => by simp only [fEq, Option.some.injEq] at h; subst h; rfl
  | f :: fs, r, h, w => by
    unfold fEq at h
    cases hn : (f.name == "_") with
    | true => rw [hn] at h; cases h
    | false =>
      rw [hn] at h
      simp only [cond_false] at h
      have hn' : f.name ≠ "_" := by simpa using hn
      cases ha : partV (T f.type) xs f.offset with
      | none => rw [ha] at h; cases h
      | some a =>
        cases hb : partV (T f.type) ys f.offset with
        | none => rw [ha, hb] at h; cases h
        | some b =>
          rw [ha, hb] at h
          simp only at h
          cases hr : leafEq (T f.type) a b with
          | none => rw [hr] at h; cases h
          | some r1 =>
            cases hs : fEq T xs ys fs with
            | none => rw [hr, hs] at h; cases h
            | some s =>
              rw [hr, hs] at h
              simp only [Option.some.injEq] at h
              subst h
              have ih := fEq_sound hT (d := d) hs
              simp only [Op.eqFields, hn', ne_eq, not_false_eq_true, if_true, Sem.run_bind, run_part hT ha, run_part hT hb, Result.andThen_ok, leaf_sound hT hr, Sem.run_ite]
              cases r1 with
              | false => simp
              | true => simpa using ih w
theorem eq_struct (hT : T.Ok P) {t : TypeId} {fs : Array Field} {i : TypeInfo} {xs ys : Array Value} {ox oy : Operand} {r : Bool} (ht : T t = some ⟨.struct fs, i⟩) (hg : P.eqGuardType P.depth t = false) (hs : P.stoodInHeld t = false)
    (h : fEq T xs ys fs.toList = some r) (k : K (.bool r) w) : BinK P K w .eql t ox oy (.agg xs) (.agg ys) := by
  have hf : P.fieldsOf t = fs := by unfold Program.fieldsOf; rw [(hT t _ ht).1]
  refine BinK.of ?_ k
  simp only [binS, Sem.run_bind, run_eqGuard_agg w .eql t ox oy xs ys hg, Result.andThen_ok, run_eql_struct]
  have := run_equalIn_struct (P := P) w 9999 t xs ys (by rw [hf]; exact (hT t _ ht).1) hs
  rw [this, hf, fEq_sound hT (d := 9998) h]
  rfl
theorem ne_struct (hT : T.Ok P) {t : TypeId} {fs : Array Field} {i : TypeInfo} {xs ys : Array Value} {ox oy : Operand} {r : Bool} (ht : T t = some ⟨.struct fs, i⟩) (hg : P.eqGuardType P.depth t = false) (hs : P.stoodInHeld t = false)
    (h : fEq T xs ys fs.toList = some r) (k : K (.bool (!r)) w) : BinK P K w .neq t ox oy (.agg xs) (.agg ys) := by
  have hf : P.fieldsOf t = fs := by unfold Program.fieldsOf; rw [(hT t _ ht).1]
  refine BinK.of ?_ k
  simp only [binS, Sem.run_bind, run_eqGuard_agg w .neq t ox oy xs ys hg, Result.andThen_ok, run_neq_struct]
  have := run_equalIn_struct (P := P) w 9999 t xs ys (by rw [hf]; exact (hT t _ ht).1) hs
  rw [this, hf, fEq_sound hT (d := 9998) h]
  rfl
end
end Go.Wk
