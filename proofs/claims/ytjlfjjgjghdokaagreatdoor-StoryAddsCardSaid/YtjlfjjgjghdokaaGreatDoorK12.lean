/- Structs in structs compared. -/
import Derived.Test.YtjlfjjgjghdokaaGreatDoorK11
set_option linter.unusedVariables false
namespace Go.Wk
/-- As fEq, whatever compares the fields. -/
def fEqW (g : TypeId → Value → Value → Option Bool) (T : Tab) (xs ys : Array Value) : List Field → Option Bool
  | [] => some true
  | f :: fs => bif f.name == "_" then none else match partV (T f.type) xs f.offset, partV (T f.type) ys f.offset with
    | some a, some b => match g f.type a b, fEqW g T xs ys fs with
      | some r, some s => some (r && s)
      | _, _ => none
    | _, _ => none
/-- Values compared through so many structs of the types that are named. -/
def leafN (T : Tab) (oks : List TypeId) : Nat → TypeId → Value → Value → Option Bool
  | 0, t, x, y => leafEq (T t) x y
  | n + 1, t, x, y => match T t, x, y with
    | some ⟨.struct fs, _⟩, .agg xs, .agg ys => bif oks.contains t then fEqW (leafN T oks n) T xs ys fs.toList else none
    | _, _, _ => leafEq (T t) x y
section
variable {P : Program} {T : Tab} {K : Value → World → Prop} {w : World}
theorem fEqW_sound (hT : T.Ok P) {g : TypeId → Value → Value → Option Bool} {d : Nat} {xs ys : Array Value} (hg : ∀ t x y r, g t x y = some r → ∀ w, (Op.equalIn (d + 1) t x y).run P w = .ok r w) :
    ∀ {fs : List Field} {r : Bool}, fEqW g T xs ys fs = some r → ∀ w, (Op.eqFields (d + 1) xs ys fs).run P w = .ok r w
  | [], r, h, w => by simp only [fEqW, Option.some.injEq] at h; subst h; rfl
  | f :: fs, r, h, w => by
    unfold fEqW at h
    cases hn : (f.name == "_") with
    | true => rw [hn] at h; cases h
    | false =>
      rw [hn] at h
      simp only [cond_false] at h
      have hn' : f.name ≠ "_" := by simpa using hn
      cases ha : partV (T f.type) xs f.offset with
      | none => rw [ha] at h; cases h
      | some a =>
        cases hb : partV (T f.type) ys f.offset with
        | none => rw [ha, hb] at h; cases h
        | some b =>
          rw [ha, hb] at h
          simp only at h
          cases hr : g f.type a b with
          | none => rw [hr] at h; cases h
          | some r1 =>
            cases hs : fEqW g T xs ys fs with
            | none => rw [hr, hs] at h; cases h
            | some s =>
              rw [hr, hs] at h
              simp only [Option.some.injEq] at h
              subst h
              have ih := fEqW_sound hT hg hs
              simp only [Op.eqFields, hn', ne_eq, not_false_eq_true, if_true, Sem.run_bind, run_part hT ha, run_part hT hb, Result.andThen_ok, hg _ _ _ _ hr, Sem.run_ite]
              cases r1 with
              | false => simp
              | true => simpa using ih w
theorem leafN_sound (hT : T.Ok P) {oks : List TypeId} (ho : ∀ t, oks.contains t = true → P.stoodInHeld t = false) : ∀ (n d : Nat), n ≤ d → ∀ (t : TypeId) (x y : Value) (r : Bool), leafN T oks n t x y = some r → ∀ w, (Op.equalIn (d + 1) t x y).run P w = .ok r w
  | 0, d, _, t, x, y, r, h, w => leaf_sound hT h w
  | n + 1, d, hd, t, x, y, r, h, w => by
    unfold leafN at h
    split at h
    · rename_i fs i xs ys ht
      cases hc : oks.contains t with
      | false => rw [hc] at h; cases h
      | true =>
        rw [hc] at h
        simp only [cond_true] at h
        have hf : P.fieldsOf t = fs := by unfold Program.fieldsOf; rw [(hT t _ ht).1]
        have := run_equalIn_struct (P := P) w d t xs ys (by rw [hf]; exact (hT t _ ht).1) (ho t hc)
        rw [this, hf]
        obtain ⟨d', rfl⟩ : ∃ d', d = d' + 1 := ⟨d - 1, by omega⟩
        exact fEqW_sound hT (leafN_sound hT ho n d' (by omega)) h w
    · exact leaf_sound hT h w
/-- == at a struct with structs in it. -/
theorem eqN_struct (hT : T.Ok P) (oks : List TypeId) (n : Nat) {t : TypeId} {xs ys : Array Value} {ox oy : Operand} {r : Bool} (ho : ∀ t, oks.contains t = true → P.stoodInHeld t = false) (hn : Nat.ble n 9999 = true) (hg : P.eqGuardType P.depth t = false)
    (h : leafN T oks n t (.agg xs) (.agg ys) = some r) (k : K (.bool r) w) : BinK P K w .eql t ox oy (.agg xs) (.agg ys) := by
  refine BinK.of ?_ k
  have e := leafN_sound hT ho n 9999 (Nat.le_of_ble_eq_true hn) t (.agg xs) (.agg ys) r h w
  simp only [binS, Sem.run_bind, run_eqGuard_agg w .eql t ox oy xs ys hg, Result.andThen_ok, run_eql_struct]
  rw [e]
  rfl
theorem neN_struct (hT : T.Ok P) (oks : List TypeId) (n : Nat) {t : TypeId} {xs ys : Array Value} {ox oy : Operand} {r : Bool} (ho : ∀ t, oks.contains t = true → P.stoodInHeld t = false) (hn : Nat.ble n 9999 = true) (hg : P.eqGuardType P.depth t = false)
    (h : leafN T oks n t (.agg xs) (.agg ys) = some r) (k : K (.bool (!r)) w) : BinK P K w .neq t ox oy (.agg xs) (.agg ys) := by
  refine BinK.of ?_ k
  have e := leafN_sound hT ho n 9999 (Nat.le_of_ble_eq_true hn) t (.agg xs) (.agg ys) r h w
  simp only [binS, Sem.run_bind, run_eqGuard_agg w .neq t ox oy xs ys hg, Result.andThen_ok, run_neq_struct]
  rw [e]
  rfl
end
end Go.Wk
