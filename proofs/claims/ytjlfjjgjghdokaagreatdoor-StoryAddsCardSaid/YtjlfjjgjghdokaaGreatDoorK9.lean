/- Rows of structs without slices: their cells one behind the other, and how they read. -/
import Derived.Test.YtjlfjjgjghdokaaGreatDoorK8
set_option linter.unusedVariables false
set_option linter.unusedSimpArgs false
namespace Go.Wk
section
variable {α : Type} {f : α → List Value} {sz : Nat}
def flatL (f : α → List Value) : List α → List Value
  | [] => []
  | x :: r => f x ++ flatL f r
theorem flatL_len (h : ∀ x, (f x).length = sz) : ∀ xs : List α, (flatL f xs).length = xs.length * sz
  | [] => by simp [flatL]
  | x :: r => by rw [flatL, List.length_append, h, flatL_len h r, List.length_cons, Nat.add_mul, Nat.one_mul, Nat.add_comm]
theorem flatL_app : ∀ a b : List α, flatL f (a ++ b) = flatL f a ++ flatL f b
  | [], _ => rfl
  | x :: a, b => by simp [flatL, flatL_app a b]
theorem flatL_snoc (a : List α) (x : α) : flatL f (a ++ [x]) = flatL f a ++ f x := by rw [flatL_app]; simp [flatL]
theorem flatL_at (h : ∀ x, (f x).length = sz) : ∀ {xs : List α} {i : Nat} {x : α}, xs[i]? = some x → ((flatL f xs).drop (i * sz)).take sz = f x
  | [], i, x, e => by simp at e
  | y :: r, 0, x, e => by
    simp only [List.getElem?_cons_zero, Option.some.injEq] at e
    subst e
    rw [Nat.zero_mul, List.drop_zero, flatL, ← h y, List.take_left]
  | y :: r, i + 1, x, e => by
    rw [flatL, Nat.add_mul, Nat.one_mul, Nat.add_comm (i * sz), ← List.drop_drop, ← h y, List.drop_left, h y]
    exact flatL_at h (by simpa using e)
end
section
variable {B : Base} {S S' : List Asn} {F : List Fact} {w : World}
/-- A row of plain structs that nobody turns any more reads as a list. -/
theorem Hp.frzFlat {α : Type} (H : Hp B S F w) (sz : Nat) (f : α → List Value) (hf : ∀ x, (f x).length = sz) (ok : α → Prop) {v : Value} {e n : Nat} {xs : List α} [h1 : TakeR S v e sz n (flatL f xs) S'] (hM : ∀ b, ¬ B.M b) (hp : 0 < sz) (hok : ∀ x, x ∈ xs → ok x) :
    Hp B S' (Sl (⟨sz, Unit, fun x _ => f x, fun x _ => ok x, fun _ _ => [], fun x _ => hf x⟩ : Rp α) v xs :: F) w := by
  have h := H.addCl (⟨sz, Unit, fun x _ => f x, fun x _ => ok x, fun _ _ => [], fun x _ => hf x⟩ : Rp α) (cs := flatL f xs) (xs := xs) (flatL_len hf xs) (fun i x hx => ⟨(), hok x (List.mem_of_getElem? hx), flatL_at hf hx, rfl⟩)
  have h2 := Hp.frzRow (v := v) (xs := xs) h (⟨sz, Unit, fun x _ => f x, fun x _ => ok x, fun _ _ => [], fun x _ => hf x⟩ : Rp α) hM rfl hp
  exact h2.facts fun I ha g hg => by
    rcases List.mem_cons.1 hg with rfl | hg
    · exact ha _ List.mem_cons_self
    · exact ha _ (List.mem_cons_of_mem _ (List.mem_cons_of_mem _ hg))
end
end Go.Wk
