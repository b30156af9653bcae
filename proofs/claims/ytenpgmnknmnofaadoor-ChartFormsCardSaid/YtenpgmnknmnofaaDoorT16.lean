/- The program's word on entries that may be is the document's. -/
import Derived.Test.YtenpgmnknmnofaaDoorT14
namespace Go.Proofs.YtenpgmnknmnofaaDoor
open Go Go.Proofs Go.Wk
theorem noB_acc (a : Int) (h0 : 0 ≤ a) (h1 : a ≤ 255) : noB (accName a) = (decide (a < 1) || decide (9 < a)) := by
  rcases (show a = 0 ∨ a = 1 ∨ a = 2 ∨ a = 3 ∨ a = 4 ∨ a = 5 ∨ a = 6 ∨ a = 7 ∨ a = 8 ∨ a = 9 ∨ 9 < a by omega) with rfl | rfl | rfl | rfl | rfl | rfl | rfl | rfl | rfl | rfl | h
  all_goals first | decide +kernel | skip
  have : accL.length ≤ a.toNat := by show 10 ≤ _; omega
  rw [decide_eq_true h, Bool.or_true]
  unfold accName
  rw [List.getElem?_eq_none this]
  decide +kernel
theorem noB_kind (a : Int) (h0 : 0 ≤ a) (h1 : a ≤ 255) : noB (kindName a) = (decide (a < 1) || decide (7 < a)) := by
  rcases (show a = 0 ∨ a = 1 ∨ a = 2 ∨ a = 3 ∨ a = 4 ∨ a = 5 ∨ a = 6 ∨ a = 7 ∨ 7 < a by omega) with rfl | rfl | rfl | rfl | rfl | rfl | rfl | rfl | h
  all_goals first | decide +kernel | skip
  have : kindL.length ≤ a.toNat := by show 8 ≤ _; omega
  rw [decide_eq_true h, Bool.or_true]
  unfold kindName
  rw [List.getElem?_eq_none this]
  decide +kernel
theorem rightGo_r : ∀ (ls : List Leg) (p : Option Int) (s : Int), (∀ x, x ∈ ls → inK .u8 x.acct) → (∀ a, p = some a → 1 ≤ a) → rightGo s (p.getD 0) ls = rGo ls p s
  | [], _, _, _, _ => rfl
  | l :: r, p, s, hr, hp => by
    obtain ⟨h0, h1⟩ := hr l List.mem_cons_self
    simp only [kLo, kHi] at h0 h1
    unfold rightGo rGo
    rw [noB_acc l.acct h0 h1]
    cases hin : in64 (s + l.amt) with
    | false => rfl
    | true =>
      simp only [cond_true]
      by_cases q1 : l.acct < 1
      · have : l.acct ≤ p.getD 0 := by
          cases p with
          | none => simp only [Option.getD_none]; omega
          | some a => have := hp a rfl; simp only [Option.getD_some]; omega
        simp [q1, this]
      · by_cases q2 : 9 < l.acct
        · simp [q1, q2]
        · have ih := rightGo_r r (some l.acct) (s + l.amt) (fun x hx => hr x (List.mem_cons_of_mem _ hx)) (fun a ha => by cases ha; omega)
          simp only [Option.getD_some] at ih
          cases p with
          | none =>
            have : ¬ l.acct ≤ 0 := by omega
            simp [q1, q2, this, ih]
          | some a => simp [q1, q2, ih]
theorem rights (k : Key) (hk : inK .u8 k.kind) (ls : List Leg) (hr : ∀ x, x ∈ ls → inK .u8 x.acct) : rightB k ls = rightR k ls := by
  obtain ⟨h0, h1⟩ := hk
  simp only [kLo, kHi] at h0 h1
  unfold rightB rightR dayB
  rw [noB_kind k.kind h0 h1, ← rightGo_r ls none 0 hr (fun a ha => by cases ha)]
  by_cases q1 : k.kind < 1
  · simp [q1]
  · by_cases q2 : 7 < k.kind
    · simp [q1, q2]
    · by_cases q3 : k.day < 0
      · have : ¬ 0 ≤ k.day := by omega
        simp [q1, q2, q3, this]
      · by_cases q4 : 3652058 < k.day
        · have : ¬ k.day ≤ 3652058 := by omega
          simp [q1, q2, q3, q4, this]
        · have e1 : 0 ≤ k.day := by omega
          have e2 : k.day ≤ 3652058 := by omega
          cases ls with
          | nil => simp [q1, q2, q3, q4, e1, e2]
          | cons x r =>
            have e3 : ((((x :: r).length : Nat) : Int) == 0) = false := by simp; omega
            have e4 : ¬ (((x :: r).length : Nat) : Int) < 1 := by simp; omega
            simp only [e3, e4, q1, q2, q3, q4, e1, e2, decide_true, decide_false, Bool.or_self, Bool.and_self, Bool.not_true, cond_false, Option.getD_none]
end Go.Proofs.YtenpgmnknmnofaaDoor
