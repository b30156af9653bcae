/- Keys stand in the order: the walk. -/
import Derived.Test.YtenpgmnknmnofaaDoorT9
namespace Go.Proofs.YtenpgmnknmnofaaDoor
open Go Go.Proofs Go.Wk
def eqK (a b : Key) : Bool := a.loan == b.loan && (a.day == b.day && (a.kind == b.kind && (a.seq == b.seq && true)))
theorem cmp_neg {a b : Int} : cmpI a b = 0 ↔ a = b := by
  unfold cmpI
  by_cases h : a < b
  · rw [if_pos h]; constructor
    · intro h1; cases h1
    · intro h1; omega
  · rw [if_neg h]
    by_cases h2 : b < a
    · rw [if_pos h2]; constructor
      · intro h1; cases h1
      · intro h1; omega
    · rw [if_neg h2]; constructor
      · intro _; omega
      · intro _; rfl
theorem cmp_swap (a b : Int) : cmpI b a = -cmpI a b := by
  unfold cmpI
  by_cases h : a < b
  · simp only [if_pos h, if_neg (show ¬ b < a by omega)]; omega
  · by_cases h2 : b < a
    · simp only [if_neg h, if_pos h2]
    · simp only [if_neg h, if_neg h2]; omega
theorem eqK_less (a b : Key) : eqK a b = (!lessB a b && !lessB b a) := by
  have c1 := @cmp_neg a.loan b.loan
  have c2 := @cmp_neg a.day b.day
  have c3 := @cmp_neg a.kind b.kind
  have c4 := @cmp_neg a.seq b.seq
  unfold eqK lessB
  rw [cmp_swap a.loan b.loan, cmp_swap a.day b.day, cmp_swap a.kind b.kind, cmp_swap a.seq b.seq]
  generalize cmpI a.loan b.loan = x1 at *
  generalize cmpI a.day b.day = x2 at *
  generalize cmpI a.kind b.kind = x3 at *
  generalize cmpI a.seq b.seq = x4 at *
  have e1 : (a.loan == b.loan) = decide (x1 = 0) := by rw [Bool.eq_iff_iff]; simp [c1]
  have e2 : (a.day == b.day) = decide (x2 = 0) := by rw [Bool.eq_iff_iff]; simp [c2]
  have e3 : (a.kind == b.kind) = decide (x3 = 0) := by rw [Bool.eq_iff_iff]; simp [c3]
  have e4 : (a.seq == b.seq) = decide (x4 = 0) := by rw [Bool.eq_iff_iff]; simp [c4]
  rw [e1, e2, e3, e4]
  simp only [orL, ne_eq, ite_not]
  rw [Bool.eq_iff_iff]
  simp only [Bool.and_eq_true, decide_eq_true_eq, Bool.not_eq_true', decide_eq_false_iff_not, Bool.and_true]
  by_cases h1 : x1 = 0 <;> by_cases h2 : x2 = 0 <;> by_cases h3 : x3 = 0 <;> by_cases h4 : x4 = 0 <;> simp_all <;> omega
theorem acc_min (n : Int) (h0 : 0 ≤ n) : ldV (tb 9) ((accL ++ [(⟨#[]⟩ : ByteArray)]).map Value.string) (0 + (if 10 < n then 10 else n).toNat * 1) = some (.string (accName n)) := by
  show ((accL ++ [(⟨#[]⟩ : ByteArray)]).map Value.string)[0 + (if 10 < n then 10 else n).toNat * 1]? = _
  by_cases h : 10 < n
  · rw [if_pos h]
    have : accL.length ≤ n.toNat := by show 10 ≤ _; omega
    simp only [accName, List.getElem?_eq_none this]
    rfl
  · rw [if_neg h]
    obtain ⟨m, rfl⟩ := Int.eq_ofNat_of_zero_le h0
    have hm : m ≤ 10 := by omega
    rcases (show m = 0 ∨ m = 1 ∨ m = 2 ∨ m = 3 ∨ m = 4 ∨ m = 5 ∨ m = 6 ∨ m = 7 ∨ m = 8 ∨ m = 9 ∨ m = 10 by omega) with rfl | rfl | rfl | rfl | rfl | rfl | rfl | rfl | rfl | rfl | rfl <;> rfl
theorem kind_min (n : Int) (h0 : 0 ≤ n) : ldV (tb 9) ((kindL ++ [(⟨#[]⟩ : ByteArray)]).map Value.string) (0 + (if 8 < n then 8 else n).toNat * 1) = some (.string (kindName n)) := by
  show ((kindL ++ [(⟨#[]⟩ : ByteArray)]).map Value.string)[0 + (if 8 < n then 8 else n).toNat * 1]? = _
  by_cases h : 8 < n
  · rw [if_pos h]
    have : kindL.length ≤ n.toNat := by show 8 ≤ _; omega
    simp only [kindName, List.getElem?_eq_none this]
    rfl
  · rw [if_neg h]
    obtain ⟨m, rfl⟩ := Int.eq_ofNat_of_zero_le h0
    have hm : m ≤ 8 := by omega
    rcases (show m = 0 ∨ m = 1 ∨ m = 2 ∨ m = 3 ∨ m = 4 ∨ m = 5 ∨ m = 6 ∨ m = 7 ∨ m = 8 by omega) with rfl | rfl | rfl | rfl | rfl | rfl | rfl | rfl | rfl <;> rfl
end Go.Proofs.YtenpgmnknmnofaaDoor
