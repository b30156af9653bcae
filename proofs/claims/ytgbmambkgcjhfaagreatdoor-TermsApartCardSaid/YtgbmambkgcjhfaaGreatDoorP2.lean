/- Long division of 128 bits by 64, digit by digit: the plain law. -/
import Derived.Test.YtgbmambkgcjhfaaGreatDoorK1
import Derived.Lib.BitFns
set_option linter.unusedVariables false
namespace Go.Wk
section
variable {v v1 v0 u n Q q r : Int}
structure KHyp (v v1 v0 u n Q : Int) : Prop where
  ve : v = v1 * 4294967296 + v0
  v1a : 2147483648 ≤ v1
  v1b : v1 < 4294967296
  v0a : 0 ≤ v0
  v0b : v0 < 4294967296
  na : 0 ≤ n
  nb : n < 4294967296
  ua : 0 ≤ u
  ub : u < v
  Qa : Q * v ≤ u * 4294967296 + n
  Qb : u * 4294967296 + n < (Q + 1) * v
theorem mul_split (q v1 v0 : Int) : q * (v1 * 4294967296 + v0) = (q * v1) * 4294967296 + q * v0 := by rw [Int.mul_add, ← Int.mul_assoc]
theorem KHyp.vpos (h : KHyp v v1 v0 u n Q) : 0 < v := by have := h.ve; have := h.v1a; have := h.v0a; omega
theorem lt_of_mul {a b c : Int} (hc : 0 < c) (h : a * c < b * c) : a < b := by
  by_cases e : a < b
  · exact e
  · have := Int.mul_le_mul_of_nonneg_right (show b ≤ a by omega) (show 0 ≤ c by omega)
    omega
theorem KHyp.Q0 (h : KHyp v v1 v0 u n Q) : 0 ≤ Q := by
  have h1 := h.Qb
  have h2 := h.ua
  have h3 := h.na
  have h4 : (0 : Int) * v < (Q + 1) * v := by rw [Int.zero_mul]; omega
  have := lt_of_mul h.vpos h4
  omega
theorem KHyp.Q1 (h : KHyp v v1 v0 u n Q) : Q < 4294967296 := by
  refine lt_of_mul h.vpos ?_
  have h1 := h.Qa
  have h2 := h.ub
  have h3 := h.nb
  omega
structure KInv (v1 u Q q r : Int) : Prop where
  e : q * v1 + r = u
  lo : Q ≤ q
  hi : q ≤ 4294967297
  r0 : 0 ≤ r
theorem KHyp.start (h : KHyp v v1 v0 u n Q) : KInv v1 u Q (u / v1) (u - u / v1 * v1) ∧ u - u / v1 * v1 < v1 := by
  have hv1 : 0 < v1 := by have := h.v1a; omega
  have h1 := Int.emod_nonneg u (show v1 ≠ 0 by omega)
  have h2 := Int.emod_lt_of_pos u hv1
  have h3 := Int.mul_ediv_add_emod u v1
  rw [Int.mul_comm] at h3
  refine ⟨⟨by omega, ?_, ?_, by omega⟩, by omega⟩
  · refine (Int.le_ediv_iff_mul_le hv1).2 ?_
    have h4 := h.Qa
    rw [h.ve, mul_split] at h4
    have h5 := Int.mul_nonneg h.Q0 h.v0a
    have := h.nb
    omega
  · have h6 : u / v1 < 4294967298 := by
      refine Int.ediv_lt_of_lt_mul hv1 ?_
      have := h.ub
      have := h.ve
      have := h.v0b
      have := h.v1a
      omega
    omega
theorem KHyp.exact (h : KHyp v v1 v0 u n Q) (hi : Q ≤ q) (c : q * v ≤ u * 4294967296 + n) : q = Q := by
  have h1 := h.Qb
  have := lt_of_mul h.vpos (show q * v < (Q + 1) * v by omega)
  omega
/-- The digit's bound holds: it is the digit. -/
theorem KHyp.stop (h : KHyp v v1 v0 u n Q) (hi : KInv v1 u Q q r) (c : q * v0 ≤ 4294967296 * r + n) : q = Q := by
  refine h.exact hi.lo ?_
  rw [h.ve, mul_split]
  have := hi.e
  omega
/-- One too large: one less. -/
theorem KHyp.dec (h : KHyp v v1 v0 u n Q) (hi : KInv v1 u Q q r) (c : 4294967296 ≤ q ∨ 4294967296 * r + n < q * v0) : KInv v1 u Q (q - 1) (r + v1) := by
  have hq : Q < q := by
    rcases c with c | c
    · have := h.Q1; omega
    · refine lt_of_mul h.vpos ?_
      have h1 : u * 4294967296 + n < q * v := by
        rw [h.ve, mul_split]
        have := hi.e
        omega
      have := h.Qa
      omega
  refine ⟨?_, by omega, by have := hi.hi; omega, by have := hi.r0; have := h.v1a; omega⟩
  have := hi.e
  rw [Int.sub_mul, Int.one_mul]
  omega
/-- What is left ahead is too large to go on: it is the digit. -/
theorem KHyp.break_ (h : KHyp v v1 v0 u n Q) (hi : KInv v1 u Q q r) (hq : q ≤ 4294967296) (hr : 4294967296 ≤ r) : q = Q := by
  refine h.stop hi ?_
  have h0 : 0 ≤ q := by have := h.Q0; have := hi.lo; omega
  have h1 : q * v0 ≤ 4294967296 * v0 := Int.mul_le_mul_of_nonneg_right hq h.v0a
  have := h.v0b
  have := h.na
  omega
end
/-- The bits of a number. -/
theorem bitLenAux_le : ∀ (f x : Nat), Lib.bitLenAux f x ≤ f
  | 0, _ => Nat.le_refl _
  | f + 1, x => by
    unfold Lib.bitLenAux
    split
    · omega
    · have := bitLenAux_le f (x / 2); omega
theorem bitLenAux_ok : ∀ (f x : Nat), 0 < x → x < 2 ^ f → 1 ≤ Lib.bitLenAux f x ∧ 2 ^ (Lib.bitLenAux f x - 1) ≤ x ∧ x < 2 ^ Lib.bitLenAux f x
  | 0, x, h, h2 => by simp at h2; omega
  | f + 1, x, h, h2 => by
    unfold Lib.bitLenAux
    rw [if_neg (by omega)]
    by_cases hx : x / 2 = 0
    · have h1 : x = 1 := by omega
      subst h1
      have : Lib.bitLenAux f (1 / 2) = 0 := by cases f <;> simp [Lib.bitLenAux]
      rw [this]; decide
    · have hp : 2 ^ (f + 1) = 2 * 2 ^ f := by rw [Nat.pow_succ, Nat.mul_comm]
      obtain ⟨h3, h4, h5⟩ := bitLenAux_ok f (x / 2) (by omega) (by omega)
      refine ⟨by omega, ?_, ?_⟩
      · have e : 2 ^ (1 + Lib.bitLenAux f (x / 2) - 1) = 2 * 2 ^ (Lib.bitLenAux f (x / 2) - 1) := by
          rw [show 1 + Lib.bitLenAux f (x / 2) - 1 = (Lib.bitLenAux f (x / 2) - 1) + 1 by omega, Nat.pow_succ, Nat.mul_comm]
        rw [e]; omega
      · have e : 2 ^ (1 + Lib.bitLenAux f (x / 2)) = 2 * 2 ^ Lib.bitLenAux f (x / 2) := by rw [Nat.add_comm, Nat.pow_succ, Nat.mul_comm]
        rw [e]; omega
theorem bitLen_ok {x : Nat} (h : 0 < x) (h2 : x < 18446744073709551616) : 1 ≤ Lib.bitLen x ∧ Lib.bitLen x ≤ 64 ∧ 2 ^ (Lib.bitLen x - 1) ≤ x ∧ x < 2 ^ Lib.bitLen x := by
  obtain ⟨a, b, c⟩ := bitLenAux_ok 64 x h h2
  exact ⟨a, bitLenAux_le 64 x, b, c⟩
/-- Shifted till its highest bit stands in front. -/
theorem norm_ok {y : Nat} (h : 0 < y) (h2 : y < 18446744073709551616) : 9223372036854775808 ≤ y * 2 ^ (64 - Lib.bitLen y) ∧ y * 2 ^ (64 - Lib.bitLen y) < 18446744073709551616 := by
  obtain ⟨a, b, c, d⟩ := bitLen_ok h h2
  have hp : 0 < 2 ^ (64 - Lib.bitLen y) := Nat.pow_pos (by omega)
  have e1 : 2 ^ (Lib.bitLen y - 1) * 2 ^ (64 - Lib.bitLen y) = 9223372036854775808 := by
    rw [← Nat.pow_add, show Lib.bitLen y - 1 + (64 - Lib.bitLen y) = 63 by omega]
  have e2 : 2 ^ Lib.bitLen y * 2 ^ (64 - Lib.bitLen y) = 18446744073709551616 := by
    rw [← Nat.pow_add, show Lib.bitLen y + (64 - Lib.bitLen y) = 64 by omega]
  constructor
  · rw [← e1]; exact Nat.mul_le_mul_right _ c
  · rw [← e2]; exact Nat.mul_lt_mul_of_pos_right d hp
end Go.Wk
