/- Days and dates, in plain numbers. -/
import Derived.Test.YtgbmambkgcjhfaaGreatDoorK1
set_option linter.unusedVariables false
namespace Go.Wk
def leapB (y : Int) : Bool := decide (y % 4 = 0) && (!decide (y % 100 = 0) || decide (y % 400 = 0))
/-- The number of a year's first day. -/
def beg (y : Int) : Int := (y - 1) * 365 + (y - 1) / 4 - (y - 1) / 100 + (y - 1) / 400
def lenM (y m : Int) : Int := if m = 4 ∨ m = 6 ∨ m = 9 ∨ m = 11 then 30 else if m = 2 then (if leapB y = true then 29 else 28) else 31
/-- The length of a month, 0 of what is none. -/
def lenG (y m : Int) : Int := if y < 1 ∨ 9999 < y ∨ m < 1 ∨ 12 < m then 0 else lenM y m
/-- The days of a year ahead of a month. -/
def offM (y m : Int) : Int := (if m ≤ 1 then 0 else if m = 2 then 31 else if m = 3 then 59 else if m = 4 then 90 else if m = 5 then 120 else if m = 6 then 151 else if m = 7 then 181 else if m = 8 then 212 else if m = 9 then 243 else if m = 10 then 273 else if m = 11 then 304 else if m = 12 then 334 else 365) + (if leapB y = true ∧ 2 < m then 1 else 0)
def numD (y m d : Int) : Int := beg y + offM y m + d - 1
structure Dat (y m d : Int) : Prop where
  y1 : 1 ≤ y
  y2 : y ≤ 9999
  m1 : 1 ≤ m
  m2 : m ≤ 12
  d1 : 1 ≤ d
  d2 : d ≤ lenM y m
theorem beg_succ {y : Int} (h : 1 ≤ y) : beg (y + 1) = beg y + 365 + (if leapB y = true then 1 else 0) := by
  unfold beg leapB
  by_cases a : y % 4 = 0 <;> by_cases b : y % 100 = 0 <;> by_cases c : y % 400 = 0 <;> simp [a, b, c] <;> omega
theorem beg_one : beg 1 = 0 := by decide
theorem beg_top : beg 10000 = 3652059 := by decide
theorem beg_mono {y z : Int} (h : 1 ≤ y) (hyz : y ≤ z) : beg y ≤ beg z := by
  unfold beg; omega
theorem beg_lt {y z : Int} (h : 1 ≤ y) (hyz : y < z) : beg y + 365 ≤ beg z := by
  unfold beg; omega
theorem month_cases {m : Int} (h1 : 1 ≤ m) (h2 : m ≤ 12) : m = 1 ∨ m = 2 ∨ m = 3 ∨ m = 4 ∨ m = 5 ∨ m = 6 ∨ m = 7 ∨ m = 8 ∨ m = 9 ∨ m = 10 ∨ m = 11 ∨ m = 12 := by omega
theorem off_succ {y m : Int} (h1 : 1 ≤ m) (h2 : m ≤ 12) : offM y (m + 1) = offM y m + lenM y m := by
  unfold offM lenM
  cases leapB y <;> rcases month_cases h1 h2 with rfl | rfl | rfl | rfl | rfl | rfl | rfl | rfl | rfl | rfl | rfl | rfl <;> decide
theorem off_one (y : Int) : offM y 1 = 0 := by unfold offM; cases leapB y <;> decide
theorem off_end {y : Int} : offM y 13 = 365 + (if leapB y = true then 1 else 0) := by unfold offM; cases leapB y <;> decide
theorem len_pos {y m : Int} : 28 ≤ lenM y m ∧ lenM y m ≤ 31 := by
  unfold lenM
  split
  · omega
  · split
    · split <;> omega
    · omega
theorem off_mono {y m k : Int} (h1 : 1 ≤ m) (hk : m < k) (h2 : k ≤ 13) : offM y m + lenM y m ≤ offM y k := by
  have key : ∀ n : Nat, m + 1 + (n : Int) ≤ 13 → offM y m + lenM y m ≤ offM y (m + 1 + (n : Int)) := by
    intro n
    induction n with
    | zero => intro _; rw [show m + 1 + ((0 : Nat) : Int) = m + 1 by omega, off_succ h1 (by omega)]; omega
    | succ n ih =>
      intro h
      have h3 := ih (by omega)
      have h4 := off_succ (y := y) (m := m + 1 + (n : Int)) (by omega) (by omega)
      have h5 := (len_pos (y := y) (m := m + 1 + (n : Int))).1
      rw [show m + 1 + ((n + 1 : Nat) : Int) = m + 1 + (n : Int) + 1 by omega, h4]
      omega
  have := key (k - (m + 1)).toNat (by omega)
  rwa [show m + 1 + (((k - (m + 1)).toNat : Nat) : Int) = k by omega] at this
theorem lenG_eq {y m : Int} (h1 : 1 ≤ y) (h2 : y ≤ 9999) (h3 : 1 ≤ m) (h4 : m ≤ 12) : lenG y m = lenM y m := by
  unfold lenG; rw [if_neg (by omega)]
theorem dat_iff {y m d : Int} : (1 ≤ d ∧ d ≤ lenG y m) ↔ Dat y m d := by
  unfold lenG
  by_cases h : y < 1 ∨ 9999 < y ∨ m < 1 ∨ 12 < m
  · rw [if_pos h]
    constructor
    · intro h; omega
    · rintro ⟨a, b, c, d, _, _⟩; omega
  · rw [if_neg h]
    constructor
    · intro h; exact ⟨by omega, by omega, by omega, by omega, h.1, h.2⟩
    · intro h; exact ⟨h.d1, h.d2⟩
/-- A date's number lies within its year. -/
theorem num_year {y m d : Int} (h : Dat y m d) : beg y ≤ numD y m d ∧ numD y m d < beg (y + 1) := by
  have h1 := off_mono (y := y) h.m1 (show m < 13 by have := h.m2; omega) (Int.le_refl _)
  have h2 := off_end (y := y)
  have h3 := beg_succ h.y1
  have h4 : 0 ≤ offM y m := by
    by_cases e : m = 1
    · rw [e, off_one]; omega
    · have := off_mono (y := y) (m := 1) (k := m) (by omega) (by have := h.m1; omega) (by have := h.m2; omega)
      have := off_one y
      have := (len_pos (y := y) (m := 1)).1
      omega
  have := h.d1
  have := h.d2
  unfold numD
  omega
theorem num_range {y m d : Int} (h : Dat y m d) : 0 ≤ numD y m d ∧ numD y m d ≤ 3652058 := by
  obtain ⟨h1, h2⟩ := num_year h
  have h3 := beg_mono (y := 1) (z := y) (by omega) h.y1
  have h4 := beg_mono (y := y + 1) (z := 10000) (by have := h.y1; omega) (by have := h.y2; omega)
  rw [beg_one] at h3
  rw [beg_top] at h4
  omega
theorem num_inj {y m d y' m' d' : Int} (h : Dat y m d) (h' : Dat y' m' d') (e : numD y m d = numD y' m' d') : y = y' ∧ m = m' ∧ d = d' := by
  obtain ⟨a1, a2⟩ := num_year h
  obtain ⟨b1, b2⟩ := num_year h'
  have ey : y = y' := by
    by_cases l : y < y'
    · have := beg_mono (y := y + 1) (z := y') (by have := h.y1; omega) (by omega); omega
    · by_cases g : y' < y
      · have := beg_mono (y := y' + 1) (z := y) (by have := h'.y1; omega) (by omega); omega
      · omega
  subst ey
  have := h.d1; have := h.d2; have := h'.d1; have := h'.d2
  unfold numD at e
  have em : m = m' := by
    by_cases l : m < m'
    · have := off_mono (y := y) h.m1 l (by have := h'.m2; omega); omega
    · by_cases g : m' < m
      · have := off_mono (y := y) h'.m1 g (by have := h.m2; omega); omega
      · omega
  subst em
  exact ⟨rfl, rfl, by omega⟩
end Go.Wk
