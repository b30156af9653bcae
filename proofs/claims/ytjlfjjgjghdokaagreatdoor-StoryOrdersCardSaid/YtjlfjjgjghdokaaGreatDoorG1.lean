/- Days and dates, in plain numbers. -/
import Derived.Test.YtjlfjjgjghdokaaGreatDoorK1
import Derived.Lib.BitFns
import Derived.Lib.ParseIntB
import Derived.Lib.SplitLaws
import Derived.Lib.Join
import Derived.Lib.ItoaMem
set_option linter.unusedVariables false
namespace Go.Wk
def leapB (y : Int) : Bool := decide (y % 4 = 0) && (!decide (y % 100 = 0) || decide (y % 400 = 0))
/-- The number of a year's first day. -/
def beg (y : Int) : Int := (y - 1) * 365 + (y - 1) / 4 - (y - 1) / 100 + (y - 1) / 400
def lenM (y m : Int) : Int := if m = 4 ∨ m = 6 ∨ m = 9 ∨ m = 11 then 30 else if m = 2 then (if leapB y = true then 29 else 28) else 31
/-- The length of a month, 0 of what is none. -/
def lenG (y m : Int) : Int := if y < 1 ∨ 9999 < y ∨ m < 1 ∨ 12 < m then 0 else lenM y m
/-- The days of a year ahead of a month. -/
def offM (y m : Int) : Int := (if m ≤ 1 then 0 else if m = 2 then 31 else if m = 3 then 59 else if m = 4 then 90 else if m = 5 then 120 else if m = 6 then 151 else if m = 7 then 181 else if m = 8 then 212 else if m = 9 then 243 else if m = 10 then 273 else if m = 11 then 304 else if m = 12 then 334 else 365) + (if leapB y = true ∧ 2 < m then 1 else 0)
def numD (y m d : Int) : Int := beg y + offM y m + d - 1
structure Dat (y m d : Int) : Prop where
  y1 : 1 ≤ y
  y2 : y ≤ 9999
  m1 : 1 ≤ m
  m2 : m ≤ 12
  d1 : 1 ≤ d
  d2 : d ≤ lenM y m
theorem beg_succ {y : Int} (h : 1 ≤ y) : beg (y + 1) = beg y + 365 + (if leapB y = true then 1 else 0) := by
  unfold beg leapB
  by_cases a : y % 4 = 0 <;> by_cases b : y % 100 = 0 <;> by_cases c : y % 400 = 0 <;> simp [a, b, c] <;> omega
theorem beg_one : beg 1 = 0 := by decide
theorem beg_top : beg 10000 = 3652059 := by decide
theorem beg_mono {y z : Int} (h : 1 ≤ y) (hyz : y ≤ z) : beg y ≤ beg z := by
  unfold beg; omega
theorem beg_lt {y z : Int} (h : 1 ≤ y) (hyz : y < z) : beg y + 365 ≤ beg z := by
  unfold beg; omega
theorem month_cases {m : Int} (h1 : 1 ≤ m) (h2 : m ≤ 12) : m = 1 ∨ m = 2 ∨ m = 3 ∨ m = 4 ∨ m = 5 ∨ m = 6 ∨ m = 7 ∨ m = 8 ∨ m = 9 ∨ m = 10 ∨ m = 11 ∨ m = 12 := by omega
theorem off_succ {y m : Int} (h1 : 1 ≤ m) (h2 : m ≤ 12) : offM y (m + 1) = offM y m + lenM y m := by
  unfold offM lenM
  cases leapB y <;> rcases month_cases h1 h2 with rfl | rfl | rfl | rfl | rfl | rfl | rfl | rfl | rfl | rfl | rfl | rfl <;> decide
theorem off_one (y : Int) : offM y 1 = 0 := by unfold offM; cases leapB y <;> decide
theorem off_end {y : Int} : offM y 13 = 365 + (if leapB y = true then 1 else 0) := by unfold offM; cases leapB y <;> decide
theorem len_pos {y m : Int} : 28 ≤ lenM y m ∧ lenM y m ≤ 31 := by
  unfold lenM
  split
  · omega
  · split
    · split <;> omega
    · omega
theorem off_mono {y m k : Int} (h1 : 1 ≤ m) (hk : m < k) (h2 : k ≤ 13) : offM y m + lenM y m ≤ offM y k := by
  have key : ∀ n : Nat, m + 1 + (n : Int) ≤ 13 → offM y m + lenM y m ≤ offM y (m + 1 + (n : Int)) := by
    intro n
    induction n with
    | zero => intro _; rw [show m + 1 + ((0 : Nat) : Int) = m + 1 by omega, off_succ h1 (by omega)]; omega
    | succ n ih =>
      intro h
      have h3 := ih (by omega)
      have h4 := off_succ (y := y) (m := m + 1 + (n : Int)) (by omega) (by omega)
      have h5 := (len_pos (y := y) (m := m + 1 + (n : Int))).1
      rw [show m + 1 + ((n + 1 : Nat) : Int) = m + 1 + (n : Int) + 1 by omega, h4]
      omega
  have := key (k - (m + 1)).toNat (by omega)
  rwa [show m + 1 + (((k - (m + 1)).toNat : Nat) : Int) = k by omega] at this
theorem lenG_eq {y m : Int} (h1 : 1 ≤ y) (h2 : y ≤ 9999) (h3 : 1 ≤ m) (h4 : m ≤ 12) : lenG y m = lenM y m := by
  unfold lenG; rw [if_neg (by omega)]
theorem dat_iff {y m d : Int} : (1 ≤ d ∧ d ≤ lenG y m) ↔ Dat y m d := by
  unfold lenG
  by_cases h : y < 1 ∨ 9999 < y ∨ m < 1 ∨ 12 < m
  · rw [if_pos h]
    constructor
    · intro h; omega
    · rintro ⟨a, b, c, d, _, _⟩; omega
  · rw [if_neg h]
    constructor
    · intro h; exact ⟨by omega, by omega, by omega, by omega, h.1, h.2⟩
    · intro h; exact ⟨h.d1, h.d2⟩
/-- A date's number lies within its year. -/
theorem num_year {y m d : Int} (h : Dat y m d) : beg y ≤ numD y m d ∧ numD y m d < beg (y + 1) := by
  have h1 := off_mono (y := y) h.m1 (show m < 13 by have := h.m2; omega) (Int.le_refl _)
  have h2 := off_end (y := y)
  have h3 := beg_succ h.y1
  have h4 : 0 ≤ offM y m := by
    by_cases e : m = 1
    · rw [e, off_one]; omega
    · have := off_mono (y := y) (m := 1) (k := m) (by omega) (by have := h.m1; omega) (by have := h.m2; omega)
      have := off_one y
      have := (len_pos (y := y) (m := 1)).1
      omega
  have := h.d1
  have := h.d2
  unfold numD
  omega
theorem num_range {y m d : Int} (h : Dat y m d) : 0 ≤ numD y m d ∧ numD y m d ≤ 3652058 := by
  obtain ⟨h1, h2⟩ := num_year h
  have h3 := beg_mono (y := 1) (z := y) (by omega) h.y1
  have h4 := beg_mono (y := y + 1) (z := 10000) (by have := h.y1; omega) (by have := h.y2; omega)
  rw [beg_one] at h3
  rw [beg_top] at h4
  omega
theorem num_inj {y m d y' m' d' : Int} (h : Dat y m d) (h' : Dat y' m' d') (e : numD y m d = numD y' m' d') : y = y' ∧ m = m' ∧ d = d' := by
  obtain ⟨a1, a2⟩ := num_year h
  obtain ⟨b1, b2⟩ := num_year h'
  have ey : y = y' := by
    by_cases l : y < y'
    · have := beg_mono (y := y + 1) (z := y') (by have := h.y1; omega) (by omega); omega
    · by_cases g : y' < y
      · have := beg_mono (y := y' + 1) (z := y) (by have := h'.y1; omega) (by omega); omega
      · omega
  subst ey
  have := h.d1; have := h.d2; have := h'.d1; have := h'.d2
  unfold numD at e
  have em : m = m' := by
    by_cases l : m < m'
    · have := off_mono (y := y) h.m1 l (by have := h'.m2; omega); omega
    · by_cases g : m' < m
      · have := off_mono (y := y) h'.m1 g (by have := h.m2; omega); omega
      · omega
  subst em
  exact ⟨rfl, rfl, by omega⟩
end Go.Wk
/- Long division of 128 bits by 64, digit by digit: the plain law. -/
set_option linter.unusedVariables false
namespace Go.Wk
section
variable {v v1 v0 u n Q q r : Int}
structure KHyp (v v1 v0 u n Q : Int) : Prop where
  ve : v = v1 * 4294967296 + v0
  v1a : 2147483648 ≤ v1
  v1b : v1 < 4294967296
  v0a : 0 ≤ v0
  v0b : v0 < 4294967296
  na : 0 ≤ n
  nb : n < 4294967296
  ua : 0 ≤ u
  ub : u < v
  Qa : Q * v ≤ u * 4294967296 + n
  Qb : u * 4294967296 + n < (Q + 1) * v
theorem mul_split (q v1 v0 : Int) : q * (v1 * 4294967296 + v0) = (q * v1) * 4294967296 + q * v0 := by rw [Int.mul_add, ← Int.mul_assoc]
theorem KHyp.vpos (h : KHyp v v1 v0 u n Q) : 0 < v := by have := h.ve; have := h.v1a; have := h.v0a; omega
theorem lt_of_mul {a b c : Int} (hc : 0 < c) (h : a * c < b * c) : a < b := by
  by_cases e : a < b
  · exact e
  · have := Int.mul_le_mul_of_nonneg_right (show b ≤ a by omega) (show 0 ≤ c by omega)
    omega
theorem KHyp.Q0 (h : KHyp v v1 v0 u n Q) : 0 ≤ Q := by
  have h1 := h.Qb
  have h2 := h.ua
  have h3 := h.na
  have h4 : (0 : Int) * v < (Q + 1) * v := by rw [Int.zero_mul]; omega
  have := lt_of_mul h.vpos h4
  omega
theorem KHyp.Q1 (h : KHyp v v1 v0 u n Q) : Q < 4294967296 := by
  refine lt_of_mul h.vpos ?_
  have h1 := h.Qa
  have h2 := h.ub
  have h3 := h.nb
  omega
structure KInv (v1 u Q q r : Int) : Prop where
  e : q * v1 + r = u
  lo : Q ≤ q
  hi : q ≤ 4294967297
  r0 : 0 ≤ r
theorem KHyp.start (h : KHyp v v1 v0 u n Q) : KInv v1 u Q (u / v1) (u - u / v1 * v1) ∧ u - u / v1 * v1 < v1 := by
  have hv1 : 0 < v1 := by have := h.v1a; omega
  have h1 := Int.emod_nonneg u (show v1 ≠ 0 by omega)
  have h2 := Int.emod_lt_of_pos u hv1
  have h3 := Int.mul_ediv_add_emod u v1
  rw [Int.mul_comm] at h3
  refine ⟨⟨by omega, ?_, ?_, by omega⟩, by omega⟩
  · refine (Int.le_ediv_iff_mul_le hv1).2 ?_
    have h4 := h.Qa
    rw [h.ve, mul_split] at h4
    have h5 := Int.mul_nonneg h.Q0 h.v0a
    have := h.nb
    omega
  · have h6 : u / v1 < 4294967298 := by
      refine Int.ediv_lt_of_lt_mul hv1 ?_
      have := h.ub
      have := h.ve
      have := h.v0b
      have := h.v1a
      omega
    omega
theorem KHyp.exact (h : KHyp v v1 v0 u n Q) (hi : Q ≤ q) (c : q * v ≤ u * 4294967296 + n) : q = Q := by
  have h1 := h.Qb
  have := lt_of_mul h.vpos (show q * v < (Q + 1) * v by omega)
  omega
/-- The digit's bound holds: it is the digit. -/
theorem KHyp.stop (h : KHyp v v1 v0 u n Q) (hi : KInv v1 u Q q r) (c : q * v0 ≤ 4294967296 * r + n) : q = Q := by
  refine h.exact hi.lo ?_
  rw [h.ve, mul_split]
  have := hi.e
  omega
/-- One too large: one less. -/
theorem KHyp.dec (h : KHyp v v1 v0 u n Q) (hi : KInv v1 u Q q r) (c : 4294967296 ≤ q ∨ 4294967296 * r + n < q * v0) : KInv v1 u Q (q - 1) (r + v1) := by
  have hq : Q < q := by
    rcases c with c | c
    · have := h.Q1; omega
    · refine lt_of_mul h.vpos ?_
      have h1 : u * 4294967296 + n < q * v := by
        rw [h.ve, mul_split]
        have := hi.e
        omega
      have := h.Qa
      omega
  refine ⟨?_, by omega, by have := hi.hi; omega, by have := hi.r0; have := h.v1a; omega⟩
  have := hi.e
  rw [Int.sub_mul, Int.one_mul]
  omega
/-- What is left ahead is too large to go on: it is the digit. -/
theorem KHyp.break_ (h : KHyp v v1 v0 u n Q) (hi : KInv v1 u Q q r) (hq : q ≤ 4294967296) (hr : 4294967296 ≤ r) : q = Q := by
  refine h.stop hi ?_
  have h0 : 0 ≤ q := by have := h.Q0; have := hi.lo; omega
  have h1 : q * v0 ≤ 4294967296 * v0 := Int.mul_le_mul_of_nonneg_right hq h.v0a
  have := h.v0b
  have := h.na
  omega
end
/-- The bits of a number. -/
theorem bitLenAux_le : ∀ (f x : Nat), Lib.bitLenAux f x ≤ f
  | 0, _ => Nat.le_refl _
  | f + 1, x => by
    unfold Lib.bitLenAux
    split
    · omega
    · have := bitLenAux_le f (x / 2); omega
theorem bitLenAux_ok : ∀ (f x : Nat), 0 < x → x < 2 ^ f → 1 ≤ Lib.bitLenAux f x ∧ 2 ^ (Lib.bitLenAux f x - 1) ≤ x ∧ x < 2 ^ Lib.bitLenAux f x
  | 0, x, h, h2 => by simp at h2; omega
  | f + 1, x, h, h2 => by
    unfold Lib.bitLenAux
    rw [if_neg (by omega)]
    by_cases hx : x / 2 = 0
    · have h1 : x = 1 := by omega
      subst h1
      have : Lib.bitLenAux f (1 / 2) = 0 := by cases f <;> simp [Lib.bitLenAux]
      rw [this]; decide
    · have hp : 2 ^ (f + 1) = 2 * 2 ^ f := by rw [Nat.pow_succ, Nat.mul_comm]
      obtain ⟨h3, h4, h5⟩ := bitLenAux_ok f (x / 2) (by omega) (by omega)
      refine ⟨by omega, ?_, ?_⟩
      · have e : 2 ^ (1 + Lib.bitLenAux f (x / 2) - 1) = 2 * 2 ^ (Lib.bitLenAux f (x / 2) - 1) := by
          rw [show 1 + Lib.bitLenAux f (x / 2) - 1 = (Lib.bitLenAux f (x / 2) - 1) + 1 by omega, Nat.pow_succ, Nat.mul_comm]
        rw [e]; omega
      · have e : 2 ^ (1 + Lib.bitLenAux f (x / 2)) = 2 * 2 ^ Lib.bitLenAux f (x / 2) := by rw [Nat.add_comm, Nat.pow_succ, Nat.mul_comm]
        rw [e]; omega
theorem bitLen_ok {x : Nat} (h : 0 < x) (h2 : x < 18446744073709551616) : 1 ≤ Lib.bitLen x ∧ Lib.bitLen x ≤ 64 ∧ 2 ^ (Lib.bitLen x - 1) ≤ x ∧ x < 2 ^ Lib.bitLen x := by
  obtain ⟨a, b, c⟩ := bitLenAux_ok 64 x h h2
  exact ⟨a, bitLenAux_le 64 x, b, c⟩
/-- Shifted till its highest bit stands in front. -/
theorem norm_ok {y : Nat} (h : 0 < y) (h2 : y < 18446744073709551616) : 9223372036854775808 ≤ y * 2 ^ (64 - Lib.bitLen y) ∧ y * 2 ^ (64 - Lib.bitLen y) < 18446744073709551616 := by
  obtain ⟨a, b, c, d⟩ := bitLen_ok h h2
  have hp : 0 < 2 ^ (64 - Lib.bitLen y) := Nat.pow_pos (by omega)
  have e1 : 2 ^ (Lib.bitLen y - 1) * 2 ^ (64 - Lib.bitLen y) = 9223372036854775808 := by
    rw [← Nat.pow_add, show Lib.bitLen y - 1 + (64 - Lib.bitLen y) = 63 by omega]
  have e2 : 2 ^ Lib.bitLen y * 2 ^ (64 - Lib.bitLen y) = 18446744073709551616 := by
    rw [← Nat.pow_add, show Lib.bitLen y + (64 - Lib.bitLen y) = 64 by omega]
  constructor
  · rw [← e1]; exact Nat.mul_le_mul_right _ c
  · rw [← e2]; exact Nat.mul_lt_mul_of_pos_right d hp
end Go.Wk
/- Numerals and words, as lists of bytes: no program. -/
set_option linter.unusedVariables false
namespace Go.Pl
open Go Go.Lib
theorem dig_nat {x : Nat} (h : x < 10) : (UInt8.ofNat (48 + x)).toNat = 48 + x := by simp [UInt8.toNat_ofNat]; omega
theorem parseM_step (M acc d : Nat) (hd : d < 10) (hM : M ≤ 18446744073709551615) (h : acc * 10 + d ≤ M) (rest : List UInt8) : parseUintM M acc (UInt8.ofNat (48 + d) :: rest) = parseUintM M (acc * 10 + d) rest := by
  rw [parseUintM, dig_nat hd, if_pos (by omega), if_neg (by omega), if_neg (by omega), show 48 + d - 48 = d by omega]
theorem parseM_dec (M : Nat) (hM : M ≤ 18446744073709551615) (u : Nat) : ∀ (rest : List UInt8) (acc : Nat), acc * 10 ^ nDigits u + u ≤ M → parseUintM M acc (decDigits u ++ rest) = parseUintM M (acc * 10 ^ nDigits u + u) rest := by
  induction u using Nat.strongRecOn with
  | _ u ih =>
    intro rest acc h
    by_cases hu : u < 10
    · rw [nDigits_small hu, Nat.pow_one] at h ⊢
      rw [decDigits_one hu]
      exact parseM_step M acc u hu hM h rest
    · have e : decDigits u = decDigits (u / 10) ++ [UInt8.ofNat (48 + u % 10)] := by rw [decDigits, dif_neg hu]
      rw [nDigits_big hu, Nat.pow_succ, ← Nat.mul_assoc] at h ⊢
      rw [e, List.append_assoc, ih (u / 10) (by omega) _ acc (by omega)]
      have h2 := parseM_step M (acc * 10 ^ nDigits (u / 10) + u / 10) (u % 10) (by omega) hM (by omega) rest
      rw [show [UInt8.ofNat (48 + u % 10)] ++ rest = UInt8.ofNat (48 + u % 10) :: rest from rfl, h2]
      congr 1
      omega
theorem parseM_zeros (M : Nat) (hM : M ≤ 18446744073709551615) (rest : List UInt8) : ∀ k : Nat, parseUintM M 0 (List.replicate k 48 ++ rest) = parseUintM M 0 rest
  | 0 => by simp
  | k + 1 => by
    rw [List.replicate_succ, List.cons_append]
    have h := parseM_step M 0 0 (by decide) hM (by omega) (List.replicate k 48 ++ rest)
    rw [show (UInt8.ofNat (48 + 0)) = 48 from rfl] at h
    rw [h]
    exact parseM_zeros M hM rest k
theorem parse10_M : ∀ (l : List UInt8) (acc : Nat), parseUint10 acc l = parseUintM 18446744073709551615 acc l
  | [], acc => rfl
  | c :: r, acc => by
    rw [parseUint10, parseUintM]
    split
    · split
      · rfl
      · by_cases h : 18446744073709551616 ≤ acc * 10 + (c.toNat - 48)
        · rw [if_pos h, if_pos (by omega)]
        · rw [if_neg h, if_neg (by omega)]
          exact parse10_M r _
    · rfl
/-- Bytes that are digits. -/
def dgB (c : UInt8) : Bool := decide (48 ≤ c.toNat) && decide (c.toNat ≤ 57)
theorem dgB_of {x : Nat} (h : x < 10) : dgB (UInt8.ofNat (48 + x)) = true := by unfold dgB; rw [dig_nat h]; simp; omega
theorem dec_dig (u : Nat) : ∀ c, c ∈ decDigits u → dgB c = true := by
  induction u using Nat.strongRecOn with
  | _ u ih =>
    intro c hc
    by_cases hu : u < 10
    · rw [decDigits_one hu, List.mem_singleton] at hc
      rw [hc]; exact dgB_of hu
    · rw [decDigits, dif_neg hu] at hc
      rcases List.mem_append.1 hc with h | h
      · exact ih (u / 10) (by omega) c h
      · rw [List.mem_singleton.1 h]; exact dgB_of (by omega)
theorem dec_ne (u : Nat) : decDigits u ≠ [] := fun e => by
  have := decDigits_length u
  have h1 := nDigits_pos u
  rw [e] at this
  simp at this; omega
theorem dgB_nat {c : UInt8} (h : dgB c = true) : 48 ≤ c.toNat ∧ c.toNat ≤ 57 := by unfold dgB at h; simpa using h
theorem not_mem_of_dig {l : List UInt8} (h : ∀ c, c ∈ l → dgB c = true) {x : UInt8} (hx : dgB x = false) : x ∉ l := fun hm => by rw [h x hm] at hx; cases hx
/-- The first digit of a number of more than one isn't 0. -/
theorem dec_head (u : Nat) : ∀ c r, decDigits u = c :: r → r ≠ [] → c ≠ 48 := by
  induction u using Nat.strongRecOn with
  | _ u ih =>
    intro c r hc hr
    by_cases hu : u < 10
    · rw [decDigits_one hu] at hc
      injection hc with _ h2
      exact absurd h2.symm hr
    · rw [decDigits, dif_neg hu] at hc
      cases h : decDigits (u / 10) with
      | nil => exact absurd h (dec_ne _)
      | cons c2 r2 =>
        rw [h, List.cons_append] at hc
        injection hc with h1 h2
        subst h1
        by_cases h3 : r2 = []
        · have hlt : u / 10 < 10 := by
            have hl := decDigits_length (u / 10)
            rw [h, h3] at hl
            by_cases hq : u / 10 < 10
            · exact hq
            · rw [nDigits_big hq] at hl
              have := nDigits_pos (u / 10 / 10)
              simp at hl; omega
          rw [decDigits_one hlt] at h
          injection h with h4 _
          intro e
          have : c2.toNat = 48 := by rw [e]; rfl
          rw [← h4, dig_nat hlt] at this
          omega
        · exact ih (u / 10) (by omega) c2 r2 h h3
/-- Digits ahead: neither a sign. -/
theorem parseIntB_pos {l : List UInt8} {u : Nat} (hd : ∀ c, c ∈ l → dgB c = true) (hne : l ≠ []) (h : parseUintM 18446744073709551615 0 l = .ok u) (hu : u < 9223372036854775808) : parseIntB 64 l = .ok (u : Int) := by
  cases l with
  | nil => exact absurd rfl hne
  | cons c r =>
    have hc := dgB_nat (hd c List.mem_cons_self)
    have hn : ¬ (c.toNat = 43 ∨ c.toNat = 45) := by omega
    have h45 : ¬ c.toNat = 45 := by omega
    have e : parseUintB 64 (c :: r) = .ok u := by
      unfold parseUintB
      rw [if_neg (by simp)]
      exact h
    unfold parseIntB
    simp only [if_neg hn]
    rw [e]
    simp only
    rw [if_neg (fun hh => by have h2 := hh.2; omega), if_neg (fun hh => h45 hh.1), if_neg h45]
theorem atoi_pos {l : List UInt8} {u : Nat} (hd : ∀ c, c ∈ l → dgB c = true) (hne : l ≠ []) (h : parseUintM 18446744073709551615 0 l = .ok u) (hu : u < 9223372036854775808) : atoiAll l = .ok (u : Int) := by
  cases l with
  | nil => exact absurd rfl hne
  | cons c r =>
    have hc := dgB_nat (hd c List.mem_cons_self)
    have hn : ¬ (c.toNat = 43 ∨ c.toNat = 45) := by omega
    have h45 : ¬ c.toNat = 45 := by omega
    have e : parseMag (c :: r) = .ok u := by
      unfold parseMag
      rw [if_neg (by simp), parse10_M]
      exact h
    unfold atoiAll
    simp only [if_neg hn]
    rw [e]
    simp only
    rw [if_neg (fun hh => by have h2 := hh.2; omega), if_neg (fun hh => h45 hh.1), if_neg h45]
theorem uintB_pos {B : Nat} {l : List UInt8} {u : Nat} (hne : l ≠ []) (h : parseUintM (2 ^ B - 1) 0 l = .ok u) : parseUintB B l = .ok u := by unfold parseUintB; rw [if_neg hne]; exact h
theorem parseM_num (M : Nat) (hM : M ≤ 18446744073709551615) (u : Nat) (h : u ≤ M) : parseUintM M 0 (decDigits u) = .ok u := by
  have := parseM_dec M hM u [] 0 (by omega)
  rw [List.append_nil, Nat.zero_mul, Nat.zero_add] at this
  rw [this]; rfl
/-- A numeral, with noughts ahead or none, is read again. -/
theorem atoi_pad (k u : Nat) (hu : u < 9223372036854775808) : atoiAll (List.replicate k 48 ++ decDigits u) = .ok (u : Int) := by
  refine atoi_pos (fun c hc => ?_) (fun e => dec_ne u (List.append_eq_nil_iff.1 e).2) ?_ hu
  · rcases List.mem_append.1 hc with h | h
    · rw [(List.mem_replicate.1 h).2]; rfl
    · exact dec_dig u c h
  · rw [parseM_zeros _ (by omega)]
    exact parseM_num _ (by omega) u (by omega)
theorem atoi_num (u : Nat) (hu : u < 9223372036854775808) : atoiAll (decDigits u) = .ok (u : Int) := by
  have := atoi_pad 0 u hu
  rwa [List.replicate_zero, List.nil_append] at this
theorem u32_num (u : Nat) (hu : u < 4294967296) : parseUintB 32 (decDigits u) = .ok u := uintB_pos (dec_ne u) (parseM_num _ (by decide) u (by show u ≤ 4294967295; omega))
/-! Words. -/
theorem index_one {c : UInt8} : ∀ {w rest : List UInt8}, c ∉ w → index (w ++ c :: rest) [c] = w.length
  | [], rest, _ => by simp [index, List.isPrefixOf]
  | b :: w, rest, h => by
    have h1 : b ≠ c := fun e => h (e ▸ List.mem_cons_self)
    have ih := index_one (w := w) (rest := rest) (fun hm => h (List.mem_cons_of_mem _ hm))
    show index (b :: (w ++ c :: rest)) [c] = _
    have hp : ([c] : List UInt8).isPrefixOf (b :: (w ++ c :: rest)) = false := by simp [List.isPrefixOf, Ne.symm h1]
    have hix : index (b :: (w ++ c :: rest)) [c] = if index (w ++ c :: rest) [c] == -1 then -1 else index (w ++ c :: rest) [c] + 1 := by rw [index, hp]; simp
    rw [hix, ih, if_neg (fun e => by have := beq_iff_eq.1 e; omega)]
    simp
theorem index_no {c : UInt8} : ∀ {w : List UInt8}, c ∉ w → index w [c] = -1
  | [], _ => by simp [index]
  | b :: w, h => by
    have h1 : b ≠ c := fun e => h (e ▸ List.mem_cons_self)
    have ih := index_no (w := w) (fun hm => h (List.mem_cons_of_mem _ hm))
    have hp : ([c] : List UInt8).isPrefixOf (b :: w) = false := by simp [List.isPrefixOf, Ne.symm h1]
    have hix : index (b :: w) [c] = if index w [c] == -1 then -1 else index w [c] + 1 := by rw [index, hp]; simp
    rw [hix, ih]; rfl
theorem cut_one {c : UInt8} {w rest : List UInt8} (h : c ∉ w) : cut (w ++ c :: rest) [c] = (w, rest, true) := by
  unfold cut
  rw [index_one h, if_pos (by omega)]
  have e : ((w.length : Nat) : Int).toNat = w.length := Int.toNat_natCast _
  rw [e, List.take_left' rfl, List.drop_append]
  simp
theorem join_cons (w v : List UInt8) (ws : List (List UInt8)) (c : UInt8) : join (w :: v :: ws) [c] = w ++ c :: join (v :: ws) [c] := by
  unfold join
  simp [List.intercalate]
theorem join_one (w c : List UInt8) : join [w] c = w := by unfold join; simp [List.intercalate]
theorem count_join {c : UInt8} : ∀ (w : List UInt8) (ws : List (List UInt8)), (∀ x, x ∈ w :: ws → c ∉ x) → count (join (w :: ws) [c]) [c] = ws.length
  | w, [], h => by
    rw [join_one, count_one]
    exact List.count_eq_zero.2 (h w List.mem_cons_self)
  | w, v :: ws, h => by
    have ih := count_join v ws (fun x hx => h x (List.mem_cons_of_mem _ hx))
    rw [count_one] at ih ⊢
    rw [join_cons, List.count_append, List.count_cons_self, ih, List.count_eq_zero.2 (h w List.mem_cons_self)]
    simp
theorem splitK_join {c : UInt8} : ∀ (w : List UInt8) (ws : List (List UInt8)), (∀ x, x ∈ w :: ws → c ∉ x) → splitK [c] 0 ws.length (join (w :: ws) [c]) = w :: ws
  | w, [], h => by rw [join_one]; rfl
  | w, v :: ws, h => by
    have hi := index_one (rest := join (v :: ws) [c]) (h w List.mem_cons_self)
    have ih := splitK_join v ws (fun x hx => h x (List.mem_cons_of_mem _ hx))
    rw [join_cons]
    show splitK [c] 0 (ws.length + 1) (w ++ c :: join (v :: ws) [c]) = _
    rw [splitK, hi, if_neg (fun e => by have := beq_iff_eq.1 e; omega)]
    have e : ((w.length : Nat) : Int).toNat = w.length := Int.toNat_natCast _
    rw [e, Nat.add_zero, List.take_left' rfl, List.drop_append]
    have e2 : (w.length + [c].length) - w.length = 1 := by simp
    rw [List.drop_of_length_le (l := w) (by simp), e2]
    simp only [List.drop_succ_cons, List.drop_zero, List.nil_append]
    rw [ih]
theorem split_join {c : UInt8} (w : List UInt8) (ws : List (List UInt8)) (h : ∀ x, x ∈ w :: ws → c ∉ x) : splitK [c] 0 (count (join (w :: ws) [c]) [c]) (join (w :: ws) [c]) = w :: ws := by
  rw [count_join w ws h]
  exact splitK_join w ws h
end Go.Pl
