/- Days and dates of the program: the walks. -/
import Derived.Test.YtgbmambkgcjhfaaGreatDoorA2
import Derived.Test.YtgbmambkgcjhfaaGreatDoorP1
set_option linter.unusedVariables false
namespace Go.Proofs.YtgbmambkgcjhfaaGreatDoor
open Go Go.Proofs Go.Wk
theorem i64w {n : Int} (h1 : -9000000000000000000 ≤ n) (h2 : n ≤ 9000000000000000000) : IntKind.i64.wrap n = n := w64 (by omega) (by omega)
theorem i32w {n : Int} (h1 : -2147483648 ≤ n) (h2 : n ≤ 2147483647) : IntKind.i32.wrap n = n := wrap_id ⟨by show (-2147483648 : Int) ≤ n; omega, by show n ≤ (2147483647 : Int); omega⟩
theorem beg_of {n : Int} (h0 : 0 ≤ n) (h1 : n ≤ 100000) : IntKind.i64.wrap (IntKind.i64.wrap (IntKind.i64.wrap (IntKind.i64.wrap (n * 365) + n.tdiv 4) - n.tdiv 100) + n.tdiv 400) = beg (n + 1) := by
  rw [Int.tdiv_eq_ediv_of_nonneg h0, Int.tdiv_eq_ediv_of_nonneg h0, Int.tdiv_eq_ediv_of_nonneg h0]
  rw [i64w (n := n * 365) (by omega) (by omega), i64w (n := n * 365 + n / 4) (by omega) (by omega), i64w (n := n * 365 + n / 4 - n / 100) (by omega) (by omega), i64w (by omega) (by omega)]
  unfold beg
  rw [Int.add_sub_cancel]
theorem begins (y : Int) (h1 : 1 ≤ y) (h2 : y ≤ 10001) : CB 140 [.int .i64 y] (.int .i64 (beg y)) := by
  intro w M I H
  have e0 : IntKind.i64.wrap (y - 1) = y - 1 := i64w (by omega) (by omega)
  have e1 : IntKind.i64.wrap ((IntKind.i64.wrap (y - 1)).tdiv 4) = (y - 1).tdiv 4 := by rw [e0, Int.tdiv_eq_ediv_of_nonneg (by omega), i64w (by omega) (by omega)]
  have e2 : IntKind.i64.wrap ((IntKind.i64.wrap (y - 1)).tdiv 100) = (y - 1).tdiv 100 := by rw [e0, Int.tdiv_eq_ediv_of_nonneg (by omega), i64w (by omega) (by omega)]
  have e3 : IntKind.i64.wrap ((IntKind.i64.wrap (y - 1)).tdiv 400) = (y - 1).tdiv 400 := by rw [e0, Int.tdiv_eq_ediv_of_nonneg (by omega), i64w (by omega) (by omega)]
  refine Exe.of_ev tok Tryz.call140 Tryz.func140 rfl rfl rfl ?_
  refine quo_as ((y - 1).tdiv 4) (by decide) e1 ?_
  refine quo_as ((y - 1).tdiv 100) (by decide) e2 ?_
  refine quo_as ((y - 1).tdiv 400) (by decide) e3 ?_
  refine Exists.intro () (And.intro (congrArg (Value.int .i64) ?_) (And.intro trivial H))
  show IntKind.i64.wrap (IntKind.i64.wrap (IntKind.i64.wrap (IntKind.i64.wrap (IntKind.i64.wrap (y - 1) * 365) + (y - 1).tdiv 4) - (y - 1).tdiv 100) + (y - 1).tdiv 400) = beg y
  rw [e0, beg_of (by omega) (by omega), Int.sub_add_cancel]
theorem leap (y : Int) (h1 : 1 ≤ y) (h2 : y ≤ 9999) : CB 172 [.int .i64 y] (.bool (leapB y)) := by
  intro w M I H
  have m4 : y.tmod 4 = y % 4 := Int.tmod_eq_emod_of_nonneg (by omega)
  have m100 : y.tmod 100 = y % 100 := Int.tmod_eq_emod_of_nonneg (by omega)
  have m400 : y.tmod 400 = y % 400 := Int.tmod_eq_emod_of_nonneg (by omega)
  refine Exe.of_ev tok Tryz.call172 Tryz.func172 rfl rfl rfl ?_
  refine brd (fun _ => ?_) (fun h => absurd h1 h)
  refine brd (fun _ => ?_) (fun h => absurd h2 h)
  refine rem_as (y % 4) (by decide) m4 ?_
  refine br (fun q4 => ?_) (fun q4 => ?_)
  · have q4 : ((y % 4 : Int) == 0) = true := q4
    refine rem_as (y % 100) (by decide) m100 ?_
    refine br (fun q1 => ?_) (fun q1 => ?_)
    · have q1 : ((y % 100 : Int) != 0) = true := q1
      refine Exists.intro () (And.intro (congrArg Value.bool ?_) (And.intro trivial H))
      show true = leapB y
      simp at q4 q1
      simp [leapB, q4, q1]
    · have q1 : ((y % 100 : Int) != 0) = false := q1
      refine rem_as (y % 400) (by decide) m400 ?_
      refine Exists.intro () (And.intro (congrArg Value.bool ?_) (And.intro trivial H))
      show ((y % 400 : Int) == 0) = leapB y
      simp at q4 q1
      by_cases e : y % 400 = 0 <;> simp [leapB, q4, q1, e]
  · have q4 : ((y % 4 : Int) == 0) = false := q4
    refine Exists.intro () (And.intro (congrArg Value.bool ?_) (And.intro trivial H))
    show false = leapB y
    simp at q4
    simp [leapB, q4]
theorem lenG_no {y m : Int} (h : y < 1 ∨ 9999 < y ∨ m < 1 ∨ 12 < m) : (0 : Int) = lenG y m := by unfold lenG; rw [if_pos h]
set_option maxHeartbeats 1000000 in
theorem length (y m : Int) : CB 141 [.int .i64 y, .int .i64 m] (.int .i64 (lenG y m)) := by
  intro w M I H
  refine Exe.of_ev tok Tryz.call141 Tryz.func141 rfl rfl rfl ?_
  refine brd (fun h => ?_) (fun h1 => ?_)
  · exact Exists.intro () (And.intro (congrArg (Value.int .i64) (lenG_no (.inl h))) (And.intro trivial H))
  refine brd (fun h => ?_) (fun h2 => ?_)
  · exact Exists.intro () (And.intro (congrArg (Value.int .i64) (lenG_no (.inr (.inl h)))) (And.intro trivial H))
  refine brd (fun h => ?_) (fun h3 => ?_)
  · exact Exists.intro () (And.intro (congrArg (Value.int .i64) (lenG_no (.inr (.inr (.inl h))))) (And.intro trivial H))
  refine brd (fun h => ?_) (fun h4 => ?_)
  · exact Exists.intro () (And.intro (congrArg (Value.int .i64) (lenG_no (.inr (.inr (.inr h))))) (And.intro trivial H))
  have eg : lenG y m = lenM y m := lenG_eq (by omega) (by omega) (by omega) (by omega)
  have thirty : (m = 4 ∨ m = 6 ∨ m = 9 ∨ m = 11) → (30 : Int) = lenG y m := fun h => by rw [eg]; unfold lenM; rw [if_pos h]
  refine br (fun q => ?_) (fun q4 => ?_)
  · refine br (fun _ => ?_) (fun r => by have a : (m == 4) = true := q; have b : (m == 4) = false := r; rw [a] at b; cases b)
    exact Exists.intro () (And.intro (congrArg (Value.int .i64) (thirty (.inl (by have q : (m == 4) = true := q; simpa using q)))) (And.intro trivial H))
  refine br (fun q => ?_) (fun q6 => ?_)
  · refine br (fun _ => ?_) (fun r => by have a : (m == 6) = true := q; have b : (m == 6) = false := r; rw [a] at b; cases b)
    exact Exists.intro () (And.intro (congrArg (Value.int .i64) (thirty (.inr (.inl (by have q : (m == 6) = true := q; simpa using q))))) (And.intro trivial H))
  refine br (fun q => ?_) (fun q9 => ?_)
  · refine br (fun _ => ?_) (fun r => by have a : (m == 9) = true := q; have b : (m == 9) = false := r; rw [a] at b; cases b)
    exact Exists.intro () (And.intro (congrArg (Value.int .i64) (thirty (.inr (.inr (.inl (by have q : (m == 9) = true := q; simpa using q)))))) (And.intro trivial H))
  refine br (fun q => ?_) (fun q11 => ?_)
  · exact Exists.intro () (And.intro (congrArg (Value.int .i64) (thirty (.inr (.inr (.inr (by have q : (m == 11) = true := q; simpa using q)))))) (And.intro trivial H))
  have n4 : m ≠ 4 := by have q : (m == 4) = false := q4; simpa using q
  have n6 : m ≠ 6 := by have q : (m == 6) = false := q6; simpa using q
  have n9 : m ≠ 9 := by have q : (m == 9) = false := q9; simpa using q
  have n11 : m ≠ 11 := by have q : (m == 11) = false := q11; simpa using q
  have e2 : lenG y m = if m = 2 then (if leapB y = true then 29 else 28) else 31 := by rw [eg]; unfold lenM; rw [if_neg (by omega)]
  refine br (fun q => ?_) (fun q => ?_)
  · have q : m = 2 := by have q : (m == 2) = true := q; simpa using q
    rw [if_pos q] at e2
    refine call_rule H (fun M I _ h => leap y (by omega) (by omega) _ M I h) fun _ w1 _ H1 => ?_
    refine br (fun ql => ?_) (fun ql => ?_)
    · have ql : leapB y = true := ql
      exact Exists.intro () (And.intro (congrArg (Value.int .i64) (by rw [e2, if_pos ql])) (And.intro trivial (Hp.keep H1)))
    · have ql : leapB y = false := ql
      exact Exists.intro () (And.intro (congrArg (Value.int .i64) (by rw [e2, if_neg (by rw [ql]; simp)])) (And.intro trivial (Hp.keep H1)))
  · have q : m ≠ 2 := by have q : (m == 2) = false := q; simpa using q
    exact Exists.intro () (And.intro (congrArg (Value.int .i64) (by rw [e2, if_neg q])) (And.intro trivial H))
@[reducible] def civV (y m d : Int) : Value := .agg #[.int .i64 y, .int .i64 m, .int .i64 d]
@[reducible] def civC (y m d : Int) : List Value := [.int .i64 y, .int .i64 m, .int .i64 d]
def datB (y m d : Int) : Bool := decide (1 ≤ d) && decide (d ≤ lenG y m)
theorem datB_iff {y m d : Int} : datB y m d = true ↔ Dat y m d := by
  rw [← dat_iff]; simp [datB]
end Go.Proofs.YtgbmambkgcjhfaaGreatDoor
