/- Days and dates of the program: the walks. -/
import Derived.Test.YtjlfjjgjghdokaaGreatDoorLy7
import Derived.Below
import Derived.Deep.Draws
import Derived.Lib.LaidTab
import Derived.Lib.ConvBytes
import Derived.Sort.Grow
set_option linter.unusedVariables false
namespace Go.Proofs.YtjlfjjgjghdokaaGreatDoor
open Go Go.Proofs Go.Wk
theorem i64w {n : Int} (h1 : -9000000000000000000 ≤ n) (h2 : n ≤ 9000000000000000000) : IntKind.i64.wrap n = n := w64 (by omega) (by omega)
theorem i32w {n : Int} (h1 : -2147483648 ≤ n) (h2 : n ≤ 2147483647) : IntKind.i32.wrap n = n := wrap_id ⟨by show (-2147483648 : Int) ≤ n; omega, by show n ≤ (2147483647 : Int); omega⟩
theorem beg_of {n : Int} (h0 : 0 ≤ n) (h1 : n ≤ 100000) : IntKind.i64.wrap (IntKind.i64.wrap (IntKind.i64.wrap (IntKind.i64.wrap (n * 365) + n.tdiv 4) - n.tdiv 100) + n.tdiv 400) = beg (n + 1) := by
  rw [Int.tdiv_eq_ediv_of_nonneg h0, Int.tdiv_eq_ediv_of_nonneg h0, Int.tdiv_eq_ediv_of_nonneg h0]
  rw [i64w (n := n * 365) (by omega) (by omega), i64w (n := n * 365 + n / 4) (by omega) (by omega), i64w (n := n * 365 + n / 4 - n / 100) (by omega) (by omega), i64w (by omega) (by omega)]
  unfold beg
  rw [Int.add_sub_cancel]
theorem begins (y : Int) (h1 : 1 ≤ y) (h2 : y ≤ 10001) : CB 198 [.int .i64 y] (.int .i64 (beg y)) := by
  intro w M I H
  have e0 : IntKind.i64.wrap (y - 1) = y - 1 := i64w (by omega) (by omega)
  have e1 : IntKind.i64.wrap ((IntKind.i64.wrap (y - 1)).tdiv 4) = (y - 1).tdiv 4 := by rw [e0, Int.tdiv_eq_ediv_of_nonneg (by omega), i64w (by omega) (by omega)]
  have e2 : IntKind.i64.wrap ((IntKind.i64.wrap (y - 1)).tdiv 100) = (y - 1).tdiv 100 := by rw [e0, Int.tdiv_eq_ediv_of_nonneg (by omega), i64w (by omega) (by omega)]
  have e3 : IntKind.i64.wrap ((IntKind.i64.wrap (y - 1)).tdiv 400) = (y - 1).tdiv 400 := by rw [e0, Int.tdiv_eq_ediv_of_nonneg (by omega), i64w (by omega) (by omega)]
  refine Exe.of_ev tok Tryz.call198 Tryz.func198 rfl rfl rfl ?_
  refine quo_as ((y - 1).tdiv 4) (by decide) e1 ?_
  refine quo_as ((y - 1).tdiv 100) (by decide) e2 ?_
  refine quo_as ((y - 1).tdiv 400) (by decide) e3 ?_
  refine Exists.intro () (And.intro (congrArg (Value.int .i64) ?_) (And.intro trivial H))
  show IntKind.i64.wrap (IntKind.i64.wrap (IntKind.i64.wrap (IntKind.i64.wrap (IntKind.i64.wrap (y - 1) * 365) + (y - 1).tdiv 4) - (y - 1).tdiv 100) + (y - 1).tdiv 400) = beg y
  rw [e0, beg_of (by omega) (by omega), Int.sub_add_cancel]
theorem leap (y : Int) (h1 : 1 ≤ y) (h2 : y ≤ 9999) : CB 237 [.int .i64 y] (.bool (leapB y)) := by
  intro w M I H
  have m4 : y.tmod 4 = y % 4 := Int.tmod_eq_emod_of_nonneg (by omega)
  have m100 : y.tmod 100 = y % 100 := Int.tmod_eq_emod_of_nonneg (by omega)
  have m400 : y.tmod 400 = y % 400 := Int.tmod_eq_emod_of_nonneg (by omega)
  refine Exe.of_ev tok Tryz.call237 Tryz.func237 rfl rfl rfl ?_
  refine brd (fun _ => ?_) (fun h => absurd h1 h)
  refine brd (fun _ => ?_) (fun h => absurd h2 h)
  refine rem_as (y % 4) (by decide) m4 ?_
  refine br (fun q4 => ?_) (fun q4 => ?_)
  · have q4 : ((y % 4 : Int) == 0) = true := q4
    refine rem_as (y % 100) (by decide) m100 ?_
    refine br (fun q1 => ?_) (fun q1 => ?_)
    · have q1 : ((y % 100 : Int) != 0) = true := q1
      refine Exists.intro () (And.intro (congrArg Value.bool ?_) (And.intro trivial H))
      show true = leapB y
      simp at q4 q1
      simp [leapB, q4, q1]
    · have q1 : ((y % 100 : Int) != 0) = false := q1
      refine rem_as (y % 400) (by decide) m400 ?_
      refine Exists.intro () (And.intro (congrArg Value.bool ?_) (And.intro trivial H))
      show ((y % 400 : Int) == 0) = leapB y
      simp at q4 q1
      by_cases e : y % 400 = 0 <;> simp [leapB, q4, q1, e]
  · have q4 : ((y % 4 : Int) == 0) = false := q4
    refine Exists.intro () (And.intro (congrArg Value.bool ?_) (And.intro trivial H))
    show false = leapB y
    simp at q4
    simp [leapB, q4]
theorem lenG_no {y m : Int} (h : y < 1 ∨ 9999 < y ∨ m < 1 ∨ 12 < m) : (0 : Int) = lenG y m := by unfold lenG; rw [if_pos h]
set_option maxHeartbeats 1000000 in
theorem length (y m : Int) : CB 199 [.int .i64 y, .int .i64 m] (.int .i64 (lenG y m)) := by
  intro w M I H
  refine Exe.of_ev tok Tryz.call199 Tryz.func199 rfl rfl rfl ?_
  refine brd (fun h => ?_) (fun h1 => ?_)
  · exact Exists.intro () (And.intro (congrArg (Value.int .i64) (lenG_no (.inl h))) (And.intro trivial H))
  refine brd (fun h => ?_) (fun h2 => ?_)
  · exact Exists.intro () (And.intro (congrArg (Value.int .i64) (lenG_no (.inr (.inl h)))) (And.intro trivial H))
  refine brd (fun h => ?_) (fun h3 => ?_)
  · exact Exists.intro () (And.intro (congrArg (Value.int .i64) (lenG_no (.inr (.inr (.inl h))))) (And.intro trivial H))
  refine brd (fun h => ?_) (fun h4 => ?_)
  · exact Exists.intro () (And.intro (congrArg (Value.int .i64) (lenG_no (.inr (.inr (.inr h))))) (And.intro trivial H))
  have eg : lenG y m = lenM y m := lenG_eq (by omega) (by omega) (by omega) (by omega)
  have thirty : (m = 4 ∨ m = 6 ∨ m = 9 ∨ m = 11) → (30 : Int) = lenG y m := fun h => by rw [eg]; unfold lenM; rw [if_pos h]
  refine br (fun q => ?_) (fun q4 => ?_)
  · refine br (fun _ => ?_) (fun r => by have a : (m == 4) = true := q; have b : (m == 4) = false := r; rw [a] at b; cases b)
    exact Exists.intro () (And.intro (congrArg (Value.int .i64) (thirty (.inl (by have q : (m == 4) = true := q; simpa using q)))) (And.intro trivial H))
  refine br (fun q => ?_) (fun q6 => ?_)
  · refine br (fun _ => ?_) (fun r => by have a : (m == 6) = true := q; have b : (m == 6) = false := r; rw [a] at b; cases b)
    exact Exists.intro () (And.intro (congrArg (Value.int .i64) (thirty (.inr (.inl (by have q : (m == 6) = true := q; simpa using q))))) (And.intro trivial H))
  refine br (fun q => ?_) (fun q9 => ?_)
  · refine br (fun _ => ?_) (fun r => by have a : (m == 9) = true := q; have b : (m == 9) = false := r; rw [a] at b; cases b)
    exact Exists.intro () (And.intro (congrArg (Value.int .i64) (thirty (.inr (.inr (.inl (by have q : (m == 9) = true := q; simpa using q)))))) (And.intro trivial H))
  refine br (fun q => ?_) (fun q11 => ?_)
  · exact Exists.intro () (And.intro (congrArg (Value.int .i64) (thirty (.inr (.inr (.inr (by have q : (m == 11) = true := q; simpa using q)))))) (And.intro trivial H))
  have n4 : m ≠ 4 := by have q : (m == 4) = false := q4; simpa using q
  have n6 : m ≠ 6 := by have q : (m == 6) = false := q6; simpa using q
  have n9 : m ≠ 9 := by have q : (m == 9) = false := q9; simpa using q
  have n11 : m ≠ 11 := by have q : (m == 11) = false := q11; simpa using q
  have e2 : lenG y m = if m = 2 then (if leapB y = true then 29 else 28) else 31 := by rw [eg]; unfold lenM; rw [if_neg (by omega)]
  refine br (fun q => ?_) (fun q => ?_)
  · have q : m = 2 := by have q : (m == 2) = true := q; simpa using q
    rw [if_pos q] at e2
    refine call_rule H (fun M I _ h => leap y (by omega) (by omega) _ M I h) fun _ w1 _ H1 => ?_
    refine br (fun ql => ?_) (fun ql => ?_)
    · have ql : leapB y = true := ql
      exact Exists.intro () (And.intro (congrArg (Value.int .i64) (by rw [e2, if_pos ql])) (And.intro trivial (Hp.keep H1)))
    · have ql : leapB y = false := ql
      exact Exists.intro () (And.intro (congrArg (Value.int .i64) (by rw [e2, if_neg (by rw [ql]; simp)])) (And.intro trivial (Hp.keep H1)))
  · have q : m ≠ 2 := by have q : (m == 2) = false := q; simpa using q
    exact Exists.intro () (And.intro (congrArg (Value.int .i64) (by rw [e2, if_neg q])) (And.intro trivial H))
@[reducible] def civV (y m d : Int) : Value := .agg #[.int .i64 y, .int .i64 m, .int .i64 d]
@[reducible] def civC (y m d : Int) : List Value := [.int .i64 y, .int .i64 m, .int .i64 d]
def datB (y m d : Int) : Bool := decide (1 ≤ d) && decide (d ≤ lenG y m)
theorem datB_iff {y m d : Int} : datB y m d = true ↔ Dat y m d := by
  rw [← dat_iff]; simp [datB]
end Go.Proofs.YtjlfjjgjghdokaaGreatDoor
/- Dates of the program: a day's date, a date's day, months on: the walks. -/
set_option linter.unusedVariables false
namespace Go.Proofs.YtjlfjjgjghdokaaGreatDoor
open Go Go.Proofs Go.Wk
theorem dateRight (y m d : Int) : CB 197 [civV y m d] (.bool (datB y m d)) := by
  intro w M I H
  refine Exe.of_ev tok Tryz.call197 Tryz.func197 rfl rfl rfl ?_
  refine box_as H (civC y m d) rfl fun b w1 H1 => ?_
  refine draw_rule (A := []) tok tdr H1 [0, 1, 2, 3, 6, 7, 8, 9, 10, 4, 5, 11, 12, 13] [0, 1, 3, 7, 15, 31, 15, 79, 15, 271, 975, 2047, 4095, 8191] rfl ?_
  refine pass_rule _ (fun w h => load_rule tok h (v := .int .i64 d) rfl ⟨rfl, rfl⟩) ?_
  refine brd (fun h1 => ?_) (fun h1 => ?_)
  · refine pass_rule _ (fun w h => load_rule tok h (v := .int .i64 y) rfl ⟨rfl, rfl⟩) ?_
    refine pass_rule _ (fun w h => load_rule tok h (v := .int .i64 m) rfl ⟨rfl, rfl⟩) ?_
    refine imp_rule (fun X wx h => call_rule h (fun M I _ h => length y m _ M I h) fun _ w1 _ H1 => imp_done H1 ?_)
    refine pass_rule _ (fun w h => load_rule tok h (v := .int .i64 d) rfl ⟨rfl, rfl⟩) ?_
    refine done_rule fun w3 H3 => ?_
    refine Exists.intro () (And.intro (congrArg Value.bool ?_) (And.intro trivial (Hp.keep H3)))
    show decide (d ≤ lenG y m) = datB y m d
    simp [datB, h1]
  · refine done_rule fun w3 H3 => ?_
    refine Exists.intro () (And.intro (congrArg Value.bool ?_) (And.intro trivial (Hp.keep H3)))
    show false = datB y m d
    simp [datB, h1]
theorem week (n : Int) (h : dayB n = true) : CB 242 [.int .i32 n] (.int .i64 (n % 7)) := by
  intro w M I H
  simp only [dayB, Bool.and_eq_true, decide_eq_true_eq] at h
  have ew : IntKind.i64.wrap n = n := i64w (by omega) (by omega)
  have em : (IntKind.i64.wrap n).tmod 7 = n % 7 := by rw [ew, Int.tmod_eq_emod_of_nonneg h.1]
  have hd : dayB n = true := by simp [dayB, h]
  refine Exe.of_ev tok Tryz.call242 Tryz.func242 rfl rfl rfl ?_
  refine call_rule H (fun M I _ h => hd ▸ dayRight n _ M I h) fun _ w1 _ H1 => ?_
  refine rem_as (n % 7) (by decide) em ?_
  exact Exists.intro () (And.intro rfl (And.intro trivial (Hp.keep H1)))
@[reducible] def dtV (a : Int × Int × Int) : Value := .tuple #[civV a.1 a.2.1 a.2.2, .nilIface]
set_option maxHeartbeats 1000000 in
theorem civil (n : Int) (h : dayB n = true) (w : World) (M I : BS) (H : Hp ⟨w, M, I⟩ [] [] w) :
    Ctr Tryz.prog 200 [.int .i32 n] w M I dtV (fun a => Dat a.1 a.2.1 a.2.2 ∧ numD a.1 a.2.1 a.2.2 = n) (fun _ => []) (fun _ => []) := by
  have hd := h
  simp only [dayB, Bool.and_eq_true, decide_eq_true_eq] at h
  have ew : IntKind.i64.wrap n = n := i64w (by omega) (by omega)
  have em : IntKind.i64.wrap (IntKind.i64.wrap n * 400) = n * 400 := by rw [ew]; exact i64w (by omega) (by omega)
  have eq : IntKind.i64.wrap ((IntKind.i64.wrap (IntKind.i64.wrap n * 400)).tdiv 146097) = n * 400 / 146097 := by rw [em, Int.tdiv_eq_ediv_of_nonneg (by omega)]; exact i64w (by omega) (by omega)
  refine Exe.of_ev tok Tryz.call200 Tryz.func200 rfl rfl rfl ?_
  refine alloc_as tok H (civC 0 0 0) rfl rfl rfl fun r w1 H1 => ?_
  refine call_rule H1 (fun M I _ hh => hd ▸ dayRight n _ M I hh) fun _ w2 _ H2 => ?_
  refine quo_as (n * 400 / 146097) (by decide) eq ?_
  have es : IntKind.i64.wrap (n * 400 / 146097 + 1) = n * 400 / 146097 + 1 := i64w (by omega) (by omega)
  refine loop_rule tok (σ := Int) 16646160 (fun y => [(4, .int .i64 y)]) (fun y w' => 1 ≤ y ∧ y ≤ 10000 ∧ Hp ⟨w, M, I⟩ [blk r (civC 0 0 0) 258] [] w') (fun y => y.toNat) (n * 400 / 146097 + 1) rfl rfl ⟨congrArg (Value.int .i64) es, trivial⟩ ⟨by omega, by omega, Hp.keep H2⟩ ?_
  intro y j w3 hW
  have hy1 := hW.1
  have hy2 := hW.2.1
  have H3 := hW.2.2
  refine call_rule H3 (fun M I _ hh => begins y hy1 (by omega) _ M I hh) fun _ w4 _ H4 => ?_
  refine brd (fun hgt => ?_) (fun hle => ?_)
  · rw [ew] at hgt
    have hy : y ≠ 1 := fun e => by rw [e, beg_one] at hgt; omega
    have ey : IntKind.i64.wrap (y - 1) = y - 1 := i64w (by omega) (by omega)
    exact Exists.intro (y - 1) (And.intro ⟨congrArg (Value.int .i64) ey, trivial⟩ (And.intro (by show (y - 1).toNat < y.toNat; omega) ⟨by omega, by omega, Hp.keep H4⟩))
  rw [ew] at hle
  refine loop_rule tok (σ := Int) 4278190096 (fun y => [(4, .int .i64 y)]) (fun y w' => 1 ≤ y ∧ y ≤ 10000 ∧ beg y ≤ n ∧ Hp ⟨w, M, I⟩ [blk r (civC 0 0 0) 258] [] w') (fun y => (10000 - y).toNat) y rfl rfl ⟨rfl, trivial⟩ ⟨hy1, hy2, by omega, Hp.keep H4⟩ ?_
  clear hy1 hy2 hle hW H3 H4
  intro y j2 w5 hW
  have hy1 := hW.1
  have hb := hW.2.2.1
  have H5 := hW.2.2.2
  have hy2 : y ≤ 9999 := by
    have h2 := hW.2.1
    by_cases e : y = 10000
    · rw [e, beg_top] at hb; omega
    · omega
  have ey : IntKind.i64.wrap (y + 1) = y + 1 := i64w (by omega) (by omega)
  refine call_rule H5 (fun M I _ hh => ey.symm ▸ begins (y + 1) (by omega) (by omega) _ M I hh) fun _ w6 _ H6 => ?_
  refine brd (fun hgt => ?_) (fun hle => ?_)
  · rw [ew, ey] at hgt
    exact Exists.intro (y + 1) (And.intro ⟨congrArg (Value.int .i64) ey, trivial⟩ (And.intro (by show (10000 - (y + 1)).toNat < (10000 - y).toNat; omega) ⟨by omega, by omega, hgt, Hp.keep H6⟩))
  rw [ew, ey] at hle
  refine call_rule H6 (fun M I _ hh => begins y hy1 (by omega) _ M I hh) fun _ w7 _ H7 => ?_
  have hbs := beg_succ hy1
  have e1 : IntKind.i64.wrap (IntKind.i64.wrap (IntKind.i64.wrap n - beg y) + 1) = n - beg y + 1 := by
    have hb0 := beg_mono (y := 1) (z := y) (by omega) hy1
    rw [beg_one] at hb0
    rw [ew, i64w (n := n - beg y) (by omega) (by omega)]
    exact i64w (by omega) (by omega)
  refine alloc_as tok H7 (civC 0 0 0) rfl rfl rfl fun c w8 H8 => ?_
  refine store_as tok H8 [.int .i64 y, .int .i64 1, .int .i64 (IntKind.i64.wrap (IntKind.i64.wrap (IntKind.i64.wrap n - beg y) + 1))] rfl rfl rfl rfl rfl fun w9 H9 => ?_
  rw [e1] at H9
  refine load_rule tok H9 (v := .int .i64 1) rfl ?_
  refine call_rule H9 (fun M I _ hh => length y 1 _ M I hh) fun _ w10 _ H10 => ?_
  refine loop_rule tok (σ := Int × Int) 2305825417027649600 (fun s => [(6, .int .i64 (lenG y s.1))])
    (fun s w' => 1 ≤ s.1 ∧ s.1 ≤ 12 ∧ 1 ≤ s.2 ∧ beg y + offM y s.1 + s.2 - 1 = n ∧ Hp ⟨w, M, I⟩ [blk c (civC y s.1 s.2) 258, blk r (civC 0 0 0) 258] [] w') (fun s => (12 - s.1).toNat) (1, n - beg y + 1) rfl rfl ⟨rfl, trivial⟩
    ⟨by show (1 : Int) ≤ 1; omega, by show (1 : Int) ≤ 12; omega, by show 1 ≤ n - beg y + 1; omega, by show beg y + offM y 1 + (n - beg y + 1) - 1 = n; rw [off_one]; omega, Hp.keep H10⟩ ?_
  intro s j3 w11 hW
  have hm1 := hW.1
  have hm2 := hW.2.1
  have hd1 := hW.2.2.1
  have hnum := hW.2.2.2.1
  have H11 := hW.2.2.2.2
  have el : lenG y s.1 = lenM y s.1 := lenG_eq hy1 hy2 hm1 hm2
  have hend := off_end (y := y)
  refine load_rule tok H11 (v := .int .i64 s.2) rfl ?_
  refine brd (fun hgt => ?_) (fun hle => ?_)
  · have hm : s.1 ≠ 12 := fun e => by
      have h1 := off_succ (y := y) (m := s.1) hm1 hm2
      rw [show s.1 + 1 = 13 by omega, hend] at h1
      rw [el] at hgt
      omega
    have hos := off_succ (y := y) (m := s.1) hm1 hm2
    have hlp := len_pos (y := y) (m := s.1)
    have ed : IntKind.i64.wrap (s.2 - lenG y s.1) = s.2 - lenG y s.1 := by
      have h3 := beg_mono (y := 1) (z := y) (by omega) hy1
      rw [beg_one] at h3
      have h4 : 0 ≤ offM y s.1 := by
        by_cases e : s.1 = 1
        · rw [e, off_one]; omega
        · have := off_mono (y := y) (m := 1) (k := s.1) (by omega) (by omega) (by omega)
          have := off_one y
          have := (len_pos (y := y) (m := 1)).1
          omega
      rw [el]
      exact i64w (by omega) (by omega)
    have em1 : IntKind.i64.wrap (s.1 + 1) = s.1 + 1 := i64w (by omega) (by omega)
    refine load_rule tok H11 (v := .int .i64 s.2) rfl ?_
    refine load_rule tok H11 (v := .int .i64 s.1) rfl ?_
    refine store_as tok H11 [.int .i64 y, .int .i64 s.1, .int .i64 (IntKind.i64.wrap (s.2 - lenG y s.1))] rfl rfl rfl rfl rfl fun w12 H12 => ?_
    refine store_as tok H12 [.int .i64 y, .int .i64 (IntKind.i64.wrap (s.1 + 1)), .int .i64 (IntKind.i64.wrap (s.2 - lenG y s.1))] rfl rfl rfl rfl rfl fun w13 H13 => ?_
    rw [ed, em1] at H13
    refine load_rule tok H13 (v := .int .i64 (s.1 + 1)) rfl ?_
    refine call_rule H13 (fun M I _ hh => length y (s.1 + 1) _ M I hh) fun _ w14 _ H14 => ?_
    exact Exists.intro (s.1 + 1, s.2 - lenG y s.1) (And.intro ⟨rfl, trivial⟩ (And.intro (by show (12 - (s.1 + 1)).toNat < (12 - s.1).toNat; omega) ⟨by show 1 ≤ s.1 + 1; omega, by show s.1 + 1 ≤ 12; omega, by show 1 ≤ s.2 - lenG y s.1; omega, by show beg y + offM y (s.1 + 1) + (s.2 - lenG y s.1) - 1 = n; omega, Hp.keep H14⟩))
  refine load_rule tok H11 (v := civV y s.1 s.2) rfl ?_
  refine store_as tok H11 (civC y s.1 s.2) rfl rfl rfl rfl rfl fun w12 H12 => ?_
  refine Exists.intro ⟨r, 0, none⟩ (Exists.intro (civV y s.1 s.2) (And.intro rfl (And.intro (Hp.ld (T := tb) tok H12 rfl) ?_)))
  exact Exists.intro (y, s.1, s.2) (And.intro rfl (And.intro ⟨⟨hy1, hy2, hm1, hm2, hd1, by show s.2 ≤ lenM y s.1; omega⟩, hnum⟩ (Hp.keep H12)))
end Go.Proofs.YtjlfjjgjghdokaaGreatDoor
/- Dates of the program: a date's day, a month's last one, months on: the walks. -/
set_option linter.unusedVariables false
namespace Go.Proofs.YtjlfjjgjghdokaaGreatDoor
open Go Go.Proofs Go.Wk
theorem numberNo (y m d : Int) (h : datB y m d = false) : CB 141 [civV y m d] (.tuple #[.int .i32 0, .iface 100 (.int .i64 1)]) := by
  intro w M I H
  refine Exe.of_ev tok Tryz.call141 Tryz.func141 rfl rfl rfl ?_
  refine box_as H (civC y m d) rfl fun b w1 H1 => ?_
  refine load_rule tok H1 (v := civV y m d) rfl ?_
  refine call_rule H1 (fun M I _ hh => h ▸ dateRight y m d _ M I hh) fun _ w2 _ H2 => ?_
  exact Exists.intro () (And.intro rfl (And.intro trivial (Hp.keep H2)))
theorem off_bounds {y m : Int} (h1 : 1 ≤ m) (h2 : m ≤ 13) : 0 ≤ offM y m ∧ offM y m ≤ 366 := by
  have he := off_end (y := y)
  have ho := off_one y
  constructor
  · by_cases e : m = 1
    · rw [e]; omega
    · have := off_mono (y := y) (m := 1) (k := m) (by omega) (by omega) h2
      have := (len_pos (y := y) (m := 1)).1
      omega
  · by_cases e : m = 13
    · rw [e, he]; split <;> omega
    · have := off_mono (y := y) (m := m) (k := 13) h1 (by omega) (by omega)
      have := (len_pos (y := y) (m := m)).1
      rw [he] at *
      split at * <;> omega
theorem beg_bounds {y : Int} (h1 : 1 ≤ y) (h2 : y ≤ 10000) : 0 ≤ beg y ∧ beg y ≤ 3652059 := by
  have h3 := beg_mono (y := 1) (z := y) (by omega) h1
  have h4 := beg_mono (y := y) (z := 10000) h1 h2
  rw [beg_one] at h3
  rw [beg_top] at h4
  omega
theorem numberD (y m d : Int) (hD : Dat y m d) : CB 141 [civV y m d] (.tuple #[.int .i32 (numD y m d), .nilIface]) := by
  intro w M I H
  have hb := datB_iff.2 hD
  have hy1 := hD.y1
  have hy2 := hD.y2
  have hm1 := hD.m1
  have hm2 := hD.m2
  have hd1 := hD.d1
  have hd2 := hD.d2
  have hl := len_pos (y := y) (m := m)
  have hbb := beg_bounds hy1 (by omega : y ≤ 10000)
  have e1 : IntKind.i64.wrap (IntKind.i64.wrap (beg y + d) - 1) = beg y + d - 1 := by rw [i64w (n := beg y + d) (by omega) (by omega)]; exact i64w (by omega) (by omega)
  refine Exe.of_ev tok Tryz.call141 Tryz.func141 rfl rfl rfl ?_
  refine box_as H (civC y m d) rfl fun b w1 H1 => ?_
  refine load_rule tok H1 (v := civV y m d) rfl ?_
  refine call_rule H1 (fun M I _ hh => hb ▸ dateRight y m d _ M I hh) fun _ w2 _ H2 => ?_
  refine draw_rule (A := []) tok tdr H2 [0, 1, 2, 3, 4, 5, 6, 7] [0, 1, 3, 0, 8, 31, 63, 127] rfl ?_
  refine pass_rule _ (fun w h => load_rule tok h (v := .int .i64 y) rfl ⟨rfl, rfl⟩) ?_
  refine imp_rule (fun X wx h => call_rule h (fun M I _ h => begins y hy1 (by omega) _ M I h) fun _ w1 _ H1 => imp_done H1 ?_)
  refine pass_rule _ (fun w h => load_rule tok h (v := .int .i64 d) rfl ⟨rfl, rfl⟩) ?_
  refine done_rule fun w3 H3 => ?_
  refine loop_rule tok (σ := Int) 536739888 (fun k => [(4, .int .i64 (beg y + offM y k + d - 1)), (5, .int .i64 k)]) (fun k w' => 1 ≤ k ∧ k ≤ m ∧ Hp ⟨w, M, I⟩ [blk b (civC y m d) 258] [] w') (fun k => (m - k).toNat) 1 rfl rfl
    ⟨congrArg (Value.int .i64) (by rw [off_one]; omega), rfl, trivial⟩ ⟨by omega, hm1, Hp.keep H3⟩ ?_
  intro k j w4 hW
  have hk1 := hW.1
  have hk2 := hW.2.1
  have H4 := hW.2.2
  have hob := off_bounds (y := y) hk1 (by omega)
  refine load_rule tok H4 (v := .int .i64 m) rfl ?_
  refine brd (fun hlt => ?_) (fun hge => ?_)
  · have el : lenG y k = lenM y k := lenG_eq hy1 hy2 hk1 (by omega)
    have hos := off_succ (y := y) (m := k) hk1 (by omega)
    have hlk := len_pos (y := y) (m := k)
    have ek : IntKind.i64.wrap (k + 1) = k + 1 := i64w (by omega) (by omega)
    have es : IntKind.i64.wrap (beg y + offM y k + d - 1 + lenG y k) = beg y + offM y (k + 1) + d - 1 := by rw [el, i64w (by omega) (by omega)]; omega
    refine load_rule tok H4 (v := .int .i64 y) rfl ?_
    refine call_rule H4 (fun M I _ hh => length y k _ M I hh) fun _ w5 _ H5 => ?_
    exact Exists.intro (k + 1) (And.intro ⟨congrArg (Value.int .i64) es, congrArg (Value.int .i64) ek, trivial⟩ (And.intro (by show (m - (k + 1)).toNat < (m - k).toNat; omega) ⟨by omega, by omega, Hp.keep H5⟩))
  have ekm : k = m := by omega
  have en : IntKind.i32.wrap (beg y + offM y k + d - 1) = numD y m d := by
    rw [ekm]
    have := num_range hD
    unfold numD at this ⊢
    exact i32w (by omega) (by omega)
  refine Exists.intro () (And.intro ?_ (And.intro trivial (Hp.keep H4)))
  show Value.tuple #[.int .i32 (IntKind.i32.wrap (beg y + offM y k + d - 1)), .nilIface] = _
  rw [en]
theorem last (y m d : Int) (hD : Dat y m d) : CB 210 [civV y m d] (.bool (d == lenM y m)) := by
  intro w M I H
  have hb := datB_iff.2 hD
  have el : lenG y m = lenM y m := lenG_eq hD.y1 hD.y2 hD.m1 hD.m2
  refine Exe.of_ev tok Tryz.call210 Tryz.func210 rfl rfl rfl ?_
  refine box_as H (civC y m d) rfl fun b w1 H1 => ?_
  refine draw_rule (A := []) tok tdr H1 [0, 1, 2, 5, 6, 7, 8, 9, 3, 4, 10, 11, 12] [0, 1, 3, 7, 15, 7, 39, 7, 135, 487, 1023, 2047, 4095] rfl ?_
  refine pass_rule _ (fun w h => load_rule tok h (v := civV y m d) rfl ⟨rfl, rfl⟩) ?_
  refine imp_rule (fun X wx h => call_rule h (fun M I _ h => hb ▸ dateRight y m d _ M I h) fun _ w1 _ H1 => imp_done H1 ?_)
  refine pass_rule _ (fun w h => load_rule tok h (v := .int .i64 y) rfl ⟨rfl, rfl⟩) ?_
  refine pass_rule _ (fun w h => load_rule tok h (v := .int .i64 m) rfl ⟨rfl, rfl⟩) ?_
  refine imp_rule (fun X wx h => call_rule h (fun M I _ h => length y m _ M I h) fun _ w1 _ H1 => imp_done H1 ?_)
  refine pass_rule _ (fun w h => load_rule tok h (v := .int .i64 d) rfl ⟨rfl, rfl⟩) ?_
  refine done_rule fun w3 H3 => ?_
  refine Exists.intro () (And.intro (congrArg Value.bool ?_) (And.intro trivial (Hp.keep H3)))
  show (d == lenG y m) = _
  rw [el]
theorem monthsOver (y m d n : Int) (h : Dat y m d) (hn1 : -119988 ≤ n) (hn2 : n ≤ 119988) (ho : (y - 1) * 12 + m - 1 + n < 0 ∨ 119988 ≤ (y - 1) * 12 + m - 1 + n) : CB 211 [civV y m d, .int .i64 n] (.tuple #[civV 0 0 0, .iface 100 (.int .i64 12)]) := by
  intro w M I H
  have hb := datB_iff.2 h
  have hy1 := h.y1
  have hy2 := h.y2
  have hm1 := h.m1
  have hm2 := h.m2
  have ea : IntKind.i64.wrap (IntKind.i64.wrap (IntKind.i64.wrap (IntKind.i64.wrap (IntKind.i64.wrap (y - 1) * 12) + m) - 1) + n) = (y - 1) * 12 + m - 1 + n := by
    rw [i64w (n := y - 1) (by omega) (by omega), i64w (n := (y - 1) * 12) (by omega) (by omega), i64w (n := (y - 1) * 12 + m) (by omega) (by omega), i64w (n := (y - 1) * 12 + m - 1) (by omega) (by omega), i64w (by omega) (by omega)]
  refine Exe.of_ev tok Tryz.call211 Tryz.func211 rfl rfl rfl ?_
  refine box_as H (civC y m d) rfl fun b w1 H1 => ?_
  refine alloc_as tok H1 (civC 0 0 0) rfl rfl rfl fun r w2 H2 => ?_
  refine load_rule tok H2 (v := civV y m d) rfl ?_
  refine call_rule H2 (fun M I _ hh => hb ▸ dateRight y m d _ M I hh) fun _ w3 _ H3 => ?_
  refine brd (fun hq => by omega) (fun _ => ?_)
  refine brd (fun hq => by omega) (fun _ => ?_)
  refine load_rule tok H3 (v := .int .i64 y) rfl ?_
  refine load_rule tok H3 (v := .int .i64 m) rfl ?_
  refine brd (fun q => ?_) (fun q => ?_)
  · refine store_as tok H3 (civC 0 0 0) rfl rfl rfl rfl rfl fun w4 H4 => ?_
    refine Exists.intro ⟨r, 0, none⟩ (Exists.intro (civV 0 0 0) (And.intro rfl (And.intro (Hp.ld (T := tb) tok H4 rfl) ?_)))
    exact Exists.intro () (And.intro rfl (And.intro trivial (Hp.keep H4)))
  rw [ea] at q
  refine brd (fun q2 => ?_) (fun q2 => ?_)
  · refine store_as tok H3 (civC 0 0 0) rfl rfl rfl rfl rfl fun w4 H4 => ?_
    refine Exists.intro ⟨r, 0, none⟩ (Exists.intro (civV 0 0 0) (And.intro rfl (And.intro (Hp.ld (T := tb) tok H4 rfl) ?_)))
    exact Exists.intro () (And.intro rfl (And.intro trivial (Hp.keep H4)))
  rw [ea] at q2
  omega
/-- So many months on: the year, the month. -/
def onY (y m n : Int) : Int := ((y - 1) * 12 + m - 1 + n) / 12 + 1
def onM (y m n : Int) : Int := ((y - 1) * 12 + m - 1 + n) % 12 + 1
theorem on_ok {y m n : Int} (h1 : 0 ≤ (y - 1) * 12 + m - 1 + n) (h2 : (y - 1) * 12 + m - 1 + n < 119988) : 1 ≤ onY y m n ∧ onY y m n ≤ 9999 ∧ 1 ≤ onM y m n ∧ onM y m n ≤ 12 := by
  unfold onY onM; omega
theorem months (y m d n : Int) (h : Dat y m d) (hn1 : -119988 ≤ n) (hn2 : n ≤ 119988) (h1 : 0 ≤ (y - 1) * 12 + m - 1 + n) (h2 : (y - 1) * 12 + m - 1 + n < 119988) : CB 211 [civV y m d, .int .i64 n] (.tuple #[civV (onY y m n) (onM y m n) (min d (lenM (onY y m n) (onM y m n))), .nilIface]) := by
  intro w M I H
  have hb := datB_iff.2 h
  have hy1 := h.y1
  have hy2 := h.y2
  have hm1 := h.m1
  have hm2 := h.m2
  obtain ⟨o1, o2, o3, o4⟩ := on_ok h1 h2
  have el : lenG (onY y m n) (onM y m n) = lenM (onY y m n) (onM y m n) := lenG_eq o1 o2 o3 o4
  have ea : IntKind.i64.wrap (IntKind.i64.wrap (IntKind.i64.wrap (IntKind.i64.wrap (IntKind.i64.wrap (y - 1) * 12) + m) - 1) + n) = (y - 1) * 12 + m - 1 + n := by
    rw [i64w (n := y - 1) (by omega) (by omega), i64w (n := (y - 1) * 12) (by omega) (by omega), i64w (n := (y - 1) * 12 + m) (by omega) (by omega), i64w (n := (y - 1) * 12 + m - 1) (by omega) (by omega), i64w (by omega) (by omega)]
  have eq : IntKind.i64.wrap ((IntKind.i64.wrap (IntKind.i64.wrap (IntKind.i64.wrap (IntKind.i64.wrap (IntKind.i64.wrap (y - 1) * 12) + m) - 1) + n)).tdiv 12) = onY y m n - 1 := by
    rw [ea, Int.tdiv_eq_ediv_of_nonneg h1, i64w (by omega) (by omega)]; unfold onY; omega
  have er : (IntKind.i64.wrap (IntKind.i64.wrap (IntKind.i64.wrap (IntKind.i64.wrap (IntKind.i64.wrap (y - 1) * 12) + m) - 1) + n)).tmod 12 = onM y m n - 1 := by
    rw [ea, Int.tmod_eq_emod_of_nonneg h1]; unfold onM; omega
  have hmn : (if lenM (onY y m n) (onM y m n) < d then lenM (onY y m n) (onM y m n) else d) = min d (lenM (onY y m n) (onM y m n)) := by split <;> omega
  have e3 : IntKind.i64.wrap (onY y m n - 1 + 1) = onY y m n := by rw [Int.sub_add_cancel]; exact i64w (by omega) (by omega)
  have e4 : IntKind.i64.wrap (onM y m n - 1 + 1) = onM y m n := by rw [Int.sub_add_cancel]; exact i64w (by omega) (by omega)
  refine Exe.of_ev tok Tryz.call211 Tryz.func211 rfl rfl rfl ?_
  refine box_as H (civC y m d) rfl fun b w1 H1 => ?_
  refine alloc_as tok H1 (civC 0 0 0) rfl rfl rfl fun r w2 H2 => ?_
  refine load_rule tok H2 (v := civV y m d) rfl ?_
  refine call_rule H2 (fun M I _ hh => hb ▸ dateRight y m d _ M I hh) fun _ w3 _ H3 => ?_
  refine brd (fun hq => by omega) (fun _ => ?_)
  refine brd (fun hq => by omega) (fun _ => ?_)
  refine load_rule tok H3 (v := .int .i64 y) rfl ?_
  refine load_rule tok H3 (v := .int .i64 m) rfl ?_
  refine brd (fun q => by rw [ea] at q; omega) (fun _ => ?_)
  refine brd (fun q => by rw [ea] at q; omega) (fun _ => ?_)
  refine quo_as (onY y m n - 1) (by decide) eq ?_
  refine rem_as (onM y m n - 1) (by decide) er ?_
  refine load_rule tok H3 (v := .int .i64 d) rfl ?_
  refine alloc_as tok H3 (civC 0 0 0) rfl rfl rfl fun o w4 H4 => ?_
  refine store_as tok H4 [.int .i64 (IntKind.i64.wrap (onY y m n - 1 + 1)), .int .i64 (IntKind.i64.wrap (onM y m n - 1 + 1)), .int .i64 d] rfl rfl rfl rfl rfl fun w5 H5 => ?_
  rw [e3, e4] at H5
  have H5 : Hp ⟨w, M, I⟩ [blk o (civC (onY y m n) (onM y m n) d) 258, blk r (civC 0 0 0) 258] [] w5 := Hp.keep H5
  refine draw_rule (A := [blk o (civC (onY y m n) (onM y m n) d) 258]) tok tdr H5 [2, 3, 4, 5, 6, 0, 1, 7, 8, 9] [0, 1, 0, 4, 0, 16, 60, 127, 255, 511] rfl ?_
  refine pass_kept [blk o (civC (onY y m n) (onM y m n) d) 258] (.int .i64 (onY y m n)) (fun X w h => load_rule tok h (v := .int .i64 (onY y m n)) rfl ⟨rfl, rfl⟩) ?_
  refine pass_kept [blk o (civC (onY y m n) (onM y m n) d) 258] (.int .i64 (onM y m n)) (fun X w h => load_rule tok h (v := .int .i64 (onM y m n)) rfl ⟨rfl, rfl⟩) ?_
  refine imp_rule (fun X wx h => call_rule h (fun M I _ h => length (onY y m n) (onM y m n) _ M I h) fun _ w1 _ H1 => imp_done H1 ?_)
  refine pass_kept [blk o (civC (onY y m n) (onM y m n) d) 258] (.int .i64 d) (fun X w h => load_rule tok h (v := .int .i64 d) rfl ⟨rfl, rfl⟩) ?_
  refine imp_rule (fun X wx h => store_as tok h [.int .i64 (onY y m n), .int .i64 (onM y m n), .int .i64 (if lenG (onY y m n) (onM y m n) < d then lenG (onY y m n) (onM y m n) else d)] rfl rfl rfl rfl rfl fun w1 H1 => imp_done H1 ?_)
  refine done_rule fun w6 H6 => ?_
  rw [el, hmn] at H6
  refine load_rule tok H6 (v := civV (onY y m n) (onM y m n) (min d (lenM (onY y m n) (onM y m n)))) rfl ?_
  refine store_as tok H6 (civC (onY y m n) (onM y m n) (min d (lenM (onY y m n) (onM y m n)))) rfl rfl rfl rfl rfl fun w7 H7 => ?_
  refine Exists.intro ⟨r, 0, none⟩ (Exists.intro (civV (onY y m n) (onM y m n) (min d (lenM (onY y m n) (onM y m n)))) (And.intro rfl (And.intro (Hp.ld (T := tb) tok H7 rfl) ?_)))
  exact Exists.intro () (And.intro rfl (And.intro trivial (Hp.keep H7)))
end Go.Proofs.YtjlfjjgjghdokaaGreatDoor
/- When something is due: holidays, open days, months behind a day: the walks. -/
set_option linter.unusedVariables false
namespace Go.Proofs.YtjlfjjgjghdokaaGreatDoor
open Go Go.Proofs Go.Wk
theorem drop_one {α : Type} {ls : List α} {i : Nat} {x : α} (h : ls[i]? = some x) : ls.drop i = x :: ls.drop (i + 1) := by
  obtain ⟨hj, _⟩ := List.getElem?_eq_some_iff.1 h
  rw [List.drop_eq_getElem_cons hj]
  rw [List.getElem?_eq_getElem hj] at h
  rw [Option.some.inj h]
def idxL (d : Int) : List Int → Int → Int
  | [], _ => -1
  | x :: r, i => if d = x then i else idxL d r (i + 1)
theorem idxL_has (d : Int) : ∀ (l : List Int) (i : Int), 0 ≤ i → decide (0 ≤ idxL d l i) = l.contains d
  | [], i, _ => by simp [idxL]
  | x :: r, i, h => by
    unfold idxL
    by_cases e : d = x
    · rw [if_pos e]; simp [e, h]
    · rw [if_neg e, idxL_has d r (i + 1) (by omega)]
      simp [e]
@[reducible] def dayR : Rp Int := Go.Wk.intR .i32
theorem index (A : Option Addr) (n c : Nat) (hs : List Int) (d : Int) (w : World) (M I : BS) (H : Hp ⟨w, M, I⟩ [] [Sl dayR (.slice A n c) hs] w) :
    Ctr Tryz.prog 263 [.slice A n c, .int .i32 d] w M I (fun _ : Unit => .int .i64 (idxL d hs 0)) (fun _ => True) (fun _ => []) (fun _ => []) := by
  obtain ⟨hn, hc, hc2⟩ := H.sll (A := A) (n := n) (c := c)
  refine Exe.of_ev tok Tryz.call263 Tryz.func263 rfl rfl rfl ?_
  refine loop_rule tok (σ := Nat) 524080 (fun i => [(8, .int .i64 (i : Int))]) (fun i w' => i ≤ n ∧ idxL d hs 0 = idxL d (hs.drop i) i ∧ Hp ⟨w, M, I⟩ [] [Sl dayR (.slice A n c) hs] w') (fun i => n - i) 0 rfl rfl ⟨rfl, trivial⟩ ⟨Nat.zero_le _, rfl, H⟩ ?_
  intro i j w1 hW
  have hi := hW.1
  have hg := hW.2.1
  have H1 := hW.2.2
  refine brd (fun hin => ?_) (fun hno => ?_)
  · have ew : IntKind.i64.wrap ((i : Int) + 1) = ((i + 1 : Nat) : Int) := w64 (by omega) (by omega)
    refine idx_rule tok H1 rfl rfl rfl (by omega) hin fun eb eo x hx H2 => ?_
    have hx' : hs[i]? = some x := by simpa using hx
    refine ld1_rule tok H2 (v := fun _ => .int .i32 x) rfl rfl (fun _ => rfl) fun _ _ H3 => ?_
    have hd := drop_one hx'
    refine br (fun q => ?_) (fun q => ?_)
    · have q : d = x := by have q : (d == x) = true := q; simpa using q
      refine Exists.intro () (And.intro (congrArg (Value.int .i64) ?_) (And.intro trivial (Hp.keep H3)))
      rw [hg, hd, idxL, if_pos q]
    · have q : ¬ d = x := by have q : (d == x) = false := q; simpa using q
      refine Exists.intro (i + 1) (And.intro ⟨congrArg (Value.int .i64) ew, trivial⟩ (And.intro (by show n - (i + 1) < n - i; omega) ⟨by omega, ?_, Hp.keep H3⟩))
      rw [hg, hd, idxL, if_neg q]; rfl
  · refine Exists.intro () (And.intro (congrArg (Value.int .i64) ?_) (And.intro trivial (Hp.keep H1)))
    rw [hg, List.drop_eq_nil_of_le (by omega)]; rfl
theorem contains (A : Option Addr) (n c : Nat) (hs : List Int) (d : Int) (w : World) (M I : BS) (H : Hp ⟨w, M, I⟩ [] [Sl dayR (.slice A n c) hs] w) :
    Ctr Tryz.prog 243 [.slice A n c, .int .i32 d] w M I (fun _ : Unit => .bool (hs.contains d)) (fun _ => True) (fun _ => []) (fun _ => []) := by
  refine Exe.of_ev tok Tryz.call243 Tryz.func243 rfl rfl rfl ?_
  refine call_rule H (fun M I _ h => index A n c hs d _ M I h) fun _ w1 _ H1 => ?_
  exact Exists.intro () (And.intro (congrArg Value.bool (idxL_has d hs 0 (Int.le_refl _))) (And.intro trivial (Hp.keep H1)))
/-- Is something done on a day? -/
def openB (hs : List Int) (d : Int) : Bool := dayB d && (decide (d % 7 < 5) && !hs.contains d)
theorem weekAny (n : Int) (h : dayB n = true) (w : World) (M I : BS) (H : Hp ⟨w, M, I⟩ [] [] w) : Ctr Tryz.prog 242 [.int .i32 n] w M I (fun _ : Unit => .int .i64 (n % 7)) (fun _ => True) (fun _ => []) (fun _ => []) := week n h w M I H
theorem open_ (A : Option Addr) (n c : Nat) (hs : List Int) (d : Int) (w : World) (M I : BS) (H : Hp ⟨w, M, I⟩ [] [Sl dayR (.slice A n c) hs] w) :
    Ctr Tryz.prog 212 [.slice A n c, .int .i32 d] w M I (fun _ : Unit => .bool (openB hs d)) (fun _ => True) (fun _ => []) (fun _ => []) := by
  refine Exe.of_ev tok Tryz.call212 Tryz.func212 rfl rfl rfl ?_
  refine call_rule H (fun M I _ h => dayRight d _ M I h) fun _ w1 _ H1 => ?_
  refine br (fun q => ?_) (fun q => ?_)
  · have q : dayB d = true := q
    refine call_rule H1 (fun M I _ h => weekAny d q _ M I h) fun _ w2 _ H2 => ?_
    refine brd (fun q2 => ?_) (fun q2 => ?_)
    · refine call_rule H2 (fun M I _ h => contains A n c hs d _ M I h) fun _ w3 _ H3 => ?_
      refine Exists.intro () (And.intro (congrArg Value.bool ?_) (And.intro trivial (Hp.keep H3)))
      show (!hs.contains d) = openB hs d
      unfold openB; rw [q, decide_eq_true q2]; simp
    · refine Exists.intro () (And.intro (congrArg Value.bool ?_) (And.intro trivial (Hp.keep H2)))
      show false = openB hs d
      unfold openB; rw [decide_eq_false q2]; simp
  · have q : dayB d = false := q
    refine Exists.intro () (And.intro (congrArg Value.bool ?_) (And.intro trivial (Hp.keep H1)))
    show false = openB hs d
    unfold openB; rw [q]; rfl
/-- Do they rise? -/
def holyGo : Option Int → List Int → Bool
  | _, [] => true
  | p, x :: r => dayB x && ((match p with
    | none => true
    | some y => !decide (x ≤ y)) && holyGo (some x) r)
theorem holyGo_cons (p : Option Int) (x : Int) (r : List Int) : holyGo p (x :: r) = (dayB x && ((match p with
    | none => true
    | some y => !decide (x ≤ y)) && holyGo (some x) r)) := by cases p <;> rfl
def holyB (hs : List Int) : Bool := holyGo none hs && decide ((hs.length : Int) ≤ 200)
def prevOf (hs : List Int) : Nat → Option Int
  | 0 => none
  | i + 1 => hs[i]?
set_option maxHeartbeats 1000000 in
theorem holyRight (A : Option Addr) (n c : Nat) (hs : List Int) (w : World) (M I : BS) (H : Hp ⟨w, M, I⟩ [] [Sl dayR (.slice A n c) hs] w) :
    Ctr Tryz.prog 86 [.slice A n c] w M I (fun _ : Unit => .bool (holyB hs)) (fun _ => True) (fun _ => []) (fun _ => []) := by
  obtain ⟨hn, hc, hc2⟩ := H.sll (A := A) (n := n) (c := c)
  refine Exe.of_ev tok Tryz.call86 Tryz.func86 rfl rfl rfl ?_
  refine loop_rule tok (σ := Nat) 536870812 (fun i => [(7, .int .i64 (i : Int))]) (fun i w' => i ≤ n ∧ holyGo none hs = holyGo (prevOf hs i) (hs.drop i) ∧ Hp ⟨w, M, I⟩ [] [Sl dayR (.slice A n c) hs] w') (fun i => n - i) 0 rfl rfl ⟨rfl, trivial⟩ ⟨Nat.zero_le _, rfl, H⟩ ?_
  intro i j w1 hW
  have hi := hW.1
  have hg := hW.2.1
  have H1 := hW.2.2
  refine brd (fun hin => ?_) (fun hno => ?_)
  · have ew : IntKind.i64.wrap ((i : Int) + 1) = ((i + 1 : Nat) : Int) := w64 (by omega) (by omega)
    refine idx_rule tok H1 rfl rfl rfl (by omega) hin fun eb eo x hx H2 => ?_
    have hx' : hs[i]? = some x := by simpa using hx
    have hd := drop_one hx'
    rw [hd, holyGo_cons] at hg
    refine ld1_rule tok H2 (v := fun _ => .int .i32 x) rfl rfl (fun _ => rfl) fun _ _ H3 => ?_
    refine call_rule H3 (fun M I _ h => dayRight x _ M I h) fun _ w4 _ H4 => ?_
    have nxt : dayB x = true → (match prevOf hs i with
        | none => true
        | some y => !decide (x ≤ y)) = true → holyGo none hs = holyGo (prevOf hs (i + 1)) (hs.drop (i + 1)) := fun a b => by
      rw [hg, a, b]; simp only [Bool.true_and]
      show _ = holyGo hs[i]? _
      rw [hx']
    have done1 : dayB x = false → false = holyB hs := fun a => by unfold holyB; rw [hg, a]; rfl
    refine br (fun q => ?_) (fun q => ?_)
    · have q : dayB x = false := by have q : (!dayB x) = true := q; simpa using q
      exact Exists.intro () (And.intro (congrArg Value.bool (done1 q)) (And.intro trivial (Hp.keep H4)))
    have q : dayB x = true := by have q : (!dayB x) = false := q; simpa using q
    refine brd (fun hi0 => ?_) (fun hi0 => ?_)
    · have e1 : IntKind.i64.wrap ((i : Int) - 1) = (i : Int) - 1 := w64 (by omega) (by omega)
      have hi1 : i - 1 < hs.length := by omega
      have hp : prevOf hs i = some hs[i - 1] := by
        obtain ⟨k, rfl⟩ : ∃ k, i = k + 1 := ⟨i - 1, by omega⟩
        exact List.getElem?_eq_getElem hi1
      refine idx_rule tok H4 rfl rfl rfl (by omega) (by omega) fun eb2 eo2 y hy H5 => ?_
      have hy' : y = hs[i - 1] := by
        have e : (IntKind.i64.wrap ((i : Int) - 1)).toNat = i - 1 := by rw [e1]; omega
        rw [e, List.getElem?_eq_getElem hi1] at hy
        exact (Option.some.inj hy).symm
      refine ld1_rule tok H5 (v := fun _ => .int .i32 y) rfl rfl (fun _ => rfl) fun _ _ H6 => ?_
      refine brd (fun q2 => ?_) (fun q2 => ?_)
      · refine Exists.intro () (And.intro (congrArg Value.bool ?_) (And.intro trivial (Hp.keep H6)))
        show false = holyB hs
        unfold holyB; rw [hg, hp, ← hy']; simp [q2]
      · exact Exists.intro (i + 1) (And.intro ⟨congrArg (Value.int .i64) ew, trivial⟩ (And.intro (by show n - (i + 1) < n - i; omega) ⟨by omega, nxt q (by rw [hp, ← hy']; simp; omega), Hp.keep H6⟩))
    · have : i = 0 := by omega
      exact Exists.intro (i + 1) (And.intro ⟨congrArg (Value.int .i64) ew, trivial⟩ (And.intro (by show n - (i + 1) < n - i; omega) ⟨by omega, nxt q (by rw [this]; rfl), Hp.keep H4⟩))
  · refine Exists.intro () (And.intro (congrArg Value.bool ?_) (And.intro trivial (Hp.keep H1)))
    show decide ((n : Int) ≤ 200) = holyB hs
    unfold holyB
    rw [hg, List.drop_eq_nil_of_le (by omega), hn]; simp [holyGo]
end Go.Proofs.YtjlfjjgjghdokaaGreatDoor
/- When something is due: so many months behind a day, the first open day from one on: the walks. -/
set_option linter.unusedVariables false
namespace Go.Proofs.YtjlfjjgjghdokaaGreatDoor
open Go Go.Proofs Go.Wk
/-- So many months behind a date: the day, if there is one. -/
def plainV (y m d k : Int) : Option Int := if 119988 ≤ (y - 1) * 12 + m - 1 + k then none else some (numD (onY y m k) (onM y m k) (if d = lenM y m then lenM (onY y m k) (onM y m k) else min d (lenM (onY y m k) (onM y m k))))
def plainR (s k : Int) (r : Option Int) : Prop := ∃ y m d, Dat y m d ∧ numD y m d = s ∧ r = plainV y m d k
theorem plainR_one {s k : Int} {r r' : Option Int} (h : plainR s k r) (h' : plainR s k r') : r = r' := by
  obtain ⟨y, m, d, h1, h2, rfl⟩ := h
  obtain ⟨y', m', d', h3, h4, rfl⟩ := h'
  obtain ⟨rfl, rfl, rfl⟩ := num_inj h1 h3 (h2.trans h4.symm)
  rfl
@[reducible] def ovV : Option Int → Value
  | some n => .tuple #[.int .i32 n, .nilIface]
  | none => .tuple #[.int .i32 0, .iface 100 (.int .i64 12)]
theorem dat_on {y m d k : Int} (h : Dat y m d) (h1 : 0 ≤ (y - 1) * 12 + m - 1 + k) (h2 : (y - 1) * 12 + m - 1 + k < 119988) : Dat (onY y m k) (onM y m k) (min d (lenM (onY y m k) (onM y m k))) ∧ Dat (onY y m k) (onM y m k) (lenM (onY y m k) (onM y m k)) := by
  obtain ⟨o1, o2, o3, o4⟩ := on_ok h1 h2
  have := len_pos (y := onY y m k) (m := onM y m k)
  have := h.d1
  exact ⟨⟨o1, o2, o3, o4, by omega, by omega⟩, ⟨o1, o2, o3, o4, by omega, by omega⟩⟩
theorem plain (s k : Int) (hs : dayB s = true) (hk0 : 0 ≤ k) (hk : k ≤ 480) (w : World) (M I : BS) (H : Hp ⟨w, M, I⟩ [] [] w) :
    Ctr Tryz.prog 155 [.int .i32 s, .int .i64 k] w M I ovV (plainR s k) (fun _ => []) (fun _ => []) := by
  refine Exe.of_ev tok Tryz.call155 Tryz.func155 rfl rfl rfl ?_
  refine brd (fun h => by omega) (fun _ => ?_)
  refine brd (fun h => by omega) (fun _ => ?_)
  refine call_rule H (fun M I _ h => civil s hs _ M I h) fun a w1 ha H1 => ?_
  have hD := ha.1
  have hN := ha.2
  have hy1 := hD.y1
  have hm1 := hD.m1
  refine alloc_as tok H1 (civC 0 0 0) rfl rfl rfl fun c w2 H2 => ?_
  refine store_as tok H2 (civC a.1 a.2.1 a.2.2) rfl rfl rfl rfl rfl fun w3 H3 => ?_
  refine load_rule tok H3 (v := civV a.1 a.2.1 a.2.2) rfl ?_
  refine call_rule H3 (fun M I _ h => last a.1 a.2.1 a.2.2 hD _ M I h) fun _ w4 _ H4 => ?_
  refine load_rule tok H4 (v := civV a.1 a.2.1 a.2.2) rfl ?_
  by_cases ho : 119988 ≤ (a.1 - 1) * 12 + a.2.1 - 1 + k
  · refine call_rule H4 (fun M I _ h => monthsOver a.1 a.2.1 a.2.2 k hD (by omega) (by omega) (.inr ho) _ M I h) fun _ w5 _ H5 => ?_
    refine store_as tok H5 (civC 0 0 0) rfl rfl rfl rfl rfl fun w6 H6 => ?_
    exact Exists.intro none (And.intro rfl (And.intro ⟨a.1, a.2.1, a.2.2, hD, hN, by unfold plainV; rw [if_pos ho]⟩ (Hp.keep H6)))
  have hon := dat_on (k := k) hD (by omega) (by omega)
  refine call_rule H4 (fun M I _ h => months a.1 a.2.1 a.2.2 k hD (by omega) (by omega) (by omega) (by omega) _ M I h) fun _ w5 _ H5 => ?_
  refine store_as tok H5 (civC (onY a.1 a.2.1 k) (onM a.1 a.2.1 k) (min a.2.2 (lenM (onY a.1 a.2.1 k) (onM a.1 a.2.1 k)))) rfl rfl rfl rfl rfl fun w6 H6 => ?_
  have el : lenG (onY a.1 a.2.1 k) (onM a.1 a.2.1 k) = lenM (onY a.1 a.2.1 k) (onM a.1 a.2.1 k) := lenG_eq hon.1.y1 hon.1.y2 hon.1.m1 hon.1.m2
  refine br (fun q => ?_) (fun q => ?_)
  · have q : a.2.2 = lenM a.1 a.2.1 := by have q : (a.2.2 == lenM a.1 a.2.1) = true := q; simpa using q
    refine load_rule tok H6 (v := .int .i64 (onY a.1 a.2.1 k)) rfl ?_
    refine load_rule tok H6 (v := .int .i64 (onM a.1 a.2.1 k)) rfl ?_
    refine call_rule H6 (fun M I _ h => length (onY a.1 a.2.1 k) (onM a.1 a.2.1 k) _ M I h) fun _ w7 _ H7 => ?_
    refine store_as tok H7 (civC (onY a.1 a.2.1 k) (onM a.1 a.2.1 k) (lenG (onY a.1 a.2.1 k) (onM a.1 a.2.1 k))) rfl rfl rfl rfl rfl fun w8 H8 => ?_
    rw [el] at H8
    refine load_rule tok H8 (v := civV (onY a.1 a.2.1 k) (onM a.1 a.2.1 k) (lenM (onY a.1 a.2.1 k) (onM a.1 a.2.1 k))) rfl ?_
    refine call_rule H8 (fun M I _ h => numberD _ _ _ hon.2 _ M I h) fun _ w9 _ H9 => ?_
    exact Exists.intro (some (numD (onY a.1 a.2.1 k) (onM a.1 a.2.1 k) (lenM (onY a.1 a.2.1 k) (onM a.1 a.2.1 k)))) (And.intro rfl (And.intro ⟨a.1, a.2.1, a.2.2, hD, hN, by unfold plainV; rw [if_neg ho, if_pos q]⟩ (Hp.keep H9)))
  · have q : ¬ a.2.2 = lenM a.1 a.2.1 := by have q : (a.2.2 == lenM a.1 a.2.1) = false := q; simpa using q
    refine load_rule tok H6 (v := civV (onY a.1 a.2.1 k) (onM a.1 a.2.1 k) (min a.2.2 (lenM (onY a.1 a.2.1 k) (onM a.1 a.2.1 k)))) rfl ?_
    refine call_rule H6 (fun M I _ h => numberD _ _ _ hon.1 _ M I h) fun _ w9 _ H9 => ?_
    exact Exists.intro (some (numD (onY a.1 a.2.1 k) (onM a.1 a.2.1 k) (min a.2.2 (lenM (onY a.1 a.2.1 k) (onM a.1 a.2.1 k))))) (And.intro rfl (And.intro ⟨a.1, a.2.1, a.2.2, hD, hN, by unfold plainV; rw [if_neg ho, if_neg q]⟩ (Hp.keep H9)))
theorem plainV_day {y m d k n : Int} (h : Dat y m d) (hk : 0 ≤ k) (e : plainV y m d k = some n) : dayB n = true := by
  have := h.y1
  have := h.m1
  unfold plainV at e
  split at e
  · cases e
  · have hon := dat_on (k := k) h (by omega) (by omega)
    have e := Option.some.inj e
    subst e
    split
    · have := num_range hon.2; simp only [dayB, Bool.and_eq_true, decide_eq_true_eq]; omega
    · have := num_range hon.1; simp only [dayB, Bool.and_eq_true, decide_eq_true_eq]; omega
/-- The first open day from one on. -/
def nextR (hs : List Int) (d : Int) : Option Int → Prop
  | some n => d ≤ n ∧ openB hs n = true ∧ ∀ k, d ≤ k → k < n → openB hs k = false
  | none => ∀ k, d ≤ k → openB hs k = false
theorem nextR_one {hs : List Int} {d : Int} : ∀ {r r' : Option Int}, nextR hs d r → nextR hs d r' → r = r'
  | none, none, _, _ => rfl
  | none, some n, h, h' => by have := h n h'.1; rw [h'.2.1] at this; cases this
  | some n, none, h, h' => by have := h' n h.1; rw [h.2.1] at this; cases this
  | some n, some m, h, h' => by
    by_cases a : n < m
    · have := h'.2.2 n h.1 a; rw [h.2.1] at this; cases this
    · by_cases b : m < n
      · have := h.2.2 m h'.1 b; rw [h'.2.1] at this; cases this
      · rw [show n = m by omega]
theorem next (A : Option Addr) (n c : Nat) (hs : List Int) (d : Int) (hd : dayB d = true) (w : World) (M I : BS) (H : Hp ⟨w, M, I⟩ [] [Sl dayR (.slice A n c) hs] w) :
    Ctr Tryz.prog 156 [.slice A n c, .int .i32 d] w M I ovV (nextR hs d) (fun _ => []) (fun _ => []) := by
  have hd0 := hd
  simp only [dayB, Bool.and_eq_true, decide_eq_true_eq] at hd0
  refine Exe.of_ev tok Tryz.call156 Tryz.func156 rfl rfl rfl ?_
  refine call_rule H (fun M I _ h => hd ▸ dayRight d _ M I h) fun _ w1 _ H1 => ?_
  refine loop_rule tok (σ := Int) 261170 (fun k => [(1, .int .i32 k)]) (fun k w' => d ≤ k ∧ k ≤ 3652059 ∧ (∀ j, d ≤ j → j < k → openB hs j = false) ∧ Hp ⟨w, M, I⟩ [] [Sl dayR (.slice A n c) hs] w') (fun k => (3652059 - k).toNat) d rfl rfl ⟨rfl, trivial⟩ ⟨Int.le_refl _, by omega, (fun j a b => by omega), Hp.keep H1⟩ ?_
  intro k j w2 hW
  have h1 := hW.1
  have h2 := hW.2.1
  have h3 := hW.2.2.1
  have H2 := hW.2.2.2
  refine call_rule H2 (fun M I _ h => dayRight k _ M I h) fun _ w3 _ H3 => ?_
  refine br (fun q => ?_) (fun q => ?_)
  · have q : dayB k = true := q
    have qk := q
    simp only [dayB, Bool.and_eq_true, decide_eq_true_eq] at qk
    have ek : IntKind.i32.wrap (k + 1) = k + 1 := i32w (by omega) (by omega)
    refine call_rule H3 (fun M I _ h => open_ A n c hs k _ M I h) fun _ w4 _ H4 => ?_
    refine br (fun qo => ?_) (fun qo => ?_)
    · have qo : openB hs k = true := qo
      exact Exists.intro (some k) (And.intro rfl (And.intro ⟨h1, qo, h3⟩ (Hp.keep H4)))
    · have qo : openB hs k = false := qo
      refine Exists.intro (k + 1) (And.intro ⟨congrArg (Value.int .i32) ek, trivial⟩ (And.intro (by show (3652059 - (k + 1)).toNat < (3652059 - k).toNat; omega) ⟨by omega, by omega, fun j a b => ?_, Hp.keep H4⟩))
      by_cases e : j = k
      · rw [e]; exact qo
      · exact h3 j a (by omega)
  · have q : dayB k = false := q
    have hk : k = 3652059 := by
      by_cases e : k ≤ 3652058
      · exfalso
        have : dayB k = true := by simp only [dayB, Bool.and_eq_true, decide_eq_true_eq]; omega
        rw [this] at q; cases q
      · omega
    refine Exists.intro none (And.intro rfl (And.intro (fun j a => ?_) (Hp.keep H3)))
    by_cases e : j < k
    · exact h3 j a e
    · unfold openB
      have : dayB j = false := by simp [dayB]; omega
      rw [this]; rfl
/-- The first open day from so many months behind a day on. -/
def rollR (hs : List Int) (s k : Int) (r : Option Int) : Prop := ∃ p, plainR s k p ∧ (match p with
  | none => r = none
  | some n => nextR hs n r)
theorem rolled (A : Option Addr) (n c : Nat) (hs : List Int) (s k : Int) (hsd : dayB s = true) (hk0 : 0 ≤ k) (hk : k ≤ 480) (w : World) (M I : BS) (H : Hp ⟨w, M, I⟩ [] [Sl dayR (.slice A n c) hs] w) :
    Ctr Tryz.prog 89 [.slice A n c, .int .i32 s, .int .i64 k] w M I ovV (rollR hs s k) (fun _ => []) (fun _ => []) := by
  refine Exe.of_ev tok Tryz.call89 Tryz.func89 rfl rfl rfl ?_
  refine call_rule H (fun M I _ h => plain s k hsd hk0 hk _ M I h) fun a => ?_
  rcases a with _ | n1
  · intro w1 hp H1
    exact Exists.intro none (And.intro rfl (And.intro ⟨none, hp, rfl⟩ (Hp.keep H1)))
  · intro w1 hp H1
    have hdn : dayB n1 = true := by
      obtain ⟨y, m, d, h1, h2, h3⟩ := hp
      exact plainV_day h1 hk0 h3.symm
    refine call_rule H1 (fun M I _ h => next A n c hs n1 hdn _ M I h) fun r => ?_
    rcases r with _ | n2
    · intro w2 hr H2
      exact Exists.intro none (And.intro rfl (And.intro ⟨some n1, hp, hr⟩ (Hp.keep H2)))
    · intro w2 hr H2
      exact Exists.intro (some n2) (And.intro rfl (And.intro ⟨some n1, hp, hr⟩ (Hp.keep H2)))
end Go.Proofs.YtjlfjjgjghdokaaGreatDoor
set_option linter.unusedVariables false
set_option linter.unusedSimpArgs false
namespace Go.Wk
open Go.RowKit Go.Lib Go.Sort
section
variable {B : Base} {S : List Asn} {F : List Fact} {w w' : World}
/-- Old blocks asx they were: what is owned and known stays. -/
theorem Hp.below (H : Hp B S F w) (h : Below w.heap.size w w') : Hp B S F w' := by
  obtain ⟨h1, h2, h3, h4, h5, I, fp, hs, ha, r1, r2, r3, r4, r5⟩ := H
  refine ⟨h.os.trans h1, h.tape.trans h2, ⟨h.output.trans h3.1, fun q => False.elim q⟩, Nat.le_trans h4 h.size, fun b hb hM => (h.block b (Nat.lt_of_lt_of_le hb h4)).trans (h5 b hb hM), I, fp, hs.keep (fun b hb => h.block b (hs.lt b hb)) r5, fun f hf => f.mono (ha f hf) (fun _ hb => hb) fun b hb => h.block b (r3 b hb), r1, r2, fun b hb => Nat.lt_of_lt_of_le (r3 b hb) h.size, r4, r5⟩
theorem below_drew (w : World) (n : Nat) : Below w.heap.size w (w.drewN n) := ⟨rfl, rfl, rfl, Nat.le_refl _, fun _ _ => rfl⟩
theorem below_grow (w : World) (n : Nat) (os : Array Obj) : Below w.heap.size w (grow (w.drewN n) os) := by
  refine ⟨rfl, rfl, rfl, ?_, fun k hk => ?_⟩
  · show w.heap.size ≤ (w.heap ++ os).size
    simp
  · show (w.heap ++ os)[k]? = _
    rw [Array.getElem?_append_left hk]
/-- A contract of the shelf: a value, and what was there asx it was. -/
theorem Ctr.of_below {P : Program} {g : Nat} {args : List Value} {M I : BS} {α : Type} {V : α → Value} {φ : α → Prop} (H : Hp ⟨w, M, I⟩ S F w) (hc : ∀ asx w, (callFunc g asx).run P w = .ok (.enter g asx) w)
    (h : Calls P g args.toArray w fun e w' => ∃ a, e = .returned (V a) ∧ φ a ∧ Below w.heap.size w w') : Ctr P g args w M I V φ (fun _ => S) (fun _ => F) := by
  refine ⟨hc, h.mono ?_⟩
  rintro e w' ⟨a, rfl, hφ, hb⟩
  exact ⟨V a, rfl, a, rfl, hφ, H.below hb⟩
/-- The same where new blocks are told. -/
theorem Ctr.of_calls {P : Program} {g : Nat} {args : List Value} {M I : BS} {α : Type} {V : α → Value} {φ : α → Prop} {A : α → List Asn} {G : α → List Fact} (hc : ∀ asx w, (callFunc g asx).run P w = .ok (.enter g asx) w)
    (h : Calls P g args.toArray w fun e w' => ∃ a, e = .returned (V a) ∧ φ a ∧ Hp ⟨w, M, I⟩ (A a) (G a) w') : Ctr P g args w M I V φ A G := by
  refine ⟨hc, h.mono ?_⟩
  rintro e w' ⟨a, rfl, hφ, hb⟩
  exact ⟨V a, rfl, a, rfl, hφ, hb⟩
end
/-- A LOOP with several ways out by one jump: what holds at each of them. -/
theorem loop_out {P : Program} {T : Tab} (hT : T.Ok P) {n : Nat} {body : Code} {Q : Exit → Env → World → Prop} {e : Env} {w : World} {σ τ : Type} (m id : Nat) (L : σ → List (Nat × Value)) (W : σ → World → Prop) (μ : σ → Nat) (s0 : σ) (L2 : τ → List (Nat × Value)) (W2 : τ → World → Prop)
    (hm : wmask body = m) (hk : codeOk n body = true) (h0 : Has e (L s0)) (hw : W s0 w)
    (round : ∀ s j w, W s w → ev P T n body (fun x e' w' => match x with
      | .normal => ∃ s', Has e' (L s') ∧ μ s' < μ s ∧ W s' w'
      | .exit i => bif Nat.beq i id then (∃ t, Has e' (L2 t) ∧ W2 t w') else Q (.exit i) e' w'
      | x => Q x e' w') (sets (havoc m e j) (L s)) w)
    (out : ∀ t j w, W2 t w → Q (.exit id) (sets (havoc m e j) (L2 t)) w) : CodeK P n (.loop body) Q e w := by
  refine ⟨fun r ds a hf => ?_⟩
  refine wpIn_loop_ghost (fun k a w => ∃ s e', μ s = k ∧ Fits ds n e' a ∧ Off m e e' ∧ Has e' (L s) ∧ W s w) (μ s0) ⟨s0, e, rfl, hf, Off.refl _ _, h0, hw⟩ ?_
  rintro k a w ⟨s, e', rfl, hf', ho, hh, hw'⟩
  have hr := ev_frame body (round s e' w hw')
  rw [← sets_of ho hh] at hr
  refine wpIn_mono (ev_sound hT body _ e' w a hk hf' hr) ?_
  rintro x a1 w1 ⟨e1, hf1, hq, ho1⟩
  have ho1' : Off m e e1 := ho.trans (hm ▸ ho1)
  cases x with
  | normal =>
    obtain ⟨s', hh', hlt, hw1⟩ := hq
    exact ⟨μ s', hlt, s', e1, rfl, hf1, ho1', hh', hw1⟩
  | exit i =>
    refine ⟨e1, hf1, ?_, by show Off (wmask body) e e1; rw [hm]; exact ho1'⟩
    cases hb : Nat.beq i id with
    | true =>
      have hi := Nat.eq_of_beq_eq_true hb
      subst hi
      simp only [hb, cond_true] at hq
      obtain ⟨t, ht, hw2⟩ := hq
      have := out t e1 w1 hw2
      rw [← sets_of ho1' ht] at this
      exact this
    | false => simp only [hb, cond_false] at hq; exact hq
  | _ => exact ⟨e1, hf1, hq, by show Off (wmask body) e e1; rw [hm]; exact ho1'⟩
/-- A package-level table that nobody writes. -/
def TabF (P : Program) (g : Nat) (name : String) (k : IntKind) (zs : List Int) (hg : P.globalNamed name = some g) : Fact where
  holds w I := I g ∧ TabIs P w name k zs
  mono := fun {w w' I I'} h hI hw => ⟨hI _ h.1, by
    have h2 := h.2
    unfold TabIs World.var? at h2 ⊢
    rw [hg] at h2 ⊢
    have e := hw g h.1
    rw [Option.bind_some] at h2 ⊢
    rw [e]; exact h2⟩
end Go.Wk
