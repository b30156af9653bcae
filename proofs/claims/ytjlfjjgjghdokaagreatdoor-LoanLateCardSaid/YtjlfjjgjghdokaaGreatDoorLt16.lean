/- The document's numerals, dates, amounts in words: the walks. -/
import Derived.Test.YtjlfjjgjghdokaaGreatDoorLt15
set_option linter.unusedVariables false
namespace Go.Proofs.YtjlfjjgjghdokaaGreatDoor
open Go Go.Proofs Go.Wk Go.Pl
/-- Is a year one with a day more? -/
theorem refLeap (y : Int) (h1 : 1 ≤ y) (h2 : y ≤ 9999) : CB 165 [.int .i64 y] (.bool (leapB y)) := by
  intro w M I H
  have m4 : y.tmod 4 = y % 4 := Int.tmod_eq_emod_of_nonneg (by omega)
  have m100 : y.tmod 100 = y % 100 := Int.tmod_eq_emod_of_nonneg (by omega)
  have m400 : y.tmod 400 = y % 400 := Int.tmod_eq_emod_of_nonneg (by omega)
  refine Exe.of_ev tok Tryz.call165 Tryz.func165 rfl rfl rfl ?_
  refine brd (fun q => absurd q (by omega)) (fun _ => ?_)
  refine brd (fun q => absurd q (by omega)) (fun _ => ?_)
  refine rem_as (y % 4) (by decide) m4 ?_
  refine brd (fun q => ?_) (fun q => ?_)
  · refine Exists.intro () (And.intro (congrArg Value.bool ?_) (And.intro trivial (Hp.keep H)))
    unfold leapB; rw [decide_eq_false (by omega)]; rfl
  refine rem_as (y % 100) (by decide) m100 ?_
  refine brd (fun q2 => ?_) (fun q2 => ?_)
  · refine Exists.intro () (And.intro (congrArg Value.bool ?_) (And.intro trivial (Hp.keep H)))
    unfold leapB; rw [decide_eq_true (show y % 4 = 0 by omega), decide_eq_false (show ¬ y % 100 = 0 by omega)]; rfl
  refine rem_as (y % 400) (by decide) m400 ?_
  refine Exists.intro () (And.intro (congrArg Value.bool ?_) (And.intro trivial (Hp.keep H)))
  show (y % 400 == 0) = _
  unfold leapB; rw [decide_eq_true (show y % 4 = 0 by omega), decide_eq_true (show y % 100 = 0 by omega)]
  by_cases h : y % 400 = 0 <;> simp [h]
def len0 : List Int := [31, 28, 31, 30, 31, 30, 31, 31, 30, 31, 30, 31]
theorem len_at (m : Int) (h1 : 1 ≤ m) (h2 : m ≤ 12) : ∃ v, ldV (tb 3) (len0.map (Value.int .i64)) (0 + (m - 1).toNat * 1) = some (.int .i64 v) ∧ ∀ y, lenM y m = v + (if m = 2 ∧ leapB y = true then 1 else 0) := by
  rcases month_cases h1 h2 with rfl | rfl | rfl | rfl | rfl | rfl | rfl | rfl | rfl | rfl | rfl | rfl
  all_goals first
    | exact ⟨31, rfl, fun y => by unfold lenM; simp⟩
    | exact ⟨30, rfl, fun y => by unfold lenM; simp⟩
    | exact ⟨28, rfl, fun y => by unfold lenM; cases leapB y <;> simp⟩
/-- The length of a month. -/
theorem refLength (y m : Int) (h1 : 1 ≤ y) (h2 : y ≤ 9999) (h3 : 1 ≤ m) (h4 : m ≤ 12) : CB 108 [.int .i64 y, .int .i64 m] (.int .i64 (lenM y m)) := by
  intro w M I H
  obtain ⟨v, hv, hl⟩ := len_at m h3 h4
  have hly := hl y
  have hb := len_pos (y := y) (m := m)
  have ew : IntKind.i64.wrap (m - 1) = m - 1 := w64 (by omega) (by omega)
  refine Exe.of_ev tok Tryz.call108 Tryz.func108 rfl rfl rfl ?_
  refine brd (fun q => absurd q (by omega)) (fun _ => ?_)
  refine brd (fun q => absurd q (by omega)) (fun _ => ?_)
  refine brd (fun q => absurd q (by omega)) (fun _ => ?_)
  refine brd (fun q => absurd q (by omega)) (fun _ => ?_)
  refine slice_as tok H (len0.map (Value.int .i64)) rfl rfl rfl rfl rfl rfl fun g w1 H1 => ?_
  refine idx_own tok rfl rfl (by rw [ew]; omega) (by rw [ew]; show m - 1 < ((12 : Nat) : Int); omega) ?_
  refine load_rule tok H1 (v := .int .i64 v) (by rw [ew]; exact hv) ?_
  refine br (fun q => ?_) (fun q => ?_)
  · have q : m = 2 := by have q : (m == 2) = true := q; simpa using q
    refine call_rule H1 (fun M I _ h => refLeap y h1 h2 _ M I h) fun _ w2 _ H2 => ?_
    refine br (fun q2 => ?_) (fun q2 => ?_)
    · have q2 : leapB y = true := q2
      rw [if_pos ⟨q, q2⟩] at hly
      refine Exists.intro () (And.intro (congrArg (Value.int .i64) ?_) (And.intro trivial (Hp.keep H2)))
      show IntKind.i64.wrap (v + 1) = _
      rw [w64 (by omega) (by omega)]; omega
    · have q2 : leapB y = false := q2
      rw [if_neg (by rw [q2]; simp)] at hly
      exact Exists.intro () (And.intro (congrArg (Value.int .i64) (by omega)) (And.intro trivial (Hp.keep H2)))
  · have q : m ≠ 2 := by have q : (m == 2) = false := q; simpa using q
    rw [if_neg (fun h => q h.1)] at hly
    exact Exists.intro () (And.intro (congrArg (Value.int .i64) (by omega)) (And.intro trivial (Hp.keep H1)))
/-- A day's date. -/
theorem refCivil (n : Int) (h0 : 0 ≤ n) (h1 : n ≤ 3652058) (w : World) (M I : BS) (H : Hp ⟨w, M, I⟩ [] [] w) :
    Ctr Tryz.prog 107 [.int .i64 n] w M I (fun a : Int × Int × Int => civV a.1 a.2.1 a.2.2) (fun a => Dat a.1 a.2.1 a.2.2 ∧ numD a.1 a.2.1 a.2.2 = n) (fun _ => []) (fun _ => []) := by
  have m1 : n.tdiv 146097 = n / 146097 := Int.tdiv_eq_ediv_of_nonneg (by omega)
  have m2 : n.tmod 146097 = n % 146097 := Int.tmod_eq_emod_of_nonneg (by omega)
  refine Exe.of_ev tok Tryz.call107 Tryz.func107 rfl rfl rfl ?_
  refine alloc_as tok H (civC 0 0 0) rfl rfl rfl fun r w1 H1 => ?_
  refine quo_as (n / 146097) (by decide) (by rw [m1]; exact w64 (by omega) (by omega)) ?_
  refine rem_as (n % 146097) (by decide) m2 ?_
  obtain ⟨q, hq⟩ : ∃ q, q = n / 146097 := ⟨_, rfl⟩
  obtain ⟨z, hz⟩ : ∃ z, z = n % 146097 := ⟨_, rfl⟩
  have hqz : n = 146097 * q + z ∧ 0 ≤ z ∧ z < 146097 ∧ 0 ≤ q := by omega
  have e1 : IntKind.i64.wrap (1 + IntKind.i64.wrap (400 * (n / 146097))) = 1 + 400 * q := by
    rw [← hq, w64 (n := 400 * q) (by omega) (by omega), w64 (by omega) (by omega)]
  have hbeg : beg (1 + 400 * q) = 146097 * q := by unfold beg; omega
  refine loop_rule tok (σ := Int × Int) 4190233 (fun s => [(3, .int .i64 s.1), (0, .int .i64 s.2)]) (fun s w' => 1 ≤ s.1 ∧ s.1 ≤ 9999 ∧ 0 ≤ s.2 ∧ beg s.1 + s.2 = n ∧ Hp ⟨w, M, I⟩ [blk r (civC 0 0 0) 212] [] w') (fun s => (10000 - s.1).toNat) (1 + 400 * q, z) rfl rfl ⟨congrArg (Value.int .i64) e1, congrArg (Value.int .i64) hz.symm, trivial⟩ ⟨by omega, by omega, hqz.2.1, by rw [hbeg]; exact hqz.1.symm, Hp.keep H1⟩ ?_
  intro s j w2 hW
  have hy1 := hW.1
  have hy2 := hW.2.1
  have hr0 := hW.2.2.1
  have hn := hW.2.2.2.1
  have H2 := hW.2.2.2.2
  have hbs := beg_succ (y := s.1) hy1
  have hbt := beg_top
  have hstep : ∀ size, size = 365 + (if leapB s.1 = true then 1 else 0) → ¬ s.2 < size → s.1 + 1 ≤ 9999 ∧ beg (s.1 + 1) + (s.2 - size) = n := fun size e h => by
    have h2 : beg (s.1 + 1) = beg s.1 + size := by rw [hbs, e]; omega
    refine ⟨?_, by omega⟩
    rcases Int.lt_or_le 9999 (s.1 + 1) with h3 | h3
    · have e4 : s.1 + 1 = 10000 := by omega
      rw [e4] at h2
      omega
    · exact h3
  refine call_rule H2 (fun M I _ h => refLeap s.1 hy1 hy2 _ M I h) fun _ w3 _ H3 => ?_
  refine br (fun ql => ?_) (fun ql => ?_)
  · have ql : leapB s.1 = true := ql
    have es : (366 : Int) = 365 + (if leapB s.1 = true then 1 else 0) := by rw [ql]; simp
    refine brd (fun hlt => ?_) (fun hge => ?_)
    · have hlt : s.2 < 366 := hlt
      have hend : offM s.1 13 = 366 := by rw [off_end]; exact es.symm
      refine loop_rule tok (σ := Int × Int) 17175674913 (fun x => [(5, .int .i64 x.1), (0, .int .i64 x.2)]) (fun x w' => 1 ≤ x.1 ∧ x.1 ≤ 12 ∧ 0 ≤ x.2 ∧ offM s.1 x.1 + x.2 = s.2 ∧ Hp ⟨w, M, I⟩ [blk r (civC 0 0 0) 212] [] w') (fun x => (13 - x.1).toNat) (1, s.2) rfl rfl ⟨rfl, rfl, trivial⟩ ⟨by show (1 : Int) ≤ 1; decide, by show (1 : Int) ≤ 12; decide, hr0, by rw [off_one]; show 0 + s.2 = s.2; omega, Hp.keep H3⟩ ?_
      intro x j2 w4 hX
      have hm1 := hX.1
      have hm2 := hX.2.1
      have hx0 := hX.2.2.1
      have hxs := hX.2.2.2.1
      have H4 := hX.2.2.2.2
      have hlp := len_pos (y := s.1) (m := x.1)
      have hos := off_succ (y := s.1) hm1 hm2
      refine call_rule H4 (fun M I _ h => refLength s.1 x.1 hy1 hy2 hm1 hm2 _ M I h) fun _ w5 _ H5 => ?_
      refine brd (fun hq2 => ?_) (fun hq2 => ?_)
      · have hq2 : lenM s.1 x.1 ≤ x.2 := hq2
        have hm : x.1 + 1 ≤ 12 := by
          rcases Int.lt_or_le 12 (x.1 + 1) with h3 | h3
          · have e13 : x.1 + 1 = 13 := by omega
            rw [e13, hend] at hos
            omega
          · exact h3
        have hx2 : x.2 ≤ 400 := by
          have := off_mono (y := s.1) (m := 1) (k := 13) (by decide) (by decide) (by decide)
          have h0 : 0 ≤ offM s.1 x.1 := by
            rcases month_cases hm1 hm2 with e | e | e | e | e | e | e | e | e | e | e | e <;> rw [e] <;> unfold offM <;> cases leapB s.1 <;> decide
          omega
        have e1 : IntKind.i64.wrap (x.2 - lenM s.1 x.1) = x.2 - lenM s.1 x.1 := w64 (by omega) (by omega)
        have e2 : IntKind.i64.wrap (x.1 + 1) = x.1 + 1 := w64 (by omega) (by omega)
        refine call_rule H5 (fun M I _ h => refLength s.1 x.1 hy1 hy2 hm1 hm2 _ M I h) fun _ w6 _ H6 => ?_
        exact Exists.intro (x.1 + 1, x.2 - lenM s.1 x.1) (And.intro ⟨congrArg (Value.int .i64) e2, congrArg (Value.int .i64) e1, trivial⟩ (And.intro (by show (13 - (x.1 + 1)).toNat < (13 - x.1).toNat; omega) ⟨by show 1 ≤ x.1 + 1; omega, hm, by show 0 ≤ x.2 - lenM s.1 x.1; omega, by show offM s.1 (x.1 + 1) + (x.2 - lenM s.1 x.1) = s.2; omega, Hp.keep H6⟩))
      · have hq2 : ¬ lenM s.1 x.1 ≤ x.2 := hq2
        have e2 : IntKind.i64.wrap (x.2 + 1) = x.2 + 1 := w64 (by omega) (by omega)
        refine store_as tok H5 (civC s.1 x.1 (IntKind.i64.wrap (x.2 + 1))) rfl rfl rfl rfl rfl fun w6 H6 => ?_
        rw [e2] at H6
        refine Exists.intro ⟨r, 0, none⟩ (Exists.intro (civV s.1 x.1 (x.2 + 1)) (And.intro rfl (And.intro (Hp.ld (T := tb) tok H6 rfl) ?_)))
        exact Exists.intro (s.1, x.1, x.2 + 1) (And.intro rfl (And.intro ⟨⟨hy1, hy2, hm1, hm2, by show 1 ≤ x.2 + 1; omega, by show x.2 + 1 ≤ lenM s.1 x.1; omega⟩, by show beg s.1 + offM s.1 x.1 + (x.2 + 1) - 1 = n; omega⟩ (Hp.keep H6)))
    · have hge : ¬ s.2 < 366 := hge
      have hnx := hstep 366 es hge
      have hbn : 0 ≤ beg (s.1 + 1) := by have := beg_mono (y := 1) (z := s.1 + 1) (by decide) (by omega); rw [beg_one] at this; exact this
      have e1 : IntKind.i64.wrap (s.2 - 366) = s.2 - 366 := w64 (by omega) (by omega)
      have e2 : IntKind.i64.wrap (s.1 + 1) = s.1 + 1 := w64 (by omega) (by omega)
      exact Exists.intro (s.1 + 1, s.2 - 366) (And.intro ⟨congrArg (Value.int .i64) e2, congrArg (Value.int .i64) e1, trivial⟩ (And.intro (by show (10000 - (s.1 + 1)).toNat < (10000 - s.1).toNat; omega) ⟨by show 1 ≤ s.1 + 1; omega, hnx.1, by show 0 ≤ s.2 - 366; omega, hnx.2, Hp.keep H3⟩))
  · have ql : leapB s.1 = false := ql
    have es : (365 : Int) = 365 + (if leapB s.1 = true then 1 else 0) := by rw [ql]; simp
    refine brd (fun hlt => ?_) (fun hge => ?_)
    · have hlt : s.2 < 365 := hlt
      have hend : offM s.1 13 = 365 := by rw [off_end]; exact es.symm
      refine loop_rule tok (σ := Int × Int) 17175674913 (fun x => [(5, .int .i64 x.1), (0, .int .i64 x.2)]) (fun x w' => 1 ≤ x.1 ∧ x.1 ≤ 12 ∧ 0 ≤ x.2 ∧ offM s.1 x.1 + x.2 = s.2 ∧ Hp ⟨w, M, I⟩ [blk r (civC 0 0 0) 212] [] w') (fun x => (13 - x.1).toNat) (1, s.2) rfl rfl ⟨rfl, rfl, trivial⟩ ⟨by show (1 : Int) ≤ 1; decide, by show (1 : Int) ≤ 12; decide, hr0, by rw [off_one]; show 0 + s.2 = s.2; omega, Hp.keep H3⟩ ?_
      intro x j2 w4 hX
      have hm1 := hX.1
      have hm2 := hX.2.1
      have hx0 := hX.2.2.1
      have hxs := hX.2.2.2.1
      have H4 := hX.2.2.2.2
      have hlp := len_pos (y := s.1) (m := x.1)
      have hos := off_succ (y := s.1) hm1 hm2
      refine call_rule H4 (fun M I _ h => refLength s.1 x.1 hy1 hy2 hm1 hm2 _ M I h) fun _ w5 _ H5 => ?_
      refine brd (fun hq2 => ?_) (fun hq2 => ?_)
      · have hq2 : lenM s.1 x.1 ≤ x.2 := hq2
        have hm : x.1 + 1 ≤ 12 := by
          rcases Int.lt_or_le 12 (x.1 + 1) with h3 | h3
          · have e13 : x.1 + 1 = 13 := by omega
            rw [e13, hend] at hos
            omega
          · exact h3
        have hx2 : x.2 ≤ 400 := by
          have := off_mono (y := s.1) (m := 1) (k := 13) (by decide) (by decide) (by decide)
          have h0 : 0 ≤ offM s.1 x.1 := by
            rcases month_cases hm1 hm2 with e | e | e | e | e | e | e | e | e | e | e | e <;> rw [e] <;> unfold offM <;> cases leapB s.1 <;> decide
          omega
        have e1 : IntKind.i64.wrap (x.2 - lenM s.1 x.1) = x.2 - lenM s.1 x.1 := w64 (by omega) (by omega)
        have e2 : IntKind.i64.wrap (x.1 + 1) = x.1 + 1 := w64 (by omega) (by omega)
        refine call_rule H5 (fun M I _ h => refLength s.1 x.1 hy1 hy2 hm1 hm2 _ M I h) fun _ w6 _ H6 => ?_
        exact Exists.intro (x.1 + 1, x.2 - lenM s.1 x.1) (And.intro ⟨congrArg (Value.int .i64) e2, congrArg (Value.int .i64) e1, trivial⟩ (And.intro (by show (13 - (x.1 + 1)).toNat < (13 - x.1).toNat; omega) ⟨by show 1 ≤ x.1 + 1; omega, hm, by show 0 ≤ x.2 - lenM s.1 x.1; omega, by show offM s.1 (x.1 + 1) + (x.2 - lenM s.1 x.1) = s.2; omega, Hp.keep H6⟩))
      · have hq2 : ¬ lenM s.1 x.1 ≤ x.2 := hq2
        have e2 : IntKind.i64.wrap (x.2 + 1) = x.2 + 1 := w64 (by omega) (by omega)
        refine store_as tok H5 (civC s.1 x.1 (IntKind.i64.wrap (x.2 + 1))) rfl rfl rfl rfl rfl fun w6 H6 => ?_
        rw [e2] at H6
        refine Exists.intro ⟨r, 0, none⟩ (Exists.intro (civV s.1 x.1 (x.2 + 1)) (And.intro rfl (And.intro (Hp.ld (T := tb) tok H6 rfl) ?_)))
        exact Exists.intro (s.1, x.1, x.2 + 1) (And.intro rfl (And.intro ⟨⟨hy1, hy2, hm1, hm2, by show 1 ≤ x.2 + 1; omega, by show x.2 + 1 ≤ lenM s.1 x.1; omega⟩, by show beg s.1 + offM s.1 x.1 + (x.2 + 1) - 1 = n; omega⟩ (Hp.keep H6)))
    · have hge : ¬ s.2 < 365 := hge
      have hnx := hstep 365 es hge
      have hbn : 0 ≤ beg (s.1 + 1) := by have := beg_mono (y := 1) (z := s.1 + 1) (by decide) (by omega); rw [beg_one] at this; exact this
      have e1 : IntKind.i64.wrap (s.2 - 365) = s.2 - 365 := w64 (by omega) (by omega)
      have e2 : IntKind.i64.wrap (s.1 + 1) = s.1 + 1 := w64 (by omega) (by omega)
      exact Exists.intro (s.1 + 1, s.2 - 365) (And.intro ⟨congrArg (Value.int .i64) e2, congrArg (Value.int .i64) e1, trivial⟩ (And.intro (by show (10000 - (s.1 + 1)).toNat < (10000 - s.1).toNat; omega) ⟨by show 1 ≤ s.1 + 1; omega, hnx.1, by show 0 ≤ s.2 - 365; omega, hnx.2, Hp.keep H3⟩))
end Go.Proofs.YtjlfjjgjghdokaaGreatDoor
set_option linter.unusedVariables false
namespace Go.Proofs.YtjlfjjgjghdokaaGreatDoor
open Go Go.Proofs Go.Wk
def nxY (y m : Int) : Int := if m = 12 then y + 1 else y
def nxM (m : Int) : Int := if m = 12 then 1 else m + 1
theorem on_next {y m i : Int} (h1 : 1 ≤ m) (h2 : m ≤ 12) : nxY (onY y m i) (onM y m i) = onY y m (i + 1) ∧ nxM (onM y m i) = onM y m (i + 1) := by
  unfold nxY nxM onY onM
  split <;> omega
theorem on_zero {y m : Int} (h1 : 1 ≤ m) (h2 : m ≤ 12) : onY y m 0 = y ∧ onM y m 0 = m := by
  unfold onY onM; omega
theorem on_bd {y m i : Int} (hy : 1 ≤ y) (hy2 : y ≤ 9999) (h1 : 1 ≤ m) (h2 : m ≤ 12) (hi : 0 ≤ i) (hi2 : i ≤ 480) : 1 ≤ onY y m i ∧ onY y m i ≤ 10100 ∧ 1 ≤ onM y m i ∧ onM y m i ≤ 12 := by
  unfold onY onM; omega
theorem refNextM (y m : Int) (h1 : -1000000 ≤ y) (h2 : y ≤ 1000000) (h3 : -1000000 ≤ m) (h4 : m ≤ 1000000) : CB 125 [.int .i64 y, .int .i64 m, .bool false] (.tuple #[.int .i64 (nxY y m), .int .i64 (nxM m)]) := by
  intro w M I H
  refine Exe.of_ev tok Tryz.call125 Tryz.func125 rfl rfl rfl ?_
  refine br (fun q => ?_) (fun q => ?_)
  · have q : m = 12 := by have q : (m == 12) = true := q; simpa using q
    have e : IntKind.i64.wrap (y + 1) = nxY y m := by rw [i64w (by omega) (by omega)]; unfold nxY; rw [if_pos q]
    have e2 : nxM m = 1 := by unfold nxM; rw [if_pos q]
    refine Exists.intro () (And.intro ?_ (And.intro trivial (Hp.keep H)))
    show Value.tuple #[.int .i64 (IntKind.i64.wrap (y + 1)), .int .i64 1] = _
    rw [e, e2]
  · have q : ¬ m = 12 := by have q : (m == 12) = false := q; simpa using q
    have e : IntKind.i64.wrap (m + 1) = nxM m := by rw [i64w (by omega) (by omega)]; unfold nxM; rw [if_neg q]
    have e2 : nxY y m = y := by unfold nxY; rw [if_neg q]
    refine Exists.intro () (And.intro ?_ (And.intro trivial (Hp.keep H)))
    show Value.tuple #[.int .i64 y, .int .i64 (IntKind.i64.wrap (m + 1))] = _
    rw [e, e2]
/-! The number of a date. -/
theorem beg_400 {y : Int} (h : 1 ≤ y) : beg (y - (y - 1) % 400) = 146097 * ((y - 1) / 400) ∧ 1 ≤ y - (y - 1) % 400 ∧ y - (y - 1) % 400 ≤ y := by
  unfold beg; omega
set_option maxHeartbeats 1000000 in
theorem refNumber (y m d : Int) (hD : Dat y m d) : CB 126 [civV y m d] (.int .i64 (numD y m d)) := by
  intro w M I H
  have hy1 := hD.y1
  have hy2 := hD.y2
  have hm1 := hD.m1
  have hm2 := hD.m2
  have hd1 := hD.d1
  have hd2 := hD.d2
  have hlp := len_pos (y := y) (m := m)
  have hbb := beg_400 hy1
  have q1 : IntKind.i64.wrap (y - 1) = y - 1 := i64w (by omega) (by omega)
  have q2 : IntKind.i64.wrap ((IntKind.i64.wrap (y - 1)).tdiv 400) = (y - 1) / 400 := by rw [q1, Int.tdiv_eq_ediv_of_nonneg (by omega)]; exact i64w (by omega) (by omega)
  have q3 : (IntKind.i64.wrap (y - 1)).tmod 400 = (y - 1) % 400 := by rw [q1]; exact Int.tmod_eq_emod_of_nonneg (by omega)
  have q4 : IntKind.i64.wrap (146097 * ((y - 1) / 400)) = beg (y - (y - 1) % 400) := by rw [hbb.1]; exact i64w (by omega) (by omega)
  have q5 : IntKind.i64.wrap (y - (y - 1) % 400) = y - (y - 1) % 400 := i64w (by omega) (by omega)
  refine Exe.of_ev tok Tryz.call126 Tryz.func126 rfl rfl rfl ?_
  refine box_as H (civC y m d) rfl fun r w1 H1 => ?_
  refine load_rule tok H1 (v := .int .i64 y) rfl ?_
  refine quo_as ((y - 1) / 400) (by decide) q2 ?_
  refine load_rule tok H1 (v := .int .i64 y) rfl ?_
  refine load_rule tok H1 (v := .int .i64 y) rfl ?_
  refine rem_as ((y - 1) % 400) (by decide) q3 ?_
  refine loop_rule tok (σ := Int) 1073479704 (fun s => [(3, .int .i64 (beg s)), (4, .int .i64 s)]) (fun s w' => 1 ≤ s ∧ s ≤ y ∧ Hp ⟨w, M, I⟩ [blk r (civC y m d) 212] [] w') (fun s => (y - s).toNat) (y - (y - 1) % 400) rfl rfl ⟨congrArg (Value.int .i64) q4, congrArg (Value.int .i64) q5, trivial⟩ ⟨hbb.2.1, hbb.2.2, Hp.keep H1⟩ ?_
  intro s j w2 hW
  have hs1 := hW.1
  have hs2 := hW.2.1
  have H2 := hW.2.2
  have hbs := beg_succ (y := s) hs1
  have hb := beg_bounds (y := s) hs1 (by omega)
  refine load_rule tok H2 (v := .int .i64 y) rfl ?_
  refine brd (fun hlt => ?_) (fun hge => ?_)
  · have hlt : s < y := hlt
    have ew : IntKind.i64.wrap (s + 1) = s + 1 := i64w (by omega) (by omega)
    have e1 : IntKind.i64.wrap (beg s + 365) = beg s + 365 := i64w (by omega) (by omega)
    refine call_rule H2 (fun M I _ h => refLeap s hs1 (by omega) _ M I h) fun _ w3 _ H3 => ?_
    refine br (fun q => ?_) (fun q => ?_)
    · have q : leapB s = true := q
      have e2 : IntKind.i64.wrap (IntKind.i64.wrap (beg s + 365) + 1) = beg (s + 1) := by rw [e1, hbs, q, if_pos rfl]; exact i64w (by omega) (by omega)
      exact Exists.intro (s + 1) (And.intro ⟨congrArg (Value.int .i64) e2, congrArg (Value.int .i64) ew, trivial⟩ (And.intro (by show (y - (s + 1)).toNat < (y - s).toNat; omega) ⟨by show 1 ≤ s + 1; omega, by show s + 1 ≤ y; omega, Hp.keep H3⟩))
    · have q : leapB s = false := q
      have e2 : IntKind.i64.wrap (beg s + 365) = beg (s + 1) := by rw [e1, hbs, q]; simp
      exact Exists.intro (s + 1) (And.intro ⟨congrArg (Value.int .i64) e2, congrArg (Value.int .i64) ew, trivial⟩ (And.intro (by show (y - (s + 1)).toNat < (y - s).toNat; omega) ⟨by show 1 ≤ s + 1; omega, by show s + 1 ≤ y; omega, Hp.keep H3⟩))
  have hge : ¬ s < y := hge
  have es : s = y := by omega
  have e0 : beg s = beg y + offM y 1 := by rw [es, off_one]; omega
  have hby := beg_bounds (y := y) hy1 (by omega)
  refine loop_rule tok (σ := Int) 4396972769320 (fun x => [(3, .int .i64 (beg y + offM y x)), (5, .int .i64 x)]) (fun x w' => 1 ≤ x ∧ x ≤ m ∧ Hp ⟨w, M, I⟩ [blk r (civC y m d) 212] [] w') (fun x => (m - x).toNat) 1 rfl rfl ⟨congrArg (Value.int .i64) e0, rfl, trivial⟩ ⟨by show (1 : Int) ≤ 1; omega, hm1, Hp.keep H2⟩ ?_
  intro x j2 w4 hX
  have hx1 := hX.1
  have hx2 := hX.2.1
  have H4 := hX.2.2
  have hob := off_bounds (y := y) (m := x) hx1 (by omega)
  refine load_rule tok H4 (v := .int .i64 m) rfl ?_
  refine brd (fun hlt => ?_) (fun hge => ?_)
  · have hlt : x < m := hlt
    have hos := off_succ (y := y) (m := x) hx1 (by omega)
    have hob2 := off_bounds (y := y) (m := x + 1) (by omega) (by omega)
    have ew : IntKind.i64.wrap (x + 1) = x + 1 := i64w (by omega) (by omega)
    have e1 : IntKind.i64.wrap (beg y + offM y x + lenM y x) = beg y + offM y (x + 1) := by rw [i64w (by omega) (by omega)]; omega
    refine load_rule tok H4 (v := .int .i64 y) rfl ?_
    refine call_rule H4 (fun M I _ h => refLength y x hy1 hy2 hx1 (by omega) _ M I h) fun _ w5 _ H5 => ?_
    exact Exists.intro (x + 1) (And.intro ⟨congrArg (Value.int .i64) e1, congrArg (Value.int .i64) ew, trivial⟩ (And.intro (by show (m - (x + 1)).toNat < (m - x).toNat; omega) ⟨by show 1 ≤ x + 1; omega, by show x + 1 ≤ m; omega, Hp.keep H5⟩))
  have hge : ¬ x < m := hge
  have ex : x = m := by omega
  have e1 : IntKind.i64.wrap (IntKind.i64.wrap (beg y + offM y x + d) - 1) = numD y m d := by
    rw [i64w (n := beg y + offM y x + d) (by omega) (by omega), i64w (by omega) (by omega), ex]; rfl
  refine load_rule tok H4 (v := .int .i64 d) rfl ?_
  exact Exists.intro () (And.intro (congrArg (Value.int .i64) e1) (And.intro trivial (Hp.keep H4)))
/-! So many months behind a day. -/
@[reducible] def rpV : Option Int → Value
  | some n => .tuple #[.int .i64 n, .int .i64 0]
  | none => .tuple #[.int .i64 0, .int .i64 12]
set_option maxRecDepth 20000 in
set_option maxHeartbeats 2000000 in
theorem refPlain (s : Int) (k : Nat) (hs0 : 0 ≤ s) (hs1 : s ≤ 3652058) (hk : k ≤ 480) (w : World) (M I : BS) (H : Hp ⟨w, M, I⟩ [] [] w) :
    Ctr Tryz.prog 71 [.int .i64 s, .int .i64 (k : Int)] w M I rpV (plainR s k) (fun _ => []) (fun _ => []) := by
  refine Exe.of_ev tok Tryz.call71 Tryz.func71 rfl rfl rfl ?_
  refine call_rule H (fun M I _ h => refCivil s hs0 hs1 _ M I h) fun a w1 ha H1 => ?_
  have hD := ha.1
  have hN := ha.2
  have hy1 := hD.y1
  have hy2 := hD.y2
  have hm1 := hD.m1
  have hm2 := hD.m2
  have hz := on_zero (y := a.1) hm1 hm2
  refine alloc_as tok H1 (civC 0 0 0) rfl rfl rfl fun c w2 H2 => ?_
  refine store_as tok H2 (civC a.1 a.2.1 a.2.2) rfl rfl rfl rfl rfl fun w3 H3 => ?_
  have H3 : Hp ⟨w, M, I⟩ [blk c (civC a.1 a.2.1 a.2.2) 212] [] w3 := Hp.keep H3
  refine draw_rule (A := []) tok tdr H3 [0, 1, 2, 3, 4, 5] [0, 1, 0, 4, 3, 31] rfl ?_
  refine pass_rule _ (fun w h => load_rule tok h (v := .int .i64 a.1) rfl ⟨rfl, rfl⟩) ?_
  refine pass_rule _ (fun w h => load_rule tok h (v := .int .i64 a.2.1) rfl ⟨rfl, rfl⟩) ?_
  refine done_rule fun w4 H4 => ?_
  refine loop_rule tok (σ := Nat) 268305280 (fun i => [(7, .int .i64 (onY a.1 a.2.1 (i : Int))), (8, .int .i64 (onM a.1 a.2.1 (i : Int))), (9, .int .i64 (i : Int))]) (fun i w' => i ≤ k ∧ Hp ⟨w, M, I⟩ [blk c (civC a.1 a.2.1 a.2.2) 212] [] w') (fun i => k - i) 0 rfl rfl ⟨congrArg (Value.int .i64) hz.1.symm, congrArg (Value.int .i64) hz.2.symm, rfl, trivial⟩ ⟨Nat.zero_le _, Hp.keep H4⟩ ?_
  intro i j w5 hW
  have hi := hW.1
  have H5 := hW.2
  have hob := on_bd (i := (i : Int)) hy1 hy2 hm1 hm2 (by omega) (by omega)
  refine brd (fun hlt => ?_) (fun hge => ?_)
  · have hlt : (i : Int) < (k : Int) := hlt
    have ew : IntKind.i64.wrap ((i : Int) + 1) = ((i + 1 : Nat) : Int) := i64w (by omega) (by omega)
    have hnx := on_next (y := a.1) (m := a.2.1) (i := (i : Int)) hm1 hm2
    have ec : ((i + 1 : Nat) : Int) = (i : Int) + 1 := rfl
    refine call_rule H5 (fun M I _ h => refNextM (onY a.1 a.2.1 i) (onM a.1 a.2.1 i) (by omega) (by omega) (by omega) (by omega) _ M I h) fun _ w6 _ H6 => ?_
    exact Exists.intro (i + 1) (And.intro ⟨congrArg (Value.int .i64) hnx.1, congrArg (Value.int .i64) hnx.2, congrArg (Value.int .i64) ew, trivial⟩ (And.intro (by show k - (i + 1) < k - i; omega) ⟨by show i + 1 ≤ k; omega, Hp.keep H6⟩))
  have hge : ¬ (i : Int) < (k : Int) := hge
  have ei : i = k := by omega
  have eY : onY a.1 a.2.1 (i : Int) = onY a.1 a.2.1 (k : Int) := by rw [ei]
  have eM : onM a.1 a.2.1 (i : Int) = onM a.1 a.2.1 (k : Int) := by rw [ei]
  rw [eY, eM]
  rw [eY, eM] at hob
  refine brd (fun q => ?_) (fun q => ?_)
  · have q : 9999 < onY a.1 a.2.1 (k : Int) := q
    have ho : 119988 ≤ (a.1 - 1) * 12 + a.2.1 - 1 + (k : Int) := by unfold onY at q; omega
    exact Exists.intro none (And.intro rfl (And.intro ⟨a.1, a.2.1, a.2.2, hD, hN, by unfold plainV; rw [if_pos ho]⟩ (Hp.keep H5)))
  have q : ¬ 9999 < onY a.1 a.2.1 (k : Int) := q
  have ho : ¬ 119988 ≤ (a.1 - 1) * 12 + a.2.1 - 1 + (k : Int) := by unfold onY at q; omega
  have hon := dat_on (k := (k : Int)) hD (by omega) (by omega)
  have hlp := len_pos (y := onY a.1 a.2.1 k) (m := onM a.1 a.2.1 k)
  refine load_rule tok H5 (v := .int .i64 a.2.2) rfl ?_
  refine draw_rule (A := []) tok tdr H5 [0, 1, 2, 3, 4, 5, 6, 7, 8, 10, 11, 12, 9, 13, 14] [0, 1, 0, 4, 15, 0, 32, 127, 255, 511, 511, 511, 3583, 8191, 16383] rfl ?_
  refine pass_rule _ (fun w h => load_rule tok h (v := .int .i64 a.1) rfl ⟨rfl, rfl⟩) ?_
  refine pass_rule _ (fun w h => load_rule tok h (v := .int .i64 a.2.1) rfl ⟨rfl, rfl⟩) ?_
  refine imp_rule (fun X wx h => call_rule h (fun M I _ h => refLength a.1 a.2.1 hy1 hy2 hm1 hm2 _ M I h) fun _ w1 _ H1 => imp_done H1 ?_)
  refine pass_rule _ (fun w h => load_rule tok h (v := .int .i64 a.2.2) rfl ⟨rfl, rfl⟩) ?_
  refine br (fun q2 => ?_) (fun q2 => ?_)
  · have q2 : (lenM a.1 a.2.1 == a.2.2) = true := q2
    have q2 : lenM a.1 a.2.1 = a.2.2 := by simpa using q2
    refine done_rule fun w6 H6 => ?_
    refine call_rule H6 (fun M I _ h => refLength (onY a.1 a.2.1 k) (onM a.1 a.2.1 k) hob.1 (by omega) hob.2.2.1 hob.2.2.2 _ M I h) fun _ w7 _ H7 => ?_
    refine call_rule H7 (fun M I _ h => refNumber _ _ _ hon.2 _ M I h) fun _ w8 _ H8 => ?_
    exact Exists.intro (some (numD (onY a.1 a.2.1 k) (onM a.1 a.2.1 k) (lenM (onY a.1 a.2.1 k) (onM a.1 a.2.1 k)))) (And.intro rfl (And.intro ⟨a.1, a.2.1, a.2.2, hD, hN, by unfold plainV; rw [if_neg ho, if_pos q2.symm]⟩ (Hp.keep H8)))
  have q2 : (lenM a.1 a.2.1 == a.2.2) = false := q2
  have q2 : ¬ a.2.2 = lenM a.1 a.2.1 := fun e => by rw [e] at q2; simp at q2
  refine imp_rule (fun X wx h => call_rule h (fun M I _ h => refLength (onY a.1 a.2.1 k) (onM a.1 a.2.1 k) hob.1 (by omega) hob.2.2.1 hob.2.2.2 _ M I h) fun _ w1 _ H1 => imp_done H1 ?_)
  refine done_rule fun w6 H6 => ?_
  refine brd (fun q3 => ?_) (fun q3 => ?_)
  · have q3 : lenM (onY a.1 a.2.1 k) (onM a.1 a.2.1 k) < a.2.2 := q3
    refine call_rule H6 (fun M I _ h => refLength (onY a.1 a.2.1 k) (onM a.1 a.2.1 k) hob.1 (by omega) hob.2.2.1 hob.2.2.2 _ M I h) fun _ w7 _ H7 => ?_
    refine call_rule H7 (fun M I _ h => refNumber _ _ _ hon.2 _ M I h) fun _ w8 _ H8 => ?_
    exact Exists.intro (some (numD (onY a.1 a.2.1 k) (onM a.1 a.2.1 k) (lenM (onY a.1 a.2.1 k) (onM a.1 a.2.1 k)))) (And.intro rfl (And.intro ⟨a.1, a.2.1, a.2.2, hD, hN, by unfold plainV; rw [if_neg ho, if_neg q2, Int.min_eq_right (by omega)]⟩ (Hp.keep H8)))
  · have q3 : ¬ lenM (onY a.1 a.2.1 k) (onM a.1 a.2.1 k) < a.2.2 := q3
    have hon1 := hon.1
    have hmn : min a.2.2 (lenM (onY a.1 a.2.1 k) (onM a.1 a.2.1 k)) = a.2.2 := Int.min_eq_left (by omega)
    rw [hmn] at hon1
    refine call_rule H6 (fun M I _ h => refNumber _ _ _ hon1 _ M I h) fun _ w8 _ H8 => ?_
    exact Exists.intro (some (numD (onY a.1 a.2.1 k) (onM a.1 a.2.1 k) a.2.2)) (And.intro rfl (And.intro ⟨a.1, a.2.1, a.2.2, hD, hN, by unfold plainV; rw [if_neg ho, if_neg q2, hmn]⟩ (Hp.keep H8)))
/-! The first open day from one on. -/
theorem refOpen (A : Option Addr) (n c : Nat) (hs : List Int) (d : Int) (h0 : 0 ≤ d) (h1 : d ≤ 3652058) (w : World) (M I : BS) (H : Hp ⟨w, M, I⟩ [] [Sl (Go.Wk.intR .i64) (.slice A n c) hs] w) :
    Ctr Tryz.prog 127 [.slice A n c, .int .i64 d] w M I (fun _ : Unit => .bool (openB hs d)) (fun _ => True) (fun _ => []) (fun _ => []) := by
  obtain ⟨hn, hc, hc2⟩ := H.sll (A := A) (n := n) (c := c)
  have hday : dayB d = true := by simp only [dayB, Bool.and_eq_true, decide_eq_true_eq]; omega
  have hm : d.tmod 7 = d % 7 := Int.tmod_eq_emod_of_nonneg h0
  refine Exe.of_ev tok Tryz.call127 Tryz.func127 rfl rfl rfl ?_
  refine loop_rule tok (σ := Nat) 130640 (fun i => [(9, .int .i64 (i : Int))]) (fun i w' => i ≤ n ∧ hs.contains d = (hs.drop i).contains d ∧ Hp ⟨w, M, I⟩ [] [Sl (Go.Wk.intR .i64) (.slice A n c) hs] w') (fun i => n - i) 0 rfl rfl ⟨rfl, trivial⟩ ⟨Nat.zero_le _, rfl, H⟩ ?_
  intro i j w1 hW
  have hi := hW.1
  have hg := hW.2.1
  have H1 := hW.2.2
  refine brd (fun hin => ?_) (fun hno => ?_)
  · have ew : IntKind.i64.wrap ((i : Int) + 1) = ((i + 1 : Nat) : Int) := w64 (by omega) (by omega)
    refine idx_rule tok H1 rfl rfl rfl (by omega) hin fun eb eo x hx H2 => ?_
    have hx' : hs[i]? = some x := by simpa using hx
    refine ld1_rule tok H2 (v := fun _ => .int .i64 x) rfl rfl (fun _ => rfl) fun _ _ H3 => ?_
    rw [drop_one hx', List.contains_cons] at hg
    refine br (fun q => ?_) (fun q => ?_)
    · have q : x = d := by have q : (x == d) = true := q; simpa using q
      refine Exists.intro () (And.intro (congrArg Value.bool ?_) (And.intro trivial (Hp.keep H3)))
      show false = openB hs d
      unfold openB
      rw [hg, q]; simp
    · have q : ¬ d = x := fun e => by have q : (x == d) = false := q; rw [e] at q; simp at q
      have q2 : (d == x) = false := by simpa using q
      rw [q2, Bool.false_or] at hg
      exact Exists.intro (i + 1) (And.intro ⟨congrArg (Value.int .i64) ew, trivial⟩ (And.intro (by show n - (i + 1) < n - i; omega) ⟨by omega, hg, Hp.keep H3⟩))
  · refine rem_as (d % 7) (by decide) hm ?_
    refine Exists.intro () (And.intro (congrArg Value.bool ?_) (And.intro trivial (Hp.keep H1)))
    show decide (d % 7 < 5) = openB hs d
    unfold openB
    rw [hg, List.drop_eq_nil_of_le (by omega), hday]; simp
theorem refNextD (A : Option Addr) (n c : Nat) (hs : List Int) (d : Int) (h0 : 0 ≤ d) (h1 : d ≤ 3652058) (w : World) (M I : BS) (H : Hp ⟨w, M, I⟩ [] [Sl (Go.Wk.intR .i64) (.slice A n c) hs] w) :
    Ctr Tryz.prog 72 [.slice A n c, .int .i64 d] w M I (fun r : Option Int => .int .i64 (r.getD (-1))) (nextR hs d) (fun _ => []) (fun _ => []) := by
  refine Exe.of_ev tok Tryz.call72 Tryz.func72 rfl rfl rfl ?_
  refine loop_rule tok (σ := Int) 8178 (fun k => [(1, .int .i64 k)]) (fun k w' => d ≤ k ∧ k ≤ 3652059 ∧ (∀ j, d ≤ j → j < k → openB hs j = false) ∧ Hp ⟨w, M, I⟩ [] [Sl (Go.Wk.intR .i64) (.slice A n c) hs] w') (fun k => (3652059 - k).toNat) d rfl rfl ⟨rfl, trivial⟩ ⟨Int.le_refl _, by omega, (fun j a b => by omega), Hp.keep H⟩ ?_
  intro k j w2 hW
  have h2 := hW.1
  have h3 := hW.2.1
  have h4 := hW.2.2.1
  have H2 := hW.2.2.2
  refine brd (fun q => ?_) (fun q => ?_)
  · have q : k ≤ 3652058 := q
    have ek : IntKind.i64.wrap (k + 1) = k + 1 := i64w (by omega) (by omega)
    refine call_rule H2 (fun M I _ h => refOpen A n c hs k (by omega) q _ M I h) fun _ w3 _ H3 => ?_
    refine br (fun qo => ?_) (fun qo => ?_)
    · have qo : openB hs k = true := qo
      exact Exists.intro (some k) (And.intro rfl (And.intro ⟨h2, qo, h4⟩ (Hp.keep H3)))
    · have qo : openB hs k = false := qo
      refine Exists.intro (k + 1) (And.intro ⟨congrArg (Value.int .i64) ek, trivial⟩ (And.intro (by show (3652059 - (k + 1)).toNat < (3652059 - k).toNat; omega) ⟨by omega, by omega, fun j a b => ?_, Hp.keep H3⟩))
      by_cases e : j = k
      · rw [e]; exact qo
      · exact h4 j a (by omega)
  · have q : ¬ k ≤ 3652058 := q
    refine Exists.intro none (And.intro rfl (And.intro (fun j a => ?_) (Hp.keep H2)))
    by_cases e : j < k
    · exact h4 j a e
    · unfold openB
      have : dayB j = false := by simp [dayB]; omega
      rw [this]; rfl
end Go.Proofs.YtjlfjjgjghdokaaGreatDoor
set_option linter.unusedVariables false
namespace Go.Proofs.YtjlfjjgjghdokaaGreatDoor
open Go Go.Proofs Go.Wk Go.Pl
theorem rollR_one {hs : List Int} {s k : Int} {r r' : Option Int} (h : rollR hs s k r) (h' : rollR hs s k r') : r = r' := by
  obtain ⟨p, hp, hr⟩ := h
  obtain ⟨p', hp', hr'⟩ := h'
  obtain rfl := plainR_one hp hp'
  cases p with
  | none =>
    have a : r = none := hr
    have b : r' = none := hr'
    rw [a, b]
  | some n => exact nextR_one hr hr'
theorem DuesR.one {t : Tm} {hs : List Int} {i : Nat} {ds ds' : List (Int × Int)} (h : DuesR t hs i ds) (h' : DuesR t hs i ds') : ds = ds' := by
  refine List.ext_getElem? fun k => ?_
  by_cases hk : k < i
  · obtain ⟨d, s, q1, q2, q3⟩ := h.at_ k hk
    obtain ⟨d', s', q1', q2', q3'⟩ := h'.at_ k hk
    have e1 := Option.some.inj (rollR_one q1 q1')
    have e2 := Option.some.inj (q2.symm.trans q2')
    rw [q3, q3', e1, e2]
  · rw [List.getElem?_eq_none (by rw [h.len]; omega), List.getElem?_eq_none (by rw [h'.len]; omega)]
theorem sumsGo_at : ∀ (l : List (Int × Int × Int)) (s : Int) (i : Nat), i < l.length → (sumsGo s l)[i]? = some (tot s (l.take (i + 1)))
  | [], s, i, h => by cases h
  | x :: r, s, 0, h => rfl
  | x :: r, s, i + 1, h => sumsGo_at r _ i (Nat.lt_of_succ_lt_succ h)
theorem refPlainS (s : Int) (k : Nat) (hs0 : 0 ≤ s) (hs1 : s ≤ 3600000) (hk : k ≤ 480) (w : World) (M I : BS) (H : Hp ⟨w, M, I⟩ [] [] w) :
    Ctr Tryz.prog 71 [.int .i64 s, .int .i64 (k : Int)] w M I (fun d : Int => .tuple #[.int .i64 d, .int .i64 0]) (fun d => plainR s k (some d) ∧ 0 ≤ d ∧ d ≤ 3640000) (fun _ => []) (fun _ => []) :=
  (refPlain s k hs0 (by omega) hk w M I H).imp fun a w' ha h => by
    obtain ⟨d, rfl, h0, h1⟩ := plainR_some hs0 hs1 (by omega) (by omega) ha
    exact ⟨d, rfl, ⟨ha, h0, h1⟩, h⟩
theorem refNextS (A : Option Addr) (n c : Nat) (hs : List Int) (d : Int) (h0 : 0 ≤ d) (h1 : d ≤ 3640000) (hl : hs.length ≤ 200) (w : World) (M I : BS) (H : Hp ⟨w, M, I⟩ [] [Sl (Go.Wk.intR .i64) (.slice A n c) hs] w) :
    Ctr Tryz.prog 72 [.slice A n c, .int .i64 d] w M I (fun x : Int => .int .i64 x) (fun x => nextR hs d (some x)) (fun _ => []) (fun _ => []) :=
  (refNextD A n c hs d h0 (by omega) w M I H).imp fun a w' ha h => by
    obtain ⟨x, rfl⟩ := nextR_some h0 h1 hl ha
    exact ⟨x, rfl, ha, h⟩
theorem refRows (kind p parts pay : Int) (b : Bool) (n : Nat) (hk : kind = 1 ∨ kind = 2) (hn : n ≤ 480) (h0 : 0 ≤ parts) (h1 : parts ≤ 1000000) (hJ0 : Jv kind parts n p pay) (w : World) (M I : BS) (hM : ∀ b, ¬ M b) (H : Hp ⟨w, M, I⟩ [] [] w) :
    Ctr Tryz.prog 69 [.bool (kind == 2), .int .i64 p, rrV parts b, .int .i64 n, .int .i64 pay] w M I (fun a : SV => .slice a.A a.n a.c) (fun _ => True) (fun _ => []) (fun a => [Sl row3R (.slice a.A a.n a.c) (rowsGo kind parts n p pay)]) := by
  rcases hk with rfl | rfl
  · exact refRowsLevel p parts pay b n hn h0 h1 hJ0 w M I hM H
  · exact refRowsOnly p parts pay b n hn h0 h1 hJ0 w M I hM H
@[reducible] def rdueC (x : Int × Int) : List Value := [.int .i64 x.1, .int .i64 x.2]
@[reducible] def rdueR : Rp (Int × Int) := ⟨2, Unit, fun x _ => rdueC x, fun _ _ => True, fun _ _ => [], fun _ _ => rfl⟩
set_option maxRecDepth 20000 in
set_option maxHeartbeats 2000000 in
theorem refDues (t : Tm) (hin : TmIn t) (ok : TmOk t) (A : Option Addr) (n c : Nat) (hs : List Int) (hlh : hs.length ≤ 200) (w : World) (M I : BS) (hM : ∀ b, ¬ M b) (H : Hp ⟨w, M, I⟩ [] [Sl (Go.Wk.intR .i64) (.slice A n c) hs] w) :
    Ctr Tryz.prog 34 [rtV t, .slice A n c] w M I (fun a : SV × List (Int × Int) => .slice a.1.A a.1.n a.1.c) (fun a => DuesR t hs t.months.toNat a.2) (fun _ => []) (fun a => [Sl rdueR (.slice a.1.A a.1.n a.1.c) a.2]) := by
  have hmo := ok.months
  have hst := ok.start
  have hpa := ok.parts
  have hp0 : 0 ≤ t.parts := hin.parts.1
  have em : ((t.months.toNat : Nat) : Int) = t.months := Int.toNat_of_nonneg (by omega)
  have hlv := tm_lv hin ok
  have hJ : Jv t.kind t.parts t.months.toNat t.prin (payV t.prin t.parts t.months.toNat) := Jv.start hlv hp0
  have hrows := refRows t.kind t.prin t.parts (payV t.prin t.parts t.months.toNat) (t.basis == 2) t.months.toNat ok.kind (by omega) hp0 hpa hJ
  rw [em] at hrows
  have hrl := rowsGo_len t.kind t.parts t.months.toNat t.prin (payV t.prin t.parts t.months.toNat)
  refine Exe.of_ev tok Tryz.call34 Tryz.func34 rfl rfl rfl ?_
  refine box_as H (rtC t) rfl fun r w1 H1 => ?_
  refine draw_rule (A := []) tok tdr H1 [5, 6, 9, 10, 0, 1, 2, 3, 4, 7, 8, 11, 12, 13] [0, 1, 3, 0, 8, 0, 32, 0, 128, 0, 608, 2047, 4095, 0] rfl ?_
  refine pass_rule _ (fun w h => load_rule tok h (v := rtV t) rfl ⟨rfl, rfl⟩) ?_
  refine imp_rule (fun X wx h => call_rule h (fun M I _ h => refRate t _ M I h) fun _ w1 _ H1 => imp_done H1 ?_)
  refine pass_rule _ (fun w h => load_rule tok h (v := rtV t) rfl ⟨rfl, rfl⟩) ?_
  refine imp_rule (fun X wx h => call_rule h (fun M I _ h => refPay t hin ok _ M I h) fun _ w1 _ H1 => imp_done H1 ?_)
  refine pass_rule _ (fun w h => load_rule tok h (v := .int .u8 t.kind) rfl ⟨rfl, rfl⟩) ?_
  refine pass_rule _ (fun w h => load_rule tok h (v := .int .i64 t.prin) rfl ⟨rfl, rfl⟩) ?_
  refine pass_rule _ (fun w h => load_rule tok h (v := .int .i64 t.months) rfl ⟨rfl, rfl⟩) ?_
  refine imp_rule (fun X wx h => call_rule h (fun M I h0 h => hrows _ M I (h0 rfl) h) fun rw_ w1 _ H1 => imp_done H1 ?_)
  refine done_rule fun w2 H2 => ?_
  generalize hR : rowsGo t.kind t.parts t.months.toNat t.prin (payV t.prin t.parts t.months.toNat) = rows_ at H2 hrl
  have hts : tmSums t = sumsGo 0 rows_ := by unfold tmSums; rw [hR]
  have H2 : Hp ⟨w, M, I⟩ [blk r (rtC t) 33] [Sl row3R (.slice rw_.A rw_.n rw_.c) rows_, Sl (Go.Wk.intR .i64) (.slice A n c) hs] w2 := Hp.keep H2
  have hrn := (H2.sll (A := rw_.A) (n := rw_.n) (c := rw_.c)).1
  have hok : ∀ x, x ∈ rows_ → r3ok x := fun x hx => by
    obtain ⟨I2, fp, _, ha, _⟩ := H2.ex
    obtain ⟨A', c', _, _, _, _, hel⟩ := ha _ List.mem_cons_self
    obtain ⟨i, hi⟩ := List.mem_iff_getElem?.1 hx
    obtain ⟨b, o, _, _, p, hok, _⟩ := hel i x hi
    exact hok
  have H3 : Hp ⟨w, M, I⟩ [row 97 2 (.slice none 0 0) 0 (flatL rdueC []), blk r (rtC t) 33] [Sl row3R (.slice rw_.A rw_.n rw_.c) rows_, Sl (Go.Wk.intR .i64) (.slice A n c) hs] w2 := Hp.nil H2 97 2
  refine loop_rule tok (σ := List (Int × Int) × SV) 9007199237965792 (fun s => [(5, .slice s.2.A s.1.length s.2.c), (6, .int .i64 (tot 0 (rows_.take s.1.length))), (24, .int .i64 (s.1.length : Int))])
    (fun s w' => s.1.length ≤ rw_.n ∧ DuesR t hs s.1.length s.1 ∧ Hp ⟨w, M, I⟩ [row 97 2 (.slice s.2.A s.1.length s.2.c) s.1.length (flatL rdueC s.1), blk r (rtC t) 33] [Sl row3R (.slice rw_.A rw_.n rw_.c) rows_, Sl (Go.Wk.intR .i64) (.slice A n c) hs] w') (fun s => rw_.n - s.1.length) ([], ⟨none, 0, 0⟩) rfl rfl ⟨rfl, rfl, rfl, trivial⟩ ⟨Nat.zero_le _, ⟨rfl, fun k hk => absurd hk (Nat.not_lt_zero _)⟩, H3⟩ ?_
  intro s j w6 hW
  have hi := hW.1
  have hDR := hW.2.1
  have H7 := hW.2.2
  refine brd (fun hlt => ?_) (fun hge => ?_)
  · have ew : IntKind.i64.wrap ((s.1.length : Int) + 1) = ((s.1.length + 1 : Nat) : Int) := i64w (by omega) (by omega)
    refine idx_rule tok H7 rfl rfl rfl (by omega) hlt fun eb eo x hx H8 => ?_
    have hx' : rows_[s.1.length]? = some x := by simpa using hx
    have htk : rows_.take (s.1.length + 1) = rows_.take s.1.length ++ [x] := by rw [List.take_add_one, hx']; rfl
    have hxo := hok x (List.mem_of_getElem? hx')
    have hxo1 := hxo.1
    have hxo2 := hxo.2.1
    have hb := tot_bd (rows_.take (s.1.length + 1)) 0 0 (fun y hy => hok y (List.mem_of_mem_take hy)) (by omega) (by omega)
    have hlen : (rows_.take (s.1.length + 1)).length ≤ 1000 := by rw [List.length_take]; omega
    have e1 : IntKind.i64.wrap (x.1 + x.2.1) = x.1 + x.2.1 := i64w (by omega) (by omega)
    have es : IntKind.i64.wrap (tot 0 (rows_.take s.1.length) + IntKind.i64.wrap (x.1 + x.2.1)) = tot 0 (rows_.take (s.1.length + 1)) := by
      have hlen2 := hlen
      rw [htk] at hlen2
      rw [e1, htk, tot_snoc]
      rw [htk, tot_snoc] at hb
      exact i64w (by omega) (by omega)
    have hsm : (tmSums t)[s.1.length]? = some (tot 0 (rows_.take (s.1.length + 1))) := by rw [hts]; exact sumsGo_at _ _ _ (by omega)
    refine ldp_rule tok H8 rfl rfl rfl fun _ _ H9 => ?_
    refine alloc_as tok H9 (row3C (0, 0, 0)) rfl rfl rfl fun o w7 Ha => ?_
    refine store_as tok Ha (row3C x) rfl rfl rfl rfl rfl fun w8 Hb => ?_
    refine load_rule tok Hb (v := .int .i64 x.1) rfl ?_
    refine load_rule tok Hb (v := .int .i64 x.2.1) rfl ?_
    refine load_rule tok Hb (v := .int .i64 t.start) rfl ?_
    refine call_rule Hb (fun M I _ h => ew.symm ▸ refPlainS t.start (s.1.length + 1) hst.1 hst.2 (by omega) _ M I h) fun d w9 hd Hc => ?_
    refine call_rule Hc (fun M I _ h => refNextS A n c hs d hd.2.1 hd.2.2 hlh _ M I h) fun x2 wa hx2 Hd => ?_
    have hd1 : plainR t.start ((s.1.length : Int) + 1) (some d) := by have h := hd.1; rw [ew] at h; exact h
    have hro : rollR hs t.start ((s.1.length : Int) + 1) (some x2) := ⟨some d, hd1, hx2⟩
    refine slice_as tok Hd (rdueC (x2, IntKind.i64.wrap (tot 0 (rows_.take s.1.length) + IntKind.i64.wrap (x.1 + x.2.1)))) rfl rfl rfl rfl rfl rfl fun g2 wb He => ?_
    rw [es] at He
    refine append_rule (v := .slice s.2.A s.1.length s.2.c) (b := g2) (m := 1) (c := 1) tok He rfl rfl rfl rfl rfl rfl rfl rfl (by show (s.1.length + 1) * 16 ≤ _; omega) (by omega) fun A2 c2 wc Hf => ?_
    have el : (s.1 ++ [(x2, tot 0 (rows_.take (s.1.length + 1)))]).length = s.1.length + 1 := by simp
    have Hg : Hp ⟨w, M, I⟩ [row 97 2 (.slice A2 (s.1.length + 1) c2) (s.1.length + 1) (flatL rdueC s.1 ++ rdueC (x2, tot 0 (rows_.take (s.1.length + 1)))), blk r (rtC t) 33] [Sl row3R (.slice rw_.A rw_.n rw_.c) rows_, Sl (Go.Wk.intR .i64) (.slice A n c) hs] wc := Hp.keep Hf
    rw [← flatL_snoc, ← el] at Hg
    rw [el] at Hg
    exact Exists.intro (s.1 ++ [(x2, tot 0 (rows_.take (s.1.length + 1)))], ⟨A2, 0, c2⟩) (And.intro ⟨congrArg (fun k => Value.slice A2 k c2) el.symm, congrArg (Value.int .i64) (by rw [es, el]), congrArg (Value.int .i64) (by rw [ew, el]), trivial⟩ (And.intro (by show rw_.n - (s.1 ++ [(x2, tot 0 (rows_.take (s.1.length + 1)))]).length < rw_.n - s.1.length; omega) ⟨by show (s.1 ++ [(x2, tot 0 (rows_.take (s.1.length + 1)))]).length ≤ rw_.n; omega, by show DuesR t hs (s.1 ++ [(x2, tot 0 (rows_.take (s.1.length + 1)))]).length _; rw [el]; exact hDR.snoc hro hsm, by show Hp _ [row 97 2 (.slice A2 (s.1 ++ [(x2, tot 0 (rows_.take (s.1.length + 1)))]).length c2) (s.1 ++ [(x2, tot 0 (rows_.take (s.1.length + 1)))]).length (flatL rdueC (s.1 ++ [(x2, tot 0 (rows_.take (s.1.length + 1)))])), _] _ _; rw [el]; exact Hg⟩))
  · have en : s.1.length = t.months.toNat := by omega
    have H8 := Hp.frzFlat (v := .slice s.2.A s.1.length s.2.c) H7 2 rdueC (fun _ => rfl) (fun _ => True) hM (by decide) (fun _ _ => trivial)
    exact Exists.intro (⟨s.2.A, s.1.length, s.2.c⟩, s.1) (And.intro rfl (And.intro (en ▸ hDR) (Hp.keep H8)))
end Go.Proofs.YtjlfjjgjghdokaaGreatDoor
set_option linter.unusedVariables false
namespace Go.Proofs.YtjlfjjgjghdokaaGreatDoor
open Go Go.Proofs Go.Wk
theorem widePlus (hi lo c : Nat) (h1 : hi < 9223372036854775808) (h2 : lo < 18446744073709551616) (h3 : c < 18446744073709551616) :
    CB 248 [wideV hi lo, wideV 0 c] (.tuple #[wideV (hi + (lo + c) / 18446744073709551616) ((lo + c) % 18446744073709551616), .nilIface]) := by
  intro w M I H
  have e1 : ((lo : Int) + (c : Int) + 0) % 18446744073709551616 = (((lo + c) % 18446744073709551616 : Nat) : Int) := by omega
  have e2 : ((lo : Int) + (c : Int) + 0) / 18446744073709551616 = (((lo + c) / 18446744073709551616 : Nat) : Int) := by omega
  have hq : (lo + c) / 18446744073709551616 ≤ 1 := by omega
  have e3 : ((hi : Int) + 0 + (((lo + c) / 18446744073709551616 : Nat) : Int)) % 18446744073709551616 = ((hi + (lo + c) / 18446744073709551616 : Nat) : Int) := by omega
  have e4 : ((hi : Int) + 0 + (((lo + c) / 18446744073709551616 : Nat) : Int)) / 18446744073709551616 = 0 := by omega
  refine Exe.of_ev tok Tryz.call248 Tryz.func248 rfl rfl rfl ?_
  refine box_as H (wideC hi lo) rfl fun a w1 H1 => ?_
  refine box_as H1 (wideC 0 c) rfl fun b w2 H2 => ?_
  refine alloc_as tok H2 (wideC 0 0) rfl rfl rfl fun r w3 H3 => ?_
  refine load_rule tok H3 (v := .int .u64 (lo : Int)) rfl ?_
  refine load_rule tok H3 (v := .int .u64 (c : Int)) rfl ?_
  refine CallK_ext (e := add64Entry) Tryz.func273 (by kernel_rfl) (by kernel_rfl) (by kernel_rfl) (by kernel_rfl) (run_add64 (lo : Int) (c : Int) 0 (by omega) (by omega) (by omega) (by omega) w3) ?_
  rw [e1, e2]
  refine load_rule tok H3 (v := .int .u64 (hi : Int)) rfl ?_
  refine load_rule tok H3 (v := .int .u64 0) rfl ?_
  refine CallK_ext (e := add64Entry) Tryz.func273 (by kernel_rfl) (by kernel_rfl) (by kernel_rfl) (by kernel_rfl) (run_add64 (hi : Int) 0 (((lo + c) / 18446744073709551616 : Nat) : Int) (by omega) (by omega) (by omega) (by omega) w3) ?_
  rw [e3, e4]
  refine store_as tok H3 (wideC (hi + (lo + c) / 18446744073709551616) ((lo + c) % 18446744073709551616)) rfl rfl rfl rfl rfl fun w4 H4 => ?_
  refine Exists.intro ⟨r, 0, none⟩ (Exists.intro (wideV (hi + (lo + c) / 18446744073709551616) ((lo + c) % 18446744073709551616)) (And.intro rfl (And.intro (Hp.ld (T := tb) tok H4 rfl) ?_)))
  exact Exists.intro () (And.intro rfl (And.intro trivial (Hp.keep H4)))
theorem wideAdd (hi lo c : Nat) (h1 : hi < 9223372036854775808) (h2 : lo < 18446744073709551616) (h3 : c < 18446744073709551616) :
    CB 220 [wideV hi lo, .int .u64 (c : Int)] (.tuple #[wideV (hi + (lo + c) / 18446744073709551616) ((lo + c) % 18446744073709551616), .nilIface]) := by
  intro w M I H
  refine Exe.of_ev tok Tryz.call220 Tryz.func220 rfl rfl rfl ?_
  refine box_as H (wideC hi lo) rfl fun a w1 H1 => ?_
  refine alloc_as tok H1 (wideC 0 0) rfl rfl rfl fun r w2 H2 => ?_
  refine load_rule tok H2 (v := wideV hi lo) rfl ?_
  refine call_rule H2 (fun M I _ h => widePlus hi lo c h1 h2 h3 _ M I h) fun _ w3 _ H3 => ?_
  refine store_as tok H3 (wideC (hi + (lo + c) / 18446744073709551616) ((lo + c) % 18446744073709551616)) rfl rfl rfl rfl rfl fun w4 H4 => ?_
  refine Exists.intro ⟨r, 0, none⟩ (Exists.intro (wideV (hi + (lo + c) / 18446744073709551616) ((lo + c) % 18446744073709551616)) (And.intro rfl (And.intro (Hp.ld (T := tb) tok H4 rfl) ?_)))
  exact Exists.intro () (And.intro rfl (And.intro trivial (Hp.keep H4)))
/-! Spans. -/
def th (y m d y' m' d' : Int) : Int := 360 * (y' - y) + 30 * (m' - m) + (if min d 30 = 30 then min d' 30 else d') - min d 30
end Go.Proofs.YtjlfjjgjghdokaaGreatDoor
