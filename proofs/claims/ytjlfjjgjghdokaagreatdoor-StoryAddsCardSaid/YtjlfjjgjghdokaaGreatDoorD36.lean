/- The document's numerals, dates, amounts in words: the walks. -/
import Derived.Test.YtjlfjjgjghdokaaGreatDoorG6
set_option linter.unusedVariables false
namespace Go.Proofs.YtjlfjjgjghdokaaGreatDoor
open Go Go.Proofs Go.Wk Go.Pl
theorem dec_cons {u : Nat} (h : ¬ u < 10) : Lib.decDigits u = Lib.decDigits (u / 10) ++ Lib.decDigits (u % 10) := by
  rw [Lib.decDigits_one (show u % 10 < 10 by omega)]
  rw [Lib.decDigits, dif_neg h]
theorem digS {n : Nat} (h : n < 10) : ((⟨#[48, 49, 50, 51, 52, 53, 54, 55, 56, 57]⟩ : ByteArray).extract n (n + 1)) = strOf (Lib.decDigits n) := by
  rw [Lib.decDigits_one h]
  have : n = 0 ∨ n = 1 ∨ n = 2 ∨ n = 3 ∨ n = 4 ∨ n = 5 ∨ n = 6 ∨ n = 7 ∨ n = 8 ∨ n = 9 := by omega
  rcases this with rfl | rfl | rfl | rfl | rfl | rfl | rfl | rfl | rfl | rfl <;> rfl
theorem quoN (a k : Nat) (h : a < 18446744073709551616) : IntKind.u64.wrap (((a : Nat) : Int).tdiv (k : Int)) = ((a / k : Nat) : Int) := by
  have h1 : ((a : Nat) : Int).tdiv (k : Int) = ((a / k : Nat) : Int) := rfl
  have h2 := Nat.div_le_self a k
  rw [h1]
  generalize a / k = q at h2
  exact wrap_id ⟨by show (0 : Int) ≤ _; omega, by show _ ≤ (18446744073709551615 : Int); omega⟩
theorem dec_len (n : Nat) (h : n < 18446744073709551616) : (Lib.decDigits n).length ≤ 20 := by rw [Lib.decDigits_length]; exact Lib.nDigits_le20 n h
theorem dec1 {n : Nat} (h : n < 10) : Lib.decDigits n = [UInt8.ofNat (48 + n)] := Lib.decDigits_one h
/-- Two digits. -/
def twoL (n : Nat) : List UInt8 := [UInt8.ofNat (48 + n / 10 % 10), UInt8.ofNat (48 + n % 10)]
/-- Is a year one with a day more? -/
theorem refLeap (y : Int) (h1 : 1 ≤ y) (h2 : y ≤ 9999) : CB 165 [.int .i64 y] (.bool (leapB y)) := by
  intro w M I H
  have m4 : y.tmod 4 = y % 4 := Int.tmod_eq_emod_of_nonneg (by omega)
  have m100 : y.tmod 100 = y % 100 := Int.tmod_eq_emod_of_nonneg (by omega)
  have m400 : y.tmod 400 = y % 400 := Int.tmod_eq_emod_of_nonneg (by omega)
  refine Exe.of_ev tok Tryz.call165 Tryz.func165 rfl rfl rfl ?_
  refine brd (fun q => absurd q (by omega)) (fun _ => ?_)
  refine brd (fun q => absurd q (by omega)) (fun _ => ?_)
  refine rem_as (y % 4) (by decide) m4 ?_
  refine brd (fun q => ?_) (fun q => ?_)
  · refine Exists.intro () (And.intro (congrArg Value.bool ?_) (And.intro trivial (Hp.keep H)))
    unfold leapB; rw [decide_eq_false (by omega)]; rfl
  refine rem_as (y % 100) (by decide) m100 ?_
  refine brd (fun q2 => ?_) (fun q2 => ?_)
  · refine Exists.intro () (And.intro (congrArg Value.bool ?_) (And.intro trivial (Hp.keep H)))
    unfold leapB; rw [decide_eq_true (show y % 4 = 0 by omega), decide_eq_false (show ¬ y % 100 = 0 by omega)]; rfl
  refine rem_as (y % 400) (by decide) m400 ?_
  refine Exists.intro () (And.intro (congrArg Value.bool ?_) (And.intro trivial (Hp.keep H)))
  show (y % 400 == 0) = _
  unfold leapB; rw [decide_eq_true (show y % 4 = 0 by omega), decide_eq_true (show y % 100 = 0 by omega)]
  by_cases h : y % 400 = 0 <;> simp [h]
def len0 : List Int := [31, 28, 31, 30, 31, 30, 31, 31, 30, 31, 30, 31]
theorem len_at (m : Int) (h1 : 1 ≤ m) (h2 : m ≤ 12) : ∃ v, ldV (tb 3) (len0.map (Value.int .i64)) (0 + (m - 1).toNat * 1) = some (.int .i64 v) ∧ ∀ y, lenM y m = v + (if m = 2 ∧ leapB y = true then 1 else 0) := by
  rcases month_cases h1 h2 with rfl | rfl | rfl | rfl | rfl | rfl | rfl | rfl | rfl | rfl | rfl | rfl
  all_goals first
    | exact ⟨31, rfl, fun y => by unfold lenM; simp⟩
    | exact ⟨30, rfl, fun y => by unfold lenM; simp⟩
    | exact ⟨28, rfl, fun y => by unfold lenM; cases leapB y <;> simp⟩
/-- The length of a month. -/
theorem refLength (y m : Int) (h1 : 1 ≤ y) (h2 : y ≤ 9999) (h3 : 1 ≤ m) (h4 : m ≤ 12) : CB 108 [.int .i64 y, .int .i64 m] (.int .i64 (lenM y m)) := by
  intro w M I H
  obtain ⟨v, hv, hl⟩ := len_at m h3 h4
  have hly := hl y
  have hb := len_pos (y := y) (m := m)
  have ew : IntKind.i64.wrap (m - 1) = m - 1 := w64 (by omega) (by omega)
  refine Exe.of_ev tok Tryz.call108 Tryz.func108 rfl rfl rfl ?_
  refine brd (fun q => absurd q (by omega)) (fun _ => ?_)
  refine brd (fun q => absurd q (by omega)) (fun _ => ?_)
  refine brd (fun q => absurd q (by omega)) (fun _ => ?_)
  refine brd (fun q => absurd q (by omega)) (fun _ => ?_)
  refine slice_as tok H (len0.map (Value.int .i64)) rfl rfl rfl rfl rfl rfl fun g w1 H1 => ?_
  refine idx_own tok rfl rfl (by rw [ew]; omega) (by rw [ew]; show m - 1 < ((12 : Nat) : Int); omega) ?_
  refine load_rule tok H1 (v := .int .i64 v) (by rw [ew]; exact hv) ?_
  refine br (fun q => ?_) (fun q => ?_)
  · have q : m = 2 := by have q : (m == 2) = true := q; simpa using q
    refine call_rule H1 (fun M I _ h => refLeap y h1 h2 _ M I h) fun _ w2 _ H2 => ?_
    refine br (fun q2 => ?_) (fun q2 => ?_)
    · have q2 : leapB y = true := q2
      rw [if_pos ⟨q, q2⟩] at hly
      refine Exists.intro () (And.intro (congrArg (Value.int .i64) ?_) (And.intro trivial (Hp.keep H2)))
      show IntKind.i64.wrap (v + 1) = _
      rw [w64 (by omega) (by omega)]; omega
    · have q2 : leapB y = false := q2
      rw [if_neg (by rw [q2]; simp)] at hly
      exact Exists.intro () (And.intro (congrArg (Value.int .i64) (by omega)) (And.intro trivial (Hp.keep H2)))
  · have q : m ≠ 2 := by have q : (m == 2) = false := q; simpa using q
    rw [if_neg (fun h => q h.1)] at hly
    exact Exists.intro () (And.intro (congrArg (Value.int .i64) (by omega)) (And.intro trivial (Hp.keep H1)))
/-- A day's date. -/
theorem refCivil (n : Int) (h0 : 0 ≤ n) (h1 : n ≤ 3652058) (w : World) (M I : BS) (H : Hp ⟨w, M, I⟩ [] [] w) :
    Ctr Tryz.prog 107 [.int .i64 n] w M I (fun a : Int × Int × Int => civV a.1 a.2.1 a.2.2) (fun a => Dat a.1 a.2.1 a.2.2 ∧ numD a.1 a.2.1 a.2.2 = n) (fun _ => []) (fun _ => []) := by
  have m1 : n.tdiv 146097 = n / 146097 := Int.tdiv_eq_ediv_of_nonneg (by omega)
  have m2 : n.tmod 146097 = n % 146097 := Int.tmod_eq_emod_of_nonneg (by omega)
  refine Exe.of_ev tok Tryz.call107 Tryz.func107 rfl rfl rfl ?_
  refine alloc_as tok H (civC 0 0 0) rfl rfl rfl fun r w1 H1 => ?_
  refine quo_as (n / 146097) (by decide) (by rw [m1]; exact w64 (by omega) (by omega)) ?_
  refine rem_as (n % 146097) (by decide) m2 ?_
  obtain ⟨q, hq⟩ : ∃ q, q = n / 146097 := ⟨_, rfl⟩
  obtain ⟨z, hz⟩ : ∃ z, z = n % 146097 := ⟨_, rfl⟩
  have hqz : n = 146097 * q + z ∧ 0 ≤ z ∧ z < 146097 ∧ 0 ≤ q := by omega
  have e1 : IntKind.i64.wrap (1 + IntKind.i64.wrap (400 * (n / 146097))) = 1 + 400 * q := by
    rw [← hq, w64 (n := 400 * q) (by omega) (by omega), w64 (by omega) (by omega)]
  have hbeg : beg (1 + 400 * q) = 146097 * q := by unfold beg; omega
  refine loop_rule tok (σ := Int × Int) 4190233 (fun s => [(3, .int .i64 s.1), (0, .int .i64 s.2)]) (fun s w' => 1 ≤ s.1 ∧ s.1 ≤ 9999 ∧ 0 ≤ s.2 ∧ beg s.1 + s.2 = n ∧ Hp ⟨w, M, I⟩ [blk r (civC 0 0 0) 212] [] w') (fun s => (10000 - s.1).toNat) (1 + 400 * q, z) rfl rfl ⟨congrArg (Value.int .i64) e1, congrArg (Value.int .i64) hz.symm, trivial⟩ ⟨by omega, by omega, hqz.2.1, by rw [hbeg]; exact hqz.1.symm, Hp.keep H1⟩ ?_
  intro s j w2 hW
  have hy1 := hW.1
  have hy2 := hW.2.1
  have hr0 := hW.2.2.1
  have hn := hW.2.2.2.1
  have H2 := hW.2.2.2.2
  have hbs := beg_succ (y := s.1) hy1
  have hbt := beg_top
  have hstep : ∀ size, size = 365 + (if leapB s.1 = true then 1 else 0) → ¬ s.2 < size → s.1 + 1 ≤ 9999 ∧ beg (s.1 + 1) + (s.2 - size) = n := fun size e h => by
    have h2 : beg (s.1 + 1) = beg s.1 + size := by rw [hbs, e]; omega
    refine ⟨?_, by omega⟩
    rcases Int.lt_or_le 9999 (s.1 + 1) with h3 | h3
    · have e4 : s.1 + 1 = 10000 := by omega
      rw [e4] at h2
      omega
    · exact h3
  refine call_rule H2 (fun M I _ h => refLeap s.1 hy1 hy2 _ M I h) fun _ w3 _ H3 => ?_
  refine br (fun ql => ?_) (fun ql => ?_)
  · have ql : leapB s.1 = true := ql
    have es : (366 : Int) = 365 + (if leapB s.1 = true then 1 else 0) := by rw [ql]; simp
    refine brd (fun hlt => ?_) (fun hge => ?_)
    · have hlt : s.2 < 366 := hlt
      have hend : offM s.1 13 = 366 := by rw [off_end]; exact es.symm
      refine loop_rule tok (σ := Int × Int) 17175674913 (fun x => [(5, .int .i64 x.1), (0, .int .i64 x.2)]) (fun x w' => 1 ≤ x.1 ∧ x.1 ≤ 12 ∧ 0 ≤ x.2 ∧ offM s.1 x.1 + x.2 = s.2 ∧ Hp ⟨w, M, I⟩ [blk r (civC 0 0 0) 212] [] w') (fun x => (13 - x.1).toNat) (1, s.2) rfl rfl ⟨rfl, rfl, trivial⟩ ⟨by show (1 : Int) ≤ 1; decide, by show (1 : Int) ≤ 12; decide, hr0, by rw [off_one]; show 0 + s.2 = s.2; omega, Hp.keep H3⟩ ?_
      intro x j2 w4 hX
      have hm1 := hX.1
      have hm2 := hX.2.1
      have hx0 := hX.2.2.1
      have hxs := hX.2.2.2.1
      have H4 := hX.2.2.2.2
      have hlp := len_pos (y := s.1) (m := x.1)
      have hos := off_succ (y := s.1) hm1 hm2
      refine call_rule H4 (fun M I _ h => refLength s.1 x.1 hy1 hy2 hm1 hm2 _ M I h) fun _ w5 _ H5 => ?_
      refine brd (fun hq2 => ?_) (fun hq2 => ?_)
      · have hq2 : lenM s.1 x.1 ≤ x.2 := hq2
        have hm : x.1 + 1 ≤ 12 := by
          rcases Int.lt_or_le 12 (x.1 + 1) with h3 | h3
          · have e13 : x.1 + 1 = 13 := by omega
            rw [e13, hend] at hos
            omega
          · exact h3
        have hx2 : x.2 ≤ 400 := by
          have := off_mono (y := s.1) (m := 1) (k := 13) (by decide) (by decide) (by decide)
          have h0 : 0 ≤ offM s.1 x.1 := by
            rcases month_cases hm1 hm2 with e | e | e | e | e | e | e | e | e | e | e | e <;> rw [e] <;> unfold offM <;> cases leapB s.1 <;> decide
          omega
        have e1 : IntKind.i64.wrap (x.2 - lenM s.1 x.1) = x.2 - lenM s.1 x.1 := w64 (by omega) (by omega)
        have e2 : IntKind.i64.wrap (x.1 + 1) = x.1 + 1 := w64 (by omega) (by omega)
        refine call_rule H5 (fun M I _ h => refLength s.1 x.1 hy1 hy2 hm1 hm2 _ M I h) fun _ w6 _ H6 => ?_
        exact Exists.intro (x.1 + 1, x.2 - lenM s.1 x.1) (And.intro ⟨congrArg (Value.int .i64) e2, congrArg (Value.int .i64) e1, trivial⟩ (And.intro (by show (13 - (x.1 + 1)).toNat < (13 - x.1).toNat; omega) ⟨by show 1 ≤ x.1 + 1; omega, hm, by show 0 ≤ x.2 - lenM s.1 x.1; omega, by show offM s.1 (x.1 + 1) + (x.2 - lenM s.1 x.1) = s.2; omega, Hp.keep H6⟩))
      · have hq2 : ¬ lenM s.1 x.1 ≤ x.2 := hq2
        have e2 : IntKind.i64.wrap (x.2 + 1) = x.2 + 1 := w64 (by omega) (by omega)
        refine store_as tok H5 (civC s.1 x.1 (IntKind.i64.wrap (x.2 + 1))) rfl rfl rfl rfl rfl fun w6 H6 => ?_
        rw [e2] at H6
        refine Exists.intro ⟨r, 0, none⟩ (Exists.intro (civV s.1 x.1 (x.2 + 1)) (And.intro rfl (And.intro (Hp.ld (T := tb) tok H6 rfl) ?_)))
        exact Exists.intro (s.1, x.1, x.2 + 1) (And.intro rfl (And.intro ⟨⟨hy1, hy2, hm1, hm2, by show 1 ≤ x.2 + 1; omega, by show x.2 + 1 ≤ lenM s.1 x.1; omega⟩, by show beg s.1 + offM s.1 x.1 + (x.2 + 1) - 1 = n; omega⟩ (Hp.keep H6)))
    · have hge : ¬ s.2 < 366 := hge
      have hnx := hstep 366 es hge
      have hbn : 0 ≤ beg (s.1 + 1) := by have := beg_mono (y := 1) (z := s.1 + 1) (by decide) (by omega); rw [beg_one] at this; exact this
      have e1 : IntKind.i64.wrap (s.2 - 366) = s.2 - 366 := w64 (by omega) (by omega)
      have e2 : IntKind.i64.wrap (s.1 + 1) = s.1 + 1 := w64 (by omega) (by omega)
      exact Exists.intro (s.1 + 1, s.2 - 366) (And.intro ⟨congrArg (Value.int .i64) e2, congrArg (Value.int .i64) e1, trivial⟩ (And.intro (by show (10000 - (s.1 + 1)).toNat < (10000 - s.1).toNat; omega) ⟨by show 1 ≤ s.1 + 1; omega, hnx.1, by show 0 ≤ s.2 - 366; omega, hnx.2, Hp.keep H3⟩))
  · have ql : leapB s.1 = false := ql
    have es : (365 : Int) = 365 + (if leapB s.1 = true then 1 else 0) := by rw [ql]; simp
    refine brd (fun hlt => ?_) (fun hge => ?_)
    · have hlt : s.2 < 365 := hlt
      have hend : offM s.1 13 = 365 := by rw [off_end]; exact es.symm
      refine loop_rule tok (σ := Int × Int) 17175674913 (fun x => [(5, .int .i64 x.1), (0, .int .i64 x.2)]) (fun x w' => 1 ≤ x.1 ∧ x.1 ≤ 12 ∧ 0 ≤ x.2 ∧ offM s.1 x.1 + x.2 = s.2 ∧ Hp ⟨w, M, I⟩ [blk r (civC 0 0 0) 212] [] w') (fun x => (13 - x.1).toNat) (1, s.2) rfl rfl ⟨rfl, rfl, trivial⟩ ⟨by show (1 : Int) ≤ 1; decide, by show (1 : Int) ≤ 12; decide, hr0, by rw [off_one]; show 0 + s.2 = s.2; omega, Hp.keep H3⟩ ?_
      intro x j2 w4 hX
      have hm1 := hX.1
      have hm2 := hX.2.1
      have hx0 := hX.2.2.1
      have hxs := hX.2.2.2.1
      have H4 := hX.2.2.2.2
      have hlp := len_pos (y := s.1) (m := x.1)
      have hos := off_succ (y := s.1) hm1 hm2
      refine call_rule H4 (fun M I _ h => refLength s.1 x.1 hy1 hy2 hm1 hm2 _ M I h) fun _ w5 _ H5 => ?_
      refine brd (fun hq2 => ?_) (fun hq2 => ?_)
      · have hq2 : lenM s.1 x.1 ≤ x.2 := hq2
        have hm : x.1 + 1 ≤ 12 := by
          rcases Int.lt_or_le 12 (x.1 + 1) with h3 | h3
          · have e13 : x.1 + 1 = 13 := by omega
            rw [e13, hend] at hos
            omega
          · exact h3
        have hx2 : x.2 ≤ 400 := by
          have := off_mono (y := s.1) (m := 1) (k := 13) (by decide) (by decide) (by decide)
          have h0 : 0 ≤ offM s.1 x.1 := by
            rcases month_cases hm1 hm2 with e | e | e | e | e | e | e | e | e | e | e | e <;> rw [e] <;> unfold offM <;> cases leapB s.1 <;> decide
          omega
        have e1 : IntKind.i64.wrap (x.2 - lenM s.1 x.1) = x.2 - lenM s.1 x.1 := w64 (by omega) (by omega)
        have e2 : IntKind.i64.wrap (x.1 + 1) = x.1 + 1 := w64 (by omega) (by omega)
        refine call_rule H5 (fun M I _ h => refLength s.1 x.1 hy1 hy2 hm1 hm2 _ M I h) fun _ w6 _ H6 => ?_
        exact Exists.intro (x.1 + 1, x.2 - lenM s.1 x.1) (And.intro ⟨congrArg (Value.int .i64) e2, congrArg (Value.int .i64) e1, trivial⟩ (And.intro (by show (13 - (x.1 + 1)).toNat < (13 - x.1).toNat; omega) ⟨by show 1 ≤ x.1 + 1; omega, hm, by show 0 ≤ x.2 - lenM s.1 x.1; omega, by show offM s.1 (x.1 + 1) + (x.2 - lenM s.1 x.1) = s.2; omega, Hp.keep H6⟩))
      · have hq2 : ¬ lenM s.1 x.1 ≤ x.2 := hq2
        have e2 : IntKind.i64.wrap (x.2 + 1) = x.2 + 1 := w64 (by omega) (by omega)
        refine store_as tok H5 (civC s.1 x.1 (IntKind.i64.wrap (x.2 + 1))) rfl rfl rfl rfl rfl fun w6 H6 => ?_
        rw [e2] at H6
        refine Exists.intro ⟨r, 0, none⟩ (Exists.intro (civV s.1 x.1 (x.2 + 1)) (And.intro rfl (And.intro (Hp.ld (T := tb) tok H6 rfl) ?_)))
        exact Exists.intro (s.1, x.1, x.2 + 1) (And.intro rfl (And.intro ⟨⟨hy1, hy2, hm1, hm2, by show 1 ≤ x.2 + 1; omega, by show x.2 + 1 ≤ lenM s.1 x.1; omega⟩, by show beg s.1 + offM s.1 x.1 + (x.2 + 1) - 1 = n; omega⟩ (Hp.keep H6)))
    · have hge : ¬ s.2 < 365 := hge
      have hnx := hstep 365 es hge
      have hbn : 0 ≤ beg (s.1 + 1) := by have := beg_mono (y := 1) (z := s.1 + 1) (by decide) (by omega); rw [beg_one] at this; exact this
      have e1 : IntKind.i64.wrap (s.2 - 365) = s.2 - 365 := w64 (by omega) (by omega)
      have e2 : IntKind.i64.wrap (s.1 + 1) = s.1 + 1 := w64 (by omega) (by omega)
      exact Exists.intro (s.1 + 1, s.2 - 365) (And.intro ⟨congrArg (Value.int .i64) e2, congrArg (Value.int .i64) e1, trivial⟩ (And.intro (by show (10000 - (s.1 + 1)).toNat < (10000 - s.1).toNat; omega) ⟨by show 1 ≤ s.1 + 1; omega, hnx.1, by show 0 ≤ s.2 - 365; omega, hnx.2, Hp.keep H3⟩))
end Go.Proofs.YtjlfjjgjghdokaaGreatDoor
