/- Products of 128 bits, their parts; a month's interest: the walks. -/
import Derived.Test.YtgbmambkgcjhfaaGreatDoorD6
set_option linter.unusedVariables false
namespace Go.Proofs.YtgbmambkgcjhfaaGreatDoor
open Go Go.Proofs Go.Wk
@[reducible] def wideV (hi lo : Nat) : Value := .agg #[.int .u64 (hi : Int), .int .u64 (lo : Int)]
@[reducible] def wideC (hi lo : Nat) : List Value := [.int .u64 (hi : Int), .int .u64 (lo : Int)]
theorem mul64 (a b : Nat) (ha : a < 18446744073709551616) (hb : b < 18446744073709551616) : CB 198 [.int .u64 a, .int .u64 b] (.tuple #[.int .u64 ((a * b / 18446744073709551616 : Nat) : Int), .int .u64 ((a * b % 18446744073709551616 : Nat) : Int)]) := fun w M I H =>
  Ctr.of_below H Tryz.call198 ((Tryz.bits_Mul64 a b ha hb w).mono fun e w' h => ⟨(), h.1, trivial, by rw [h.2]; exact Go.RowKit.Below.refl _ _⟩)
theorem wideMul (a b : Nat) (ha : a < 18446744073709551616) (hb : b < 18446744073709551616) : CB 192 [.int .u64 a, .int .u64 b] (wideV (a * b / 18446744073709551616) (a * b % 18446744073709551616)) := by
  intro w M I H
  refine Exe.of_ev tok Tryz.call192 Tryz.func192 rfl rfl rfl ?_
  refine alloc_as tok H (wideC 0 0) rfl rfl rfl fun r w1 H1 => ?_
  refine call_rule H1 (fun M I _ h => mul64 a b ha hb _ M I h) fun _ w2 _ H2 => ?_
  refine store_as tok H2 (wideC (a * b / 18446744073709551616) (a * b % 18446744073709551616)) rfl rfl rfl rfl rfl fun w3 H3 => ?_
  refine Exists.intro ⟨r, 0, none⟩ (Exists.intro (wideV (a * b / 18446744073709551616) (a * b % 18446744073709551616)) (And.intro rfl (And.intro (Hp.ld (T := tb) tok H3 rfl) ?_)))
  exact Exists.intro () (And.intro rfl (And.intro trivial (Hp.keep H3)))
theorem wideDiv (hi lo n : Nat) (h1 : hi < 18446744073709551616) (h2 : lo < 18446744073709551616) (h3 : n < 18446744073709551616) (h0 : 0 < n) : CB 193 [wideV hi lo, .int .u64 n] (.tuple #[wideV (hi / n) ((hi % n * 18446744073709551616 + lo) / n), .int .u64 (((hi % n * 18446744073709551616 + lo) % n : Nat) : Int), .nilIface]) := by
  intro w M I H
  have hq : IntKind.u64.wrap (((hi : Int)).tdiv n) = ((hi / n : Nat) : Int) := by rw [tdiv_nat]; exact u64n (Nat.lt_of_le_of_lt (Nat.div_le_self _ _) h1)
  refine Exe.of_ev tok Tryz.call193 Tryz.func193 rfl rfl rfl ?_
  refine box_as H (wideC hi lo) rfl fun b w1 H1 => ?_
  refine alloc_as tok H1 (wideC 0 0) rfl rfl rfl fun r w2 H2 => ?_
  refine br (fun q => ?_) (fun _ => ?_)
  · exfalso; have q : ((n : Int) == 0) = true := q; simp at q; omega
  refine load_rule tok H2 (v := .int .u64 (hi : Int)) rfl ?_
  refine quo_as ((hi / n : Nat) : Int) (by omega) hq ?_
  refine draw_rule (A := []) tok tdr H2 [0, 1, 2, 3, 4, 5, 6, 7, 8, 9, 10, 11, 12] [0, 1, 0, 7, 0, 16, 0, 127, 255, 511, 511, 1023, 4095] rfl ?_
  refine pass_rule _ (fun w h => load_rule tok h (v := .int .u64 (hi : Int)) rfl ⟨rfl, rfl⟩) ?_
  refine pass_rule _ (fun w h => rem_as ((hi % n : Nat) : Int) (by omega) (tmod_nat hi n) ⟨rfl, rfl⟩) ?_
  refine pass_rule _ (fun w h => load_rule tok h (v := .int .u64 (lo : Int)) rfl ⟨rfl, rfl⟩) ?_
  refine imp_rule (fun X wx h => call_rule h (fun M I _ h => div64 (hi % n) lo n (Nat.mod_lt _ h0) h2 h3 _ M I h) fun _ w1 _ H1 => imp_done H1 ?_)
  refine done_rule fun w3 H3 => ?_
  refine store_as tok H3 (wideC (hi / n) ((hi % n * 18446744073709551616 + lo) / n)) rfl rfl rfl rfl rfl fun w4 H4 => ?_
  refine Exists.intro ⟨r, 0, none⟩ (Exists.intro (wideV (hi / n) ((hi % n * 18446744073709551616 + lo) / n)) (And.intro rfl (And.intro (Hp.ld (T := tb) tok H4 rfl) ?_)))
  exact Exists.intro () (And.intro rfl (And.intro trivial (Hp.keep H4)))
theorem wideSmall (lo : Nat) : CB 194 [wideV 0 lo] (.tuple #[.int .u64 (lo : Int), .nilIface]) := by
  intro w M I H
  refine Exe.of_ev tok Tryz.call194 Tryz.func194 rfl rfl rfl ?_
  refine box_as H (wideC 0 lo) rfl fun b w1 H1 => ?_
  refine load_rule tok H1 (v := .int .u64 0) rfl ?_
  refine load_rule tok H1 (v := .int .u64 (lo : Int)) rfl ?_
  exact Exists.intro () (And.intro rfl (And.intro trivial (Hp.keep H1)))
theorem split_div {p n : Nat} (h0 : 0 < n) (h : p / n < 18446744073709551616) : p / 18446744073709551616 / n = 0 ∧ p / 18446744073709551616 % n * 18446744073709551616 + p % 18446744073709551616 = p := by
  have h1 : p / 18446744073709551616 / n = 0 := by
    rw [Nat.div_div_eq_div_mul, Nat.mul_comm, ← Nat.div_div_eq_div_mul]
    exact Nat.div_eq_of_lt h
  refine ⟨h1, ?_⟩
  have h2 := Nat.div_add_mod (p / 18446744073709551616) n
  rw [h1, Nat.mul_zero, Nat.zero_add] at h2
  rw [h2]
  have := Nat.div_add_mod p 18446744073709551616
  omega
theorem scale (a b c : Nat) (ha : a < 18446744073709551616) (hb : b < 18446744073709551616) (hc : c < 18446744073709551616) (h0 : 0 < c) (hq : a * b / c < 18446744073709551616) : CB 181 [.int .u64 a, .int .u64 b, .int .u64 c] (.tuple #[.int .u64 ((a * b / c : Nat) : Int), .int .u64 ((a * b % c : Nat) : Int), .nilIface]) := by
  intro w M I H
  obtain ⟨e1, e2⟩ := split_div (p := a * b) h0 hq
  have hhi : a * b / 18446744073709551616 < 18446744073709551616 := by
    rw [Nat.div_lt_iff_lt_mul (by decide)]
    exact Nat.mul_lt_mul'' ha hb
  have wd := wideDiv (a * b / 18446744073709551616) (a * b % 18446744073709551616) c hhi (Nat.mod_lt _ (by decide)) hc h0
  rw [e1, e2] at wd
  refine Exe.of_ev tok Tryz.call181 Tryz.func181 rfl rfl rfl ?_
  refine call_rule H (fun M I _ h => wideMul a b ha hb _ M I h) fun _ w1 _ H1 => ?_
  refine call_rule H1 (fun M I _ h => wd _ M I h) fun _ w2 _ H2 => ?_
  refine alloc_as tok H2 (wideC 0 0) rfl rfl rfl fun r w3 H3 => ?_
  refine store_as tok H3 (wideC 0 (a * b / c)) rfl rfl rfl rfl rfl fun w4 H4 => ?_
  refine load_rule tok H4 (v := wideV 0 (a * b / c)) rfl ?_
  refine call_rule H4 (fun M I _ h => wideSmall (a * b / c) _ M I h) fun _ w5 _ H5 => ?_
  exact Exists.intro () (And.intro rfl (And.intro trivial (Hp.keep H5)))
theorem up64 {q : Nat} (h : q < 18446744073709551615) : IntKind.u64.wrap ((q : Int) + 1) = ((q + 1 : Nat) : Int) := by rw [u64w]; omega
theorem sub64 {c l : Nat} (h : l < c) (hc : c < 18446744073709551616) : IntKind.u64.wrap ((c : Int) - (l : Int)) = ((c - l : Nat) : Int) := by rw [u64w]; omega
/-- To the nearest. -/
def roundN (x c : Nat) : Nat := if x % c < c - x % c then x / c else x / c + 1
theorem round_ (a b c : Nat) (ha : a < 18446744073709551616) (hb : b < 18446744073709551616) (hc : c < 18446744073709551616) (h0 : 0 < c) (hq : a * b / c < 18446744073709551615) : CB 163 [.int .u64 a, .int .u64 b, .int .u64 c] (.tuple #[.int .u64 ((roundN (a * b) c : Nat) : Int), .nilIface]) := by
  intro w M I H
  have hm := Nat.mod_lt (a * b) h0
  have ec : IntKind.u64.wrap ((c : Int) - ((a * b % c : Nat) : Int)) = ((c - a * b % c : Nat) : Int) := sub64 hm hc
  have e1 : IntKind.u64.wrap (((a * b / c : Nat) : Int) + 1) = ((a * b / c + 1 : Nat) : Int) := up64 hq
  refine Exe.of_ev tok Tryz.call163 Tryz.func163 rfl rfl rfl ?_
  refine call_rule H (fun M I _ h => scale a b c ha hb hc h0 (by omega) _ M I h) fun _ w1 _ H1 => ?_
  refine brd (fun q => ?_) (fun q => ?_)
  · rw [ec] at q
    have e : roundN (a * b) c = a * b / c := by unfold roundN; rw [if_pos (Int.ofNat_lt.1 q)]
    refine Exists.intro () (And.intro ?_ (And.intro trivial (Hp.keep H1)))
    show Value.tuple #[.int .u64 ((a * b / c : Nat) : Int), .nilIface] = _
    rw [e]
  · rw [ec] at q
    have e : roundN (a * b) c = a * b / c + 1 := by unfold roundN; rw [if_neg (fun h => q (Int.ofNat_lt.2 h))]
    refine br (fun q2 => ?_) (fun q2 => ?_)
    · exfalso
      have q2 : (IntKind.u64.wrap (((a * b / c : Nat) : Int) + 1) == 0) = true := q2
      rw [e1] at q2
      exact absurd (eq_of_beq q2) (Int.ofNat_ne_zero.2 (Nat.succ_ne_zero _))
    · refine Exists.intro () (And.intro ?_ (And.intro trivial (Hp.keep H1)))
      show Value.tuple #[.int .u64 (IntKind.u64.wrap (((a * b / c : Nat) : Int) + 1)), .nilIface] = _
      rw [e1, e]
def yearS (b : Int) : Int := if b = 1 then 365 else if b = 2 then 360 else 0
theorem year (b : Int) : CB 122 [.int .u8 b] (.int .i64 (yearS b)) := by
  intro w M I H
  refine Exe.of_ev tok Tryz.call122 Tryz.func122 rfl rfl rfl ?_
  refine br (fun q => ?_) (fun q => ?_)
  · have q : b = 1 := by have q : (b == 1) = true := q; simpa using q
    exact Exists.intro () (And.intro (congrArg (Value.int .i64) (by unfold yearS; rw [if_pos q])) (And.intro trivial H))
  have q1 : b ≠ 1 := by have q : (b == 1) = false := q; simpa using q
  refine br (fun q => ?_) (fun q => ?_)
  · have q : b = 2 := by have q : (b == 2) = true := q; simpa using q
    exact Exists.intro () (And.intro (congrArg (Value.int .i64) (by unfold yearS; rw [if_neg q1, if_pos q])) (And.intro trivial H))
  · have q : b ≠ 2 := by have q : (b == 2) = false := q; simpa using q
    exact Exists.intro () (And.intro (congrArg (Value.int .i64) (by unfold yearS; rw [if_neg q1, if_neg q])) (And.intro trivial H))
def rateB (parts b : Int) : Bool := decide (parts ≤ 1000000) && decide (0 < yearS b)
@[reducible] def rateV (parts b : Int) : Value := .agg #[.int .u32 parts, .int .u8 b]
@[reducible] def rateC (parts b : Int) : List Value := [.int .u32 parts, .int .u8 b]
theorem rateRight (parts b : Int) : CB 72 [rateV parts b] (.bool (rateB parts b)) := by
  intro w M I H
  refine Exe.of_ev tok Tryz.call72 Tryz.func72 rfl rfl rfl ?_
  refine box_as H (rateC parts b) rfl fun r w1 H1 => ?_
  refine load_rule tok H1 (v := .int .u32 parts) rfl ?_
  refine brd (fun q => ?_) (fun q => ?_)
  · refine load_rule tok H1 (v := .int .u8 b) rfl ?_
    refine call_rule H1 (fun M I _ h => year b _ M I h) fun _ w2 _ H2 => ?_
    refine Exists.intro () (And.intro (congrArg Value.bool ?_) (And.intro trivial (Hp.keep H2)))
    show decide (0 < yearS b) = rateB parts b
    simp [rateB, q]
  · refine Exists.intro () (And.intro (congrArg Value.bool ?_) (And.intro trivial (Hp.keep H1)))
    show false = rateB parts b
    simp [rateB, q]
def coinB (c : Int) : Bool := decide (0 ≤ c) && decide (c ≤ 1000000000000)
theorem coinRight (c : Int) : CB 92 [.int .i64 c] (.bool (coinB c)) := by
  intro w M I H
  refine Exe.of_ev tok Tryz.call92 Tryz.func92 rfl rfl rfl ?_
  refine brd (fun q => ?_) (fun q => ?_)
  · refine Exists.intro () (And.intro (congrArg Value.bool ?_) (And.intro trivial H))
    show decide (c ≤ 1000000000000) = coinB c
    simp [coinB, q]
  · refine Exists.intro () (And.intro (congrArg Value.bool ?_) (And.intro trivial H))
    show false = coinB c
    simp [coinB, q]
/-- A month's interest. -/
def monN (parts p : Nat) : Nat := roundN (p * (parts * 30)) 360000000
theorem monN_le {parts p : Nat} (h1 : parts ≤ 1000000) : 12 * monN parts p ≤ p + 12 := by
  have h2 : p * (parts * 30) ≤ p * 30000000 := Nat.mul_le_mul_left _ (by omega)
  have h3 : p * (parts * 30) / 360000000 ≤ p * 30000000 / 360000000 := Nat.div_le_div_right h2
  have h4 : p * 30000000 / 360000000 ≤ p / 12 := by omega
  unfold monN roundN
  split <;> omega
theorem monNo (parts b c : Int) (h : rateB parts b = false ∨ coinB c = false) : CB 117 [rateV parts b, .int .i64 c] (.tuple #[.int .i64 0, .iface 55 (.int .i64 1)]) := by
  intro w M I H
  refine Exe.of_ev tok Tryz.call117 Tryz.func117 rfl rfl rfl ?_
  refine box_as H (rateC parts b) rfl fun r w1 H1 => ?_
  refine load_rule tok H1 (v := rateV parts b) rfl ?_
  refine call_rule H1 (fun M I _ h => rateRight parts b _ M I h) fun _ w2 _ H2 => ?_
  refine br (fun q => ?_) (fun q => ?_)
  · exact Exists.intro () (And.intro rfl (And.intro trivial (Hp.keep H2)))
  · have q : rateB parts b = true := by have q : (!rateB parts b) = false := q; simpa using q
    have hc : coinB c = false := h.resolve_left (by rw [q]; simp)
    refine call_rule H2 (fun M I _ h => hc ▸ coinRight c _ M I h) fun _ w3 _ H3 => ?_
    exact Exists.intro () (And.intro rfl (And.intro trivial (Hp.keep H3)))
theorem month_ (parts p : Nat) (b : Int) (hr : rateB parts b = true) (hp : p ≤ 1000000000000) : CB 117 [rateV parts b, .int .i64 p] (.tuple #[.int .i64 ((monN parts p : Nat) : Int), .nilIface]) := by
  intro w M I H
  have hparts : parts ≤ 1000000 := by simp only [rateB, Bool.and_eq_true, decide_eq_true_eq] at hr; omega
  have hcb : coinB (p : Int) = true := by simp only [coinB, Bool.and_eq_true, decide_eq_true_eq]; omega
  have e1 : IntKind.u64.wrap (p : Int) = (p : Int) := u64n (by omega)
  have e2 : IntKind.u64.wrap (IntKind.u64.wrap (parts : Int) * 30) = ((parts * 30 : Nat) : Int) := by rw [u64w, u64w]; omega
  have h2 : p * (parts * 30) ≤ 1000000000000 * 30000000 := Nat.mul_le_mul hp (by omega)
  have h3 : p * (parts * 30) / 360000000 < 18446744073709551615 := Nat.lt_of_le_of_lt (Nat.div_le_div_right h2) (by decide)
  have hmn := monN_le (p := p) hparts
  have e3 : IntKind.i64.wrap ((monN parts p : Nat) : Int) = ((monN parts p : Nat) : Int) := i64w (by omega) (by omega)
  have rd := round_ p (parts * 30) 360000000 (by omega) (by omega) (by decide) (by decide) h3
  refine Exe.of_ev tok Tryz.call117 Tryz.func117 rfl rfl rfl ?_
  refine box_as H (rateC parts b) rfl fun r w1 H1 => ?_
  refine load_rule tok H1 (v := rateV parts b) rfl ?_
  refine call_rule H1 (fun M I _ h => hr ▸ rateRight parts b _ M I h) fun _ w2 _ H2 => ?_
  refine call_rule H2 (fun M I _ h => hcb ▸ coinRight (p : Int) _ M I h) fun _ w3 _ H3 => ?_
  refine draw_rule (A := []) tok tdr H3 [6, 0, 1, 2, 3, 4, 5, 7, 8, 9, 10, 11, 12, 13, 14] [0, 1, 0, 4, 12, 28, 0, 64, 192, 511, 1023, 2047, 2047, 4095, 16383] rfl ?_
  refine imp_rule (fun X wx h => call_rule h (fun M I _ h => year 2 _ M I h) fun _ w1 _ H1 => imp_done H1 ?_)
  refine pass_rule _ (fun w h => load_rule tok h (v := .int .u32 (parts : Int)) rfl ⟨rfl, rfl⟩) ?_
  refine imp_rule (fun X wx h => call_rule h (fun M I _ h => e1.symm ▸ e2.symm ▸ rd _ M I h) fun _ w1 _ H1 => imp_done H1 ?_)
  refine done_rule fun w4 H4 => ?_
  refine Exists.intro () (And.intro ?_ (And.intro trivial (Hp.keep H4)))
  show Value.tuple #[.int .i64 (IntKind.i64.wrap ((monN parts p : Nat) : Int)), .nilIface] = _
  rw [e3]
end Go.Proofs.YtgbmambkgcjhfaaGreatDoor
