/- A month with a payment, the least payment: the walks. -/
import Derived.Test.YtgbmambkgcjhfaaGreatDoorD7
set_option linter.unusedVariables false
namespace Go.Proofs.YtgbmambkgcjhfaaGreatDoor
open Go Go.Proofs Go.Wk
def lvName (k : Int) : ByteArray := if k = 1 then ⟨#[108, 101, 118, 101, 108]⟩ else if k = 2 then ⟨#[111, 110, 108, 121]⟩ else ⟨#[]⟩
theorem levelName (k : Int) : CB 71 [.int .u8 k] (.string (lvName k)) := by
  intro w M I H
  refine Exe.of_ev tok Tryz.call71 Tryz.func71 rfl rfl rfl ?_
  refine br (fun q => ?_) (fun q => ?_)
  · have q : k = 1 := by have q : (k == 1) = true := q; simpa using q
    exact Exists.intro () (And.intro (congrArg Value.string (by unfold lvName; rw [if_pos q])) (And.intro trivial H))
  have q1 : k ≠ 1 := by have q : (k == 1) = false := q; simpa using q
  refine br (fun q => ?_) (fun q => ?_)
  · have q : k = 2 := by have q : (k == 2) = true := q; simpa using q
    exact Exists.intro () (And.intro (congrArg Value.string (by unfold lvName; rw [if_neg q1, if_pos q])) (And.intro trivial H))
  · have q : k ≠ 2 := by have q : (k == 2) = false := q; simpa using q
    exact Exists.intro () (And.intro (congrArg Value.string (by unfold lvName; rw [if_neg q1, if_neg q])) (And.intro trivial H))
def lvRight (p parts b n : Int) : Bool := rateB parts b && (decide (1 ≤ p) && (coinB p && (decide (1 ≤ n) && decide (n ≤ 480))))
theorem levelRight (p parts b n : Int) : CB 161 [.int .i64 p, rateV parts b, .int .i64 n] (.bool (lvRight p parts b n)) := by
  intro w M I H
  refine Exe.of_ev tok Tryz.call161 Tryz.func161 rfl rfl rfl ?_
  refine box_as H (rateC parts b) rfl fun r w1 H1 => ?_
  refine load_rule tok H1 (v := rateV parts b) rfl ?_
  refine call_rule H1 (fun M I _ h => rateRight parts b _ M I h) fun _ w2 _ H2 => ?_
  refine br (fun q1 => ?_) (fun q1 => ?_)
  · have q1 : rateB parts b = true := q1
    refine brd (fun q2 => ?_) (fun q2 => ?_)
    · refine call_rule H2 (fun M I _ h => coinRight p _ M I h) fun _ w3 _ H3 => ?_
      refine br (fun q3 => ?_) (fun q3 => ?_)
      · have q3 : coinB p = true := q3
        refine brd (fun q4 => ?_) (fun q4 => ?_)
        · exact Exists.intro () (And.intro (congrArg Value.bool (by unfold lvRight; rw [q1, q3, decide_eq_true q2, decide_eq_true q4]; rfl)) (And.intro trivial (Hp.keep H3)))
        · exact Exists.intro () (And.intro (congrArg Value.bool (by unfold lvRight; rw [decide_eq_false q4]; simp)) (And.intro trivial (Hp.keep H3)))
      · have q3 : coinB p = false := q3
        exact Exists.intro () (And.intro (congrArg Value.bool (by unfold lvRight; rw [q3]; simp)) (And.intro trivial (Hp.keep H3)))
    · exact Exists.intro () (And.intro (congrArg Value.bool (by unfold lvRight; rw [decide_eq_false q2]; simp)) (And.intro trivial (Hp.keep H2)))
  · have q1 : rateB parts b = false := q1
    exact Exists.intro () (And.intro (congrArg Value.bool (by unfold lvRight; rw [q1]; simp)) (And.intro trivial (Hp.keep H2)))
/-- A month's interest of what is left. -/
def iM (parts left : Int) : Int := ((monN parts.toNat left.toNat : Nat) : Int)
theorem iM_bd {parts b left : Int} (hr : rateB parts b = true) (h0 : 0 ≤ parts) (hl : 0 ≤ left) (hl2 : left ≤ 1000000000000) : 0 ≤ iM parts left ∧ 12 * iM parts left ≤ left + 12 := by
  have hp : parts ≤ 1000000 := by simp only [rateB, Bool.and_eq_true, decide_eq_true_eq] at hr; omega
  have := monN_le (parts := parts.toNat) (p := left.toNat) (by omega)
  unfold iM; omega
theorem month0 (parts b left : Int) (hr : rateB parts b = true) (h0 : 0 ≤ parts) (hl : 0 ≤ left) (hl2 : left ≤ 1000000000000) : CB 117 [rateV parts b, .int .i64 left] (.tuple #[.int .i64 (iM parts left), .nilIface]) := by
  have e1 : ((parts.toNat : Nat) : Int) = parts := Int.toNat_of_nonneg h0
  have e2 : ((left.toNat : Nat) : Int) = left := Int.toNat_of_nonneg hl
  have := month_ parts.toNat left.toNat b (by rw [e1]; exact hr) (by omega)
  rw [e1, e2] at this
  exact this
/-- A month: interest, principal, what is left. -/
def mon3 (parts left pay : Int) (all : Bool) : Int × Int × Int :=
  if all = true ∨ left + iM parts left < pay then (iM parts left, left + iM parts left - iM parts left, left + iM parts left - (left + iM parts left)) else (iM parts left, pay - iM parts left, left + iM parts left - pay)
@[reducible] def row3V (a : Int × Int × Int) : Value := .agg #[.int .i64 a.1, .int .i64 a.2.1, .int .i64 a.2.2]
@[reducible] def row3C (a : Int × Int × Int) : List Value := [.int .i64 a.1, .int .i64 a.2.1, .int .i64 a.2.2]
set_option maxHeartbeats 1000000 in
theorem month3 (parts b left pay : Int) (all : Bool) (hr : rateB parts b = true) (h0 : 0 ≤ parts) (hl : 0 ≤ left) (hl2 : left ≤ 1000000000000) (hp : 0 ≤ pay) (hp2 : pay ≤ 2000000000000) :
    CB 118 [.int .i64 left, rateV parts b, .int .i64 pay, .bool all] (row3V (mon3 parts left pay all)) := by
  intro w M I H
  have hb := iM_bd hr h0 hl hl2
  have eo : IntKind.i64.wrap (left + iM parts left) = left + iM parts left := i64w (by omega) (by omega)
  have e1 : IntKind.i64.wrap (left + iM parts left - iM parts left) = left + iM parts left - iM parts left := i64w (by omega) (by omega)
  have e2 : IntKind.i64.wrap (left + iM parts left - (left + iM parts left)) = left + iM parts left - (left + iM parts left) := i64w (by omega) (by omega)
  have e3 : IntKind.i64.wrap (pay - iM parts left) = pay - iM parts left := i64w (by omega) (by omega)
  have e4 : IntKind.i64.wrap (left + iM parts left - pay) = left + iM parts left - pay := i64w (by omega) (by omega)
  refine Exe.of_ev tok Tryz.call118 Tryz.func118 rfl rfl rfl ?_
  refine box_as H (rateC parts b) rfl fun r w1 H1 => ?_
  refine alloc_as tok H1 (row3C (0, 0, 0)) rfl rfl rfl fun o w2 H2 => ?_
  refine load_rule tok H2 (v := rateV parts b) rfl ?_
  refine call_rule H2 (fun M I _ h => month0 parts b left hr h0 hl hl2 _ M I h) fun _ w3 _ H3 => ?_
  refine br (fun q => ?_) (fun q => ?_)
  · have q : all = true := q
    have em : mon3 parts left pay all = (iM parts left, left + iM parts left - iM parts left, left + iM parts left - (left + iM parts left)) := by unfold mon3; rw [if_pos (.inl q)]
    refine store_as tok H3 [.int .i64 (iM parts left), .int .i64 (IntKind.i64.wrap (IntKind.i64.wrap (left + iM parts left) - iM parts left)), .int .i64 (IntKind.i64.wrap (IntKind.i64.wrap (left + iM parts left) - IntKind.i64.wrap (left + iM parts left)))] rfl rfl rfl rfl rfl fun w4 H4 => ?_
    rw [eo, e1, e2] at H4
    refine Exists.intro ⟨o, 0, none⟩ (Exists.intro (row3V (iM parts left, left + iM parts left - iM parts left, left + iM parts left - (left + iM parts left))) (And.intro rfl (And.intro (Hp.ld (T := tb) tok H4 rfl) ?_)))
    exact Exists.intro () (And.intro (by rw [em]) (And.intro trivial (Hp.keep H4)))
  have q : all = false := q
  refine brd (fun q2 => ?_) (fun q2 => ?_)
  · rw [eo] at q2
    have em : mon3 parts left pay all = (iM parts left, left + iM parts left - iM parts left, left + iM parts left - (left + iM parts left)) := by unfold mon3; rw [if_pos (.inr q2)]
    refine store_as tok H3 [.int .i64 (iM parts left), .int .i64 (IntKind.i64.wrap (IntKind.i64.wrap (left + iM parts left) - iM parts left)), .int .i64 (IntKind.i64.wrap (IntKind.i64.wrap (left + iM parts left) - IntKind.i64.wrap (left + iM parts left)))] rfl rfl rfl rfl rfl fun w4 H4 => ?_
    rw [eo, e1, e2] at H4
    refine Exists.intro ⟨o, 0, none⟩ (Exists.intro (row3V (iM parts left, left + iM parts left - iM parts left, left + iM parts left - (left + iM parts left))) (And.intro rfl (And.intro (Hp.ld (T := tb) tok H4 rfl) ?_)))
    exact Exists.intro () (And.intro (by rw [em]) (And.intro trivial (Hp.keep H4)))
  · rw [eo] at q2
    have em : mon3 parts left pay all = (iM parts left, pay - iM parts left, left + iM parts left - pay) := by unfold mon3; rw [if_neg (by rw [q]; simp; omega)]
    refine store_as tok H3 [.int .i64 (iM parts left), .int .i64 (IntKind.i64.wrap (pay - iM parts left)), .int .i64 (IntKind.i64.wrap (IntKind.i64.wrap (left + iM parts left) - pay))] rfl rfl rfl rfl rfl fun w4 H4 => ?_
    rw [eo, e3, e4] at H4
    refine Exists.intro ⟨o, 0, none⟩ (Exists.intro (row3V (iM parts left, pay - iM parts left, left + iM parts left - pay)) (And.intro rfl (And.intro (Hp.ld (T := tb) tok H4 rfl) ?_)))
    exact Exists.intro () (And.intro (by rw [em]) (And.intro trivial (Hp.keep H4)))
theorem mon3_left {parts b left pay : Int} (hr : rateB parts b = true) (h0 : 0 ≤ parts) (hl : 0 ≤ left) (hl2 : left ≤ 1000000000000) (all : Bool) : 0 ≤ (mon3 parts left pay all).2.2 := by
  have := iM_bd hr h0 hl hl2
  unfold mon3
  split
  · show 0 ≤ left + iM parts left - (left + iM parts left); omega
  · rename_i h
    show 0 ≤ left + iM parts left - pay
    have : ¬ left + iM parts left < pay := fun e => h (.inr e)
    omega
/-- Does a payment leave nothing? -/
def enGo (parts pay : Int) : Nat → Int → Bool
  | 0, left => left == 0
  | k + 1, left => if left = 0 then true else if left ≤ (mon3 parts left pay false).2.2 then false else enGo parts pay k (mon3 parts left pay false).2.2
theorem enough (p parts b pay : Int) (n : Nat) (hn : n ≤ 1000) (hr : rateB parts b = true) (h0 : 0 ≤ parts) (hl : 0 ≤ p) (hl2 : p ≤ 1000000000000) (hp : 0 ≤ pay) (hp2 : pay ≤ 2000000000000) :
    CB 162 [.int .i64 p, rateV parts b, .int .i64 n, .int .i64 pay] (.bool (enGo parts pay n p)) := by
  intro w M I H
  refine Exe.of_ev tok Tryz.call162 Tryz.func162 rfl rfl rfl ?_
  refine box_as H (rateC parts b) rfl fun r w1 H1 => ?_
  refine loop_rule tok (σ := Nat × Int) 268429056 (fun s => [(9, .int .i64 s.2), (13, .int .i64 (s.1 : Int))]) (fun s w' => s.1 ≤ n ∧ 0 ≤ s.2 ∧ s.2 ≤ 1000000000000 ∧ enGo parts pay n p = enGo parts pay (n - s.1) s.2 ∧ Hp ⟨w, M, I⟩ [blk r (rateC parts b) 25] [] w') (fun s => n - s.1) (0, p) rfl rfl ⟨rfl, rfl, trivial⟩ ⟨Nat.zero_le _, hl, hl2, rfl, H1⟩ ?_
  intro s j w2 hW
  have hi := hW.1
  have hs0 := hW.2.1
  have hs1 := hW.2.2.1
  have hg := hW.2.2.2.1
  have H2 := hW.2.2.2.2
  refine brd (fun hlt => ?_) (fun hge => ?_)
  · have ew : IntKind.i64.wrap ((s.1 : Int) + 1) = ((s.1 + 1 : Nat) : Int) := i64w (by omega) (by omega)
    have ek : n - s.1 = (n - (s.1 + 1)) + 1 := by omega
    rw [ek, enGo] at hg
    refine load_rule tok H2 (v := rateV parts b) rfl ?_
    refine call_rule H2 (fun M I _ h => month3 parts b s.2 pay false hr h0 hs0 hs1 hp hp2 _ M I h) fun _ w3 _ H3 => ?_
    refine alloc_as tok H3 (row3C (0, 0, 0)) rfl rfl rfl fun o w4 H4 => ?_
    refine store_as tok H4 (row3C (mon3 parts s.2 pay false)) rfl rfl rfl rfl rfl fun w5 H5 => ?_
    refine br (fun q => ?_) (fun q => ?_)
    · have q : s.2 = 0 := by have q : (s.2 == 0) = true := q; simpa using q
      rw [if_pos q] at hg
      refine Exists.intro () (And.intro (congrArg Value.bool ?_) (And.intro trivial (Hp.keep H5)))
      show (s.2 == 0) = _
      rw [hg, q]; rfl
    have q : ¬ s.2 = 0 := by have q : (s.2 == 0) = false := q; simpa using q
    rw [if_neg q] at hg
    refine load_rule tok H5 (v := .int .i64 (mon3 parts s.2 pay false).2.2) rfl ?_
    refine brd (fun q2 => ?_) (fun q2 => ?_)
    · rw [if_pos q2] at hg
      exact Exists.intro () (And.intro (congrArg Value.bool hg.symm) (And.intro trivial (Hp.keep H5)))
    · rw [if_neg q2] at hg
      have hm := mon3_left (pay := pay) hr h0 hs0 hs1 false
      refine load_rule tok H5 (v := .int .i64 (mon3 parts s.2 pay false).2.2) rfl ?_
      exact Exists.intro (s.1 + 1, (mon3 parts s.2 pay false).2.2) (And.intro ⟨rfl, congrArg (Value.int .i64) ew, trivial⟩ (And.intro (by show n - (s.1 + 1) < n - s.1; omega) ⟨by show s.1 + 1 ≤ n; omega, hm, by show (mon3 parts s.2 pay false).2.2 ≤ 1000000000000; omega, hg, Hp.keep H5⟩))
  · have ek : n - s.1 = 0 := by omega
    rw [ek, enGo] at hg
    exact Exists.intro () (And.intro (congrArg Value.bool hg.symm) (And.intro trivial (Hp.keep H2)))
/-- The least that serves, by halves. -/
def bsGo (f : Int → Bool) : Nat → Int → Int → Int
  | 0, lo, _ => lo
  | k + 1, lo, hi => if lo < hi then (if f (lo + (hi - lo) / 2) = true then bsGo f k lo (lo + (hi - lo) / 2) else bsGo f k (lo + (hi - lo) / 2 + 1) hi) else lo
def payV (p parts : Int) (n : Nat) : Int := bsGo (fun m => enGo parts m n p) (p + iM parts p).toNat 1 (p + iM parts p)
theorem paymentNo (p parts b n : Int) (h : lvRight p parts b n = false) : CB 116 [.int .i64 p, rateV parts b, .int .i64 n] (.tuple #[.int .i64 0, .iface 55 (.int .i64 1)]) := by
  intro w M I H
  refine Exe.of_ev tok Tryz.call116 Tryz.func116 rfl rfl rfl ?_
  refine box_as H (rateC parts b) rfl fun r w1 H1 => ?_
  refine load_rule tok H1 (v := rateV parts b) rfl ?_
  refine call_rule H1 (fun M I _ hh => h ▸ levelRight p parts b n _ M I hh) fun _ w2 _ H2 => ?_
  exact Exists.intro () (And.intro rfl (And.intro trivial (Hp.keep H2)))
theorem payment (p parts b : Int) (n : Nat) (h : lvRight p parts b n = true) (h0 : 0 ≤ parts) : CB 116 [.int .i64 p, rateV parts b, .int .i64 n] (.tuple #[.int .i64 (payV p parts n), .nilIface]) := by
  intro w M I H
  have hh := h
  simp only [lvRight, Bool.and_eq_true, decide_eq_true_eq, coinB] at hh
  obtain ⟨hr, h1, ⟨_, h2⟩, h3, h4⟩ := hh
  have hb := iM_bd hr h0 (by omega) h2
  have eo : IntKind.i64.wrap (p + iM parts p) = p + iM parts p := i64w (by omega) (by omega)
  refine Exe.of_ev tok Tryz.call116 Tryz.func116 rfl rfl rfl ?_
  refine box_as H (rateC parts b) rfl fun r w1 H1 => ?_
  refine load_rule tok H1 (v := rateV parts b) rfl ?_
  refine call_rule H1 (fun M I _ hh => h ▸ levelRight p parts b n _ M I hh) fun _ w2 _ H2 => ?_
  refine load_rule tok H2 (v := rateV parts b) rfl ?_
  refine call_rule H2 (fun M I _ hh => month0 parts b p hr h0 (by omega) h2 _ M I hh) fun _ w3 _ H3 => ?_
  refine loop_rule tok (σ := Int × Int × Nat) 35184103660544 (fun s => [(10, .int .i64 s.1), (11, .int .i64 s.2.1)])
    (fun s w' => 1 ≤ s.1 ∧ s.2.1 ≤ 1100000000000 ∧ s.1 ≤ 1100000000001 ∧ s.2.1 - s.1 ≤ s.2.2 ∧ payV p parts n = bsGo (fun m => enGo parts m n p) s.2.2 s.1 s.2.1 ∧ Hp ⟨w, M, I⟩ [blk r (rateC parts b) 25] [] w') (fun s => s.2.2) (1, p + iM parts p, (p + iM parts p).toNat) rfl rfl ⟨rfl, congrArg (Value.int .i64) eo, trivial⟩
    ⟨by show (1 : Int) ≤ 1; omega, by show p + iM parts p ≤ 1100000000000; omega, by show (1 : Int) ≤ 1100000000001; omega, by show p + iM parts p - 1 ≤ ((p + iM parts p).toNat : Int); omega, rfl, Hp.keep H3⟩ ?_
  intro s j w4 hW
  have hs1 := hW.1
  have hs2 := hW.2.1
  have hs3 := hW.2.2.1
  have hs4 := hW.2.2.2.1
  have hg := hW.2.2.2.2.1
  have H4 := hW.2.2.2.2.2
  refine brd (fun hlt => ?_) (fun hge => ?_)
  · have ed : IntKind.i64.wrap (s.2.1 - s.1) = s.2.1 - s.1 := i64w (by omega) (by omega)
    have eq : IntKind.i64.wrap ((IntKind.i64.wrap (s.2.1 - s.1)).tdiv 2) = (s.2.1 - s.1) / 2 := by rw [ed, Int.tdiv_eq_ediv_of_nonneg (by omega)]; exact i64w (by omega) (by omega)
    have em : IntKind.i64.wrap (s.1 + (s.2.1 - s.1) / 2) = s.1 + (s.2.1 - s.1) / 2 := i64w (by omega) (by omega)
    have em1 : IntKind.i64.wrap (s.1 + (s.2.1 - s.1) / 2 + 1) = s.1 + (s.2.1 - s.1) / 2 + 1 := i64w (by omega) (by omega)
    have ek : s.2.2 = (s.2.2 - 1) + 1 := by omega
    rw [ek, bsGo, if_pos hlt] at hg
    refine quo_as ((s.2.1 - s.1) / 2) (by decide) eq ?_
    refine load_rule tok H4 (v := rateV parts b) rfl ?_
    refine call_rule H4 (fun M I _ hh => em.symm ▸ enough p parts b (s.1 + (s.2.1 - s.1) / 2) n (by omega) hr h0 (by omega) h2 (by omega) (by omega) _ M I hh) fun _ w5 _ H5 => ?_
    refine br (fun q => ?_) (fun q => ?_)
    · rw [em] at q
      rw [if_pos q] at hg
      exact Exists.intro (s.1, s.1 + (s.2.1 - s.1) / 2, s.2.2 - 1) (And.intro ⟨rfl, congrArg (Value.int .i64) em, trivial⟩ (And.intro (by show s.2.2 - 1 < s.2.2; omega) ⟨hs1, by show s.1 + (s.2.1 - s.1) / 2 ≤ 1100000000000; omega, hs3, by show s.1 + (s.2.1 - s.1) / 2 - s.1 ≤ ((s.2.2 - 1 : Nat) : Int); omega, hg, Hp.keep H5⟩))
    · rw [em] at q
      rw [if_neg (by rw [q]; simp)] at hg
      exact Exists.intro (s.1 + (s.2.1 - s.1) / 2 + 1, s.2.1, s.2.2 - 1) (And.intro ⟨congrArg (Value.int .i64) ((congrArg (fun x => IntKind.i64.wrap (x + 1)) em).trans em1), rfl, trivial⟩ (And.intro (by show s.2.2 - 1 < s.2.2; omega) ⟨by show 1 ≤ s.1 + (s.2.1 - s.1) / 2 + 1; omega, hs2, by show s.1 + (s.2.1 - s.1) / 2 + 1 ≤ 1100000000001; omega, by show s.2.1 - (s.1 + (s.2.1 - s.1) / 2 + 1) ≤ ((s.2.2 - 1 : Nat) : Int); omega, hg, Hp.keep H5⟩))
  · have e : payV p parts n = s.1 := by
      rw [hg]
      cases s.2.2 with
      | zero => rfl
      | succ k => rw [bsGo, if_neg hge]
    refine Exists.intro () (And.intro ?_ (And.intro trivial (Hp.keep H4)))
    show Value.tuple #[.int .i64 s.1, .nilIface] = _
    rw [e]
end Go.Proofs.YtgbmambkgcjhfaaGreatDoor
