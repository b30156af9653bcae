/- A day's interest, and what is carried on: the walks of yield.Unit, Days, Day. -/
import Derived.Test.YtjlfjjgjghdokaaGreatDoorE2
set_option linter.unusedVariables false
namespace Go.Proofs.YtjlfjjgjghdokaaGreatDoor
open Go Go.Proofs Go.Wk
def unitN (b : Int) : Nat := if b = 2 then 360000000 else 365000000
theorem unit_bd (b : Int) : 360000000 ≤ unitN b ∧ unitN b ≤ 365000000 := by unfold unitN; split <;> omega
theorem rate_basis {parts b : Int} (h : rateB parts b = true) : b = 1 ∨ b = 2 := by
  simp only [rateB, Bool.and_eq_true, decide_eq_true_eq] at h
  have h := h.2
  unfold yearS at h
  split at h
  · exact .inl (by assumption)
  · split at h
    · exact .inr (by assumption)
    · omega
theorem rate_parts {parts b : Int} (h : rateB parts b = true) : parts ≤ 1000000 := by
  simp only [rateB, Bool.and_eq_true, decide_eq_true_eq] at h
  exact h.1
theorem unit_year {b : Int} (hb : b = 1 ∨ b = 2) : IntKind.u64.wrap (1000000 * IntKind.u64.wrap (yearS b)) = ((unitN b : Nat) : Int) := by
  rcases hb with rfl | rfl <;> rfl
theorem unit_ (parts b : Int) (hr : rateB parts b = true) : CB 218 [rateV parts b] (.int .u64 ((unitN b : Nat) : Int)) := by
  intro w M I H
  have e := unit_year (rate_basis hr)
  refine Exe.of_ev tok Tryz.call218 Tryz.func218 rfl rfl rfl ?_
  refine box_as H (rateC parts b) rfl fun r w1 H1 => ?_
  refine load_rule tok H1 (v := rateV parts b) rfl ?_
  refine call_rule H1 (fun M I _ h => hr ▸ rateRight parts b _ M I h) fun _ w2 _ H2 => ?_
  refine load_rule tok H2 (v := .int .u8 b) rfl ?_
  refine call_rule H2 (fun M I _ h => year b _ M I h) fun _ w3 _ H3 => ?_
  refine Exists.intro () (And.intro (congrArg (Value.int .u64) ?_) (And.intro trivial (Hp.keep H3)))
  exact e
def dayX (parts p days c : Nat) : Nat := p * (parts * days) + c
theorem dayX_bd {parts p days c : Nat} (h1 : parts ≤ 1000000) (h2 : p ≤ 1000000000000) (h3 : days ≤ 100000) (h4 : c ≤ 365000000) : dayX parts p days c ≤ 100000000000000000365000000 := by
  have a := Nat.mul_le_mul h1 h3
  have b := Nat.mul_le_mul h2 a
  unfold dayX; omega
theorem dayX_q {parts p days c U : Nat} (h : dayX parts p days c ≤ 100000000000000000365000000) (hU : 360000000 ≤ U) : dayX parts p days c / U ≤ 300000000000000000 := by
  refine Nat.le_trans (Nat.div_le_div_left hU (by decide)) ?_
  refine Nat.le_trans (Nat.div_le_div_right h) ?_
  decide
theorem i64nat {q : Nat} (h : q ≤ 300000000000000000) : IntKind.i64.wrap (q : Int) = (q : Int) := i64w (by omega) (by omega)
theorem days_ (parts b : Int) (pN p days c : Nat) (hpp : parts = (pN : Int)) (hr : rateB parts b = true) (hp : p ≤ 1000000000000) (hd : days ≤ 100000) (hc : c < unitN b) :
    CB 163 [rateV parts b, .int .i64 p, .int .i64 days, .int .u64 c] (.tuple #[.int .i64 ((dayX pN p days c / unitN b : Nat) : Int), .int .u64 ((dayX pN p days c % unitN b : Nat) : Int), .nilIface]) := by
  intro w M I H
  have hU := unit_bd b
  have hparts : pN ≤ 1000000 := by have := rate_parts hr; omega
  have hcb : coinB (p : Int) = true := by simp only [coinB, Bool.and_eq_true, decide_eq_true_eq]; omega
  have hX := dayX_bd hparts hp hd (c := c) (by omega)
  have hq := dayX_q hX hU.1
  have hm : pN * days ≤ 1000000 * 100000 := Nat.mul_le_mul hparts hd
  have hm2 : p * (pN * days) ≤ 1000000000000 * (1000000 * 100000) := Nat.mul_le_mul hp hm
  have e1 : IntKind.u64.wrap (p : Int) = ((p : Nat) : Int) := u64n (by omega)
  have e2 : IntKind.u64.wrap (IntKind.u64.wrap parts * IntKind.u64.wrap (days : Int)) = ((pN * days : Nat) : Int) := by
    rw [hpp, u64n (x := pN) (by omega), u64n (x := days) (by omega), ← Int.natCast_mul, u64n (by omega)]
  have wm := wideMul p (pN * days) (by omega) (by omega)
  have hhi : p * (pN * days) / 18446744073709551616 < 9223372036854775808 := by
    refine Nat.lt_of_le_of_lt (Nat.div_le_div_right hm2) (by decide)
  have wa := wideAdd (p * (pN * days) / 18446744073709551616) (p * (pN * days) % 18446744073709551616) c hhi (Nat.mod_lt _ (by decide)) (by omega)
  have a1 : p * (pN * days) / 18446744073709551616 + (p * (pN * days) % 18446744073709551616 + c) / 18446744073709551616 = dayX pN p days c / 18446744073709551616 := by unfold dayX; omega
  have a2 : (p * (pN * days) % 18446744073709551616 + c) % 18446744073709551616 = dayX pN p days c % 18446744073709551616 := by unfold dayX; omega
  rw [a1, a2] at wa
  have hs := split_div (p := dayX pN p days c) (n := unitN b) (by omega) (by omega)
  have hXhi : dayX pN p days c / 18446744073709551616 < 18446744073709551616 := Nat.lt_of_le_of_lt (Nat.div_le_div_right hX) (by decide)
  have wd := wideDiv (dayX pN p days c / 18446744073709551616) (dayX pN p days c % 18446744073709551616) (unitN b) hXhi (Nat.mod_lt _ (by decide)) (by omega) (by omega)
  rw [hs.1, hs.2] at wd
  have e3 : IntKind.i64.wrap ((dayX pN p days c / unitN b : Nat) : Int) = ((dayX pN p days c / unitN b : Nat) : Int) := i64nat hq
  have hd2 : ¬ ((100000 : Int) < (days : Int)) := by omega
  have hc1 : ¬ (((unitN b : Nat) : Int) ≤ (c : Int)) := by omega
  clear hX hq hm hm2 a1 a2 hs hXhi hhi
  refine Exe.of_ev tok Tryz.call163 Tryz.func163 rfl rfl rfl ?_
  refine box_as H (rateC parts b) rfl fun r w1 H1 => ?_
  refine load_rule tok H1 (v := rateV parts b) rfl ?_
  refine call_rule H1 (fun M I _ h => hr ▸ rateRight parts b _ M I h) fun _ w2 _ H2 => ?_
  refine call_rule H2 (fun M I _ h => hcb ▸ coinRight (p : Int) _ M I h) fun _ w3 _ H3 => ?_
  refine brd (fun q => absurd q hd2) (fun _ => ?_)
  refine load_rule tok H3 (v := rateV parts b) rfl ?_
  refine call_rule H3 (fun M I _ h => unit_ parts b hr _ M I h) fun _ w4 _ H4 => ?_
  refine brd (fun q => absurd q hc1) (fun _ => ?_)
  refine load_rule tok H4 (v := .int .u32 parts) rfl ?_
  refine call_rule H4 (fun M I _ h => e1.symm ▸ e2.symm ▸ wm _ M I h) fun _ w5 _ H5 => ?_
  refine call_rule H5 (fun M I _ h => wa _ M I h) fun _ w6 _ H6 => ?_
  refine alloc_as tok H6 (wideC 0 0) rfl rfl rfl fun x w7 H7 => ?_
  refine store_as tok H7 (wideC (dayX pN p days c / 18446744073709551616) (dayX pN p days c % 18446744073709551616)) rfl rfl rfl rfl rfl fun w8 H8 => ?_
  refine draw_rule (A := []) tok tdr H8 [1, 2, 0, 3, 4, 5, 8, 9, 6, 7, 10, 11] [0, 0, 2, 7, 15, 31, 31, 31, 0, 319, 895, 2047] rfl ?_
  refine pass_rule _ (fun w h => load_rule tok h (v := rateV parts b) rfl ⟨rfl, rfl⟩) ?_
  refine imp_rule (fun X wx h => call_rule h (fun M I _ h => unit_ parts b hr _ M I h) fun _ w1 _ H1 => imp_done H1 ?_)
  refine pass_rule _ (fun w h => load_rule tok h (v := wideV (dayX pN p days c / 18446744073709551616) (dayX pN p days c % 18446744073709551616)) rfl ⟨rfl, rfl⟩) ?_
  refine imp_rule (fun X wx h => call_rule h (fun M I _ h => wd _ M I h) fun _ w1 _ H1 => imp_done H1 ?_)
  refine fresh_alloc tok rfl rfl rfl fun y => ?_
  refine imp_rule (fun X wx h => store_as tok h (wideC 0 (dayX pN p days c / unitN b)) rfl rfl rfl rfl rfl fun w1 H1 => imp_done H1 ?_)
  refine done_rule fun w9 H9 => ?_
  refine load_rule tok H9 (v := wideV 0 (dayX pN p days c / unitN b)) rfl ?_
  refine call_rule H9 (fun M I _ h => wideSmall (dayX pN p days c / unitN b) _ M I h) fun _ w10 _ H10 => ?_
  refine Exists.intro () (And.intro ?_ (And.intro trivial (Hp.keep H10)))
  show Value.tuple #[.int .i64 (IntKind.i64.wrap ((dayX pN p days c / unitN b : Nat) : Int)), .int .u64 ((dayX pN p days c % unitN b : Nat) : Int), .nilIface] = _
  rw [e3]
/-- What a day brings. -/
@[reducible] def dyV (a : Nat × Nat) : Value := .tuple #[.int .i64 (a.1 : Int), .int .u64 (a.2 : Int), .nilIface]
structure DayR (pN : Nat) (b : Int) (p c : Nat) (n : Int) (a : Nat × Nat) : Prop where
  ex : ∃ r : Int, OneR b n r ∧ a = (dayX pN p r.toNat c / unitN b, dayX pN p r.toNat c % unitN b)
theorem DayR.one {pN p c : Nat} {b n : Int} {x y : Nat × Nat} (h : DayR pN b p c n x) (h' : DayR pN b p c n y) : x = y := by
  obtain ⟨r, h1, h2⟩ := h.ex
  obtain ⟨r', k1, k2⟩ := h'.ex
  rw [h2, k2, h1.one k1]
theorem DayR.carry {pN p c : Nat} {b n : Int} {x : Nat × Nat} (h : DayR pN b p c n x) : x.2 < unitN b := by
  obtain ⟨r, h1, h2⟩ := h.ex
  rw [h2]
  exact Nat.mod_lt _ (by have := unit_bd b; omega)
theorem DayR.bd {pN p c : Nat} {b n : Int} {x : Nat × Nat} (h : DayR pN b p c n x) (h1 : pN ≤ 1000000) (h2 : p ≤ 1000000000000) (h3 : c < unitN b) : x.1 ≤ 10000000000 := by
  obtain ⟨r, hr, e⟩ := h.ex
  have hb := hr.bd
  have hU := unit_bd b
  have a := Nat.mul_le_mul h1 (show r.toNat ≤ 3 by omega)
  have b' := Nat.mul_le_mul h2 a
  rw [e]
  have hX : dayX pN p r.toNat c ≤ 3000000000365000000 := by unfold dayX; omega
  refine Nat.le_trans (Nat.div_le_div_left hU.1 (by decide)) ?_
  refine Nat.le_trans (Nat.div_le_div_right hX) ?_
  decide
theorem day_ (parts b n : Int) (pN p c : Nat) (hpp : parts = (pN : Int)) (hr : rateB parts b = true) (hp : p ≤ 1000000000000) (hn1 : dayB n = true) (hn2 : n < 3652058) (hc : c < unitN b) (w : World) (M I : BS) (H : Hp ⟨w, M, I⟩ [] [] w) :
    Ctr Tryz.prog 100 [rateV parts b, .int .i64 p, .int .i32 n, .int .u64 c] w M I dyV (fun a => DayR pN b p c n a) (fun _ => []) (fun _ => []) := by
  have hb := rate_basis hr
  refine Exe.of_ev tok Tryz.call100 Tryz.func100 rfl rfl rfl ?_
  refine box_as H (rateC parts b) rfl fun r w1 H1 => ?_
  refine load_rule tok H1 (v := rateV parts b) rfl ?_
  refine call_rule H1 (fun M I _ h => days_ parts b pN p 0 c hpp hr hp (Nat.zero_le _) hc _ M I h) fun _ w2 _ H2 => ?_
  refine load_rule tok H2 (v := .int .u8 b) rfl ?_
  refine call_rule H2 (fun M I _ h => spanOne b n hb hn1 hn2 _ M I h) fun d w3 hd H3 => ?_
  have hbd := hd.bd
  have ed : d = ((d.toNat : Nat) : Int) := by omega
  have hd3 : d.toNat ≤ 100000 := by omega
  refine load_rule tok H3 (v := rateV parts b) rfl ?_
  have ctr := fun w M I h => days_ parts b pN p d.toNat c hpp hr hp hd3 hc w M I h
  rw [← ed] at ctr
  refine call_rule H3 (fun M I _ h => ctr _ M I h) fun _ w4 _ H4 => ?_
  exact Exists.intro (dayX pN p d.toNat c / unitN b, dayX pN p d.toNat c % unitN b) (And.intro rfl (And.intro ⟨⟨d, hd, rfl⟩⟩ (Hp.keep H4)))
end Go.Proofs.YtjlfjjgjghdokaaGreatDoor
