/- The document's months: what a payment leaves, the rate, the least payment, the rows: the walks. Printed by gen51.py. -/
import Derived.Test.YtjlfjjgjghdokaaGreatDoorD50
set_option linter.unusedVariables false
namespace Go.Proofs.YtjlfjjgjghdokaaGreatDoor
open Go Go.Proofs Go.Wk Go.Pl
/-- What so many months of a payment leave. -/
def leftGo (parts pay : Int) : Nat → Int → Int
  | 0, l => l
  | k + 1, l => if 0 < l then (if l + iM parts l ≤ pay then 0 else if l ≤ l + iM parts l - pay then l else leftGo parts pay k (l + iM parts l - pay)) else l
theorem leftGo_en (parts pay : Int) : ∀ (k : Nat) (l : Int), 0 ≤ l → (leftGo parts pay k l == 0) = enGo parts pay k l
  | 0, l, h => by rw [leftGo, enGo]
  | k + 1, l, h => by
    rw [leftGo, enGo]
    by_cases h0 : l = 0
    · rw [if_neg (by omega), if_pos h0, h0]; rfl
    rw [if_pos (show 0 < l by omega), if_neg h0]
    by_cases h1 : l + iM parts l ≤ pay
    · rw [if_pos h1]
      have e : (mon3 parts l pay false).2.2 = 0 := by
        unfold mon3
        split
        · show l + iM parts l - (l + iM parts l) = 0; omega
        · rename_i h2
          have h2 : ¬ l + iM parts l < pay := fun e => h2 (.inr e)
          show l + iM parts l - pay = 0; omega
      rw [e, if_neg (by omega), enGo_zero]; rfl
    · rw [if_neg h1]
      have e : (mon3 parts l pay false).2.2 = l + iM parts l - pay := by
        unfold mon3
        rw [if_neg (by simp; omega)]
      rw [e]
      by_cases h2 : l ≤ l + iM parts l - pay
      · rw [if_pos h2, if_pos h2]
        simpa using h0
      · rw [if_neg h2, if_neg h2]
        exact leftGo_en parts pay k _ (by omega)
theorem iM_b {parts left : Int} (h0 : 0 ≤ parts) (h1 : parts ≤ 1000000) (hl : 0 ≤ left) (hl2 : left ≤ 1000000000000) : 0 ≤ iM parts left ∧ 12 * iM parts left ≤ left + 12 :=
  iM_bd (b := 1) (by simp only [rateB, Bool.and_eq_true, decide_eq_true_eq]; exact ⟨h1, by decide⟩) h0 hl hl2
set_option maxHeartbeats 1000000 in
theorem refLeft (p parts pay : Int) (b : Bool) (n : Nat) (hn : n ≤ 1000) (h0 : 0 ≤ parts) (h1 : parts ≤ 1000000) (hl : 0 ≤ p) (hl2 : p ≤ 1000000000000) (hp : 0 ≤ pay) (hp2 : pay ≤ 2000000000000) :
    CB 124 [.int .i64 p, rrV parts b, .int .i64 n, .int .i64 pay] (.int .i64 (leftGo parts pay n p)) := by
  intro w M I H
  refine Exe.of_ev tok Tryz.call124 Tryz.func124 rfl rfl rfl ?_
  refine box_as H (rrC parts b) rfl fun r w1 H1 => ?_
  refine loop_rule tok (σ := Nat × Int) 137438953217 (fun s => [(0, .int .i64 s.2), (9, .int .i64 (s.1 : Int))]) (fun s w' => s.1 ≤ n ∧ 0 ≤ s.2 ∧ s.2 ≤ 1000000000000 ∧ leftGo parts pay n p = leftGo parts pay (n - s.1) s.2 ∧ Hp ⟨w, M, I⟩ [blk r (rrC parts b) 51] [] w') (fun s => n - s.1) (0, p) rfl rfl ⟨rfl, rfl, trivial⟩ ⟨Nat.zero_le _, hl, hl2, rfl, H1⟩ ?_
  intro s j w2 hW
  have hi := hW.1
  have hs0 := hW.2.1
  have hs1 := hW.2.2.1
  have hg := hW.2.2.2.1
  have H2 := hW.2.2.2.2
  refine brd (fun hlt => ?_) (fun hge => ?_)
  · have ew : IntKind.i64.wrap ((s.1 : Int) + 1) = ((s.1 + 1 : Nat) : Int) := i64w (by omega) (by omega)
    have ek : n - s.1 = (n - (s.1 + 1)) + 1 := by omega
    have hb := iM_b h0 h1 hs0 hs1
    have eo : IntKind.i64.wrap (s.2 + iM parts s.2) = s.2 + iM parts s.2 := i64w (by omega) (by omega)
    have es : IntKind.i64.wrap (s.2 + iM parts s.2 - pay) = s.2 + iM parts s.2 - pay := i64w (by omega) (by omega)
    rw [ek, leftGo] at hg
    refine brd (fun hp0 => ?_) (fun hp0 => ?_)
    · have hp0 : 0 < s.2 := hp0
      rw [if_pos hp0] at hg
      refine load_rule tok H2 (v := rrV parts b) rfl ?_
      refine call_rule H2 (fun M I _ h => refMonth parts s.2 b h0 h1 hs0 hs1 _ M I h) fun _ w3 _ H3 => ?_
      refine brd (fun q => ?_) (fun q => ?_)
      · rw [eo] at q
        rw [if_pos q] at hg
        exact Exists.intro () (And.intro (congrArg (Value.int .i64) hg.symm) (And.intro trivial (Hp.keep H3)))
      rw [eo] at q
      rw [if_neg q] at hg
      refine brd (fun q2 => ?_) (fun q2 => ?_)
      · rw [eo, es] at q2
        rw [if_pos q2] at hg
        exact Exists.intro () (And.intro (congrArg (Value.int .i64) hg.symm) (And.intro trivial (Hp.keep H3)))
      rw [eo, es] at q2
      rw [if_neg q2] at hg
      exact Exists.intro (s.1 + 1, s.2 + iM parts s.2 - pay) (And.intro ⟨congrArg (Value.int .i64) ((congrArg (fun x => IntKind.i64.wrap (x - pay)) eo).trans es), congrArg (Value.int .i64) ew, trivial⟩ (And.intro (by show n - (s.1 + 1) < n - s.1; omega) ⟨by show s.1 + 1 ≤ n; omega, by show 0 ≤ s.2 + iM parts s.2 - pay; omega, by show s.2 + iM parts s.2 - pay ≤ 1000000000000; omega, hg, Hp.keep H3⟩))
    · have hp0 : ¬ 0 < s.2 := hp0
      rw [if_neg hp0] at hg
      exact Exists.intro () (And.intro (congrArg (Value.int .i64) hg.symm) (And.intro trivial (Hp.keep H2)))
  · have ek : n - s.1 = 0 := by omega
    rw [ek, leftGo] at hg
    exact Exists.intro () (And.intro (congrArg (Value.int .i64) hg.symm) (And.intro trivial (Hp.keep H2)))
/-! The rate. -/
theorem refRate (t : Tm) : CB 16 [rtV t] (rrV t.parts (t.basis == 2)) := by
  intro w M I H
  refine Exe.of_ev tok Tryz.call16 Tryz.func16 rfl rfl rfl ?_
  refine box_as H (rtC t) rfl fun r w1 H1 => ?_
  refine alloc_as tok H1 (rrC 0 false) rfl rfl rfl fun o w2 H2 => ?_
  refine load_rule tok H2 (v := .int .u32 t.parts) rfl ?_
  refine load_rule tok H2 (v := .int .u8 t.basis) rfl ?_
  refine store_as tok H2 (rrC t.parts (t.basis == 2)) rfl rfl rfl rfl rfl fun w3 H3 => ?_
  refine Exists.intro ⟨o, 0, none⟩ (Exists.intro (rrV t.parts (t.basis == 2)) (And.intro rfl (And.intro (Hp.ld (T := tb) tok H3 rfl) ?_)))
  exact Exists.intro () (And.intro rfl (And.intro trivial (Hp.keep H3)))
/-! The least payment. -/
set_option maxHeartbeats 2000000 in
theorem refPay (t : Tm) (hin : TmIn t) (ok : TmOk t) : CB 70 [rtV t] (.int .i64 (payV t.prin t.parts t.months.toNat)) := by
  intro w M I H
  have h0 := hin.parts.1
  have h0 : 0 ≤ t.parts := h0
  have h1 := ok.parts
  have hp1 := ok.prin.1
  have hp2 := ok.prin.2
  have hm1 := ok.months.1
  have hm2 := ok.months.2
  have em : ((t.months.toNat : Nat) : Int) = t.months := Int.toNat_of_nonneg (by omega)
  have hb := iM_b h0 h1 (show 0 ≤ t.prin by omega) hp2
  have eo : IntKind.i64.wrap (t.prin + iM t.parts t.prin) = t.prin + iM t.parts t.prin := i64w (by omega) (by omega)
  refine Exe.of_ev tok Tryz.call70 Tryz.func70 rfl rfl rfl ?_
  refine box_as H (rtC t) rfl fun r w1 H1 => ?_
  refine draw_rule (A := []) tok tdr H1 [2, 3, 4, 5, 6, 0, 1, 7, 8, 9] [0, 1, 0, 4, 0, 16, 60, 127, 124, 511] rfl ?_
  refine pass_rule _ (fun w h => load_rule tok h (v := rtV t) rfl ⟨rfl, rfl⟩) ?_
  refine imp_rule (fun X wx h => call_rule h (fun M I _ h => refRate t _ M I h) fun _ w1 _ H1 => imp_done H1 ?_)
  refine pass_rule _ (fun w h => load_rule tok h (v := .int .i64 t.prin) rfl ⟨rfl, rfl⟩) ?_
  refine imp_rule (fun X wx h => call_rule h (fun M I _ h => refMonth t.parts t.prin (t.basis == 2) h0 h1 (by omega) hp2 _ M I h) fun _ w1 _ H1 => imp_done H1 ?_)
  refine pass_rule _ (fun w h => load_rule tok h (v := .int .i64 t.prin) rfl ⟨rfl, rfl⟩) ?_
  refine done_rule fun w3 H3 => ?_
  refine loop_rule tok (σ := Int × Int × Nat) 8589918264 (fun s => [(3, .int .i64 s.1), (4, .int .i64 s.2.1)])
    (fun s w' => 1 ≤ s.1 ∧ s.2.1 ≤ 1100000000000 ∧ s.1 ≤ 1100000000001 ∧ s.2.1 - s.1 ≤ s.2.2 ∧ payV t.prin t.parts t.months.toNat = bsGo (fun m => enGo t.parts m t.months.toNat t.prin) s.2.2 s.1 s.2.1 ∧ Hp ⟨w, M, I⟩ [blk r (rtC t) 33] [] w') (fun s => s.2.2) (1, t.prin + iM t.parts t.prin, (t.prin + iM t.parts t.prin).toNat) rfl rfl ⟨rfl, congrArg (Value.int .i64) eo, trivial⟩
    ⟨by show (1 : Int) ≤ 1; omega, by show t.prin + iM t.parts t.prin ≤ 1100000000000; omega, by show (1 : Int) ≤ 1100000000001; omega, by show t.prin + iM t.parts t.prin - 1 ≤ ((t.prin + iM t.parts t.prin).toNat : Int); omega, rfl, Hp.keep H3⟩ ?_
  intro s j w4 hW
  have hs1 := hW.1
  have hs2 := hW.2.1
  have hs3 := hW.2.2.1
  have hs4 := hW.2.2.2.1
  have hg := hW.2.2.2.2.1
  have H4 := hW.2.2.2.2.2
  refine brd (fun hlt => ?_) (fun hge => ?_)
  · have ea : IntKind.i64.wrap (s.1 + s.2.1) = s.1 + s.2.1 := i64w (by omega) (by omega)
    have eq : IntKind.i64.wrap ((IntKind.i64.wrap (s.1 + s.2.1)).tdiv 2) = s.1 + (s.2.1 - s.1) / 2 := by rw [ea, Int.tdiv_eq_ediv_of_nonneg (by omega), show (s.1 + s.2.1) / 2 = s.1 + (s.2.1 - s.1) / 2 by omega]; exact i64w (by omega) (by omega)
    have em1 : IntKind.i64.wrap (s.1 + (s.2.1 - s.1) / 2 + 1) = s.1 + (s.2.1 - s.1) / 2 + 1 := i64w (by omega) (by omega)
    have ek : s.2.2 = (s.2.2 - 1) + 1 := by omega
    rw [ek, bsGo, if_pos hlt] at hg
    have hL := refLeft t.prin t.parts (s.1 + (s.2.1 - s.1) / 2) (t.basis == 2) t.months.toNat (by omega) h0 h1 (by omega) hp2 (by omega) (by omega)
    rw [em] at hL
    have hf := leftGo_en t.parts (s.1 + (s.2.1 - s.1) / 2) t.months.toNat t.prin (by omega)
    refine quo_as (s.1 + (s.2.1 - s.1) / 2) (by decide) eq ?_
    refine draw_rule (A := []) tok tdr H4 [2, 3, 0, 1, 4, 5, 6, 7, 8] [0, 1, 0, 4, 0, 16, 0, 127, 255] rfl ?_
    refine pass_rule _ (fun w h => load_rule tok h (v := rtV t) rfl ⟨rfl, rfl⟩) ?_
    refine imp_rule (fun X wx h => call_rule h (fun M I _ h => refRate t _ M I h) fun _ w1 _ H1 => imp_done H1 ?_)
    refine pass_rule _ (fun w h => load_rule tok h (v := .int .i64 t.prin) rfl ⟨rfl, rfl⟩) ?_
    refine pass_rule _ (fun w h => load_rule tok h (v := .int .i64 t.months) rfl ⟨rfl, rfl⟩) ?_
    refine imp_rule (fun X wx h => call_rule h (fun M I _ h => hL _ M I h) fun _ w1 _ H1 => imp_done H1 ?_)
    refine done_rule fun w5 H5 => ?_
    refine br (fun q => ?_) (fun q => ?_)
    · have q : (leftGo t.parts (s.1 + (s.2.1 - s.1) / 2) t.months.toNat t.prin == 0) = true := q
      rw [hf] at q
      rw [if_pos q] at hg
      exact Exists.intro (s.1, s.1 + (s.2.1 - s.1) / 2, s.2.2 - 1) (And.intro ⟨rfl, rfl, trivial⟩ (And.intro (by show s.2.2 - 1 < s.2.2; omega) ⟨hs1, by show s.1 + (s.2.1 - s.1) / 2 ≤ 1100000000000; omega, hs3, by show s.1 + (s.2.1 - s.1) / 2 - s.1 ≤ ((s.2.2 - 1 : Nat) : Int); omega, hg, Hp.keep H5⟩))
    · have q : (leftGo t.parts (s.1 + (s.2.1 - s.1) / 2) t.months.toNat t.prin == 0) = false := q
      rw [hf] at q
      rw [if_neg (by rw [q]; simp)] at hg
      exact Exists.intro (s.1 + (s.2.1 - s.1) / 2 + 1, s.2.1, s.2.2 - 1) (And.intro ⟨congrArg (Value.int .i64) em1, rfl, trivial⟩ (And.intro (by show s.2.2 - 1 < s.2.2; omega) ⟨by show 1 ≤ s.1 + (s.2.1 - s.1) / 2 + 1; omega, hs2, by show s.1 + (s.2.1 - s.1) / 2 + 1 ≤ 1100000000001; omega, by show s.2.1 - (s.1 + (s.2.1 - s.1) / 2 + 1) ≤ ((s.2.2 - 1 : Nat) : Int); omega, hg, Hp.keep H5⟩))
  · have e : payV t.prin t.parts t.months.toNat = s.1 := by
      rw [hg]
      cases s.2.2 with
      | zero => rfl
      | succ k => rw [bsGo, if_neg hge]
    exact Exists.intro () (And.intro (congrArg (Value.int .i64) e.symm) (And.intro trivial (Hp.keep H4)))
/-! Month by month. -/
theorem mon3_ref (parts left pay : Int) (all : Bool) : mon3 parts left pay all = (iM parts left, (if all = true ∨ left < pay - iM parts left then left else pay - iM parts left), left - (if all = true ∨ left < pay - iM parts left then left else pay - iM parts left)) := by
  unfold mon3
  by_cases h : all = true ∨ left + iM parts left < pay
  · rw [if_pos h, if_pos (by rcases h with h | h; exact .inl h; exact .inr (by omega))]
    refine Prod.ext rfl (Prod.ext ?_ ?_)
    · show left + iM parts left - iM parts left = left; omega
    · show left + iM parts left - (left + iM parts left) = left - left; omega
  · rw [if_neg h, if_neg (by intro h2; rcases h2 with h2 | h2; exact h (.inl h2); exact h (.inr (by omega)))]
    refine Prod.ext rfl (Prod.ext rfl ?_)
    show left + iM parts left - pay = left - (pay - iM parts left); omega
set_option maxRecDepth 20000 in
set_option maxHeartbeats 2000000 in
theorem refRowsOnly (p parts pay : Int) (b : Bool) (n : Nat) (hn : n ≤ 480) (h0 : 0 ≤ parts) (h1 : parts ≤ 1000000) (hJ0 : Jv 2 parts n p pay) (w : World) (M I : BS) (hM : ∀ b, ¬ M b) (H : Hp ⟨w, M, I⟩ [] [] w) :
    Ctr Tryz.prog 69 [.bool true, .int .i64 p, rrV parts b, .int .i64 n, .int .i64 pay] w M I (fun a : SV => .slice a.A a.n a.c) (fun _ => True) (fun _ => []) (fun a => [Sl row3R (.slice a.A a.n a.c) (rowsGo 2 parts n p pay)]) := by
  have hr : rateB parts 1 = true := by simp only [rateB, Bool.and_eq_true, decide_eq_true_eq]; exact ⟨h1, by decide⟩
  refine Exe.of_ev tok Tryz.call69 Tryz.func69 rfl rfl rfl ?_
  refine box_as H (rrC parts b) rfl fun r w1 H1 => ?_
  have H1 : Hp ⟨w, M, I⟩ [row 167 3 (.slice none 0 0) 0 (flatL row3C []), blk r (rrC parts b) 51] [] w1 := Hp.nil H1 167 3
  refine loop_rule tok (σ := Nat × List (Int × Int × Int) × Int × Int × SV) 1125899906840578 (fun s => [(1, .int .i64 s.2.2.1), (11, .slice s.2.2.2.2.A s.2.1.length s.2.2.2.2.c), (12, .int .i64 ((s.2.1.length : Int) + 1))])
    (fun s w' => s.2.1.length + s.1 = n ∧ rowsGo 2 parts n p pay = s.2.1 ++ rowsGo 2 parts s.1 s.2.2.1 s.2.2.2.1 ∧ (∀ x, x ∈ s.2.1 → r3ok x) ∧ Jv 2 parts s.1 s.2.2.1 s.2.2.2.1 ∧ Hp ⟨w, M, I⟩ [row 167 3 (.slice s.2.2.2.2.A s.2.1.length s.2.2.2.2.c) s.2.1.length (flatL row3C s.2.1), blk r (rrC parts b) 51] [] w') (fun s => s.1) (n, [], p, pay, ⟨none, 0, 0⟩) rfl rfl ⟨rfl, rfl, rfl, trivial⟩
    ⟨by simp, rfl, (fun x hx => by cases hx), hJ0, H1⟩ ?_
  intro s j w4 hW
  have hlen := hW.1
  have hg := hW.2.1
  have hok := hW.2.2.1
  have hJ := hW.2.2.2.1
  have H4 := hW.2.2.2.2
  refine brd (fun hlt => ?_) (fun hge => ?_)
  · have ek : s.1 = (s.1 - 1) + 1 := by omega
    have hJ := ek ▸ hJ
    have hst := Jv.step hr h0 hJ
    have hpb := hst.1
    have hl0 := hJ.l0
    have hl1 := hJ.l1
    have hp0 := hJ.p0
    have hp1 := hJ.p1
    have hb := iM_b h0 h1 hl0 hl1
    rw [ek, rowsGo] at hg
    have ew : IntKind.i64.wrap ((s.2.1.length : Int) + 1 + 1) = (((s.2.1.length + 1 : Nat) : Int) + 1) := by rw [i64w (by omega) (by omega)]; omega
    simp only [↓reduceIte] at hst hg hpb
    refine load_rule tok H4 (v := rrV parts b) rfl ?_
    refine call_rule H4 (fun M I _ h => refMonth parts s.2.2.1 b h0 h1 hl0 hl1 _ M I h) fun _ w5 _ H5 => ?_
    refine alloc_as tok H5 (row3C (0, 0, 0)) rfl rfl rfl fun o w5 H5 => ?_
    refine store_as tok H5 (row3C (iM parts s.2.2.1, 0, 0)) rfl rfl rfl rfl rfl fun w6 H6 => ?_
    refine load_rule tok H6 (v := .int .i64 (iM parts s.2.2.1)) rfl ?_
    refine br (fun q => ?_) (fun q => ?_)
    · have q : ((s.2.1.length : Int) + 1 == (n : Int)) = true := q
      have q : (s.2.1.length : Int) + 1 = (n : Int) := by simpa using q
      have e0 : s.1 - 1 = 0 := by omega
      have hP : (if (s.1 - 1 == 0) = true ∨ s.2.2.1 < (iM parts s.2.2.1) - iM parts s.2.2.1 then s.2.2.1 else (iM parts s.2.2.1) - iM parts s.2.2.1) = s.2.2.1 := if_pos (.inl (by rw [e0]; rfl))
      have hW3 : mon3 parts s.2.2.1 (iM parts s.2.2.1) (s.1 - 1 == 0) = (iM parts s.2.2.1, s.2.2.1, s.2.2.1 - s.2.2.1) := by rw [mon3_ref, hP]
      refine store_as tok H6 (row3C (iM parts s.2.2.1, s.2.2.1, 0)) rfl rfl rfl rfl rfl fun w7 H7 => ?_
      refine store_as tok H7 (row3C (iM parts s.2.2.1, s.2.2.1, IntKind.i64.wrap (s.2.2.1 - s.2.2.1))) rfl rfl rfl rfl rfl fun w8 H8 => ?_
      rw [i64w (n := s.2.2.1 - s.2.2.1) (by omega) (by omega)] at H8
      refine Exists.elim (⟨_, rfl⟩ : ∃ W, W = mon3 parts s.2.2.1 (iM parts s.2.2.1) (s.1 - 1 == 0)) fun W hWe => ?_
      rw [← hWe] at hst hg hW3
      have H8 : Hp ⟨w, M, I⟩ [blk o (row3C W) 167, row 167 3 (.slice s.2.2.2.2.A s.2.1.length s.2.2.2.2.c) s.2.1.length (flatL row3C s.2.1), blk r (rrC parts b) 51] [] w8 := by
        have H8 : Hp ⟨w, M, I⟩ [blk o (row3C (iM parts s.2.2.1, s.2.2.1, s.2.2.1 - s.2.2.1)) 167, row 167 3 (.slice s.2.2.2.2.A s.2.1.length s.2.2.2.2.c) s.2.1.length (flatL row3C s.2.1), blk r (rrC parts b) 51] [] w8 := Hp.keep H8
        rw [← hW3] at H8
        exact H8
      have hn1 : s.2.1.length + 1 ≤ 480 := by omega
      refine load_rule tok H8 (v := row3V W) rfl ?_
      refine slice_as tok H8 (row3C W) rfl rfl rfl rfl rfl rfl fun g w9 H9 => ?_
      refine append_rule (v := .slice s.2.2.2.2.A s.2.1.length s.2.2.2.2.c) (b := g) (m := 1) (c := 1) tok H9 rfl rfl rfl rfl rfl rfl rfl rfl (by show (s.2.1.length + 1) * 24 ≤ _; omega) (by omega) fun A2 c2 wa Ha => ?_
      refine load_rule tok Ha (v := .int .i64 W.2.2) rfl ?_
      have el : (s.2.1 ++ [W]).length = s.2.1.length + 1 := by simp
      have Hb : Hp ⟨w, M, I⟩ [row 167 3 (.slice A2 (s.2.1.length + 1) c2) (s.2.1.length + 1) (flatL row3C s.2.1 ++ row3C W), blk r (rrC parts b) 51] [] wa := Hp.keep Ha
      rw [← flatL_snoc, ← el] at Hb
      refine Exists.intro (s.1 - 1, s.2.1 ++ [W], W.2.2, (iM parts s.2.2.1), ⟨A2, 0, c2⟩) (And.intro ⟨rfl, congrArg (fun k => Value.slice A2 k c2) el.symm, congrArg (Value.int .i64) (by rw [ew, el]), trivial⟩ (And.intro (by show s.1 - 1 < s.1; omega) ⟨by show (s.2.1 ++ [W]).length + (s.1 - 1) = n; omega, ?_, ?_, hst.2.2, Hb⟩))
      · rw [hg]; simp
      · intro x hx
        rcases List.mem_append.1 hx with hx | hx
        · exact hok x hx
        · rw [List.mem_singleton] at hx
          rw [hx]; exact hst.2.1
    have q : ((s.2.1.length : Int) + 1 == (n : Int)) = false := q
    have q : ¬ (s.2.1.length : Int) + 1 = (n : Int) := by simpa using q
    have e0 : (s.1 - 1 == 0) = false := by rw [beq_eq_false_iff_ne]; omega
    refine brd (fun q2 => ?_) (fun q2 => ?_)
    · have q2 : s.2.2.1 < 0 := q2
      omega
    · have hP : (if (s.1 - 1 == 0) = true ∨ s.2.2.1 < iM parts s.2.2.1 - iM parts s.2.2.1 then s.2.2.1 else iM parts s.2.2.1 - iM parts s.2.2.1) = 0 := by rw [e0, if_neg (by simp; omega)]; omega
      have hW3 : mon3 parts s.2.2.1 (iM parts s.2.2.1) (s.1 - 1 == 0) = (iM parts s.2.2.1, 0, s.2.2.1 - 0) := by rw [mon3_ref, hP]
      refine store_as tok H6 (row3C (iM parts s.2.2.1, 0, 0)) rfl rfl rfl rfl rfl fun w7 H7 => ?_
      refine store_as tok H7 (row3C (iM parts s.2.2.1, 0, IntKind.i64.wrap (s.2.2.1 - 0))) rfl rfl rfl rfl rfl fun w8 H8 => ?_
      rw [i64w (n := s.2.2.1 - 0) (by omega) (by omega)] at H8
      refine Exists.elim (⟨_, rfl⟩ : ∃ W, W = mon3 parts s.2.2.1 (iM parts s.2.2.1) (s.1 - 1 == 0)) fun W hWe => ?_
      rw [← hWe] at hst hg hW3
      have H8 : Hp ⟨w, M, I⟩ [blk o (row3C W) 167, row 167 3 (.slice s.2.2.2.2.A s.2.1.length s.2.2.2.2.c) s.2.1.length (flatL row3C s.2.1), blk r (rrC parts b) 51] [] w8 := by
        have H8 : Hp ⟨w, M, I⟩ [blk o (row3C (iM parts s.2.2.1, 0, s.2.2.1 - 0)) 167, row 167 3 (.slice s.2.2.2.2.A s.2.1.length s.2.2.2.2.c) s.2.1.length (flatL row3C s.2.1), blk r (rrC parts b) 51] [] w8 := Hp.keep H8
        rw [← hW3] at H8
        exact H8
      have hn1 : s.2.1.length + 1 ≤ 480 := by omega
      refine load_rule tok H8 (v := row3V W) rfl ?_
      refine slice_as tok H8 (row3C W) rfl rfl rfl rfl rfl rfl fun g w9 H9 => ?_
      refine append_rule (v := .slice s.2.2.2.2.A s.2.1.length s.2.2.2.2.c) (b := g) (m := 1) (c := 1) tok H9 rfl rfl rfl rfl rfl rfl rfl rfl (by show (s.2.1.length + 1) * 24 ≤ _; omega) (by omega) fun A2 c2 wa Ha => ?_
      refine load_rule tok Ha (v := .int .i64 W.2.2) rfl ?_
      have el : (s.2.1 ++ [W]).length = s.2.1.length + 1 := by simp
      have Hb : Hp ⟨w, M, I⟩ [row 167 3 (.slice A2 (s.2.1.length + 1) c2) (s.2.1.length + 1) (flatL row3C s.2.1 ++ row3C W), blk r (rrC parts b) 51] [] wa := Hp.keep Ha
      rw [← flatL_snoc, ← el] at Hb
      refine Exists.intro (s.1 - 1, s.2.1 ++ [W], W.2.2, (iM parts s.2.2.1), ⟨A2, 0, c2⟩) (And.intro ⟨rfl, congrArg (fun k => Value.slice A2 k c2) el.symm, congrArg (Value.int .i64) (by rw [ew, el]), trivial⟩ (And.intro (by show s.1 - 1 < s.1; omega) ⟨by show (s.2.1 ++ [W]).length + (s.1 - 1) = n; omega, ?_, ?_, hst.2.2, Hb⟩))
      · rw [hg]; simp
      · intro x hx
        rcases List.mem_append.1 hx with hx | hx
        · exact hok x hx
        · rw [List.mem_singleton] at hx
          rw [hx]; exact hst.2.1
  · have e0 : s.1 = 0 := by omega
    have en : s.2.1.length = n := by omega
    rw [e0, rowsGo, List.append_nil] at hg
    have H5 := Hp.frzFlat (v := .slice s.2.2.2.2.A s.2.1.length s.2.2.2.2.c) H4 3 row3C (fun _ => rfl) r3ok hM (by decide) hok
    refine Exists.intro ⟨s.2.2.2.2.A, s.2.1.length, s.2.2.2.2.c⟩ (And.intro rfl (And.intro trivial ?_))
    rw [hg]
    exact Hp.keep H5
set_option maxRecDepth 20000 in
set_option maxHeartbeats 2000000 in
theorem refRowsLevel (p parts pay : Int) (b : Bool) (n : Nat) (hn : n ≤ 480) (h0 : 0 ≤ parts) (h1 : parts ≤ 1000000) (hJ0 : Jv 1 parts n p pay) (w : World) (M I : BS) (hM : ∀ b, ¬ M b) (H : Hp ⟨w, M, I⟩ [] [] w) :
    Ctr Tryz.prog 69 [.bool false, .int .i64 p, rrV parts b, .int .i64 n, .int .i64 pay] w M I (fun a : SV => .slice a.A a.n a.c) (fun _ => True) (fun _ => []) (fun a => [Sl row3R (.slice a.A a.n a.c) (rowsGo 1 parts n p pay)]) := by
  have hr : rateB parts 1 = true := by simp only [rateB, Bool.and_eq_true, decide_eq_true_eq]; exact ⟨h1, by decide⟩
  refine Exe.of_ev tok Tryz.call69 Tryz.func69 rfl rfl rfl ?_
  refine box_as H (rrC parts b) rfl fun r w1 H1 => ?_
  have H1 : Hp ⟨w, M, I⟩ [row 167 3 (.slice none 0 0) 0 (flatL row3C []), blk r (rrC parts b) 51] [] w1 := Hp.nil H1 167 3
  refine loop_rule tok (σ := Nat × List (Int × Int × Int) × Int × Int × SV) 1125899906840578 (fun s => [(1, .int .i64 s.2.2.1), (11, .slice s.2.2.2.2.A s.2.1.length s.2.2.2.2.c), (12, .int .i64 ((s.2.1.length : Int) + 1))])
    (fun s w' => s.2.1.length + s.1 = n ∧ rowsGo 1 parts n p pay = s.2.1 ++ rowsGo 1 parts s.1 s.2.2.1 pay ∧ (∀ x, x ∈ s.2.1 → r3ok x) ∧ Jv 1 parts s.1 s.2.2.1 pay ∧ Hp ⟨w, M, I⟩ [row 167 3 (.slice s.2.2.2.2.A s.2.1.length s.2.2.2.2.c) s.2.1.length (flatL row3C s.2.1), blk r (rrC parts b) 51] [] w') (fun s => s.1) (n, [], p, pay, ⟨none, 0, 0⟩) rfl rfl ⟨rfl, rfl, rfl, trivial⟩
    ⟨by simp, rfl, (fun x hx => by cases hx), hJ0, H1⟩ ?_
  intro s j w4 hW
  have hlen := hW.1
  have hg := hW.2.1
  have hok := hW.2.2.1
  have hJ := hW.2.2.2.1
  have H4 := hW.2.2.2.2
  refine brd (fun hlt => ?_) (fun hge => ?_)
  · have ek : s.1 = (s.1 - 1) + 1 := by omega
    have hJ := ek ▸ hJ
    have hst := Jv.step hr h0 hJ
    have hpb := hst.1
    have hl0 := hJ.l0
    have hl1 := hJ.l1
    have hp0 := hJ.p0
    have hp1 := hJ.p1
    have hb := iM_b h0 h1 hl0 hl1
    rw [ek, rowsGo] at hg
    have ew : IntKind.i64.wrap ((s.2.1.length : Int) + 1 + 1) = (((s.2.1.length + 1 : Nat) : Int) + 1) := by rw [i64w (by omega) (by omega)]; omega
    simp only [if_neg (show ¬ (1 : Int) = 2 by decide)] at hst hg hpb
    refine load_rule tok H4 (v := rrV parts b) rfl ?_
    refine call_rule H4 (fun M I _ h => refMonth parts s.2.2.1 b h0 h1 hl0 hl1 _ M I h) fun _ w5 _ H5 => ?_
    refine alloc_as tok H5 (row3C (0, 0, 0)) rfl rfl rfl fun o w5 H5 => ?_
    refine store_as tok H5 (row3C (iM parts s.2.2.1, 0, 0)) rfl rfl rfl rfl rfl fun w6 H6 => ?_
    refine load_rule tok H6 (v := .int .i64 (iM parts s.2.2.1)) rfl ?_
    have epi : IntKind.i64.wrap (pay - iM parts s.2.2.1) = pay - iM parts s.2.2.1 := i64w (by omega) (by omega)
    refine br (fun q => ?_) (fun q => ?_)
    · have q : ((s.2.1.length : Int) + 1 == (n : Int)) = true := q
      have q : (s.2.1.length : Int) + 1 = (n : Int) := by simpa using q
      have e0 : s.1 - 1 = 0 := by omega
      have hP : (if (s.1 - 1 == 0) = true ∨ s.2.2.1 < pay - iM parts s.2.2.1 then s.2.2.1 else pay - iM parts s.2.2.1) = s.2.2.1 := if_pos (.inl (by rw [e0]; rfl))
      have hW3 : mon3 parts s.2.2.1 pay (s.1 - 1 == 0) = (iM parts s.2.2.1, s.2.2.1, s.2.2.1 - s.2.2.1) := by rw [mon3_ref, hP]
      refine store_as tok H6 (row3C (iM parts s.2.2.1, s.2.2.1, 0)) rfl rfl rfl rfl rfl fun w7 H7 => ?_
      refine store_as tok H7 (row3C (iM parts s.2.2.1, s.2.2.1, IntKind.i64.wrap (s.2.2.1 - s.2.2.1))) rfl rfl rfl rfl rfl fun w8 H8 => ?_
      rw [i64w (n := s.2.2.1 - s.2.2.1) (by omega) (by omega)] at H8
      refine Exists.elim (⟨_, rfl⟩ : ∃ W, W = mon3 parts s.2.2.1 pay (s.1 - 1 == 0)) fun W hWe => ?_
      rw [← hWe] at hst hg hW3
      have H8 : Hp ⟨w, M, I⟩ [blk o (row3C W) 167, row 167 3 (.slice s.2.2.2.2.A s.2.1.length s.2.2.2.2.c) s.2.1.length (flatL row3C s.2.1), blk r (rrC parts b) 51] [] w8 := by
        have H8 : Hp ⟨w, M, I⟩ [blk o (row3C (iM parts s.2.2.1, s.2.2.1, s.2.2.1 - s.2.2.1)) 167, row 167 3 (.slice s.2.2.2.2.A s.2.1.length s.2.2.2.2.c) s.2.1.length (flatL row3C s.2.1), blk r (rrC parts b) 51] [] w8 := Hp.keep H8
        rw [← hW3] at H8
        exact H8
      have hn1 : s.2.1.length + 1 ≤ 480 := by omega
      refine load_rule tok H8 (v := row3V W) rfl ?_
      refine slice_as tok H8 (row3C W) rfl rfl rfl rfl rfl rfl fun g w9 H9 => ?_
      refine append_rule (v := .slice s.2.2.2.2.A s.2.1.length s.2.2.2.2.c) (b := g) (m := 1) (c := 1) tok H9 rfl rfl rfl rfl rfl rfl rfl rfl (by show (s.2.1.length + 1) * 24 ≤ _; omega) (by omega) fun A2 c2 wa Ha => ?_
      refine load_rule tok Ha (v := .int .i64 W.2.2) rfl ?_
      have el : (s.2.1 ++ [W]).length = s.2.1.length + 1 := by simp
      have Hb : Hp ⟨w, M, I⟩ [row 167 3 (.slice A2 (s.2.1.length + 1) c2) (s.2.1.length + 1) (flatL row3C s.2.1 ++ row3C W), blk r (rrC parts b) 51] [] wa := Hp.keep Ha
      rw [← flatL_snoc, ← el] at Hb
      refine Exists.intro (s.1 - 1, s.2.1 ++ [W], W.2.2, pay, ⟨A2, 0, c2⟩) (And.intro ⟨rfl, congrArg (fun k => Value.slice A2 k c2) el.symm, congrArg (Value.int .i64) (by rw [ew, el]), trivial⟩ (And.intro (by show s.1 - 1 < s.1; omega) ⟨by show (s.2.1 ++ [W]).length + (s.1 - 1) = n; omega, ?_, ?_, hst.2.2, Hb⟩))
      · rw [hg]; simp
      · intro x hx
        rcases List.mem_append.1 hx with hx | hx
        · exact hok x hx
        · rw [List.mem_singleton] at hx
          rw [hx]; exact hst.2.1
    have q : ((s.2.1.length : Int) + 1 == (n : Int)) = false := q
    have q : ¬ (s.2.1.length : Int) + 1 = (n : Int) := by simpa using q
    have e0 : (s.1 - 1 == 0) = false := by rw [beq_eq_false_iff_ne]; omega
    refine brd (fun q2 => ?_) (fun q2 => ?_)
    · rw [epi] at q2
      have hP : (if (s.1 - 1 == 0) = true ∨ s.2.2.1 < pay - iM parts s.2.2.1 then s.2.2.1 else pay - iM parts s.2.2.1) = s.2.2.1 := if_pos (.inr q2)
      have hW3 : mon3 parts s.2.2.1 pay (s.1 - 1 == 0) = (iM parts s.2.2.1, s.2.2.1, s.2.2.1 - s.2.2.1) := by rw [mon3_ref, hP]
      refine store_as tok H6 (row3C (iM parts s.2.2.1, s.2.2.1, 0)) rfl rfl rfl rfl rfl fun w7 H7 => ?_
      refine store_as tok H7 (row3C (iM parts s.2.2.1, s.2.2.1, IntKind.i64.wrap (s.2.2.1 - s.2.2.1))) rfl rfl rfl rfl rfl fun w8 H8 => ?_
      rw [i64w (n := s.2.2.1 - s.2.2.1) (by omega) (by omega)] at H8
      refine Exists.elim (⟨_, rfl⟩ : ∃ W, W = mon3 parts s.2.2.1 pay (s.1 - 1 == 0)) fun W hWe => ?_
      rw [← hWe] at hst hg hW3
      have H8 : Hp ⟨w, M, I⟩ [blk o (row3C W) 167, row 167 3 (.slice s.2.2.2.2.A s.2.1.length s.2.2.2.2.c) s.2.1.length (flatL row3C s.2.1), blk r (rrC parts b) 51] [] w8 := by
        have H8 : Hp ⟨w, M, I⟩ [blk o (row3C (iM parts s.2.2.1, s.2.2.1, s.2.2.1 - s.2.2.1)) 167, row 167 3 (.slice s.2.2.2.2.A s.2.1.length s.2.2.2.2.c) s.2.1.length (flatL row3C s.2.1), blk r (rrC parts b) 51] [] w8 := Hp.keep H8
        rw [← hW3] at H8
        exact H8
      have hn1 : s.2.1.length + 1 ≤ 480 := by omega
      refine load_rule tok H8 (v := row3V W) rfl ?_
      refine slice_as tok H8 (row3C W) rfl rfl rfl rfl rfl rfl fun g w9 H9 => ?_
      refine append_rule (v := .slice s.2.2.2.2.A s.2.1.length s.2.2.2.2.c) (b := g) (m := 1) (c := 1) tok H9 rfl rfl rfl rfl rfl rfl rfl rfl (by show (s.2.1.length + 1) * 24 ≤ _; omega) (by omega) fun A2 c2 wa Ha => ?_
      refine load_rule tok Ha (v := .int .i64 W.2.2) rfl ?_
      have el : (s.2.1 ++ [W]).length = s.2.1.length + 1 := by simp
      have Hb : Hp ⟨w, M, I⟩ [row 167 3 (.slice A2 (s.2.1.length + 1) c2) (s.2.1.length + 1) (flatL row3C s.2.1 ++ row3C W), blk r (rrC parts b) 51] [] wa := Hp.keep Ha
      rw [← flatL_snoc, ← el] at Hb
      refine Exists.intro (s.1 - 1, s.2.1 ++ [W], W.2.2, pay, ⟨A2, 0, c2⟩) (And.intro ⟨rfl, congrArg (fun k => Value.slice A2 k c2) el.symm, congrArg (Value.int .i64) (by rw [ew, el]), trivial⟩ (And.intro (by show s.1 - 1 < s.1; omega) ⟨by show (s.2.1 ++ [W]).length + (s.1 - 1) = n; omega, ?_, ?_, hst.2.2, Hb⟩))
      · rw [hg]; simp
      · intro x hx
        rcases List.mem_append.1 hx with hx | hx
        · exact hok x hx
        · rw [List.mem_singleton] at hx
          rw [hx]; exact hst.2.1
    · rw [epi] at q2 ⊢
      have hP : (if (s.1 - 1 == 0) = true ∨ s.2.2.1 < pay - iM parts s.2.2.1 then s.2.2.1 else pay - iM parts s.2.2.1) = (pay - iM parts s.2.2.1) := if_neg (by rw [e0]; simp; omega)
      have hW3 : mon3 parts s.2.2.1 pay (s.1 - 1 == 0) = (iM parts s.2.2.1, (pay - iM parts s.2.2.1), s.2.2.1 - (pay - iM parts s.2.2.1)) := by rw [mon3_ref, hP]
      refine store_as tok H6 (row3C (iM parts s.2.2.1, (pay - iM parts s.2.2.1), 0)) rfl rfl rfl rfl rfl fun w7 H7 => ?_
      refine store_as tok H7 (row3C (iM parts s.2.2.1, (pay - iM parts s.2.2.1), IntKind.i64.wrap (s.2.2.1 - (pay - iM parts s.2.2.1)))) rfl rfl rfl rfl rfl fun w8 H8 => ?_
      rw [i64w (n := s.2.2.1 - (pay - iM parts s.2.2.1)) (by omega) (by omega)] at H8
      refine Exists.elim (⟨_, rfl⟩ : ∃ W, W = mon3 parts s.2.2.1 pay (s.1 - 1 == 0)) fun W hWe => ?_
      rw [← hWe] at hst hg hW3
      have H8 : Hp ⟨w, M, I⟩ [blk o (row3C W) 167, row 167 3 (.slice s.2.2.2.2.A s.2.1.length s.2.2.2.2.c) s.2.1.length (flatL row3C s.2.1), blk r (rrC parts b) 51] [] w8 := by
        have H8 : Hp ⟨w, M, I⟩ [blk o (row3C (iM parts s.2.2.1, (pay - iM parts s.2.2.1), s.2.2.1 - (pay - iM parts s.2.2.1))) 167, row 167 3 (.slice s.2.2.2.2.A s.2.1.length s.2.2.2.2.c) s.2.1.length (flatL row3C s.2.1), blk r (rrC parts b) 51] [] w8 := Hp.keep H8
        rw [← hW3] at H8
        exact H8
      have hn1 : s.2.1.length + 1 ≤ 480 := by omega
      refine load_rule tok H8 (v := row3V W) rfl ?_
      refine slice_as tok H8 (row3C W) rfl rfl rfl rfl rfl rfl fun g w9 H9 => ?_
      refine append_rule (v := .slice s.2.2.2.2.A s.2.1.length s.2.2.2.2.c) (b := g) (m := 1) (c := 1) tok H9 rfl rfl rfl rfl rfl rfl rfl rfl (by show (s.2.1.length + 1) * 24 ≤ _; omega) (by omega) fun A2 c2 wa Ha => ?_
      refine load_rule tok Ha (v := .int .i64 W.2.2) rfl ?_
      have el : (s.2.1 ++ [W]).length = s.2.1.length + 1 := by simp
      have Hb : Hp ⟨w, M, I⟩ [row 167 3 (.slice A2 (s.2.1.length + 1) c2) (s.2.1.length + 1) (flatL row3C s.2.1 ++ row3C W), blk r (rrC parts b) 51] [] wa := Hp.keep Ha
      rw [← flatL_snoc, ← el] at Hb
      refine Exists.intro (s.1 - 1, s.2.1 ++ [W], W.2.2, pay, ⟨A2, 0, c2⟩) (And.intro ⟨rfl, congrArg (fun k => Value.slice A2 k c2) el.symm, congrArg (Value.int .i64) (by rw [ew, el]), trivial⟩ (And.intro (by show s.1 - 1 < s.1; omega) ⟨by show (s.2.1 ++ [W]).length + (s.1 - 1) = n; omega, ?_, ?_, hst.2.2, Hb⟩))
      · rw [hg]; simp
      · intro x hx
        rcases List.mem_append.1 hx with hx | hx
        · exact hok x hx
        · rw [List.mem_singleton] at hx
          rw [hx]; exact hst.2.1
  · have e0 : s.1 = 0 := by omega
    have en : s.2.1.length = n := by omega
    rw [e0, rowsGo, List.append_nil] at hg
    have H5 := Hp.frzFlat (v := .slice s.2.2.2.2.A s.2.1.length s.2.2.2.2.c) H4 3 row3C (fun _ => rfl) r3ok hM (by decide) hok
    refine Exists.intro ⟨s.2.2.2.2.A, s.2.1.length, s.2.2.2.2.c⟩ (And.intro rfl (And.intro trivial ?_))
    rw [hg]
    exact Hp.keep H5
end Go.Proofs.YtjlfjjgjghdokaaGreatDoor
