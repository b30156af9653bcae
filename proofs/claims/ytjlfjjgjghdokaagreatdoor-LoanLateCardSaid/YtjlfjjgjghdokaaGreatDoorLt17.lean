/- A day's span by a basis: the walks of span.thirty, span.Days, span.One. -/
import Derived.Test.YtjlfjjgjghdokaaGreatDoorLt16
set_option linter.unusedVariables false
namespace Go.Proofs.YtjlfjjgjghdokaaGreatDoor
open Go Go.Proofs Go.Wk
def m30 (d : Int) : Int := if 30 < d then 30 else d
def b30 (d d' : Int) : Int := if m30 d = 30 then m30 d' else d'
def thN (y m d y' m' d' : Int) : Int := 360 * (y' - y) + 30 * (m' - m) + b30 d d' - m30 d
theorem m30_bd {d : Int} (h1 : 1 ≤ d) (h2 : d ≤ 31) : 1 ≤ m30 d ∧ m30 d ≤ 30 := by unfold m30; split <;> omega
theorem b30_bd {d d' : Int} (h1 : 1 ≤ d') (h2 : d' ≤ 31) : 1 ≤ b30 d d' ∧ b30 d d' ≤ 31 := by
  have := m30_bd h1 h2
  unfold b30; split <;> omega
theorem dat_31 {y m d : Int} (h : Dat y m d) : 1 ≤ d ∧ d ≤ 31 := ⟨h.d1, by have := h.d2; have := (len_pos (y := y) (m := m)).2; omega⟩
theorem thirtyGo (y m d y' m' d' : Int) (bb : Int) (ha : 1 ≤ m30 d ∧ m30 d ≤ 30) (hb : 1 ≤ bb ∧ bb ≤ 31) (h : Dat y m d) (h' : Dat y' m' d') :
    IntKind.i64.wrap (IntKind.i64.wrap (IntKind.i64.wrap (IntKind.i64.wrap (360 * IntKind.i64.wrap (y' - y)) + IntKind.i64.wrap (30 * IntKind.i64.wrap (m' - m))) + bb) - m30 d) = 360 * (y' - y) + 30 * (m' - m) + bb - m30 d := by
  have h1 := h.y1; have h2 := h.y2; have h3 := h.m1; have h4 := h.m2
  have k1 := h'.y1; have k2 := h'.y2; have k3 := h'.m1; have k4 := h'.m2
  obtain ⟨a1, a2⟩ := ha
  obtain ⟨b1, b2⟩ := hb
  rw [i64w (n := y' - y) (by omega) (by omega), i64w (n := 360 * (y' - y)) (by omega) (by omega), i64w (n := m' - m) (by omega) (by omega), i64w (n := 30 * (m' - m)) (by omega) (by omega), i64w (n := 360 * (y' - y) + 30 * (m' - m)) (by omega) (by omega), i64w (n := 360 * (y' - y) + 30 * (m' - m) + bb) (by omega) (by omega), i64w (by omega) (by omega)]
theorem thirty (y m d y' m' d' : Int) (h : Dat y m d) (h' : Dat y' m' d') : CB 250 [civV y m d, civV y' m' d'] (.int .i64 (thN y m d y' m' d')) := by
  intro w M I H
  have ha := m30_bd (dat_31 h).1 (dat_31 h).2
  have hb := b30_bd (d := d) (dat_31 h').1 (dat_31 h').2
  have e0 := thirtyGo y m d y' m' d' (b30 d d') ha hb h h'
  refine Exe.of_ev tok Tryz.call250 Tryz.func250 rfl rfl rfl ?_
  refine box_as H (civC y m d) rfl fun a w1 H1 => ?_
  refine box_as H1 (civC y' m' d') rfl fun b w2 H2 => ?_
  refine load_rule tok H2 (v := .int .i64 d) rfl ?_
  refine store_as tok H2 (civC y m (m30 d)) rfl rfl rfl rfl rfl fun w3 H3 => ?_
  refine load_rule tok H3 (v := .int .i64 (m30 d)) rfl ?_
  refine br (fun q => ?_) (fun q => ?_)
  · have q : m30 d = 30 := by simpa using q
    have eb : b30 d d' = m30 d' := by unfold b30; rw [if_pos q]
    rw [eb] at e0
    refine load_rule tok H3 (v := .int .i64 d') rfl ?_
    refine store_as tok H3 (civC y' m' (m30 d')) rfl rfl rfl rfl rfl fun w4 H4 => ?_
    refine draw_rule (A := []) tok tdr H4 [0, 1, 2, 3, 4, 5, 6, 7, 8, 9, 10, 11, 12, 13, 14, 15, 16, 17, 18, 19, 20] [0, 0, 2, 0, 8, 30, 63, 0, 128, 0, 512, 1920, 3968, 8191, 0, 16384, 65535, 0, 131072, 524287, 1048575] rfl ?_
    refine imp_rule (fun X wx h => call_rule h (fun M I _ h => year 2 _ M I h) fun _ w1 _ H1 => imp_done H1 ?_)
    refine pass_rule _ (fun w h => load_rule tok h (v := .int .i64 y') rfl ⟨rfl, rfl⟩) ?_
    refine pass_rule _ (fun w h => load_rule tok h (v := .int .i64 y) rfl ⟨rfl, rfl⟩) ?_
    refine pass_rule _ (fun w h => load_rule tok h (v := .int .i64 m') rfl ⟨rfl, rfl⟩) ?_
    refine pass_rule _ (fun w h => load_rule tok h (v := .int .i64 m) rfl ⟨rfl, rfl⟩) ?_
    refine pass_rule _ (fun w h => load_rule tok h (v := .int .i64 (m30 d')) rfl ⟨rfl, rfl⟩) ?_
    refine pass_rule _ (fun w h => load_rule tok h (v := .int .i64 (m30 d)) rfl ⟨rfl, rfl⟩) ?_
    refine done_rule fun w5 H5 => ?_
    refine Exists.intro () (And.intro (congrArg (Value.int .i64) ?_) (And.intro trivial (Hp.keep H5)))
    unfold thN
    rw [eb]
    exact e0
  · have q : m30 d ≠ 30 := by simpa using q
    have eb : b30 d d' = d' := by unfold b30; rw [if_neg q]
    rw [eb] at e0
    refine draw_rule (A := []) tok tdr H3 [0, 1, 2, 3, 4, 5, 6, 7, 8, 9, 10, 11, 12, 13, 14, 15, 16, 17, 18, 19, 20] [0, 0, 2, 0, 8, 30, 63, 0, 128, 0, 512, 1920, 3968, 8191, 0, 16384, 65535, 0, 131072, 524287, 1048575] rfl ?_
    refine imp_rule (fun X wx h => call_rule h (fun M I _ h => year 2 _ M I h) fun _ w1 _ H1 => imp_done H1 ?_)
    refine pass_rule _ (fun w h => load_rule tok h (v := .int .i64 y') rfl ⟨rfl, rfl⟩) ?_
    refine pass_rule _ (fun w h => load_rule tok h (v := .int .i64 y) rfl ⟨rfl, rfl⟩) ?_
    refine pass_rule _ (fun w h => load_rule tok h (v := .int .i64 m') rfl ⟨rfl, rfl⟩) ?_
    refine pass_rule _ (fun w h => load_rule tok h (v := .int .i64 m) rfl ⟨rfl, rfl⟩) ?_
    refine pass_rule _ (fun w h => load_rule tok h (v := .int .i64 d') rfl ⟨rfl, rfl⟩) ?_
    refine pass_rule _ (fun w h => load_rule tok h (v := .int .i64 (m30 d)) rfl ⟨rfl, rfl⟩) ?_
    refine done_rule fun w5 H5 => ?_
    refine Exists.intro () (And.intro (congrArg (Value.int .i64) ?_) (And.intro trivial (Hp.keep H5)))
    unfold thN
    rw [eb]
    exact e0
structure SpanR (bas n1 n2 r : Int) : Prop where
  ex : ∃ y m d y' m' d', Dat y m d ∧ Dat y' m' d' ∧ numD y m d = n1 ∧ numD y' m' d' = n2 ∧ r = (if bas = 2 then thN y m d y' m' d' else n2 - n1)
theorem spanDays (bas n1 n2 : Int) (hbas : bas = 1 ∨ bas = 2) (h1 : dayB n1 = true) (h2 : dayB n2 = true) (hle : n1 ≤ n2) (w : World) (M I : BS) (H : Hp ⟨w, M, I⟩ [] [] w) :
    Ctr Tryz.prog 223 [.int .u8 bas, .int .i32 n1, .int .i32 n2] w M I (fun r : Int => .tuple #[.int .i64 r, .nilIface]) (fun r => SpanR bas n1 n2 r) (fun _ => []) (fun _ => []) := by
  have hd1 := h1
  have hd2 := h2
  simp only [dayB, Bool.and_eq_true, decide_eq_true_eq] at hd1 hd2
  have hy : yearS bas ≠ 0 := by unfold yearS; split <;> (try split) <;> omega
  refine Exe.of_ev tok Tryz.call223 Tryz.func223 rfl rfl rfl ?_
  refine call_rule H (fun M I _ h => civil n1 h1 _ M I h) fun a w1 ha H1 => ?_
  refine alloc_as tok H1 (civC 0 0 0) rfl rfl rfl fun p w2 H2 => ?_
  refine store_as tok H2 (civC a.1 a.2.1 a.2.2) rfl rfl rfl rfl rfl fun w3 H3 => ?_
  refine call_rule H3 (fun M I _ h => civil n2 h2 _ M I h) fun b w4 hb H4 => ?_
  refine alloc_as tok H4 (civC 0 0 0) rfl rfl rfl fun p2 w5 H5 => ?_
  refine store_as tok H5 (civC b.1 b.2.1 b.2.2) rfl rfl rfl rfl rfl fun w6 H6 => ?_
  refine call_rule H6 (fun M I _ h => year bas _ M I h) fun _ w7 _ H7 => ?_
  refine br (fun q => ?_) (fun q => ?_)
  · exfalso
    have q : (yearS bas == 0) = true := q
    exact hy (eq_of_beq q)
  refine brd (fun q2 => ?_) (fun q2 => ?_)
  · exact absurd hle (Int.not_le.2 q2)
  refine br (fun q3 => ?_) (fun q3 => ?_)
  · have q3 : bas = 2 := by simpa using q3
    refine load_rule tok H7 (v := civV a.1 a.2.1 a.2.2) rfl ?_
    refine load_rule tok H7 (v := civV b.1 b.2.1 b.2.2) rfl ?_
    refine call_rule H7 (fun M I _ h => thirty a.1 a.2.1 a.2.2 b.1 b.2.1 b.2.2 ha.1 hb.1 _ M I h) fun _ w8 _ H8 => ?_
    refine Exists.intro (thN a.1 a.2.1 a.2.2 b.1 b.2.1 b.2.2) (And.intro rfl (And.intro ⟨⟨a.1, a.2.1, a.2.2, b.1, b.2.1, b.2.2, ha.1, hb.1, ha.2, hb.2, by rw [if_pos q3]⟩⟩ (Hp.keep H8)))
  · have q3 : bas ≠ 2 := by simpa using q3
    have e1 : IntKind.i64.wrap (IntKind.i32.wrap (n2 - n1)) = n2 - n1 := by rw [i32w (n := n2 - n1) (by omega) (by omega), i64w (by omega) (by omega)]
    refine Exists.intro (n2 - n1) (And.intro ?_ (And.intro ⟨⟨a.1, a.2.1, a.2.2, b.1, b.2.1, b.2.2, ha.1, hb.1, ha.2, hb.2, by rw [if_neg q3]⟩⟩ (Hp.keep H7)))
    show Value.tuple #[.int .i64 (IntKind.i64.wrap (IntKind.i32.wrap (n2 - n1))), .nilIface] = _
    rw [e1]
/-- How many days a day counts. -/
def oneN (bas y m d : Int) : Int := if bas = 2 then (if d < lenM y m then 1 else 31 - lenM y m) else 1
structure OneR (bas n r : Int) : Prop where
  ex : ∃ y m d, Dat y m d ∧ numD y m d = n ∧ r = oneN bas y m d
theorem OneR.one {bas n r r' : Int} (h : OneR bas n r) (h' : OneR bas n r') : r = r' := by
  obtain ⟨y, m, d, h1, h2, h3⟩ := h.ex
  obtain ⟨y', m', d', k1, k2, k3⟩ := h'.ex
  obtain ⟨e1, e2, e3⟩ := num_inj h1 k1 (h2.trans k2.symm)
  subst e1; subst e2; subst e3
  rw [h3, k3]
theorem OneR.bd {bas n r : Int} (h : OneR bas n r) : 0 ≤ r ∧ r ≤ 3 := by
  obtain ⟨y, m, d, h1, h2, h3⟩ := h.ex
  have := len_pos (y := y) (m := m)
  rw [h3]; unfold oneN
  split
  · split <;> omega
  · omega
/-- The next day. -/
theorem next_dat {y m d y' m' d' : Int} (h : Dat y m d) (h' : Dat y' m' d') (e : numD y' m' d' = numD y m d + 1) : 360 * (y' - y) + 30 * (m' - m) + d' - d = oneN 2 y m d := by
  unfold oneN
  rw [if_pos rfl]
  have hm := off_succ (y := y) h.m1 h.m2
  by_cases hd : d < lenM y m
  · rw [if_pos hd]
    have hx : Dat y m (d + 1) := ⟨h.y1, h.y2, h.m1, h.m2, by have := h.d1; omega, by omega⟩
    obtain ⟨e1, e2, e3⟩ := num_inj h' hx (by rw [e]; unfold numD; omega)
    subst e1; subst e2; subst e3
    omega
  · rw [if_neg hd]
    have hdl : d = lenM y m := by have := h.d2; omega
    by_cases h12 : m = 12
    · have hl : lenM y 12 = 31 := rfl
      subst h12
      have hoe := off_end (y := y)
      have hbs := beg_succ h.y1
      by_cases hy : y = 9999
      · exfalso
        have := (num_range h').2
        have ht : beg (9999 + 1) = 3652059 := beg_top
        subst hy
        unfold numD at e this
        have hr := (num_range h).2
        unfold numD at hr
        rw [show (12 : Int) + 1 = 13 by decide, hoe] at hm
        omega
      · have hx : Dat (y + 1) 1 1 := ⟨by have := h.y1; omega, by have := h.y2; omega, by decide, by decide, by decide, by have := (len_pos (y := y + 1) (m := 1)).1; omega⟩
        have ho := off_one (y + 1)
        obtain ⟨e1, e2, e3⟩ := num_inj h' hx (by rw [e]; unfold numD; rw [show (12 : Int) + 1 = 13 by decide, hoe] at hm; omega)
        subst e1; subst e2; subst e3
        omega
    · have hx : Dat y (m + 1) 1 := ⟨h.y1, h.y2, by have := h.m1; omega, by have := h.m2; omega, by decide, by have := (len_pos (y := y) (m := m + 1)).1; omega⟩
      obtain ⟨e1, e2, e3⟩ := num_inj h' hx (by rw [e]; unfold numD; omega)
      subst e1; subst e2; subst e3
      omega
theorem one_of {bas n r1 r2 y m d : Int} (hbas : bas = 1 ∨ bas = 2) (hD : Dat y m d) (hn : numD y m d = n) (h1 : SpanR bas (n - (d - 1)) n r1) (h2 : SpanR bas (n - (d - 1)) (n + 1) r2) : r2 - r1 = oneN bas y m d := by
  have hF : Dat y m 1 := ⟨hD.y1, hD.y2, hD.m1, hD.m2, by decide, by have := (len_pos (y := y) (m := m)).1; omega⟩
  have hFn : numD y m 1 = n - (d - 1) := by rw [← hn]; unfold numD; omega
  obtain ⟨a1, a2, a3, b1, b2, b3, ha, hb, ea, eb, er⟩ := h1.ex
  obtain ⟨c1, c2, c3, d1, d2, d3, hc, hd, ec, ed, es⟩ := h2.ex
  obtain ⟨i1, i2, i3⟩ := num_inj ha hF (ea.trans hFn.symm)
  obtain ⟨j1, j2, j3⟩ := num_inj hb hD (eb.trans hn.symm)
  obtain ⟨k1, k2, k3⟩ := num_inj hc hF (ec.trans hFn.symm)
  subst i1; subst i2; subst i3; subst j1; subst j2; subst j3; subst k1; subst k2
  subst k3
  rcases hbas with rfl | rfl
  · rw [if_neg (by decide)] at er es
    rw [er, es]; unfold oneN; rw [if_neg (by decide)]; omega
  · rw [if_pos rfl] at er es
    have := next_dat hD hd (by rw [ed, hn])
    have e30 : m30 1 = 1 := rfl
    have e31 : ∀ x, b30 1 x = x := fun x => by unfold b30; rw [e30, if_neg (by decide)]
    rw [er, es, ← this]
    unfold thN
    rw [e30, e31, e31]
    omega
theorem spanOne (bas n : Int) (hbas : bas = 1 ∨ bas = 2) (h1 : dayB n = true) (hn : n < 3652058) (w : World) (M I : BS) (H : Hp ⟨w, M, I⟩ [] [] w) :
    Ctr Tryz.prog 164 [.int .u8 bas, .int .i32 n] w M I (fun r : Int => .tuple #[.int .i64 r, .nilIface]) (fun r => OneR bas n r) (fun _ => []) (fun _ => []) := by
  have hd1 := h1
  simp only [dayB, Bool.and_eq_true, decide_eq_true_eq] at hd1
  refine Exe.of_ev tok Tryz.call164 Tryz.func164 rfl rfl rfl ?_
  refine brd (fun q => ?_) (fun q => ?_)
  · exact absurd hn (Int.not_lt.2 q)
  refine call_rule H (fun M I _ h => civil n h1 _ M I h) fun a w1 ha H1 => ?_
  have hdd := dat_31 ha.1
  have hnr : 0 ≤ n - (a.2.2 - 1) := by
    have hF : Dat a.1 a.2.1 1 := ⟨ha.1.y1, ha.1.y2, ha.1.m1, ha.1.m2, Int.le_refl 1, Int.le_trans hdd.1 ha.1.d2⟩
    have h0 := (num_range hF).1
    have h2 := ha.2
    unfold numD at h0 h2
    omega
  have e1 : IntKind.i32.wrap (n - IntKind.i32.wrap (IntKind.i64.wrap (a.2.2 - 1))) = n - (a.2.2 - 1) := by
    rw [i64w (n := a.2.2 - 1) (by omega) (by omega), i32w (n := a.2.2 - 1) (by omega) (by omega), i32w (by omega) (by omega)]
  have e2 : IntKind.i32.wrap (n + 1) = n + 1 := i32w (by omega) (by omega)
  have k1 : dayB (n - (a.2.2 - 1)) = true := by simp only [dayB, Bool.and_eq_true, decide_eq_true_eq]; omega
  have k2 : dayB (n + 1) = true := by simp only [dayB, Bool.and_eq_true, decide_eq_true_eq]; omega
  have k3 : n - (a.2.2 - 1) ≤ n := by omega
  have k4 : n - (a.2.2 - 1) ≤ n + 1 := by omega
  refine alloc_as tok H1 (civC 0 0 0) rfl rfl rfl fun p w2 H2 => ?_
  refine store_as tok H2 (civC a.1 a.2.1 a.2.2) rfl rfl rfl rfl rfl fun w3 H3 => ?_
  refine load_rule tok H3 (v := .int .i64 a.2.2) rfl ?_
  refine call_rule H3 (fun M I _ h => e1.symm ▸ spanDays bas (n - (a.2.2 - 1)) n hbas k1 h1 k3 _ M I h) fun r1 w4 hr1 H4 => ?_
  refine call_rule H4 (fun M I _ h => e1.symm ▸ e2.symm ▸ spanDays bas (n - (a.2.2 - 1)) (n + 1) hbas k1 k2 k4 _ M I h) fun r2 w5 hr2 H5 => ?_
  rw [e1] at hr1
  rw [e1, e2] at hr2
  have e3 := one_of hbas ha.1 ha.2 hr1 hr2
  have hR : OneR bas n (oneN bas a.1 a.2.1 a.2.2) := ⟨⟨a.1, a.2.1, a.2.2, ha.1, ha.2, rfl⟩⟩
  have e4 : IntKind.i64.wrap (r2 - r1) = oneN bas a.1 a.2.1 a.2.2 := by rw [e3]; have := hR.bd; exact i64w (by omega) (by omega)
  refine Exists.intro (oneN bas a.1 a.2.1 a.2.2) (And.intro ?_ (And.intro hR (Hp.keep H5)))
  show Value.tuple #[.int .i64 (IntKind.i64.wrap (r2 - r1)), .nilIface] = _
  rw [e4]
end Go.Proofs.YtjlfjjgjghdokaaGreatDoor
set_option linter.unusedVariables false
namespace Go.Proofs.YtjlfjjgjghdokaaGreatDoor
open Go Go.Proofs Go.Wk
def unitN (b : Int) : Nat := if b = 2 then 360000000 else 365000000
theorem unit_bd (b : Int) : 360000000 ≤ unitN b ∧ unitN b ≤ 365000000 := by unfold unitN; split <;> omega
theorem rate_basis {parts b : Int} (h : rateB parts b = true) : b = 1 ∨ b = 2 := by
  simp only [rateB, Bool.and_eq_true, decide_eq_true_eq] at h
  have h := h.2
  unfold yearS at h
  split at h
  · exact .inl (by assumption)
  · split at h
    · exact .inr (by assumption)
    · omega
theorem rate_parts {parts b : Int} (h : rateB parts b = true) : parts ≤ 1000000 := by
  simp only [rateB, Bool.and_eq_true, decide_eq_true_eq] at h
  exact h.1
theorem unit_year {b : Int} (hb : b = 1 ∨ b = 2) : IntKind.u64.wrap (1000000 * IntKind.u64.wrap (yearS b)) = ((unitN b : Nat) : Int) := by
  rcases hb with rfl | rfl <;> rfl
theorem unit_ (parts b : Int) (hr : rateB parts b = true) : CB 218 [rateV parts b] (.int .u64 ((unitN b : Nat) : Int)) := by
  intro w M I H
  have e := unit_year (rate_basis hr)
  refine Exe.of_ev tok Tryz.call218 Tryz.func218 rfl rfl rfl ?_
  refine box_as H (rateC parts b) rfl fun r w1 H1 => ?_
  refine load_rule tok H1 (v := rateV parts b) rfl ?_
  refine call_rule H1 (fun M I _ h => hr ▸ rateRight parts b _ M I h) fun _ w2 _ H2 => ?_
  refine load_rule tok H2 (v := .int .u8 b) rfl ?_
  refine call_rule H2 (fun M I _ h => year b _ M I h) fun _ w3 _ H3 => ?_
  refine Exists.intro () (And.intro (congrArg (Value.int .u64) ?_) (And.intro trivial (Hp.keep H3)))
  exact e
def dayX (parts p days c : Nat) : Nat := p * (parts * days) + c
theorem dayX_bd {parts p days c : Nat} (h1 : parts ≤ 1000000) (h2 : p ≤ 1000000000000) (h3 : days ≤ 100000) (h4 : c ≤ 365000000) : dayX parts p days c ≤ 100000000000000000365000000 := by
  have a := Nat.mul_le_mul h1 h3
  have b := Nat.mul_le_mul h2 a
  unfold dayX; omega
theorem dayX_q {parts p days c U : Nat} (h : dayX parts p days c ≤ 100000000000000000365000000) (hU : 360000000 ≤ U) : dayX parts p days c / U ≤ 300000000000000000 := by
  refine Nat.le_trans (Nat.div_le_div_left hU (by decide)) ?_
  refine Nat.le_trans (Nat.div_le_div_right h) ?_
  decide
theorem i64nat {q : Nat} (h : q ≤ 300000000000000000) : IntKind.i64.wrap (q : Int) = (q : Int) := i64w (by omega) (by omega)
theorem days_ (parts b : Int) (pN p days c : Nat) (hpp : parts = (pN : Int)) (hr : rateB parts b = true) (hp : p ≤ 1000000000000) (hd : days ≤ 100000) (hc : c < unitN b) :
    CB 163 [rateV parts b, .int .i64 p, .int .i64 days, .int .u64 c] (.tuple #[.int .i64 ((dayX pN p days c / unitN b : Nat) : Int), .int .u64 ((dayX pN p days c % unitN b : Nat) : Int), .nilIface]) := by
  intro w M I H
  have hU := unit_bd b
  have hparts : pN ≤ 1000000 := by have := rate_parts hr; omega
  have hcb : coinB (p : Int) = true := by simp only [coinB, Bool.and_eq_true, decide_eq_true_eq]; omega
  have hX := dayX_bd hparts hp hd (c := c) (by omega)
  have hq := dayX_q hX hU.1
  have hm : pN * days ≤ 1000000 * 100000 := Nat.mul_le_mul hparts hd
  have hm2 : p * (pN * days) ≤ 1000000000000 * (1000000 * 100000) := Nat.mul_le_mul hp hm
  have e1 : IntKind.u64.wrap (p : Int) = ((p : Nat) : Int) := u64n (by omega)
  have e2 : IntKind.u64.wrap (IntKind.u64.wrap parts * IntKind.u64.wrap (days : Int)) = ((pN * days : Nat) : Int) := by
    rw [hpp, u64n (x := pN) (by omega), u64n (x := days) (by omega), ← Int.natCast_mul, u64n (by omega)]
  have wm := wideMul p (pN * days) (by omega) (by omega)
  have hhi : p * (pN * days) / 18446744073709551616 < 9223372036854775808 := by
    refine Nat.lt_of_le_of_lt (Nat.div_le_div_right hm2) (by decide)
  have wa := wideAdd (p * (pN * days) / 18446744073709551616) (p * (pN * days) % 18446744073709551616) c hhi (Nat.mod_lt _ (by decide)) (by omega)
  have a1 : p * (pN * days) / 18446744073709551616 + (p * (pN * days) % 18446744073709551616 + c) / 18446744073709551616 = dayX pN p days c / 18446744073709551616 := by unfold dayX; omega
  have a2 : (p * (pN * days) % 18446744073709551616 + c) % 18446744073709551616 = dayX pN p days c % 18446744073709551616 := by unfold dayX; omega
  rw [a1, a2] at wa
  have hs := split_div (p := dayX pN p days c) (n := unitN b) (by omega) (by omega)
  have hXhi : dayX pN p days c / 18446744073709551616 < 18446744073709551616 := Nat.lt_of_le_of_lt (Nat.div_le_div_right hX) (by decide)
  have wd := wideDiv (dayX pN p days c / 18446744073709551616) (dayX pN p days c % 18446744073709551616) (unitN b) hXhi (Nat.mod_lt _ (by decide)) (by omega) (by omega)
  rw [hs.1, hs.2] at wd
  have e3 : IntKind.i64.wrap ((dayX pN p days c / unitN b : Nat) : Int) = ((dayX pN p days c / unitN b : Nat) : Int) := i64nat hq
  have hd2 : ¬ ((100000 : Int) < (days : Int)) := by omega
  have hc1 : ¬ (((unitN b : Nat) : Int) ≤ (c : Int)) := by omega
  clear hX hq hm hm2 a1 a2 hs hXhi hhi
  refine Exe.of_ev tok Tryz.call163 Tryz.func163 rfl rfl rfl ?_
  refine box_as H (rateC parts b) rfl fun r w1 H1 => ?_
  refine load_rule tok H1 (v := rateV parts b) rfl ?_
  refine call_rule H1 (fun M I _ h => hr ▸ rateRight parts b _ M I h) fun _ w2 _ H2 => ?_
  refine call_rule H2 (fun M I _ h => hcb ▸ coinRight (p : Int) _ M I h) fun _ w3 _ H3 => ?_
  refine brd (fun q => absurd q hd2) (fun _ => ?_)
  refine load_rule tok H3 (v := rateV parts b) rfl ?_
  refine call_rule H3 (fun M I _ h => unit_ parts b hr _ M I h) fun _ w4 _ H4 => ?_
  refine brd (fun q => absurd q hc1) (fun _ => ?_)
  refine load_rule tok H4 (v := .int .u32 parts) rfl ?_
  refine call_rule H4 (fun M I _ h => e1.symm ▸ e2.symm ▸ wm _ M I h) fun _ w5 _ H5 => ?_
  refine call_rule H5 (fun M I _ h => wa _ M I h) fun _ w6 _ H6 => ?_
  refine alloc_as tok H6 (wideC 0 0) rfl rfl rfl fun x w7 H7 => ?_
  refine store_as tok H7 (wideC (dayX pN p days c / 18446744073709551616) (dayX pN p days c % 18446744073709551616)) rfl rfl rfl rfl rfl fun w8 H8 => ?_
  refine draw_rule (A := []) tok tdr H8 [1, 2, 0, 3, 4, 5, 8, 9, 6, 7, 10, 11] [0, 0, 2, 7, 15, 31, 31, 31, 0, 319, 895, 2047] rfl ?_
  refine pass_rule _ (fun w h => load_rule tok h (v := rateV parts b) rfl ⟨rfl, rfl⟩) ?_
  refine imp_rule (fun X wx h => call_rule h (fun M I _ h => unit_ parts b hr _ M I h) fun _ w1 _ H1 => imp_done H1 ?_)
  refine pass_rule _ (fun w h => load_rule tok h (v := wideV (dayX pN p days c / 18446744073709551616) (dayX pN p days c % 18446744073709551616)) rfl ⟨rfl, rfl⟩) ?_
  refine imp_rule (fun X wx h => call_rule h (fun M I _ h => wd _ M I h) fun _ w1 _ H1 => imp_done H1 ?_)
  refine fresh_alloc tok rfl rfl rfl fun y => ?_
  refine imp_rule (fun X wx h => store_as tok h (wideC 0 (dayX pN p days c / unitN b)) rfl rfl rfl rfl rfl fun w1 H1 => imp_done H1 ?_)
  refine done_rule fun w9 H9 => ?_
  refine load_rule tok H9 (v := wideV 0 (dayX pN p days c / unitN b)) rfl ?_
  refine call_rule H9 (fun M I _ h => wideSmall (dayX pN p days c / unitN b) _ M I h) fun _ w10 _ H10 => ?_
  refine Exists.intro () (And.intro ?_ (And.intro trivial (Hp.keep H10)))
  show Value.tuple #[.int .i64 (IntKind.i64.wrap ((dayX pN p days c / unitN b : Nat) : Int)), .int .u64 ((dayX pN p days c % unitN b : Nat) : Int), .nilIface] = _
  rw [e3]
/-- What a day brings. -/
@[reducible] def dyV (a : Nat × Nat) : Value := .tuple #[.int .i64 (a.1 : Int), .int .u64 (a.2 : Int), .nilIface]
structure DayR (pN : Nat) (b : Int) (p c : Nat) (n : Int) (a : Nat × Nat) : Prop where
  ex : ∃ r : Int, OneR b n r ∧ a = (dayX pN p r.toNat c / unitN b, dayX pN p r.toNat c % unitN b)
theorem DayR.one {pN p c : Nat} {b n : Int} {x y : Nat × Nat} (h : DayR pN b p c n x) (h' : DayR pN b p c n y) : x = y := by
  obtain ⟨r, h1, h2⟩ := h.ex
  obtain ⟨r', k1, k2⟩ := h'.ex
  rw [h2, k2, h1.one k1]
theorem DayR.carry {pN p c : Nat} {b n : Int} {x : Nat × Nat} (h : DayR pN b p c n x) : x.2 < unitN b := by
  obtain ⟨r, h1, h2⟩ := h.ex
  rw [h2]
  exact Nat.mod_lt _ (by have := unit_bd b; omega)
theorem DayR.bd {pN p c : Nat} {b n : Int} {x : Nat × Nat} (h : DayR pN b p c n x) (h1 : pN ≤ 1000000) (h2 : p ≤ 1000000000000) (h3 : c < unitN b) : x.1 ≤ 10000000000 := by
  obtain ⟨r, hr, e⟩ := h.ex
  have hb := hr.bd
  have hU := unit_bd b
  have a := Nat.mul_le_mul h1 (show r.toNat ≤ 3 by omega)
  have b' := Nat.mul_le_mul h2 a
  rw [e]
  have hX : dayX pN p r.toNat c ≤ 3000000000365000000 := by unfold dayX; omega
  refine Nat.le_trans (Nat.div_le_div_left hU.1 (by decide)) ?_
  refine Nat.le_trans (Nat.div_le_div_right hX) ?_
  decide
theorem day_ (parts b n : Int) (pN p c : Nat) (hpp : parts = (pN : Int)) (hr : rateB parts b = true) (hp : p ≤ 1000000000000) (hn1 : dayB n = true) (hn2 : n < 3652058) (hc : c < unitN b) (w : World) (M I : BS) (H : Hp ⟨w, M, I⟩ [] [] w) :
    Ctr Tryz.prog 100 [rateV parts b, .int .i64 p, .int .i32 n, .int .u64 c] w M I dyV (fun a => DayR pN b p c n a) (fun _ => []) (fun _ => []) := by
  have hb := rate_basis hr
  refine Exe.of_ev tok Tryz.call100 Tryz.func100 rfl rfl rfl ?_
  refine box_as H (rateC parts b) rfl fun r w1 H1 => ?_
  refine load_rule tok H1 (v := rateV parts b) rfl ?_
  refine call_rule H1 (fun M I _ h => days_ parts b pN p 0 c hpp hr hp (Nat.zero_le _) hc _ M I h) fun _ w2 _ H2 => ?_
  refine load_rule tok H2 (v := .int .u8 b) rfl ?_
  refine call_rule H2 (fun M I _ h => spanOne b n hb hn1 hn2 _ M I h) fun d w3 hd H3 => ?_
  have hbd := hd.bd
  have ed : d = ((d.toNat : Nat) : Int) := by omega
  have hd3 : d.toNat ≤ 100000 := by omega
  refine load_rule tok H3 (v := rateV parts b) rfl ?_
  have ctr := fun w M I h => days_ parts b pN p d.toNat c hpp hr hp hd3 hc w M I h
  rw [← ed] at ctr
  refine call_rule H3 (fun M I _ h => ctr _ M I h) fun _ w4 _ H4 => ?_
  exact Exists.intro (dayX pN p d.toNat c / unitN b, dayX pN p d.toNat c % unitN b) (And.intro rfl (And.intro ⟨⟨d, hd, rfl⟩⟩ (Hp.keep H4)))
end Go.Proofs.YtjlfjjgjghdokaaGreatDoor
