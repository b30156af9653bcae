/- A day's span by a basis: the walks of span.thirty, span.Days, span.One. -/
import Derived.Test.YtjlfjjgjghdokaaGreatDoorE1
set_option linter.unusedVariables false
namespace Go.Proofs.YtjlfjjgjghdokaaGreatDoor
open Go Go.Proofs Go.Wk
def m30 (d : Int) : Int := if 30 < d then 30 else d
def b30 (d d' : Int) : Int := if m30 d = 30 then m30 d' else d'
def thN (y m d y' m' d' : Int) : Int := 360 * (y' - y) + 30 * (m' - m) + b30 d d' - m30 d
theorem m30_bd {d : Int} (h1 : 1 ≤ d) (h2 : d ≤ 31) : 1 ≤ m30 d ∧ m30 d ≤ 30 := by unfold m30; split <;> omega
theorem b30_bd {d d' : Int} (h1 : 1 ≤ d') (h2 : d' ≤ 31) : 1 ≤ b30 d d' ∧ b30 d d' ≤ 31 := by
  have := m30_bd h1 h2
  unfold b30; split <;> omega
theorem dat_31 {y m d : Int} (h : Dat y m d) : 1 ≤ d ∧ d ≤ 31 := ⟨h.d1, by have := h.d2; have := (len_pos (y := y) (m := m)).2; omega⟩
theorem thirtyGo (y m d y' m' d' : Int) (bb : Int) (ha : 1 ≤ m30 d ∧ m30 d ≤ 30) (hb : 1 ≤ bb ∧ bb ≤ 31) (h : Dat y m d) (h' : Dat y' m' d') :
    IntKind.i64.wrap (IntKind.i64.wrap (IntKind.i64.wrap (IntKind.i64.wrap (360 * IntKind.i64.wrap (y' - y)) + IntKind.i64.wrap (30 * IntKind.i64.wrap (m' - m))) + bb) - m30 d) = 360 * (y' - y) + 30 * (m' - m) + bb - m30 d := by
  have h1 := h.y1; have h2 := h.y2; have h3 := h.m1; have h4 := h.m2
  have k1 := h'.y1; have k2 := h'.y2; have k3 := h'.m1; have k4 := h'.m2
  obtain ⟨a1, a2⟩ := ha
  obtain ⟨b1, b2⟩ := hb
  rw [i64w (n := y' - y) (by omega) (by omega), i64w (n := 360 * (y' - y)) (by omega) (by omega), i64w (n := m' - m) (by omega) (by omega), i64w (n := 30 * (m' - m)) (by omega) (by omega), i64w (n := 360 * (y' - y) + 30 * (m' - m)) (by omega) (by omega), i64w (n := 360 * (y' - y) + 30 * (m' - m) + bb) (by omega) (by omega), i64w (by omega) (by omega)]
theorem thirty (y m d y' m' d' : Int) (h : Dat y m d) (h' : Dat y' m' d') : CB 250 [civV y m d, civV y' m' d'] (.int .i64 (thN y m d y' m' d')) := by
  intro w M I H
  have ha := m30_bd (dat_31 h).1 (dat_31 h).2
  have hb := b30_bd (d := d) (dat_31 h').1 (dat_31 h').2
  have e0 := thirtyGo y m d y' m' d' (b30 d d') ha hb h h'
  refine Exe.of_ev tok Tryz.call250 Tryz.func250 rfl rfl rfl ?_
  refine box_as H (civC y m d) rfl fun a w1 H1 => ?_
  refine box_as H1 (civC y' m' d') rfl fun b w2 H2 => ?_
  refine load_rule tok H2 (v := .int .i64 d) rfl ?_
  refine store_as tok H2 (civC y m (m30 d)) rfl rfl rfl rfl rfl fun w3 H3 => ?_
  refine load_rule tok H3 (v := .int .i64 (m30 d)) rfl ?_
  refine br (fun q => ?_) (fun q => ?_)
  · have q : m30 d = 30 := by simpa using q
    have eb : b30 d d' = m30 d' := by unfold b30; rw [if_pos q]
    rw [eb] at e0
    refine load_rule tok H3 (v := .int .i64 d') rfl ?_
    refine store_as tok H3 (civC y' m' (m30 d')) rfl rfl rfl rfl rfl fun w4 H4 => ?_
    refine draw_rule (A := []) tok tdr H4 [0, 1, 2, 3, 4, 5, 6, 7, 8, 9, 10, 11, 12, 13, 14, 15, 16, 17, 18, 19, 20] [0, 0, 2, 0, 8, 30, 63, 0, 128, 0, 512, 1920, 3968, 8191, 0, 16384, 65535, 0, 131072, 524287, 1048575] rfl ?_
    refine imp_rule (fun X wx h => call_rule h (fun M I _ h => year 2 _ M I h) fun _ w1 _ H1 => imp_done H1 ?_)
    refine pass_rule _ (fun w h => load_rule tok h (v := .int .i64 y') rfl ⟨rfl, rfl⟩) ?_
    refine pass_rule _ (fun w h => load_rule tok h (v := .int .i64 y) rfl ⟨rfl, rfl⟩) ?_
    refine pass_rule _ (fun w h => load_rule tok h (v := .int .i64 m') rfl ⟨rfl, rfl⟩) ?_
    refine pass_rule _ (fun w h => load_rule tok h (v := .int .i64 m) rfl ⟨rfl, rfl⟩) ?_
    refine pass_rule _ (fun w h => load_rule tok h (v := .int .i64 (m30 d')) rfl ⟨rfl, rfl⟩) ?_
    refine pass_rule _ (fun w h => load_rule tok h (v := .int .i64 (m30 d)) rfl ⟨rfl, rfl⟩) ?_
    refine done_rule fun w5 H5 => ?_
    refine Exists.intro () (And.intro (congrArg (Value.int .i64) ?_) (And.intro trivial (Hp.keep H5)))
    unfold thN
    rw [eb]
    exact e0
  · have q : m30 d ≠ 30 := by simpa using q
    have eb : b30 d d' = d' := by unfold b30; rw [if_neg q]
    rw [eb] at e0
    refine draw_rule (A := []) tok tdr H3 [0, 1, 2, 3, 4, 5, 6, 7, 8, 9, 10, 11, 12, 13, 14, 15, 16, 17, 18, 19, 20] [0, 0, 2, 0, 8, 30, 63, 0, 128, 0, 512, 1920, 3968, 8191, 0, 16384, 65535, 0, 131072, 524287, 1048575] rfl ?_
    refine imp_rule (fun X wx h => call_rule h (fun M I _ h => year 2 _ M I h) fun _ w1 _ H1 => imp_done H1 ?_)
    refine pass_rule _ (fun w h => load_rule tok h (v := .int .i64 y') rfl ⟨rfl, rfl⟩) ?_
    refine pass_rule _ (fun w h => load_rule tok h (v := .int .i64 y) rfl ⟨rfl, rfl⟩) ?_
    refine pass_rule _ (fun w h => load_rule tok h (v := .int .i64 m') rfl ⟨rfl, rfl⟩) ?_
    refine pass_rule _ (fun w h => load_rule tok h (v := .int .i64 m) rfl ⟨rfl, rfl⟩) ?_
    refine pass_rule _ (fun w h => load_rule tok h (v := .int .i64 d') rfl ⟨rfl, rfl⟩) ?_
    refine pass_rule _ (fun w h => load_rule tok h (v := .int .i64 (m30 d)) rfl ⟨rfl, rfl⟩) ?_
    refine done_rule fun w5 H5 => ?_
    refine Exists.intro () (And.intro (congrArg (Value.int .i64) ?_) (And.intro trivial (Hp.keep H5)))
    unfold thN
    rw [eb]
    exact e0
structure SpanR (bas n1 n2 r : Int) : Prop where
  ex : ∃ y m d y' m' d', Dat y m d ∧ Dat y' m' d' ∧ numD y m d = n1 ∧ numD y' m' d' = n2 ∧ r = (if bas = 2 then thN y m d y' m' d' else n2 - n1)
theorem spanDays (bas n1 n2 : Int) (hbas : bas = 1 ∨ bas = 2) (h1 : dayB n1 = true) (h2 : dayB n2 = true) (hle : n1 ≤ n2) (w : World) (M I : BS) (H : Hp ⟨w, M, I⟩ [] [] w) :
    Ctr Tryz.prog 223 [.int .u8 bas, .int .i32 n1, .int .i32 n2] w M I (fun r : Int => .tuple #[.int .i64 r, .nilIface]) (fun r => SpanR bas n1 n2 r) (fun _ => []) (fun _ => []) := by
  have hd1 := h1
  have hd2 := h2
  simp only [dayB, Bool.and_eq_true, decide_eq_true_eq] at hd1 hd2
  have hy : yearS bas ≠ 0 := by unfold yearS; split <;> (try split) <;> omega
  refine Exe.of_ev tok Tryz.call223 Tryz.func223 rfl rfl rfl ?_
  refine call_rule H (fun M I _ h => civil n1 h1 _ M I h) fun a w1 ha H1 => ?_
  refine alloc_as tok H1 (civC 0 0 0) rfl rfl rfl fun p w2 H2 => ?_
  refine store_as tok H2 (civC a.1 a.2.1 a.2.2) rfl rfl rfl rfl rfl fun w3 H3 => ?_
  refine call_rule H3 (fun M I _ h => civil n2 h2 _ M I h) fun b w4 hb H4 => ?_
  refine alloc_as tok H4 (civC 0 0 0) rfl rfl rfl fun p2 w5 H5 => ?_
  refine store_as tok H5 (civC b.1 b.2.1 b.2.2) rfl rfl rfl rfl rfl fun w6 H6 => ?_
  refine call_rule H6 (fun M I _ h => year bas _ M I h) fun _ w7 _ H7 => ?_
  refine br (fun q => ?_) (fun q => ?_)
  · exfalso
    have q : (yearS bas == 0) = true := q
    exact hy (eq_of_beq q)
  refine brd (fun q2 => ?_) (fun q2 => ?_)
  · exact absurd hle (Int.not_le.2 q2)
  refine br (fun q3 => ?_) (fun q3 => ?_)
  · have q3 : bas = 2 := by simpa using q3
    refine load_rule tok H7 (v := civV a.1 a.2.1 a.2.2) rfl ?_
    refine load_rule tok H7 (v := civV b.1 b.2.1 b.2.2) rfl ?_
    refine call_rule H7 (fun M I _ h => thirty a.1 a.2.1 a.2.2 b.1 b.2.1 b.2.2 ha.1 hb.1 _ M I h) fun _ w8 _ H8 => ?_
    refine Exists.intro (thN a.1 a.2.1 a.2.2 b.1 b.2.1 b.2.2) (And.intro rfl (And.intro ⟨⟨a.1, a.2.1, a.2.2, b.1, b.2.1, b.2.2, ha.1, hb.1, ha.2, hb.2, by rw [if_pos q3]⟩⟩ (Hp.keep H8)))
  · have q3 : bas ≠ 2 := by simpa using q3
    have e1 : IntKind.i64.wrap (IntKind.i32.wrap (n2 - n1)) = n2 - n1 := by rw [i32w (n := n2 - n1) (by omega) (by omega), i64w (by omega) (by omega)]
    refine Exists.intro (n2 - n1) (And.intro ?_ (And.intro ⟨⟨a.1, a.2.1, a.2.2, b.1, b.2.1, b.2.2, ha.1, hb.1, ha.2, hb.2, by rw [if_neg q3]⟩⟩ (Hp.keep H7)))
    show Value.tuple #[.int .i64 (IntKind.i64.wrap (IntKind.i32.wrap (n2 - n1))), .nilIface] = _
    rw [e1]
/-- How many days a day counts. -/
def oneN (bas y m d : Int) : Int := if bas = 2 then (if d < lenM y m then 1 else 31 - lenM y m) else 1
structure OneR (bas n r : Int) : Prop where
  ex : ∃ y m d, Dat y m d ∧ numD y m d = n ∧ r = oneN bas y m d
theorem OneR.one {bas n r r' : Int} (h : OneR bas n r) (h' : OneR bas n r') : r = r' := by
  obtain ⟨y, m, d, h1, h2, h3⟩ := h.ex
  obtain ⟨y', m', d', k1, k2, k3⟩ := h'.ex
  obtain ⟨e1, e2, e3⟩ := num_inj h1 k1 (h2.trans k2.symm)
  subst e1; subst e2; subst e3
  rw [h3, k3]
theorem OneR.bd {bas n r : Int} (h : OneR bas n r) : 0 ≤ r ∧ r ≤ 3 := by
  obtain ⟨y, m, d, h1, h2, h3⟩ := h.ex
  have := len_pos (y := y) (m := m)
  rw [h3]; unfold oneN
  split
  · split <;> omega
  · omega
/-- The next day. -/
theorem next_dat {y m d y' m' d' : Int} (h : Dat y m d) (h' : Dat y' m' d') (e : numD y' m' d' = numD y m d + 1) : 360 * (y' - y) + 30 * (m' - m) + d' - d = oneN 2 y m d := by
  unfold oneN
  rw [if_pos rfl]
  have hm := off_succ (y := y) h.m1 h.m2
  by_cases hd : d < lenM y m
  · rw [if_pos hd]
    have hx : Dat y m (d + 1) := ⟨h.y1, h.y2, h.m1, h.m2, by have := h.d1; omega, by omega⟩
    obtain ⟨e1, e2, e3⟩ := num_inj h' hx (by rw [e]; unfold numD; omega)
    subst e1; subst e2; subst e3
    omega
  · rw [if_neg hd]
    have hdl : d = lenM y m := by have := h.d2; omega
    by_cases h12 : m = 12
    · have hl : lenM y 12 = 31 := rfl
      subst h12
      have hoe := off_end (y := y)
      have hbs := beg_succ h.y1
      by_cases hy : y = 9999
      · exfalso
        have := (num_range h').2
        have ht : beg (9999 + 1) = 3652059 := beg_top
        subst hy
        unfold numD at e this
        have hr := (num_range h).2
        unfold numD at hr
        rw [show (12 : Int) + 1 = 13 by decide, hoe] at hm
        omega
      · have hx : Dat (y + 1) 1 1 := ⟨by have := h.y1; omega, by have := h.y2; omega, by decide, by decide, by decide, by have := (len_pos (y := y + 1) (m := 1)).1; omega⟩
        have ho := off_one (y + 1)
        obtain ⟨e1, e2, e3⟩ := num_inj h' hx (by rw [e]; unfold numD; rw [show (12 : Int) + 1 = 13 by decide, hoe] at hm; omega)
        subst e1; subst e2; subst e3
        omega
    · have hx : Dat y (m + 1) 1 := ⟨h.y1, h.y2, by have := h.m1; omega, by have := h.m2; omega, by decide, by have := (len_pos (y := y) (m := m + 1)).1; omega⟩
      obtain ⟨e1, e2, e3⟩ := num_inj h' hx (by rw [e]; unfold numD; omega)
      subst e1; subst e2; subst e3
      omega
theorem one_of {bas n r1 r2 y m d : Int} (hbas : bas = 1 ∨ bas = 2) (hD : Dat y m d) (hn : numD y m d = n) (h1 : SpanR bas (n - (d - 1)) n r1) (h2 : SpanR bas (n - (d - 1)) (n + 1) r2) : r2 - r1 = oneN bas y m d := by
  have hF : Dat y m 1 := ⟨hD.y1, hD.y2, hD.m1, hD.m2, by decide, by have := (len_pos (y := y) (m := m)).1; omega⟩
  have hFn : numD y m 1 = n - (d - 1) := by rw [← hn]; unfold numD; omega
  obtain ⟨a1, a2, a3, b1, b2, b3, ha, hb, ea, eb, er⟩ := h1.ex
  obtain ⟨c1, c2, c3, d1, d2, d3, hc, hd, ec, ed, es⟩ := h2.ex
  obtain ⟨i1, i2, i3⟩ := num_inj ha hF (ea.trans hFn.symm)
  obtain ⟨j1, j2, j3⟩ := num_inj hb hD (eb.trans hn.symm)
  obtain ⟨k1, k2, k3⟩ := num_inj hc hF (ec.trans hFn.symm)
  subst i1; subst i2; subst i3; subst j1; subst j2; subst j3; subst k1; subst k2
  subst k3
  rcases hbas with rfl | rfl
  · rw [if_neg (by decide)] at er es
    rw [er, es]; unfold oneN; rw [if_neg (by decide)]; omega
  · rw [if_pos rfl] at er es
    have := next_dat hD hd (by rw [ed, hn])
    have e30 : m30 1 = 1 := rfl
    have e31 : ∀ x, b30 1 x = x := fun x => by unfold b30; rw [e30, if_neg (by decide)]
    rw [er, es, ← this]
    unfold thN
    rw [e30, e31, e31]
    omega
theorem spanOne (bas n : Int) (hbas : bas = 1 ∨ bas = 2) (h1 : dayB n = true) (hn : n < 3652058) (w : World) (M I : BS) (H : Hp ⟨w, M, I⟩ [] [] w) :
    Ctr Tryz.prog 164 [.int .u8 bas, .int .i32 n] w M I (fun r : Int => .tuple #[.int .i64 r, .nilIface]) (fun r => OneR bas n r) (fun _ => []) (fun _ => []) := by
  have hd1 := h1
  simp only [dayB, Bool.and_eq_true, decide_eq_true_eq] at hd1
  refine Exe.of_ev tok Tryz.call164 Tryz.func164 rfl rfl rfl ?_
  refine brd (fun q => ?_) (fun q => ?_)
  · exact absurd hn (Int.not_lt.2 q)
  refine call_rule H (fun M I _ h => civil n h1 _ M I h) fun a w1 ha H1 => ?_
  have hdd := dat_31 ha.1
  have hnr : 0 ≤ n - (a.2.2 - 1) := by
    have hF : Dat a.1 a.2.1 1 := ⟨ha.1.y1, ha.1.y2, ha.1.m1, ha.1.m2, Int.le_refl 1, Int.le_trans hdd.1 ha.1.d2⟩
    have h0 := (num_range hF).1
    have h2 := ha.2
    unfold numD at h0 h2
    omega
  have e1 : IntKind.i32.wrap (n - IntKind.i32.wrap (IntKind.i64.wrap (a.2.2 - 1))) = n - (a.2.2 - 1) := by
    rw [i64w (n := a.2.2 - 1) (by omega) (by omega), i32w (n := a.2.2 - 1) (by omega) (by omega), i32w (by omega) (by omega)]
  have e2 : IntKind.i32.wrap (n + 1) = n + 1 := i32w (by omega) (by omega)
  have k1 : dayB (n - (a.2.2 - 1)) = true := by simp only [dayB, Bool.and_eq_true, decide_eq_true_eq]; omega
  have k2 : dayB (n + 1) = true := by simp only [dayB, Bool.and_eq_true, decide_eq_true_eq]; omega
  have k3 : n - (a.2.2 - 1) ≤ n := by omega
  have k4 : n - (a.2.2 - 1) ≤ n + 1 := by omega
  refine alloc_as tok H1 (civC 0 0 0) rfl rfl rfl fun p w2 H2 => ?_
  refine store_as tok H2 (civC a.1 a.2.1 a.2.2) rfl rfl rfl rfl rfl fun w3 H3 => ?_
  refine load_rule tok H3 (v := .int .i64 a.2.2) rfl ?_
  refine call_rule H3 (fun M I _ h => e1.symm ▸ spanDays bas (n - (a.2.2 - 1)) n hbas k1 h1 k3 _ M I h) fun r1 w4 hr1 H4 => ?_
  refine call_rule H4 (fun M I _ h => e1.symm ▸ e2.symm ▸ spanDays bas (n - (a.2.2 - 1)) (n + 1) hbas k1 k2 k4 _ M I h) fun r2 w5 hr2 H5 => ?_
  rw [e1] at hr1
  rw [e1, e2] at hr2
  have e3 := one_of hbas ha.1 ha.2 hr1 hr2
  have hR : OneR bas n (oneN bas a.1 a.2.1 a.2.2) := ⟨⟨a.1, a.2.1, a.2.2, ha.1, ha.2, rfl⟩⟩
  have e4 : IntKind.i64.wrap (r2 - r1) = oneN bas a.1 a.2.1 a.2.2 := by rw [e3]; have := hR.bd; exact i64w (by omega) (by omega)
  refine Exists.intro (oneN bas a.1 a.2.1 a.2.2) (And.intro ?_ (And.intro hR (Hp.keep H5)))
  show Value.tuple #[.int .i64 (IntKind.i64.wrap (r2 - r1)), .nilIface] = _
  rw [e4]
end Go.Proofs.YtjlfjjgjghdokaaGreatDoor
