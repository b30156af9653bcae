/- Dates of the program: a date's day, a month's last one, months on: the walks. -/
import Derived.Test.YtgbmambkgcjhfaaGreatDoorD2
set_option linter.unusedVariables false
namespace Go.Proofs.YtgbmambkgcjhfaaGreatDoor
open Go Go.Proofs Go.Wk
theorem numberNo (y m d : Int) (h : datB y m d = false) : CB 105 [civV y m d] (.tuple #[.int .i32 0, .iface 55 (.int .i64 1)]) := by
  intro w M I H
  refine Exe.of_ev tok Tryz.call105 Tryz.func105 rfl rfl rfl ?_
  refine box_as H (civC y m d) rfl fun b w1 H1 => ?_
  refine load_rule tok H1 (v := civV y m d) rfl ?_
  refine call_rule H1 (fun M I _ hh => h ▸ dateRight y m d _ M I hh) fun _ w2 _ H2 => ?_
  exact Exists.intro () (And.intro rfl (And.intro trivial (Hp.keep H2)))
theorem off_bounds {y m : Int} (h1 : 1 ≤ m) (h2 : m ≤ 13) : 0 ≤ offM y m ∧ offM y m ≤ 366 := by
  have he := off_end (y := y)
  have ho := off_one y
  constructor
  · by_cases e : m = 1
    · rw [e]; omega
    · have := off_mono (y := y) (m := 1) (k := m) (by omega) (by omega) h2
      have := (len_pos (y := y) (m := 1)).1
      omega
  · by_cases e : m = 13
    · rw [e, he]; split <;> omega
    · have := off_mono (y := y) (m := m) (k := 13) h1 (by omega) (by omega)
      have := (len_pos (y := y) (m := m)).1
      rw [he] at *
      split at * <;> omega
theorem beg_bounds {y : Int} (h1 : 1 ≤ y) (h2 : y ≤ 10000) : 0 ≤ beg y ∧ beg y ≤ 3652059 := by
  have h3 := beg_mono (y := 1) (z := y) (by omega) h1
  have h4 := beg_mono (y := y) (z := 10000) h1 h2
  rw [beg_one] at h3
  rw [beg_top] at h4
  omega
theorem numberD (y m d : Int) (hD : Dat y m d) : CB 105 [civV y m d] (.tuple #[.int .i32 (numD y m d), .nilIface]) := by
  intro w M I H
  have hb := datB_iff.2 hD
  have hy1 := hD.y1
  have hy2 := hD.y2
  have hm1 := hD.m1
  have hm2 := hD.m2
  have hd1 := hD.d1
  have hd2 := hD.d2
  have hl := len_pos (y := y) (m := m)
  have hbb := beg_bounds hy1 (by omega : y ≤ 10000)
  have e1 : IntKind.i64.wrap (IntKind.i64.wrap (beg y + d) - 1) = beg y + d - 1 := by rw [i64w (n := beg y + d) (by omega) (by omega)]; exact i64w (by omega) (by omega)
  refine Exe.of_ev tok Tryz.call105 Tryz.func105 rfl rfl rfl ?_
  refine box_as H (civC y m d) rfl fun b w1 H1 => ?_
  refine load_rule tok H1 (v := civV y m d) rfl ?_
  refine call_rule H1 (fun M I _ hh => hb ▸ dateRight y m d _ M I hh) fun _ w2 _ H2 => ?_
  refine draw_rule (A := []) tok tdr H2 [0, 1, 2, 3, 4, 5, 6, 7] [0, 1, 3, 0, 8, 31, 63, 127] rfl ?_
  refine pass_rule _ (fun w h => load_rule tok h (v := .int .i64 y) rfl ⟨rfl, rfl⟩) ?_
  refine imp_rule (fun X wx h => call_rule h (fun M I _ h => begins y hy1 (by omega) _ M I h) fun _ w1 _ H1 => imp_done H1 ?_)
  refine pass_rule _ (fun w h => load_rule tok h (v := .int .i64 d) rfl ⟨rfl, rfl⟩) ?_
  refine done_rule fun w3 H3 => ?_
  refine loop_rule tok (σ := Int) 536739888 (fun k => [(4, .int .i64 (beg y + offM y k + d - 1)), (5, .int .i64 k)]) (fun k w' => 1 ≤ k ∧ k ≤ m ∧ Hp ⟨w, M, I⟩ [blk b (civC y m d) 155] [] w') (fun k => (m - k).toNat) 1 rfl rfl
    ⟨congrArg (Value.int .i64) (by rw [off_one]; omega), rfl, trivial⟩ ⟨by omega, hm1, Hp.keep H3⟩ ?_
  intro k j w4 hW
  have hk1 := hW.1
  have hk2 := hW.2.1
  have H4 := hW.2.2
  have hob := off_bounds (y := y) hk1 (by omega)
  refine load_rule tok H4 (v := .int .i64 m) rfl ?_
  refine brd (fun hlt => ?_) (fun hge => ?_)
  · have el : lenG y k = lenM y k := lenG_eq hy1 hy2 hk1 (by omega)
    have hos := off_succ (y := y) (m := k) hk1 (by omega)
    have hlk := len_pos (y := y) (m := k)
    have ek : IntKind.i64.wrap (k + 1) = k + 1 := i64w (by omega) (by omega)
    have es : IntKind.i64.wrap (beg y + offM y k + d - 1 + lenG y k) = beg y + offM y (k + 1) + d - 1 := by rw [el, i64w (by omega) (by omega)]; omega
    refine load_rule tok H4 (v := .int .i64 y) rfl ?_
    refine call_rule H4 (fun M I _ hh => length y k _ M I hh) fun _ w5 _ H5 => ?_
    exact Exists.intro (k + 1) (And.intro ⟨congrArg (Value.int .i64) es, congrArg (Value.int .i64) ek, trivial⟩ (And.intro (by show (m - (k + 1)).toNat < (m - k).toNat; omega) ⟨by omega, by omega, Hp.keep H5⟩))
  have ekm : k = m := by omega
  have en : IntKind.i32.wrap (beg y + offM y k + d - 1) = numD y m d := by
    rw [ekm]
    have := num_range hD
    unfold numD at this ⊢
    exact i32w (by omega) (by omega)
  refine Exists.intro () (And.intro ?_ (And.intro trivial (Hp.keep H4)))
  show Value.tuple #[.int .i32 (IntKind.i32.wrap (beg y + offM y k + d - 1)), .nilIface] = _
  rw [en]
theorem last (y m d : Int) (hD : Dat y m d) : CB 164 [civV y m d] (.bool (d == lenM y m)) := by
  intro w M I H
  have hb := datB_iff.2 hD
  have el : lenG y m = lenM y m := lenG_eq hD.y1 hD.y2 hD.m1 hD.m2
  refine Exe.of_ev tok Tryz.call164 Tryz.func164 rfl rfl rfl ?_
  refine box_as H (civC y m d) rfl fun b w1 H1 => ?_
  refine draw_rule (A := []) tok tdr H1 [0, 1, 2, 5, 6, 7, 8, 9, 3, 4, 10, 11, 12] [0, 1, 3, 7, 15, 7, 39, 7, 135, 487, 1023, 2047, 4095] rfl ?_
  refine pass_rule _ (fun w h => load_rule tok h (v := civV y m d) rfl ⟨rfl, rfl⟩) ?_
  refine imp_rule (fun X wx h => call_rule h (fun M I _ h => hb ▸ dateRight y m d _ M I h) fun _ w1 _ H1 => imp_done H1 ?_)
  refine pass_rule _ (fun w h => load_rule tok h (v := .int .i64 y) rfl ⟨rfl, rfl⟩) ?_
  refine pass_rule _ (fun w h => load_rule tok h (v := .int .i64 m) rfl ⟨rfl, rfl⟩) ?_
  refine imp_rule (fun X wx h => call_rule h (fun M I _ h => length y m _ M I h) fun _ w1 _ H1 => imp_done H1 ?_)
  refine pass_rule _ (fun w h => load_rule tok h (v := .int .i64 d) rfl ⟨rfl, rfl⟩) ?_
  refine done_rule fun w3 H3 => ?_
  refine Exists.intro () (And.intro (congrArg Value.bool ?_) (And.intro trivial (Hp.keep H3)))
  show (d == lenG y m) = _
  rw [el]
theorem monthsOver (y m d n : Int) (h : Dat y m d) (hn1 : -119988 ≤ n) (hn2 : n ≤ 119988) (ho : (y - 1) * 12 + m - 1 + n < 0 ∨ 119988 ≤ (y - 1) * 12 + m - 1 + n) : CB 165 [civV y m d, .int .i64 n] (.tuple #[civV 0 0 0, .iface 55 (.int .i64 12)]) := by
  intro w M I H
  have hb := datB_iff.2 h
  have hy1 := h.y1
  have hy2 := h.y2
  have hm1 := h.m1
  have hm2 := h.m2
  have ea : IntKind.i64.wrap (IntKind.i64.wrap (IntKind.i64.wrap (IntKind.i64.wrap (IntKind.i64.wrap (y - 1) * 12) + m) - 1) + n) = (y - 1) * 12 + m - 1 + n := by
    rw [i64w (n := y - 1) (by omega) (by omega), i64w (n := (y - 1) * 12) (by omega) (by omega), i64w (n := (y - 1) * 12 + m) (by omega) (by omega), i64w (n := (y - 1) * 12 + m - 1) (by omega) (by omega), i64w (by omega) (by omega)]
  refine Exe.of_ev tok Tryz.call165 Tryz.func165 rfl rfl rfl ?_
  refine box_as H (civC y m d) rfl fun b w1 H1 => ?_
  refine alloc_as tok H1 (civC 0 0 0) rfl rfl rfl fun r w2 H2 => ?_
  refine load_rule tok H2 (v := civV y m d) rfl ?_
  refine call_rule H2 (fun M I _ hh => hb ▸ dateRight y m d _ M I hh) fun _ w3 _ H3 => ?_
  refine brd (fun hq => by omega) (fun _ => ?_)
  refine brd (fun hq => by omega) (fun _ => ?_)
  refine load_rule tok H3 (v := .int .i64 y) rfl ?_
  refine load_rule tok H3 (v := .int .i64 m) rfl ?_
  refine brd (fun q => ?_) (fun q => ?_)
  · refine store_as tok H3 (civC 0 0 0) rfl rfl rfl rfl rfl fun w4 H4 => ?_
    refine Exists.intro ⟨r, 0, none⟩ (Exists.intro (civV 0 0 0) (And.intro rfl (And.intro (Hp.ld (T := tb) tok H4 rfl) ?_)))
    exact Exists.intro () (And.intro rfl (And.intro trivial (Hp.keep H4)))
  rw [ea] at q
  refine brd (fun q2 => ?_) (fun q2 => ?_)
  · refine store_as tok H3 (civC 0 0 0) rfl rfl rfl rfl rfl fun w4 H4 => ?_
    refine Exists.intro ⟨r, 0, none⟩ (Exists.intro (civV 0 0 0) (And.intro rfl (And.intro (Hp.ld (T := tb) tok H4 rfl) ?_)))
    exact Exists.intro () (And.intro rfl (And.intro trivial (Hp.keep H4)))
  rw [ea] at q2
  omega
/-- So many months on: the year, the month. -/
def onY (y m n : Int) : Int := ((y - 1) * 12 + m - 1 + n) / 12 + 1
def onM (y m n : Int) : Int := ((y - 1) * 12 + m - 1 + n) % 12 + 1
theorem on_ok {y m n : Int} (h1 : 0 ≤ (y - 1) * 12 + m - 1 + n) (h2 : (y - 1) * 12 + m - 1 + n < 119988) : 1 ≤ onY y m n ∧ onY y m n ≤ 9999 ∧ 1 ≤ onM y m n ∧ onM y m n ≤ 12 := by
  unfold onY onM; omega
theorem months (y m d n : Int) (h : Dat y m d) (hn1 : -119988 ≤ n) (hn2 : n ≤ 119988) (h1 : 0 ≤ (y - 1) * 12 + m - 1 + n) (h2 : (y - 1) * 12 + m - 1 + n < 119988) : CB 165 [civV y m d, .int .i64 n] (.tuple #[civV (onY y m n) (onM y m n) (min d (lenM (onY y m n) (onM y m n))), .nilIface]) := by
  intro w M I H
  have hb := datB_iff.2 h
  have hy1 := h.y1
  have hy2 := h.y2
  have hm1 := h.m1
  have hm2 := h.m2
  obtain ⟨o1, o2, o3, o4⟩ := on_ok h1 h2
  have el : lenG (onY y m n) (onM y m n) = lenM (onY y m n) (onM y m n) := lenG_eq o1 o2 o3 o4
  have ea : IntKind.i64.wrap (IntKind.i64.wrap (IntKind.i64.wrap (IntKind.i64.wrap (IntKind.i64.wrap (y - 1) * 12) + m) - 1) + n) = (y - 1) * 12 + m - 1 + n := by
    rw [i64w (n := y - 1) (by omega) (by omega), i64w (n := (y - 1) * 12) (by omega) (by omega), i64w (n := (y - 1) * 12 + m) (by omega) (by omega), i64w (n := (y - 1) * 12 + m - 1) (by omega) (by omega), i64w (by omega) (by omega)]
  have eq : IntKind.i64.wrap ((IntKind.i64.wrap (IntKind.i64.wrap (IntKind.i64.wrap (IntKind.i64.wrap (IntKind.i64.wrap (y - 1) * 12) + m) - 1) + n)).tdiv 12) = onY y m n - 1 := by
    rw [ea, Int.tdiv_eq_ediv_of_nonneg h1, i64w (by omega) (by omega)]; unfold onY; omega
  have er : (IntKind.i64.wrap (IntKind.i64.wrap (IntKind.i64.wrap (IntKind.i64.wrap (IntKind.i64.wrap (y - 1) * 12) + m) - 1) + n)).tmod 12 = onM y m n - 1 := by
    rw [ea, Int.tmod_eq_emod_of_nonneg h1]; unfold onM; omega
  have hmn : (if lenM (onY y m n) (onM y m n) < d then lenM (onY y m n) (onM y m n) else d) = min d (lenM (onY y m n) (onM y m n)) := by split <;> omega
  have e3 : IntKind.i64.wrap (onY y m n - 1 + 1) = onY y m n := by rw [Int.sub_add_cancel]; exact i64w (by omega) (by omega)
  have e4 : IntKind.i64.wrap (onM y m n - 1 + 1) = onM y m n := by rw [Int.sub_add_cancel]; exact i64w (by omega) (by omega)
  refine Exe.of_ev tok Tryz.call165 Tryz.func165 rfl rfl rfl ?_
  refine box_as H (civC y m d) rfl fun b w1 H1 => ?_
  refine alloc_as tok H1 (civC 0 0 0) rfl rfl rfl fun r w2 H2 => ?_
  refine load_rule tok H2 (v := civV y m d) rfl ?_
  refine call_rule H2 (fun M I _ hh => hb ▸ dateRight y m d _ M I hh) fun _ w3 _ H3 => ?_
  refine brd (fun hq => by omega) (fun _ => ?_)
  refine brd (fun hq => by omega) (fun _ => ?_)
  refine load_rule tok H3 (v := .int .i64 y) rfl ?_
  refine load_rule tok H3 (v := .int .i64 m) rfl ?_
  refine brd (fun q => by rw [ea] at q; omega) (fun _ => ?_)
  refine brd (fun q => by rw [ea] at q; omega) (fun _ => ?_)
  refine quo_as (onY y m n - 1) (by decide) eq ?_
  refine rem_as (onM y m n - 1) (by decide) er ?_
  refine load_rule tok H3 (v := .int .i64 d) rfl ?_
  refine alloc_as tok H3 (civC 0 0 0) rfl rfl rfl fun o w4 H4 => ?_
  refine store_as tok H4 [.int .i64 (IntKind.i64.wrap (onY y m n - 1 + 1)), .int .i64 (IntKind.i64.wrap (onM y m n - 1 + 1)), .int .i64 d] rfl rfl rfl rfl rfl fun w5 H5 => ?_
  rw [e3, e4] at H5
  have H5 : Hp ⟨w, M, I⟩ [blk o (civC (onY y m n) (onM y m n) d) 155, blk r (civC 0 0 0) 155] [] w5 := Hp.keep H5
  refine draw_rule (A := [blk o (civC (onY y m n) (onM y m n) d) 155]) tok tdr H5 [2, 3, 4, 5, 6, 0, 1, 7, 8, 9] [0, 1, 0, 4, 0, 16, 60, 127, 255, 511] rfl ?_
  refine pass_kept [blk o (civC (onY y m n) (onM y m n) d) 155] (.int .i64 (onY y m n)) (fun X w h => load_rule tok h (v := .int .i64 (onY y m n)) rfl ⟨rfl, rfl⟩) ?_
  refine pass_kept [blk o (civC (onY y m n) (onM y m n) d) 155] (.int .i64 (onM y m n)) (fun X w h => load_rule tok h (v := .int .i64 (onM y m n)) rfl ⟨rfl, rfl⟩) ?_
  refine imp_rule (fun X wx h => call_rule h (fun M I _ h => length (onY y m n) (onM y m n) _ M I h) fun _ w1 _ H1 => imp_done H1 ?_)
  refine pass_kept [blk o (civC (onY y m n) (onM y m n) d) 155] (.int .i64 d) (fun X w h => load_rule tok h (v := .int .i64 d) rfl ⟨rfl, rfl⟩) ?_
  refine imp_rule (fun X wx h => store_as tok h [.int .i64 (onY y m n), .int .i64 (onM y m n), .int .i64 (if lenG (onY y m n) (onM y m n) < d then lenG (onY y m n) (onM y m n) else d)] rfl rfl rfl rfl rfl fun w1 H1 => imp_done H1 ?_)
  refine done_rule fun w6 H6 => ?_
  rw [el, hmn] at H6
  refine load_rule tok H6 (v := civV (onY y m n) (onM y m n) (min d (lenM (onY y m n) (onM y m n)))) rfl ?_
  refine store_as tok H6 (civC (onY y m n) (onM y m n) (min d (lenM (onY y m n) (onM y m n)))) rfl rfl rfl rfl rfl fun w7 H7 => ?_
  refine Exists.intro ⟨r, 0, none⟩ (Exists.intro (civV (onY y m n) (onM y m n) (min d (lenM (onY y m n) (onM y m n)))) (And.intro rfl (And.intro (Hp.ld (T := tb) tok H7 rfl) ?_)))
  exact Exists.intro () (And.intro rfl (And.intro trivial (Hp.keep H7)))
end Go.Proofs.YtgbmambkgcjhfaaGreatDoor
