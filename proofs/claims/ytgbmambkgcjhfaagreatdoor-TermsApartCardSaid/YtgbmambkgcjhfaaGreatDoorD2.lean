/- Dates of the program: a day's date, a date's day, months on: the walks. -/
import Derived.Test.YtgbmambkgcjhfaaGreatDoorD1
set_option linter.unusedVariables false
namespace Go.Proofs.YtgbmambkgcjhfaaGreatDoor
open Go Go.Proofs Go.Wk
theorem dateRight (y m d : Int) : CB 154 [civV y m d] (.bool (datB y m d)) := by
  intro w M I H
  refine Exe.of_ev tok Tryz.call154 Tryz.func154 rfl rfl rfl ?_
  refine box_as H (civC y m d) rfl fun b w1 H1 => ?_
  refine draw_rule (A := []) tok tdr H1 [0, 1, 2, 3, 6, 7, 8, 9, 10, 4, 5, 11, 12, 13] [0, 1, 3, 7, 15, 31, 15, 79, 15, 271, 975, 2047, 4095, 8191] rfl ?_
  refine pass_rule _ (fun w h => load_rule tok h (v := .int .i64 d) rfl ⟨rfl, rfl⟩) ?_
  refine brd (fun h1 => ?_) (fun h1 => ?_)
  · refine pass_rule _ (fun w h => load_rule tok h (v := .int .i64 y) rfl ⟨rfl, rfl⟩) ?_
    refine pass_rule _ (fun w h => load_rule tok h (v := .int .i64 m) rfl ⟨rfl, rfl⟩) ?_
    refine imp_rule (fun X wx h => call_rule h (fun M I _ h => length y m _ M I h) fun _ w1 _ H1 => imp_done H1 ?_)
    refine pass_rule _ (fun w h => load_rule tok h (v := .int .i64 d) rfl ⟨rfl, rfl⟩) ?_
    refine done_rule fun w3 H3 => ?_
    refine Exists.intro () (And.intro (congrArg Value.bool ?_) (And.intro trivial (Hp.keep H3)))
    show decide (d ≤ lenG y m) = datB y m d
    simp [datB, h1]
  · refine done_rule fun w3 H3 => ?_
    refine Exists.intro () (And.intro (congrArg Value.bool ?_) (And.intro trivial (Hp.keep H3)))
    show false = datB y m d
    simp [datB, h1]
theorem week (n : Int) (h : dayB n = true) : CB 87 [.int .i32 n] (.int .i64 (n % 7)) := by
  intro w M I H
  simp only [dayB, Bool.and_eq_true, decide_eq_true_eq] at h
  have ew : IntKind.i64.wrap n = n := i64w (by omega) (by omega)
  have em : (IntKind.i64.wrap n).tmod 7 = n % 7 := by rw [ew, Int.tmod_eq_emod_of_nonneg h.1]
  have hd : dayB n = true := by simp [dayB, h]
  refine Exe.of_ev tok Tryz.call87 Tryz.func87 rfl rfl rfl ?_
  refine call_rule H (fun M I _ h => hd ▸ dayRight n _ M I h) fun _ w1 _ H1 => ?_
  refine rem_as (n % 7) (by decide) em ?_
  exact Exists.intro () (And.intro rfl (And.intro trivial (Hp.keep H1)))
@[reducible] def dtV (a : Int × Int × Int) : Value := .tuple #[civV a.1 a.2.1 a.2.2, .nilIface]
theorem civilNo (n : Int) (h : dayB n = false) : CB 96 [.int .i32 n] (.tuple #[civV 0 0 0, .iface 55 (.int .i64 1)]) := by
  intro w M I H
  refine Exe.of_ev tok Tryz.call96 Tryz.func96 rfl rfl rfl ?_
  refine alloc_as tok H (civC 0 0 0) rfl rfl rfl fun r w1 H1 => ?_
  refine call_rule H1 (fun M I _ hh => h ▸ dayRight n _ M I hh) fun _ w2 _ H2 => ?_
  refine store_as tok H2 (civC 0 0 0) rfl rfl rfl rfl rfl fun w3 H3 => ?_
  refine Exists.intro ⟨r, 0, none⟩ (Exists.intro (civV 0 0 0) (And.intro rfl (And.intro (Hp.ld (T := tb) tok H3 rfl) ?_)))
  exact Exists.intro () (And.intro rfl (And.intro trivial (Hp.keep H3)))
set_option maxHeartbeats 1000000 in
theorem civil (n : Int) (h : dayB n = true) (w : World) (M I : BS) (H : Hp ⟨w, M, I⟩ [] [] w) :
    Ctr Tryz.prog 96 [.int .i32 n] w M I dtV (fun a => Dat a.1 a.2.1 a.2.2 ∧ numD a.1 a.2.1 a.2.2 = n) (fun _ => []) (fun _ => []) := by
  have hd := h
  simp only [dayB, Bool.and_eq_true, decide_eq_true_eq] at h
  have ew : IntKind.i64.wrap n = n := i64w (by omega) (by omega)
  have em : IntKind.i64.wrap (IntKind.i64.wrap n * 400) = n * 400 := by rw [ew]; exact i64w (by omega) (by omega)
  have eq : IntKind.i64.wrap ((IntKind.i64.wrap (IntKind.i64.wrap n * 400)).tdiv 146097) = n * 400 / 146097 := by rw [em, Int.tdiv_eq_ediv_of_nonneg (by omega)]; exact i64w (by omega) (by omega)
  refine Exe.of_ev tok Tryz.call96 Tryz.func96 rfl rfl rfl ?_
  refine alloc_as tok H (civC 0 0 0) rfl rfl rfl fun r w1 H1 => ?_
  refine call_rule H1 (fun M I _ hh => hd ▸ dayRight n _ M I hh) fun _ w2 _ H2 => ?_
  refine quo_as (n * 400 / 146097) (by decide) eq ?_
  have es : IntKind.i64.wrap (n * 400 / 146097 + 1) = n * 400 / 146097 + 1 := i64w (by omega) (by omega)
  refine loop_rule tok (σ := Int) 16646160 (fun y => [(4, .int .i64 y)]) (fun y w' => 1 ≤ y ∧ y ≤ 10000 ∧ Hp ⟨w, M, I⟩ [blk r (civC 0 0 0) 155] [] w') (fun y => y.toNat) (n * 400 / 146097 + 1) rfl rfl ⟨congrArg (Value.int .i64) es, trivial⟩ ⟨by omega, by omega, Hp.keep H2⟩ ?_
  intro y j w3 hW
  have hy1 := hW.1
  have hy2 := hW.2.1
  have H3 := hW.2.2
  refine call_rule H3 (fun M I _ hh => begins y hy1 (by omega) _ M I hh) fun _ w4 _ H4 => ?_
  refine brd (fun hgt => ?_) (fun hle => ?_)
  · rw [ew] at hgt
    have hy : y ≠ 1 := fun e => by rw [e, beg_one] at hgt; omega
    have ey : IntKind.i64.wrap (y - 1) = y - 1 := i64w (by omega) (by omega)
    exact Exists.intro (y - 1) (And.intro ⟨congrArg (Value.int .i64) ey, trivial⟩ (And.intro (by show (y - 1).toNat < y.toNat; omega) ⟨by omega, by omega, Hp.keep H4⟩))
  rw [ew] at hle
  refine loop_rule tok (σ := Int) 4278190096 (fun y => [(4, .int .i64 y)]) (fun y w' => 1 ≤ y ∧ y ≤ 10000 ∧ beg y ≤ n ∧ Hp ⟨w, M, I⟩ [blk r (civC 0 0 0) 155] [] w') (fun y => (10000 - y).toNat) y rfl rfl ⟨rfl, trivial⟩ ⟨hy1, hy2, by omega, Hp.keep H4⟩ ?_
  clear hy1 hy2 hle hW H3 H4
  intro y j2 w5 hW
  have hy1 := hW.1
  have hb := hW.2.2.1
  have H5 := hW.2.2.2
  have hy2 : y ≤ 9999 := by
    have h2 := hW.2.1
    by_cases e : y = 10000
    · rw [e, beg_top] at hb; omega
    · omega
  have ey : IntKind.i64.wrap (y + 1) = y + 1 := i64w (by omega) (by omega)
  refine call_rule H5 (fun M I _ hh => ey.symm ▸ begins (y + 1) (by omega) (by omega) _ M I hh) fun _ w6 _ H6 => ?_
  refine brd (fun hgt => ?_) (fun hle => ?_)
  · rw [ew, ey] at hgt
    exact Exists.intro (y + 1) (And.intro ⟨congrArg (Value.int .i64) ey, trivial⟩ (And.intro (by show (10000 - (y + 1)).toNat < (10000 - y).toNat; omega) ⟨by omega, by omega, hgt, Hp.keep H6⟩))
  rw [ew, ey] at hle
  refine call_rule H6 (fun M I _ hh => begins y hy1 (by omega) _ M I hh) fun _ w7 _ H7 => ?_
  have hbs := beg_succ hy1
  have e1 : IntKind.i64.wrap (IntKind.i64.wrap (IntKind.i64.wrap n - beg y) + 1) = n - beg y + 1 := by
    have hb0 := beg_mono (y := 1) (z := y) (by omega) hy1
    rw [beg_one] at hb0
    rw [ew, i64w (n := n - beg y) (by omega) (by omega)]
    exact i64w (by omega) (by omega)
  refine alloc_as tok H7 (civC 0 0 0) rfl rfl rfl fun c w8 H8 => ?_
  refine store_as tok H8 [.int .i64 y, .int .i64 1, .int .i64 (IntKind.i64.wrap (IntKind.i64.wrap (IntKind.i64.wrap n - beg y) + 1))] rfl rfl rfl rfl rfl fun w9 H9 => ?_
  rw [e1] at H9
  refine load_rule tok H9 (v := .int .i64 1) rfl ?_
  refine call_rule H9 (fun M I _ hh => length y 1 _ M I hh) fun _ w10 _ H10 => ?_
  refine loop_rule tok (σ := Int × Int) 2305825417027649600 (fun s => [(6, .int .i64 (lenG y s.1))])
    (fun s w' => 1 ≤ s.1 ∧ s.1 ≤ 12 ∧ 1 ≤ s.2 ∧ beg y + offM y s.1 + s.2 - 1 = n ∧ Hp ⟨w, M, I⟩ [blk c (civC y s.1 s.2) 155, blk r (civC 0 0 0) 155] [] w') (fun s => (12 - s.1).toNat) (1, n - beg y + 1) rfl rfl ⟨rfl, trivial⟩
    ⟨by show (1 : Int) ≤ 1; omega, by show (1 : Int) ≤ 12; omega, by show 1 ≤ n - beg y + 1; omega, by show beg y + offM y 1 + (n - beg y + 1) - 1 = n; rw [off_one]; omega, Hp.keep H10⟩ ?_
  intro s j3 w11 hW
  have hm1 := hW.1
  have hm2 := hW.2.1
  have hd1 := hW.2.2.1
  have hnum := hW.2.2.2.1
  have H11 := hW.2.2.2.2
  have el : lenG y s.1 = lenM y s.1 := lenG_eq hy1 hy2 hm1 hm2
  have hend := off_end (y := y)
  refine load_rule tok H11 (v := .int .i64 s.2) rfl ?_
  refine brd (fun hgt => ?_) (fun hle => ?_)
  · have hm : s.1 ≠ 12 := fun e => by
      have h1 := off_succ (y := y) (m := s.1) hm1 hm2
      rw [show s.1 + 1 = 13 by omega, hend] at h1
      rw [el] at hgt
      omega
    have hos := off_succ (y := y) (m := s.1) hm1 hm2
    have hlp := len_pos (y := y) (m := s.1)
    have ed : IntKind.i64.wrap (s.2 - lenG y s.1) = s.2 - lenG y s.1 := by
      have h3 := beg_mono (y := 1) (z := y) (by omega) hy1
      rw [beg_one] at h3
      have h4 : 0 ≤ offM y s.1 := by
        by_cases e : s.1 = 1
        · rw [e, off_one]; omega
        · have := off_mono (y := y) (m := 1) (k := s.1) (by omega) (by omega) (by omega)
          have := off_one y
          have := (len_pos (y := y) (m := 1)).1
          omega
      rw [el]
      exact i64w (by omega) (by omega)
    have em1 : IntKind.i64.wrap (s.1 + 1) = s.1 + 1 := i64w (by omega) (by omega)
    refine load_rule tok H11 (v := .int .i64 s.2) rfl ?_
    refine load_rule tok H11 (v := .int .i64 s.1) rfl ?_
    refine store_as tok H11 [.int .i64 y, .int .i64 s.1, .int .i64 (IntKind.i64.wrap (s.2 - lenG y s.1))] rfl rfl rfl rfl rfl fun w12 H12 => ?_
    refine store_as tok H12 [.int .i64 y, .int .i64 (IntKind.i64.wrap (s.1 + 1)), .int .i64 (IntKind.i64.wrap (s.2 - lenG y s.1))] rfl rfl rfl rfl rfl fun w13 H13 => ?_
    rw [ed, em1] at H13
    refine load_rule tok H13 (v := .int .i64 (s.1 + 1)) rfl ?_
    refine call_rule H13 (fun M I _ hh => length y (s.1 + 1) _ M I hh) fun _ w14 _ H14 => ?_
    exact Exists.intro (s.1 + 1, s.2 - lenG y s.1) (And.intro ⟨rfl, trivial⟩ (And.intro (by show (12 - (s.1 + 1)).toNat < (12 - s.1).toNat; omega) ⟨by show 1 ≤ s.1 + 1; omega, by show s.1 + 1 ≤ 12; omega, by show 1 ≤ s.2 - lenG y s.1; omega, by show beg y + offM y (s.1 + 1) + (s.2 - lenG y s.1) - 1 = n; omega, Hp.keep H14⟩))
  refine load_rule tok H11 (v := civV y s.1 s.2) rfl ?_
  refine store_as tok H11 (civC y s.1 s.2) rfl rfl rfl rfl rfl fun w12 H12 => ?_
  refine Exists.intro ⟨r, 0, none⟩ (Exists.intro (civV y s.1 s.2) (And.intro rfl (And.intro (Hp.ld (T := tb) tok H12 rfl) ?_)))
  exact Exists.intro (y, s.1, s.2) (And.intro rfl (And.intro ⟨⟨hy1, hy2, hm1, hm2, hd1, by show s.2 ≤ lenM y s.1; omega⟩, hnum⟩ (Hp.keep H12)))
end Go.Proofs.YtgbmambkgcjhfaaGreatDoor
