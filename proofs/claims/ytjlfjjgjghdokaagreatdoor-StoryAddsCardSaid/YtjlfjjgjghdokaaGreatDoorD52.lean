/- The document's next month, number of a date, months behind a day, open days: the walks. -/
import Derived.Test.YtjlfjjgjghdokaaGreatDoorD36
set_option linter.unusedVariables false
namespace Go.Proofs.YtjlfjjgjghdokaaGreatDoor
open Go Go.Proofs Go.Wk
def nxY (y m : Int) : Int := if m = 12 then y + 1 else y
def nxM (m : Int) : Int := if m = 12 then 1 else m + 1
theorem on_next {y m i : Int} (h1 : 1 ≤ m) (h2 : m ≤ 12) : nxY (onY y m i) (onM y m i) = onY y m (i + 1) ∧ nxM (onM y m i) = onM y m (i + 1) := by
  unfold nxY nxM onY onM
  split <;> omega
theorem on_zero {y m : Int} (h1 : 1 ≤ m) (h2 : m ≤ 12) : onY y m 0 = y ∧ onM y m 0 = m := by
  unfold onY onM; omega
theorem on_bd {y m i : Int} (hy : 1 ≤ y) (hy2 : y ≤ 9999) (h1 : 1 ≤ m) (h2 : m ≤ 12) (hi : 0 ≤ i) (hi2 : i ≤ 480) : 1 ≤ onY y m i ∧ onY y m i ≤ 10100 ∧ 1 ≤ onM y m i ∧ onM y m i ≤ 12 := by
  unfold onY onM; omega
theorem refNextM (y m : Int) (h1 : -1000000 ≤ y) (h2 : y ≤ 1000000) (h3 : -1000000 ≤ m) (h4 : m ≤ 1000000) : CB 125 [.int .i64 y, .int .i64 m, .bool false] (.tuple #[.int .i64 (nxY y m), .int .i64 (nxM m)]) := by
  intro w M I H
  refine Exe.of_ev tok Tryz.call125 Tryz.func125 rfl rfl rfl ?_
  refine br (fun q => ?_) (fun q => ?_)
  · have q : m = 12 := by have q : (m == 12) = true := q; simpa using q
    have e : IntKind.i64.wrap (y + 1) = nxY y m := by rw [i64w (by omega) (by omega)]; unfold nxY; rw [if_pos q]
    have e2 : nxM m = 1 := by unfold nxM; rw [if_pos q]
    refine Exists.intro () (And.intro ?_ (And.intro trivial (Hp.keep H)))
    show Value.tuple #[.int .i64 (IntKind.i64.wrap (y + 1)), .int .i64 1] = _
    rw [e, e2]
  · have q : ¬ m = 12 := by have q : (m == 12) = false := q; simpa using q
    have e : IntKind.i64.wrap (m + 1) = nxM m := by rw [i64w (by omega) (by omega)]; unfold nxM; rw [if_neg q]
    have e2 : nxY y m = y := by unfold nxY; rw [if_neg q]
    refine Exists.intro () (And.intro ?_ (And.intro trivial (Hp.keep H)))
    show Value.tuple #[.int .i64 y, .int .i64 (IntKind.i64.wrap (m + 1))] = _
    rw [e, e2]
/-! The number of a date. -/
theorem beg_400 {y : Int} (h : 1 ≤ y) : beg (y - (y - 1) % 400) = 146097 * ((y - 1) / 400) ∧ 1 ≤ y - (y - 1) % 400 ∧ y - (y - 1) % 400 ≤ y := by
  unfold beg; omega
set_option maxHeartbeats 1000000 in
theorem refNumber (y m d : Int) (hD : Dat y m d) : CB 126 [civV y m d] (.int .i64 (numD y m d)) := by
  intro w M I H
  have hy1 := hD.y1
  have hy2 := hD.y2
  have hm1 := hD.m1
  have hm2 := hD.m2
  have hd1 := hD.d1
  have hd2 := hD.d2
  have hlp := len_pos (y := y) (m := m)
  have hbb := beg_400 hy1
  have q1 : IntKind.i64.wrap (y - 1) = y - 1 := i64w (by omega) (by omega)
  have q2 : IntKind.i64.wrap ((IntKind.i64.wrap (y - 1)).tdiv 400) = (y - 1) / 400 := by rw [q1, Int.tdiv_eq_ediv_of_nonneg (by omega)]; exact i64w (by omega) (by omega)
  have q3 : (IntKind.i64.wrap (y - 1)).tmod 400 = (y - 1) % 400 := by rw [q1]; exact Int.tmod_eq_emod_of_nonneg (by omega)
  have q4 : IntKind.i64.wrap (146097 * ((y - 1) / 400)) = beg (y - (y - 1) % 400) := by rw [hbb.1]; exact i64w (by omega) (by omega)
  have q5 : IntKind.i64.wrap (y - (y - 1) % 400) = y - (y - 1) % 400 := i64w (by omega) (by omega)
  refine Exe.of_ev tok Tryz.call126 Tryz.func126 rfl rfl rfl ?_
  refine box_as H (civC y m d) rfl fun r w1 H1 => ?_
  refine load_rule tok H1 (v := .int .i64 y) rfl ?_
  refine quo_as ((y - 1) / 400) (by decide) q2 ?_
  refine load_rule tok H1 (v := .int .i64 y) rfl ?_
  refine load_rule tok H1 (v := .int .i64 y) rfl ?_
  refine rem_as ((y - 1) % 400) (by decide) q3 ?_
  refine loop_rule tok (σ := Int) 1073479704 (fun s => [(3, .int .i64 (beg s)), (4, .int .i64 s)]) (fun s w' => 1 ≤ s ∧ s ≤ y ∧ Hp ⟨w, M, I⟩ [blk r (civC y m d) 212] [] w') (fun s => (y - s).toNat) (y - (y - 1) % 400) rfl rfl ⟨congrArg (Value.int .i64) q4, congrArg (Value.int .i64) q5, trivial⟩ ⟨hbb.2.1, hbb.2.2, Hp.keep H1⟩ ?_
  intro s j w2 hW
  have hs1 := hW.1
  have hs2 := hW.2.1
  have H2 := hW.2.2
  have hbs := beg_succ (y := s) hs1
  have hb := beg_bounds (y := s) hs1 (by omega)
  refine load_rule tok H2 (v := .int .i64 y) rfl ?_
  refine brd (fun hlt => ?_) (fun hge => ?_)
  · have hlt : s < y := hlt
    have ew : IntKind.i64.wrap (s + 1) = s + 1 := i64w (by omega) (by omega)
    have e1 : IntKind.i64.wrap (beg s + 365) = beg s + 365 := i64w (by omega) (by omega)
    refine call_rule H2 (fun M I _ h => refLeap s hs1 (by omega) _ M I h) fun _ w3 _ H3 => ?_
    refine br (fun q => ?_) (fun q => ?_)
    · have q : leapB s = true := q
      have e2 : IntKind.i64.wrap (IntKind.i64.wrap (beg s + 365) + 1) = beg (s + 1) := by rw [e1, hbs, q, if_pos rfl]; exact i64w (by omega) (by omega)
      exact Exists.intro (s + 1) (And.intro ⟨congrArg (Value.int .i64) e2, congrArg (Value.int .i64) ew, trivial⟩ (And.intro (by show (y - (s + 1)).toNat < (y - s).toNat; omega) ⟨by show 1 ≤ s + 1; omega, by show s + 1 ≤ y; omega, Hp.keep H3⟩))
    · have q : leapB s = false := q
      have e2 : IntKind.i64.wrap (beg s + 365) = beg (s + 1) := by rw [e1, hbs, q]; simp
      exact Exists.intro (s + 1) (And.intro ⟨congrArg (Value.int .i64) e2, congrArg (Value.int .i64) ew, trivial⟩ (And.intro (by show (y - (s + 1)).toNat < (y - s).toNat; omega) ⟨by show 1 ≤ s + 1; omega, by show s + 1 ≤ y; omega, Hp.keep H3⟩))
  have hge : ¬ s < y := hge
  have es : s = y := by omega
  have e0 : beg s = beg y + offM y 1 := by rw [es, off_one]; omega
  have hby := beg_bounds (y := y) hy1 (by omega)
  refine loop_rule tok (σ := Int) 4396972769320 (fun x => [(3, .int .i64 (beg y + offM y x)), (5, .int .i64 x)]) (fun x w' => 1 ≤ x ∧ x ≤ m ∧ Hp ⟨w, M, I⟩ [blk r (civC y m d) 212] [] w') (fun x => (m - x).toNat) 1 rfl rfl ⟨congrArg (Value.int .i64) e0, rfl, trivial⟩ ⟨by show (1 : Int) ≤ 1; omega, hm1, Hp.keep H2⟩ ?_
  intro x j2 w4 hX
  have hx1 := hX.1
  have hx2 := hX.2.1
  have H4 := hX.2.2
  have hob := off_bounds (y := y) (m := x) hx1 (by omega)
  refine load_rule tok H4 (v := .int .i64 m) rfl ?_
  refine brd (fun hlt => ?_) (fun hge => ?_)
  · have hlt : x < m := hlt
    have hos := off_succ (y := y) (m := x) hx1 (by omega)
    have hob2 := off_bounds (y := y) (m := x + 1) (by omega) (by omega)
    have ew : IntKind.i64.wrap (x + 1) = x + 1 := i64w (by omega) (by omega)
    have e1 : IntKind.i64.wrap (beg y + offM y x + lenM y x) = beg y + offM y (x + 1) := by rw [i64w (by omega) (by omega)]; omega
    refine load_rule tok H4 (v := .int .i64 y) rfl ?_
    refine call_rule H4 (fun M I _ h => refLength y x hy1 hy2 hx1 (by omega) _ M I h) fun _ w5 _ H5 => ?_
    exact Exists.intro (x + 1) (And.intro ⟨congrArg (Value.int .i64) e1, congrArg (Value.int .i64) ew, trivial⟩ (And.intro (by show (m - (x + 1)).toNat < (m - x).toNat; omega) ⟨by show 1 ≤ x + 1; omega, by show x + 1 ≤ m; omega, Hp.keep H5⟩))
  have hge : ¬ x < m := hge
  have ex : x = m := by omega
  have e1 : IntKind.i64.wrap (IntKind.i64.wrap (beg y + offM y x + d) - 1) = numD y m d := by
    rw [i64w (n := beg y + offM y x + d) (by omega) (by omega), i64w (by omega) (by omega), ex]; rfl
  refine load_rule tok H4 (v := .int .i64 d) rfl ?_
  exact Exists.intro () (And.intro (congrArg (Value.int .i64) e1) (And.intro trivial (Hp.keep H4)))
/-! So many months behind a day. -/
@[reducible] def rpV : Option Int → Value
  | some n => .tuple #[.int .i64 n, .int .i64 0]
  | none => .tuple #[.int .i64 0, .int .i64 12]
set_option maxRecDepth 20000 in
set_option maxHeartbeats 2000000 in
theorem refPlain (s : Int) (k : Nat) (hs0 : 0 ≤ s) (hs1 : s ≤ 3652058) (hk : k ≤ 480) (w : World) (M I : BS) (H : Hp ⟨w, M, I⟩ [] [] w) :
    Ctr Tryz.prog 71 [.int .i64 s, .int .i64 (k : Int)] w M I rpV (plainR s k) (fun _ => []) (fun _ => []) := by
  refine Exe.of_ev tok Tryz.call71 Tryz.func71 rfl rfl rfl ?_
  refine call_rule H (fun M I _ h => refCivil s hs0 hs1 _ M I h) fun a w1 ha H1 => ?_
  have hD := ha.1
  have hN := ha.2
  have hy1 := hD.y1
  have hy2 := hD.y2
  have hm1 := hD.m1
  have hm2 := hD.m2
  have hz := on_zero (y := a.1) hm1 hm2
  refine alloc_as tok H1 (civC 0 0 0) rfl rfl rfl fun c w2 H2 => ?_
  refine store_as tok H2 (civC a.1 a.2.1 a.2.2) rfl rfl rfl rfl rfl fun w3 H3 => ?_
  have H3 : Hp ⟨w, M, I⟩ [blk c (civC a.1 a.2.1 a.2.2) 212] [] w3 := Hp.keep H3
  refine draw_rule (A := []) tok tdr H3 [0, 1, 2, 3, 4, 5] [0, 1, 0, 4, 3, 31] rfl ?_
  refine pass_rule _ (fun w h => load_rule tok h (v := .int .i64 a.1) rfl ⟨rfl, rfl⟩) ?_
  refine pass_rule _ (fun w h => load_rule tok h (v := .int .i64 a.2.1) rfl ⟨rfl, rfl⟩) ?_
  refine done_rule fun w4 H4 => ?_
  refine loop_rule tok (σ := Nat) 268305280 (fun i => [(7, .int .i64 (onY a.1 a.2.1 (i : Int))), (8, .int .i64 (onM a.1 a.2.1 (i : Int))), (9, .int .i64 (i : Int))]) (fun i w' => i ≤ k ∧ Hp ⟨w, M, I⟩ [blk c (civC a.1 a.2.1 a.2.2) 212] [] w') (fun i => k - i) 0 rfl rfl ⟨congrArg (Value.int .i64) hz.1.symm, congrArg (Value.int .i64) hz.2.symm, rfl, trivial⟩ ⟨Nat.zero_le _, Hp.keep H4⟩ ?_
  intro i j w5 hW
  have hi := hW.1
  have H5 := hW.2
  have hob := on_bd (i := (i : Int)) hy1 hy2 hm1 hm2 (by omega) (by omega)
  refine brd (fun hlt => ?_) (fun hge => ?_)
  · have hlt : (i : Int) < (k : Int) := hlt
    have ew : IntKind.i64.wrap ((i : Int) + 1) = ((i + 1 : Nat) : Int) := i64w (by omega) (by omega)
    have hnx := on_next (y := a.1) (m := a.2.1) (i := (i : Int)) hm1 hm2
    have ec : ((i + 1 : Nat) : Int) = (i : Int) + 1 := rfl
    refine call_rule H5 (fun M I _ h => refNextM (onY a.1 a.2.1 i) (onM a.1 a.2.1 i) (by omega) (by omega) (by omega) (by omega) _ M I h) fun _ w6 _ H6 => ?_
    exact Exists.intro (i + 1) (And.intro ⟨congrArg (Value.int .i64) hnx.1, congrArg (Value.int .i64) hnx.2, congrArg (Value.int .i64) ew, trivial⟩ (And.intro (by show k - (i + 1) < k - i; omega) ⟨by show i + 1 ≤ k; omega, Hp.keep H6⟩))
  have hge : ¬ (i : Int) < (k : Int) := hge
  have ei : i = k := by omega
  have eY : onY a.1 a.2.1 (i : Int) = onY a.1 a.2.1 (k : Int) := by rw [ei]
  have eM : onM a.1 a.2.1 (i : Int) = onM a.1 a.2.1 (k : Int) := by rw [ei]
  rw [eY, eM]
  rw [eY, eM] at hob
  refine brd (fun q => ?_) (fun q => ?_)
  · have q : 9999 < onY a.1 a.2.1 (k : Int) := q
    have ho : 119988 ≤ (a.1 - 1) * 12 + a.2.1 - 1 + (k : Int) := by unfold onY at q; omega
    exact Exists.intro none (And.intro rfl (And.intro ⟨a.1, a.2.1, a.2.2, hD, hN, by unfold plainV; rw [if_pos ho]⟩ (Hp.keep H5)))
  have q : ¬ 9999 < onY a.1 a.2.1 (k : Int) := q
  have ho : ¬ 119988 ≤ (a.1 - 1) * 12 + a.2.1 - 1 + (k : Int) := by unfold onY at q; omega
  have hon := dat_on (k := (k : Int)) hD (by omega) (by omega)
  have hlp := len_pos (y := onY a.1 a.2.1 k) (m := onM a.1 a.2.1 k)
  refine load_rule tok H5 (v := .int .i64 a.2.2) rfl ?_
  refine draw_rule (A := []) tok tdr H5 [0, 1, 2, 3, 4, 5, 6, 7, 8, 10, 11, 12, 9, 13, 14] [0, 1, 0, 4, 15, 0, 32, 127, 255, 511, 511, 511, 3583, 8191, 16383] rfl ?_
  refine pass_rule _ (fun w h => load_rule tok h (v := .int .i64 a.1) rfl ⟨rfl, rfl⟩) ?_
  refine pass_rule _ (fun w h => load_rule tok h (v := .int .i64 a.2.1) rfl ⟨rfl, rfl⟩) ?_
  refine imp_rule (fun X wx h => call_rule h (fun M I _ h => refLength a.1 a.2.1 hy1 hy2 hm1 hm2 _ M I h) fun _ w1 _ H1 => imp_done H1 ?_)
  refine pass_rule _ (fun w h => load_rule tok h (v := .int .i64 a.2.2) rfl ⟨rfl, rfl⟩) ?_
  refine br (fun q2 => ?_) (fun q2 => ?_)
  · have q2 : (lenM a.1 a.2.1 == a.2.2) = true := q2
    have q2 : lenM a.1 a.2.1 = a.2.2 := by simpa using q2
    refine done_rule fun w6 H6 => ?_
    refine call_rule H6 (fun M I _ h => refLength (onY a.1 a.2.1 k) (onM a.1 a.2.1 k) hob.1 (by omega) hob.2.2.1 hob.2.2.2 _ M I h) fun _ w7 _ H7 => ?_
    refine call_rule H7 (fun M I _ h => refNumber _ _ _ hon.2 _ M I h) fun _ w8 _ H8 => ?_
    exact Exists.intro (some (numD (onY a.1 a.2.1 k) (onM a.1 a.2.1 k) (lenM (onY a.1 a.2.1 k) (onM a.1 a.2.1 k)))) (And.intro rfl (And.intro ⟨a.1, a.2.1, a.2.2, hD, hN, by unfold plainV; rw [if_neg ho, if_pos q2.symm]⟩ (Hp.keep H8)))
  have q2 : (lenM a.1 a.2.1 == a.2.2) = false := q2
  have q2 : ¬ a.2.2 = lenM a.1 a.2.1 := fun e => by rw [e] at q2; simp at q2
  refine imp_rule (fun X wx h => call_rule h (fun M I _ h => refLength (onY a.1 a.2.1 k) (onM a.1 a.2.1 k) hob.1 (by omega) hob.2.2.1 hob.2.2.2 _ M I h) fun _ w1 _ H1 => imp_done H1 ?_)
  refine done_rule fun w6 H6 => ?_
  refine brd (fun q3 => ?_) (fun q3 => ?_)
  · have q3 : lenM (onY a.1 a.2.1 k) (onM a.1 a.2.1 k) < a.2.2 := q3
    refine call_rule H6 (fun M I _ h => refLength (onY a.1 a.2.1 k) (onM a.1 a.2.1 k) hob.1 (by omega) hob.2.2.1 hob.2.2.2 _ M I h) fun _ w7 _ H7 => ?_
    refine call_rule H7 (fun M I _ h => refNumber _ _ _ hon.2 _ M I h) fun _ w8 _ H8 => ?_
    exact Exists.intro (some (numD (onY a.1 a.2.1 k) (onM a.1 a.2.1 k) (lenM (onY a.1 a.2.1 k) (onM a.1 a.2.1 k)))) (And.intro rfl (And.intro ⟨a.1, a.2.1, a.2.2, hD, hN, by unfold plainV; rw [if_neg ho, if_neg q2, Int.min_eq_right (by omega)]⟩ (Hp.keep H8)))
  · have q3 : ¬ lenM (onY a.1 a.2.1 k) (onM a.1 a.2.1 k) < a.2.2 := q3
    have hon1 := hon.1
    have hmn : min a.2.2 (lenM (onY a.1 a.2.1 k) (onM a.1 a.2.1 k)) = a.2.2 := Int.min_eq_left (by omega)
    rw [hmn] at hon1
    refine call_rule H6 (fun M I _ h => refNumber _ _ _ hon1 _ M I h) fun _ w8 _ H8 => ?_
    exact Exists.intro (some (numD (onY a.1 a.2.1 k) (onM a.1 a.2.1 k) a.2.2)) (And.intro rfl (And.intro ⟨a.1, a.2.1, a.2.2, hD, hN, by unfold plainV; rw [if_neg ho, if_neg q2, hmn]⟩ (Hp.keep H8)))
/-! The first open day from one on. -/
theorem refOpen (A : Option Addr) (n c : Nat) (hs : List Int) (d : Int) (h0 : 0 ≤ d) (h1 : d ≤ 3652058) (w : World) (M I : BS) (H : Hp ⟨w, M, I⟩ [] [Sl (Go.Wk.intR .i64) (.slice A n c) hs] w) :
    Ctr Tryz.prog 127 [.slice A n c, .int .i64 d] w M I (fun _ : Unit => .bool (openB hs d)) (fun _ => True) (fun _ => []) (fun _ => []) := by
  obtain ⟨hn, hc, hc2⟩ := H.sll (A := A) (n := n) (c := c)
  have hday : dayB d = true := by simp only [dayB, Bool.and_eq_true, decide_eq_true_eq]; omega
  have hm : d.tmod 7 = d % 7 := Int.tmod_eq_emod_of_nonneg h0
  refine Exe.of_ev tok Tryz.call127 Tryz.func127 rfl rfl rfl ?_
  refine loop_rule tok (σ := Nat) 130640 (fun i => [(9, .int .i64 (i : Int))]) (fun i w' => i ≤ n ∧ hs.contains d = (hs.drop i).contains d ∧ Hp ⟨w, M, I⟩ [] [Sl (Go.Wk.intR .i64) (.slice A n c) hs] w') (fun i => n - i) 0 rfl rfl ⟨rfl, trivial⟩ ⟨Nat.zero_le _, rfl, H⟩ ?_
  intro i j w1 hW
  have hi := hW.1
  have hg := hW.2.1
  have H1 := hW.2.2
  refine brd (fun hin => ?_) (fun hno => ?_)
  · have ew : IntKind.i64.wrap ((i : Int) + 1) = ((i + 1 : Nat) : Int) := w64 (by omega) (by omega)
    refine idx_rule tok H1 rfl rfl rfl (by omega) hin fun eb eo x hx H2 => ?_
    have hx' : hs[i]? = some x := by simpa using hx
    refine ld1_rule tok H2 (v := fun _ => .int .i64 x) rfl rfl (fun _ => rfl) fun _ _ H3 => ?_
    rw [drop_one hx', List.contains_cons] at hg
    refine br (fun q => ?_) (fun q => ?_)
    · have q : x = d := by have q : (x == d) = true := q; simpa using q
      refine Exists.intro () (And.intro (congrArg Value.bool ?_) (And.intro trivial (Hp.keep H3)))
      show false = openB hs d
      unfold openB
      rw [hg, q]; simp
    · have q : ¬ d = x := fun e => by have q : (x == d) = false := q; rw [e] at q; simp at q
      have q2 : (d == x) = false := by simpa using q
      rw [q2, Bool.false_or] at hg
      exact Exists.intro (i + 1) (And.intro ⟨congrArg (Value.int .i64) ew, trivial⟩ (And.intro (by show n - (i + 1) < n - i; omega) ⟨by omega, hg, Hp.keep H3⟩))
  · refine rem_as (d % 7) (by decide) hm ?_
    refine Exists.intro () (And.intro (congrArg Value.bool ?_) (And.intro trivial (Hp.keep H1)))
    show decide (d % 7 < 5) = openB hs d
    unfold openB
    rw [hg, List.drop_eq_nil_of_le (by omega), hday]; simp
theorem refNextD (A : Option Addr) (n c : Nat) (hs : List Int) (d : Int) (h0 : 0 ≤ d) (h1 : d ≤ 3652058) (w : World) (M I : BS) (H : Hp ⟨w, M, I⟩ [] [Sl (Go.Wk.intR .i64) (.slice A n c) hs] w) :
    Ctr Tryz.prog 72 [.slice A n c, .int .i64 d] w M I (fun r : Option Int => .int .i64 (r.getD (-1))) (nextR hs d) (fun _ => []) (fun _ => []) := by
  refine Exe.of_ev tok Tryz.call72 Tryz.func72 rfl rfl rfl ?_
  refine loop_rule tok (σ := Int) 8178 (fun k => [(1, .int .i64 k)]) (fun k w' => d ≤ k ∧ k ≤ 3652059 ∧ (∀ j, d ≤ j → j < k → openB hs j = false) ∧ Hp ⟨w, M, I⟩ [] [Sl (Go.Wk.intR .i64) (.slice A n c) hs] w') (fun k => (3652059 - k).toNat) d rfl rfl ⟨rfl, trivial⟩ ⟨Int.le_refl _, by omega, (fun j a b => by omega), Hp.keep H⟩ ?_
  intro k j w2 hW
  have h2 := hW.1
  have h3 := hW.2.1
  have h4 := hW.2.2.1
  have H2 := hW.2.2.2
  refine brd (fun q => ?_) (fun q => ?_)
  · have q : k ≤ 3652058 := q
    have ek : IntKind.i64.wrap (k + 1) = k + 1 := i64w (by omega) (by omega)
    refine call_rule H2 (fun M I _ h => refOpen A n c hs k (by omega) q _ M I h) fun _ w3 _ H3 => ?_
    refine br (fun qo => ?_) (fun qo => ?_)
    · have qo : openB hs k = true := qo
      exact Exists.intro (some k) (And.intro rfl (And.intro ⟨h2, qo, h4⟩ (Hp.keep H3)))
    · have qo : openB hs k = false := qo
      refine Exists.intro (k + 1) (And.intro ⟨congrArg (Value.int .i64) ek, trivial⟩ (And.intro (by show (3652059 - (k + 1)).toNat < (3652059 - k).toNat; omega) ⟨by omega, by omega, fun j a b => ?_, Hp.keep H3⟩))
      by_cases e : j = k
      · rw [e]; exact qo
      · exact h4 j a (by omega)
  · have q : ¬ k ≤ 3652058 := q
    refine Exists.intro none (And.intro rfl (And.intro (fun j a => ?_) (Hp.keep H2)))
    by_cases e : j < k
    · exact h4 j a e
    · unfold openB
      have : dayB j = false := by simp [dayB]; omega
      rw [this]; rfl
end Go.Proofs.YtjlfjjgjghdokaaGreatDoor
