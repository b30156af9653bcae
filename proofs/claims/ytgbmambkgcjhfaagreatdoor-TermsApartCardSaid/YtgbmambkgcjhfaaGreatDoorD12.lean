/- Month by month what is due: there is always an open day; the walk. -/
import Derived.Test.YtgbmambkgcjhfaaGreatDoorD11
set_option linter.unusedVariables false
namespace Go.Proofs.YtgbmambkgcjhfaaGreatDoor
open Go Go.Proofs Go.Wk
theorem pigeon (g : Nat → Int) (hg : ∀ a b, g a = g b → a = b) : ∀ (m : Nat) (hs : List Int), (∀ k, k < m → g k ∈ hs) → m ≤ hs.length
  | 0, _, _ => Nat.zero_le _
  | m + 1, hs, h => by
    have h1 := h m (by omega)
    have h2 := pigeon g hg m (hs.erase (g m)) fun k hk => (List.mem_erase_of_ne (fun e => by have := hg _ _ e; omega)).2 (h k (by omega))
    rw [List.length_erase_of_mem h1] at h2
    have := List.length_pos_of_mem h1
    omega
theorem open_some {hs : List Int} {d : Int} (h0 : 0 ≤ d) (h1 : d ≤ 3640000) (hl : hs.length ≤ 200) : ∃ n, d ≤ n ∧ openB hs n = true := by
  refine Classical.byContradiction fun hno => ?_
  have hno : ∀ n, d ≤ n → openB hs n = false := fun n hn => by
    cases e : openB hs n with
    | false => rfl
    | true => exact absurd ⟨n, hn, e⟩ hno
  have := pigeon (fun k => d + (7 - d % 7) % 7 + 7 * (k : Int)) (fun a b e => by have e : d + (7 - d % 7) % 7 + 7 * (a : Int) = d + (7 - d % 7) % 7 + 7 * (b : Int) := e; omega) 201 hs fun k hk => by
    have h2 := hno (d + (7 - d % 7) % 7 + 7 * (k : Int)) (by omega)
    unfold openB at h2
    have e1 : dayB (d + (7 - d % 7) % 7 + 7 * (k : Int)) = true := by simp only [dayB, Bool.and_eq_true, decide_eq_true_eq]; omega
    have e2 : decide ((d + (7 - d % 7) % 7 + 7 * (k : Int)) % 7 < 5) = true := by rw [decide_eq_true_eq]; omega
    rw [e1, e2] at h2
    simpa using h2
  omega
theorem nextR_some {hs : List Int} {d : Int} (h0 : 0 ≤ d) (h1 : d ≤ 3640000) (hl : hs.length ≤ 200) {r : Option Int} (h : nextR hs d r) : ∃ n, r = some n := by
  cases r with
  | some n => exact ⟨n, rfl⟩
  | none =>
    obtain ⟨n, h2, h3⟩ := open_some h0 h1 hl
    have := h n h2
    rw [h3] at this; cases this
theorem plainR_some {s k : Int} (hs : 0 ≤ s) (hs2 : s ≤ 3600000) (hk : 0 ≤ k) (hk2 : k ≤ 480) {r : Option Int} (h : plainR s k r) : ∃ n, r = some n ∧ 0 ≤ n ∧ n ≤ 3640000 := by
  obtain ⟨y, m, d, hD, hN, rfl⟩ := h
  have hy1 := hD.y1
  have hy2 := hD.y2
  have hm1 := hD.m1
  have hm2 := hD.m2
  have hyr := num_year hD
  rw [hN] at hyr
  have hy : y ≤ 9858 := by
    by_cases e : y ≤ 9858
    · exact e
    · have h1 := beg_mono (y := 9859) (z := y) (by omega) (by omega)
      rw [show beg 9859 = 3600560 by decide] at h1
      omega
  unfold plainV
  rw [if_neg (by omega)]
  have hon := dat_on (k := k) hD (by omega) (by omega)
  have hoy : onY y m k + 1 ≤ 9901 := by unfold onY; omega
  have hoy1 := hon.1.y1
  have hb := beg_mono (y := onY y m k + 1) (z := 9901) (by omega) hoy
  rw [show beg 9901 = 3615900 by decide] at hb
  split
  · have h1 := num_year hon.2
    have h2 := num_range hon.2
    exact ⟨_, rfl, h2.1, by omega⟩
  · have h1 := num_year hon.1
    have h2 := num_range hon.1
    exact ⟨_, rfl, h2.1, by omega⟩
theorem rollR_some {hs : List Int} {s k : Int} (h0 : 0 ≤ s) (h1 : s ≤ 3600000) (hk : 0 ≤ k) (hk2 : k ≤ 480) (hl : hs.length ≤ 200) {r : Option Int} (h : rollR hs s k r) : ∃ n, r = some n := by
  obtain ⟨p, hp, hr⟩ := h
  obtain ⟨n, rfl, hn0, hn1⟩ := plainR_some h0 h1 hk hk2 hp
  exact nextR_some hn0 hn1 hl hr
theorem rolledSome (A : Option Addr) (n c : Nat) (hs : List Int) (s k : Int) (h0 : 0 ≤ s) (h1 : s ≤ 3600000) (hk0 : 0 ≤ k) (hk : k ≤ 480) (hl : hs.length ≤ 200) (w : World) (M I : BS) (H : Hp ⟨w, M, I⟩ [] [Sl dayR (.slice A n c) hs] w) :
    Ctr Tryz.prog 66 [.slice A n c, .int .i32 s, .int .i64 k] w M I (fun d : Int => .tuple #[.int .i32 d, .nilIface]) (fun d => rollR hs s k (some d)) (fun _ => []) (fun _ => []) :=
  (rolled A n c hs s k (by simp only [dayB, Bool.and_eq_true, decide_eq_true_eq]; omega) hk0 hk w M I H).imp fun a w' ha h => by
    obtain ⟨d, rfl⟩ := rollR_some h0 h1 hk0 hk hl ha
    exact ⟨d, rfl, ha, h⟩
theorem holyB_len {hs : List Int} (h : holyB hs = true) : hs.length ≤ 200 := by
  simp only [holyB, Bool.and_eq_true, decide_eq_true_eq] at h; omega
@[reducible] def dueC (x : Int × Int) : List Value := [.int .i32 x.1, .int .i64 x.2]
@[reducible] def dueR : Rp (Int × Int) := ⟨2, Unit, fun x _ => dueC x, fun _ _ => True, fun _ _ => [], fun _ _ => rfl⟩
/-- The sums of terms. -/
def tmSums (t : Tm) : List Int := sumsGo 0 (rowsGo t.kind t.parts t.months.toNat t.prin (payV t.prin t.parts t.months.toNat))
theorem sumsGo_len : ∀ (l : List (Int × Int × Int)) (s : Int), (sumsGo s l).length = l.length
  | [], _ => rfl
  | x :: r, s => by rw [sumsGo, List.length_cons, List.length_cons, sumsGo_len r]
theorem tmSums_len (t : Tm) : (tmSums t).length = t.months.toNat := by unfold tmSums; rw [sumsGo_len, rowsGo_len]
/-- What is due, month by month. -/
structure DuesR (t : Tm) (hs : List Int) (i : Nat) (ds : List (Int × Int)) : Prop where
  len : ds.length = i
  at_ : ∀ k, k < i → ∃ day s, rollR hs t.start ((k : Int) + 1) (some day) ∧ (tmSums t)[k]? = some s ∧ ds[k]? = some (day, s)
theorem DuesR.snoc {t : Tm} {hs : List Int} {i : Nat} {ds : List (Int × Int)} (h : DuesR t hs i ds) {d s : Int} (h1 : rollR hs t.start ((i : Int) + 1) (some d)) (h2 : (tmSums t)[i]? = some s) : DuesR t hs (i + 1) (ds ++ [(d, s)]) := by
  refine ⟨by rw [List.length_append, h.len]; rfl, fun k hk => ?_⟩
  by_cases e : k = i
  · subst e
    exact ⟨d, s, h1, h2, by rw [List.getElem?_append_right (by rw [h.len]; exact Nat.le_refl _), h.len, Nat.sub_self]; rfl⟩
  · obtain ⟨day, s', q1, q2, q3⟩ := h.at_ k (by omega)
    exact ⟨day, s', q1, q2, by rw [List.getElem?_append_left (by rw [h.len]; omega)]; exact q3⟩
theorem duesNo (t : Tm) (A : Option Addr) (n c : Nat) (hs : List Int) (h : tmB t = false ∨ holyB hs = false) (w : World) (M I : BS) (H : Hp ⟨w, M, I⟩ [] [Sl dayR (.slice A n c) hs] w) :
    Ctr Tryz.prog 27 [tmV t, .slice A n c] w M I (fun _ : Unit => .tuple #[.slice none 0 0, .iface 55 (.int .i64 1)]) (fun _ => True) (fun _ => []) (fun _ => []) := by
  refine Exe.of_ev tok Tryz.call27 Tryz.func27 rfl rfl rfl ?_
  refine box_as H (tmC t) rfl fun r w1 H1 => ?_
  refine load_rule tok H1 (v := tmV t) rfl ?_
  refine call_rule H1 (fun M I _ h => termsRight t _ M I h) fun _ w2 _ H2 => ?_
  refine br (fun q => ?_) (fun q => ?_)
  · exact Exists.intro () (And.intro rfl (And.intro trivial (Hp.keep H2)))
  have q : tmB t = true := by have q : (!tmB t) = false := q; simpa using q
  have hh : holyB hs = false := h.resolve_left (by rw [q]; simp)
  refine call_rule H2 (fun M I _ h => hh ▸ holyRight A n c hs _ M I h) fun _ w3 _ H3 => ?_
  exact Exists.intro () (And.intro rfl (And.intro trivial (Hp.keep H3)))
set_option maxRecDepth 20000 in
set_option maxHeartbeats 2000000 in
theorem dues (t : Tm) (hin : TmIn t) (A : Option Addr) (n c : Nat) (hs : List Int) (ht : tmB t = true) (hh : holyB hs = true) (w : World) (M I : BS) (hM : ∀ b, ¬ M b) (H : Hp ⟨w, M, I⟩ [] [Sl dayR (.slice A n c) hs] w) :
    Ctr Tryz.prog 27 [tmV t, .slice A n c] w M I (fun a : SV × List (Int × Int) => .tuple #[.slice a.1.A a.1.n a.1.c, .nilIface]) (fun a => DuesR t hs t.months.toNat a.2) (fun _ => []) (fun a => [Sl dueR (.slice a.1.A a.1.n a.1.c) a.2]) := by
  have ok := tmB_iff.1 ht
  have hmo := ok.months
  have hst := ok.start
  have hpr := ok.prin
  have hpa := ok.parts
  have hp0 : 0 ≤ t.parts := hin.parts.1
  have em : ((t.months.toNat : Nat) : Int) = t.months := Int.toNat_of_nonneg (by omega)
  have hlv : lvRight t.prin t.parts t.basis (t.months.toNat : Int) = true := by
    have hy : 0 < yearS t.basis := by
      unfold yearS
      rcases ok.basis with h | h
      · rw [if_pos h]; omega
      · rw [if_neg (by omega), if_pos h]; omega
    rw [em]
    simp only [lvRight, rateB, coinB, Bool.and_eq_true, decide_eq_true_eq]
    exact ⟨⟨hpa, hy⟩, hpr.1, ⟨by omega, hpr.2⟩, hmo⟩
  have hrows := rows t.kind t.prin t.parts t.basis t.months.toNat ok.kind hlv hp0
  rw [em] at hrows
  have hsl := tmSums_len t
  have hlh := holyB_len hh
  refine Exe.of_ev tok Tryz.call27 Tryz.func27 rfl rfl rfl ?_
  refine box_as H (tmC t) rfl fun r w1 H1 => ?_
  refine load_rule tok H1 (v := tmV t) rfl ?_
  refine call_rule H1 (fun M I _ h => ht ▸ termsRight t _ M I h) fun _ w2 _ H2 => ?_
  refine call_rule H2 (fun M I _ h => hh ▸ holyRight A n c hs _ M I h) fun _ w3 _ H3 => ?_
  refine load_rule tok H3 (v := .int .u8 t.kind) rfl ?_
  refine load_rule tok H3 (v := .int .i64 t.prin) rfl ?_
  refine load_rule tok H3 (v := rateV t.parts t.basis) rfl ?_
  refine load_rule tok H3 (v := .int .i64 t.months) rfl ?_
  refine call_rule H3 (fun M I h0 h => hrows _ M I (h0 rfl) h) fun rw_ w4 _ H4 => ?_
  have hrl := rowsGo_len t.kind t.parts t.months.toNat t.prin (payV t.prin t.parts t.months.toNat)
  have hrn := (H4.sll (A := rw_.A) (n := rw_.n) (c := rw_.c)).1
  refine call_rule H4 (fun M I h0 h => sums rw_.A rw_.n rw_.c (rowsGo t.kind t.parts t.months.toNat t.prin (payV t.prin t.parts t.months.toNat)) (by omega) _ M I (h0 rfl) h) fun sm w5 _ H5 => ?_
  have H5 : Hp ⟨w, M, I⟩ [blk r (tmC t) 28] [Sl (Go.Wk.intR .i64) (.slice sm.A sm.n sm.c) (sumsGo 0 (rowsGo t.kind t.parts t.months.toNat t.prin (payV t.prin t.parts t.months.toNat))), Sl dayR (.slice A n c) hs] w5 := Hp.keep H5
  have H5 : Hp ⟨w, M, I⟩ [blk r (tmC t) 28] [Sl (Go.Wk.intR .i64) (.slice sm.A sm.n sm.c) (tmSums t), Sl dayR (.slice A n c) hs] w5 := H5
  have hsn := (H5.sll (A := sm.A) (n := sm.n) (c := sm.c)).1
  have H6 : Hp ⟨w, M, I⟩ [row 69 2 (.slice none 0 0) 0 (flatL dueC []), blk r (tmC t) 28] [Sl (Go.Wk.intR .i64) (.slice sm.A sm.n sm.c) (tmSums t), Sl dayR (.slice A n c) hs] w5 := Hp.nil H5 69 2
  refine loop_rule tok (σ := List (Int × Int) × SV) 36893487047907483520 (fun s => [(7, .nilIface), (8, .slice s.2.A s.1.length s.2.c), (40, .int .i64 (s.1.length : Int))])
    (fun s w' => s.1.length ≤ sm.n ∧ DuesR t hs s.1.length s.1 ∧ Hp ⟨w, M, I⟩ [row 69 2 (.slice s.2.A s.1.length s.2.c) s.1.length (flatL dueC s.1), blk r (tmC t) 28] [Sl (Go.Wk.intR .i64) (.slice sm.A sm.n sm.c) (tmSums t), Sl dayR (.slice A n c) hs] w') (fun s => sm.n - s.1.length) ([], ⟨none, 0, 0⟩) rfl rfl ⟨rfl, rfl, rfl, trivial⟩ ⟨Nat.zero_le _, ⟨rfl, fun k hk => absurd hk (Nat.not_lt_zero _)⟩, H6⟩ ?_
  intro s j w6 hW
  have hi := hW.1
  have hR := hW.2.1
  have H7 := hW.2.2
  refine brd (fun hlt => ?_) (fun hge => ?_)
  · have ew : IntKind.i64.wrap ((s.1.length : Int) + 1) = ((s.1.length + 1 : Nat) : Int) := i64w (by omega) (by omega)
    have ek : ((s.1.length + 1 : Nat) : Int) = (s.1.length : Int) + 1 := by omega
    have hdst : dayB t.start = true := by simp only [dayB, Bool.and_eq_true, decide_eq_true_eq]; omega
    refine idx_rule tok H7 rfl rfl rfl (by omega) hlt fun eb eo x hx H8 => ?_
    have hx' : (tmSums t)[s.1.length]? = some x := by simpa using hx
    refine ld1_rule tok H8 (v := fun _ => .int .i64 x) rfl rfl (fun _ => rfl) fun _ _ H9 => ?_
    refine load_rule tok H9 (v := .int .i32 t.start) rfl ?_
    refine call_rule H9 (fun M I _ h => ew.symm ▸ ek.symm ▸ rolledSome A n c hs t.start ((s.1.length : Int) + 1) (by omega) (by omega) (by omega) (by omega) hlh _ M I h) fun d w7 ha H10 => ?_
    rw [ew, ek] at ha
    refine slice_as tok H10 [.nilIface, .nilIface] rfl rfl rfl rfl rfl rfl fun g w8 H11 => ?_
    have H12 := H11.frzBlk (n := g) nilR [(), ()] hM (by decide) rfl (fun i x hx => ⟨(), trivial, by
      rcases i with _ | _ | i
      · rfl
      · rfl
      · simp at hx, rfl⟩)
    have H12 : Hp ⟨w, M, I⟩ [row 69 2 (.slice s.2.A s.1.length s.2.c) s.1.length (flatL dueC s.1), blk r (tmC t) 28] [Sl nilR (.slice (some ⟨g, 0, none⟩) 2 2) [(), ()], Sl (Go.Wk.intR .i64) (.slice sm.A sm.n sm.c) (tmSums t), Sl dayR (.slice A n c) hs] w8 := Hp.keep H12
    refine call_rule H12 (fun M I _ h => joinNil (some ⟨g, 0, none⟩) 2 2 [(), ()] _ M I h) fun _ w9 _ H13 => ?_
    refine slice_as tok H13 (dueC (d, x)) rfl rfl rfl rfl rfl rfl fun g2 w10 H14 => ?_
    refine append_rule (v := .slice s.2.A s.1.length s.2.c) (b := g2) (m := 1) (c := 1) tok H14 rfl rfl rfl rfl rfl rfl rfl rfl (by show (s.1.length + 1) * 16 ≤ _; omega) (by omega) fun A2 c2 w11 H15 => ?_
    have el : (s.1 ++ [(d, x)]).length = s.1.length + 1 := by simp
    have H16 : Hp ⟨w, M, I⟩ [row 69 2 (.slice A2 (s.1.length + 1) c2) (s.1.length + 1) (flatL dueC s.1 ++ dueC (d, x)), blk r (tmC t) 28] [Sl (Go.Wk.intR .i64) (.slice sm.A sm.n sm.c) (tmSums t), Sl dayR (.slice A n c) hs] w11 := Hp.keep H15
    rw [← flatL_snoc, ← el] at H16
    exact Exists.intro (s.1 ++ [(d, x)], ⟨A2, 0, c2⟩) (And.intro ⟨rfl, congrArg (fun k => Value.slice A2 k c2) el.symm, congrArg (Value.int .i64) (by rw [ew, el]), trivial⟩ (And.intro (by show sm.n - (s.1 ++ [(d, x)]).length < sm.n - s.1.length; omega) ⟨by show (s.1 ++ [(d, x)]).length ≤ sm.n; omega, by show DuesR t hs (s.1 ++ [(d, x)]).length _; rw [el]; exact hR.snoc ha hx', H16⟩))
  · have en : s.1.length = t.months.toNat := by omega
    have H8 := Hp.frzFlat (v := .slice s.2.A s.1.length s.2.c) H7 2 dueC (fun _ => rfl) (fun _ => True) hM (by decide) (fun _ _ => trivial)
    exact Exists.intro (⟨s.2.A, s.1.length, s.2.c⟩, s.1) (And.intro rfl (And.intro (en ▸ hR) (Hp.keep H8)))
end Go.Proofs.YtgbmambkgcjhfaaGreatDoor
