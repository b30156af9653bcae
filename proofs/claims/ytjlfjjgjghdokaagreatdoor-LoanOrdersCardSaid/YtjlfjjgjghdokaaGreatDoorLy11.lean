/- An error's number: errors.As at a number's variable. -/
import Derived.Test.YtjlfjjgjghdokaaGreatDoorLy10
import Derived.KernelRfl
namespace Go.Proofs.YtjlfjjgjghdokaaGreatDoor
open Go Go.Proofs Go.Wk Go.Extern
@[reducible] def hdl (t : Nat) : Value := .pointer (some ⟨11, t, none⟩)
namespace X
theorem typeOfE (v : Value) (w : World) : (ReflectliteType.typeOf #[.iface 100 v]).run Tryz.prog w = .ok (.iface 293 (.agg #[hdl 100])) w := by kernel_rfl
end X
end Go.Proofs.YtjlfjjgjghdokaaGreatDoor
set_option linter.unusedVariables false
namespace Go.Proofs.YtjlfjjgjghdokaaGreatDoor
open Go Go.Proofs Go.Wk
def inB (n lo hi : Int) : Bool := decide (lo ≤ n) && decide (n ≤ hi)
theorem within68 (n lo hi : Int) : CB 147 [.int .i64 n, .int .i64 lo, .int .i64 hi] (.bool (inB n lo hi)) := by
  intro w M I H
  refine Exe.of_ev tok Tryz.call147 Tryz.func147 rfl rfl rfl ?_
  refine brd (fun q => ?_) (fun q => ?_)
  · exact Exists.intro () (And.intro (congrArg Value.bool (by unfold inB; rw [decide_eq_true q]; simp)) (And.intro trivial H))
  · exact Exists.intro () (And.intro (congrArg Value.bool (by unfold inB; rw [decide_eq_false q]; rfl)) (And.intro trivial H))
theorem within69 (n lo hi : Int) : CB 148 [.int .i64 n, .int .i64 lo, .int .i64 hi] (.bool (inB n lo hi)) := by
  intro w M I H
  refine Exe.of_ev tok Tryz.call148 Tryz.func148 rfl rfl rfl ?_
  refine brd (fun q => ?_) (fun q => ?_)
  · exact Exists.intro () (And.intro (congrArg Value.bool (by unfold inB; rw [decide_eq_true q]; simp)) (And.intro trivial H))
  · exact Exists.intro () (And.intro (congrArg Value.bool (by unfold inB; rw [decide_eq_false q]; rfl)) (And.intro trivial H))
theorem within70 (n lo hi : Int) : CB 149 [.int .i32 n, .int .i32 lo, .int .i32 hi] (.bool (inB n lo hi)) := by
  intro w M I H
  refine Exe.of_ev tok Tryz.call149 Tryz.func149 rfl rfl rfl ?_
  refine brd (fun q => ?_) (fun q => ?_)
  · exact Exists.intro () (And.intro (congrArg Value.bool (by unfold inB; rw [decide_eq_true q]; simp)) (And.intro trivial H))
  · exact Exists.intro () (And.intro (congrArg Value.bool (by unfold inB; rw [decide_eq_false q]; rfl)) (And.intro trivial H))
/-- Terms. -/
structure Tm where
  kind : Int
  prin : Int
  parts : Int
  basis : Int
  months : Int
  start : Int
  fee : Int
  grace : Int
deriving DecidableEq
@[reducible] def tmC (t : Tm) : List Value := [.int .u8 t.kind, .int .i64 t.prin, .int .u32 t.parts, .int .u8 t.basis, .int .i64 t.months, .int .i32 t.start, .int .i64 t.fee, .int .i64 t.grace]
@[reducible] def tmV (t : Tm) : Value := .agg #[.int .u8 t.kind, .int .i64 t.prin, .int .u32 t.parts, .int .u8 t.basis, .int .i64 t.months, .int .i32 t.start, .int .i64 t.fee, .int .i64 t.grace]
structure TmIn (t : Tm) : Prop where
  kind : inK .u8 t.kind
  prin : inK .i64 t.prin
  parts : inK .u32 t.parts
  basis : inK .u8 t.basis
  months : inK .i64 t.months
  start : inK .i32 t.start
  fee : inK .i64 t.fee
  grace : inK .i64 t.grace
/-- Terms that may be. -/
structure TmOk (t : Tm) : Prop where
  kind : t.kind = 1 ∨ t.kind = 2
  prin : 1 ≤ t.prin ∧ t.prin ≤ 1000000000000
  parts : t.parts ≤ 1000000
  basis : t.basis = 1 ∨ t.basis = 2
  months : 1 ≤ t.months ∧ t.months ≤ 480
  start : 0 ≤ t.start ∧ t.start ≤ 3600000
  fee : 0 ≤ t.fee ∧ t.fee ≤ 1000000000
  grace : 0 ≤ t.grace ∧ t.grace ≤ 60
def noS (s : ByteArray) : Bool := s.toList == (⟨#[]⟩ : ByteArray).toList
def tmB (t : Tm) : Bool := !noS (lvName t.kind) && (rateB t.parts t.basis && ((inB t.prin 1 1000000000000 && inB t.fee 0 1000000000) && (inB t.months 1 480 && (inB t.start 0 3600000 && inB t.grace 0 60))))
theorem noS_lv (k : Int) : noS (lvName k) = !(decide (k = 1) || decide (k = 2)) := by
  unfold lvName
  by_cases h1 : k = 1
  · rw [if_pos h1]; simp [h1]; decide +kernel
  · by_cases h2 : k = 2
    · rw [if_neg h1, if_pos h2]; simp [h2]; decide +kernel
    · rw [if_neg h1, if_neg h2]; simp [h1, h2]; decide +kernel
theorem tmB_iff {t : Tm} : tmB t = true ↔ TmOk t := by
  unfold tmB
  rw [noS_lv]
  unfold rateB inB yearS
  simp only [Bool.and_eq_true, Bool.not_not, Bool.or_eq_true, decide_eq_true_eq]
  constructor
  · rintro ⟨h1, ⟨h2, h3⟩, ⟨h4, h5⟩, h6, h7, h8⟩
    refine ⟨h1, h4, h2, ?_, h6, h7, h5, h8⟩
    split at h3
    · left; assumption
    · split at h3
      · right; assumption
      · omega
  · rintro ⟨h1, h2, h3, h4, h5, h6, h7, h8⟩
    refine ⟨h1, ⟨h3, ?_⟩, ⟨h2, h7⟩, h5, h6, h8⟩
    rcases h4 with h | h
    · rw [if_pos h]; omega
    · rw [if_neg (by omega), if_pos h]; omega
set_option maxHeartbeats 1000000 in
theorem termsRight (t : Tm) : CB 85 [tmV t] (.bool (tmB t)) := by
  intro w M I H
  refine Exe.of_ev tok Tryz.call85 Tryz.func85 rfl rfl rfl ?_
  refine cut_rule (σ := Nat) 6 (fun r => [(1, .pointer (some ⟨r, 0, none⟩)), (2, .bool false)]) (fun r w' => Hp ⟨w, M, I⟩ [blk r (tmC t) 28] [] w') rfl ?_ ?_
  · refine box_as H (tmC t) rfl fun r w1 H1 => ?_
    exact Exists.intro r (And.intro ⟨rfl, rfl, trivial⟩ H1)
  intro r j w1 H1
  refine cut_rule (σ := Unit) 8168 (fun _ => [(3, .bool (inB t.prin 1 1000000000000 && inB t.fee 0 1000000000))]) (fun _ w' => Hp ⟨w, M, I⟩ [blk r (tmC t) 28] [] w') rfl ?_ ?_
  · refine load_rule tok H1 (v := .int .i64 t.prin) rfl ?_
    refine call_rule H1 (fun M I _ h => within68 t.prin 1 1000000000000 _ M I h) fun _ w2 _ H2 => ?_
    refine br (fun q => ?_) (fun q => ?_)
    · have q : inB t.prin 1 1000000000000 = true := q
      refine load_rule tok H2 (v := .int .i64 t.fee) rfl ?_
      refine call_rule H2 (fun M I _ h => within68 t.fee 0 1000000000 _ M I h) fun _ w3 _ H3 => ?_
      exact Exists.intro () (And.intro ⟨congrArg Value.bool (by rw [q]; rfl), trivial⟩ (Hp.keep H3))
    · have q : inB t.prin 1 1000000000000 = false := q
      exact Exists.intro () (And.intro ⟨congrArg Value.bool (by rw [q]; rfl), trivial⟩ (Hp.keep H2))
  intro _ j2 w2 H2
  refine cut_rule (σ := Unit) 67100688 (fun _ => [(4, .bool (inB t.months 1 480 && (inB t.start 0 3600000 && inB t.grace 0 60)))]) (fun _ w' => Hp ⟨w, M, I⟩ [blk r (tmC t) 28] [] w') rfl ?_ ?_
  · refine load_rule tok H2 (v := .int .i64 t.months) rfl ?_
    refine call_rule H2 (fun M I _ h => within69 t.months 1 480 _ M I h) fun _ w3 _ H3 => ?_
    refine br (fun q => ?_) (fun q => ?_)
    · have q : inB t.months 1 480 = true := q
      refine load_rule tok H3 (v := .int .i32 t.start) rfl ?_
      refine call_rule H3 (fun M I _ h => within70 t.start 0 3600000 _ M I h) fun _ w4 _ H4 => ?_
      refine br (fun q2 => ?_) (fun q2 => ?_)
      · have q2 : inB t.start 0 3600000 = true := q2
        refine load_rule tok H4 (v := .int .i64 t.grace) rfl ?_
        refine call_rule H4 (fun M I _ h => within69 t.grace 0 60 _ M I h) fun _ w5 _ H5 => ?_
        exact Exists.intro () (And.intro ⟨congrArg Value.bool (by rw [q, q2]; rfl), trivial⟩ (Hp.keep H5))
      · have q2 : inB t.start 0 3600000 = false := q2
        exact Exists.intro () (And.intro ⟨congrArg Value.bool (by rw [q, q2]; rfl), trivial⟩ (Hp.keep H4))
    · have q : inB t.months 1 480 = false := q
      exact Exists.intro () (And.intro ⟨congrArg Value.bool (by rw [q]; rfl), trivial⟩ (Hp.keep H3))
  intro _ j3 w3 H3
  refine load_rule tok H3 (v := .int .u8 t.kind) rfl ?_
  refine call_rule H3 (fun M I _ h => levelName t.kind _ M I h) fun _ w4 _ H4 => ?_
  refine br (fun q => ?_) (fun q => ?_)
  · have q : (!noS (lvName t.kind)) = true := q
    refine load_rule tok H4 (v := rateV t.parts t.basis) rfl ?_
    refine call_rule H4 (fun M I _ h => rateRight t.parts t.basis _ M I h) fun _ w5 _ H5 => ?_
    refine br (fun q2 => ?_) (fun q2 => ?_)
    · have q2 : rateB t.parts t.basis = true := q2
      refine br (fun q3 => ?_) (fun q3 => ?_)
      · have q3 : (inB t.prin 1 1000000000000 && inB t.fee 0 1000000000) = true := q3
        exact Exists.intro () (And.intro (congrArg Value.bool (by unfold tmB; rw [q, q2, q3]; rfl)) (And.intro trivial (Hp.keep H5)))
      · have q3 : (inB t.prin 1 1000000000000 && inB t.fee 0 1000000000) = false := q3
        exact Exists.intro () (And.intro (congrArg Value.bool (by unfold tmB; rw [q, q2, q3]; rfl)) (And.intro trivial (Hp.keep H5)))
    · have q2 : rateB t.parts t.basis = false := q2
      exact Exists.intro () (And.intro (congrArg Value.bool (by unfold tmB; rw [q, q2]; rfl)) (And.intro trivial (Hp.keep H5)))
  · have q : (!noS (lvName t.kind)) = false := q
    exact Exists.intro () (And.intro (congrArg Value.bool (by unfold tmB; rw [q]; rfl)) (And.intro trivial (Hp.keep H4)))
/-- Errors that are none, joined: none. -/
@[reducible] def nilR : Rp Unit := ⟨1, Unit, fun _ _ => [.nilIface], fun _ _ => True, fun _ _ => [], fun _ _ => rfl⟩
theorem joinNil (A : Option Addr) (n c : Nat) (xs : List Unit) (w : World) (M I : BS) (H : Hp ⟨w, M, I⟩ [] [Sl nilR (.slice A n c) xs] w) :
    Ctr Tryz.prog 83 [.slice A n c] w M I (fun _ : Unit => .nilIface) (fun _ => True) (fun _ => []) (fun _ => []) := by
  obtain ⟨hnl, hc, hc2⟩ := H.sll (A := A) (n := n) (c := c)
  refine Exe.of_ev tok Tryz.call83 Tryz.func83 rfl rfl rfl ?_
  refine loop_rule tok (σ := Nat) 1046568 (fun i => [(3, .int .i64 0), (11, .int .i64 (i : Int))]) (fun i w' => i ≤ n ∧ Hp ⟨w, M, I⟩ [] [Sl nilR (.slice A n c) xs] w') (fun i => n - i) 0 rfl rfl ⟨rfl, rfl, trivial⟩ ⟨Nat.zero_le _, H⟩ ?_
  intro i j w1 hW
  have hi := hW.1
  have H1 := hW.2
  refine brd (fun hlt => ?_) (fun hge => ?_)
  · have ew : IntKind.i64.wrap ((i : Int) + 1) = ((i + 1 : Nat) : Int) := w64 (by omega) (by omega)
    refine idx_rule tok H1 rfl rfl rfl (by omega) hlt fun eb eo x hx H2 => ?_
    refine ld1_rule tok H2 (v := fun _ => .nilIface) rfl rfl (fun _ => rfl) fun _ _ H3 => ?_
    exact Exists.intro (i + 1) (And.intro ⟨rfl, congrArg (Value.int .i64) ew, trivial⟩ (And.intro (by show n - (i + 1) < n - i; omega) ⟨by omega, Hp.keep H3⟩))
  · exact Exists.intro () (And.intro rfl (And.intro trivial (Hp.keep H1)))
end Go.Proofs.YtjlfjjgjghdokaaGreatDoor
/- Month by month what is due: there is always an open day; the walk. -/
set_option linter.unusedVariables false
namespace Go.Proofs.YtjlfjjgjghdokaaGreatDoor
open Go Go.Proofs Go.Wk
theorem pigeon (g : Nat → Int) (hg : ∀ a b, g a = g b → a = b) : ∀ (m : Nat) (hs : List Int), (∀ k, k < m → g k ∈ hs) → m ≤ hs.length
  | 0, _, _ => Nat.zero_le _
  | m + 1, hs, h => by
    have h1 := h m (by omega)
    have h2 := pigeon g hg m (hs.erase (g m)) fun k hk => (List.mem_erase_of_ne (fun e => by have := hg _ _ e; omega)).2 (h k (by omega))
    rw [List.length_erase_of_mem h1] at h2
    have := List.length_pos_of_mem h1
    omega
theorem open_some {hs : List Int} {d : Int} (h0 : 0 ≤ d) (h1 : d ≤ 3640000) (hl : hs.length ≤ 200) : ∃ n, d ≤ n ∧ openB hs n = true := by
  refine Classical.byContradiction fun hno => ?_
  have hno : ∀ n, d ≤ n → openB hs n = false := fun n hn => by
    cases e : openB hs n with
    | false => rfl
    | true => exact absurd ⟨n, hn, e⟩ hno
  have := pigeon (fun k => d + (7 - d % 7) % 7 + 7 * (k : Int)) (fun a b e => by have e : d + (7 - d % 7) % 7 + 7 * (a : Int) = d + (7 - d % 7) % 7 + 7 * (b : Int) := e; omega) 201 hs fun k hk => by
    have h2 := hno (d + (7 - d % 7) % 7 + 7 * (k : Int)) (by omega)
    unfold openB at h2
    have e1 : dayB (d + (7 - d % 7) % 7 + 7 * (k : Int)) = true := by simp only [dayB, Bool.and_eq_true, decide_eq_true_eq]; omega
    have e2 : decide ((d + (7 - d % 7) % 7 + 7 * (k : Int)) % 7 < 5) = true := by rw [decide_eq_true_eq]; omega
    rw [e1, e2] at h2
    simpa using h2
  omega
theorem nextR_some {hs : List Int} {d : Int} (h0 : 0 ≤ d) (h1 : d ≤ 3640000) (hl : hs.length ≤ 200) {r : Option Int} (h : nextR hs d r) : ∃ n, r = some n := by
  cases r with
  | some n => exact ⟨n, rfl⟩
  | none =>
    obtain ⟨n, h2, h3⟩ := open_some h0 h1 hl
    have := h n h2
    rw [h3] at this; cases this
theorem plainR_some {s k : Int} (hs : 0 ≤ s) (hs2 : s ≤ 3600000) (hk : 0 ≤ k) (hk2 : k ≤ 480) {r : Option Int} (h : plainR s k r) : ∃ n, r = some n ∧ 0 ≤ n ∧ n ≤ 3640000 := by
  obtain ⟨y, m, d, hD, hN, rfl⟩ := h
  have hy1 := hD.y1
  have hy2 := hD.y2
  have hm1 := hD.m1
  have hm2 := hD.m2
  have hyr := num_year hD
  rw [hN] at hyr
  have hy : y ≤ 9858 := by
    by_cases e : y ≤ 9858
    · exact e
    · have h1 := beg_mono (y := 9859) (z := y) (by omega) (by omega)
      rw [show beg 9859 = 3600560 by decide] at h1
      omega
  unfold plainV
  rw [if_neg (by omega)]
  have hon := dat_on (k := k) hD (by omega) (by omega)
  have hoy : onY y m k + 1 ≤ 9901 := by unfold onY; omega
  have hoy1 := hon.1.y1
  have hb := beg_mono (y := onY y m k + 1) (z := 9901) (by omega) hoy
  rw [show beg 9901 = 3615900 by decide] at hb
  split
  · have h1 := num_year hon.2
    have h2 := num_range hon.2
    exact ⟨_, rfl, h2.1, by omega⟩
  · have h1 := num_year hon.1
    have h2 := num_range hon.1
    exact ⟨_, rfl, h2.1, by omega⟩
theorem rollR_some {hs : List Int} {s k : Int} (h0 : 0 ≤ s) (h1 : s ≤ 3600000) (hk : 0 ≤ k) (hk2 : k ≤ 480) (hl : hs.length ≤ 200) {r : Option Int} (h : rollR hs s k r) : ∃ n, r = some n := by
  obtain ⟨p, hp, hr⟩ := h
  obtain ⟨n, rfl, hn0, hn1⟩ := plainR_some h0 h1 hk hk2 hp
  exact nextR_some hn0 hn1 hl hr
theorem rolledSome (A : Option Addr) (n c : Nat) (hs : List Int) (s k : Int) (h0 : 0 ≤ s) (h1 : s ≤ 3600000) (hk0 : 0 ≤ k) (hk : k ≤ 480) (hl : hs.length ≤ 200) (w : World) (M I : BS) (H : Hp ⟨w, M, I⟩ [] [Sl dayR (.slice A n c) hs] w) :
    Ctr Tryz.prog 89 [.slice A n c, .int .i32 s, .int .i64 k] w M I (fun d : Int => .tuple #[.int .i32 d, .nilIface]) (fun d => rollR hs s k (some d)) (fun _ => []) (fun _ => []) :=
  (rolled A n c hs s k (by simp only [dayB, Bool.and_eq_true, decide_eq_true_eq]; omega) hk0 hk w M I H).imp fun a w' ha h => by
    obtain ⟨d, rfl⟩ := rollR_some h0 h1 hk0 hk hl ha
    exact ⟨d, rfl, ha, h⟩
theorem holyB_len {hs : List Int} (h : holyB hs = true) : hs.length ≤ 200 := by
  simp only [holyB, Bool.and_eq_true, decide_eq_true_eq] at h; omega
@[reducible] def dueC (x : Int × Int) : List Value := [.int .i32 x.1, .int .i64 x.2]
@[reducible] def dueR : Rp (Int × Int) := ⟨2, Unit, fun x _ => dueC x, fun _ _ => True, fun _ _ => [], fun _ _ => rfl⟩
/-- The sums of terms. -/
def tmSums (t : Tm) : List Int := sumsGo 0 (rowsGo t.kind t.parts t.months.toNat t.prin (payV t.prin t.parts t.months.toNat))
theorem sumsGo_len : ∀ (l : List (Int × Int × Int)) (s : Int), (sumsGo s l).length = l.length
  | [], _ => rfl
  | x :: r, s => by rw [sumsGo, List.length_cons, List.length_cons, sumsGo_len r]
theorem tmSums_len (t : Tm) : (tmSums t).length = t.months.toNat := by unfold tmSums; rw [sumsGo_len, rowsGo_len]
/-- What is due, month by month. -/
structure DuesR (t : Tm) (hs : List Int) (i : Nat) (ds : List (Int × Int)) : Prop where
  len : ds.length = i
  at_ : ∀ k, k < i → ∃ day s, rollR hs t.start ((k : Int) + 1) (some day) ∧ (tmSums t)[k]? = some s ∧ ds[k]? = some (day, s)
theorem DuesR.snoc {t : Tm} {hs : List Int} {i : Nat} {ds : List (Int × Int)} (h : DuesR t hs i ds) {d s : Int} (h1 : rollR hs t.start ((i : Int) + 1) (some d)) (h2 : (tmSums t)[i]? = some s) : DuesR t hs (i + 1) (ds ++ [(d, s)]) := by
  refine ⟨by rw [List.length_append, h.len]; rfl, fun k hk => ?_⟩
  by_cases e : k = i
  · subst e
    exact ⟨d, s, h1, h2, by rw [List.getElem?_append_right (by rw [h.len]; exact Nat.le_refl _), h.len, Nat.sub_self]; rfl⟩
  · obtain ⟨day, s', q1, q2, q3⟩ := h.at_ k (by omega)
    exact ⟨day, s', q1, q2, by rw [List.getElem?_append_left (by rw [h.len]; omega)]; exact q3⟩
set_option maxRecDepth 20000 in
set_option maxHeartbeats 2000000 in
theorem dues (t : Tm) (hin : TmIn t) (A : Option Addr) (n c : Nat) (hs : List Int) (ht : tmB t = true) (hh : holyB hs = true) (w : World) (M I : BS) (hM : ∀ b, ¬ M b) (H : Hp ⟨w, M, I⟩ [] [Sl dayR (.slice A n c) hs] w) :
    Ctr Tryz.prog 41 [tmV t, .slice A n c] w M I (fun a : SV × List (Int × Int) => .tuple #[.slice a.1.A a.1.n a.1.c, .nilIface]) (fun a => DuesR t hs t.months.toNat a.2) (fun _ => []) (fun a => [Sl dueR (.slice a.1.A a.1.n a.1.c) a.2]) := by
  have ok := tmB_iff.1 ht
  have hmo := ok.months
  have hst := ok.start
  have hpr := ok.prin
  have hpa := ok.parts
  have hp0 : 0 ≤ t.parts := hin.parts.1
  have em : ((t.months.toNat : Nat) : Int) = t.months := Int.toNat_of_nonneg (by omega)
  have hlv : lvRight t.prin t.parts t.basis (t.months.toNat : Int) = true := by
    have hy : 0 < yearS t.basis := by
      unfold yearS
      rcases ok.basis with h | h
      · rw [if_pos h]; omega
      · rw [if_neg (by omega), if_pos h]; omega
    rw [em]
    simp only [lvRight, rateB, coinB, Bool.and_eq_true, decide_eq_true_eq]
    exact ⟨⟨hpa, hy⟩, hpr.1, ⟨by omega, hpr.2⟩, hmo⟩
  have hrows := rows t.kind t.prin t.parts t.basis t.months.toNat ok.kind hlv hp0
  rw [em] at hrows
  have hsl := tmSums_len t
  have hlh := holyB_len hh
  refine Exe.of_ev tok Tryz.call41 Tryz.func41 rfl rfl rfl ?_
  refine box_as H (tmC t) rfl fun r w1 H1 => ?_
  refine load_rule tok H1 (v := tmV t) rfl ?_
  refine call_rule H1 (fun M I _ h => ht ▸ termsRight t _ M I h) fun _ w2 _ H2 => ?_
  refine call_rule H2 (fun M I _ h => hh ▸ holyRight A n c hs _ M I h) fun _ w3 _ H3 => ?_
  refine load_rule tok H3 (v := .int .u8 t.kind) rfl ?_
  refine load_rule tok H3 (v := .int .i64 t.prin) rfl ?_
  refine load_rule tok H3 (v := rateV t.parts t.basis) rfl ?_
  refine load_rule tok H3 (v := .int .i64 t.months) rfl ?_
  refine call_rule H3 (fun M I h0 h => hrows _ M I (h0 rfl) h) fun rw_ w4 _ H4 => ?_
  have hrl := rowsGo_len t.kind t.parts t.months.toNat t.prin (payV t.prin t.parts t.months.toNat)
  have hrn := (H4.sll (A := rw_.A) (n := rw_.n) (c := rw_.c)).1
  refine call_rule H4 (fun M I h0 h => sums rw_.A rw_.n rw_.c (rowsGo t.kind t.parts t.months.toNat t.prin (payV t.prin t.parts t.months.toNat)) (by omega) _ M I (h0 rfl) h) fun sm w5 _ H5 => ?_
  have H5 : Hp ⟨w, M, I⟩ [blk r (tmC t) 28] [Sl (Go.Wk.intR .i64) (.slice sm.A sm.n sm.c) (sumsGo 0 (rowsGo t.kind t.parts t.months.toNat t.prin (payV t.prin t.parts t.months.toNat))), Sl dayR (.slice A n c) hs] w5 := Hp.keep H5
  have H5 : Hp ⟨w, M, I⟩ [blk r (tmC t) 28] [Sl (Go.Wk.intR .i64) (.slice sm.A sm.n sm.c) (tmSums t), Sl dayR (.slice A n c) hs] w5 := H5
  have hsn := (H5.sll (A := sm.A) (n := sm.n) (c := sm.c)).1
  have H6 : Hp ⟨w, M, I⟩ [row 56 2 (.slice none 0 0) 0 (flatL dueC []), blk r (tmC t) 28] [Sl (Go.Wk.intR .i64) (.slice sm.A sm.n sm.c) (tmSums t), Sl dayR (.slice A n c) hs] w5 := Hp.nil H5 56 2
  refine loop_rule tok (σ := List (Int × Int) × SV) 36893487047907483520 (fun s => [(7, .nilIface), (8, .slice s.2.A s.1.length s.2.c), (40, .int .i64 (s.1.length : Int))])
    (fun s w' => s.1.length ≤ sm.n ∧ DuesR t hs s.1.length s.1 ∧ Hp ⟨w, M, I⟩ [row 56 2 (.slice s.2.A s.1.length s.2.c) s.1.length (flatL dueC s.1), blk r (tmC t) 28] [Sl (Go.Wk.intR .i64) (.slice sm.A sm.n sm.c) (tmSums t), Sl dayR (.slice A n c) hs] w') (fun s => sm.n - s.1.length) ([], ⟨none, 0, 0⟩) rfl rfl ⟨rfl, rfl, rfl, trivial⟩ ⟨Nat.zero_le _, ⟨rfl, fun k hk => absurd hk (Nat.not_lt_zero _)⟩, H6⟩ ?_
  intro s j w6 hW
  have hi := hW.1
  have hR := hW.2.1
  have H7 := hW.2.2
  refine brd (fun hlt => ?_) (fun hge => ?_)
  · have ew : IntKind.i64.wrap ((s.1.length : Int) + 1) = ((s.1.length + 1 : Nat) : Int) := i64w (by omega) (by omega)
    have ek : ((s.1.length + 1 : Nat) : Int) = (s.1.length : Int) + 1 := by omega
    have hdst : dayB t.start = true := by simp only [dayB, Bool.and_eq_true, decide_eq_true_eq]; omega
    refine idx_rule tok H7 rfl rfl rfl (by omega) hlt fun eb eo x hx H8 => ?_
    have hx' : (tmSums t)[s.1.length]? = some x := by simpa using hx
    refine ld1_rule tok H8 (v := fun _ => .int .i64 x) rfl rfl (fun _ => rfl) fun _ _ H9 => ?_
    refine load_rule tok H9 (v := .int .i32 t.start) rfl ?_
    refine call_rule H9 (fun M I _ h => ew.symm ▸ ek.symm ▸ rolledSome A n c hs t.start ((s.1.length : Int) + 1) (by omega) (by omega) (by omega) (by omega) hlh _ M I h) fun d w7 ha H10 => ?_
    rw [ew, ek] at ha
    refine slice_as tok H10 [.nilIface, .nilIface] rfl rfl rfl rfl rfl rfl fun g w8 H11 => ?_
    have H12 := H11.frzBlk (n := g) nilR [(), ()] hM (by decide) rfl (fun i x hx => ⟨(), trivial, by
      rcases i with _ | _ | i
      · rfl
      · rfl
      · simp at hx, rfl⟩)
    have H12 : Hp ⟨w, M, I⟩ [row 56 2 (.slice s.2.A s.1.length s.2.c) s.1.length (flatL dueC s.1), blk r (tmC t) 28] [Sl nilR (.slice (some ⟨g, 0, none⟩) 2 2) [(), ()], Sl (Go.Wk.intR .i64) (.slice sm.A sm.n sm.c) (tmSums t), Sl dayR (.slice A n c) hs] w8 := Hp.keep H12
    refine call_rule H12 (fun M I _ h => joinNil (some ⟨g, 0, none⟩) 2 2 [(), ()] _ M I h) fun _ w9 _ H13 => ?_
    refine slice_as tok H13 (dueC (d, x)) rfl rfl rfl rfl rfl rfl fun g2 w10 H14 => ?_
    refine append_rule (v := .slice s.2.A s.1.length s.2.c) (b := g2) (m := 1) (c := 1) tok H14 rfl rfl rfl rfl rfl rfl rfl rfl (by show (s.1.length + 1) * 16 ≤ _; omega) (by omega) fun A2 c2 w11 H15 => ?_
    have el : (s.1 ++ [(d, x)]).length = s.1.length + 1 := by simp
    have H16 : Hp ⟨w, M, I⟩ [row 56 2 (.slice A2 (s.1.length + 1) c2) (s.1.length + 1) (flatL dueC s.1 ++ dueC (d, x)), blk r (tmC t) 28] [Sl (Go.Wk.intR .i64) (.slice sm.A sm.n sm.c) (tmSums t), Sl dayR (.slice A n c) hs] w11 := Hp.keep H15
    rw [← flatL_snoc, ← el] at H16
    exact Exists.intro (s.1 ++ [(d, x)], ⟨A2, 0, c2⟩) (And.intro ⟨rfl, congrArg (fun k => Value.slice A2 k c2) el.symm, congrArg (Value.int .i64) (by rw [ew, el]), trivial⟩ (And.intro (by show sm.n - (s.1 ++ [(d, x)]).length < sm.n - s.1.length; omega) ⟨by show (s.1 ++ [(d, x)]).length ≤ sm.n; omega, by show DuesR t hs (s.1 ++ [(d, x)]).length _; rw [el]; exact hR.snoc ha hx', H16⟩))
  · have en : s.1.length = t.months.toNat := by omega
    have H8 := Hp.frzFlat (v := .slice s.2.A s.1.length s.2.c) H7 2 dueC (fun _ => rfl) (fun _ => True) hM (by decide) (fun _ _ => trivial)
    exact Exists.intro (⟨s.2.A, s.1.length, s.2.c⟩, s.1) (And.intro rfl (And.intro (en ▸ hR) (Hp.keep H8)))
end Go.Proofs.YtjlfjjgjghdokaaGreatDoor
/- What is due rises, month by month; all of it is the principal and more: the plain law. -/
set_option linter.unusedVariables false
namespace Go.Proofs.YtjlfjjgjghdokaaGreatDoor
open Go Go.Proofs Go.Wk
end Go.Proofs.YtjlfjjgjghdokaaGreatDoor
/- The document's terms: may they be; the first days, rising from one on: the walks. -/
set_option linter.unusedVariables false
namespace Go.Proofs.YtjlfjjgjghdokaaGreatDoor
open Go Go.Proofs Go.Wk
theorem within62 (n lo hi : Int) : CB 40 [.int .i64 n, .int .i64 lo, .int .i64 hi] (.bool (inB n lo hi)) := by
  intro w M I H
  refine Exe.of_ev tok Tryz.call40 Tryz.func40 rfl rfl rfl ?_
  refine brd (fun q => ?_) (fun q => ?_)
  · exact Exists.intro () (And.intro (congrArg Value.bool (by unfold inB; rw [decide_eq_true q]; simp)) (And.intro trivial H))
  · exact Exists.intro () (And.intro (congrArg Value.bool (by unfold inB; rw [decide_eq_false q]; rfl)) (And.intro trivial H))
@[reducible] def rtC (t : Tm) : List Value := [.int .u8 t.kind, .int .i64 t.prin, .int .u32 t.parts, .int .u8 t.basis, .int .i64 t.months, .int .i64 t.start, .int .i64 t.fee, .int .i64 t.grace]
@[reducible] def rtV (t : Tm) : Value := .agg #[.int .u8 t.kind, .int .i64 t.prin, .int .u32 t.parts, .int .u8 t.basis, .int .i64 t.months, .int .i64 t.start, .int .i64 t.fee, .int .i64 t.grace]
def rtB (t : Tm) : Bool := inB t.kind 1 2 && (inB t.prin 1 1000000000000 && (decide (t.parts ≤ 1000000) && (inB t.basis 1 2 && (inB t.months 1 480 && (inB t.start 0 3600000 && (inB t.fee 0 1000000000 && inB t.grace 0 60))))))
theorem rtB_eq {t : Tm} : rtB t = tmB t := by
  have h : rtB t = true ↔ tmB t = true := by
    rw [tmB_iff]
    simp only [rtB, inB, Bool.and_eq_true, decide_eq_true_eq]
    constructor
    · rintro ⟨h1, h2, h3, h4, h5, h6, h7, h8⟩
      exact ⟨by omega, h2, h3, by omega, h5, h6, h7, h8⟩
    · rintro ⟨h1, h2, h3, h4, h5, h6, h7, h8⟩
      exact ⟨by omega, h2, h3, by omega, h5, h6, h7, h8⟩
  cases e : tmB t with
  | true => exact h.2 e
  | false =>
    cases e2 : rtB t with
    | false => rfl
    | true => rw [h.1 e2] at e; cases e
theorem u8i {k : Int} (h : inK .u8 k) : IntKind.i64.wrap k = k := by
  obtain ⟨a, b⟩ := h
  simp only [kLo, kHi] at a b
  exact i64w (by omega) (by omega)
theorem refRight (t : Tm) (hin : TmIn t) : CB 11 [rtV t] (.bool (rtB t)) := by
  intro w M I H
  have ek := u8i hin.kind
  have eb := u8i hin.basis
  refine Exe.of_ev tok Tryz.call11 Tryz.func11 rfl rfl rfl ?_
  refine box_as H (rtC t) rfl fun r w1 H0 => ?_
  refine load_rule tok H0 (v := .int .u8 t.kind) rfl ?_
  refine call_rule H0 (fun M I _ h => ek.symm ▸ within62 t.kind 1 2 _ M I h) fun _ v0 _ H1 => ?_
  refine br (fun q0 => ?_) (fun q0 => ?_)
  rotate_left
  · have q0 : inB (IntKind.i64.wrap t.kind) 1 2 = false := q0
    rw [ek] at q0
    exact Exists.intro () (And.intro (congrArg Value.bool (by unfold rtB; rw [q0]; rfl)) (And.intro trivial (Hp.keep H1)))
  have q0 : inB (IntKind.i64.wrap t.kind) 1 2 = true := q0
  rw [ek] at q0
  refine load_rule tok H1 (v := .int .i64 t.prin) rfl ?_
  refine call_rule H1 (fun M I _ h => within62 t.prin 1 1000000000000 _ M I h) fun _ v1 _ H2 => ?_
  refine br (fun q1 => ?_) (fun q1 => ?_)
  rotate_left
  · have q1 : inB t.prin 1 1000000000000 = false := q1
    exact Exists.intro () (And.intro (congrArg Value.bool (by unfold rtB; rw [q0, q1]; rfl)) (And.intro trivial (Hp.keep H2)))
  have q1 : inB t.prin 1 1000000000000 = true := q1
  refine load_rule tok H2 (v := .int .u32 t.parts) rfl ?_
  refine br (fun q2 => ?_) (fun q2 => ?_)
  rotate_left
  · have q2 : decide (t.parts ≤ 1000000) = false := q2
    exact Exists.intro () (And.intro (congrArg Value.bool (by unfold rtB; rw [q0, q1, q2]; rfl)) (And.intro trivial (Hp.keep H2)))
  have q2 : decide (t.parts ≤ 1000000) = true := q2
  refine load_rule tok H2 (v := .int .u8 t.basis) rfl ?_
  refine call_rule H2 (fun M I _ h => eb.symm ▸ within62 t.basis 1 2 _ M I h) fun _ v3 _ H4 => ?_
  refine br (fun q3 => ?_) (fun q3 => ?_)
  rotate_left
  · have q3 : inB (IntKind.i64.wrap t.basis) 1 2 = false := q3
    rw [eb] at q3
    exact Exists.intro () (And.intro (congrArg Value.bool (by unfold rtB; rw [q0, q1, q2, q3]; rfl)) (And.intro trivial (Hp.keep H4)))
  have q3 : inB (IntKind.i64.wrap t.basis) 1 2 = true := q3
  rw [eb] at q3
  refine load_rule tok H4 (v := .int .i64 t.months) rfl ?_
  refine call_rule H4 (fun M I _ h => within62 t.months 1 480 _ M I h) fun _ v4 _ H5 => ?_
  refine br (fun q4 => ?_) (fun q4 => ?_)
  rotate_left
  · have q4 : inB t.months 1 480 = false := q4
    exact Exists.intro () (And.intro (congrArg Value.bool (by unfold rtB; rw [q0, q1, q2, q3, q4]; rfl)) (And.intro trivial (Hp.keep H5)))
  have q4 : inB t.months 1 480 = true := q4
  refine load_rule tok H5 (v := .int .i64 t.start) rfl ?_
  refine call_rule H5 (fun M I _ h => within62 t.start 0 3600000 _ M I h) fun _ v5 _ H6 => ?_
  refine br (fun q5 => ?_) (fun q5 => ?_)
  rotate_left
  · have q5 : inB t.start 0 3600000 = false := q5
    exact Exists.intro () (And.intro (congrArg Value.bool (by unfold rtB; rw [q0, q1, q2, q3, q4, q5]; rfl)) (And.intro trivial (Hp.keep H6)))
  have q5 : inB t.start 0 3600000 = true := q5
  refine load_rule tok H6 (v := .int .i64 t.fee) rfl ?_
  refine call_rule H6 (fun M I _ h => within62 t.fee 0 1000000000 _ M I h) fun _ v6 _ H7 => ?_
  refine br (fun q6 => ?_) (fun q6 => ?_)
  rotate_left
  · have q6 : inB t.fee 0 1000000000 = false := q6
    exact Exists.intro () (And.intro (congrArg Value.bool (by unfold rtB; rw [q0, q1, q2, q3, q4, q5, q6]; rfl)) (And.intro trivial (Hp.keep H7)))
  have q6 : inB t.fee 0 1000000000 = true := q6
  refine load_rule tok H7 (v := .int .i64 t.grace) rfl ?_
  refine call_rule H7 (fun M I _ h => within62 t.grace 0 60 _ M I h) fun _ v7 _ H8 => ?_
  exact Exists.intro () (And.intro (congrArg Value.bool (by unfold rtB; rw [q0, q1, q2, q3, q4, q5, q6]; rfl)) (And.intro trivial (Hp.keep H8)))
end Go.Proofs.YtjlfjjgjghdokaaGreatDoor
/- The first days, rising from one on: the walk. -/
set_option linter.unusedVariables false
namespace Go.Proofs.YtjlfjjgjghdokaaGreatDoor
open Go Go.Proofs Go.Wk
end Go.Proofs.YtjlfjjgjghdokaaGreatDoor
/- What the library's variables hold; numbers and strings of the library: contracts. -/
set_option linter.unusedVariables false
namespace Go.Proofs.YtjlfjjgjghdokaaGreatDoor
open Go Go.Proofs Go.Wk Go.RowKit
theorem gPow : Tryz.prog.globalNamed "internal/strconv.uint64pow10" = some 8 := by kernel_rfl
/-- The library's variables that the code reads. -/
structure LibAt (w : World) (I : BS) (m : Int) (pe pr : Option Addr) : Prop where
  ml : (Glob 3 (.int .i64 m)).holds w I
  es : (Glob 2 (.iface 391 (.pointer pe))).holds w I
  er : (Glob 1 (.iface 391 (.pointer pr))).holds w I
  tab : (TabF Tryz.prog 8 "internal/strconv.uint64pow10" .u64 Lib.pow10Tab gPow).holds w I
def LibF : Fact where
  holds w I := ∃ m pe pr, LibAt w I m pe pr
  mono := fun ⟨m, pe, pr, h⟩ hI hw => ⟨m, pe, pr, Fact.mono _ h.ml hI hw, Fact.mono _ h.es hI hw, Fact.mono _ h.er hI hw, Fact.mono _ h.tab hI hw⟩
section
variable {B : Base} {S : List Asn} {F : List Fact} {w : World}
theorem hpLib (H : Hp B S F w) [hp : InF F LibF] : ∃ m pe pr I, LibAt w I m pe pr := by
  obtain ⟨I, m, pe, pr, h⟩ := H.fact (f := LibF)
  exact ⟨m, pe, pr, I, h⟩
/-- The error of numbers that are too large. -/
theorem rangeGlob (H : Hp B S F w) [hp : InF F LibF] : ∃ pr, Hp B S (Glob 1 (.iface 391 (.pointer pr)) :: F) w := by
  obtain ⟨h1, h2, h3, h4, h5, I, fp, hs, ha, r⟩ := H
  obtain ⟨m, pe, pr, h⟩ := ha _ hp.mem
  exact ⟨pr, h1, h2, h3, h4, h5, I, fp, hs, fun f hf => by
    rcases List.mem_cons.1 hf with rfl | hf
    · exact h.er
    · exact ha f hf, r⟩
theorem ctrLib {g : Nat} {args : List Value} {M I : BS} {α : Type} {V : α → Value} {φ : α → Prop} (H : Hp ⟨w, M, I⟩ S F w) (hc : ∀ aa w, (callFunc g aa).run Tryz.prog w = .ok (.enter g aa) w)
    (h : Calls Tryz.prog g args.toArray w fun e w' => ∃ a, e = .returned (V a) ∧ φ a ∧ Below w.heap.size w w') : Ctr Tryz.prog g args w M I V φ (fun _ => []) (fun _ => []) :=
  (Ctr.of_below H hc h).imp fun a w' hφ hh => ⟨a, rfl, hφ, (Hp.dropAll hh).facts fun I _ f hf => by cases hf⟩
end
def strOf (l : List UInt8) : ByteArray := ⟨l.toArray⟩
theorem itoa (n : Int) (h : inK .i64 n) (w : World) (M I : BS) (H : Hp ⟨w, M, I⟩ [] [LibF] w) :
    Ctr Tryz.prog 146 [.int .i64 n] w M I (fun _ : Unit => .string (strOf (Lib.itoa n))) (fun _ => True) (fun _ => []) (fun _ => []) := by
  obtain ⟨m, pe, pr, I2, hl⟩ := hpLib H
  refine ctrLib H Tryz.call146 ((Tryz.strconv_Itoa n h.1 h.2 w hl.tab.2).mono fun e w' hh => ?_)
  obtain ⟨h1, k, os, h2⟩ := hh
  exact ⟨(), h1, trivial, by rw [h2]; exact below_grow w k os⟩
theorem trimPrefix (s p : ByteArray) : CB 135 [.string s, .string p] (.string (strOf (Lib.trimPrefix s.data.toList p.data.toList))) := fun w M I H =>
  ctrLib H Tryz.call135 ((Tryz.strings_TrimPrefix s p w).mono fun e w' h => ⟨(), h.1, trivial, by rw [h.2]; exact Below.refl _ _⟩)
theorem cutS (s sep : ByteArray) (hs : s.size < 4294967281) (w : World) (M I : BS) (H : Hp ⟨w, M, I⟩ [] [LibF] w) :
    Ctr Tryz.prog 134 [.string s, .string sep] w M I (fun _ : Unit => .tuple #[.string (strOf (Lib.cut s.data.toList sep.data.toList).1), .string (strOf (Lib.cut s.data.toList sep.data.toList).2.1), .bool (Lib.cut s.data.toList sep.data.toList).2.2]) (fun _ => True) (fun _ => []) (fun _ => []) := by
  obtain ⟨m, pe, pr, I2, hl⟩ := hpLib H
  refine ctrLib H Tryz.call134 ((Tryz.strings_Cut s sep m w hs hl.ml.2).mono fun e w' hh => ?_)
  obtain ⟨h1, n, h2⟩ := hh
  exact ⟨(), h1, trivial, by rw [h2]; exact below_drew w n⟩
theorem splitS (s sep : ByteArray) (hs : s.size < 4294967281) (h1 : 1 ≤ sep.size) (w : World) (M I : BS) (H : Hp ⟨w, M, I⟩ [] [LibF] w) :
    Ctr Tryz.prog 76 [.string s, .string sep] w M I (fun g : Nat => .slice (some ⟨g, 0, none⟩) (Lib.countB s sep + 1) (Lib.countB s sep + 1)) (fun _ => True) (fun g => [blk g ((Lib.splitB sep 0 (Lib.countB s sep) s).map Value.string) 9]) (fun _ => []) := by
  obtain ⟨m, pe, pr, I2, hl⟩ := hpLib H
  refine Ctr.of_calls Tryz.call76 ((Tryz.strings_Split s sep m w hs hl.ml.2 h1).mono fun e w' hh => ?_)
  obtain ⟨h2, h3⟩ := hh
  refine ⟨w.heap.size, h2, trivial, ?_⟩
  have := (Hp.alloc H (.cells ((Lib.splitB sep 0 (Lib.countB s sep) s).map Value.string).toArray 9)).facts (F' := []) fun I _ f hf => by cases hf
  rw [h3]
  exact this
theorem belowBytes (w : World) (t : ByteArray) : Below w.heap.size w (Lib.bytesWorld w 5 t) := by
  refine ⟨rfl, rfl, rfl, ?_, fun k hk => Lib.bytesWorld_at_old w 5 t k hk⟩
  rw [Lib.bytesWorld_size]; omega
/-- A parsed number, and whether it was one. -/
theorem atoi (s : ByteArray) (hs : s.size ≤ 281474976710656) (w : World) (M I : BS) (H : Hp ⟨w, M, I⟩ [] [LibF] w) :
    Ctr Tryz.prog 79 [.string s] w M I (fun a : Int × Option Nat => .tuple #[.int .i64 a.1, match a.2 with
      | none => .nilIface
      | some N => .iface 326 (.pointer (some ⟨N, 0, none⟩))]) (fun a => match Lib.atoiAll s.data.toList with
      | .ok v => a = (v, none)
      | .range => a.1 = Lib.atoiSat s.data.toList ∧ a.2.isSome = true
      | _ => a.1 = 0 ∧ a.2.isSome = true) (fun _ => []) (fun _ => []) := by
  obtain ⟨m, pe, pr, I2, hl⟩ := hpLib H
  have hbelow := fun t => belowBytes w t
  cases h : Lib.atoiAll s.data.toList with
  | ok v =>
    refine ctrLib H Tryz.call79 ((Tryz.strconv_Atoi_ok s (by omega) v h w).mono fun e w' hh => ?_)
    exact ⟨(v, none), hh.1, rfl, by rcases hh.2 with e | ⟨t, e⟩ <;> rw [e]; exact Below.refl _ _; exact hbelow t⟩
  | range =>
    refine ctrLib H Tryz.call79 ((Tryz.strconv_Atoi_range s hs h (.iface 391 (.pointer pr)) w hl.er.2 (.inr ⟨391, .pointer pr, rfl⟩)).mono fun e w' hh => ?_)
    obtain ⟨N, h1, h2, h3, h4⟩ := hh
    exact ⟨(Lib.atoiSat s.data.toList, some N), h1, ⟨rfl, rfl⟩, h4⟩
  | _ =>
    refine ctrLib H Tryz.call79 ((Tryz.strconv_Atoi_syntax s hs h (.iface 391 (.pointer pe)) w hl.es.2 (.inr ⟨391, .pointer pe, rfl⟩)).mono fun e w' hh => ?_)
    obtain ⟨N, h1, h2, h3, h4⟩ := hh
    exact ⟨(0, some N), h1, ⟨rfl, rfl⟩, h4⟩
theorem parseU32 (s : ByteArray) (hs : s.size ≤ 281474976710656) (w : World) (M I : BS) (H : Hp ⟨w, M, I⟩ [] [LibF] w) :
    Ctr Tryz.prog 78 [.string s, .int .i64 10, .int .i64 32] w M I (fun a : Nat × Option Nat => .tuple #[.int .u64 (a.1 : Int), match a.2 with
      | none => .nilIface
      | some N => .iface 326 (.pointer (some ⟨N, 0, none⟩))]) (fun a => match Lib.parseUintB 32 s.data.toList with
      | .ok u => a = (u, none)
      | .range => a.1 = 4294967295 ∧ a.2.isSome = true
      | _ => a.1 = 0 ∧ a.2.isSome = true) (fun _ => []) (fun _ => []) := by
  obtain ⟨m, pe, pr, I2, hl⟩ := hpLib H
  cases h : Lib.parseUintB 32 s.data.toList with
  | ok v =>
    refine ctrLib H Tryz.call78 ((Tryz.strconv_ParseUint_10_at32_ok s (by omega) v h w).mono fun e w' hh => ?_)
    exact ⟨(v, none), hh.1, rfl, by rcases hh.2 with e | e <;> rw [e]; exact Below.refl _ _; exact belowBytes w s⟩
  | range =>
    refine ctrLib H Tryz.call78 ((Tryz.strconv_ParseUint_10_at32_range s hs h (.iface 391 (.pointer pr)) w hl.er.2 (.inr ⟨391, .pointer pr, rfl⟩)).mono fun e w' hh => ?_)
    obtain ⟨N, h1, h2, h3, h4⟩ := hh
    exact ⟨(4294967295, some N), h1, ⟨rfl, rfl⟩, h4⟩
  | _ =>
    refine ctrLib H Tryz.call78 ((Tryz.strconv_ParseUint_10_at32_syntax s hs h (.iface 391 (.pointer pe)) w hl.es.2 (.inr ⟨391, .pointer pe, rfl⟩)).mono fun e w' hh => ?_)
    obtain ⟨N, h1, h2, h3, h4⟩ := hh
    exact ⟨(0, some N), h1, ⟨rfl, rfl⟩, h4⟩
theorem parseI64ok (s : ByteArray) (hs : s.size ≤ 281474976710656) (v : Int) (h : Lib.parseIntB 64 s.data.toList = .ok v) (w : World) (M I : BS) (H : Hp ⟨w, M, I⟩ [] [LibF] w) :
    Ctr Tryz.prog 136 [.string s, .int .i64 10, .int .i64 64] w M I (fun _ : Unit => .tuple #[.int .i64 v, .nilIface]) (fun _ => True) (fun _ => []) (fun _ => []) :=
  ctrLib H Tryz.call136 ((Tryz.strconv_ParseInt_10_at64_ok s (by omega) v h w).mono fun e w' hh => ⟨(), hh.1, trivial, by rcases hh.2 with e | ⟨t, e⟩ <;> rw [e]; exact Below.refl _ _; exact belowBytes w t⟩)
/-- A block that is new. -/
theorem belowBlk {w w' : World} {M I : BS} {F : List Fact} (H : Hp ⟨w, M, I⟩ [] F w) (hb : Below w.heap.size w w') {N : Nat} (hN : w.heap.size ≤ N) {cs : List Value} {t : TypeId} (hc : w'.heap[N]? = some (.cells cs.toArray t (0, 0))) : Hp ⟨w, M, I⟩ [blk N cs t] F w' := by
  have hlt : N < w'.heap.size := by
    rcases Nat.lt_or_ge N w'.heap.size with h | h
    · exact h
    · rw [Array.getElem?_eq_none h] at hc; cases hc
  obtain ⟨h1, h2, h3, h4, h5, J, fp, hs, ha, r1, r2, r3, r4, r5⟩ := H
  have hJ : ∀ b, J b → b < w.heap.size := r3
  exact ⟨hb.os, hb.tape, ⟨hb.output, fun q => False.elim q⟩, hb.size, fun b hlb _ => hb.block b hlb, J, (fun b => b = N), ⟨(fun b => b = N), (fun _ => False), ⟨fun b => Iff.rfl, hc⟩, fun b e hj => by have := hJ b hj; omega, fun b _ h => h, fun b => ⟨Or.inl, fun h => h.elim id False.elim⟩, fun b h => h⟩, fun f hf => f.mono (ha f hf) (fun _ h => h) fun b hj => hb.block b (hJ b hj), r1, r2, fun b hj => Nat.lt_of_lt_of_le (hJ b hj) hb.size, fun b e => .inr (by rw [e]; exact hN), fun b e hj => by have := hJ b hj; omega⟩
/-- A number's error in its block. -/
@[reducible] def neC (a b : ByteArray) (p : Option Addr) : List Value := [.string a, .string b, .iface 391 (.pointer p)]
theorem parseI64range (s : ByteArray) (hs : s.size ≤ 281474976710656) (h : Lib.parseIntB 64 s.data.toList = .range) (pr : Option Addr) (w : World) (M I : BS) (H : Hp ⟨w, M, I⟩ [] [Glob 1 (.iface 391 (.pointer pr)), LibF] w) :
    Ctr Tryz.prog 136 [.string s, .int .i64 10, .int .i64 64] w M I (fun a : Nat => .tuple #[.int .i64 (Lib.intSat 64 s.data.toList), .iface 326 (.pointer (some ⟨a, 0, none⟩))]) (fun _ => True) (fun a => [blk a (neC ⟨#[80, 97, 114, 115, 101, 73, 110, 116]⟩ s pr) 370]) (fun _ => [Glob 1 (.iface 391 (.pointer pr))]) := by
  obtain ⟨I3, hg⟩ := H.fact (f := Glob 1 (.iface 391 (.pointer pr)))
  refine Ctr.of_calls Tryz.call136 ((Tryz.strconv_ParseInt_10_at64_range s hs h (.iface 391 (.pointer pr)) w hg.2 (.inr ⟨391, .pointer pr, rfl⟩)).mono fun e w' hk => ?_)
  obtain ⟨N, k1, k2, k3, k4⟩ := hk
  exact ⟨N, k1, trivial, (belowBlk H k4 k2 k3).facts fun I ha f hf => ha f (by rw [List.mem_singleton.1 hf]; exact List.mem_cons_self)⟩
/-- strings.Join of a block of strings of one's own. -/
theorem joinS (g n c : Nat) (xs : List ByteArray) (hx : xs.length = n) (hn : n ≤ 1000) (hc : n ≤ c) (sep : ByteArray) (hlen : (Lib.join (xs.map (·.data.toList)) sep.data.toList).length ≤ 140737488355328) (w : World) (M I : BS) (H : Hp ⟨w, M, I⟩ [blk g (xs.map Value.string) 9] [] w) :
    Ctr Tryz.prog 145 [.slice (some ⟨g, 0, none⟩) n c, .string sep] w M I (fun _ : Unit => .string (strOf (Lib.join (xs.map (·.data.toList)) sep.data.toList))) (fun _ => True) (fun _ => [blk g (xs.map Value.string) 9]) (fun _ => []) := by
  subst hx
  obtain ⟨fa, ha⟩ := Hp.own (A := blk g (xs.map Value.string) 9) (hp := ⟨.refl _⟩) H
  have hb : g < w.heap.size := (blkO g _).lt ha ((ha.1 g).2 rfl)
  have hcells := blk_cells ha
  refine (Ctr.of_below H Tryz.call145 ((Tryz.strings_Join g 0 c xs sep w (fun j x hj => by
    have := hcells j (.string x) (by rw [List.getElem?_map, hj]; rfl)
    rwa [Nat.zero_add] at this ⊢) hb (by omega) hc hlen).mono fun e w' hh => ⟨(), hh.1, trivial, hh.2⟩))
end Go.Proofs.YtjlfjjgjghdokaaGreatDoor
