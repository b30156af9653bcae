/- Terms: may they be; month by month what is due: the walks. -/
import Derived.Test.YtgbmambkgcjhfaaGreatDoorD10
set_option linter.unusedVariables false
namespace Go.Proofs.YtgbmambkgcjhfaaGreatDoor
open Go Go.Proofs Go.Wk
def inB (n lo hi : Int) : Bool := decide (lo ≤ n) && decide (n ≤ hi)
theorem within68 (n lo hi : Int) : CB 68 [.int .i64 n, .int .i64 lo, .int .i64 hi] (.bool (inB n lo hi)) := by
  intro w M I H
  refine Exe.of_ev tok Tryz.call68 Tryz.func68 rfl rfl rfl ?_
  refine brd (fun q => ?_) (fun q => ?_)
  · exact Exists.intro () (And.intro (congrArg Value.bool (by unfold inB; rw [decide_eq_true q]; simp)) (And.intro trivial H))
  · exact Exists.intro () (And.intro (congrArg Value.bool (by unfold inB; rw [decide_eq_false q]; rfl)) (And.intro trivial H))
theorem within69 (n lo hi : Int) : CB 69 [.int .i64 n, .int .i64 lo, .int .i64 hi] (.bool (inB n lo hi)) := by
  intro w M I H
  refine Exe.of_ev tok Tryz.call69 Tryz.func69 rfl rfl rfl ?_
  refine brd (fun q => ?_) (fun q => ?_)
  · exact Exists.intro () (And.intro (congrArg Value.bool (by unfold inB; rw [decide_eq_true q]; simp)) (And.intro trivial H))
  · exact Exists.intro () (And.intro (congrArg Value.bool (by unfold inB; rw [decide_eq_false q]; rfl)) (And.intro trivial H))
theorem within70 (n lo hi : Int) : CB 70 [.int .i32 n, .int .i32 lo, .int .i32 hi] (.bool (inB n lo hi)) := by
  intro w M I H
  refine Exe.of_ev tok Tryz.call70 Tryz.func70 rfl rfl rfl ?_
  refine brd (fun q => ?_) (fun q => ?_)
  · exact Exists.intro () (And.intro (congrArg Value.bool (by unfold inB; rw [decide_eq_true q]; simp)) (And.intro trivial H))
  · exact Exists.intro () (And.intro (congrArg Value.bool (by unfold inB; rw [decide_eq_false q]; rfl)) (And.intro trivial H))
/-- Terms. -/
structure Tm where
  kind : Int
  prin : Int
  parts : Int
  basis : Int
  months : Int
  start : Int
  fee : Int
  grace : Int
deriving DecidableEq
@[reducible] def tmC (t : Tm) : List Value := [.int .u8 t.kind, .int .i64 t.prin, .int .u32 t.parts, .int .u8 t.basis, .int .i64 t.months, .int .i32 t.start, .int .i64 t.fee, .int .i64 t.grace]
@[reducible] def tmV (t : Tm) : Value := .agg #[.int .u8 t.kind, .int .i64 t.prin, .int .u32 t.parts, .int .u8 t.basis, .int .i64 t.months, .int .i32 t.start, .int .i64 t.fee, .int .i64 t.grace]
structure TmIn (t : Tm) : Prop where
  kind : inK .u8 t.kind
  prin : inK .i64 t.prin
  parts : inK .u32 t.parts
  basis : inK .u8 t.basis
  months : inK .i64 t.months
  start : inK .i32 t.start
  fee : inK .i64 t.fee
  grace : inK .i64 t.grace
/-- Terms that may be. -/
structure TmOk (t : Tm) : Prop where
  kind : t.kind = 1 ∨ t.kind = 2
  prin : 1 ≤ t.prin ∧ t.prin ≤ 1000000000000
  parts : t.parts ≤ 1000000
  basis : t.basis = 1 ∨ t.basis = 2
  months : 1 ≤ t.months ∧ t.months ≤ 480
  start : 0 ≤ t.start ∧ t.start ≤ 3600000
  fee : 0 ≤ t.fee ∧ t.fee ≤ 1000000000
  grace : 0 ≤ t.grace ∧ t.grace ≤ 60
def noS (s : ByteArray) : Bool := s.toList == (⟨#[]⟩ : ByteArray).toList
def tmB (t : Tm) : Bool := !noS (lvName t.kind) && (rateB t.parts t.basis && ((inB t.prin 1 1000000000000 && inB t.fee 0 1000000000) && (inB t.months 1 480 && (inB t.start 0 3600000 && inB t.grace 0 60))))
theorem noS_lv (k : Int) : noS (lvName k) = !(decide (k = 1) || decide (k = 2)) := by
  unfold lvName
  by_cases h1 : k = 1
  · rw [if_pos h1]; simp [h1]; decide +kernel
  · by_cases h2 : k = 2
    · rw [if_neg h1, if_pos h2]; simp [h1, h2]; decide +kernel
    · rw [if_neg h1, if_neg h2]; simp [h1, h2]; decide +kernel
theorem tmB_iff {t : Tm} : tmB t = true ↔ TmOk t := by
  unfold tmB
  rw [noS_lv]
  unfold rateB inB yearS
  simp only [Bool.and_eq_true, Bool.not_not, Bool.or_eq_true, decide_eq_true_eq]
  constructor
  · rintro ⟨h1, ⟨h2, h3⟩, ⟨h4, h5⟩, h6, h7, h8⟩
    refine ⟨h1, h4, h2, ?_, h6, h7, h5, h8⟩
    split at h3
    · left; assumption
    · split at h3
      · right; assumption
      · omega
  · rintro ⟨h1, h2, h3, h4, h5, h6, h7, h8⟩
    refine ⟨h1, ⟨h3, ?_⟩, ⟨h2, h7⟩, h5, h6, h8⟩
    rcases h4 with h | h
    · rw [if_pos h]; omega
    · rw [if_neg (by omega), if_pos h]; omega
set_option maxHeartbeats 1000000 in
theorem termsRight (t : Tm) : CB 28 [tmV t] (.bool (tmB t)) := by
  intro w M I H
  refine Exe.of_ev tok Tryz.call28 Tryz.func28 rfl rfl rfl ?_
  refine cut_rule (σ := Nat) 6 (fun r => [(1, .pointer (some ⟨r, 0, none⟩)), (2, .bool false)]) (fun r w' => Hp ⟨w, M, I⟩ [blk r (tmC t) 28] [] w') rfl ?_ ?_
  · refine box_as H (tmC t) rfl fun r w1 H1 => ?_
    exact Exists.intro r (And.intro ⟨rfl, rfl, trivial⟩ H1)
  intro r j w1 H1
  refine cut_rule (σ := Unit) 8168 (fun _ => [(3, .bool (inB t.prin 1 1000000000000 && inB t.fee 0 1000000000))]) (fun _ w' => Hp ⟨w, M, I⟩ [blk r (tmC t) 28] [] w') rfl ?_ ?_
  · refine load_rule tok H1 (v := .int .i64 t.prin) rfl ?_
    refine call_rule H1 (fun M I _ h => within68 t.prin 1 1000000000000 _ M I h) fun _ w2 _ H2 => ?_
    refine br (fun q => ?_) (fun q => ?_)
    · have q : inB t.prin 1 1000000000000 = true := q
      refine load_rule tok H2 (v := .int .i64 t.fee) rfl ?_
      refine call_rule H2 (fun M I _ h => within68 t.fee 0 1000000000 _ M I h) fun _ w3 _ H3 => ?_
      exact Exists.intro () (And.intro ⟨congrArg Value.bool (by rw [q]; rfl), trivial⟩ (Hp.keep H3))
    · have q : inB t.prin 1 1000000000000 = false := q
      exact Exists.intro () (And.intro ⟨congrArg Value.bool (by rw [q]; rfl), trivial⟩ (Hp.keep H2))
  intro _ j2 w2 H2
  refine cut_rule (σ := Unit) 67100688 (fun _ => [(4, .bool (inB t.months 1 480 && (inB t.start 0 3600000 && inB t.grace 0 60)))]) (fun _ w' => Hp ⟨w, M, I⟩ [blk r (tmC t) 28] [] w') rfl ?_ ?_
  · refine load_rule tok H2 (v := .int .i64 t.months) rfl ?_
    refine call_rule H2 (fun M I _ h => within69 t.months 1 480 _ M I h) fun _ w3 _ H3 => ?_
    refine br (fun q => ?_) (fun q => ?_)
    · have q : inB t.months 1 480 = true := q
      refine load_rule tok H3 (v := .int .i32 t.start) rfl ?_
      refine call_rule H3 (fun M I _ h => within70 t.start 0 3600000 _ M I h) fun _ w4 _ H4 => ?_
      refine br (fun q2 => ?_) (fun q2 => ?_)
      · have q2 : inB t.start 0 3600000 = true := q2
        refine load_rule tok H4 (v := .int .i64 t.grace) rfl ?_
        refine call_rule H4 (fun M I _ h => within69 t.grace 0 60 _ M I h) fun _ w5 _ H5 => ?_
        exact Exists.intro () (And.intro ⟨congrArg Value.bool (by rw [q, q2]; rfl), trivial⟩ (Hp.keep H5))
      · have q2 : inB t.start 0 3600000 = false := q2
        exact Exists.intro () (And.intro ⟨congrArg Value.bool (by rw [q, q2]; rfl), trivial⟩ (Hp.keep H4))
    · have q : inB t.months 1 480 = false := q
      exact Exists.intro () (And.intro ⟨congrArg Value.bool (by rw [q]; rfl), trivial⟩ (Hp.keep H3))
  intro _ j3 w3 H3
  refine load_rule tok H3 (v := .int .u8 t.kind) rfl ?_
  refine call_rule H3 (fun M I _ h => levelName t.kind _ M I h) fun _ w4 _ H4 => ?_
  refine br (fun q => ?_) (fun q => ?_)
  · have q : (!noS (lvName t.kind)) = true := q
    refine load_rule tok H4 (v := rateV t.parts t.basis) rfl ?_
    refine call_rule H4 (fun M I _ h => rateRight t.parts t.basis _ M I h) fun _ w5 _ H5 => ?_
    refine br (fun q2 => ?_) (fun q2 => ?_)
    · have q2 : rateB t.parts t.basis = true := q2
      refine br (fun q3 => ?_) (fun q3 => ?_)
      · have q3 : (inB t.prin 1 1000000000000 && inB t.fee 0 1000000000) = true := q3
        exact Exists.intro () (And.intro (congrArg Value.bool (by unfold tmB; rw [q, q2, q3]; rfl)) (And.intro trivial (Hp.keep H5)))
      · have q3 : (inB t.prin 1 1000000000000 && inB t.fee 0 1000000000) = false := q3
        exact Exists.intro () (And.intro (congrArg Value.bool (by unfold tmB; rw [q, q2, q3]; rfl)) (And.intro trivial (Hp.keep H5)))
    · have q2 : rateB t.parts t.basis = false := q2
      exact Exists.intro () (And.intro (congrArg Value.bool (by unfold tmB; rw [q, q2]; rfl)) (And.intro trivial (Hp.keep H5)))
  · have q : (!noS (lvName t.kind)) = false := q
    exact Exists.intro () (And.intro (congrArg Value.bool (by unfold tmB; rw [q]; rfl)) (And.intro trivial (Hp.keep H4)))
/-- Errors that are none, joined: none. -/
@[reducible] def nilR : Rp Unit := ⟨1, Unit, fun _ _ => [.nilIface], fun _ _ => True, fun _ _ => [], fun _ _ => rfl⟩
theorem joinNil (A : Option Addr) (n c : Nat) (xs : List Unit) (w : World) (M I : BS) (H : Hp ⟨w, M, I⟩ [] [Sl nilR (.slice A n c) xs] w) :
    Ctr Tryz.prog 67 [.slice A n c] w M I (fun _ : Unit => .nilIface) (fun _ => True) (fun _ => []) (fun _ => []) := by
  obtain ⟨hnl, hc, hc2⟩ := H.sll (A := A) (n := n) (c := c)
  refine Exe.of_ev tok Tryz.call67 Tryz.func67 rfl rfl rfl ?_
  refine loop_rule tok (σ := Nat) 1046568 (fun i => [(3, .int .i64 0), (11, .int .i64 (i : Int))]) (fun i w' => i ≤ n ∧ Hp ⟨w, M, I⟩ [] [Sl nilR (.slice A n c) xs] w') (fun i => n - i) 0 rfl rfl ⟨rfl, rfl, trivial⟩ ⟨Nat.zero_le _, H⟩ ?_
  intro i j w1 hW
  have hi := hW.1
  have H1 := hW.2
  refine brd (fun hlt => ?_) (fun hge => ?_)
  · have ew : IntKind.i64.wrap ((i : Int) + 1) = ((i + 1 : Nat) : Int) := w64 (by omega) (by omega)
    refine idx_rule tok H1 rfl rfl rfl (by omega) hlt fun eb eo x hx H2 => ?_
    refine ld1_rule tok H2 (v := fun _ => .nilIface) rfl rfl (fun _ => rfl) fun _ _ H3 => ?_
    exact Exists.intro (i + 1) (And.intro ⟨rfl, congrArg (Value.int .i64) ew, trivial⟩ (And.intro (by show n - (i + 1) < n - i; omega) ⟨by omega, Hp.keep H3⟩))
  · exact Exists.intro () (And.intro rfl (And.intro trivial (Hp.keep H1)))
end Go.Proofs.YtgbmambkgcjhfaaGreatDoor
