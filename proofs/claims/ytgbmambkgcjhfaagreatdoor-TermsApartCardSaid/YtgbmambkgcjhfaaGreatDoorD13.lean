/- The document's terms: may they be; the first days, rising from one on: the walks. -/
import Derived.Test.YtgbmambkgcjhfaaGreatDoorE1
set_option linter.unusedVariables false
namespace Go.Proofs.YtgbmambkgcjhfaaGreatDoor
open Go Go.Proofs Go.Wk
theorem within62 (n lo hi : Int) : CB 62 [.int .i64 n, .int .i64 lo, .int .i64 hi] (.bool (inB n lo hi)) := by
  intro w M I H
  refine Exe.of_ev tok Tryz.call62 Tryz.func62 rfl rfl rfl ?_
  refine brd (fun q => ?_) (fun q => ?_)
  · exact Exists.intro () (And.intro (congrArg Value.bool (by unfold inB; rw [decide_eq_true q]; simp)) (And.intro trivial H))
  · exact Exists.intro () (And.intro (congrArg Value.bool (by unfold inB; rw [decide_eq_false q]; rfl)) (And.intro trivial H))
@[reducible] def rtC (t : Tm) : List Value := [.int .u8 t.kind, .int .i64 t.prin, .int .u32 t.parts, .int .u8 t.basis, .int .i64 t.months, .int .i64 t.start, .int .i64 t.fee, .int .i64 t.grace]
@[reducible] def rtV (t : Tm) : Value := .agg #[.int .u8 t.kind, .int .i64 t.prin, .int .u32 t.parts, .int .u8 t.basis, .int .i64 t.months, .int .i64 t.start, .int .i64 t.fee, .int .i64 t.grace]
def rtB (t : Tm) : Bool := inB t.kind 1 2 && (inB t.prin 1 1000000000000 && (decide (t.parts ≤ 1000000) && (inB t.basis 1 2 && (inB t.months 1 480 && (inB t.start 0 3600000 && (inB t.fee 0 1000000000 && inB t.grace 0 60))))))
theorem rtB_eq {t : Tm} : rtB t = tmB t := by
  have h : rtB t = true ↔ tmB t = true := by
    rw [tmB_iff]
    simp only [rtB, inB, Bool.and_eq_true, decide_eq_true_eq]
    constructor
    · rintro ⟨h1, h2, h3, h4, h5, h6, h7, h8⟩
      exact ⟨by omega, h2, h3, by omega, h5, h6, h7, h8⟩
    · rintro ⟨h1, h2, h3, h4, h5, h6, h7, h8⟩
      exact ⟨by omega, h2, h3, by omega, h5, h6, h7, h8⟩
  cases e : tmB t with
  | true => exact h.2 e
  | false =>
    cases e2 : rtB t with
    | false => rfl
    | true => rw [h.1 e2] at e; cases e
theorem u8i {k : Int} (h : inK .u8 k) : IntKind.i64.wrap k = k := by
  obtain ⟨a, b⟩ := h
  simp only [kLo, kHi] at a b
  exact i64w (by omega) (by omega)
theorem refRight (t : Tm) (hin : TmIn t) : CB 24 [rtV t] (.bool (rtB t)) := by
  intro w M I H
  have ek := u8i hin.kind
  have eb := u8i hin.basis
  refine Exe.of_ev tok Tryz.call24 Tryz.func24 rfl rfl rfl ?_
  refine box_as H (rtC t) rfl fun r w1 H0 => ?_
  refine load_rule tok H0 (v := .int .u8 t.kind) rfl ?_
  refine call_rule H0 (fun M I _ h => ek.symm ▸ within62 t.kind 1 2 _ M I h) fun _ v0 _ H1 => ?_
  refine br (fun q0 => ?_) (fun q0 => ?_)
  rotate_left
  · have q0 : inB (IntKind.i64.wrap t.kind) 1 2 = false := q0
    rw [ek] at q0
    exact Exists.intro () (And.intro (congrArg Value.bool (by unfold rtB; rw [q0]; rfl)) (And.intro trivial (Hp.keep H1)))
  have q0 : inB (IntKind.i64.wrap t.kind) 1 2 = true := q0
  rw [ek] at q0
  refine load_rule tok H1 (v := .int .i64 t.prin) rfl ?_
  refine call_rule H1 (fun M I _ h => within62 t.prin 1 1000000000000 _ M I h) fun _ v1 _ H2 => ?_
  refine br (fun q1 => ?_) (fun q1 => ?_)
  rotate_left
  · have q1 : inB t.prin 1 1000000000000 = false := q1
    exact Exists.intro () (And.intro (congrArg Value.bool (by unfold rtB; rw [q0, q1]; rfl)) (And.intro trivial (Hp.keep H2)))
  have q1 : inB t.prin 1 1000000000000 = true := q1
  refine load_rule tok H2 (v := .int .u32 t.parts) rfl ?_
  refine br (fun q2 => ?_) (fun q2 => ?_)
  rotate_left
  · have q2 : decide (t.parts ≤ 1000000) = false := q2
    exact Exists.intro () (And.intro (congrArg Value.bool (by unfold rtB; rw [q0, q1, q2]; rfl)) (And.intro trivial (Hp.keep H2)))
  have q2 : decide (t.parts ≤ 1000000) = true := q2
  refine load_rule tok H2 (v := .int .u8 t.basis) rfl ?_
  refine call_rule H2 (fun M I _ h => eb.symm ▸ within62 t.basis 1 2 _ M I h) fun _ v3 _ H4 => ?_
  refine br (fun q3 => ?_) (fun q3 => ?_)
  rotate_left
  · have q3 : inB (IntKind.i64.wrap t.basis) 1 2 = false := q3
    rw [eb] at q3
    exact Exists.intro () (And.intro (congrArg Value.bool (by unfold rtB; rw [q0, q1, q2, q3]; rfl)) (And.intro trivial (Hp.keep H4)))
  have q3 : inB (IntKind.i64.wrap t.basis) 1 2 = true := q3
  rw [eb] at q3
  refine load_rule tok H4 (v := .int .i64 t.months) rfl ?_
  refine call_rule H4 (fun M I _ h => within62 t.months 1 480 _ M I h) fun _ v4 _ H5 => ?_
  refine br (fun q4 => ?_) (fun q4 => ?_)
  rotate_left
  · have q4 : inB t.months 1 480 = false := q4
    exact Exists.intro () (And.intro (congrArg Value.bool (by unfold rtB; rw [q0, q1, q2, q3, q4]; rfl)) (And.intro trivial (Hp.keep H5)))
  have q4 : inB t.months 1 480 = true := q4
  refine load_rule tok H5 (v := .int .i64 t.start) rfl ?_
  refine call_rule H5 (fun M I _ h => within62 t.start 0 3600000 _ M I h) fun _ v5 _ H6 => ?_
  refine br (fun q5 => ?_) (fun q5 => ?_)
  rotate_left
  · have q5 : inB t.start 0 3600000 = false := q5
    exact Exists.intro () (And.intro (congrArg Value.bool (by unfold rtB; rw [q0, q1, q2, q3, q4, q5]; rfl)) (And.intro trivial (Hp.keep H6)))
  have q5 : inB t.start 0 3600000 = true := q5
  refine load_rule tok H6 (v := .int .i64 t.fee) rfl ?_
  refine call_rule H6 (fun M I _ h => within62 t.fee 0 1000000000 _ M I h) fun _ v6 _ H7 => ?_
  refine br (fun q6 => ?_) (fun q6 => ?_)
  rotate_left
  · have q6 : inB t.fee 0 1000000000 = false := q6
    exact Exists.intro () (And.intro (congrArg Value.bool (by unfold rtB; rw [q0, q1, q2, q3, q4, q5, q6]; rfl)) (And.intro trivial (Hp.keep H7)))
  have q6 : inB t.fee 0 1000000000 = true := q6
  refine load_rule tok H7 (v := .int .i64 t.grace) rfl ?_
  refine call_rule H7 (fun M I _ h => within62 t.grace 0 60 _ M I h) fun _ v7 _ H8 => ?_
  exact Exists.intro () (And.intro (congrArg Value.bool (by unfold rtB; rw [q0, q1, q2, q3, q4, q5, q6]; rfl)) (And.intro trivial (Hp.keep H8)))
theorem ownTm (t : Tm) (hin : TmIn t) : CB 25 [tmV t] (rtV t) := by
  intro w M I H
  have es : IntKind.i64.wrap t.start = t.start := by
    obtain ⟨a, b⟩ := hin.start
    simp only [kLo, kHi] at a b
    exact i64w (by omega) (by omega)
  refine Exe.of_ev tok Tryz.call25 Tryz.func25 rfl rfl rfl ?_
  refine box_as H (tmC t) rfl fun r w1 H1 => ?_
  refine alloc_as tok H1 (rtC ⟨0, 0, 0, 0, 0, 0, 0, 0⟩) rfl rfl rfl fun o w2 H2 => ?_
  refine load_rule tok H2 (v := .int .u8 t.kind) rfl ?_
  refine load_rule tok H2 (v := .int .i64 t.prin) rfl ?_
  refine load_rule tok H2 (v := .int .u32 t.parts) rfl ?_
  refine load_rule tok H2 (v := .int .u8 t.basis) rfl ?_
  refine load_rule tok H2 (v := .int .i64 t.months) rfl ?_
  refine load_rule tok H2 (v := .int .i32 t.start) rfl ?_
  refine load_rule tok H2 (v := .int .i64 t.fee) rfl ?_
  refine load_rule tok H2 (v := .int .i64 t.grace) rfl ?_
  refine store_as tok H2 (rtC ⟨t.kind, t.prin, t.parts, t.basis, t.months, IntKind.i64.wrap t.start, t.fee, t.grace⟩) rfl rfl rfl rfl rfl fun w3 H3 => ?_
  rw [es] at H3
  refine Exists.intro ⟨o, 0, none⟩ (Exists.intro (rtV t) (And.intro rfl (And.intro (Hp.ld (T := tb) tok H3 rfl) ?_)))
  exact Exists.intro () (And.intro rfl (And.intro trivial (Hp.keep H3)))
end Go.Proofs.YtgbmambkgcjhfaaGreatDoor
