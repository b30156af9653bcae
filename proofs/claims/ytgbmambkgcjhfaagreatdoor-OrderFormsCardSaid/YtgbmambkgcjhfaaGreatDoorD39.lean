/- Orders: what they are, may they be: the walks. Printed by gen39.py. -/
import Derived.Test.YtgbmambkgcjhfaaGreatDoorG7
set_option linter.unusedVariables false
namespace Go.Proofs.YtgbmambkgcjhfaaGreatDoor
open Go Go.Proofs Go.Wk Go.Pl
/-- An event. -/
structure Ev where
  seq : Int
  day : Int
  kind : Int
  amt : Int
deriving DecidableEq
/-- An order. -/
structure Od where
  kind : Int
  loan : Int
  tm : Tm
  ev : Ev
deriving DecidableEq
@[reducible] def evC (e : Ev) : List Value := [.int .u32 e.seq, .int .i32 e.day, .int .u8 e.kind, .int .i64 e.amt]
@[reducible] def evV (e : Ev) : Value := .agg #[.int .u32 e.seq, .int .i32 e.day, .int .u8 e.kind, .int .i64 e.amt]
@[reducible] def reC (e : Ev) : List Value := [.int .u32 e.seq, .int .i64 e.day, .int .u8 e.kind, .int .i64 e.amt]
@[reducible] def reV (e : Ev) : Value := .agg #[.int .u32 e.seq, .int .i64 e.day, .int .u8 e.kind, .int .i64 e.amt]
@[reducible] def odC (o : Od) : List Value := [.int .u8 o.kind, .int .u32 o.loan, .int .u8 o.tm.kind, .int .i64 o.tm.prin, .int .u32 o.tm.parts, .int .u8 o.tm.basis, .int .i64 o.tm.months, .int .i32 o.tm.start, .int .i64 o.tm.fee, .int .i64 o.tm.grace, .int .u32 o.ev.seq, .int .i32 o.ev.day, .int .u8 o.ev.kind, .int .i64 o.ev.amt]
@[reducible] def odV (o : Od) : Value := .agg #[.int .u8 o.kind, .int .u32 o.loan, .int .u8 o.tm.kind, .int .i64 o.tm.prin, .int .u32 o.tm.parts, .int .u8 o.tm.basis, .int .i64 o.tm.months, .int .i32 o.tm.start, .int .i64 o.tm.fee, .int .i64 o.tm.grace, .int .u32 o.ev.seq, .int .i32 o.ev.day, .int .u8 o.ev.kind, .int .i64 o.ev.amt]
@[reducible] def roC (o : Od) : List Value := [.int .u8 o.kind, .int .u32 o.loan, .int .u8 o.tm.kind, .int .i64 o.tm.prin, .int .u32 o.tm.parts, .int .u8 o.tm.basis, .int .i64 o.tm.months, .int .i64 o.tm.start, .int .i64 o.tm.fee, .int .i64 o.tm.grace, .int .u32 o.ev.seq, .int .i64 o.ev.day, .int .u8 o.ev.kind, .int .i64 o.ev.amt]
@[reducible] def roV (o : Od) : Value := .agg #[.int .u8 o.kind, .int .u32 o.loan, .int .u8 o.tm.kind, .int .i64 o.tm.prin, .int .u32 o.tm.parts, .int .u8 o.tm.basis, .int .i64 o.tm.months, .int .i64 o.tm.start, .int .i64 o.tm.fee, .int .i64 o.tm.grace, .int .u32 o.ev.seq, .int .i64 o.ev.day, .int .u8 o.ev.kind, .int .i64 o.ev.amt]
structure EvIn (e : Ev) : Prop where
  seq : inK .u32 e.seq
  day : inK .i32 e.day
  kind : inK .u8 e.kind
  amt : inK .i64 e.amt
structure OdIn (o : Od) : Prop where
  kind : inK .u8 o.kind
  loan : inK .u32 o.loan
  tm : TmIn o.tm
  ev : EvIn o.ev
@[reducible] def ev0 : Ev := ⟨0, 0, 0, 0⟩
@[reducible] def od0 : Od := ⟨0, 0, tm0, ev0⟩
def evEq (a b : Ev) : Bool := (a.seq == b.seq) && ((a.day == b.day) && ((a.kind == b.kind) && ((a.amt == b.amt) && true)))
theorem evEq_iff {a b : Ev} : evEq a b = true ↔ a = b := by
  unfold evEq
  cases a; cases b
  simp only [Bool.and_eq_true, beq_iff_eq, and_true, Ev.mk.injEq]
def odEq (a b : Od) : Bool := (a.kind == b.kind) && ((a.loan == b.loan) && (tmEq a.tm b.tm && (evEq a.ev b.ev && true)))
theorem odEq_iff {a b : Od} : odEq a b = true ↔ a = b := by
  unfold odEq
  cases a; cases b
  simp only [Bool.and_eq_true, beq_iff_eq, and_true, Od.mk.injEq, tmEq_iff, evEq_iff]
theorem stood30 : Tryz.prog.stoodInHeld 30 = false := by kernel_rfl
theorem stood32 : Tryz.prog.stoodInHeld 32 = false := by kernel_rfl
theorem stood36 : Tryz.prog.stoodInHeld 36 = false := by kernel_rfl
theorem stood38 : Tryz.prog.stoodInHeld 38 = false := by kernel_rfl
@[reducible] def oksL : List TypeId := [28, 25, 30, 32, 36, 38]
theorem okS2 (t : TypeId) (h : oksL.contains t = true) : Tryz.prog.stoodInHeld t = false := by
  have h2 : t = 28 ∨ t = 25 ∨ t = 30 ∨ t = 32 ∨ t = 36 ∨ t = 38 := by simpa using h
  rcases h2 with e | e | e | e | e | e <;> rw [e]
  · exact stood28
  · exact stood25
  · exact stood30
  · exact stood32
  · exact stood36
  · exact stood38
theorem guard30 : Tryz.prog.eqGuardType Tryz.prog.depth 30 = false := by kernel_rfl
theorem guard32 : Tryz.prog.eqGuardType Tryz.prog.depth 32 = false := by kernel_rfl
theorem guard36 : Tryz.prog.eqGuardType Tryz.prog.depth 36 = false := by kernel_rfl
theorem guard38 : Tryz.prog.eqGuardType Tryz.prog.depth 38 = false := by kernel_rfl
theorem tmEqV2 (a b : Tm) : leafN tb oksL 2 28 (tmV a) (tmV b) = some (tmEq a b) := rfl
theorem evEqV (a b : Ev) : leafN tb oksL 2 30 (evV a) (evV b) = some (evEq a b) := rfl
set_option maxHeartbeats 2000000 in
theorem odEqV (a b : Od) : leafN tb oksL 3 32 (odV a) (odV b) = some (odEq a b) := rfl
def rtEq (a b : Tm) : Bool := (a.kind == b.kind) && ((a.prin == b.prin) && ((a.parts == b.parts) && ((a.basis == b.basis) && ((a.months == b.months) && ((a.start == b.start) && ((a.fee == b.fee) && ((a.grace == b.grace) && true)))))))
theorem rtEq_eq (a b : Tm) : rtEq a b = tmEq a b := by
  unfold rtEq tmEq
  simp only [Bool.and_true, Bool.and_assoc]
theorem rtEqV (a b : Tm) : leafN tb oksL 2 36 (rtV a) (rtV b) = some (rtEq a b) := rfl
theorem reEqV (a b : Ev) : leafN tb oksL 2 38 (reV a) (reV b) = some (evEq a b) := rfl
def evB (e : Ev) : Bool := bif (e.kind == 4 || (e.kind == 5 || e.kind == 6)) then (dayB e.day && (decide (1 ≤ e.amt) && coinB e.amt)) else bif e.kind == 7 then (dayB e.day && (e.amt == 0)) else false
def odB (o : Od) : Bool := bif o.kind == 1 then (tmB o.tm && evEq o.ev ev0) else bif o.kind == 2 then (evB o.ev && tmEq o.tm tm0) else bif o.kind == 3 then (tmEq o.tm tm0 && evEq o.ev ⟨o.ev.seq, 0, 0, 0⟩) else bif o.kind == 4 then (tmEq o.tm tm0 && (evEq o.ev ev0 && (o.loan == 0))) else false
/-- An event that may be. -/
theorem evRight (e : Ev) : CB 41 [evV e] (.bool (evB e)) := by
  intro w M I H
  refine Exe.of_ev tok Tryz.call41 Tryz.func41 rfl rfl rfl ?_
  refine box_as H (evC e) rfl fun b w1 H1 => ?_
  refine load_rule tok H1 (v := .int .u8 e.kind) rfl ?_
  refine br (fun k4 => ?_) (fun k4 => ?_)
  · have k4 : (e.kind == 4) = true := k4
    have hk : (e.kind == 4 || (e.kind == 5 || e.kind == 6)) = true := by rw [k4]; rfl
    refine br (fun _ => ?_) (fun q => absurd (show (e.kind == 4) = false from q) (by rw [k4]; simp))
    refine load_rule tok H1 (v := .int .i32 e.day) rfl ?_
    refine call_rule H1 (fun M I _ h => dayRight e.day _ M I h) fun _ w2 _ H2 => ?_
    refine br (fun p1 => ?_) (fun p1 => ?_)
    · have p1 : dayB e.day = true := p1
      refine load_rule tok H2 (v := .int .i64 e.amt) rfl ?_
      refine brd (fun p2 => ?_) (fun p2 => ?_)
      · have p2 : 1 ≤ e.amt := p2
        refine load_rule tok H2 (v := .int .i64 e.amt) rfl ?_
        refine call_rule H2 (fun M I _ h => coinRight e.amt _ M I h) fun _ w3 _ H3 => ?_
        exact Exists.intro () (And.intro (congrArg Value.bool (by unfold evB; rw [hk, p1, decide_eq_true p2]; rfl)) (And.intro trivial (Hp.keep H3)))
      · have p2 : ¬ 1 ≤ e.amt := p2
        exact Exists.intro () (And.intro (congrArg Value.bool (by unfold evB; rw [hk, p1, decide_eq_false p2]; rfl)) (And.intro trivial (Hp.keep H2)))
    · have p1 : dayB e.day = false := p1
      exact Exists.intro () (And.intro (congrArg Value.bool (by unfold evB; rw [hk, p1]; rfl)) (And.intro trivial (Hp.keep H2)))
  have k4 : (e.kind == 4) = false := k4
  refine br (fun k5 => ?_) (fun k5 => ?_)
  · have k5 : (e.kind == 5) = true := k5
    have hk : (e.kind == 4 || (e.kind == 5 || e.kind == 6)) = true := by rw [k5]; simp
    refine br (fun _ => ?_) (fun q => absurd (show (e.kind == 5) = false from q) (by rw [k5]; simp))
    refine load_rule tok H1 (v := .int .i32 e.day) rfl ?_
    refine call_rule H1 (fun M I _ h => dayRight e.day _ M I h) fun _ w2 _ H2 => ?_
    refine br (fun p1 => ?_) (fun p1 => ?_)
    · have p1 : dayB e.day = true := p1
      refine load_rule tok H2 (v := .int .i64 e.amt) rfl ?_
      refine brd (fun p2 => ?_) (fun p2 => ?_)
      · have p2 : 1 ≤ e.amt := p2
        refine load_rule tok H2 (v := .int .i64 e.amt) rfl ?_
        refine call_rule H2 (fun M I _ h => coinRight e.amt _ M I h) fun _ w3 _ H3 => ?_
        exact Exists.intro () (And.intro (congrArg Value.bool (by unfold evB; rw [hk, p1, decide_eq_true p2]; rfl)) (And.intro trivial (Hp.keep H3)))
      · have p2 : ¬ 1 ≤ e.amt := p2
        exact Exists.intro () (And.intro (congrArg Value.bool (by unfold evB; rw [hk, p1, decide_eq_false p2]; rfl)) (And.intro trivial (Hp.keep H2)))
    · have p1 : dayB e.day = false := p1
      exact Exists.intro () (And.intro (congrArg Value.bool (by unfold evB; rw [hk, p1]; rfl)) (And.intro trivial (Hp.keep H2)))
  have k5 : (e.kind == 5) = false := k5
  refine br (fun k6 => ?_) (fun k6 => ?_)
  · have k6 : (e.kind == 6) = true := k6
    have hk : (e.kind == 4 || (e.kind == 5 || e.kind == 6)) = true := by rw [k6]; simp
    refine load_rule tok H1 (v := .int .i32 e.day) rfl ?_
    refine call_rule H1 (fun M I _ h => dayRight e.day _ M I h) fun _ w2 _ H2 => ?_
    refine br (fun p1 => ?_) (fun p1 => ?_)
    · have p1 : dayB e.day = true := p1
      refine load_rule tok H2 (v := .int .i64 e.amt) rfl ?_
      refine brd (fun p2 => ?_) (fun p2 => ?_)
      · have p2 : 1 ≤ e.amt := p2
        refine load_rule tok H2 (v := .int .i64 e.amt) rfl ?_
        refine call_rule H2 (fun M I _ h => coinRight e.amt _ M I h) fun _ w3 _ H3 => ?_
        exact Exists.intro () (And.intro (congrArg Value.bool (by unfold evB; rw [hk, p1, decide_eq_true p2]; rfl)) (And.intro trivial (Hp.keep H3)))
      · have p2 : ¬ 1 ≤ e.amt := p2
        exact Exists.intro () (And.intro (congrArg Value.bool (by unfold evB; rw [hk, p1, decide_eq_false p2]; rfl)) (And.intro trivial (Hp.keep H2)))
    · have p1 : dayB e.day = false := p1
      exact Exists.intro () (And.intro (congrArg Value.bool (by unfold evB; rw [hk, p1]; rfl)) (And.intro trivial (Hp.keep H2)))
  have k6 : (e.kind == 6) = false := k6
  have hk : (e.kind == 4 || (e.kind == 5 || e.kind == 6)) = false := by rw [k4, k5, k6]; rfl
  refine br (fun k7 => ?_) (fun k7 => ?_)
  · have k7 : (e.kind == 7) = true := k7
    refine load_rule tok H1 (v := .int .i32 e.day) rfl ?_
    refine call_rule H1 (fun M I _ h => dayRight e.day _ M I h) fun _ w2 _ H2 => ?_
    refine br (fun p1 => ?_) (fun p1 => ?_)
    · have p1 : dayB e.day = true := p1
      refine load_rule tok H2 (v := .int .i64 e.amt) rfl ?_
      exact Exists.intro () (And.intro (congrArg Value.bool (by unfold evB; rw [hk, k7, p1]; rfl)) (And.intro trivial (Hp.keep H2)))
    · have p1 : dayB e.day = false := p1
      exact Exists.intro () (And.intro (congrArg Value.bool (by unfold evB; rw [hk, k7, p1]; rfl)) (And.intro trivial (Hp.keep H2)))
  · have k7 : (e.kind == 7) = false := k7
    exact Exists.intro () (And.intro (congrArg Value.bool (by unfold evB; rw [hk, k7]; rfl)) (And.intro trivial (Hp.keep H1)))
/-- The same by the document. -/
theorem refEvRight (e : Ev) : CB 42 [reV e] (.bool (evB e)) := by
  intro w M I H
  refine Exe.of_ev tok Tryz.call42 Tryz.func42 rfl rfl rfl ?_
  refine box_as H (reC e) rfl fun b w1 H1 => ?_
  have dayF : (e.day < 0 ∨ 3652058 < e.day) → evB e = false := fun h => by
    have hd : dayB e.day = false := by
      cases hq : dayB e.day
      · rfl
      · simp only [dayB, Bool.and_eq_true, decide_eq_true_eq] at hq; omega
    unfold evB
    rw [hd]
    cases (e.kind == 4 || (e.kind == 5 || e.kind == 6)) <;> cases (e.kind == 7) <;> rfl
  refine load_rule tok H1 (v := .int .i64 e.day) rfl ?_
  refine brd (fun d1 => ?_) (fun d1 => ?_)
  · have d1 : e.day < 0 := d1
    exact Exists.intro () (And.intro (congrArg Value.bool (dayF (.inl d1)).symm) (And.intro trivial (Hp.keep H1)))
  have d1 : ¬ e.day < 0 := d1
  refine load_rule tok H1 (v := .int .i64 e.day) rfl ?_
  refine brd (fun d2 => ?_) (fun d2 => ?_)
  · have d2 : 3652058 < e.day := d2
    exact Exists.intro () (And.intro (congrArg Value.bool (dayF (.inr d2)).symm) (And.intro trivial (Hp.keep H1)))
  have d2 : ¬ 3652058 < e.day := d2
  have hd : dayB e.day = true := by simp only [dayB, Bool.and_eq_true, decide_eq_true_eq]; omega
  refine load_rule tok H1 (v := .int .u8 e.kind) rfl ?_
  refine br (fun k4 => ?_) (fun k4 => ?_)
  · have k4 : (e.kind == 4) = true := k4
    have hk : (e.kind == 4 || (e.kind == 5 || e.kind == 6)) = true := by rw [k4]; rfl
    refine br (fun _ => ?_) (fun q => absurd (show (e.kind == 4) = false from q) (by rw [k4]; simp))
    refine load_rule tok H1 (v := .int .i64 e.amt) rfl ?_
    refine brd (fun p1 => ?_) (fun p1 => ?_)
    · have p1 : 0 < e.amt := p1
      refine load_rule tok H1 (v := .int .i64 e.amt) rfl ?_
      exact Exists.intro () (And.intro (congrArg Value.bool (by unfold evB coinB; rw [hk, hd, decide_eq_true (show 1 ≤ e.amt by omega), decide_eq_true (show 0 ≤ e.amt by omega)]; rfl)) (And.intro trivial (Hp.keep H1)))
    · have p1 : ¬ 0 < e.amt := p1
      exact Exists.intro () (And.intro (congrArg Value.bool (by unfold evB; rw [hk, hd, decide_eq_false (show ¬ 1 ≤ e.amt by omega)]; rfl)) (And.intro trivial (Hp.keep H1)))
  have k4 : (e.kind == 4) = false := k4
  refine br (fun k5 => ?_) (fun k5 => ?_)
  · have k5 : (e.kind == 5) = true := k5
    have hk : (e.kind == 4 || (e.kind == 5 || e.kind == 6)) = true := by rw [k5]; simp
    refine br (fun _ => ?_) (fun q => absurd (show (e.kind == 5) = false from q) (by rw [k5]; simp))
    refine load_rule tok H1 (v := .int .i64 e.amt) rfl ?_
    refine brd (fun p1 => ?_) (fun p1 => ?_)
    · have p1 : 0 < e.amt := p1
      refine load_rule tok H1 (v := .int .i64 e.amt) rfl ?_
      exact Exists.intro () (And.intro (congrArg Value.bool (by unfold evB coinB; rw [hk, hd, decide_eq_true (show 1 ≤ e.amt by omega), decide_eq_true (show 0 ≤ e.amt by omega)]; rfl)) (And.intro trivial (Hp.keep H1)))
    · have p1 : ¬ 0 < e.amt := p1
      exact Exists.intro () (And.intro (congrArg Value.bool (by unfold evB; rw [hk, hd, decide_eq_false (show ¬ 1 ≤ e.amt by omega)]; rfl)) (And.intro trivial (Hp.keep H1)))
  have k5 : (e.kind == 5) = false := k5
  refine br (fun k6 => ?_) (fun k6 => ?_)
  · have k6 : (e.kind == 6) = true := k6
    have hk : (e.kind == 4 || (e.kind == 5 || e.kind == 6)) = true := by rw [k6]; simp
    refine load_rule tok H1 (v := .int .i64 e.amt) rfl ?_
    refine brd (fun p1 => ?_) (fun p1 => ?_)
    · have p1 : 0 < e.amt := p1
      refine load_rule tok H1 (v := .int .i64 e.amt) rfl ?_
      exact Exists.intro () (And.intro (congrArg Value.bool (by unfold evB coinB; rw [hk, hd, decide_eq_true (show 1 ≤ e.amt by omega), decide_eq_true (show 0 ≤ e.amt by omega)]; rfl)) (And.intro trivial (Hp.keep H1)))
    · have p1 : ¬ 0 < e.amt := p1
      exact Exists.intro () (And.intro (congrArg Value.bool (by unfold evB; rw [hk, hd, decide_eq_false (show ¬ 1 ≤ e.amt by omega)]; rfl)) (And.intro trivial (Hp.keep H1)))
  have k6 : (e.kind == 6) = false := k6
  have hk : (e.kind == 4 || (e.kind == 5 || e.kind == 6)) = false := by rw [k4, k5, k6]; rfl
  refine load_rule tok H1 (v := .int .u8 e.kind) rfl ?_
  refine br (fun k7 => ?_) (fun k7 => ?_)
  · have k7 : (e.kind == 7) = true := k7
    refine load_rule tok H1 (v := .int .i64 e.amt) rfl ?_
    exact Exists.intro () (And.intro (congrArg Value.bool (by unfold evB; rw [hk, k7, hd]; rfl)) (And.intro trivial (Hp.keep H1)))
  · have k7 : (e.kind == 7) = false := k7
    exact Exists.intro () (And.intro (congrArg Value.bool (by unfold evB; rw [hk, k7]; rfl)) (And.intro trivial (Hp.keep H1)))
set_option maxHeartbeats 1000000 in
/-- May an order be? -/
theorem odRight (o : Od) : CB 13 [odV o] (.bool (odB o)) := by
  intro w M I H
  refine Exe.of_ev tok Tryz.call13 Tryz.func13 rfl rfl rfl ?_
  refine box_as H (odC o) rfl fun b w1 H1 => ?_
  have H1 : Hp ⟨w, M, I⟩ [blk b (odC o) 32] [] w1 := H1
  refine draw_rule (A := []) tok tdr H1 [0, 1, 2, 3, 4, 5, 6, 7, 8, 9] [0, 1, 0, 7, 0, 16, 0, 112, 15, 511] rfl ?_
  refine pass_rule _ (fun w h => load_rule tok h (v := tmV o.tm) rfl ⟨rfl, rfl⟩) ?_
  refine pass_rule _ (fun w h => eqN_struct tok oksL 2 (r := tmEq o.tm tm0) okS2 rfl guard28 (tmEqV2 o.tm tm0) ⟨rfl, rfl⟩) ?_
  refine pass_rule _ (fun w h => load_rule tok h (v := evV o.ev) rfl ⟨rfl, rfl⟩) ?_
  refine pass_rule _ (fun w h => eqN_struct tok oksL 2 (r := evEq o.ev ev0) okS2 rfl guard30 (evEqV o.ev ev0) ⟨rfl, rfl⟩) ?_
  refine done_rule fun w2 H2 => ?_
  refine load_rule tok H2 (v := .int .u8 o.kind) rfl ?_
  refine br (fun k1 => ?_) (fun k1 => ?_)
  · have k1 : (o.kind == 1) = true := k1
    refine load_rule tok H2 (v := tmV o.tm) rfl ?_
    refine call_rule H2 (fun M I _ h => termsRight o.tm _ M I h) fun _ w3 _ H3 => ?_
    refine br (fun p => ?_) (fun p => ?_)
    · have p : tmB o.tm = true := p
      exact Exists.intro () (And.intro (congrArg Value.bool (by unfold odB; rw [k1, p]; rfl)) (And.intro trivial (Hp.keep H3)))
    · have p : tmB o.tm = false := p
      exact Exists.intro () (And.intro (congrArg Value.bool (by unfold odB; rw [k1, p]; rfl)) (And.intro trivial (Hp.keep H3)))
  have k1 : (o.kind == 1) = false := k1
  refine br (fun k2 => ?_) (fun k2 => ?_)
  · have k2 : (o.kind == 2) = true := k2
    refine load_rule tok H2 (v := evV o.ev) rfl ?_
    refine call_rule H2 (fun M I _ h => evRight o.ev _ M I h) fun _ w3 _ H3 => ?_
    refine br (fun p => ?_) (fun p => ?_)
    · have p : evB o.ev = true := p
      exact Exists.intro () (And.intro (congrArg Value.bool (by unfold odB; rw [k1, k2, p]; rfl)) (And.intro trivial (Hp.keep H3)))
    · have p : evB o.ev = false := p
      exact Exists.intro () (And.intro (congrArg Value.bool (by unfold odB; rw [k1, k2, p]; rfl)) (And.intro trivial (Hp.keep H3)))
  have k2 : (o.kind == 2) = false := k2
  refine br (fun k3 => ?_) (fun k3 => ?_)
  · have k3 : (o.kind == 3) = true := k3
    refine br (fun p => ?_) (fun p => ?_)
    · have p : tmEq o.tm tm0 = true := p
      refine load_rule tok H2 (v := evV o.ev) rfl ?_
      refine load_rule tok H2 (v := .int .u32 o.ev.seq) rfl ?_
      refine eqN_struct tok oksL 2 (r := evEq o.ev ⟨o.ev.seq, 0, 0, 0⟩) okS2 rfl guard30 (evEqV o.ev ⟨o.ev.seq, 0, 0, 0⟩) ?_
      exact Exists.intro () (And.intro (congrArg Value.bool (by unfold odB; rw [k1, k2, k3, p]; rfl)) (And.intro trivial (Hp.keep H2)))
    · have p : tmEq o.tm tm0 = false := p
      exact Exists.intro () (And.intro (congrArg Value.bool (by unfold odB; rw [k1, k2, k3, p]; rfl)) (And.intro trivial (Hp.keep H2)))
  have k3 : (o.kind == 3) = false := k3
  refine br (fun k4 => ?_) (fun k4 => ?_)
  · have k4 : (o.kind == 4) = true := k4
    refine br (fun p => ?_) (fun p => ?_)
    · have p : tmEq o.tm tm0 = true := p
      refine br (fun p2 => ?_) (fun p2 => ?_)
      · have p2 : evEq o.ev ev0 = true := p2
        refine load_rule tok H2 (v := .int .u32 o.loan) rfl ?_
        exact Exists.intro () (And.intro (congrArg Value.bool (by unfold odB; rw [k1, k2, k3, k4, p, p2]; rfl)) (And.intro trivial (Hp.keep H2)))
      · have p2 : evEq o.ev ev0 = false := p2
        exact Exists.intro () (And.intro (congrArg Value.bool (by unfold odB; rw [k1, k2, k3, k4, p, p2]; rfl)) (And.intro trivial (Hp.keep H2)))
    · have p : tmEq o.tm tm0 = false := p
      exact Exists.intro () (And.intro (congrArg Value.bool (by unfold odB; rw [k1, k2, k3, k4, p]; rfl)) (And.intro trivial (Hp.keep H2)))
  · have k4 : (o.kind == 4) = false := k4
    exact Exists.intro () (And.intro (congrArg Value.bool (by unfold odB; rw [k1, k2, k3, k4]; rfl)) (And.intro trivial (Hp.keep H2)))
theorem evEq3 (e : Ev) : evEq e ⟨e.seq, 0, 0, 0⟩ = ((e.day == 0) && ((e.kind == 0) && (e.amt == 0))) := by
  unfold evEq
  simp
set_option maxHeartbeats 1000000 in
/-- The same by the document. -/
theorem refOdRight (o : Od) (hin : OdIn o) : CB 14 [roV o] (.bool (odB o)) := by
  intro w M I H
  refine Exe.of_ev tok Tryz.call14 Tryz.func14 rfl rfl rfl ?_
  refine box_as H (roC o) rfl fun b w1 H1 => ?_
  have H1 : Hp ⟨w, M, I⟩ [blk b (roC o) 40] [] w1 := H1
  refine draw_rule (A := []) tok tdr H1 [0, 1, 2, 3, 4, 5, 6, 7, 8, 9] [0, 1, 0, 7, 0, 16, 0, 112, 15, 511] rfl ?_
  refine pass_rule _ (fun w h => load_rule tok h (v := rtV o.tm) rfl ⟨rfl, rfl⟩) ?_
  refine pass_rule _ (fun w h => eqN_struct tok oksL 2 (r := tmEq o.tm tm0) okS2 rfl guard36 ((rtEqV o.tm tm0).trans (congrArg some (rtEq_eq o.tm tm0))) ⟨rfl, rfl⟩) ?_
  refine pass_rule _ (fun w h => load_rule tok h (v := reV o.ev) rfl ⟨rfl, rfl⟩) ?_
  refine pass_rule _ (fun w h => eqN_struct tok oksL 2 (r := evEq o.ev ev0) okS2 rfl guard38 (reEqV o.ev ev0) ⟨rfl, rfl⟩) ?_
  refine done_rule fun w2 H2 => ?_
  refine load_rule tok H2 (v := .int .u8 o.kind) rfl ?_
  refine br (fun k1 => ?_) (fun k1 => ?_)
  · have k1 : (o.kind == 1) = true := k1
    refine br (fun p => ?_) (fun p => ?_)
    · have p : evEq o.ev ev0 = true := p
      refine load_rule tok H2 (v := rtV o.tm) rfl ?_
      refine call_rule H2 (fun M I _ h => refRight o.tm hin.tm _ M I h) fun _ w3 _ H3 => ?_
      exact Exists.intro () (And.intro (congrArg Value.bool (by unfold odB; rw [k1, p, rtB_eq]; simp)) (And.intro trivial (Hp.keep H3)))
    · have p : evEq o.ev ev0 = false := p
      exact Exists.intro () (And.intro (congrArg Value.bool (by unfold odB; rw [k1, p]; simp)) (And.intro trivial (Hp.keep H2)))
  have k1 : (o.kind == 1) = false := k1
  refine br (fun k2 => ?_) (fun k2 => ?_)
  · have k2 : (o.kind == 2) = true := k2
    refine br (fun p => ?_) (fun p => ?_)
    · have p : tmEq o.tm tm0 = true := p
      refine load_rule tok H2 (v := reV o.ev) rfl ?_
      refine call_rule H2 (fun M I _ h => refEvRight o.ev _ M I h) fun _ w3 _ H3 => ?_
      exact Exists.intro () (And.intro (congrArg Value.bool (by unfold odB; rw [k1, k2, p]; simp)) (And.intro trivial (Hp.keep H3)))
    · have p : tmEq o.tm tm0 = false := p
      exact Exists.intro () (And.intro (congrArg Value.bool (by unfold odB; rw [k1, k2, p]; simp)) (And.intro trivial (Hp.keep H2)))
  have k2 : (o.kind == 2) = false := k2
  refine br (fun k3 => ?_) (fun k3 => ?_)
  · have k3 : (o.kind == 3) = true := k3
    refine br (fun p => ?_) (fun p => ?_)
    · have p : tmEq o.tm tm0 = true := p
      refine load_rule tok H2 (v := .int .i64 o.ev.day) rfl ?_
      refine br (fun p2 => ?_) (fun p2 => ?_)
      · have p2 : (o.ev.day == 0) = true := p2
        refine load_rule tok H2 (v := .int .u8 o.ev.kind) rfl ?_
        refine br (fun p3 => ?_) (fun p3 => ?_)
        · have p3 : (o.ev.kind == 0) = true := p3
          refine load_rule tok H2 (v := .int .i64 o.ev.amt) rfl ?_
          exact Exists.intro () (And.intro (congrArg Value.bool (by unfold odB; rw [k1, k2, k3, p, evEq3, p2, p3]; rfl)) (And.intro trivial (Hp.keep H2)))
        · have p3 : (o.ev.kind == 0) = false := p3
          exact Exists.intro () (And.intro (congrArg Value.bool (by unfold odB; rw [k1, k2, k3, p, evEq3, p2, p3]; rfl)) (And.intro trivial (Hp.keep H2)))
      · have p2 : (o.ev.day == 0) = false := p2
        exact Exists.intro () (And.intro (congrArg Value.bool (by unfold odB; rw [k1, k2, k3, p, evEq3, p2]; rfl)) (And.intro trivial (Hp.keep H2)))
    · have p : tmEq o.tm tm0 = false := p
      exact Exists.intro () (And.intro (congrArg Value.bool (by unfold odB; rw [k1, k2, k3, p]; rfl)) (And.intro trivial (Hp.keep H2)))
  have k3 : (o.kind == 3) = false := k3
  refine load_rule tok H2 (v := .int .u8 o.kind) rfl ?_
  refine br (fun k4 => ?_) (fun k4 => ?_)
  · have k4 : (o.kind == 4) = true := k4
    refine br (fun p => ?_) (fun p => ?_)
    · have p : tmEq o.tm tm0 = true := p
      refine br (fun p2 => ?_) (fun p2 => ?_)
      · have p2 : evEq o.ev ev0 = true := p2
        refine load_rule tok H2 (v := .int .u32 o.loan) rfl ?_
        exact Exists.intro () (And.intro (congrArg Value.bool (by unfold odB; rw [k1, k2, k3, k4, p, p2]; rfl)) (And.intro trivial (Hp.keep H2)))
      · have p2 : evEq o.ev ev0 = false := p2
        exact Exists.intro () (And.intro (congrArg Value.bool (by unfold odB; rw [k1, k2, k3, k4, p, p2]; rfl)) (And.intro trivial (Hp.keep H2)))
    · have p : tmEq o.tm tm0 = false := p
      exact Exists.intro () (And.intro (congrArg Value.bool (by unfold odB; rw [k1, k2, k3, k4, p]; rfl)) (And.intro trivial (Hp.keep H2)))
  · have k4 : (o.kind == 4) = false := k4
    exact Exists.intro () (And.intro (congrArg Value.bool (by unfold odB; rw [k1, k2, k3, k4]; rfl)) (And.intro trivial (Hp.keep H2)))
set_option maxHeartbeats 1000000 in
/-- An order as the document has it. -/
theorem ownOd (o : Od) (hin : OdIn o) : CB 15 [odV o] (roV o) := by
  intro w M I H
  have es : IntKind.i64.wrap o.tm.start = o.tm.start := by
    have h : -2147483648 ≤ o.tm.start ∧ o.tm.start ≤ 2147483647 := hin.tm.start
    exact w64 (by omega) (by omega)
  have ed : IntKind.i64.wrap o.ev.day = o.ev.day := by
    have h : -2147483648 ≤ o.ev.day ∧ o.ev.day ≤ 2147483647 := hin.ev.day
    exact w64 (by omega) (by omega)
  refine Exe.of_ev tok Tryz.call15 Tryz.func15 rfl rfl rfl ?_
  refine box_as H (odC o) rfl fun b w1 H1 => ?_
  refine alloc_as tok H1 (roC od0) rfl rfl rfl fun r w2 H2 => ?_
  have H2 : Hp ⟨w, M, I⟩ [blk r (roC od0) 40, blk b (odC o) 32] [] w2 := H2
  refine draw_rule (A := []) tok tdr H2 [0, 1, 4, 5, 6, 2, 3, 7] [0, 1, 0, 4, 0, 0, 51, 127] rfl ?_
  refine pass_rule _ (fun w h => load_rule tok h (v := tmV o.tm) rfl ⟨rfl, rfl⟩) ?_
  refine fresh_alloc tok rfl rfl rfl fun x => ?_
  refine fresh_alloc tok rfl rfl rfl fun y => ?_
  refine imp_rule (fun X wx hx => store_as tok hx (tmC o.tm) rfl rfl rfl rfl rfl fun w1 H1 => imp_done H1 ?_)
  refine pass_rule _ (fun w h => load_rule tok h (v := evV o.ev) rfl ⟨rfl, rfl⟩) ?_
  refine imp_rule (fun X wx hx => store_as tok hx (evC o.ev) rfl rfl rfl rfl rfl fun w1 H1 => imp_done H1 ?_)
  refine done_rule fun w3 H3 => ?_
  refine load_rule tok H3 (v := .int .u8 o.kind) rfl ?_
  refine load_rule tok H3 (v := .int .u32 o.loan) rfl ?_
  refine load_rule tok H3 (v := .int .u8 o.tm.kind) rfl ?_
  refine load_rule tok H3 (v := .int .i64 o.tm.prin) rfl ?_
  refine load_rule tok H3 (v := .int .u32 o.tm.parts) rfl ?_
  refine load_rule tok H3 (v := .int .u8 o.tm.basis) rfl ?_
  refine load_rule tok H3 (v := .int .i64 o.tm.months) rfl ?_
  refine load_rule tok H3 (v := .int .i32 o.tm.start) rfl ?_
  refine load_rule tok H3 (v := .int .i64 o.tm.fee) rfl ?_
  refine load_rule tok H3 (v := .int .i64 o.tm.grace) rfl ?_
  refine load_rule tok H3 (v := .int .u32 o.ev.seq) rfl ?_
  refine load_rule tok H3 (v := .int .i32 o.ev.day) rfl ?_
  refine load_rule tok H3 (v := .int .u8 o.ev.kind) rfl ?_
  refine load_rule tok H3 (v := .int .i64 o.ev.amt) rfl ?_
  refine store_as tok H3 [.int .u8 o.kind, .int .u32 o.loan, .int .u8 o.tm.kind, .int .i64 o.tm.prin, .int .u32 o.tm.parts, .int .u8 o.tm.basis, .int .i64 o.tm.months, .int .i64 (IntKind.i64.wrap o.tm.start), .int .i64 o.tm.fee, .int .i64 o.tm.grace, .int .u32 o.ev.seq, .int .i64 (IntKind.i64.wrap o.ev.day), .int .u8 o.ev.kind, .int .i64 o.ev.amt] rfl rfl rfl rfl rfl fun w4 H4 => ?_
  rw [es, ed] at H4
  refine Exists.intro ⟨r, 0, none⟩ (Exists.intro (roV o) (And.intro rfl (And.intro (Hp.ld (T := tb) tok H4 rfl) ?_)))
  exact Exists.intro () (And.intro rfl (And.intro trivial (Hp.keep H4)))
end Go.Proofs.YtgbmambkgcjhfaaGreatDoor
