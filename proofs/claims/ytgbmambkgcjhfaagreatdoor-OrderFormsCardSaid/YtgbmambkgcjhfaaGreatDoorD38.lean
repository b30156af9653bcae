/- TermsReads: the walk. -/
import Derived.Test.YtgbmambkgcjhfaaGreatDoorD37
import Derived.Test.YtgbmambkgcjhfaaGreatDoorG6
set_option linter.unusedVariables false
namespace Go.Wk
/-- A string's beginning. -/
theorem strH_rule {P : Program} {T : Tab} {K : Value → World → Prop} {w : World} (hT : T.Ok P) {t : TypeId} {it : TypeInfo} {s : ByteArray} {k : IntKind} {j : Int} (ht : T t = some ⟨.string, it⟩) (h0 : 0 ≤ j) (h2 : j ≤ s.size) (kk : K (.string (s.extract 0 j.toNat)) w) : SliceK P K w t (.string s) none (some (.int k j)) none := by
  refine SliceK.of (v := .string (s.extract 0 j.toNat)) (w' := w) ?_ kk
  rw [run_sliceAt_string w t _ _ _ _ (hT t _ ht).1]
  have hj : 0 ≤ j ∧ j ≤ (s.size : Int) := ⟨h0, h2⟩
  simp [Instr.slice, Instr.sliceBounds, Instr.sliceBound, asIntOf, run_und hT ht, hj]
end Go.Wk
namespace Go.Proofs.YtgbmambkgcjhfaaGreatDoor
open Go Go.Proofs Go.Wk Go.Pl
theorem refCut (m : Nat) (hm : m ≤ 1000) (l : List UInt8) (w : World) (M I : BS) (H : Hp ⟨w, M, I⟩ [] [] w) :
    Ctr Tryz.prog 19 [.string (strOf l), .int .i64 (m : Int)] w M I (fun _ : Unit => .string (strOf (l.take m))) (fun _ => True) (fun _ => []) (fun _ => []) := by
  have hs : (strOf l).size = l.length := strOf_size l
  have e : (if ((m : Nat) : Int) < (((strOf l).size : Nat) : Int) then ((m : Nat) : Int) else (((strOf l).size : Nat) : Int)) = ((min m l.length : Nat) : Int) := by
    rw [hs]; split <;> omega
  refine Exe.of_ev tok Tryz.call19 Tryz.func19 rfl rfl rfl ?_
  refine strH_rule tok rfl (by rw [e]; omega) (by rw [e, hs]; omega) ?_
  refine Exists.intro () (And.intro (congrArg Value.string ?_) (And.intro trivial (Hp.keep H)))
  rw [e, Int.toNat_natCast, ext_strOf, strOf_data, List.drop_zero, Nat.sub_zero]
  congr 1
  rcases Nat.le_total m l.length with h | h
  · rw [Nat.min_eq_left h]
  · rw [Nat.min_eq_right h, List.take_of_length_le (Nat.le_refl _), List.take_of_length_le h]
theorem readYes (l : List UInt8) (hs : l.length < 4294967281) (t : Tm) (ok : TmOk t) (hin : TmIn t) (ht : TmT t (strOf l)) (w : World) (M I : BS) (hM : ∀ b, ¬ M b) (H : Hp ⟨w, M, I⟩ [] [LibF] w) :
    Ctr Tryz.prog 37 [.string (strOf l)] w M I (fun _ : Unit => .tuple #[tmV t, .nilIface]) (fun _ => True) (fun _ => []) (fun _ => []) :=
  (tmRead l hs w M I hM H).imp fun a w' hφ hh => by
    rcases hφ with ⟨h1, h2, h3, h4⟩ | ⟨_, _, h3⟩
    · have e : a.1 = t := TmT.inj h2 h3.parts.1 ok hin.parts.1 h4 ht
      exact ⟨(), by unfold teV; rw [h1, e]; rfl, trivial, hh⟩
    · exact absurd ht (h3 t ok hin)
theorem readYesS (s : ByteArray) (hs : s.size < 4294967281) (t : Tm) (ok : TmOk t) (hin : TmIn t) (ht : TmT t s) (w : World) (M I : BS) (hM : ∀ b, ¬ M b) (H : Hp ⟨w, M, I⟩ [] [LibF] w) :
    Ctr Tryz.prog 37 [.string s] w M I (fun _ : Unit => .tuple #[tmV t, .nilIface]) (fun _ => True) (fun _ => []) (fun _ => []) := by
  obtain ⟨l, rfl⟩ : ∃ l, s = strOf l := ⟨s.data.toList, (strOf_of s).symm⟩
  exact readYes l (by rw [← strOf_size]; exact hs) t ok hin ht w M I hM H
theorem readNo (l : List UInt8) (hs : l.length < 4294967281) (hno : ¬ ∃ t, TmOk t ∧ TmIn t ∧ TmT t (strOf l)) (w : World) (M I : BS) (hM : ∀ b, ¬ M b) (H : Hp ⟨w, M, I⟩ [] [LibF] w) :
    Ctr Tryz.prog 37 [.string (strOf l)] w M I (fun _ : Unit => .tuple #[tmV tm0, .iface 55 (.int .i64 15)]) (fun _ => True) (fun _ => []) (fun _ => []) :=
  (tmRead l hs w M I hM H).imp fun a w' hφ hh => by
    rcases hφ with ⟨h1, h2, h3, h4⟩ | ⟨h1, h2, _⟩
    · exact absurd ⟨a.1, h2, h3, h4⟩ hno
    · exact ⟨(), by unfold teV; rw [h1, h2]; rfl, trivial, hh⟩
theorem tmT_size {t : Tm} (hin : TmIn t) {s : ByteArray} (h : TmT t s) : s.size ≤ 248 := by
  obtain ⟨y, m, d, hD, hn, hs⟩ := h
  rw [hs, strOf_size]
  exact words_len t hin hD
theorem tmTextS (t : Tm) (hin : TmIn t) (ok : TmOk t) (s : ByteArray) (hs : TmT t s) (w : World) (M I : BS) (H : Hp ⟨w, M, I⟩ [] [LibF] w) :
    Ctr Tryz.prog 30 [tmV t] w M I (fun _ : Unit => .string s) (fun _ => True) (fun _ => []) (fun _ => []) :=
  (tmText t hin (tmB_iff.2 ok) ok w M I H).imp fun a w' hφ hh => ⟨(), by rw [TmT.uniq hφ hs], trivial, hh⟩
theorem refTextS (t : Tm) (hin : TmIn t) (ok : TmOk t) (s : ByteArray) (hs : TmT t s) (w : World) (M I : BS) (H : Hp ⟨w, M, I⟩ [] [] w) :
    Ctr Tryz.prog 38 [rtV t] w M I (fun _ : Unit => .string s) (fun _ => True) (fun _ => []) (fun _ => []) :=
  (refText t hin ok w M I H).imp fun a w' hφ hh => ⟨(), by rw [TmT.uniq hφ hs], trivial, hh⟩
theorem eqS_self (s : ByteArray) : eqS s s = true := by rw [← strOf_of s, eqS_strOf, decide_eq_true rfl]
set_option maxHeartbeats 4000000 in
set_option maxRecDepth 20000 in
theorem readsWalk (t : Tm) (hin : TmIn t) (s : ByteArray) (w : World) (M I : BS) (hM : ∀ b, ¬ M b) (H : Hp ⟨w, M, I⟩ [] [Glob 1 errTy, LibF] w) :
    Ctr Tryz.prog 10 [tmV t, .string s] w M I (fun _ : Unit => .bool true) (fun _ => True) (fun _ => []) (fun _ => []) := by
  obtain ⟨l, rfl⟩ : ∃ l, s = strOf l := ⟨s.data.toList, (strOf_of s).symm⟩
  have hl : (l.take 120).length ≤ 120 := by rw [List.length_take]; omega
  refine Exe.of_ev tok Tryz.call10 Tryz.func10 rfl rfl rfl ?_
  refine box_as H (tmC t) rfl fun r w1 H1 => ?_
  refine call_rule H1 (fun M I h0 h => awake16 _ M I (h0 rfl) h) fun _ w2 _ H2 => ?_
  refine call_rule H2 (fun M I _ h => refCut 120 (by decide) l _ M I h) fun _ w3 _ H3 => ?_
  have H3 : Hp ⟨w, M, I⟩ [blk r (tmC t) 28] [Glob 1 errTy, LibF] w3 := Hp.keep H3
  refine load_rule tok H3 (v := tmV t) rfl ?_
  refine Or.elim (show tmB t = true ∨ tmB t = false by cases tmB t <;> simp) (fun hr => ?_) (fun hr => ?_)
  · have ok := tmB_iff.1 hr
    have hrt : rtB t = true := by rw [rtB_eq]; exact hr
    refine call_rule H3 (fun M I _ h => tmText t hin hr ok _ M I h) fun x w4 hx H4 => ?_
    refine load_rule tok H4 (v := tmV t) rfl ?_
    refine call_rule H4 (fun M I _ h => ownTm t hin _ M I h) fun _ w5 _ H5 => ?_
    refine call_rule H5 (fun M I _ h => refRight t hin _ M I h) fun _ w6 _ H6 => ?_
    refine br (fun q => ?_) (fun q => absurd (show rtB t = false from q) (by rw [hrt]; simp))
    refine call_rule H6 (fun M I h0 h => readYesS x (by have := tmT_size hin hx; omega) t ok hin hx _ M I (h0 rfl) h) fun _ w7 _ H7 => ?_
    refine alloc_as tok H7 (tmC tm0) rfl rfl rfl fun e1 w8 H8 => ?_
    refine store_as tok H8 (tmC t) rfl rfl rfl rfl rfl fun w9 H9 => ?_
    refine load_rule tok H9 (v := tmV t) rfl ?_
    refine call_rule H9 (fun M I _ h => ownTm t hin _ M I h) fun _ w10 _ H10 => ?_
    refine call_rule H10 (fun M I _ h => refTextS t hin ok x hx _ M I h) fun _ w11 _ H11 => ?_
    refine br (fun q1 => absurd (show (!eqS x x) = true from q1) (by rw [eqS_self]; simp)) (fun q1 => ?_)
    refine load_rule tok H11 (v := tmV t) rfl ?_
    refine load_rule tok H11 (v := tmV t) rfl ?_
    refine neN_struct tok [28, 25] 2 (r := tmEq t t) okS rfl guard28 (tmEqV t t) ?_
    have est : tmEq t t = true := tmEq_iff.2 rfl
    refine br (fun q3 => absurd (show (!tmEq t t) = true from q3) (by rw [est]; simp)) (fun q3 => ?_)
    have H12 : Hp ⟨w, M, I⟩ [] [Glob 1 errTy, LibF] w11 := Hp.keep H11
    refine Or.elim (Classical.em (∃ T, TmOk T ∧ TmIn T ∧ TmT T (strOf (l.take 120)))) (fun hy => ?_) (fun hy => ?_)
    · refine Exists.elim hy fun T hT => ?_
      have ok2 := hT.1
      have hin2 := hT.2.1
      have ht2 := hT.2.2
      refine call_rule H12 (fun M I h0 h => readYes (l.take 120) (by omega) T ok2 hin2 ht2 _ M I (h0 rfl) h) fun _ wa _ Ha => ?_
      refine alloc_as tok Ha (tmC tm0) rfl rfl rfl fun e wb Hb => ?_
      refine store_as tok Hb (tmC T) rfl rfl rfl rfl rfl fun wc Hc => ?_
      refine load_rule tok Hc (v := tmV T) rfl ?_
      refine call_rule Hc (fun M I _ h => tmTextS T hin2 ok2 (strOf (l.take 120)) ht2 _ M I h) fun _ wd _ Hd => ?_
      refine br (fun q => ?_) (fun q => absurd (show eqS (strOf (l.take 120)) (strOf (l.take 120)) = false from q) (by rw [eqS_self]; simp))
      refine load_rule tok Hd (v := tmV T) rfl ?_
      refine call_rule Hd (fun M I _ h => ownTm T hin2 _ M I h) fun _ we _ He => ?_
      refine call_rule He (fun M I _ h => refTextS T hin2 ok2 (strOf (l.take 120)) ht2 _ M I h) fun _ wf _ Hf => ?_
      exact Exists.intro () (And.intro (congrArg Value.bool (eqS_self (strOf (l.take 120)))) (And.intro trivial (Hp.keep Hf)))
    · refine call_rule H12 (fun M I h0 h => readNo (l.take 120) (by omega) hy _ M I (h0 rfl) h) fun _ wa _ Ha => ?_
      refine alloc_as tok Ha (tmC tm0) rfl rfl rfl fun e wb Hb => ?_
      refine store_as tok Hb (tmC tm0) rfl rfl rfl rfl rfl fun wc Hc => ?_
      refine call_rule Hc (fun M I _ h => code_ (.code 15) _ M I h) fun _ wd _ Hd => ?_
      refine load_rule tok Hd (v := tmV tm0) rfl ?_
      refine eqN_struct tok [28, 25] 2 (r := true) okS rfl guard28 rfl ?_
      exact Exists.intro () (And.intro rfl (And.intro trivial (Hp.keep Hd)))
  · have hrt : rtB t = false := by rw [rtB_eq]; exact hr
    refine call_rule H3 (fun M I _ h => tmTextNo t hr _ M I h) fun _ w4 _ H4 => ?_
    refine load_rule tok H4 (v := tmV t) rfl ?_
    refine call_rule H4 (fun M I _ h => ownTm t hin _ M I h) fun _ w5 _ H5 => ?_
    refine call_rule H5 (fun M I _ h => refRight t hin _ M I h) fun _ w6 _ H6 => ?_
    refine br (fun q => absurd (show rtB t = true from q) (by rw [hrt]; simp)) (fun q => ?_)
    refine br (fun q1 => absurd (show (!eqS ⟨#[]⟩ ⟨#[]⟩) = true from q1) (by rw [eqS_self]; simp)) (fun q1 => ?_)
    have H12 : Hp ⟨w, M, I⟩ [] [Glob 1 errTy, LibF] w6 := Hp.keep H6
    refine Or.elim (Classical.em (∃ T, TmOk T ∧ TmIn T ∧ TmT T (strOf (l.take 120)))) (fun hy => ?_) (fun hy => ?_)
    · refine Exists.elim hy fun T hT => ?_
      have ok2 := hT.1
      have hin2 := hT.2.1
      have ht2 := hT.2.2
      refine call_rule H12 (fun M I h0 h => readYes (l.take 120) (by omega) T ok2 hin2 ht2 _ M I (h0 rfl) h) fun _ wa _ Ha => ?_
      refine alloc_as tok Ha (tmC tm0) rfl rfl rfl fun e wb Hb => ?_
      refine store_as tok Hb (tmC T) rfl rfl rfl rfl rfl fun wc Hc => ?_
      refine load_rule tok Hc (v := tmV T) rfl ?_
      refine call_rule Hc (fun M I _ h => tmTextS T hin2 ok2 (strOf (l.take 120)) ht2 _ M I h) fun _ wd _ Hd => ?_
      refine br (fun q => ?_) (fun q => absurd (show eqS (strOf (l.take 120)) (strOf (l.take 120)) = false from q) (by rw [eqS_self]; simp))
      refine load_rule tok Hd (v := tmV T) rfl ?_
      refine call_rule Hd (fun M I _ h => ownTm T hin2 _ M I h) fun _ we _ He => ?_
      refine call_rule He (fun M I _ h => refTextS T hin2 ok2 (strOf (l.take 120)) ht2 _ M I h) fun _ wf _ Hf => ?_
      exact Exists.intro () (And.intro (congrArg Value.bool (eqS_self (strOf (l.take 120)))) (And.intro trivial (Hp.keep Hf)))
    · refine call_rule H12 (fun M I h0 h => readNo (l.take 120) (by omega) hy _ M I (h0 rfl) h) fun _ wa _ Ha => ?_
      refine alloc_as tok Ha (tmC tm0) rfl rfl rfl fun e wb Hb => ?_
      refine store_as tok Hb (tmC tm0) rfl rfl rfl rfl rfl fun wc Hc => ?_
      refine call_rule Hc (fun M I _ h => code_ (.code 15) _ M I h) fun _ wd _ Hd => ?_
      refine load_rule tok Hd (v := tmV tm0) rfl ?_
      refine eqN_struct tok [28, 25] 2 (r := true) okS rfl guard28 rfl ?_
      exact Exists.intro () (And.intro rfl (And.intro trivial (Hp.keep Hd)))
end Go.Proofs.YtgbmambkgcjhfaaGreatDoor
