/- TermsDues: the walk. -/
import Derived.Test.YtgbmambkgcjhfaaGreatDoorD29
import Derived.Test.YtgbmambkgcjhfaaGreatDoorD53
set_option linter.unusedVariables false
namespace Go.Proofs.YtgbmambkgcjhfaaGreatDoor
open Go Go.Proofs Go.Wk Go.Pl
theorem refDuesS (t : Tm) (hin : TmIn t) (ok : TmOk t) (A : Option Addr) (n c : Nat) (hs : List Int) (ds : List (Int × Int)) (hds : DuesR t hs t.months.toNat ds) (hlh : hs.length ≤ 200) (w : World) (M I : BS) (hM : ∀ b, ¬ M b) (H : Hp ⟨w, M, I⟩ [] [Sl (Go.Wk.intR .i64) (.slice A n c) hs] w) :
    Ctr Tryz.prog 35 [rtV t, .slice A n c] w M I (fun a : Nat × Nat × Nat => .slice (some ⟨a.1, a.2.1, none⟩) t.months.toNat a.2.2) (fun _ => True) (fun _ => []) (fun a => [Sl rdueR (.slice (some ⟨a.1, a.2.1, none⟩) t.months.toNat a.2.2) ds]) :=
  (refDues t hin ok A n c hs hlh w M I hM H).imp fun a w' hφ hH => by
    have hmo := ok.months
    obtain ⟨hn, _, _⟩ := hH.sll (A := a.1.A) (n := a.1.n) (c := a.1.c)
    rw [hφ.len] at hn
    obtain ⟨b, o, e⟩ := hH.slAt (A := a.1.A) (n := a.1.n) (c := a.1.c) (by omega)
    rw [e, hn, hφ.one hds] at hH
    exact ⟨(b, o, a.1.c), by rw [e, hn], trivial, hH⟩
theorem few_len (l : List Int) (s : Int) : (fewD (l.take 40) s).length ≤ 200 := by
  rw [fewD_len, List.length_take]; omega
theorem dues_open {t : Tm} {hs : List Int} {ds : List (Int × Int)} (h : DuesR t hs t.months.toNat ds) {i : Nat} {x : Int × Int} (hx : ds[i]? = some x) : openB hs x.1 = true ∧ 0 ≤ x.1 ∧ x.1 ≤ 3652058 := by
  have hi : i < t.months.toNat := by have := (List.getElem?_eq_some_iff.1 hx).1; rw [h.len] at this; exact this
  obtain ⟨d, s, q1, q2, q3⟩ := h.at_ i hi
  rw [q3] at hx
  have e := Option.some.inj hx
  subst e
  have ho := rollR_open q1
  refine ⟨ho, ?_⟩
  unfold openB at ho
  simp only [Bool.and_eq_true, dayB, decide_eq_true_eq] at ho
  exact ho.1
set_option maxHeartbeats 4000000 in
set_option maxRecDepth 20000 in
theorem duesWalk (t : Tm) (hin : TmIn t) (A : Option Addr) (n c : Nat) (l : List Int) (w : World) (M I : BS) (hM : ∀ b, ¬ M b) (H : Hp ⟨w, M, I⟩ [] [Sl u8R (.slice A n c) l, Glob 1 errTy, LibF] w) :
    Ctr Tryz.prog 9 [tmV t, .slice A n c] w M I (fun _ : Unit => .bool true) (fun _ => True) (fun _ => []) (fun _ => []) := by
  refine Exe.of_ev tok Tryz.call9 Tryz.func9 rfl rfl rfl ?_
  refine box_as H (tmC t) rfl fun r w1 H1 => ?_
  refine call_rule H1 (fun M I h0 h => awake16 _ M I (h0 rfl) h) fun _ w2 _ H2 => ?_
  refine load_rule tok H2 (v := tmV t) rfl ?_
  refine call_rule H2 (fun M I _ h => ownTm t hin _ M I h) fun _ w3 _ H3 => ?_
  refine call_rule H3 (fun M I _ h => refRight t hin _ M I h) fun _ w4 _ H4 => ?_
  have H4 : Hp ⟨w, M, I⟩ [blk r (tmC t) 28] [Sl u8R (.slice A n c) l, Glob 1 errTy, LibF] w4 := Hp.keep H4
  refine br (fun q => ?_) (fun q => ?_)
  · have q : rtB t = true := q
    have hb : tmB t = true := by rw [← rtB_eq]; exact q
    have ok := tmB_iff.1 hb
    have hst := ok.start
    have hmo := ok.months
    refine load_rule tok H4 (v := .int .i32 t.start) rfl ?_
    refine call_rule H4 (fun M I h0 h => few_ A n c l t.start hst.1 hst.2 _ M I (h0 rfl) h) fun a w5 _ H5 => ?_
    refine load_rule tok H5 (v := tmV t) rfl ?_
    refine call_rule H5 (fun M I h0 h => duesS t hin a.1.A a.1.n a.1.c (fewD (l.take 40) t.start) hb (fewHoly l t.start hst.1 hst.2) _ M I (h0 rfl) h) fun d w6 hd H6 => ?_
    have hlen := hd.len
    refine br (fun q2 => ?_) (fun q2 => ?_)
    · have q2 : (!rtB t) = true := q2
      rw [q] at q2; cases q2
    refine load_rule tok H6 (v := tmV t) rfl ?_
    refine call_rule H6 (fun M I _ h => ownTm t hin _ M I h) fun _ w7 _ H7 => ?_
    refine call_rule H7 (fun M I h0 h => refDuesS t hin ok a.2.A a.2.n a.2.c (fewD (l.take 40) t.start) d.2 hd (few_len l t.start) _ M I (h0 rfl) h) fun g w8 _ H8 => ?_
    have H8 : Hp ⟨w, M, I⟩ [blk r (tmC t) 28] [Sl rdueR (.slice (some ⟨g.1, g.2.1, none⟩) t.months.toNat g.2.2) d.2, Sl dueR (.slice (some ⟨d.1.1, d.1.2.1, none⟩) t.months.toNat d.1.2.2) d.2, Sl dayR (.slice a.1.A a.1.n a.1.c) (fewD (l.take 40) t.start), Glob 1 errTy, LibF] w8 := Hp.keep H8
    refine br (fun q3 => ?_) (fun q3 => ?_)
    · have q3 : (!((t.months.toNat : Int) == (t.months.toNat : Int))) = true := q3
      simp at q3
    refine load_rule tok H8 (v := tmV t) rfl ?_
    refine call_rule H8 (fun M I _ h => hb ▸ termsRight t _ M I h) fun _ w9 _ H9 => ?_
    have H9 : Hp ⟨w, M, I⟩ [blk r (tmC t) 28] [Sl rdueR (.slice (some ⟨g.1, g.2.1, none⟩) t.months.toNat g.2.2) d.2, Sl dueR (.slice (some ⟨d.1.1, d.1.2.1, none⟩) t.months.toNat d.1.2.2) d.2, Sl dayR (.slice a.1.A a.1.n a.1.c) (fewD (l.take 40) t.start), Glob 1 errTy, LibF] w9 := Hp.keep H9
    refine loop_rule tok (σ := Nat) 10141204799464651970538803048464 (fun i => [(71, .int .i64 (i : Int))]) (fun i w' => i ≤ t.months.toNat ∧ Hp ⟨w, M, I⟩ [blk r (tmC t) 28] [Sl rdueR (.slice (some ⟨g.1, g.2.1, none⟩) t.months.toNat g.2.2) d.2, Sl dueR (.slice (some ⟨d.1.1, d.1.2.1, none⟩) t.months.toNat d.1.2.2) d.2, Sl dayR (.slice a.1.A a.1.n a.1.c) (fewD (l.take 40) t.start), Glob 1 errTy, LibF] w') (fun i => t.months.toNat - i) 0 rfl rfl ⟨rfl, trivial⟩ ⟨Nat.zero_le _, H9⟩ ?_
    intro i j wa hW
    have hi := hW.1
    have Ha := hW.2
    refine brd (fun hlt => ?_) (fun hge => ?_)
    · have ew : IntKind.i64.wrap ((i : Int) + 1) = ((i + 1 : Nat) : Int) := w64 (by omega) (by omega)
      have hlt' : i < d.2.length := by omega
      refine Exists.elim (⟨_, List.getElem?_eq_getElem hlt'⟩ : ∃ x, d.2[i]? = some x) fun x hx => ?_
      have ho := dues_open hd hx
      have ex : IntKind.i64.wrap x.1 = x.1 := w64 (by omega) (by omega)
      refine idx_own tok rfl rfl (by omega) hlt ?_
      refine sl_ld tok Ha (o := d.1.2.1) (n := t.months.toNat) (c := d.1.2.2) (r := dueR) (xs := d.2) (j := i) (f := 0) (.agg #[.int .i32 x.1, .int .i64 x.2]) hx rfl (fun _ _ => rfl) ?_
      refine alloc_as tok Ha [.int .i32 0, .int .i64 0] rfl rfl rfl fun b wb Hb => ?_
      refine store_as tok Hb (dueC x) rfl rfl rfl rfl rfl fun wc Hc => ?_
      refine draw_rule (A := []) tok tdr Hc [0, 1, 2, 3, 4, 5, 6, 7, 8, 9, 10, 11, 12, 13, 14, 15, 16, 17, 18, 19, 20, 21, 22, 23, 24, 25] [0, 1, 3, 0, 0, 24, 56, 120, 255, 511, 1023, 2047, 1023, 1023, 13311, 29695, 62463, 131071, 262143, 524287, 1048575, 1048575, 3145727, 8388607, 16777215, 33554431] rfl ?_
      refine pass_rule _ (fun w h => load_rule tok h (v := .int .i32 x.1) rfl ⟨rfl, rfl⟩) ?_
      refine pass_rule _ (fun w h => idx_own tok rfl rfl (by omega) hlt ⟨rfl, rfl⟩) ?_
      refine pass_rule _ (fun w h => sl_ld tok h (o := g.2.1) (n := t.months.toNat) (c := g.2.2) (r := rdueR) (xs := d.2) (j := i) (f := 0) (.int .i64 x.1) hx rfl (fun _ _ => rfl) ⟨rfl, rfl⟩) ?_
      refine br (fun q4 => ?_) (fun q4 => ?_)
      · have q4 : (!(IntKind.i64.wrap x.1 == x.1)) = true := q4
        rw [ex] at q4; simp at q4
      refine pass_rule _ (fun w h => load_rule tok h (v := .int .i64 x.2) rfl ⟨rfl, rfl⟩) ?_
      refine pass_rule _ (fun w h => idx_own tok rfl rfl (by omega) hlt ⟨rfl, rfl⟩) ?_
      refine pass_rule _ (fun w h => sl_ld tok h (o := g.2.1) (n := t.months.toNat) (c := g.2.2) (r := rdueR) (xs := d.2) (j := i) (f := 1) (.int .i64 x.2) hx rfl (fun _ _ => rfl) ⟨rfl, rfl⟩) ?_
      refine br (fun q5 => ?_) (fun q5 => ?_)
      · have q5 : (!(x.2 == x.2)) = true := q5
        simp at q5
      refine pass_rule _ (fun w h => load_rule tok h (v := .int .i32 x.1) rfl ⟨rfl, rfl⟩) ?_
      refine imp_rule (fun X wx h => call_rule h (fun M I _ h => open_ a.1.A a.1.n a.1.c (fewD (l.take 40) t.start) x.1 _ M I h) fun _ w1 _ H1 => imp_done H1 ?_)
      refine done_rule fun wd Hd => ?_
      refine br (fun q6 => ?_) (fun q6 => ?_)
      · have q6 : (!openB (fewD (l.take 40) t.start) x.1) = true := q6
        rw [ho.1] at q6; cases q6
      exact Exists.intro (i + 1) (And.intro ⟨congrArg (Value.int .i64) ew, trivial⟩ (And.intro (by show t.months.toNat - (i + 1) < t.months.toNat - i; omega) ⟨by omega, Hp.keep Hd⟩))
    · refine load_rule tok Ha (v := tmV t) rfl ?_
      refine slice_as tok Ha [.int .i32 5, .int .i32 5] rfl rfl rfl rfl rfl rfl fun g2 wb Hb => ?_
      have Hc := Hb.frzBlk (n := g2) dayR [5, 5] hM (by decide) rfl (fun i x hx => by
        rcases i with _ | _ | i
        · have e := Option.some.inj hx; subst e; exact ⟨(), ⟨by decide, by decide⟩, rfl, rfl⟩
        · have e := Option.some.inj hx; subst e; exact ⟨(), ⟨by decide, by decide⟩, rfl, rfl⟩
        · simp at hx)
      refine call_rule Hc (fun M I _ h => duesNo t (some ⟨g2, 0, none⟩) 2 2 [5, 5] (.inr (by decide)) _ M I h) fun _ wd _ Hd => ?_
      refine call_rule Hd (fun M I _ h => code_ (.code 1) _ M I h) fun _ we _ He => ?_
      exact Exists.intro () (And.intro rfl (And.intro trivial (Hp.keep He)))
  · have q : rtB t = false := q
    have hb : tmB t = false := by rw [← rtB_eq]; exact q
    refine call_rule H4 (fun M I h0 h => few_ A n c l 0 (by decide) (by decide) _ M I (h0 rfl) h) fun a w5 _ H5 => ?_
    refine load_rule tok H5 (v := tmV t) rfl ?_
    refine call_rule H5 (fun M I h0 h => duesNo t a.1.A a.1.n a.1.c (fewD (l.take 40) 0) (.inl hb) _ M I h) fun _ w6 _ H6 => ?_
    have H6 : Hp ⟨w, M, I⟩ [blk r (tmC t) 28] [Sl u8R (.slice A n c) l, Glob 1 errTy, LibF] w6 := Hp.keep H6
    refine br (fun q2 => ?_) (fun q2 => ?_)
    · refine load_rule tok H6 (v := tmV t) rfl ?_
      refine call_rule H6 (fun M I _ h => hb ▸ termsRight t _ M I h) fun _ w7 _ H7 => ?_
      refine call_rule H7 (fun M I _ h => code_ (.code 1) _ M I h) fun _ w8 _ H8 => ?_
      exact Exists.intro () (And.intro rfl (And.intro trivial (Hp.keep H8)))
    have q2 : (!rtB t) = false := q2
    rw [q] at q2; cases q2
end Go.Proofs.YtgbmambkgcjhfaaGreatDoor
