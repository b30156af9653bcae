/- TermsRise: the walk. -/
import Derived.Test.YtgbmambkgcjhfaaGreatDoorG6
import Derived.Test.YtgbmambkgcjhfaaGreatDoorG4
set_option linter.unusedVariables false
namespace Go.Proofs.YtgbmambkgcjhfaaGreatDoor
open Go Go.Proofs Go.Wk Go.Pl
theorem duesS (t : Tm) (hin : TmIn t) (A : Option Addr) (n c : Nat) (hs : List Int) (ht : tmB t = true) (hh : holyB hs = true) (w : World) (M I : BS) (hM : ∀ b, ¬ M b) (H : Hp ⟨w, M, I⟩ [] [Sl dayR (.slice A n c) hs] w) :
    Ctr Tryz.prog 27 [tmV t, .slice A n c] w M I (fun a : (Nat × Nat × Nat) × List (Int × Int) => .tuple #[.slice (some ⟨a.1.1, a.1.2.1, none⟩) t.months.toNat a.1.2.2, .nilIface]) (fun a => DuesR t hs t.months.toNat a.2) (fun _ => []) (fun a => [Sl dueR (.slice (some ⟨a.1.1, a.1.2.1, none⟩) t.months.toNat a.1.2.2) a.2]) :=
  (dues t hin A n c hs ht hh w M I hM H).imp fun a w' hφ hH => by
    have ok := (tmB_iff.1 ht).months
    obtain ⟨hn, _, _⟩ := hH.sll (A := a.1.A) (n := a.1.n) (c := a.1.c)
    rw [hφ.len] at hn
    obtain ⟨b, o, e⟩ := hH.slAt (A := a.1.A) (n := a.1.n) (c := a.1.c) (by omega)
    rw [e, hn] at hH
    exact ⟨((b, o, a.1.c), a.2), by rw [e, hn], hφ, hH⟩
theorem fewHoly (l : List Int) (s : Int) (h0 : 0 ≤ s) (h1 : s ≤ 3600000) : holyB (fewD (l.take 40) s) = true := by
  have hl : (l.take 40).length ≤ 40 := by rw [List.length_take]; omega
  unfold holyB
  rw [fewD_holy (l.take 40) s none h0 (by omega) (fun y h => by cases h), fewD_len]
  simp; omega
set_option maxHeartbeats 4000000 in
set_option maxRecDepth 20000 in
theorem riseWalk (t : Tm) (hin : TmIn t) (A : Option Addr) (n c : Nat) (l : List Int) (w : World) (M I : BS) (hM : ∀ b, ¬ M b) (H : Hp ⟨w, M, I⟩ [] [Sl u8R (.slice A n c) l, LibF] w) :
    Ctr Tryz.prog 6 [tmV t, .slice A n c] w M I (fun _ : Unit => .bool true) (fun _ => True) (fun _ => []) (fun _ => []) := by
  refine Exe.of_ev tok Tryz.call6 Tryz.func6 rfl rfl rfl ?_
  refine box_as H (tmC t) rfl fun r w1 H1 => ?_
  refine call_rule H1 (fun M I h0 h => awake16 _ M I (h0 rfl) h) fun _ w2 _ H2 => ?_
  refine load_rule tok H2 (v := tmV t) rfl ?_
  refine call_rule H2 (fun M I _ h => ownTm t hin _ M I h) fun _ w3 _ H3 => ?_
  refine call_rule H3 (fun M I _ h => refRight t hin _ M I h) fun _ w4 _ H4 => ?_
  refine br (fun q => ?_) (fun q => ?_)
  · exact Exists.intro () (And.intro rfl (And.intro trivial (Hp.keep H4)))
  have q : (!rtB t) = false := q
  have hb : tmB t = true := by rw [← rtB_eq]; simpa using q
  have ok := tmB_iff.1 hb
  have hst := ok.start
  have hmo := ok.months
  refine load_rule tok H4 (v := .int .i32 t.start) rfl ?_
  refine call_rule H4 (fun M I h0 h => few_ A n c l t.start hst.1 hst.2 _ M I (h0 rfl) h) fun a w5 _ H5 => ?_
  refine load_rule tok H5 (v := tmV t) rfl ?_
  refine call_rule H5 (fun M I h0 h => duesS t hin a.1.A a.1.n a.1.c (fewD (l.take 40) t.start) hb (fewHoly l t.start hst.1 hst.2) _ M I (h0 rfl) h) fun d w6 hd H6 => ?_
  have hR := dues_rise hin ok hd
  have hlen := hd.len
  have H6 : Hp ⟨w, M, I⟩ [blk r (tmC t) 28] [Sl dueR (.slice (some ⟨d.1.1, d.1.2.1, none⟩) t.months.toNat d.1.2.2) d.2] w6 := Hp.keep H6
  refine load_rule tok H6 (v := .int .i64 t.months) rfl ?_
  refine br (fun q2 => ?_) (fun q2 => ?_)
  · have q2 : (!((t.months.toNat : Int) == t.months)) = true := q2
    have e : (t.months.toNat : Int) = t.months := by omega
    rw [e] at q2
    simp at q2
  refine loop_rule tok (σ := Nat) 302231454901458270422544 (fun i => [(41, .int .i64 (i : Int))]) (fun i w' => i ≤ t.months.toNat ∧ Hp ⟨w, M, I⟩ [blk r (tmC t) 28] [Sl dueR (.slice (some ⟨d.1.1, d.1.2.1, none⟩) t.months.toNat d.1.2.2) d.2] w') (fun i => t.months.toNat - i) 0 rfl rfl ⟨rfl, trivial⟩ ⟨Nat.zero_le _, H6⟩ ?_
  intro i j w7 hW
  have hi := hW.1
  have H7 := hW.2
  refine brd (fun hlt => ?_) (fun hge => ?_)
  · have ew : IntKind.i64.wrap ((i : Int) + 1) = ((i + 1 : Nat) : Int) := w64 (by omega) (by omega)
    have hlt' : i < d.2.length := by omega
    refine Exists.elim (⟨_, List.getElem?_eq_getElem hlt'⟩ : ∃ x, d.2[i]? = some x) fun x hx => ?_
    refine idx_own tok rfl rfl (by omega) hlt ?_
    refine sl_ld tok H7 (o := d.1.2.1) (n := t.months.toNat) (c := d.1.2.2) (r := dueR) (xs := d.2) (j := i) (f := 0) (.agg #[.int .i32 x.1, .int .i64 x.2]) hx rfl (fun _ _ => rfl) ?_
    refine alloc_as tok H7 [.int .i32 0, .int .i64 0] rfl rfl rfl fun b w8 H8 => ?_
    refine store_as tok H8 (dueC x) rfl rfl rfl rfl rfl fun w9 H9 => ?_
    have hs1 := hR.1 i x hx
    refine draw_rule (A := []) tok tdr H9 [0, 1, 2, 3, 4, 5, 6, 7, 8, 9, 10, 11, 12, 13, 14, 15, 16, 17, 18, 19, 20, 21, 22, 23, 24, 25, 26, 27, 28, 29, 30] [0, 1, 0, 4, 15, 31, 63, 127, 255, 511, 1023, 511, 511, 4607, 14847, 31231, 63999, 131071, 262143, 524287, 1048575, 524287, 524287, 4718591, 15204351, 31981567, 65535999, 134217727, 268435455, 536870911, 1073741823] rfl ?_
    refine pass_rule _ (fun w h => load_rule tok h (v := .int .i32 x.1) rfl ⟨rfl, rfl⟩) ?_
    refine pass_rule _ (fun w h => load_rule tok h (v := .int .i32 t.start) rfl ⟨rfl, rfl⟩) ?_
    refine brd (fun hq => absurd hq (by omega)) (fun _ => ?_)
    refine brd (fun h0 => ?_) (fun h0 => ?_)
    · have e1 : IntKind.i64.wrap ((i : Int) - 1) = ((i - 1 : Nat) : Int) := by rw [w64 (by omega) (by omega)]; omega
      have hlt2 : i - 1 < d.2.length := by omega
      refine Exists.elim (⟨_, List.getElem?_eq_getElem hlt2⟩ : ∃ y, d.2[i - 1]? = some y) fun y hy => ?_
      have hs2 := hR.2.1 (i - 1) y x hy (by rw [show i - 1 + 1 = i by omega]; exact hx)
      refine pass_rule _ (fun w h => load_rule tok h (v := .int .i32 x.1) rfl ⟨rfl, rfl⟩) ?_
      refine pass_rule _ (fun w h => idx_own tok rfl rfl (by rw [e1]; omega) (by rw [e1]; omega) ⟨rfl, rfl⟩) ?_
      refine pass_rule _ (fun w h => sl_ld tok h (o := d.1.2.1) (n := t.months.toNat) (c := d.1.2.2) (r := dueR) (xs := d.2) (j := i - 1) (f := 0) (.int .i32 y.1) hy (by rw [e1]; rfl) (fun _ _ => rfl) ⟨rfl, rfl⟩) ?_
      refine brd (fun hq => absurd hq (by omega)) (fun _ => ?_)
      refine pass_rule _ (fun w h => load_rule tok h (v := .int .i64 x.2) rfl ⟨rfl, rfl⟩) ?_
      refine pass_rule _ (fun w h => idx_own tok rfl rfl (by rw [e1]; omega) (by rw [e1]; omega) ⟨rfl, rfl⟩) ?_
      refine pass_rule _ (fun w h => sl_ld tok h (o := d.1.2.1) (n := t.months.toNat) (c := d.1.2.2) (r := dueR) (xs := d.2) (j := i - 1) (f := 1) (.int .i64 y.2) hy (by rw [e1]; rfl) (fun _ _ => rfl) ⟨rfl, rfl⟩) ?_
      refine done_rule fun w10 H10 => ?_
      refine brd (fun hq => absurd hq (by omega)) (fun _ => ?_)
      exact Exists.intro (i + 1) (And.intro ⟨congrArg (Value.int .i64) ew, trivial⟩ (And.intro (by show t.months.toNat - (i + 1) < t.months.toNat - i; omega) ⟨by omega, Hp.keep H10⟩))
    · refine done_rule fun w10 H10 => ?_
      exact Exists.intro (i + 1) (And.intro ⟨congrArg (Value.int .i64) ew, trivial⟩ (And.intro (by show t.months.toNat - (i + 1) < t.months.toNat - i; omega) ⟨by omega, Hp.keep H10⟩))
  · have hlt : t.months.toNat - 1 < d.2.length := by omega
    refine Exists.elim (⟨_, List.getElem?_eq_getElem hlt⟩ : ∃ x, d.2[t.months.toNat - 1]? = some x) fun x hx => ?_
    have hx3 := hR.2.2 x hx
    have e1 : IntKind.i64.wrap ((t.months.toNat : Int) - 1) = ((t.months.toNat - 1 : Nat) : Int) := by rw [w64 (by omega) (by omega)]; omega
    refine draw_rule (A := []) tok tdr H7 [0, 1, 2, 3, 4, 5, 6, 7, 8, 9, 10] [0, 0, 2, 6, 15, 31, 63, 0, 128, 511, 1023] rfl ?_
    refine pass_rule _ (fun w h => idx_own tok rfl rfl (by rw [e1]; omega) (by rw [e1]; omega) ⟨rfl, rfl⟩) ?_
    refine pass_rule _ (fun w h => sl_ld tok h (o := d.1.2.1) (n := t.months.toNat) (c := d.1.2.2) (r := dueR) (xs := d.2) (j := t.months.toNat - 1) (f := 1) (.int .i64 x.2) hx (by rw [e1]; rfl) (fun _ _ => rfl) ⟨rfl, rfl⟩) ?_
    refine pass_rule _ (fun w h => load_rule tok h (v := .int .i64 t.prin) rfl ⟨rfl, rfl⟩) ?_
    refine done_rule fun w10 H10 => ?_
    exact Exists.intro () (And.intro (congrArg Value.bool (decide_eq_true hx3)) (And.intro trivial (Hp.keep H10)))
end Go.Proofs.YtgbmambkgcjhfaaGreatDoor
