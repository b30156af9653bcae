/- TermsApart: plain law and walk. Printed by gen32.py. -/
import Derived.Test.YtgbmambkgcjhfaaGreatDoorD31
import Derived.Test.YtgbmambkgcjhfaaGreatDoorD28
set_option linter.unusedVariables false
namespace Go.Proofs.YtgbmambkgcjhfaaGreatDoor
open Go Go.Proofs Go.Wk Go.Pl
theorem apart_bytes {a b : Tm} (ha : TmFit a) (hb : TmFit b) : (tmEq a b == byEq (tmBytes a) (tmBytes b)) = true := by
  rw [beq_iff_eq, Bool.eq_iff_iff, tmEq_iff, byEq_iff]
  exact ⟨fun e => by rw [e], tmBytes_inj ha hb⟩
theorem eqS_iff {x y : ByteArray} : eqS x y = true ↔ x = y := by
  rw [← strOf_of x, ← strOf_of y, eqS_strOf, decide_eq_true_iff]
  exact ⟨fun e => by rw [e], strOf_inj⟩
theorem apart_words {a b : Tm} (oa : TmOk a) (ha : TmIn a) (ob : TmOk b) (hb : TmIn b) {x y : ByteArray} (hx : TmT a x) (hy : TmT b y) : (tmEq a b == eqS x y) = true := by
  rw [beq_iff_eq, Bool.eq_iff_iff, tmEq_iff, eqS_iff]
  exact ⟨fun e => hx.uniq (e ▸ hy), fun e => TmT.inj oa ha.parts.1 ob hb.parts.1 hx (e ▸ hy)⟩
set_option maxHeartbeats 4000000 in
set_option maxRecDepth 20000 in
theorem apartWalk (a b : Tm) (ha : TmIn a) (hb : TmIn b) (w : World) (M I : BS) (hM : ∀ b, ¬ M b) (H : Hp ⟨w, M, I⟩ [] [LibF] w) :
    Ctr Tryz.prog 7 [tmV a, tmV b] w M I (fun _ : Unit => .bool true) (fun _ => True) (fun _ => []) (fun _ => []) := by
  have qa : (tmB a == rtB a) = true := by rw [rtB_eq]; simp
  have qb : (tmB b == rtB b) = true := by rw [rtB_eq]; simp
  refine Exe.of_ev tok Tryz.call7 Tryz.func7 rfl rfl rfl ?_
  refine box_as H (tmC a) rfl fun r1 w1 H1 => ?_
  refine box_as H1 (tmC b) rfl fun r2 w2 H2 => ?_
  refine call_rule H2 (fun M I h0 h => awake16 _ M I (h0 rfl) h) fun _ w3 _ H3 => ?_
  have H3 : Hp ⟨w, M, I⟩ [blk r2 (tmC b) 28, blk r1 (tmC a) 28] [LibF] w3 := Hp.keep H3
  refine load_rule tok H3 (v := tmV a) rfl ?_
  refine call_rule H3 (fun M I _ h => ownTm a ha _ M I h) fun _ w4 _ H4 => ?_
  refine call_rule H4 (fun M I _ h => refRight a ha _ M I h) fun _ w5 _ H5 => ?_
  have H5 : Hp ⟨w, M, I⟩ [blk r2 (tmC b) 28, blk r1 (tmC a) 28] [LibF] w5 := Hp.keep H5
  refine br (fun q => ?_) (fun q => ?_)
  · skip
    refine draw_rule (A := []) tok tdr H5 [0, 1, 2, 3, 4, 5, 6, 7, 8, 9, 10, 11, 12, 13, 14] [0, 1, 0, 7, 15, 31, 63, 127, 255, 127, 1023, 2047, 4095, 8191, 16383] rfl ?_
    refine pass_rule _ (fun w h => load_rule tok h (v := tmV a) rfl ⟨rfl, rfl⟩) ?_
    refine imp_rule (fun X wx h => call_rule h (fun M I _ h => termsRight a _ M I h) fun _ w1 _ H1 => imp_done H1 ?_)
    refine pass_rule _ (fun w h => load_rule tok h (v := tmV a) rfl ⟨rfl, rfl⟩) ?_
    refine imp_rule (fun X wx h => call_rule h (fun M I _ h => ownTm a ha _ M I h) fun _ w1 _ H1 => imp_done H1 ?_)
    refine imp_rule (fun X wx h => call_rule h (fun M I _ h => refRight a ha _ M I h) fun _ w1 _ H1 => imp_done H1 ?_)
    refine br (fun q4 => ?_) (fun q4 => absurd (show (tmB a == rtB a) = false from q4) (by rw [qa]; simp))
    refine pass_rule _ (fun w h => load_rule tok h (v := tmV b) rfl ⟨rfl, rfl⟩) ?_
    refine imp_rule (fun X wx h => call_rule h (fun M I _ h => termsRight b _ M I h) fun _ w1 _ H1 => imp_done H1 ?_)
    refine pass_rule _ (fun w h => load_rule tok h (v := tmV b) rfl ⟨rfl, rfl⟩) ?_
    refine imp_rule (fun X wx h => call_rule h (fun M I _ h => ownTm b hb _ M I h) fun _ w1 _ H1 => imp_done H1 ?_)
    refine imp_rule (fun X wx h => call_rule h (fun M I _ h => refRight b hb _ M I h) fun _ w1 _ H1 => imp_done H1 ?_)
    refine done_rule fun w9 H9 => ?_
    refine Exists.intro () (And.intro ?_ (And.intro trivial (Hp.keep H9)))
    show Value.bool (tmB b == rtB b) = Value.bool true
    rw [qb]
  have q : (!rtB a) = false := q
  have ta : tmB a = true := by rw [← rtB_eq]; simpa using q
  refine load_rule tok H5 (v := tmV b) rfl ?_
  refine call_rule H5 (fun M I _ h => ownTm b hb _ M I h) fun _ w6 _ H6 => ?_
  refine call_rule H6 (fun M I _ h => refRight b hb _ M I h) fun _ w7 _ H7 => ?_
  have H7 : Hp ⟨w, M, I⟩ [blk r2 (tmC b) 28, blk r1 (tmC a) 28] [LibF] w7 := Hp.keep H7
  refine br (fun q2 => ?_) (fun q2 => ?_)
  · skip
    refine draw_rule (A := []) tok tdr H7 [0, 1, 2, 3, 4, 5, 6, 7, 8, 9, 10, 11, 12, 13, 14] [0, 1, 0, 7, 15, 31, 63, 127, 255, 127, 1023, 2047, 4095, 8191, 16383] rfl ?_
    refine pass_rule _ (fun w h => load_rule tok h (v := tmV a) rfl ⟨rfl, rfl⟩) ?_
    refine imp_rule (fun X wx h => call_rule h (fun M I _ h => termsRight a _ M I h) fun _ w1 _ H1 => imp_done H1 ?_)
    refine pass_rule _ (fun w h => load_rule tok h (v := tmV a) rfl ⟨rfl, rfl⟩) ?_
    refine imp_rule (fun X wx h => call_rule h (fun M I _ h => ownTm a ha _ M I h) fun _ w1 _ H1 => imp_done H1 ?_)
    refine imp_rule (fun X wx h => call_rule h (fun M I _ h => refRight a ha _ M I h) fun _ w1 _ H1 => imp_done H1 ?_)
    refine br (fun q4 => ?_) (fun q4 => absurd (show (tmB a == rtB a) = false from q4) (by rw [qa]; simp))
    refine pass_rule _ (fun w h => load_rule tok h (v := tmV b) rfl ⟨rfl, rfl⟩) ?_
    refine imp_rule (fun X wx h => call_rule h (fun M I _ h => termsRight b _ M I h) fun _ w1 _ H1 => imp_done H1 ?_)
    refine pass_rule _ (fun w h => load_rule tok h (v := tmV b) rfl ⟨rfl, rfl⟩) ?_
    refine imp_rule (fun X wx h => call_rule h (fun M I _ h => ownTm b hb _ M I h) fun _ w1 _ H1 => imp_done H1 ?_)
    refine imp_rule (fun X wx h => call_rule h (fun M I _ h => refRight b hb _ M I h) fun _ w1 _ H1 => imp_done H1 ?_)
    refine done_rule fun w9 H9 => ?_
    refine Exists.intro () (And.intro ?_ (And.intro trivial (Hp.keep H9)))
    show Value.bool (tmB b == rtB b) = Value.bool true
    rw [qb]
  have q2 : (!rtB b) = false := q2
  have tb_ : tmB b = true := by rw [← rtB_eq]; simpa using q2
  have oa := tmB_iff.1 ta
  have ob := tmB_iff.1 tb_
  have fa := tm_fit oa ha
  have fb := tm_fit ob hb
  have la := tmBytes_len fa
  have lb := tmBytes_len fb
  have hab := apart_bytes fa fb
  refine draw_rule (A := []) tok tdr H7 [3, 4, 5, 6, 7, 0, 1, 2, 8, 9, 13, 14, 15, 16, 10, 11, 12, 17, 18, 19, 20] [0, 0, 3, 0, 8, 0, 56, 120, 255, 511, 1023, 1023, 4095, 1023, 9215, 1023, 58367, 123903, 262143, 524287, 1048575] rfl ?_
  refine pass_rule _ (fun w h => load_rule tok h (v := tmV a) rfl ⟨rfl, rfl⟩) ?_
  refine imp_rule (fun X wx h => call_rule h (fun M I h0 h => tmBytesW a ha ta _ M I (h0 rfl) h) fun p w1 _ H1 => imp_done H1 ?_)
  refine pass_rule _ (fun w h => load_rule tok h (v := tmV b) rfl ⟨rfl, rfl⟩) ?_
  refine imp_rule (fun X wx h => call_rule h (fun M I h0 h => tmBytesW b hb tb_ _ M I (h0 rfl) h) fun s w1 _ H1 => imp_done H1 ?_)
  refine imp_rule (fun X wx h => ?_)
  have k1 := h.sll (A := p.A) (n := p.n) (c := p.c)
  have k2 := h.sll (A := s.A) (n := s.n) (c := s.c)
  refine call_rule h (fun M I _ h => sameBytes p.A s.A p.n p.c s.n s.c (tmBytes a) (tmBytes b) _ M I h ⟨k1.1, by omega⟩ k2.1) fun _ w1 _ H1 => imp_done H1 ?_
  refine pass_rule _ (fun w h => load_rule tok h (v := tmV a) rfl ⟨rfl, rfl⟩) ?_
  refine pass_rule _ (fun w h => load_rule tok h (v := tmV b) rfl ⟨rfl, rfl⟩) ?_
  refine pass_rule _ (fun w h => eqN_struct tok [28, 25] 2 (r := tmEq a b) okS rfl guard28 (tmEqV a b) ⟨rfl, rfl⟩) ?_
  refine br (fun q4 => ?_) (fun q4 => absurd (show (tmEq a b == byEq (tmBytes a) (tmBytes b)) = false from q4) (by rw [hab]; simp))
  refine pass_rule _ (fun w h => load_rule tok h (v := tmV a) rfl ⟨rfl, rfl⟩) ?_
  refine imp_rule (fun X wx h => call_rule h (fun M I _ h => tmText a ha ta oa _ M I h) fun x w1 hx H1 => imp_done H1 ?_)
  refine pass_rule _ (fun w h => load_rule tok h (v := tmV b) rfl ⟨rfl, rfl⟩) ?_
  refine imp_rule (fun X wx h => call_rule h (fun M I _ h => tmText b hb tb_ ob _ M I h) fun y w1 hy H1 => imp_done H1 ?_)
  refine pass_rule _ (fun w h => load_rule tok h (v := tmV a) rfl ⟨rfl, rfl⟩) ?_
  refine pass_rule _ (fun w h => load_rule tok h (v := tmV b) rfl ⟨rfl, rfl⟩) ?_
  refine pass_rule _ (fun w h => eqN_struct tok [28, 25] 2 (r := tmEq a b) okS rfl guard28 (tmEqV a b) ⟨rfl, rfl⟩) ?_
  have hxy := apart_words oa ha ob hb hx hy
  refine done_rule fun w9 H9 => ?_
  refine Exists.intro () (And.intro ?_ (And.intro trivial (Hp.keep H9)))
  show Value.bool (tmEq a b == eqS x y) = Value.bool true
  rw [hxy]
end Go.Proofs.YtgbmambkgcjhfaaGreatDoor
