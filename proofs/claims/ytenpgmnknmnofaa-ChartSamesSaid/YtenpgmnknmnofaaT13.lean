/- The document's word on entries that are alike, and on those that may be: the walk. -/
import Derived.Test.YtenpgmnknmnofaaT7
import Derived.Test.YtenpgmnknmnofaaT12
namespace Go.Proofs.Ytenpgmnknmnofaa
open Go Go.Proofs Go.Wk
def legEq (x y : Leg) : Bool := x.acct == y.acct && (x.amt == y.amt && true)
def legsEq : List Leg → List Leg → Bool
  | [], [] => true
  | x :: r, y :: s => legEq x y && legsEq r s
  | _, _ => false
def sameB (k l : Key) (a b : List Leg) : Bool := eqK k l && legsEq a b
theorem legsEq_len : ∀ {a b : List Leg}, a.length ≠ b.length → legsEq a b = false
  | [], [], h => absurd rfl h
  | [], _ :: _, _ => rfl
  | _ :: _, [], _ => rfl
  | x :: r, y :: s, h => by
    rw [legsEq, legsEq_len (by simpa using h), Bool.and_false]
theorem sameRef (k l : Key) (A B : Option Addr) (n c m d : Nat) (ls ms : List Leg) (w : World) (M I : BS) (H : Hp ⟨w, M, I⟩ [] [Sl legR (.slice A n c) ls, Sl legR (.slice B m d) ms] w) (hAB : n = ls.length) (hBB : m = ms.length) :
    Ctr Try.prog 13 [.agg #[.int .u32 k.loan, .int .i32 k.day, .int .u8 k.kind, .int .u32 k.seq, .slice A n c], .agg #[.int .u32 l.loan, .int .i32 l.day, .int .u8 l.kind, .int .u32 l.seq, .slice B m d]] w M I (fun _ : Unit => .bool (sameB k l ls ms)) (fun _ => True) (fun _ => []) (fun _ => []) := by
  subst hAB hBB
  obtain ⟨Ia, fa, _, hall, _⟩ := H.ex
  obtain ⟨_, c1, e1, _, hc2, _, _⟩ := hall _ (List.mem_cons_self)
  obtain ⟨_, d1, e2, _, hd2, _, _⟩ := hall _ (List.mem_cons_of_mem _ List.mem_cons_self)
  have hlen : ls.length ≤ 9223372036854775807 := by omega
  refine Exe.of_ev tok Try.call13 Try.func13 rfl rfl rfl ?_
  refine box_as H (entC k A ls.length c) rfl fun x w1 H1 => ?_
  refine box_as H1 (entC l B ms.length d) rfl fun y w2 H2 => ?_
  refine load_rule tok H2 (v := keyV k) rfl ?_
  refine load_rule tok H2 (v := keyV l) rfl ?_
  refine ne_struct tok (r := eqK k l) rfl Try.eqGuardType33 Try.stoodInHeld33 rfl ?_
  refine br (fun q => ?_) (fun q => ?_)
  · have q : eqK k l = false := by simpa using q
    refine Exists.intro () (And.intro (congrArg Value.bool ?_) (And.intro trivial (Hp.keep H2)))
    rw [sameB, q]; rfl
  have q : eqK k l = true := by simpa using q
  refine load_rule tok H2 (v := .slice A ls.length c) rfl ?_
  refine load_rule tok H2 (v := .slice B ms.length d) rfl ?_
  refine br (fun q2 => ?_) (fun q2 => ?_)
  · have q2 : ((ls.length : Int) != (ms.length : Int)) = true := q2
    have q2 : ls.length ≠ ms.length := fun h => by rw [h] at q2; simp at q2
    refine Exists.intro () (And.intro (congrArg Value.bool ?_) (And.intro trivial (Hp.keep H2)))
    rw [sameB, legsEq_len q2, Bool.and_false]
  have q2 : ((ls.length : Int) != (ms.length : Int)) = false := q2
  have q2 : ls.length = ms.length := by
    have q2 : (ls.length : Int) = ms.length := by simpa using q2
    omega
  refine load_rule tok H2 (v := .slice A ls.length c) rfl ?_
  refine loop_rule tok (σ := Nat) 274869518384 (fun i => [(23, .int .i64 i)])
    (fun i w' => i ≤ ls.length ∧ legsEq ls ms = legsEq (ls.drop i) (ms.drop i) ∧ Hp ⟨w, M, I⟩ [blk y (entC l B ms.length d) 36, blk x (entC k A ls.length c) 36] [Sl legR (.slice A ls.length c) ls, Sl legR (.slice B ms.length d) ms] w') (fun i => ls.length - i) 0 rfl rfl ⟨rfl, trivial⟩
    ⟨Nat.zero_le _, rfl, H2⟩ ?_
  rintro i j w3 ⟨hi, hg, H3⟩
  refine brd (fun h5 => ?_) (fun h5 => ?_)
  · have hil : i < ls.length := by omega
    obtain ⟨u, hu⟩ : ∃ u, ls[i]? = some u := ⟨_, List.getElem?_eq_getElem hil⟩
    obtain ⟨v, hv⟩ : ∃ v, ms[i]? = some v := ⟨_, List.getElem?_eq_getElem (by omega)⟩
    have hdu : ls.drop i = u :: ls.drop (i + 1) := by
      rw [List.drop_eq_getElem_cons hil]
      rw [List.getElem?_eq_getElem hil] at hu
      rw [Option.some.inj hu]
    have hdv : ms.drop i = v :: ms.drop (i + 1) := by
      rw [List.drop_eq_getElem_cons (by omega)]
      rw [List.getElem?_eq_getElem (by omega)] at hv
      rw [Option.some.inj hv]
    obtain ⟨b1, o1, rfl⟩ := H3.slAt (A := A) (n := ls.length) (c := c) (r := legR) (by omega)
    obtain ⟨b2, o2, rfl⟩ := H3.slAt (A := B) (n := ms.length) (c := d) (r := legR) (by omega)
    have i1 : (0 : Int) ≤ (i : Int) := by omega
    have i2 : (i : Int) < ls.length := h5
    have i3 : (i : Int) < ms.length := by omega
    refine draw_rule (A := []) tok tdr H3 [0, 1, 2, 3, 4, 5, 6, 7, 8, 9, 10] [0, 1, 0, 7, 15, 0, 32, 0, 224, 480, 1023] rfl ?_
    refine pass_rule _ (fun w h => load_rule tok h (v := .slice (some ⟨b1, o1, none⟩) ls.length c) rfl ⟨rfl, rfl⟩) ?_
    refine pass_rule _ (fun w h => idx_own tok rfl rfl i1 i2 ⟨rfl, rfl⟩) ?_
    refine pass_rule _ (fun w h => sl_ld (n := ls.length) (c := c) (j := i) (f := 0) (r := legR) tok h (legV u) hu rfl (fun _ _ => rfl) ⟨rfl, rfl⟩) ?_
    refine pass_rule _ (fun w h => load_rule tok h (v := .slice (some ⟨b2, o2, none⟩) ms.length d) rfl ⟨rfl, rfl⟩) ?_
    refine pass_rule _ (fun w h => idx_own tok rfl rfl i1 i3 ⟨rfl, rfl⟩) ?_
    refine pass_rule _ (fun w h => sl_ld (n := ms.length) (c := d) (j := i) (f := 0) (r := legR) tok h (legV v) hv rfl (fun _ _ => rfl) ⟨rfl, rfl⟩) ?_
    refine pass_rule _ (fun w h => ne_struct tok (r := legEq u v) rfl Try.eqGuardType67 Try.stoodInHeld67 rfl ⟨rfl, rfl⟩) ?_
    refine done_rule fun w4 H4 => ?_
    refine br (fun q3 => ?_) (fun q3 => ?_)
    · have q3 : legEq u v = false := by simpa using q3
      refine Exists.intro () (And.intro (congrArg Value.bool ?_) (And.intro trivial (Hp.keep H4)))
      rw [sameB, hg, hdu, hdv, legsEq, q3, Bool.false_and, Bool.and_false]
    · have q3 : legEq u v = true := by simpa using q3
      refine Exists.intro (i + 1) (And.intro ⟨?_, trivial⟩ (And.intro ?_ ⟨?_, ?_, H4⟩))
      · show Value.int .i64 (IntKind.i64.wrap (i + 1)) = _
        rw [w64 (by omega) (by omega)]; rfl
      · omega
      · omega
      · rw [hg, hdu, hdv, legsEq, q3, Bool.true_and]
  · refine Exists.intro () (And.intro (congrArg Value.bool ?_) (And.intro trivial (Hp.keep H3)))
    rw [sameB, q, hg, List.drop_eq_nil_of_le (by omega), List.drop_eq_nil_of_le (by omega)]; rfl
end Go.Proofs.Ytenpgmnknmnofaa
