/- What an entry has of an account; entries alike; legs that one may write: the walks. -/
import Derived.Test.YtenpgmnknmnofaaDoorT13
import Derived.Test.YtenpgmnknmnofaaDoorWkOps
namespace Go.Proofs.YtenpgmnknmnofaaDoor
open Go Go.Proofs Go.Wk
def ofV (a : Int) : List Leg → Int
  | [] => 0
  | x :: r => if x.acct = a then x.amt else ofV a r
theorem of_ (k : Key) (A : Option Addr) (n c : Nat) (ls : List Leg) (a : Int) (w : World) (M I : BS) (H : Hp ⟨w, M, I⟩ [] [Sl legR (.slice A n c) ls] w) :
    Ctr Tryd.prog 11 [.agg #[.int .u32 k.loan, .int .i32 k.day, .int .u8 k.kind, .int .u32 k.seq, .slice A n c], .int .u8 a] w M I (fun _ : Unit => .int .i64 (ofV a ls)) (fun _ => True) (fun _ => []) (fun _ => []) := by
  obtain ⟨hn, hc, hc2⟩ := H.sll (A := A) (n := n) (c := c)
  refine Exe.of_ev tok Tryd.call11 Tryd.func11 rfl rfl rfl ?_
  refine box_as H (entC k A n c) rfl fun x w1 H1 => ?_
  refine load_rule tok H1 (v := .slice A n c) rfl ?_
  refine loop_rule tok (σ := Nat) 2096208 (fun i => [(10, .int .i64 i)])
    (fun i w' => i ≤ n ∧ ofV a ls = ofV a (ls.drop i) ∧ Hp ⟨w, M, I⟩ [blk x (entC k A n c) 29] [Sl legR (.slice A n c) ls] w') (fun i => n - i) 0 rfl rfl ⟨rfl, trivial⟩ ⟨Nat.zero_le _, rfl, H1⟩ ?_
  rintro i j w2 ⟨hi, hg, H2⟩
  refine brd (fun q => ?_) (fun q => ?_)
  · have hil : i < n := by omega
    obtain ⟨u, hu⟩ : ∃ u, ls[i]? = some u := ⟨_, List.getElem?_eq_getElem (by omega)⟩
    have hdu : ls.drop i = u :: ls.drop (i + 1) := by
      rw [List.drop_eq_getElem_cons (by omega)]
      rw [List.getElem?_eq_getElem (by omega)] at hu
      rw [Option.some.inj hu]
    obtain ⟨b1, o1, rfl⟩ := H2.slAt (A := A) (n := n) (c := c) (r := legR) (by omega)
    refine idx_own tok rfl rfl (show (0 : Int) ≤ (i : Int) by omega) q ?_
    refine sl_ld (n := n) (c := c) (j := i) (f := 0) (r := legR) tok H2 (legV u) hu rfl (fun _ _ => rfl) ?_
    refine alloc_as tok H2 [.int .u8 0, .int .i64 0] rfl rfl rfl fun l w3 H3 => ?_
    refine store_as tok H3 [.int .u8 u.acct, .int .i64 u.amt] rfl rfl rfl rfl rfl fun w4 H4 => ?_
    refine load_rule tok H4 (v := .int .u8 u.acct) rfl ?_
    refine brd (fun q3 => ?_) (fun q3 => ?_)
    · refine load_rule tok H4 (v := .int .i64 u.amt) rfl ?_
      refine Exists.intro () (And.intro (congrArg (Value.int .i64) ?_) (And.intro trivial (Hp.keep H4)))
      rw [hg, hdu, ofV, if_pos q3]
    · refine Exists.intro (i + 1) (And.intro ⟨?_, trivial⟩ (And.intro ?_ ⟨?_, ?_, Hp.keep H4⟩))
      · show Value.int .i64 (IntKind.i64.wrap (i + 1)) = _
        rw [w64 (by omega) (by omega)]; rfl
      · omega
      · omega
      · rw [hg, hdu, ofV, if_neg q3]
  · refine Exists.intro () (And.intro (congrArg (Value.int .i64) ?_) (And.intro trivial (Hp.keep H2)))
    rw [hg, List.drop_eq_nil_of_le (by omega)]; rfl
theorem equal (A B : Option Addr) (n c m d : Nat) (ls ms : List Leg) (w : World) (M I : BS) (H : Hp ⟨w, M, I⟩ [] [Sl legR (.slice A n c) ls, Sl legR (.slice B m d) ms] w) (hA : n = ls.length ∧ ls.length ≤ 9223372036854775807) (hB : m = ms.length) :
    Ctr Tryd.prog 39 [.slice A n c, .slice B m d] w M I (fun _ : Unit => .bool (legsEq ls ms)) (fun _ => True) (fun _ => []) (fun _ => []) := by
  obtain ⟨rfl, hlen⟩ := hA
  subst hB
  refine Exe.of_ev tok Tryd.call39 Tryd.func39 rfl rfl rfl ?_
  refine br (fun q2 => ?_) (fun q2 => ?_)
  · have q2 : ((ls.length : Int) != (ms.length : Int)) = true := q2
    have q2 : ls.length ≠ ms.length := fun h => by rw [h] at q2; simp at q2
    refine Exists.intro () (And.intro (congrArg Value.bool ?_) (And.intro trivial (Hp.keep H)))
    rw [legsEq_len q2]
  have q2 : ((ls.length : Int) != (ms.length : Int)) = false := q2
  have q2 : ls.length = ms.length := by
    have q2 : (ls.length : Int) = ms.length := by simpa using q2
    omega
  refine loop_rule tok (σ := Nat) 67100720 (fun i => [(13, .int .i64 i)])
    (fun i w' => i ≤ ls.length ∧ legsEq ls ms = legsEq (ls.drop i) (ms.drop i) ∧ Hp ⟨w, M, I⟩ [] [Sl legR (.slice A ls.length c) ls, Sl legR (.slice B ms.length d) ms] w') (fun i => ls.length - i) 0 rfl rfl ⟨rfl, trivial⟩
    ⟨Nat.zero_le _, rfl, H⟩ ?_
  rintro i j w3 ⟨hi, hg, H3⟩
  refine brd (fun h5 => ?_) (fun h5 => ?_)
  · have hil : i < ls.length := by omega
    obtain ⟨u, hu⟩ : ∃ u, ls[i]? = some u := ⟨_, List.getElem?_eq_getElem hil⟩
    obtain ⟨v, hv⟩ : ∃ v, ms[i]? = some v := ⟨_, List.getElem?_eq_getElem (by omega)⟩
    have hdu : ls.drop i = u :: ls.drop (i + 1) := by
      rw [List.drop_eq_getElem_cons hil]
      rw [List.getElem?_eq_getElem hil] at hu
      rw [Option.some.inj hu]
    have hdv : ms.drop i = v :: ms.drop (i + 1) := by
      rw [List.drop_eq_getElem_cons (by omega)]
      rw [List.getElem?_eq_getElem (by omega)] at hv
      rw [Option.some.inj hv]
    obtain ⟨b1, o1, rfl⟩ := H3.slAt (A := A) (n := ls.length) (c := c) (r := legR) (by omega)
    obtain ⟨b2, o2, rfl⟩ := H3.slAt (A := B) (n := ms.length) (c := d) (r := legR) (by omega)
    have i1 : (0 : Int) ≤ (i : Int) := by omega
    have i2 : (i : Int) < ls.length := h5
    have i3 : (i : Int) < ms.length := by omega
    refine draw_rule (A := []) tok tdr H3 [0, 1, 2, 3, 4, 5, 6, 7, 8] [0, 0, 3, 7, 0, 0, 48, 112, 255] rfl ?_
    refine pass_rule _ (fun w h => idx_own tok rfl rfl i1 i2 ⟨rfl, rfl⟩) ?_
    refine pass_rule _ (fun w h => sl_ld (n := ls.length) (c := c) (j := i) (f := 0) (r := legR) tok h (legV u) hu rfl (fun _ _ => rfl) ⟨rfl, rfl⟩) ?_
    refine pass_rule _ (fun w h => idx_own tok rfl rfl i1 i3 ⟨rfl, rfl⟩) ?_
    refine pass_rule _ (fun w h => sl_ld (n := ms.length) (c := d) (j := i) (f := 0) (r := legR) tok h (legV v) hv rfl (fun _ _ => rfl) ⟨rfl, rfl⟩) ?_
    refine pass_rule _ (fun w h => ne_struct tok (r := legEq u v) rfl Tryd.eqGuardType40 Tryd.stoodInHeld40 rfl ⟨rfl, rfl⟩) ?_
    refine done_rule fun w4 H4 => ?_
    refine br (fun q3 => ?_) (fun q3 => ?_)
    · have q3 : legEq u v = false := by simpa using q3
      refine Exists.intro () (And.intro (congrArg Value.bool ?_) (And.intro trivial (Hp.keep H4)))
      rw [hg, hdu, hdv, legsEq, q3, Bool.false_and]
    · have q3 : legEq u v = true := by simpa using q3
      refine Exists.intro (i + 1) (And.intro ⟨?_, trivial⟩ (And.intro ?_ ⟨?_, ?_, H4⟩))
      · show Value.int .i64 (IntKind.i64.wrap (i + 1)) = _
        rw [w64 (by omega) (by omega)]; rfl
      · omega
      · omega
      · rw [hg, hdu, hdv, legsEq, q3, Bool.true_and]
  · refine Exists.intro () (And.intro (congrArg Value.bool ?_) (And.intro trivial (Hp.keep H3)))
    rw [hg, List.drop_eq_nil_of_le (by omega), List.drop_eq_nil_of_le (by omega)]; rfl
theorem same_ (k l : Key) (A B : Option Addr) (n c m d : Nat) (ls ms : List Leg) (w : World) (M I : BS) (H : Hp ⟨w, M, I⟩ [] [Sl legR (.slice A n c) ls, Sl legR (.slice B m d) ms] w) (hA : n = ls.length ∧ ls.length ≤ 9223372036854775807) (hB : m = ms.length) :
    Ctr Tryd.prog 18 [.agg #[.int .u32 k.loan, .int .i32 k.day, .int .u8 k.kind, .int .u32 k.seq, .slice A n c], .agg #[.int .u32 l.loan, .int .i32 l.day, .int .u8 l.kind, .int .u32 l.seq, .slice B m d]] w M I (fun _ : Unit => .bool (sameB k l ls ms)) (fun _ => True) (fun _ => []) (fun _ => []) := by
  refine Exe.of_ev tok Tryd.call18 Tryd.func18 rfl rfl rfl ?_
  refine box_as H (entC k A n c) rfl fun x w1 H1 => ?_
  refine box_as H1 (entC l B m d) rfl fun y w2 H2 => ?_
  refine load_rule tok H2 (v := keyV k) rfl ?_
  refine load_rule tok H2 (v := keyV l) rfl ?_
  refine eq_struct tok (r := eqK k l) rfl Tryd.eqGuardType25 Tryd.stoodInHeld25 rfl ?_
  refine br (fun q => ?_) (fun q => ?_)
  · refine load_rule tok H2 (v := .slice A n c) rfl ?_
    refine load_rule tok H2 (v := .slice B m d) rfl ?_
    refine call_rule H2 (fun M I _ h => equal A B n c m d ls ms _ M I h hA hB) fun _ w3 _ H3 => ?_
    refine Exists.intro () (And.intro (congrArg Value.bool ?_) (And.intro trivial (Hp.keep H3)))
    rw [sameB, q]; rfl
  · refine Exists.intro () (And.intro (congrArg Value.bool ?_) (And.intro trivial (Hp.keep H2)))
    rw [sameB, q]; rfl
end Go.Proofs.YtenpgmnknmnofaaDoor
