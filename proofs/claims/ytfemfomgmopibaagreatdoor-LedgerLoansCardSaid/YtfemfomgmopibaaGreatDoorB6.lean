/- The ledger: two alike; an entry's copy; a line; a live entry: the walks. -/
import Derived.Test.YtfemfomgmopibaaGreatDoorB5
namespace Go.Proofs.YtfemfomgmopibaaGreatDoor
open Go Go.Proofs Go.Wk
@[reducible] def lnV (x : Ln) : Value := .agg #[.int .u32 x.k.loan, .int .i32 x.k.day, .int .u8 x.k.kind, .int .u32 x.k.seq, .slice x.s.A x.s.n x.s.c, .int .i64 x.of]
def lnEq (x y : Ln) : Bool := x.of == y.of && sameB x.k y.k x.ls y.ls
def lnsEq : List Ln → List Ln → Bool
  | [], [] => true
  | x :: r, y :: s => lnEq x y && lnsEq r s
  | _, _ => false
theorem lnsEq_len : ∀ {a b : List Ln}, a.length ≠ b.length → lnsEq a b = false
  | [], [], h => absurd rfl h
  | [], _ :: _, _ => rfl
  | _ :: _, [], _ => rfl
  | _ :: a, _ :: b, h => by
    rw [lnsEq, lnsEq_len (a := a) (b := b) (fun e => h (by rw [List.length_cons, List.length_cons, e])), Bool.and_false]
theorem lnsEq_self : ∀ a : List Ln, lnsEq a a = true
  | [] => rfl
  | x :: a => by
    rw [lnsEq, lnsEq_self a, Bool.and_true, lnEq, sameB, legsEq_self, Bool.and_true, eqK_iff.2 rfl]
    simp
theorem ln_get {xs : List Ln} {j : Nat} {x : Ln} (h : xs[j]? = some x) : ldV (tb 69) (lnsC xs) (0 + j * 6) = some (lnV x) := by
  obtain ⟨hj, _⟩ := List.getElem?_eq_some_iff.1 h
  have hd : xs.drop j = x :: xs.drop (j + 1) := by
    rw [List.drop_eq_getElem_cons hj]
    rw [List.getElem?_eq_getElem hj] at h
    rw [Option.some.inj h]
  show (bif Nat.ble (0 + j * 6 + 6) (lnsC xs).length then some (Value.agg (((lnsC xs).drop (0 + j * 6)).take 6).toArray) else none) = _
  rw [show 0 + j * 6 = j * 6 by omega, lnsC_drop, hd]
  have : Nat.ble (j * 6 + 6) (lnsC xs).length = true := by rw [Nat.ble_eq, lnsC_len]; omega
  rw [this]
  rfl
theorem sameLn (x y : Ln) (w : World) (M I : BS) (H : Hp ⟨w, M, I⟩ [] [Sl legR (.slice x.s.A x.s.n x.s.c) x.ls, Sl legR (.slice y.s.A y.s.n y.s.c) y.ls] w) :
    Ctr Tryz.prog 41 [lnV x, lnV y] w M I (fun _ : Unit => .bool (lnEq x y)) (fun _ => True) (fun _ => []) (fun _ => []) := by
  obtain ⟨h1, h2, h3⟩ := H.sll (A := x.s.A) (n := x.s.n) (c := x.s.c)
  obtain ⟨g1, g2, g3⟩ := H.sll (A := y.s.A) (n := y.s.n) (c := y.s.c)
  refine Exe.of_ev tok Tryz.call41 Tryz.func41 rfl rfl rfl ?_
  refine box_as H (lnC x) rfl fun p w1 H1 => ?_
  refine box_as H1 (lnC y) rfl fun q w2 H2 => ?_
  refine load_rule tok H2 (v := .int .i64 x.of) rfl ?_
  refine load_rule tok H2 (v := .int .i64 y.of) rfl ?_
  refine br (fun q => ?_) (fun q => ?_)
  · refine load_rule tok H2 (v := .agg #[.int .u32 x.k.loan, .int .i32 x.k.day, .int .u8 x.k.kind, .int .u32 x.k.seq, .slice x.s.A x.s.n x.s.c]) rfl ?_
    refine load_rule tok H2 (v := .agg #[.int .u32 y.k.loan, .int .i32 y.k.day, .int .u8 y.k.kind, .int .u32 y.k.seq, .slice y.s.A y.s.n y.s.c]) rfl ?_
    refine call_rule H2 (fun M I _ h => same_ x.k y.k x.s.A y.s.A x.s.n x.s.c y.s.n y.s.c x.ls y.ls _ M I h ⟨h1, by omega⟩ g1) fun _ w3 _ H3 => ?_
    refine Exists.intro () (And.intro (congrArg Value.bool ?_) (And.intro trivial (Hp.keep H3)))
    have q : (x.of == y.of) = true := q
    rw [lnEq, q]; rfl
  · refine Exists.intro () (And.intro (congrArg Value.bool ?_) (And.intro trivial (Hp.keep H2)))
    have q : (x.of == y.of) = false := q
    rw [lnEq, q]; rfl
set_option maxRecDepth 20000 in
theorem eqLns (s t : SV) (xs ys : List Ln) (hx : xs.length ≤ 100000) (hsn : s.n = xs.length) (htn : t.n = ys.length) (w : World) (M I : BS) (H : Hp ⟨w, M, I⟩ [row 69 6 (.slice s.A s.n s.c) s.n (lnsC xs), row 69 6 (.slice t.A t.n t.c) t.n (lnsC ys)] [LnF xs, LnF ys] w) :
    Ctr Tryz.prog 40 [.slice s.A s.n s.c, .slice t.A t.n t.c, .func (.func 41) #[] #[]] w M I (fun _ : Unit => .bool (lnsEq xs ys)) (fun _ => True) (fun _ => [row 69 6 (.slice s.A s.n s.c) s.n (lnsC xs), row 69 6 (.slice t.A t.n t.c) t.n (lnsC ys)]) (fun _ => []) := by
  obtain ⟨A, n, c⟩ := s
  obtain ⟨B, m, d⟩ := t
  simp only at hsn htn H ⊢
  refine Exe.of_ev tok Tryz.call40 Tryz.func40 rfl rfl rfl ?_
  refine br (fun q2 => ?_) (fun q2 => ?_)
  · have q2 : ((n : Int) != (m : Int)) = true := q2
    have q2 : xs.length ≠ ys.length := fun h => by rw [hsn, htn, h] at q2; simp at q2
    refine Exists.intro () (And.intro (congrArg Value.bool ?_) (And.intro trivial (Hp.keep H)))
    rw [lnsEq_len q2]
  have q2 : ((n : Int) != (m : Int)) = false := q2
  have q2 : xs.length = ys.length := by
    have q2 : (n : Int) = m := by simpa using q2
    omega
  refine loop_rule tok (σ := Nat) 4294837184 (fun i => [(17, .int .i64 i)])
    (fun i w' => i ≤ xs.length ∧ lnsEq xs ys = lnsEq (xs.drop i) (ys.drop i) ∧ Hp ⟨w, M, I⟩ [row 69 6 (.slice A n c) n (lnsC xs), row 69 6 (.slice B m d) m (lnsC ys)] [LnF xs, LnF ys] w') (fun i => xs.length - i) 0 rfl rfl ⟨rfl, trivial⟩
    ⟨Nat.zero_le _, rfl, H⟩ ?_
  rintro i j w3 ⟨hi, hg, H3⟩
  refine brd (fun h5 => ?_) (fun h5 => ?_)
  · have h5 : (i : Int) < n := h5
    have hil : i < xs.length := by omega
    obtain ⟨u, hu⟩ : ∃ u, xs[i]? = some u := ⟨_, List.getElem?_eq_getElem hil⟩
    obtain ⟨v, hv⟩ : ∃ v, ys[i]? = some v := ⟨_, List.getElem?_eq_getElem (by omega)⟩
    have hdu : xs.drop i = u :: xs.drop (i + 1) := by
      rw [List.drop_eq_getElem_cons hil]
      rw [List.getElem?_eq_getElem hil] at hu
      rw [Option.some.inj hu]
    have hdv : ys.drop i = v :: ys.drop (i + 1) := by
      rw [List.drop_eq_getElem_cons (by omega)]
      rw [List.getElem?_eq_getElem (by omega)] at hv
      rw [Option.some.inj hv]
    obtain ⟨b1, rfl⟩ := H3.rowSome (A := A) (n := n) (c := c) (by omega)
    obtain ⟨b2, rfl⟩ := H3.rowSome (A := B) (n := m) (c := d) (by omega)
    have i1 : (0 : Int) ≤ (i : Int) := by omega
    have i3 : (i : Int) < m := by omega
    refine idx_own tok rfl rfl i1 h5 ?_
    refine row_ld (n := n) (c := c) tok H3 (v := lnV u) (ln_get hu) ?_
    refine alloc_as tok H3 [.int .u32 0, .int .i32 0, .int .u8 0, .int .u32 0, .slice none 0 0, .int .i64 0] rfl rfl rfl fun p w4 H4 => ?_
    refine store_as tok H4 (lnC u) rfl rfl rfl rfl rfl fun w5 H5 => ?_
    refine idx_own tok rfl rfl i1 i3 ?_
    refine row_ld (n := m) (c := d) tok H5 (v := lnV v) (ln_get hv) ?_
    refine alloc_as tok H5 [.int .u32 0, .int .i32 0, .int .u8 0, .int .u32 0, .slice none 0 0, .int .i64 0] rfl rfl rfl fun q w6 H6 => ?_
    refine store_as tok H6 (lnC v) rfl rfl rfl rfl rfl fun w7 H7 => ?_
    refine load_rule tok H7 (v := lnV u) rfl ?_
    refine load_rule tok H7 (v := lnV v) rfl ?_
    have H8 := Hp.lnAt (Hp.lnAt H7 (xs := xs) (List.mem_of_getElem? hu)) (xs := ys) (List.mem_of_getElem? hv)
    refine call_rule H8 (fun M I _ h => sameLn u v _ M I h) fun _ w9 _ H9 => ?_
    refine br (fun q3 => ?_) (fun q3 => ?_)
    · have q3 : lnEq u v = false := by simpa using q3
      refine Exists.intro () (And.intro (congrArg Value.bool ?_) (And.intro trivial (Hp.keep H9)))
      rw [hg, hdu, hdv, lnsEq, q3, Bool.false_and]
    · have q3 : lnEq u v = true := by simpa using q3
      refine Exists.intro (i + 1) (And.intro ⟨?_, trivial⟩ (And.intro ?_ ⟨?_, ?_, Hp.keep H9⟩))
      · show Value.int .i64 (IntKind.i64.wrap (i + 1)) = _
        rw [w64 (by omega) (by omega)]; rfl
      · omega
      · omega
      · rw [hg, hdu, hdv, lnsEq, q3, Bool.true_and]
  · have h5 : ¬ (i : Int) < n := h5
    refine Exists.intro () (And.intro (congrArg Value.bool ?_) (And.intro trivial (Hp.keep H3)))
    rw [hg, List.drop_eq_nil_of_le (by omega), List.drop_eq_nil_of_le (by omega)]; rfl
theorem sameLed (l m1 m2 : Nat) (s : SV) (xs : List Ln) (l' m1' m2' : Nat) (t : SV) (ys : List Ln) (hx : xs.length ≤ 100000) (hsn : s.n = xs.length) (htn : t.n = ys.length) (w : World) (M I : BS)
    (H : Hp ⟨w, M, I⟩ [blk l [.slice s.A s.n s.c, .map (some m1), .map (some m2)] 85, row 69 6 (.slice s.A s.n s.c) s.n (lnsC xs), blk l' [.slice t.A t.n t.c, .map (some m1'), .map (some m2')] 85, row 69 6 (.slice t.A t.n t.c) t.n (lnsC ys)] [LnF xs, LnF ys] w) :
    Ctr Tryz.prog 14 [.pointer (some ⟨l, 0, none⟩), .pointer (some ⟨l', 0, none⟩)] w M I (fun _ : Unit => .bool (lnsEq xs ys)) (fun _ => True)
      (fun _ => [blk l [.slice s.A s.n s.c, .map (some m1), .map (some m2)] 85, row 69 6 (.slice s.A s.n s.c) s.n (lnsC xs), blk l' [.slice t.A t.n t.c, .map (some m1'), .map (some m2')] 85, row 69 6 (.slice t.A t.n t.c) t.n (lnsC ys)]) (fun _ => []) := by
  refine Exe.of_ev tok Tryz.call14 Tryz.func14 rfl rfl rfl ?_
  refine draw_rule (A := []) tok tdr H [0, 1, 2, 3, 4, 5, 6, 7, 8, 9] [0, 1, 3, 7, 0, 16, 48, 112, 255, 511] rfl ?_
  refine pass_rule _ (fun w h => load_rule tok h (v := .slice s.A s.n s.c) rfl ⟨rfl, rfl⟩) ?_
  refine pass_rule _ (fun w h => load_rule tok h (v := .slice t.A t.n t.c) rfl ⟨rfl, rfl⟩) ?_
  refine imp_rule (fun X wx h => call_rule h (fun M I _ h => eqLns s t xs ys hx hsn htn _ M I h) fun _ w1 _ H1 => imp_done H1 ?_)
  refine done_rule fun w5 H5 => ?_
  exact Exists.intro () (And.intro rfl (And.intro trivial (Hp.keep H5)))
theorem copied (k : Key) (A : Option Addr) (n c : Nat) (ls : List Leg) (hn : ls.length ≤ 1000000) (w : World) (M I : BS) (hM : ∀ b, ¬ M b) (H : Hp ⟨w, M, I⟩ [] [Sl legR (.slice A n c) ls] w) :
    Ctr Tryz.prog 43 [.agg #[.int .u32 k.loan, .int .i32 k.day, .int .u8 k.kind, .int .u32 k.seq, .slice A n c]] w M I (fun a : SV => .agg #[.int .u32 k.loan, .int .i32 k.day, .int .u8 k.kind, .int .u32 k.seq, .slice a.A a.n a.c]) (fun _ => True) (fun _ => []) (fun a => [Sl legR (.slice a.A a.n a.c) ls]) := by
  refine Exe.of_ev tok Tryz.call43 Tryz.func43 rfl rfl rfl ?_
  refine box_as H (entC k A n c) rfl fun x w1 H1 => ?_
  refine alloc_as tok H1 zeroC rfl rfl rfl fun r w2 H2 => ?_
  refine load_rule tok H2 (v := .slice A n c) rfl ?_
  refine call_rule H2 (fun M I h0 h => cloneLegs A n c ls hn _ M I (h0 rfl) h) fun a w3 _ H3 => ?_
  refine store_as tok H3 (entC k a.A a.n a.c) rfl rfl rfl rfl rfl fun w4 H4 => ?_
  refine load_rule tok H4 (v := .agg #[.int .u32 k.loan, .int .i32 k.day, .int .u8 k.kind, .int .u32 k.seq, .slice a.A a.n a.c]) rfl ?_
  refine store_as tok H4 (entC k a.A a.n a.c) rfl rfl rfl rfl rfl fun w5 H5 => ?_
  refine Exists.intro ⟨r, 0, none⟩ (Exists.intro (.agg #[.int .u32 k.loan, .int .i32 k.day, .int .u8 k.kind, .int .u32 k.seq, .slice a.A a.n a.c]) (And.intro rfl (And.intro (Hp.ld (T := tb) tok H5 rfl) ?_)))
  exact Exists.intro a (And.intro rfl (And.intro trivial (Hp.keep H5)))
end Go.Proofs.YtfemfomgmopibaaGreatDoor
