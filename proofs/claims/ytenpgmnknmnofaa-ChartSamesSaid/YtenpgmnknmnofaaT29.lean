/- Entries are alike just if keys and legs are: the walk. -/
import Derived.Test.YtenpgmnknmnofaaT28
import Derived.Test.YtenpgmnknmnofaaT18
namespace Go.Proofs.Ytenpgmnknmnofaa
open Go Go.Proofs Go.Wk
theorem sumW_take : ∀ (ls : List Leg) (i : Nat) (u : Leg) (s : Int), ls[i]? = some u → IntKind.i64.wrap (sumW s (ls.take i) + u.amt) = sumW s (ls.take (i + 1))
  | [], i, u, s, h => by simp at h
  | x :: r, 0, u, s, h => by
    simp only [List.getElem?_cons_zero, Option.some.injEq] at h
    subst h
    simp [sumW]
  | x :: r, i + 1, u, s, h => by
    rw [List.take_succ_cons, List.take_succ_cons, sumW, sumW]
    exact sumW_take r i u _ (by simpa using h)
set_option maxRecDepth 20000 in
set_option maxHeartbeats 2000000 in
theorem samesWalk (k l : Key) (hk : keyIn k) (hl : keyIn l) (A B : Option Addr) (n c m d : Nat) (ls ms : List Leg) (lawA : ∀ out, made (ls.take 12) out → out.length ≤ 1000) (lawB : ∀ out, made (ms.take 12) out → out.length ≤ 1000) (w : World) (M I : BS) (H : Hp ⟨w, M, I⟩ [] [Sl legR (.slice A n c) ls, Sl legR (.slice B m d) ms] w) :
    Ctr Try.prog 6 [keyV k, keyV l, .slice A n c, .slice B m d] w M I (fun _ : Unit => .bool true) (fun _ => True) (fun _ => []) (fun _ => []) := by
  refine Exe.of_ev tok Try.call6 Try.func6 rfl rfl rfl ?_
  refine box_as H (keyC k) rfl fun x w1 H1 => ?_
  refine box_as H1 (keyC l) rfl fun y w2 H2 => ?_
  refine call_rule H2 (fun M I h0 h => awake _ M I (h0 rfl) h) fun _ w3 _ H3 => ?_
  have hl1 : (ls.take 12).length ≤ 12 := by simp; omega
  have hl2 : (ms.take 12).length ≤ 12 := by simp; omega
  refine draw_rule (A := []) tok tdr H3 [1, 2, 0, 3, 5, 6, 4, 7, 8, 9, 10, 11] [0, 0, 2, 7, 0, 0, 47, 127, 0, 0, 1023, 2047] rfl ?_
  refine imp_rule (fun X wx h => call_rule h (fun M I h0 h => few A n c ls _ M I (h0 rfl) h) fun s1 w1 _ H1 => imp_done H1 ?_)
  refine pass_rule _ (fun w h => load_rule tok h (v := keyV k) rfl ⟨rfl, rfl⟩) ?_
  refine imp_rule (fun X wx h => call_rule h (fun M I h0 h => make k s1.A s1.n s1.c (ls.take 12) hl1 _ M I (h0 rfl) h) fun a w1 ha H1 => imp_done H1 ?_)
  refine imp_rule (fun X wx h => call_rule h (fun M I h0 h => few B m d ms _ M I (h0 rfl) h) fun s2 w1 _ H1 => imp_done H1 ?_)
  refine pass_rule _ (fun w h => load_rule tok h (v := keyV l) rfl ⟨rfl, rfl⟩) ?_
  refine imp_rule (fun X wx h => call_rule h (fun M I h0 h => make l s2.A s2.n s2.c (ms.take 12) hl2 _ M I (h0 rfl) h) fun b w1 hb H1 => imp_done H1 ?_)
  refine fresh_alloc tok rfl rfl rfl fun ea => ?_
  refine fresh_alloc tok rfl rfl rfl fun eb => ?_
  refine imp_rule (fun X wx h => store_as tok h (entC k a.1.A a.1.n a.1.c) rfl rfl rfl rfl rfl fun w1 H1 => imp_done H1 ?_)
  refine imp_rule (fun X wx h => store_as tok h (entC l b.1.A b.1.n b.1.c) rfl rfl rfl rfl rfl fun w1 H1 => imp_done H1 ?_)
  refine done_rule fun w4 H4 => ?_
  have H4 : Hp ⟨w, M, I⟩ [blk ea (entC k a.1.A a.1.n a.1.c) 30, blk eb (entC l b.1.A b.1.n b.1.c) 30] [Sl legR (.slice a.1.A a.1.n a.1.c) a.2, Sl legR (.slice b.1.A b.1.n b.1.c) b.2] w4 := H4.keep
  have ha3 := lawA _ ha
  have hb3 := lawB _ hb
  obtain ⟨an, ac, ac2⟩ := H4.sll (A := a.1.A) (n := a.1.n) (c := a.1.c)
  obtain ⟨bn, bc, bc2⟩ := H4.sll (A := b.1.A) (n := b.1.n) (c := b.1.c)
  have oka := legs_ok (A := a.1.A) (n := a.1.n) (c := a.1.c) H4
  have okb := legs_ok (A := b.1.A) (n := b.1.n) (c := b.1.c) H4
  refine load_rule tok H4 (v := .agg #[.int .u32 k.loan, .int .i32 k.day, .int .u8 k.kind, .int .u32 k.seq, .slice a.1.A a.1.n a.1.c]) rfl ?_
  refine load_rule tok H4 (v := .agg #[.int .u32 l.loan, .int .i32 l.day, .int .u8 l.kind, .int .u32 l.seq, .slice b.1.A b.1.n b.1.c]) rfl ?_
  refine call_rule H4 (fun M I _ h => same_ k l a.1.A b.1.A a.1.n a.1.c b.1.n b.1.c a.2 b.2 _ M I h ⟨an, by omega⟩ bn) fun _ w5 _ H5 => ?_
  refine load_rule tok H5 (v := .slice a.1.A a.1.n a.1.c) rfl ?_
  refine loop_rule tok (σ := Nat) 1097364164608 (fun s => [(31, .int .i64 s), (12, .int .i64 (sumW 0 (a.2.take s)))])
    (fun s w' => s ≤ a.1.n ∧ Hp ⟨w, M, I⟩ [blk ea (entC k a.1.A a.1.n a.1.c) 30, blk eb (entC l b.1.A b.1.n b.1.c) 30] [Sl legR (.slice a.1.A a.1.n a.1.c) a.2, Sl legR (.slice b.1.A b.1.n b.1.c) b.2] w') (fun s => a.1.n - s) 0 rfl rfl ⟨rfl, rfl, trivial⟩ ⟨Nat.zero_le _, H5⟩ ?_
  rintro i j w6 ⟨hi, H6⟩
  refine brd (fun q => ?_) (fun q => ?_)
  · have q : (i : Int) < a.1.n := q
    obtain ⟨u, hu⟩ : ∃ u, a.2[i]? = some u := ⟨_, List.getElem?_eq_getElem (by omega)⟩
    refine idx_rule tok H6 rfl rfl rfl (by omega) q fun pb po z hz H7 => ?_
    refine ldp_rule tok H7 rfl rfl rfl fun _ hzk H8 => ?_
    refine alloc_as tok H8 [.int .u8 0, .int .i64 0] rfl rfl rfl fun lb w7 H9 => ?_
    refine store_as tok H9 [.int .u8 z.acct, .int .i64 z.amt] rfl rfl rfl rfl rfl fun w8 H10 => ?_
    refine load_rule tok H10 (v := .int .i64 z.amt) rfl ?_
    have hz : a.2[i]? = some z := by simpa using hz
    refine Exists.intro (i + 1) (And.intro ⟨?_, ?_, trivial⟩ (And.intro ?_ ⟨?_, H10.keep⟩))
    · show Value.int .i64 (IntKind.i64.wrap (i + 1)) = _
      rw [w64 (by omega) (by omega)]; rfl
    · show Value.int .i64 (IntKind.i64.wrap (sumW 0 (a.2.take i) + z.amt)) = _
      rw [sumW_take a.2 i z 0 hz]
    · omega
    · omega
  · have q : ¬ (i : Int) < a.1.n := q
    have hii : i = a.2.length := by omega
    have hsum : rightB k a.2 = true → sumW 0 (a.2.take i) = 0 := fun h => by rw [hii, List.take_length]; exact rightB_sum h
    refine draw_rule (A := []) tok tdr H6 [1, 2, 3, 4, 5, 0, 6, 7, 8, 9, 10, 11, 12, 13, 14, 15, 16, 18, 19, 20, 21, 22, 17, 23, 24, 25, 26, 27, 28, 29, 30, 31, 32, 33, 34, 35] [0, 0, 2, 0, 14, 30, 63, 127, 255, 511, 1023, 2047, 4095, 8191, 16383, 32767, 65535, 131071, 131071, 393215, 131071, 1966079, 4063231, 8388607, 16777215, 33554431, 67108863, 134217727, 268435455, 536870911, 1073741823, 2147483647, 4294967295, 8589934591, 17179869183, 34359738367] rfl ?_
    refine pass_rule _ (fun w h => load_rule tok h (v := .agg #[.int .u32 k.loan, .int .i32 k.day, .int .u8 k.kind, .int .u32 k.seq, .slice a.1.A a.1.n a.1.c]) rfl ⟨rfl, rfl⟩) ?_
    refine imp_rule (fun X wx h => call_rule h (fun M I h0 h => own_ k a.1.A a.1.n a.1.c a.2 ha3 _ M I (h0 rfl) h) fun s4 w1 _ H1 => imp_done H1 ?_)
    refine pass_rule _ (fun w h => load_rule tok h (v := .agg #[.int .u32 l.loan, .int .i32 l.day, .int .u8 l.kind, .int .u32 l.seq, .slice b.1.A b.1.n b.1.c]) rfl ⟨rfl, rfl⟩) ?_
    refine imp_rule (fun X wx h => call_rule h (fun M I h0 h => own_ l b.1.A b.1.n b.1.c b.2 hb3 _ M I (h0 rfl) h) fun s5 w1 _ H1 => imp_done H1 ?_)
    refine imp_rule (fun X wx h => call_rule h (fun M I _ h => sameRef k l s4.A s5.A s4.n s4.c s5.n s5.c a.2 b.2 _ M I h (Hp.sll (A := s4.A) (n := s4.n) (c := s4.c) h).1 (Hp.sll (A := s5.A) (n := s5.n) (c := s5.c) h).1) fun _ w1 _ H1 => imp_done H1 ?_)
    refine br (fun q1 => ?_) (fun q1 => ?_)
    rotate_left
    · exact absurd q1 (by simp)
    refine pass_rule _ (fun w h => load_rule tok h (v := .agg #[.int .u32 k.loan, .int .i32 k.day, .int .u8 k.kind, .int .u32 k.seq, .slice a.1.A a.1.n a.1.c]) rfl ⟨rfl, rfl⟩) ?_
    refine imp_rule (fun X wx h => call_rule h (fun M I _ h => right k hk.2.2.1 a.1.A a.1.n a.1.c a.2 _ M I h) fun _ w1 _ H1 => imp_done H1 ?_)
    refine br (fun q2 => ?_) (fun q2 => ?_)
    · have q2 : rightB k a.2 = false := by simpa using q2
      refine pass_rule _ (fun w h => load_rule tok h (v := .agg #[.int .u32 k.loan, .int .i32 k.day, .int .u8 k.kind, .int .u32 k.seq, .slice a.1.A a.1.n a.1.c]) rfl ⟨rfl, rfl⟩) ?_
      refine imp_rule (fun X wx h => call_rule h (fun M I _ h => right k hk.2.2.1 a.1.A a.1.n a.1.c a.2 _ M I h) fun _ w1 _ H1 => imp_done H1 ?_)
      refine br (fun q3 => ?_) (fun q3 => ?_)
      · refine done_rule fun w10 H10 => ?_
        exact Exists.intro () (And.intro rfl (And.intro trivial (Hp.keep H10)))
      · exact absurd q3 (by rw [q2]; simp)
    have q2 : rightB k a.2 = true := by simpa using q2
    refine pass_rule _ (fun w h => load_rule tok h (v := .agg #[.int .u32 l.loan, .int .i32 l.day, .int .u8 l.kind, .int .u32 l.seq, .slice b.1.A b.1.n b.1.c]) rfl ⟨rfl, rfl⟩) ?_
    refine imp_rule (fun X wx h => call_rule h (fun M I _ h => right l hl.2.2.1 b.1.A b.1.n b.1.c b.2 _ M I h) fun _ w1 _ H1 => imp_done H1 ?_)
    refine br (fun q3 => ?_) (fun q3 => ?_)
    · have q3 : rightB l b.2 = false := by simpa using q3
      refine pass_rule _ (fun w h => load_rule tok h (v := .agg #[.int .u32 k.loan, .int .i32 k.day, .int .u8 k.kind, .int .u32 k.seq, .slice a.1.A a.1.n a.1.c]) rfl ⟨rfl, rfl⟩) ?_
      refine imp_rule (fun X wx h => call_rule h (fun M I _ h => right k hk.2.2.1 a.1.A a.1.n a.1.c a.2 _ M I h) fun _ w1 _ H1 => imp_done H1 ?_)
      refine br (fun q4 => ?_) (fun q4 => ?_)
      · exact absurd q4 (by rw [q2]; simp)
      · refine done_rule fun w10 H10 => ?_
        refine Exists.intro () (And.intro (congrArg Value.bool ?_) (And.intro trivial (Hp.keep H10)))
        have e := hsum q2
        exact decide_eq_true e
    have q3 : rightB l b.2 = true := by simpa using q3
    refine pass_rule _ (fun w h => load_rule tok h (v := .agg #[.int .u32 k.loan, .int .i32 k.day, .int .u8 k.kind, .int .u32 k.seq, .slice a.1.A a.1.n a.1.c]) rfl ⟨rfl, rfl⟩) ?_
    refine imp_rule (fun X wx h => call_rule h (fun M I h0 h => bytes_ k hk a.1.A a.1.n a.1.c a.2 _ M I (h0 rfl) h) fun p1 w1 _ H1 => imp_done H1 ?_)
    refine pass_rule _ (fun w h => load_rule tok h (v := .agg #[.int .u32 l.loan, .int .i32 l.day, .int .u8 l.kind, .int .u32 l.seq, .slice b.1.A b.1.n b.1.c]) rfl ⟨rfl, rfl⟩) ?_
    refine imp_rule (fun X wx h => call_rule h (fun M I h0 h => bytes_ l hl b.1.A b.1.n b.1.c b.2 _ M I (h0 rfl) h) fun p2 w1 _ H1 => imp_done H1 ?_)
    refine imp_rule (fun X wx h => call_rule h (fun M I _ h => sameBytes p1.A p2.A p1.n p1.c p2.n p2.c (if rightB k a.2 = true then entBytes k a.2 else []) (if rightB l b.2 = true then entBytes l b.2 else []) _ M I h ⟨(Hp.sll (A := p1.A) (n := p1.n) (c := p1.c) h).1, by have := Hp.sll (A := p1.A) (n := p1.n) (c := p1.c) h; omega⟩ (Hp.sll (A := p2.A) (n := p2.n) (c := p2.c) h).1) fun _ w1 _ H1 => imp_done H1 ?_)
    have esb : sameB k l a.2 b.2 = byEq (if rightB k a.2 = true then entBytes k a.2 else []) (if rightB l b.2 = true then entBytes l b.2 else []) := by
      rw [if_pos q2, if_pos q3]
      exact same_bytes hk hl oka okb q2 q3
    refine br (fun q5 => ?_) (fun q5 => ?_)
    rotate_left
    · exact absurd q5 (by rw [← esb]; simp)
    refine pass_rule _ (fun w h => load_rule tok h (v := .agg #[.int .u32 k.loan, .int .i32 k.day, .int .u8 k.kind, .int .u32 k.seq, .slice a.1.A a.1.n a.1.c]) rfl ⟨rfl, rfl⟩) ?_
    refine imp_rule (fun X wx h => call_rule h (fun M I _ h => right k hk.2.2.1 a.1.A a.1.n a.1.c a.2 _ M I h) fun _ w1 _ H1 => imp_done H1 ?_)
    refine br (fun q4 => ?_) (fun q4 => ?_)
    · exact absurd q4 (by rw [q2]; simp)
    · refine done_rule fun w10 H10 => ?_
      refine Exists.intro () (And.intro (congrArg Value.bool ?_) (And.intro trivial (Hp.keep H10)))
      have e := hsum q2
      exact decide_eq_true e
end Go.Proofs.Ytenpgmnknmnofaa
