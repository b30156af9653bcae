/- Legs of any order make the document's entry: the walk. -/
import Derived.Test.YtenpgmnknmnofaaT14
namespace Go.Proofs.Ytenpgmnknmnofaa
open Go Go.Proofs Go.Wk
/-- What the law asks of plain lists. -/
structure MakesOk (k : Key) (ls out : List Leg) : Prop where
  len : out.length ≤ 1000
  same : sameB k k out (refMade ls) = true
  right : rightB k out = rightR k (refMade ls)
  raw : rightB k ls = rightR k ls
theorem makesWalk (k : Key) (hk : inK .u8 k.kind) (A : Option Addr) (n c : Nat) (ls : List Leg) (law : ∀ out, made (ls.take 12) out → MakesOk k (ls.take 12) out) (w : World) (M I : BS) (hM : ∀ b, ¬ M b) (H : Hp ⟨w, M, I⟩ [] [Sl legR (.slice A n c) ls] w) :
    Ctr Try.prog 3 [keyV k, .slice A n c] w M I (fun _ : Unit => .bool true) (fun _ => True) (fun _ => []) (fun _ => []) := by
  refine Exe.of_ev tok Try.call3 Try.func3 rfl rfl rfl ?_
  refine box_as H (keyC k) rfl fun x w1 H1 => ?_
  refine call_rule H1 (fun M I h0 h => awake _ M I (h0 rfl) h) fun _ w2 _ H2 => ?_
  refine call_rule H2 (fun M I h0 h => few A n c ls _ M I (h0 rfl) h) fun s1 w3 _ H3 => ?_
  refine load_rule tok H3 (v := keyV k) rfl ?_
  refine alloc_as tok H3 zeroC rfl rfl rfl fun raw w4 H4 => ?_
  refine store_as tok H4 (entC k s1.A s1.n s1.c) rfl rfl rfl rfl rfl fun w5 H5 => ?_
  refine load_rule tok H5 (v := keyV k) rfl ?_
  refine call_rule H5 (fun M I h0 h => make k s1.A s1.n s1.c (ls.take 12) (by simp; omega) _ M I (h0 rfl) h) fun a w6 hφ H6 => ?_
  refine alloc_as tok H6 zeroC rfl rfl rfl fun e w7 H7 => ?_
  refine store_as tok H7 (entC k a.1.A a.1.n a.1.c) rfl rfl rfl rfl rfl fun w8 H8 => ?_
  have hlen : (ls.take 12).length ≤ 12 := by simp; omega
  refine draw_rule (A := []) tok tdr H8 [0, 1, 2, 3, 4, 5, 6, 7] [0, 1, 0, 7, 15, 31, 0, 127] rfl ?_
  refine pass_rule _ (fun w h => load_rule tok h (v := keyV k) rfl ⟨rfl, rfl⟩) ?_
  refine imp_rule (fun X w h => call_rule h (fun M I _ h => key_ k _ M I h) fun _ w1 _ H1 => imp_done H1 ?_)
  refine pass_rule _ (fun w h => load_rule tok h (v := .agg #[.int .u32 k.loan, .int .i32 k.day, .int .u8 k.kind, .int .u32 k.seq, .slice s1.A s1.n s1.c]) rfl ⟨rfl, rfl⟩) ?_
  refine imp_rule (fun X w h => call_rule h (fun M I h0 h => own_ k s1.A s1.n s1.c (ls.take 12) (by omega) _ M I (h0 rfl) h) fun s2 w1 _ H1 => imp_done H1 ?_)
  refine imp_rule (fun X w h => call_rule h (fun M I h0 h => makeRef k s2.A s2.n s2.c (ls.take 12) _ M I (h0 rfl) h) fun s3 w1 _ H1 => imp_done H1 ?_)
  refine fresh_alloc tok rfl rfl rfl fun want => ?_
  refine imp_rule (fun X w h => store_as tok h (entC k s3.A s3.n s3.c) rfl rfl rfl rfl rfl fun w1 H1 => imp_done H1 ?_)
  refine done_rule fun w9 H9 => ?_
  have lw := law a.2 hφ
  refine draw_rule (A := []) tok tdr H9 [0, 1, 2, 3, 4, 5, 6, 7, 8, 9, 10, 11, 12, 13, 14, 15, 16, 17, 18, 19] [0, 1, 0, 7, 15, 31, 63, 31, 255, 511, 1023, 2047, 4095, 8191, 4095, 32767, 65535, 131071, 262143, 524287] rfl ?_
  refine pass_rule _ (fun w h => load_rule tok h (v := .agg #[.int .u32 k.loan, .int .i32 k.day, .int .u8 k.kind, .int .u32 k.seq, .slice a.1.A a.1.n a.1.c]) rfl ⟨rfl, rfl⟩) ?_
  refine imp_rule (fun X w h => call_rule h (fun M I h0 h => own_ k a.1.A a.1.n a.1.c a.2 lw.len _ M I (h0 rfl) h) fun s4 w1 _ H1 => imp_done H1 ?_)
  refine pass_rule _ (fun w h => load_rule tok h (v := .agg #[.int .u32 k.loan, .int .i32 k.day, .int .u8 k.kind, .int .u32 k.seq, .slice s3.A s3.n s3.c]) rfl ⟨rfl, rfl⟩) ?_
  refine imp_rule (fun X w h => call_rule h (fun M I _ h => sameRef k k s4.A s3.A s4.n s4.c s3.n s3.c a.2 (refMade (ls.take 12)) _ M I h (Hp.sll (A := s4.A) (n := s4.n) (c := s4.c) h).1 (Hp.sll (A := s3.A) (n := s3.n) (c := s3.c) h).1) fun _ w1 _ H1 => imp_done H1 ?_)
  refine br (fun q1 => ?_) (fun q1 => ?_)
  rotate_left
  · exact absurd q1 (by rw [lw.same]; simp)
  refine pass_rule _ (fun w h => load_rule tok h (v := .agg #[.int .u32 k.loan, .int .i32 k.day, .int .u8 k.kind, .int .u32 k.seq, .slice a.1.A a.1.n a.1.c]) rfl ⟨rfl, rfl⟩) ?_
  refine imp_rule (fun X w h => call_rule h (fun M I _ h => right k hk a.1.A a.1.n a.1.c a.2 _ M I h) fun _ w1 _ H1 => imp_done H1 ?_)
  refine pass_rule _ (fun w h => load_rule tok h (v := .agg #[.int .u32 k.loan, .int .i32 k.day, .int .u8 k.kind, .int .u32 k.seq, .slice s3.A s3.n s3.c]) rfl ⟨rfl, rfl⟩) ?_
  refine imp_rule (fun X w h => call_rule h (fun M I _ h => rightRef k s3.A s3.n s3.c (refMade (ls.take 12)) (Hp.sll (A := s3.A) (n := s3.n) (c := s3.c) h).1 _ M I h) fun _ w1 _ H1 => imp_done H1 ?_)
  refine br (fun q2 => ?_) (fun q2 => ?_)
  rotate_left
  · exact absurd q2 (by rw [lw.right]; simp)
  refine pass_rule _ (fun w h => load_rule tok h (v := .agg #[.int .u32 k.loan, .int .i32 k.day, .int .u8 k.kind, .int .u32 k.seq, .slice s1.A s1.n s1.c]) rfl ⟨rfl, rfl⟩) ?_
  refine imp_rule (fun X w h => call_rule h (fun M I _ h => right k hk s1.A s1.n s1.c (ls.take 12) _ M I h) fun _ w1 _ H1 => imp_done H1 ?_)
  refine pass_rule _ (fun w h => load_rule tok h (v := .agg #[.int .u32 k.loan, .int .i32 k.day, .int .u8 k.kind, .int .u32 k.seq, .slice s1.A s1.n s1.c]) rfl ⟨rfl, rfl⟩) ?_
  refine imp_rule (fun X w h => call_rule h (fun M I h0 h => own_ k s1.A s1.n s1.c (ls.take 12) (by omega) _ M I (h0 rfl) h) fun s5 w1 _ H1 => imp_done H1 ?_)
  refine imp_rule (fun X w h => call_rule h (fun M I _ h => rightRef k s5.A s5.n s5.c (ls.take 12) (Hp.sll (A := s5.A) (n := s5.n) (c := s5.c) h).1 _ M I h) fun _ w1 _ H1 => imp_done H1 ?_)
  refine done_rule fun w10 H10 => ?_
  refine Exists.intro () (And.intro (congrArg Value.bool ?_) (And.intro trivial (Hp.keep H10)))
  have e : (rightB k (ls.take 12) == rightR k (ls.take 12)) = true := by rw [lw.raw]; simp
  exact e
end Go.Proofs.Ytenpgmnknmnofaa
