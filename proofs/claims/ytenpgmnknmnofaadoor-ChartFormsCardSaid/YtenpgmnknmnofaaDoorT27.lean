/- An entry's bytes: the walk. -/
import Derived.Test.YtenpgmnknmnofaaDoorT26
import Derived.Test.YtenpgmnknmnofaaDoorT16
namespace Go.Proofs.YtenpgmnknmnofaaDoor
open Go Go.Proofs Go.Wk
def legsB : List Leg → List Nat
  | [] => []
  | x :: r => numB x.acct.toNat 0 ++ intB x.amt ++ legsB r
def entBytes (k : Key) (ls : List Leg) : List Nat := numB k.loan.toNat 0 ++ numB k.day.toNat 0 ++ numB k.kind.toNat 0 ++ numB k.seq.toNat 0 ++ numB ls.length 0 ++ legsB ls
theorem numB_len {n m : Nat} (h : n < 18446744073709551616) : (numB n m).length ≤ 9 := by
  have := sizeB_le8 h
  simp only [numB, List.length_cons, bigE_len]; omega
theorem bigE_lt (n : Nat) : ∀ k x, x ∈ bigE n k → x < 256
  | 0, x, h => by cases h
  | k + 1, x, h => by
    unfold bigE at h
    rcases List.mem_cons.1 h with rfl | h
    · omega
    · exact bigE_lt n k x h
theorem numB_lt {n m : Nat} (h : n < 18446744073709551616) (hm : m ≤ 128) : ∀ x, x ∈ numB n m → x < 256 := fun x hx => by
  have := sizeB_le8 h
  unfold numB at hx
  rcases List.mem_cons.1 hx with rfl | hx
  · omega
  · exact bigE_lt n _ x hx
theorem intB_lt {v : Int} (h : inK .i64 v) : (∀ x, x ∈ intB v → x < 256) ∧ (intB v).length ≤ 9 := by
  have h : -9223372036854775808 ≤ v ∧ v ≤ 9223372036854775807 := h
  unfold intB
  split
  · exact ⟨numB_lt (by omega) (by omega), numB_len (by omega)⟩
  · exact ⟨numB_lt (by omega) (by omega), numB_len (by omega)⟩
@[reducible] def legIn (x : Leg) : Prop := inK .u8 x.acct ∧ inK .i64 x.amt
theorem legsB_lt : ∀ {ls : List Leg}, (∀ x, x ∈ ls → legIn x) → (∀ x, x ∈ legsB ls → x < 256) ∧ (legsB ls).length ≤ 18 * ls.length
  | [], _ => ⟨(fun x h => by cases h), by simp [legsB]⟩
  | l :: r, h => by
    obtain ⟨h1, h2⟩ := legsB_lt (ls := r) fun x hx => h x (List.mem_cons_of_mem _ hx)
    obtain ⟨⟨a1, a2⟩, a3⟩ := h l List.mem_cons_self
    simp only [kLo, kHi] at a1 a2
    obtain ⟨b1, b2⟩ := intB_lt a3
    have c1 := numB_lt (n := l.acct.toNat) (m := 0) (by omega) (by omega)
    have c2 := numB_len (n := l.acct.toNat) (m := 0) (by omega)
    refine ⟨fun x hx => ?_, ?_⟩
    · unfold legsB at hx
      rcases List.mem_append.1 hx with hx | hx
      · rcases List.mem_append.1 hx with hx | hx
        · exact c1 x hx
        · exact b1 x hx
      · exact h1 x hx
    · simp only [legsB, List.length_append, List.length_cons]; omega
theorem legsB_app : ∀ a b : List Leg, legsB (a ++ b) = legsB a ++ legsB b
  | [], _ => rfl
  | x :: a, b => by simp [legsB, legsB_app a b]
@[reducible] def keyIn (k : Key) : Prop := inK .u32 k.loan ∧ inK .i32 k.day ∧ inK .u8 k.kind ∧ inK .u32 k.seq
theorem right_day {k : Key} {ls : List Leg} (h : rightB k ls = true) : 0 ≤ k.day ∧ ls.length ≤ 8 ∧ ls.length ≠ 0 := by
  unfold rightB at h
  cases h1 : noB (kindName k.kind) <;> rw [h1] at h <;> simp only [cond_true, cond_false] at h
  · cases h2 : dayB k.day <;> rw [h2] at h <;> simp only [Bool.not_true, Bool.not_false, cond_true, cond_false] at h
    · cases h
    · cases h3 : ((ls.length : Int) == 0) <;> rw [h3] at h <;> simp only [cond_true, cond_false] at h
      · cases h4 : decide (8 < (ls.length : Int)) <;> rw [h4] at h <;> simp only [cond_true, cond_false] at h
        · simp only [dayB, Bool.and_eq_true, decide_eq_true_eq] at h2
          simp only [beq_eq_false_iff_ne, ne_eq] at h3
          simp only [decide_eq_false_iff_not] at h4
          omega
        · cases h
      · cases h
  · cases h
theorem u64_of {v : Int} (h0 : 0 ≤ v) (h1 : v < 18446744073709551616) : IntKind.u64.wrap v = ((v.toNat : Nat) : Int) := by
  rw [wrap_id (k := .u64) ⟨by show (0 : Int) ≤ _; omega, by show _ ≤ (18446744073709551615 : Int); omega⟩]; omega
set_option maxRecDepth 20000 in
set_option maxHeartbeats 1000000 in
theorem bytes_ (k : Key) (hk : keyIn k) (A : Option Addr) (n c : Nat) (ls : List Leg) (w : World) (M I : BS) (hM : ∀ b, ¬ M b) (H : Hp ⟨w, M, I⟩ [] [Sl legR (.slice A n c) ls] w) :
    Ctr Tryd.prog 13 [.agg #[.int .u32 k.loan, .int .i32 k.day, .int .u8 k.kind, .int .u32 k.seq, .slice A n c]] w M I (fun a : SV => .slice a.A a.n a.c) (fun _ => True) (fun _ => []) (fun a => [Sl byteR (.slice a.A a.n a.c) (if rightB k ls = true then entBytes k ls else [])]) := by
  obtain ⟨hn, hc, hc2⟩ := H.sll (A := A) (n := n) (c := c)
  have hok := legs_ok (A := A) (n := n) (c := c) H
  obtain ⟨⟨k1, k2⟩, ⟨k3, k4⟩, ⟨k5, k6⟩, ⟨k7, k8⟩⟩ := id hk
  simp only [kLo, kHi] at k1 k2 k3 k4 k5 k6 k7 k8
  refine Exe.of_ev tok Tryd.call13 Tryd.func13 rfl rfl rfl ?_
  refine box_as H (entC k A n c) rfl fun x w1 H1 => ?_
  refine load_rule tok H1 (v := .agg #[.int .u32 k.loan, .int .i32 k.day, .int .u8 k.kind, .int .u32 k.seq, .slice A n c]) rfl ?_
  refine call_rule H1 (fun M I _ h => right k hk.2.2.1 A n c ls _ M I h) fun _ w2 _ H2 => ?_
  refine br (fun q => ?_) (fun q => ?_)
  · have q : rightB k ls = false := by simpa using q
    refine Exists.intro ⟨none, 0, 0⟩ (And.intro rfl (And.intro trivial ?_))
    have e : (if rightB k ls = true then entBytes k ls else []) = [] := by rw [q]; rfl
    rw [e]
    exact Hp.keep (H2.slNil byteR)
  have q : rightB k ls = true := by simpa using q
  obtain ⟨q1, q2, q3⟩ := right_day q
  refine alloc_as tok H2 [.slice none 0 0] rfl rfl rfl fun qu w3 H3 => ?_
  have H3' : Hp ⟨w, M, I⟩ [row 5 1 (.slice none 0 0) 0 [], blk qu [.slice none 0 0] 71, blk x (entC k A n c) 29] [Sl legR (.slice A n c) ls] w3 := (Hp.nil H3 5 1).keep
  have H3 : Hp ⟨w, M, I⟩ [row 5 1 (.slice none 0 0) 0 (byC []), blk qu [.slice none 0 0] 71, blk x (entC k A n c) 29] [Sl legR (.slice A n c) ls] w3 := H3'
  have e1 := u64_of (v := k.loan) (by omega) (by omega)
  have e2 := u64_of (v := k.day) (by omega) (by omega)
  have e3 := u64_of (v := k.kind) (by omega) (by omega)
  have e4 := u64_of (v := k.seq) (by omega) (by omega)
  have e5 : IntKind.u64.wrap (n : Int) = ((ls.length : Nat) : Int) := by rw [u64_of (by omega) (by omega)]; omega
  have n1 := numB_len (n := k.loan.toNat) (m := 0) (by omega)
  have n2 := numB_len (n := k.day.toNat) (m := 0) (by omega)
  have n3 := numB_len (n := k.kind.toNat) (m := 0) (by omega)
  have n4 := numB_len (n := k.seq.toNat) (m := 0) (by omega)
  have n5 := numB_len (n := ls.length) (m := 0) (by omega)
  refine draw_rule (A := [blk qu [.slice none 0 0] 71, row 5 1 (.slice none 0 0) 0 (byC [])]) tok tdr H3 [0, 1, 2, 3, 4, 5, 6, 7, 8, 9, 10, 11, 12, 13, 14, 15, 16, 17, 18, 19, 20, 21, 22, 23, 24] [0, 1, 3, 7, 15, 0, 32, 96, 224, 511, 0, 1024, 3072, 7168, 16383, 0, 32768, 98304, 229376, 524287, 0, 1048576, 3145728, 7340032, 16777215] rfl ?_
  refine pass_rule _ (fun w h => load_rule tok h (v := .int .u32 k.loan) rfl ⟨rfl, rfl⟩) ?_
  refine imp_rule (fun X wx h => call_rule h (fun M I _ h => uint_as qu ⟨none, 0, 0⟩ [] rfl (by simp only; omega) k.loan.toNat _ e1 (by omega) _ M I h) fun s1 w1 hs1 H1 => imp_done H1 ?_)
  have hs1 : s1.n = 0 + (numB k.loan.toNat 0).length := hs1
  refine pass_rule _ (fun w h => load_rule tok h (v := .int .i32 k.day) rfl ⟨rfl, rfl⟩) ?_
  refine imp_rule (fun X wx h => call_rule h (fun M I _ h => uint_as qu s1 ([] ++ numB k.loan.toNat 0) (by simp; omega) (by omega) k.day.toNat _ e2 (by omega) _ M I h) fun s2 w1 hs2 H1 => imp_done H1 ?_)
  refine pass_rule _ (fun w h => load_rule tok h (v := .int .u8 k.kind) rfl ⟨rfl, rfl⟩) ?_
  refine imp_rule (fun X wx h => call_rule h (fun M I _ h => uint_as qu s2 ([] ++ numB k.loan.toNat 0 ++ numB k.day.toNat 0) (by simp; omega) (by omega) k.kind.toNat _ e3 (by omega) _ M I h) fun s3 w1 hs3 H1 => imp_done H1 ?_)
  refine pass_rule _ (fun w h => load_rule tok h (v := .int .u32 k.seq) rfl ⟨rfl, rfl⟩) ?_
  refine imp_rule (fun X wx h => call_rule h (fun M I _ h => uint_as qu s3 ([] ++ numB k.loan.toNat 0 ++ numB k.day.toNat 0 ++ numB k.kind.toNat 0) (by simp; omega) (by omega) k.seq.toNat _ e4 (by omega) _ M I h) fun s4 w1 hs4 H1 => imp_done H1 ?_)
  refine pass_rule _ (fun w h => load_rule tok h (v := .slice A n c) rfl ⟨rfl, rfl⟩) ?_
  refine imp_rule (fun X wx h => call_rule h (fun M I _ h => uint_as qu s4 ([] ++ numB k.loan.toNat 0 ++ numB k.day.toNat 0 ++ numB k.kind.toNat 0 ++ numB k.seq.toNat 0) (by simp; omega) (by omega) ls.length _ e5 (by omega) _ M I h) fun s5 w1 hs5 H1 => imp_done H1 ?_)
  refine done_rule fun w4 H4 => ?_
  refine load_rule tok H4 (v := .slice A n c) rfl ?_
  have hd : ([] ++ numB k.loan.toNat 0 ++ numB k.day.toNat 0 ++ numB k.kind.toNat 0 ++ numB k.seq.toNat 0 ++ numB ls.length 0) ++ legsB (ls.take 0) = numB k.loan.toNat 0 ++ numB k.day.toNat 0 ++ numB k.kind.toNat 0 ++ numB k.seq.toNat 0 ++ numB ls.length 0 ++ legsB (ls.take 0) := rfl
  have H4 : Hp ⟨w, M, I⟩ [blk qu [.slice s5.A s5.n s5.c] 71, row 5 1 (.slice s5.A s5.n s5.c) s5.n (byC ([] ++ numB k.loan.toNat 0 ++ numB k.day.toNat 0 ++ numB k.kind.toNat 0 ++ numB k.seq.toNat 0 ++ numB ls.length 0)), blk x (entC k A n c) 29] [Sl legR (.slice A n c) ls] w4 := H4.keep
  have hlen : s5.n = (numB k.loan.toNat 0 ++ numB k.day.toNat 0 ++ numB k.kind.toNat 0 ++ numB k.seq.toNat 0 ++ numB ls.length 0 ++ legsB (ls.take 0)).length := by
    rw [← hd]
    simp only [List.length_append, List.take_zero, legsB, List.length_nil]
    omega
  have hshort : (numB k.loan.toNat 0 ++ numB k.day.toNat 0 ++ numB k.kind.toNat 0 ++ numB k.seq.toNat 0 ++ numB ls.length 0).length ≤ 45 := by
    simp only [List.length_append]; omega
  have hhd : ∀ x, x ∈ (numB k.loan.toNat 0 ++ numB k.day.toNat 0 ++ numB k.kind.toNat 0 ++ numB k.seq.toNat 0 ++ numB ls.length 0) → x < 256 := by
    intro y hy
    simp only [List.mem_append] at hy
    rcases hy with (((hy | hy) | hy) | hy) | hy
    all_goals exact numB_lt (by omega) (by omega) y hy
  have hpos : 0 < (numB k.loan.toNat 0 ++ numB k.day.toNat 0 ++ numB k.kind.toNat 0 ++ numB k.seq.toNat 0 ++ numB ls.length 0).length := by
    simp only [List.length_append, numB, List.length_cons]; omega
  rw [show ([] ++ numB k.loan.toNat 0 ++ numB k.day.toNat 0 ++ numB k.kind.toNat 0 ++ numB k.seq.toNat 0 ++ numB ls.length 0) = (numB k.loan.toNat 0 ++ numB k.day.toNat 0 ++ numB k.kind.toNat 0 ++ numB k.seq.toNat 0 ++ numB ls.length 0 ++ legsB (ls.take 0)) by rw [← hd]; simp [legsB]] at H4
  have hent : entBytes k ls = (numB k.loan.toNat 0 ++ numB k.day.toNat 0 ++ numB k.kind.toNat 0 ++ numB k.seq.toNat 0 ++ numB ls.length 0) ++ legsB ls := rfl
  generalize (numB k.loan.toNat 0 ++ numB k.day.toNat 0 ++ numB k.kind.toNat 0 ++ numB k.seq.toNat 0 ++ numB ls.length 0) = hb at H4 hlen hshort hhd hpos hent
  have hleg := legsB_lt hok
  refine loop_rule tok (σ := Nat × SV) 562812514467872 (fun s => [(37, .int .i64 s.1)])
    (fun s w' => s.1 ≤ n ∧ s.2.n = (hb ++ legsB (ls.take s.1)).length ∧ Hp ⟨w, M, I⟩ [blk qu [.slice s.2.A s.2.n s.2.c] 71, row 5 1 (.slice s.2.A s.2.n s.2.c) s.2.n (byC (hb ++ legsB (ls.take s.1))), blk x (entC k A n c) 29] [Sl legR (.slice A n c) ls] w') (fun s => n - s.1) (0, s5) rfl rfl ⟨rfl, trivial⟩ ⟨Nat.zero_le _, hlen, H4⟩ ?_
  rintro ⟨i, A6, n6, c6⟩ j5 w5 ⟨hi, h6, H5⟩
  simp only at hi h6 H5
  refine brd (fun hq => ?_) (fun hq => ?_)
  · have hq : (i : Int) < n := hq
    have hil : i < n := by omega
    obtain ⟨u, hu⟩ : ∃ u, ls[i]? = some u := ⟨_, List.getElem?_eq_getElem (by omega)⟩
    obtain ⟨⟨u1, u2⟩, u3⟩ := hok u (List.mem_of_getElem? hu)
    simp only [kLo, kHi] at u1 u2
    obtain ⟨b1, o1, rfl⟩ := H5.slAt (A := A) (n := n) (c := c) (r := legR) (by omega)
    refine idx_own tok rfl rfl (show (0 : Int) ≤ (i : Int) by omega) hq ?_
    refine sl_ld (n := n) (c := c) (j := i) (f := 0) (r := legR) tok H5 (legV u) hu rfl (fun _ _ => rfl) ?_
    refine alloc_as tok H5 [.int .u8 0, .int .i64 0] rfl rfl rfl fun l w6 H6 => ?_
    refine store_as tok H6 [.int .u8 u.acct, .int .i64 u.amt] rfl rfl rfl rfl rfl fun w7 H7 => ?_
    have htk : (legsB (ls.take i)).length ≤ 18 * i := by
      have h1 := (legsB_lt (ls := ls.take i) fun y hy => hok y (List.mem_of_mem_take hy)).2
      have h2 : (ls.take i).length ≤ i := by simp; omega
      omega
    have e6 := u64_of (v := u.acct) (by omega) (by omega)
    have n6' := numB_len (n := u.acct.toNat) (m := 0) (by omega)
    simp only [List.length_append] at h6
    have hd1 : ls.take (i + 1) = ls.take i ++ [u] := by rw [List.take_add_one, hu]; rfl
    refine draw_rule (A := [blk qu [.slice A6 n6 c6] 71, row 5 1 (.slice A6 n6 c6) n6 (byC (hb ++ legsB (ls.take i)))]) tok tdr H7 [0, 1, 2, 3, 4, 5, 6] [0, 1, 3, 7, 0, 16, 63] rfl ?_
    refine pass_rule _ (fun w h => load_rule tok h (v := .int .u8 u.acct) rfl ⟨rfl, rfl⟩) ?_
    refine imp_rule (fun X wx h => call_rule h (fun M I _ h => uint_as qu ⟨A6, n6, c6⟩ (hb ++ legsB (ls.take i)) (by simp only [List.length_append]; omega) (by simp only; omega) u.acct.toNat _ e6 (by omega) _ M I h) fun s7 w1 hs7 H1 => imp_done H1 ?_)
    have hs7 : s7.n = n6 + (numB u.acct.toNat 0).length := hs7
    refine pass_rule _ (fun w h => load_rule tok h (v := .int .i64 u.amt) rfl ⟨rfl, rfl⟩) ?_
    refine imp_rule (fun X wx h => call_rule h (fun M I _ h => int_ qu s7 (hb ++ legsB (ls.take i) ++ numB u.acct.toNat 0) (by simp only [List.length_append]; omega) (by omega) u.amt u3 _ M I h) fun s8 w1 hs8 H1 => imp_done H1 ?_)
    refine done_rule fun w8 H8 => ?_
    have el : hb ++ legsB (ls.take i) ++ numB u.acct.toNat 0 ++ intB u.amt = hb ++ legsB (ls.take (i + 1)) := by
      rw [hd1, legsB_app]; simp [legsB]
    have H8 : Hp ⟨w, M, I⟩ [blk qu [.slice s8.A s8.n s8.c] 71, row 5 1 (.slice s8.A s8.n s8.c) s8.n (byC (hb ++ legsB (ls.take i) ++ numB u.acct.toNat 0 ++ intB u.amt)), blk x (entC k (some ⟨b1, o1, none⟩) n c) 29] [Sl legR (.slice (some ⟨b1, o1, none⟩) n c) ls] w8 := H8.keep
    rw [el] at H8
    refine Exists.intro (i + 1, s8) (And.intro ⟨?_, trivial⟩ (And.intro ?_ ⟨?_, ?_, H8⟩))
    · show Value.int .i64 (IntKind.i64.wrap (i + 1)) = _
      rw [w64 (by omega) (by omega)]; rfl
    · simp only; omega
    · simp only; omega
    · simp only
      rw [← el, hs8, hs7, h6]
      simp only [List.length_append]
  · have hq : ¬ (i : Int) < n := hq
    have hii : i = ls.length := by omega
    subst hii
    rw [List.take_length] at H5 h6
    have hl6 : (legsB ls).length ≤ 18 * ls.length := hleg.2
    simp only [List.length_append] at h6
    obtain ⟨b6, rfl⟩ := H5.rowSome (A := A6) (n := n6) (c := c6) (by omega)
    have H6 := frzBytes H5 (v := .slice (some ⟨b6, 0, none⟩) n6 c6) (hb ++ legsB ls) hM fun y hy => by
      rcases List.mem_append.1 hy with hy | hy
      · exact hhd y hy
      · exact hleg.1 y hy
    refine call_rule H6 (fun M I _ h => done_ qu ⟨b6, 0, none⟩ n6 c6 (hb ++ legsB ls) (by omega) _ M I h) fun r w9 _ H9 => ?_
    refine Exists.intro r (And.intro rfl (And.intro trivial ?_))
    have e : (if rightB k ls = true then entBytes k ls else []) = hb ++ legsB ls := by rw [q, if_pos rfl, hent]
    rw [e]
    exact Hp.keep H9
end Go.Proofs.YtenpgmnknmnofaaDoor
