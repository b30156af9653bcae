/- The document's bytes of an entry: the walk. -/
import Derived.Test.YtenpgmnknmnofaaDoorT34
namespace Go.Proofs.YtenpgmnknmnofaaDoor
open Go Go.Proofs Go.Wk
theorem intRef (v : Int) (hv : inK .i64 v) (w : World) (M I : BS) (H : Hp ⟨w, M, I⟩ [] [] w) :
    Ctr Tryd.prog 37 [.int .i64 v] w M I (fun a : SV => .slice a.A a.n a.c) (fun a => a.n = (intB v).length) (fun a => [row 5 1 (.slice a.A a.n a.c) a.n (byC (intB v))]) (fun _ => []) := by
  have hx : -9223372036854775808 ≤ v ∧ v ≤ 9223372036854775807 := hv
  refine Exe.of_ev tok Tryd.call37 Tryd.func37 rfl rfl rfl ?_
  refine brd (fun h => ?_) (fun h => ?_)
  · have h : (0 : Int) ≤ v := h
    have ei : intB v = numB v.toNat 0 := by rw [intB, if_neg (by omega)]
    have ev : IntKind.u64.wrap v = ((v.toNat : Nat) : Int) := u64_of h (by omega)
    refine call_rule H (fun M I h0 h => ev ▸ uintRef v.toNat (by omega) _ M I (h0 rfl) h) fun b w1 hb H1 => ?_
    rw [← ei] at hb H1
    exact Exists.intro b (And.intro rfl (And.intro hb H1))
  · have h : ¬ (0 : Int) ≤ v := h
    have ei : intB v = numB (-1 - v).toNat 128 := by rw [intB, if_pos (by omega)]
    have h8 := sizeB_le8 (x := (-1 - v).toNat) (by omega)
    have ev : IntKind.u64.wrap (IntKind.i64.wrap (0 - IntKind.i64.wrap (v + 1))) = (((-1 - v).toNat : Nat) : Int) := by
      rw [w64 (n := v + 1) (by omega) (by omega), w64 (by omega) (by omega), u64_of (by omega) (by omega)]; omega
    refine call_rule H (fun M I h0 h => ev ▸ uintRef (-1 - v).toNat (by omega) _ M I (h0 rfl) h) fun b => ?_
    rcases b with ⟨A, n, c⟩
    intro w1 hb0 H1
    have hb : n = (numB (-1 - v).toNat 0).length := hb0
    have H1 : Hp ⟨w, M, I⟩ [row 5 1 (.slice A n c) n (byC (numB (-1 - v).toNat 0))] [] w1 := H1
    clear hb0
    have hl : (numB (-1 - v).toNat 0).length = 1 + sizeB (-1 - v).toNat := by simp [numB, bigE_len]; omega
    obtain ⟨b1, rfl⟩ := H1.rowSome (A := A) (n := n) (c := c) (by omega)
    have hh : ldV (tb 5) (byC (numB (-1 - v).toNat 0)) (0 + 0 * 1) = some (.int .u8 ((0 + sizeB (-1 - v).toNat : Nat) : Int)) := rfl
    refine idx_own tok rfl rfl (by decide) (show (0 : Int) < (n : Int) by omega) ?_
    refine row_ld tok H1 (.int .u8 ((0 + sizeB (-1 - v).toNat : Nat) : Int)) hh ?_
    refine idx_own tok rfl rfl (by decide) (show (0 : Int) < (n : Int) by omega) ?_
    refine row_st tok H1 rfl rfl (by show 0 + 0 * 1 + 1 ≤ (byC (numB (-1 - v).toNat 0)).length; simp [byC, numB]) rfl fun w2 H2 => ?_
    have ew : IntKind.u8.wrap (((0 + sizeB (-1 - v).toNat : Nat) : Int) + 128) = ((128 + sizeB (-1 - v).toNat : Nat) : Int) := by
      rw [show ((0 + sizeB (-1 - v).toNat : Nat) : Int) + 128 = ((128 + sizeB (-1 - v).toNat : Nat) : Int) by omega]
      exact u8_of (by omega)
    have es : setL (byC (numB (-1 - v).toNat 0)) (0 + 0 * 1) [.int .u8 (IntKind.u8.wrap (((0 + sizeB (-1 - v).toNat : Nat) : Int) + 128))] = byC (intB v) := by
      rw [ei, ew]; rfl
    refine Exists.intro ⟨some ⟨b1, 0, none⟩, n, c⟩ (And.intro rfl (And.intro ?_ ?_))
    · show n = (intB v).length
      rw [ei, hb, hl]; simp [numB, bigE_len]; omega
    · show Hp _ [row 5 1 (.slice (some ⟨b1, 0, none⟩) n c) n (byC (intB v))] _ _
      rw [← es]
      have H3 : Hp ⟨w, M, I⟩ [row 5 1 (.slice (some ⟨b1, 0, none⟩) n c) n (setL (byC (numB (-1 - v).toNat 0)) (0 + 0 * 1) [.int .u8 (IntKind.u8.wrap (((0 + sizeB (-1 - v).toNat : Nat) : Int) + 128))])] [] w2 := H2
      exact H3
set_option maxRecDepth 20000 in
set_option maxHeartbeats 1000000 in
theorem bytesRef (k : Key) (hk : keyIn k) (hd : 0 ≤ k.day) (A : Option Addr) (n c : Nat) (ls : List Leg) (hl : ls.length ≤ 1000) (w : World) (M I : BS) (hM : ∀ b, ¬ M b) (H : Hp ⟨w, M, I⟩ [] [Sl legR (.slice A n c) ls] w) :
    Ctr Tryd.prog 16 [.agg #[.int .u32 k.loan, .int .i32 k.day, .int .u8 k.kind, .int .u32 k.seq, .slice A n c]] w M I (fun a : SV => .slice a.A a.n a.c) (fun _ => True) (fun _ => []) (fun a => [Sl byteR (.slice a.A a.n a.c) (entBytes k ls)]) := by
  obtain ⟨hn, hc, hc2⟩ := H.sll (A := A) (n := n) (c := c)
  have hok := legs_ok (A := A) (n := n) (c := c) H
  obtain ⟨⟨k1, k2⟩, ⟨k3, k4⟩, ⟨k5, k6⟩, ⟨k7, k8⟩⟩ := id hk
  simp only [kLo, kHi] at k1 k2 k3 k4 k5 k6 k7 k8
  have e1 := u64_of (v := k.loan) (by omega) (by omega)
  have e2 := u64_of (v := k.day) (by omega) (by omega)
  have e3 := u64_of (v := k.kind) (by omega) (by omega)
  have e4 := u64_of (v := k.seq) (by omega) (by omega)
  have e5 : IntKind.u64.wrap (n : Int) = ((ls.length : Nat) : Int) := by rw [u64_of (by omega) (by omega)]; omega
  have lt1 := numB_lt (n := k.loan.toNat) (m := 0) (by omega) (by omega)
  have lt2 := numB_lt (n := k.day.toNat) (m := 0) (by omega) (by omega)
  have lt3 := numB_lt (n := k.kind.toNat) (m := 0) (by omega) (by omega)
  have lt4 := numB_lt (n := k.seq.toNat) (m := 0) (by omega) (by omega)
  have lt5 := numB_lt (n := ls.length) (m := 0) (by omega) (by omega)
  have n1 := numB_len (n := k.loan.toNat) (m := 0) (by omega)
  have n2 := numB_len (n := k.day.toNat) (m := 0) (by omega)
  have n3 := numB_len (n := k.kind.toNat) (m := 0) (by omega)
  have n4 := numB_len (n := k.seq.toNat) (m := 0) (by omega)
  have n5 := numB_len (n := ls.length) (m := 0) (by omega)
  refine Exe.of_ev tok Tryd.call16 Tryd.func16 rfl rfl rfl ?_
  refine box_as H (entC k A n c) rfl fun x w1 H1 => ?_
  refine draw_rule (A := []) tok tdr H1 [0, 1, 2, 3, 4, 5, 6, 7, 8, 9, 10, 11, 12, 13, 14, 15, 16, 17, 18, 19, 20, 21, 22, 23, 24, 25, 26, 27] [0, 1, 3, 7, 15, 0, 32, 96, 224, 511, 0, 1024, 3072, 7168, 16383, 0, 32768, 98304, 229376, 524287, 0, 1048576, 3145728, 7340032, 16777215, 33554431, 67108863, 134217727] rfl ?_
  refine pass_rule _ (fun w h => load_rule tok h (v := .int .u32 k.loan) rfl ⟨rfl, rfl⟩) ?_
  refine imp_rule (fun X wx h => call_rule h (fun M I h0 h => uintRef_as k.loan.toNat _ e1 (by omega) _ M I (h0 rfl) h) fun s1 w1 _ H1 => imp_done (frzBytes H1 (v := .slice s1.A s1.n s1.c) (numB k.loan.toNat 0) hM lt1) ?_)
  refine pass_rule _ (fun w h => load_rule tok h (v := .int .i32 k.day) rfl ⟨rfl, rfl⟩) ?_
  refine imp_rule (fun X wx h => call_rule h (fun M I h0 h => uintRef_as k.day.toNat _ e2 (by omega) _ M I (h0 rfl) h) fun s2 w1 _ H1 => imp_done (frzBytes H1 (v := .slice s2.A s2.n s2.c) (numB k.day.toNat 0) hM lt2) ?_)
  refine pass_rule _ (fun w h => load_rule tok h (v := .int .u8 k.kind) rfl ⟨rfl, rfl⟩) ?_
  refine imp_rule (fun X wx h => call_rule h (fun M I h0 h => uintRef_as k.kind.toNat _ e3 (by omega) _ M I (h0 rfl) h) fun s3 w1 _ H1 => imp_done (frzBytes H1 (v := .slice s3.A s3.n s3.c) (numB k.kind.toNat 0) hM lt3) ?_)
  refine pass_rule _ (fun w h => load_rule tok h (v := .int .u32 k.seq) rfl ⟨rfl, rfl⟩) ?_
  refine imp_rule (fun X wx h => call_rule h (fun M I h0 h => uintRef_as k.seq.toNat _ e4 (by omega) _ M I (h0 rfl) h) fun s4 w1 _ H1 => imp_done (frzBytes H1 (v := .slice s4.A s4.n s4.c) (numB k.seq.toNat 0) hM lt4) ?_)
  refine pass_rule _ (fun w h => load_rule tok h (v := .slice A n c) rfl ⟨rfl, rfl⟩) ?_
  refine imp_rule (fun X wx h => call_rule h (fun M I h0 h => uintRef_as ls.length _ e5 (by omega) _ M I (h0 rfl) h) fun s5 w1 _ H1 => imp_done (frzBytes H1 (v := .slice s5.A s5.n s5.c) (numB ls.length 0) hM lt5) ?_)
  refine fresh_slice tok [.slice s1.A s1.n s1.c, .slice s2.A s2.n s2.c, .slice s3.A s3.n s3.c, .slice s4.A s4.n s4.c, .slice s5.A s5.n s5.c] rfl rfl rfl rfl rfl rfl rfl fun g => ?_
  have hin : ∀ {F : List Fact} q, q ∈ [(s1, numB k.loan.toNat 0), (s2, numB k.day.toNat 0), (s3, numB k.kind.toNat 0), (s4, numB k.seq.toNat 0), (s5, numB ls.length 0)] → Sl byteR (svV q.1) q.2 ∈ Sl byteR (.slice s5.A s5.n s5.c) (numB ls.length 0) :: Sl byteR (.slice s4.A s4.n s4.c) (numB k.seq.toNat 0) :: Sl byteR (.slice s3.A s3.n s3.c) (numB k.kind.toNat 0) :: Sl byteR (.slice s2.A s2.n s2.c) (numB k.day.toNat 0) :: Sl byteR (.slice s1.A s1.n s1.c) (numB k.loan.toNat 0) :: F := fun q hq => by
    simp only [List.mem_cons, List.not_mem_nil, or_false] at hq
    rcases hq with rfl | rfl | rfl | rfl | rfl <;> simp
  have hfl : [numB k.loan.toNat 0, numB k.day.toNat 0, numB k.kind.toNat 0, numB k.seq.toNat 0, numB ls.length 0].flatten = numB k.loan.toNat 0 ++ numB k.day.toNat 0 ++ numB k.kind.toNat 0 ++ numB k.seq.toNat 0 ++ numB ls.length 0 ++ legsB (ls.take 0) := by simp [legsB]
  have hshort : (numB k.loan.toNat 0 ++ numB k.day.toNat 0 ++ numB k.kind.toNat 0 ++ numB k.seq.toNat 0 ++ numB ls.length 0).length ≤ 45 := by
    simp only [List.length_append]; omega
  have hhd : ∀ x, x ∈ (numB k.loan.toNat 0 ++ numB k.day.toNat 0 ++ numB k.kind.toNat 0 ++ numB k.seq.toNat 0 ++ numB ls.length 0) → x < 256 := by
    intro y hy
    simp only [List.mem_append] at hy
    rcases hy with (((hy | hy) | hy) | hy) | hy
    · exact lt1 y hy
    · exact lt2 y hy
    · exact lt3 y hy
    · exact lt4 y hy
    · exact lt5 y hy
  have hle : [numB k.loan.toNat 0, numB k.day.toNat 0, numB k.kind.toNat 0, numB k.seq.toNat 0, numB ls.length 0].flatten.length ≤ 1000000 := by
    rw [hfl, List.take_zero, legsB, List.append_nil]; omega
  refine imp_rule (fun X wx h => call_rule (frzSl h (g := g) [(s1, numB k.loan.toNat 0), (s2, numB k.day.toNat 0), (s3, numB k.kind.toNat 0), (s4, numB k.seq.toNat 0), (s5, numB ls.length 0)] 5 [numB k.loan.toNat 0, numB k.day.toNat 0, numB k.kind.toNat 0, numB k.seq.toNat 0, numB ls.length 0] rfl rfl rfl hM rfl hin) (fun M I _ h => join (some ⟨g, 0, none⟩) 5 5 [numB k.loan.toNat 0, numB k.day.toNat 0, numB k.kind.toNat 0, numB k.seq.toNat 0, numB ls.length 0] hle _ M I h) fun s6 w1 _ H1 => imp_done H1 ?_)
  refine done_rule fun w2 H2 => ?_
  have H2 : Hp ⟨w, M, I⟩ [row 5 1 (.slice s6.A s6.n s6.c) s6.n (byC [numB k.loan.toNat 0, numB k.day.toNat 0, numB k.kind.toNat 0, numB k.seq.toNat 0, numB ls.length 0].flatten), blk x (entC k A n c) 54] [Sl legR (.slice A n c) ls] w2 := H2.keep
  rw [hfl] at H2
  have hent : entBytes k ls = (numB k.loan.toNat 0 ++ numB k.day.toNat 0 ++ numB k.kind.toNat 0 ++ numB k.seq.toNat 0 ++ numB ls.length 0) ++ legsB ls := rfl
  rw [hent]
  generalize (numB k.loan.toNat 0 ++ numB k.day.toNat 0 ++ numB k.kind.toNat 0 ++ numB k.seq.toNat 0 ++ numB ls.length 0) = hb at H2 hshort hhd
  have hleg := legsB_lt hok
  have hbi : ∀ i x, x ∈ hb ++ legsB (ls.take i) → x < 256 := fun i x hx => by
    rcases List.mem_append.1 hx with hx | hx
    · exact hhd x hx
    · exact (legsB_lt (ls := ls.take i) fun y hy => hok y (List.mem_of_mem_take hy)).1 x hx
  have H3 := frzBytes H2 (v := .slice s6.A s6.n s6.c) (hb ++ legsB (ls.take 0)) hM (hbi 0)
  refine load_rule tok H3 (v := .slice A n c) rfl ?_
  refine loop_rule tok (σ := Nat × SV) 2251731094208552 (fun s => [(36, .int .i64 s.1), (3, .slice s.2.A s.2.n s.2.c)])
    (fun s w' => s.1 ≤ n ∧ Hp ⟨w, M, I⟩ [blk x (entC k A n c) 54] [Sl byteR (.slice s.2.A s.2.n s.2.c) (hb ++ legsB (ls.take s.1)), Sl legR (.slice A n c) ls] w') (fun s => n - s.1) (0, s6) rfl rfl ⟨rfl, rfl, trivial⟩ ⟨Nat.zero_le _, H3⟩ ?_
  rintro ⟨i, A6, n6, c6⟩ j5 w5 ⟨hi, H5⟩
  simp only at hi H5
  refine brd (fun hq => ?_) (fun hq => ?_)
  · have hq : (i : Int) < n := hq
    obtain ⟨u, hu⟩ : ∃ u, ls[i]? = some u := ⟨_, List.getElem?_eq_getElem (by omega)⟩
    obtain ⟨⟨u1, u2⟩, u3⟩ := hok u (List.mem_of_getElem? hu)
    simp only [kLo, kHi] at u1 u2
    obtain ⟨b1, o1, rfl⟩ := H5.slAt (A := A) (n := n) (c := c) (r := legR) (by omega)
    refine idx_own tok rfl rfl (show (0 : Int) ≤ (i : Int) by omega) hq ?_
    refine sl_ld (n := n) (c := c) (j := i) (f := 0) (r := legR) tok H5 (legV u) hu rfl (fun _ _ => rfl) ?_
    refine alloc_as tok H5 [.int .u8 0, .int .i64 0] rfl rfl rfl fun l w6 H6 => ?_
    refine store_as tok H6 [.int .u8 u.acct, .int .i64 u.amt] rfl rfl rfl rfl rfl fun w7 H7 => ?_
    have e6 := u64_of (v := u.acct) (by omega) (by omega)
    have n6' := numB_len (n := u.acct.toNat) (m := 0) (by omega)
    have lt6 := numB_lt (n := u.acct.toNat) (m := 0) (by omega) (by omega)
    obtain ⟨lt7, n7'⟩ := intB_lt u3
    have hd1 : ls.take (i + 1) = ls.take i ++ [u] := by rw [List.take_add_one, hu]; rfl
    have el : [hb ++ legsB (ls.take i), numB u.acct.toNat 0, intB u.amt].flatten = hb ++ legsB (ls.take (i + 1)) := by
      rw [hd1, legsB_app]; simp [legsB]
    have hll : [hb ++ legsB (ls.take i), numB u.acct.toNat 0, intB u.amt].flatten.length ≤ 1000000 := by
      rw [el]
      have h1 := (legsB_lt (ls := ls.take (i + 1)) fun y hy => hok y (List.mem_of_mem_take hy)).2
      have h2 : (ls.take (i + 1)).length ≤ i + 1 := by simp; omega
      simp only [List.length_append]; omega
    refine draw_rule (A := []) tok tdr H7 [1, 2, 3, 4, 5, 6, 7, 0, 8, 9, 10] [0, 0, 2, 6, 14, 0, 32, 126, 255, 511, 1023] rfl ?_
    refine pass_rule _ (fun w h => load_rule tok h (v := .int .u8 u.acct) rfl ⟨rfl, rfl⟩) ?_
    refine imp_rule (fun X wx h => call_rule h (fun M I h0 h => uintRef_as u.acct.toNat _ e6 (by omega) _ M I (h0 rfl) h) fun s7 w1 _ H1 => imp_done (frzBytes H1 (v := .slice s7.A s7.n s7.c) (numB u.acct.toNat 0) hM lt6) ?_)
    refine pass_rule _ (fun w h => load_rule tok h (v := .int .i64 u.amt) rfl ⟨rfl, rfl⟩) ?_
    refine imp_rule (fun X wx h => call_rule h (fun M I h0 h => intRef u.amt u3 _ M I h) fun s8 w1 _ H1 => imp_done (frzBytes H1 (v := .slice s8.A s8.n s8.c) (intB u.amt) hM lt7) ?_)
    refine fresh_slice tok [.slice A6 n6 c6, .slice s7.A s7.n s7.c, .slice s8.A s8.n s8.c] rfl rfl rfl rfl rfl rfl rfl fun g => ?_
    have hin : ∀ {F : List Fact} q, q ∈ [((⟨A6, n6, c6⟩ : SV), hb ++ legsB (ls.take i)), (s7, numB u.acct.toNat 0), (s8, intB u.amt)] → Sl byteR (svV q.1) q.2 ∈ Sl byteR (.slice s8.A s8.n s8.c) (intB u.amt) :: Sl byteR (.slice s7.A s7.n s7.c) (numB u.acct.toNat 0) :: Sl byteR (.slice A6 n6 c6) (hb ++ legsB (ls.take i)) :: F := fun q hq => by
      simp only [List.mem_cons, List.not_mem_nil, or_false] at hq
      rcases hq with rfl | rfl | rfl <;> simp
    refine imp_rule (fun X wx h => call_rule (frzSl h (g := g) [((⟨A6, n6, c6⟩ : SV), hb ++ legsB (ls.take i)), (s7, numB u.acct.toNat 0), (s8, intB u.amt)] 3 [hb ++ legsB (ls.take i), numB u.acct.toNat 0, intB u.amt] rfl rfl rfl hM rfl hin) (fun M I _ h => join (some ⟨g, 0, none⟩) 3 3 [hb ++ legsB (ls.take i), numB u.acct.toNat 0, intB u.amt] hll _ M I h) fun s9 w1 _ H1 => imp_done H1 ?_)
    refine done_rule fun w8 H8 => ?_
    have H8 : Hp ⟨w, M, I⟩ [row 5 1 (.slice s9.A s9.n s9.c) s9.n (byC [hb ++ legsB (ls.take i), numB u.acct.toNat 0, intB u.amt].flatten), blk x (entC k (some ⟨b1, o1, none⟩) n c) 54] [Sl legR (.slice (some ⟨b1, o1, none⟩) n c) ls] w8 := H8.keep
    rw [el] at H8
    have H9 := frzBytes H8 (v := .slice s9.A s9.n s9.c) (hb ++ legsB (ls.take (i + 1))) hM (hbi (i + 1))
    refine Exists.intro (i + 1, s9) (And.intro ⟨?_, rfl, trivial⟩ (And.intro ?_ ⟨?_, H9.keep⟩))
    · show Value.int .i64 (IntKind.i64.wrap (i + 1)) = _
      rw [w64 (by omega) (by omega)]; rfl
    · simp only; omega
    · simp only; omega
  · have hq : ¬ (i : Int) < n := hq
    have hii : i = ls.length := by omega
    subst hii
    rw [List.take_length] at H5
    exact Exists.intro ⟨A6, n6, c6⟩ (And.intro rfl (And.intro trivial (Hp.keep H5)))
end Go.Proofs.YtenpgmnknmnofaaDoor
