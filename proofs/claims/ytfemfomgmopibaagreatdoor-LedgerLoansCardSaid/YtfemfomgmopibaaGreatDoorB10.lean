/- The document's ledger: add, Post, Reverse: the walks. -/
import Derived.Test.YtfemfomgmopibaaGreatDoorB9
namespace Go.Proofs.YtfemfomgmopibaaGreatDoor
open Go Go.Proofs Go.Wk
theorem sumV_eq (o : Option Int) : sumV o = .tuple #[.int .i64 (o.getD 0), .bool o.isSome] := by cases o <;> rfl
theorem sumF (p : Nat) (s : SV) (xs : List Ln) (hok : LnsOk xs) (hsn : s.n = xs.length) (loan a : Int) (w : World) (M I : BS)
    (H : Hp ⟨w, M, I⟩ [blk p [.slice s.A s.n s.c] 33, row 66 6 (.slice s.A s.n s.c) s.n (lnsC xs)] [LnF xs] w) :
    Ctr Tryz.prog 82 [.pointer (some ⟨p, 0, none⟩), .int .u32 loan, .bool false, .int .u8 a] w M I (fun _ : Unit => .tuple #[.int .i64 ((linSum loan false a xs 0).getD 0), .bool (linSum loan false a xs 0).isSome]) (fun _ => True) (fun _ => [blk p [.slice s.A s.n s.c] 33, row 66 6 (.slice s.A s.n s.c) s.n (lnsC xs)]) (fun _ => []) := by
  have h := sumRef_false p s xs hok hsn loan a w M I H
  rwa [sumV_eq] at h
theorem sumT (p : Nat) (s : SV) (xs : List Ln) (hok : LnsOk xs) (hsn : s.n = xs.length) (loan a : Int) (w : World) (M I : BS)
    (H : Hp ⟨w, M, I⟩ [blk p [.slice s.A s.n s.c] 33, row 66 6 (.slice s.A s.n s.c) s.n (lnsC xs)] [LnF xs] w) :
    Ctr Tryz.prog 82 [.pointer (some ⟨p, 0, none⟩), .int .u32 loan, .bool true, .int .u8 a] w M I (fun _ : Unit => .tuple #[.int .i64 ((linSum loan true a xs 0).getD 0), .bool (linSum loan true a xs 0).isSome]) (fun _ => True) (fun _ => [blk p [.slice s.A s.n s.c] 33, row 66 6 (.slice s.A s.n s.c) s.n (lnsC xs)]) (fun _ => []) := by
  have h := sumRef_true p s xs hok hsn loan a w M I H
  rwa [sumV_eq] at h
def addChk (loan : Int) (xs : List Ln) : List Leg → Bool
  | [] => true
  | g :: r => (linSum loan false g.acct xs 0).isSome && ((linSum 0 true g.acct xs 0).isSome && addChk loan xs r)
structure RR where
  c : Int
  s : SV
  xs : List Ln
@[reducible] def refA (p : Nat) (s : SV) (xs : List Ln) : List Asn := [blk p [.slice s.A s.n s.c] 33, row 66 6 (.slice s.A s.n s.c) s.n (lnsC xs)]
def addROk (s : SV) (xs : List Ln) (x : Ln) (a : RR) : Prop := if addChk x.k.loan (xs ++ [x]) x.ls = true then a.c = 0 ∧ a.s.n = s.n + 1 ∧ a.xs = xs ++ [x] else a = ⟨12, s, xs⟩
set_option maxRecDepth 20000 in
set_option maxHeartbeats 1000000 in
theorem addRefL (p : Nat) (s : SV) (xs : List Ln) (hsn : s.n = xs.length) (k : Key) (A : Option Addr) (n c : Nat) (ls : List Leg) (of : Int) (hok : LnsOk (xs ++ [(Ln.mk k ⟨A, n, c⟩ of ls)])) (w : World) (M I : BS)
    (H : Hp ⟨w, M, I⟩ (refA p s xs) [Sl legR (.slice A n c) ls, LnF xs] w) :
    Ctr Tryz.prog 56 [.pointer (some ⟨p, 0, none⟩), .agg #[.int .u32 k.loan, .int .i32 k.day, .int .u8 k.kind, .int .u32 k.seq, .slice A n c], .int .i64 of] w M I (fun a : RR => .int .i64 a.c) (addROk s xs (Ln.mk k ⟨A, n, c⟩ of ls)) (fun a => refA p a.s a.xs) (fun a => [LnF a.xs]) := by
  obtain ⟨B, m, d⟩ := s
  simp only at hsn H ⊢
  obtain ⟨hn, hc, hc2⟩ := H.sll (A := A) (n := n) (c := c)
  have hxl : xs.length + 1 ≤ 1000 := by have := hok.1; rw [List.length_append] at this; simpa using this
  have hll : ls.length ≤ 1000 := (hok.2 (Ln.mk k ⟨A, n, c⟩ of ls) (by simp)).2.2
  refine Exe.of_ev tok Tryz.call56 Tryz.func56 rfl rfl rfl ?_
  refine box_as H (entC k A n c) rfl fun eb w1 H1 => ?_
  refine draw_rule (A := []) tok tdr H1 [0, 1, 2, 3, 4, 5, 6, 7, 8, 9, 10, 11, 12, 13] [0, 0, 2, 6, 14, 31, 0, 0, 192, 448, 1023, 2047, 4095, 8191] rfl ?_
  refine fresh_slice tok [] rfl rfl rfl rfl rfl rfl rfl fun g1 => ?_
  refine pass_rule _ (fun w h => load_rule tok h (v := .slice B m d) rfl ⟨rfl, rfl⟩) ?_
  refine imp_rule (fun X wx h => append_row (v := .slice (some ⟨g1, 0, none⟩) 0 0) (A := B) (m := m) (c := d) tok (h.toRow (g := g1) 6 0 rfl (by decide)) rfl rfl rfl rfl rfl rfl (lnsC_one xs) (by show (0 + m) * 48 ≤ _; omega) (by omega) fun A2 c2 w4 H4 => imp_done H4 ?_)
  refine pass_rule _ (fun w h => load_rule tok h (v := .agg #[.int .u32 k.loan, .int .i32 k.day, .int .u8 k.kind, .int .u32 k.seq, .slice A n c]) rfl ⟨rfl, rfl⟩) ?_
  refine fresh_slice tok [.int .u32 k.loan, .int .i32 k.day, .int .u8 k.kind, .int .u32 k.seq, .slice A n c, .int .i64 of] rfl rfl rfl rfl rfl rfl rfl fun g2 => ?_
  refine imp_rule (fun X wx h => append_rule (v := .slice A2 (0 + m) c2) (b := g2) (m := 1) (c := 1) tok h rfl rfl rfl rfl rfl rfl rfl rfl (by show (0 + m + 1) * 48 ≤ _; omega) (by omega) fun A3 c3 w4 H4 => imp_done H4 ?_)
  refine fresh_box_as [.slice A3 (0 + m + 1) c3] rfl rfl fun nb => ?_
  refine done_rule fun w5 H5 => ?_
  have el : [] ++ lnsC xs ++ [.int .u32 k.loan, .int .i32 k.day, .int .u8 k.kind, .int .u32 k.seq, .slice A n c, .int .i64 of] = lnsC (xs ++ [(Ln.mk k ⟨A, n, c⟩ of ls)]) := by
    rw [lnsC_app]; simp [lnsC]
  have H5 : Hp ⟨w, M, I⟩ [blk nb [.slice A3 (0 + m + 1) c3] 33, row 66 6 (.slice A3 (0 + m + 1) c3) (0 + m + 1) ([] ++ lnsC xs ++ [.int .u32 k.loan, .int .i32 k.day, .int .u8 k.kind, .int .u32 k.seq, .slice A n c, .int .i64 of]), blk eb (entC k A n c) 64, blk p [.slice B m d] 33, row 66 6 (.slice B m d) m (lnsC xs)] [Sl legR (.slice A n c) ls, LnF xs] w5 := H5.keep
  rw [el] at H5
  have H6 : Hp ⟨w, M, I⟩ [blk nb [.slice A3 (0 + m + 1) c3] 33, row 66 6 (.slice A3 (0 + m + 1) c3) (0 + m + 1) (lnsC (xs ++ [(Ln.mk k ⟨A, n, c⟩ of ls)])), blk eb (entC k A n c) 64, blk p [.slice B m d] 33, row 66 6 (.slice B m d) m (lnsC xs)] [LnF (xs ++ [(Ln.mk k ⟨A, n, c⟩ of ls)]), Sl legR (.slice A n c) ls, LnF xs] w5 := H5.facts fun I ha f hf => by
    rcases List.mem_cons.1 hf with rfl | hf
    · intro z hz
      rcases List.mem_append.1 hz with hz | hz
      · exact ha (LnF xs) (List.mem_cons_of_mem _ List.mem_cons_self) z hz
      · rw [List.mem_singleton] at hz
        subst hz
        exact ha _ List.mem_cons_self
    · exact ha f hf
  have hm1 : 0 + m + 1 = m + 1 := by omega
  have hsn2 : 0 + m + 1 = (xs ++ [(Ln.mk k ⟨A, n, c⟩ of ls)]).length := by rw [List.length_append]; simp; omega
  refine load_rule tok H6 (v := .slice A n c) rfl ?_
  refine loop_rule tok (σ := Nat) 288230375077985856 (fun i => [(30, .int .i64 i)])
    (fun i w' => i ≤ ls.length ∧ addChk k.loan (xs ++ [(Ln.mk k ⟨A, n, c⟩ of ls)]) ls = addChk k.loan (xs ++ [(Ln.mk k ⟨A, n, c⟩ of ls)]) (ls.drop i) ∧ Hp ⟨w, M, I⟩ [blk nb [.slice A3 (0 + m + 1) c3] 33, row 66 6 (.slice A3 (0 + m + 1) c3) (0 + m + 1) (lnsC (xs ++ [(Ln.mk k ⟨A, n, c⟩ of ls)])), blk eb (entC k A n c) 64, blk p [.slice B m d] 33, row 66 6 (.slice B m d) m (lnsC xs)] [LnF (xs ++ [(Ln.mk k ⟨A, n, c⟩ of ls)]), Sl legR (.slice A n c) ls, LnF xs] w') (fun i => ls.length - i) 0 rfl rfl ⟨rfl, trivial⟩
    ⟨Nat.zero_le _, rfl, H6⟩ ?_
  rintro i j w7 ⟨hi, hg, H7⟩
  refine brd (fun h5 => ?_) (fun h5 => ?_)
  · have h5 : (i : Int) < n := h5
    have hil : i < ls.length := by omega
    obtain ⟨u, hu⟩ : ∃ u, ls[i]? = some u := ⟨_, List.getElem?_eq_getElem hil⟩
    have hdu : ls.drop i = u :: ls.drop (i + 1) := by
      rw [List.drop_eq_getElem_cons hil]
      rw [List.getElem?_eq_getElem hil] at hu
      rw [Option.some.inj hu]
    have i1 : (0 : Int) ≤ (i : Int) := by omega
    have hi64 : Value.int .i64 (IntKind.i64.wrap (i + 1)) = .int .i64 ((i + 1 : Nat) : Int) := by rw [w64 (by omega) (by omega)]; rfl
    have hmu : ls.length - (i + 1) < ls.length - i := by omega
    rw [hdu] at hg
    have over : (linSum k.loan false u.acct (xs ++ [(Ln.mk k ⟨A, n, c⟩ of ls)]) 0).isSome = false ∨ (linSum 0 true u.acct (xs ++ [(Ln.mk k ⟨A, n, c⟩ of ls)]) 0).isSome = false → ∀ w', Hp ⟨w, M, I⟩ (refA p ⟨B, m, d⟩ xs) [LnF xs] w' →
        ∃ a : RR, Value.int .i64 12 = .int .i64 a.c ∧ addROk ⟨B, m, d⟩ xs (Ln.mk k ⟨A, n, c⟩ of ls) a ∧ Hp ⟨w, M, I⟩ (refA p a.s a.xs) [LnF a.xs] w' := fun h w' hw => by
      refine ⟨⟨12, ⟨B, m, d⟩, xs⟩, rfl, ?_, hw⟩
      unfold addROk
      rw [if_neg]
      show ¬ addChk k.loan (xs ++ [(Ln.mk k ⟨A, n, c⟩ of ls)]) ls = true
      rw [hg, addChk]
      rcases h with h | h <;> rw [h] <;> simp
    refine idx_rule tok H7 (r := legR) (A := A) (n := n) (c := c) rfl rfl rfl i1 h5 fun pb po u' hu' H8 => ?_
    have eu : u' = u := Option.some.inj ((show ls[i]? = some u' by simpa using hu').symm.trans hu)
    subst eu
    refine ldp_rule tok H8 rfl rfl rfl fun _ _ H9 => ?_
    refine alloc_as tok H9 [.int .u8 0, .int .i64 0] rfl rfl rfl fun y w8 H10 => ?_
    refine store_as tok H10 [.int .u8 u'.acct, .int .i64 u'.amt] rfl rfl rfl rfl rfl fun w9 H11 => ?_
    refine load_rule tok H11 (v := .int .u32 k.loan) rfl ?_
    refine load_rule tok H11 (v := .int .u8 u'.acct) rfl ?_
    refine call_rule H11 (fun M I _ h => sumF nb ⟨A3, 0 + m + 1, c3⟩ (xs ++ [(Ln.mk k ⟨A, n, c⟩ of ls)]) hok hsn2 k.loan u'.acct _ M I h) fun _ w12 _ H12 => ?_
    refine load_rule tok H12 (v := .int .u8 u'.acct) rfl ?_
    refine call_rule H12 (fun M I _ h => sumT nb ⟨A3, 0 + m + 1, c3⟩ (xs ++ [(Ln.mk k ⟨A, n, c⟩ of ls)]) hok hsn2 0 u'.acct _ M I h) fun _ w13 _ H13 => ?_
    refine br (fun q1 => ?_) (fun q1 => ?_)
    · have q1 : (linSum k.loan false u'.acct (xs ++ [(Ln.mk k ⟨A, n, c⟩ of ls)]) 0).isSome = false := by simpa using q1
      exact over (.inl q1) _ (Hp.keep H13)
    have q1 : (linSum k.loan false u'.acct (xs ++ [(Ln.mk k ⟨A, n, c⟩ of ls)]) 0).isSome = true := by simpa using q1
    refine br (fun q2 => ?_) (fun q2 => ?_)
    · have q2 : (linSum 0 true u'.acct (xs ++ [(Ln.mk k ⟨A, n, c⟩ of ls)]) 0).isSome = false := by simpa using q2
      exact over (.inr q2) _ (Hp.keep H13)
    have q2 : (linSum 0 true u'.acct (xs ++ [(Ln.mk k ⟨A, n, c⟩ of ls)]) 0).isSome = true := by simpa using q2
    refine Exists.intro (i + 1) (And.intro ⟨hi64, trivial⟩ (And.intro hmu ⟨by omega, ?_, Hp.keep H13⟩))
    rw [hg, addChk, q1, q2, Bool.true_and, Bool.true_and]
  · have h5 : ¬ (i : Int) < n := h5
    have e0 : addChk k.loan (xs ++ [(Ln.mk k ⟨A, n, c⟩ of ls)]) ls = true := by rw [hg, List.drop_eq_nil_of_le (by omega)]; rfl
    have okk : addROk ⟨B, m, d⟩ xs (Ln.mk k ⟨A, n, c⟩ of ls) ⟨0, ⟨A3, 0 + m + 1, c3⟩, xs ++ [(Ln.mk k ⟨A, n, c⟩ of ls)]⟩ := by
      unfold addROk
      rw [if_pos e0]
      exact ⟨rfl, hm1, rfl⟩
    refine load_rule tok H7 (v := .slice A3 (0 + m + 1) c3) rfl ?_
    refine store_as tok H7 [.slice A3 (0 + m + 1) c3] rfl rfl rfl rfl rfl fun w8 H8 => ?_
    exact Exists.intro ⟨0, ⟨A3, 0 + m + 1, c3⟩, xs ++ [(Ln.mk k ⟨A, n, c⟩ of ls)]⟩ (And.intro rfl (And.intro okk (Hp.keep H8)))
end Go.Proofs.YtfemfomgmopibaaGreatDoor
