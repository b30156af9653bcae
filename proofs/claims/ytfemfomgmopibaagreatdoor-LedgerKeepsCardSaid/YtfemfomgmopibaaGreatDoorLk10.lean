/- The document's ledger: add, Post, Reverse: the walks. -/
import Derived.Test.YtfemfomgmopibaaGreatDoorLk9
namespace Go.Proofs.YtfemfomgmopibaaGreatDoor
open Go Go.Proofs Go.Wk
theorem sumV_eq (o : Option Int) : sumV o = .tuple #[.int .i64 (o.getD 0), .bool o.isSome] := by cases o <;> rfl
theorem sumF (p : Nat) (s : SV) (xs : List Ln) (hok : LnsOk xs) (hsn : s.n = xs.length) (loan a : Int) (w : World) (M I : BS)
    (H : Hp ⟨w, M, I⟩ [blk p [.slice s.A s.n s.c] 33, row 66 6 (.slice s.A s.n s.c) s.n (lnsC xs)] [LnF xs] w) :
    Ctr Tryz.prog 82 [.pointer (some ⟨p, 0, none⟩), .int .u32 loan, .bool false, .int .u8 a] w M I (fun _ : Unit => .tuple #[.int .i64 ((linSum loan false a xs 0).getD 0), .bool (linSum loan false a xs 0).isSome]) (fun _ => True) (fun _ => [blk p [.slice s.A s.n s.c] 33, row 66 6 (.slice s.A s.n s.c) s.n (lnsC xs)]) (fun _ => []) := by
  have h := sumRef_false p s xs hok hsn loan a w M I H
  rwa [sumV_eq] at h
theorem sumT (p : Nat) (s : SV) (xs : List Ln) (hok : LnsOk xs) (hsn : s.n = xs.length) (loan a : Int) (w : World) (M I : BS)
    (H : Hp ⟨w, M, I⟩ [blk p [.slice s.A s.n s.c] 33, row 66 6 (.slice s.A s.n s.c) s.n (lnsC xs)] [LnF xs] w) :
    Ctr Tryz.prog 82 [.pointer (some ⟨p, 0, none⟩), .int .u32 loan, .bool true, .int .u8 a] w M I (fun _ : Unit => .tuple #[.int .i64 ((linSum loan true a xs 0).getD 0), .bool (linSum loan true a xs 0).isSome]) (fun _ => True) (fun _ => [blk p [.slice s.A s.n s.c] 33, row 66 6 (.slice s.A s.n s.c) s.n (lnsC xs)]) (fun _ => []) := by
  have h := sumRef_true p s xs hok hsn loan a w M I H
  rwa [sumV_eq] at h
def addChk (loan : Int) (xs : List Ln) : List Leg → Bool
  | [] => true
  | g :: r => (linSum loan false g.acct xs 0).isSome && ((linSum 0 true g.acct xs 0).isSome && addChk loan xs r)
structure RR where
  c : Int
  s : SV
  xs : List Ln
@[reducible] def refA (p : Nat) (s : SV) (xs : List Ln) : List Asn := [blk p [.slice s.A s.n s.c] 33, row 66 6 (.slice s.A s.n s.c) s.n (lnsC xs)]
def addROk (s : SV) (xs : List Ln) (x : Ln) (a : RR) : Prop := if addChk x.k.loan (xs ++ [x]) x.ls = true then a.c = 0 ∧ a.s.n = s.n + 1 ∧ a.xs = xs ++ [x] else a = ⟨12, s, xs⟩
set_option maxRecDepth 20000 in
set_option maxHeartbeats 1000000 in
theorem addRefL (p : Nat) (s : SV) (xs : List Ln) (hsn : s.n = xs.length) (k : Key) (A : Option Addr) (n c : Nat) (ls : List Leg) (of : Int) (hok : LnsOk (xs ++ [(Ln.mk k ⟨A, n, c⟩ of ls)])) (w : World) (M I : BS)
    (H : Hp ⟨w, M, I⟩ (refA p s xs) [Sl legR (.slice A n c) ls, LnF xs] w) :
    Ctr Tryz.prog 56 [.pointer (some ⟨p, 0, none⟩), .agg #[.int .u32 k.loan, .int .i32 k.day, .int .u8 k.kind, .int .u32 k.seq, .slice A n c], .int .i64 of] w M I (fun a : RR => .int .i64 a.c) (addROk s xs (Ln.mk k ⟨A, n, c⟩ of ls)) (fun a => refA p a.s a.xs) (fun a => [LnF a.xs]) := by
  obtain ⟨B, m, d⟩ := s
  simp only at hsn H ⊢
  obtain ⟨hn, hc, hc2⟩ := H.sll (A := A) (n := n) (c := c)
  have hxl : xs.length + 1 ≤ 1000 := by have := hok.1; rw [List.length_append] at this; simpa using this
  have hll : ls.length ≤ 1000 := (hok.2 (Ln.mk k ⟨A, n, c⟩ of ls) (by simp)).2.2
  refine Exe.of_ev tok Tryz.call56 Tryz.func56 rfl rfl rfl ?_
  refine box_as H (entC k A n c) rfl fun eb w1 H1 => ?_
  refine draw_rule (A := []) tok tdr H1 [0, 1, 2, 3, 4, 5, 6, 7, 8, 9, 10, 11, 12, 13] [0, 0, 2, 6, 14, 31, 0, 0, 192, 448, 1023, 2047, 4095, 8191] rfl ?_
  refine fresh_slice tok [] rfl rfl rfl rfl rfl rfl rfl fun g1 => ?_
  refine pass_rule _ (fun w h => load_rule tok h (v := .slice B m d) rfl ⟨rfl, rfl⟩) ?_
  refine imp_rule (fun X wx h => append_row (v := .slice (some ⟨g1, 0, none⟩) 0 0) (A := B) (m := m) (c := d) tok (h.toRow (g := g1) 6 0 rfl (by decide)) rfl rfl rfl rfl rfl rfl (lnsC_one xs) (by show (0 + m) * 48 ≤ _; omega) (by omega) fun A2 c2 w4 H4 => imp_done H4 ?_)
  refine pass_rule _ (fun w h => load_rule tok h (v := .agg #[.int .u32 k.loan, .int .i32 k.day, .int .u8 k.kind, .int .u32 k.seq, .slice A n c]) rfl ⟨rfl, rfl⟩) ?_
  refine fresh_slice tok [.int .u32 k.loan, .int .i32 k.day, .int .u8 k.kind, .int .u32 k.seq, .slice A n c, .int .i64 of] rfl rfl rfl rfl rfl rfl rfl fun g2 => ?_
  refine imp_rule (fun X wx h => append_rule (v := .slice A2 (0 + m) c2) (b := g2) (m := 1) (c := 1) tok h rfl rfl rfl rfl rfl rfl rfl rfl (by show (0 + m + 1) * 48 ≤ _; omega) (by omega) fun A3 c3 w4 H4 => imp_done H4 ?_)
  refine fresh_box_as [.slice A3 (0 + m + 1) c3] rfl rfl fun nb => ?_
  refine done_rule fun w5 H5 => ?_
  have el : [] ++ lnsC xs ++ [.int .u32 k.loan, .int .i32 k.day, .int .u8 k.kind, .int .u32 k.seq, .slice A n c, .int .i64 of] = lnsC (xs ++ [(Ln.mk k ⟨A, n, c⟩ of ls)]) := by
    rw [lnsC_app]; simp [lnsC]
  have H5 : Hp ⟨w, M, I⟩ [blk nb [.slice A3 (0 + m + 1) c3] 33, row 66 6 (.slice A3 (0 + m + 1) c3) (0 + m + 1) ([] ++ lnsC xs ++ [.int .u32 k.loan, .int .i32 k.day, .int .u8 k.kind, .int .u32 k.seq, .slice A n c, .int .i64 of]), blk eb (entC k A n c) 64, blk p [.slice B m d] 33, row 66 6 (.slice B m d) m (lnsC xs)] [Sl legR (.slice A n c) ls, LnF xs] w5 := H5.keep
  rw [el] at H5
  have H6 : Hp ⟨w, M, I⟩ [blk nb [.slice A3 (0 + m + 1) c3] 33, row 66 6 (.slice A3 (0 + m + 1) c3) (0 + m + 1) (lnsC (xs ++ [(Ln.mk k ⟨A, n, c⟩ of ls)])), blk eb (entC k A n c) 64, blk p [.slice B m d] 33, row 66 6 (.slice B m d) m (lnsC xs)] [LnF (xs ++ [(Ln.mk k ⟨A, n, c⟩ of ls)]), Sl legR (.slice A n c) ls, LnF xs] w5 := H5.facts fun I ha f hf => by
    rcases List.mem_cons.1 hf with rfl | hf
    · intro z hz
      rcases List.mem_append.1 hz with hz | hz
      · exact ha (LnF xs) (List.mem_cons_of_mem _ List.mem_cons_self) z hz
      · rw [List.mem_singleton] at hz
        subst hz
        exact ha _ List.mem_cons_self
    · exact ha f hf
  have hm1 : 0 + m + 1 = m + 1 := by omega
  have hsn2 : 0 + m + 1 = (xs ++ [(Ln.mk k ⟨A, n, c⟩ of ls)]).length := by rw [List.length_append]; simp; omega
  refine load_rule tok H6 (v := .slice A n c) rfl ?_
  refine loop_rule tok (σ := Nat) 288230375077985856 (fun i => [(30, .int .i64 i)])
    (fun i w' => i ≤ ls.length ∧ addChk k.loan (xs ++ [(Ln.mk k ⟨A, n, c⟩ of ls)]) ls = addChk k.loan (xs ++ [(Ln.mk k ⟨A, n, c⟩ of ls)]) (ls.drop i) ∧ Hp ⟨w, M, I⟩ [blk nb [.slice A3 (0 + m + 1) c3] 33, row 66 6 (.slice A3 (0 + m + 1) c3) (0 + m + 1) (lnsC (xs ++ [(Ln.mk k ⟨A, n, c⟩ of ls)])), blk eb (entC k A n c) 64, blk p [.slice B m d] 33, row 66 6 (.slice B m d) m (lnsC xs)] [LnF (xs ++ [(Ln.mk k ⟨A, n, c⟩ of ls)]), Sl legR (.slice A n c) ls, LnF xs] w') (fun i => ls.length - i) 0 rfl rfl ⟨rfl, trivial⟩
    ⟨Nat.zero_le _, rfl, H6⟩ ?_
  rintro i j w7 ⟨hi, hg, H7⟩
  refine brd (fun h5 => ?_) (fun h5 => ?_)
  · have h5 : (i : Int) < n := h5
    have hil : i < ls.length := by omega
    obtain ⟨u, hu⟩ : ∃ u, ls[i]? = some u := ⟨_, List.getElem?_eq_getElem hil⟩
    have hdu : ls.drop i = u :: ls.drop (i + 1) := by
      rw [List.drop_eq_getElem_cons hil]
      rw [List.getElem?_eq_getElem hil] at hu
      rw [Option.some.inj hu]
    have i1 : (0 : Int) ≤ (i : Int) := by omega
    have hi64 : Value.int .i64 (IntKind.i64.wrap (i + 1)) = .int .i64 ((i + 1 : Nat) : Int) := by rw [w64 (by omega) (by omega)]; rfl
    have hmu : ls.length - (i + 1) < ls.length - i := by omega
    rw [hdu] at hg
    have over : (linSum k.loan false u.acct (xs ++ [(Ln.mk k ⟨A, n, c⟩ of ls)]) 0).isSome = false ∨ (linSum 0 true u.acct (xs ++ [(Ln.mk k ⟨A, n, c⟩ of ls)]) 0).isSome = false → ∀ w', Hp ⟨w, M, I⟩ (refA p ⟨B, m, d⟩ xs) [LnF xs] w' →
        ∃ a : RR, Value.int .i64 12 = .int .i64 a.c ∧ addROk ⟨B, m, d⟩ xs (Ln.mk k ⟨A, n, c⟩ of ls) a ∧ Hp ⟨w, M, I⟩ (refA p a.s a.xs) [LnF a.xs] w' := fun h w' hw => by
      refine ⟨⟨12, ⟨B, m, d⟩, xs⟩, rfl, ?_, hw⟩
      unfold addROk
      rw [if_neg]
      show ¬ addChk k.loan (xs ++ [(Ln.mk k ⟨A, n, c⟩ of ls)]) ls = true
      rw [hg, addChk]
      rcases h with h | h <;> rw [h] <;> simp
    refine idx_rule tok H7 (r := legR) (A := A) (n := n) (c := c) rfl rfl rfl i1 h5 fun pb po u' hu' H8 => ?_
    have eu : u' = u := Option.some.inj ((show ls[i]? = some u' by simpa using hu').symm.trans hu)
    subst eu
    refine ldp_rule tok H8 rfl rfl rfl fun _ _ H9 => ?_
    refine alloc_as tok H9 [.int .u8 0, .int .i64 0] rfl rfl rfl fun y w8 H10 => ?_
    refine store_as tok H10 [.int .u8 u'.acct, .int .i64 u'.amt] rfl rfl rfl rfl rfl fun w9 H11 => ?_
    refine load_rule tok H11 (v := .int .u32 k.loan) rfl ?_
    refine load_rule tok H11 (v := .int .u8 u'.acct) rfl ?_
    refine call_rule H11 (fun M I _ h => sumF nb ⟨A3, 0 + m + 1, c3⟩ (xs ++ [(Ln.mk k ⟨A, n, c⟩ of ls)]) hok hsn2 k.loan u'.acct _ M I h) fun _ w12 _ H12 => ?_
    refine load_rule tok H12 (v := .int .u8 u'.acct) rfl ?_
    refine call_rule H12 (fun M I _ h => sumT nb ⟨A3, 0 + m + 1, c3⟩ (xs ++ [(Ln.mk k ⟨A, n, c⟩ of ls)]) hok hsn2 0 u'.acct _ M I h) fun _ w13 _ H13 => ?_
    refine br (fun q1 => ?_) (fun q1 => ?_)
    · have q1 : (linSum k.loan false u'.acct (xs ++ [(Ln.mk k ⟨A, n, c⟩ of ls)]) 0).isSome = false := by simpa using q1
      exact over (.inl q1) _ (Hp.keep H13)
    have q1 : (linSum k.loan false u'.acct (xs ++ [(Ln.mk k ⟨A, n, c⟩ of ls)]) 0).isSome = true := by simpa using q1
    refine br (fun q2 => ?_) (fun q2 => ?_)
    · have q2 : (linSum 0 true u'.acct (xs ++ [(Ln.mk k ⟨A, n, c⟩ of ls)]) 0).isSome = false := by simpa using q2
      exact over (.inr q2) _ (Hp.keep H13)
    have q2 : (linSum 0 true u'.acct (xs ++ [(Ln.mk k ⟨A, n, c⟩ of ls)]) 0).isSome = true := by simpa using q2
    refine Exists.intro (i + 1) (And.intro ⟨hi64, trivial⟩ (And.intro hmu ⟨by omega, ?_, Hp.keep H13⟩))
    rw [hg, addChk, q1, q2, Bool.true_and, Bool.true_and]
  · have h5 : ¬ (i : Int) < n := h5
    have e0 : addChk k.loan (xs ++ [(Ln.mk k ⟨A, n, c⟩ of ls)]) ls = true := by rw [hg, List.drop_eq_nil_of_le (by omega)]; rfl
    have okk : addROk ⟨B, m, d⟩ xs (Ln.mk k ⟨A, n, c⟩ of ls) ⟨0, ⟨A3, 0 + m + 1, c3⟩, xs ++ [(Ln.mk k ⟨A, n, c⟩ of ls)]⟩ := by
      unfold addROk
      rw [if_pos e0]
      exact ⟨rfl, hm1, rfl⟩
    refine load_rule tok H7 (v := .slice A3 (0 + m + 1) c3) rfl ?_
    refine store_as tok H7 [.slice A3 (0 + m + 1) c3] rfl rfl rfl rfl rfl fun w8 H8 => ?_
    exact Exists.intro ⟨0, ⟨A3, 0 + m + 1, c3⟩, xs ++ [(Ln.mk k ⟨A, n, c⟩ of ls)]⟩ (And.intro rfl (And.intro okk (Hp.keep H8)))
end Go.Proofs.YtfemfomgmopibaaGreatDoor
namespace Go.Proofs.YtfemfomgmopibaaGreatDoor
open Go Go.Proofs Go.Wk
def postROk (s : SV) (xs : List Ln) (x : Ln) (a : RR) : Prop :=
  if rightR x.k x.ls = false then a = ⟨1, s, xs⟩ else if 0 ≤ liveGo x.k xs 0 (-1) then a = ⟨10, s, xs⟩ else addROk s xs x a
set_option maxRecDepth 20000 in
theorem postRef (p : Nat) (s : SV) (xs : List Ln) (hsn : s.n = xs.length) (k : Key) (A : Option Addr) (n c : Nat) (ls : List Leg) (hok : LnsOk (xs ++ [Ln.mk k ⟨A, n, c⟩ 0 ls])) (w : World) (M I : BS)
    (H : Hp ⟨w, M, I⟩ (refA p s xs) [Sl legR (.slice A n c) ls, LnF xs] w) :
    Ctr Tryz.prog 28 [.pointer (some ⟨p, 0, none⟩), .agg #[.int .u32 k.loan, .int .i32 k.day, .int .u8 k.kind, .int .u32 k.seq, .slice A n c]] w M I (fun a : RR => .int .i64 a.c) (postROk s xs (Ln.mk k ⟨A, n, c⟩ 0 ls)) (fun a => refA p a.s a.xs) (fun a => [LnF a.xs]) := by
  obtain ⟨hn, hc, hc2⟩ := H.sll (A := A) (n := n) (c := c)
  have hokx : LnsOk xs := ⟨by have := hok.1; rw [List.length_append] at this; omega, fun x hx => hok.2 x (List.mem_append_left _ hx)⟩
  refine Exe.of_ev tok Tryz.call28 Tryz.func28 rfl rfl rfl ?_
  refine box_as H (entC k A n c) rfl fun eb w1 H1 => ?_
  refine load_rule tok H1 (v := .agg #[.int .u32 k.loan, .int .i32 k.day, .int .u8 k.kind, .int .u32 k.seq, .slice A n c]) rfl ?_
  refine call_rule H1 (fun M I _ h => rightRef k A n c ls hn _ M I h) fun _ w2 _ H2 => ?_
  refine br (fun q => ?_) (fun q => ?_)
  · have q : rightR k ls = false := by simpa using q
    have okk : postROk s xs (Ln.mk k ⟨A, n, c⟩ 0 ls) ⟨1, s, xs⟩ := by unfold postROk; rw [if_pos q]
    exact Exists.intro ⟨1, s, xs⟩ (And.intro rfl (And.intro okk (Hp.keep H2)))
  have q : rightR k ls = true := by simpa using q
  have q' : ¬ rightR (Ln.mk k ⟨A, n, c⟩ 0 ls).k (Ln.mk k ⟨A, n, c⟩ 0 ls).ls = false := by show ¬ rightR k ls = false; rw [q]; simp
  refine load_rule tok H2 (v := keyV k) rfl ?_
  refine call_rule H2 (fun M I _ h => liveRef p s xs hokx hsn k _ M I h) fun _ w3 _ H3 => ?_
  refine brd (fun q2 => ?_) (fun q2 => ?_)
  · have okk : postROk s xs (Ln.mk k ⟨A, n, c⟩ 0 ls) ⟨10, s, xs⟩ := by unfold postROk; rw [if_neg q', if_pos q2]
    exact Exists.intro ⟨10, s, xs⟩ (And.intro rfl (And.intro okk (Hp.keep H3)))
  refine load_rule tok H3 (v := .agg #[.int .u32 k.loan, .int .i32 k.day, .int .u8 k.kind, .int .u32 k.seq, .slice A n c]) rfl ?_
  refine call_rule H3 (fun M I _ h => addRefL p s xs hsn k A n c ls 0 hok _ M I h) fun a w4 ha H4 => ?_
  have okk : postROk s xs (Ln.mk k ⟨A, n, c⟩ 0 ls) a := by unfold postROk; rw [if_neg q', if_neg q2]; exact ha
  exact Exists.intro a (And.intro rfl (And.intro okk (Hp.keep H4)))
/-- Do all amounts and all sums have an other way? As the document asks. -/
def negGo (s : Int) : List Leg → Bool
  | [] => true
  | x :: r => !decide (x.amt = -9223372036854775808) && (in64 (s + -x.amt) && negGo (s + -x.amt) r)
def revROk (s : SV) (xs : List Ln) (k : Key) (a : RR) : Prop :=
  if liveGo k xs 0 (-1) < 0 then a = ⟨3, s, xs⟩ else ∃ x, xs[(liveGo k xs 0 (-1)).toNat]? = some x ∧
    (if negGo 0 x.ls = false then a = ⟨12, s, xs⟩ else ∃ sv, addROk s xs ⟨k, sv, liveGo k xs 0 (-1) + 1, x.ls.map negL⟩ a)
theorem lnsR_legs {xs : List Ln} {j : Nat} {x : Ln} (h : xs[j]? = some x) : ldV (tb 62) (lnsC xs) (0 + j * 6 + 0 + 4) = some (.slice x.s.A x.s.n x.s.c) := by
  obtain ⟨hj, _⟩ := List.getElem?_eq_some_iff.1 h
  have hd : xs.drop j = x :: xs.drop (j + 1) := by
    rw [List.drop_eq_getElem_cons hj]
    rw [List.getElem?_eq_getElem hj] at h
    rw [Option.some.inj h]
  show (lnsC xs)[0 + j * 6 + 0 + 4]? = _
  have : (lnsC xs)[0 + j * 6 + 0 + 4]? = ((lnsC xs).drop (j * 6))[4]? := by rw [List.getElem?_drop]; congr 1; omega
  rw [this, lnsC_drop, hd]
  rfl
set_option maxRecDepth 20000 in
set_option maxHeartbeats 1000000 in
theorem reverseRef (p : Nat) (s : SV) (xs : List Ln) (hsn : s.n = xs.length) (hok : LnsOk xs) (hl9 : xs.length < 1000) (k : Key) (hk : keyIn k) (hlv : liveGo k xs 0 (-1) < xs.length) (w : World) (M I : BS)
    (H : Hp ⟨w, M, I⟩ (refA p s xs) [LnF xs] w) :
    Ctr Tryz.prog 26 [.pointer (some ⟨p, 0, none⟩), keyV k] w M I (fun a : RR => .int .i64 a.c) (revROk s xs k) (fun a => refA p a.s a.xs) (fun a => [LnF a.xs]) := by
  refine Exe.of_ev tok Tryz.call26 Tryz.func26 rfl rfl rfl ?_
  refine box_as H (keyC k) rfl fun kb w1 H1 => ?_
  refine load_rule tok H1 (v := keyV k) rfl ?_
  refine call_rule H1 (fun M I _ h => liveRef p s xs hok hsn k _ M I h) fun _ w2 _ H2 => ?_
  refine brd (fun q => ?_) (fun q => ?_)
  · have okk : revROk s xs k ⟨3, s, xs⟩ := by unfold revROk; rw [if_pos q]
    exact Exists.intro ⟨3, s, xs⟩ (And.intro rfl (And.intro okk (Hp.keep H2)))
  have q0 : 0 ≤ liveGo k xs 0 (-1) := by omega
  obtain ⟨B, m, d⟩ := s
  simp only at hsn H1 H2
  obtain ⟨b, rfl⟩ := H2.rowSome (A := B) (n := m) (c := d) (by omega)
  obtain ⟨u, hu⟩ : ∃ u, xs[(liveGo k xs 0 (-1)).toNat]? = some u := ⟨_, List.getElem?_eq_getElem (by omega)⟩
  have hum := List.mem_of_getElem? hu
  have hul := (hok.2 u hum).2.2
  have H2 : Hp ⟨w, M, I⟩ [blk p [.slice (some ⟨b, 0, none⟩) m d] 33, row 66 6 (.slice (some ⟨b, 0, none⟩) m d) m (lnsC xs), blk kb (keyC k) 61] [Sl legR (.slice u.s.A u.s.n u.s.c) u.ls, LnF xs] w2 := Hp.lnAt H2 (xs := xs) hum
  obtain ⟨hn, hc, hc2⟩ := H2.sll (A := u.s.A) (n := u.s.n) (c := u.s.c)
  have hlok := legs_ok (A := u.s.A) (n := u.s.n) (c := u.s.c) H2
  obtain ⟨M', I', h0, hm', hk'⟩ := Hp.call (A := []) (S := [blk p [.slice (some ⟨b, 0, none⟩) m d] 33, row 66 6 (.slice (some ⟨b, 0, none⟩) m d) m (lnsC xs), blk kb (keyC k) 61]) (G := [Sl legR (.slice u.s.A u.s.n u.s.c) u.ls, LnF xs]) H2 fun I ha => ha
  have hM := hm' rfl
  have over : ∀ w', negGo 0 u.ls = false → Hp ⟨w2, M', I'⟩ [] [] w' →
      ∃ a : RR, Value.int .i64 12 = .int .i64 a.c ∧ revROk ⟨some ⟨b, 0, none⟩, m, d⟩ xs k a ∧ Hp ⟨w, M, I⟩ (refA p a.s a.xs) [LnF a.xs] w' := fun w' e hw => by
    have hz : Hp ⟨w, M, I⟩ [blk p [.slice (some ⟨b, 0, none⟩) m d] 33, row 66 6 (.slice (some ⟨b, 0, none⟩) m d) m (lnsC xs), blk kb (keyC k) 61] [Sl legR (.slice u.s.A u.s.n u.s.c) u.ls, LnF xs] w' := hk' [] [] w' hw
    refine ⟨⟨12, ⟨some ⟨b, 0, none⟩, m, d⟩, xs⟩, rfl, ?_, Hp.keep hz⟩
    unfold revROk
    rw [if_neg q]
    refine ⟨u, hu, ?_⟩
    rw [if_pos e]
  refine load_rule tok H2 (v := keyV k) rfl ?_
  refine alloc_as tok h0 zeroC rfl rfl rfl fun o w3 H3 => ?_
  refine store_as tok H3 (entC k none 0 0) rfl rfl rfl rfl rfl fun w4 H4 => ?_
  have F4 : Hp ⟨w, M, I⟩ [blk o (entC k none 0 0) 64, blk p [.slice (some ⟨b, 0, none⟩) m d] 33, row 66 6 (.slice (some ⟨b, 0, none⟩) m d) m (lnsC xs), blk kb (keyC k) 61] [Sl legR (.slice u.s.A u.s.n u.s.c) u.ls, LnF xs, Sl legR (.slice u.s.A u.s.n u.s.c) u.ls, LnF xs] w4 := hk' _ _ w4 H4
  refine load_rule tok F4 (v := .slice (some ⟨b, 0, none⟩) m d) rfl ?_
  refine idx_own tok rfl rfl q0 (by omega) ?_
  refine row_ld (n := m) (c := d) tok F4 (v := .slice u.s.A u.s.n u.s.c) (lnsR_legs hu) ?_
  have H4' : Hp ⟨w2, M', I'⟩ [row 128 2 (.slice none 0 0) 0 (legsC ((u.ls.take 0).map negL)), blk o (entC k none 0 0) 64] [Sl legR (.slice u.s.A u.s.n u.s.c) u.ls, LnF xs] w4 := (Hp.nil H4 128 2)
  refine loop_rule tok (σ := Nat × Int × SV) 576460751766556304 (fun t => [(7, .int .i64 t.2.1), (29, .int .i64 t.1)])
    (fun t w' => t.1 ≤ u.ls.length ∧ t.2.2.n = t.1 ∧ inK .i64 t.2.1 ∧ negGo 0 u.ls = negGo t.2.1 (u.ls.drop t.1) ∧ (∀ y, y ∈ u.ls.take t.1 → y.amt ≠ -9223372036854775808) ∧ Hp ⟨w2, M', I'⟩ [row 128 2 (.slice t.2.2.A t.2.2.n t.2.2.c) t.2.2.n (legsC ((u.ls.take t.1).map negL)), blk o (entC k t.2.2.A t.2.2.n t.2.2.c) 64] [Sl legR (.slice u.s.A u.s.n u.s.c) u.ls, LnF xs] w') (fun t => u.ls.length - t.1) (0, 0, ⟨none, 0, 0⟩) rfl rfl ⟨rfl, rfl, trivial⟩
    ⟨Nat.zero_le _, rfl, ⟨by simp [kLo], by simp [kHi]⟩, rfl, (fun y hy => by cases hy), H4'⟩ ?_
  rintro ⟨i, sm, A1, n1, c1⟩ j w5 ⟨hi, hn1, hin, hg, hmn, H5⟩
  simp only at hi hn1 hin hg hmn H5
  subst hn1
  refine brd (fun h => ?_) (fun h => ?_)
  · have h : (n1 : Int) < u.s.n := h
    have hil : n1 < u.ls.length := by omega
    obtain ⟨g, hgg⟩ : ∃ g, u.ls[n1]? = some g := ⟨_, List.getElem?_eq_getElem hil⟩
    have hdg : u.ls.drop n1 = g :: u.ls.drop (n1 + 1) := by
      rw [List.drop_eq_getElem_cons hil]
      rw [List.getElem?_eq_getElem hil] at hgg
      rw [Option.some.inj hgg]
    have hg3 := (hlok g (List.mem_of_getElem? hgg)).2
    have hg4 : -9223372036854775808 ≤ g.amt ∧ g.amt ≤ 9223372036854775807 := hg3
    have hj64 : Value.int .i64 (IntKind.i64.wrap (n1 + 1)) = .int .i64 ((n1 + 1 : Nat) : Int) := by rw [w64 (by omega) (by omega)]; rfl
    rw [hdg, negGo] at hg
    refine idx_rule tok H5 (r := legR) (A := u.s.A) (n := u.s.n) (c := u.s.c) rfl rfl rfl (show (0 : Int) ≤ (n1 : Int) by omega) h fun pb po g' hg' H6 => ?_
    have eg : g' = g := Option.some.inj ((show u.ls[n1]? = some g' by simpa using hg').symm.trans hgg)
    subst eg
    refine ldp_rule tok H6 rfl rfl rfl fun _ _ H7 => ?_
    refine alloc_as tok H7 [.int .u8 0, .int .i64 0] rfl rfl rfl fun y w8 H8 => ?_
    refine store_as tok H8 [.int .u8 g'.acct, .int .i64 g'.amt] rfl rfl rfl rfl rfl fun w9 H9 => ?_
    refine load_rule tok H9 (v := .int .i64 g'.amt) rfl ?_
    refine br (fun q1 => ?_) (fun q1 => ?_)
    · have q1 : (g'.amt == -9223372036854775808) = true := q1
      have q1 : g'.amt = -9223372036854775808 := by simpa using q1
      exact over _ (by rw [hg, decide_eq_true q1]; rfl) (Hp.keep H9)
    have q1 : (g'.amt == -9223372036854775808) = false := q1
    have q1 : ¬ g'.amt = -9223372036854775808 := by simpa using q1
    have ew : IntKind.i64.wrap (0 - g'.amt) = -g'.amt := by rw [w64 (by omega) (by omega)]; omega
    have hn3 : inK .i64 (-g'.amt) := ⟨by show -9223372036854775808 ≤ -g'.amt; omega, by show -g'.amt ≤ 9223372036854775807; omega⟩
    refine load_rule tok H9 (v := .int .i64 g'.amt) rfl ?_
    rcases (show in64 (sm + -g'.amt) = true ∨ in64 (sm + -g'.amt) = false by cases in64 (sm + -g'.amt) <;> simp) with en | en
    · have en' := en
      simp only [in64, Bool.and_eq_true, decide_eq_true_eq] at en'
      have hadd : ∀ w M I, Hp ⟨w, M, I⟩ [] [] w → Ctr Tryz.prog 55 [.int .i64 sm, .int .i64 (IntKind.i64.wrap (0 - g'.amt))] w M I (fun _ : Unit => .tuple #[.int .i64 (sm + -g'.amt), .bool true]) (fun _ => True) (fun _ => []) (fun _ => []) := fun w M I h => by
        rw [ew]; exact (addR_ok en).symm ▸ addRef sm (-g'.amt) hin hn3 w M I h
      refine call_rule H9 (fun M I _ h => hadd _ M I h) fun _ w11 _ H11 => ?_
      refine load_rule tok H11 (v := .slice A1 n1 c1) rfl ?_
      refine load_rule tok H11 (v := .int .u8 g'.acct) rfl ?_
      refine load_rule tok H11 (v := .int .i64 g'.amt) rfl ?_
      refine slice_as tok H11 [.int .u8 g'.acct, .int .i64 (IntKind.i64.wrap (0 - g'.amt))] rfl rfl rfl rfl rfl rfl fun gb w12 H12 => ?_
      refine append_rule (v := .slice A1 n1 c1) (b := gb) (m := 1) (c := 1) tok H12 rfl rfl rfl rfl rfl rfl rfl rfl (by show (n1 + 1) * 16 ≤ _; omega) (by omega) fun A2 c2 w13 H13 => ?_
      refine store_as tok H13 (entC k A2 (n1 + 1) c2) rfl rfl rfl rfl rfl fun w14 H14 => ?_
      have e : legsC ((u.ls.take (n1 + 1)).map negL) = legsC ((u.ls.take n1).map negL) ++ [.int .u8 g'.acct, .int .i64 (IntKind.i64.wrap (0 - g'.amt))] := by
        rw [List.take_add_one, hgg, List.map_append, legsC_app, ew]; rfl
      have H15 : Hp ⟨w2, M', I'⟩ [row 128 2 (.slice A2 (n1 + 1) c2) (n1 + 1) (legsC ((u.ls.take n1).map negL) ++ [.int .u8 g'.acct, .int .i64 (IntKind.i64.wrap (0 - g'.amt))]), blk o (entC k A2 (n1 + 1) c2) 64] [Sl legR (.slice u.s.A u.s.n u.s.c) u.ls, LnF xs] w14 := H14.keep
      rw [← e] at H15
      refine Exists.intro (n1 + 1, sm + -g'.amt, ⟨A2, n1 + 1, c2⟩) (And.intro ⟨rfl, hj64, trivial⟩ (And.intro ?_ ⟨?_, rfl, ⟨en'.1, en'.2⟩, ?_, ?_, H15⟩))
      · simp only; omega
      · simp only; omega
      · rw [hg, decide_eq_false q1, en]; rfl
      · intro y hy
        simp only at hy
        rw [List.take_add_one, hgg] at hy
        rcases List.mem_append.1 hy with hy | hy
        · exact hmn y hy
        · simp only [Option.toList_some, List.mem_singleton] at hy
          rw [hy]; exact q1
    · have hadd : ∀ w M I, Hp ⟨w, M, I⟩ [] [] w → Ctr Tryz.prog 55 [.int .i64 sm, .int .i64 (IntKind.i64.wrap (0 - g'.amt))] w M I (fun _ : Unit => .tuple #[.int .i64 0, .bool false]) (fun _ => True) (fun _ => []) (fun _ => []) := fun w M I h => by
        rw [ew]; exact (addR_no en).symm ▸ addRef sm (-g'.amt) hin hn3 w M I h
      refine call_rule H9 (fun M I _ h => hadd _ M I h) fun _ w11 _ H11 => ?_
      exact over _ (by rw [hg, decide_eq_false q1, en]; rfl) (Hp.keep H11)
  · have h : ¬ (n1 : Int) < u.s.n := h
    have e1 : u.ls.take n1 = u.ls := List.take_of_length_le (by omega)
    have e2 : negGo 0 u.ls = true := by rw [hg, List.drop_eq_nil_of_le (by omega)]; rfl
    rw [e1] at H5 hmn
    have H6 := frzLegsRow H5 (v := .slice A1 n1 c1) (u.ls.map negL) hM fun y hy => by
      obtain ⟨z, hz, rfl⟩ := List.mem_map.1 hy
      have h1 := (hlok z hz).1
      have h2 : -9223372036854775808 ≤ z.amt ∧ z.amt ≤ 9223372036854775807 := (hlok z hz).2
      have h3 := hmn z hz
      exact ⟨h1, by show -9223372036854775808 ≤ -z.amt; omega, by show -z.amt ≤ 9223372036854775807; omega⟩
    have H7 : Hp ⟨w2, M', I'⟩ [blk o (entC k A1 n1 c1) 64] [Sl legR (.slice A1 n1 c1) (u.ls.map negL), LnF xs] w5 := H6.keep
    have F7 : Hp ⟨w, M, I⟩ [blk o (entC k A1 n1 c1) 64, blk p [.slice (some ⟨b, 0, none⟩) m d] 33, row 66 6 (.slice (some ⟨b, 0, none⟩) m d) m (lnsC xs), blk kb (keyC k) 61] [Sl legR (.slice A1 n1 c1) (u.ls.map negL), LnF xs, Sl legR (.slice u.s.A u.s.n u.s.c) u.ls, LnF xs] w5 := hk' _ _ w5 H7
    have hof : IntKind.i64.wrap (liveGo k xs 0 (-1) + 1) = liveGo k xs 0 (-1) + 1 := w64 (by omega) (by omega)
    have hok2 : LnsOk (xs ++ [Ln.mk k ⟨A1, n1, c1⟩ (IntKind.i64.wrap (liveGo k xs 0 (-1) + 1)) (u.ls.map negL)]) := by
      refine ⟨by rw [List.length_append]; simp; omega, fun y hy => ?_⟩
      rcases List.mem_append.1 hy with hy | hy
      · exact hok.2 y hy
      · rw [List.mem_singleton] at hy
        subst hy
        have := hok.1
        exact ⟨⟨by simp only [hof]; omega, by simp only [hof]; omega⟩, hk, by simp only [List.length_map]; exact hul⟩
    refine load_rule tok F7 (v := .agg #[.int .u32 k.loan, .int .i32 k.day, .int .u8 k.kind, .int .u32 k.seq, .slice A1 n1 c1]) rfl ?_
    refine call_rule F7 (fun M I _ h => addRefL p ⟨some ⟨b, 0, none⟩, m, d⟩ xs hsn k A1 n1 c1 (u.ls.map negL) (IntKind.i64.wrap (liveGo k xs 0 (-1) + 1)) hok2 _ M I h) fun a w8 ha H8 => ?_
    have okk : revROk ⟨some ⟨b, 0, none⟩, m, d⟩ xs k a := by
      unfold revROk
      rw [if_neg q]
      refine ⟨u, hu, ?_⟩
      rw [if_neg (by rw [e2]; simp)]
      refine ⟨⟨A1, n1, c1⟩, ?_⟩
      rw [← hof]; exact ha
    exact Exists.intro a (And.intro rfl (And.intro okk (Hp.keep H8)))
end Go.Proofs.YtfemfomgmopibaaGreatDoor
namespace Go.Proofs.YtfemfomgmopibaaGreatDoor
open Go Go.Proofs Go.Wk
theorem rightGo_rise : ∀ {ls : List Leg} {s last : Int}, rightGo s last ls = true → (∀ x, x ∈ ls → last < x.acct) ∧ rise ls
  | [], _, _, _ => ⟨(fun x h => by cases h), List.Pairwise.nil⟩
  | x :: r, s, last, h => by
    obtain ⟨_, h2, h3⟩ := go_step h
    obtain ⟨h4, h5⟩ := rightGo_rise h3
    refine ⟨fun y hy => ?_, List.pairwise_cons.2 ⟨fun y hy => h4 y hy, h5⟩⟩
    rcases List.mem_cons.1 hy with rfl | hy
    · exact h2
    · have := h4 y hy; omega
theorem rightB_rise {k : Key} {ls : List Leg} (h : rightB k ls = true) : rise ls := (rightGo_rise (rightB_go h)).2
/-- How much a list has of an account: the first. -/
def amtOf (a : Int) : List Leg → Option Int
  | [] => none
  | g :: r => if g.acct = a then some g.amt else amtOf a r
theorem amtOf_none {a : Int} : ∀ {ls : List Leg}, (∀ x, x ∈ ls → x.acct ≠ a) → amtOf a ls = none
  | [], _ => rfl
  | g :: r, h => by rw [amtOf, if_neg (h g List.mem_cons_self), amtOf_none fun x hx => h x (List.mem_cons_of_mem _ hx)]
theorem amtOf_mem {g : Leg} : ∀ {ls : List Leg}, rise ls → g ∈ ls → amtOf g.acct ls = some g.amt
  | [], _, h => by cases h
  | x :: r, hr, h => by
    have hr' := List.pairwise_cons.1 hr
    rcases List.mem_cons.1 h with rfl | h
    · rw [amtOf, if_pos rfl]
    · rw [amtOf, if_neg (by have := hr'.1 g h; omega), amtOf_mem hr'.2 h]
theorem amtOf_some {a v : Int} : ∀ {ls : List Leg}, amtOf a ls = some v → ∃ g, g ∈ ls ∧ g.acct = a ∧ g.amt = v
  | [], h => by cases h
  | g :: r, h => by
    unfold amtOf at h
    split at h
    · rename_i hg
      exact ⟨g, List.mem_cons_self, hg, Option.some.inj h⟩
    · obtain ⟨x, hx, h1, h2⟩ := amtOf_some h
      exact ⟨x, List.mem_cons_of_mem _ hx, h1, h2⟩
theorem legSum_amt {a : Int} : ∀ {ls : List Leg} {s : Int}, rise ls → legSum a ls s = (match amtOf a ls with
    | none => some s
    | some v => if in64 (s + v) = true then some (s + v) else none)
  | [], s, _ => rfl
  | g :: r, s, hr => by
    have hr' := List.pairwise_cons.1 hr
    unfold legSum amtOf
    by_cases hg : g.acct = a
    · rw [if_pos hg, if_pos hg]
      have hn : amtOf a r = none := amtOf_none fun x hx => by have := hr'.1 x hx; omega
      simp only
      rw [legSum_amt hr'.2, hn]
    · rw [if_neg hg, if_neg hg, legSum_amt hr'.2]
def updP (sums : List (Pr × Int)) (loan : Int) (ls : List Leg) (p : Pr) : Option Int :=
  if p.loan = (if p.ctl = true then 0 else loan) then (amtOf p.acct ls).map (getS sums p + ·) else none
theorem nextGo_some {sums : List (Pr × Int)} {loan : Int} : ∀ {ls : List Leg} {nx out : List (Pr × Int)}, rise ls → nextGo sums loan ls nx = some out →
    (∀ g, g ∈ ls → in64 (getS sums ⟨loan, g.acct, false⟩ + g.amt) = true ∧ in64 (getS sums ⟨0, g.acct, true⟩ + g.amt) = true) ∧ ∀ p, lk p out = (updP sums loan ls p).or (lk p nx)
  | [], nx, out, _, h => by
    simp only [nextGo, Option.some.injEq] at h
    subst h
    refine ⟨(fun g h => by cases h), fun p => ?_⟩
    have e : updP sums loan [] p = none := by unfold updP; simp [amtOf]
    rw [e]; rfl
  | g :: r, nx, out, hr, h => by
    have hr' := List.pairwise_cons.1 hr
    unfold nextGo at h
    split at h
    · rename_i hin
      obtain ⟨h1, h2⟩ := nextGo_some hr'.2 h
      refine ⟨fun x hx => ?_, fun p => ?_⟩
      · rcases List.mem_cons.1 hx with rfl | hx
        · exact hin
        · exact h1 x hx
      · rw [h2 p]
        obtain ⟨pl, pa, pc⟩ := p
        have hgr : amtOf g.acct r = none := amtOf_none fun x hx => by have := hr'.1 x hx; omega
        have e : amtOf pa (g :: r) = if g.acct = pa then some g.amt else amtOf pa r := rfl
        unfold updP
        simp only [e]
        by_cases hpa : g.acct = pa
        · subst hpa
          rw [if_pos rfl, hgr]
          cases pc with
          | false =>
            simp only [Bool.false_eq_true, if_false]
            by_cases hl : pl = loan
            · subst hl
              rw [if_pos rfl, if_pos rfl, lk_put_ne (by simp), lk_put_eq]; rfl
            · rw [if_neg hl, if_neg hl, lk_put_ne (by simp), lk_put_ne (by simp [hl])]
          | true =>
            simp only [if_true]
            by_cases hl : pl = 0
            · subst hl
              rw [if_pos rfl, if_pos rfl, lk_put_eq]; rfl
            · rw [if_neg hl, if_neg hl, lk_put_ne (by simp [hl]), lk_put_ne (by simp)]
        · rw [if_neg hpa, lk_put_ne (by simp [Ne.symm hpa]), lk_put_ne (by simp [Ne.symm hpa])]
    · cases h
theorem nextGo_none {sums : List (Pr × Int)} {loan : Int} : ∀ {ls : List Leg} {nx : List (Pr × Int)}, nextGo sums loan ls nx = none →
    ∃ g, g ∈ ls ∧ ¬ (in64 (getS sums ⟨loan, g.acct, false⟩ + g.amt) = true ∧ in64 (getS sums ⟨0, g.acct, true⟩ + g.amt) = true)
  | [], nx, h => by cases h
  | g :: r, nx, h => by
    unfold nextGo at h
    split at h
    · obtain ⟨x, hx, hn⟩ := nextGo_none h
      exact ⟨x, List.mem_cons_of_mem _ hx, hn⟩
    · rename_i hn
      exact ⟨g, List.mem_cons_self, hn⟩
theorem linSum_app {loan a : Int} {all : Bool} {x : Ln} : ∀ {xs : List Ln} {s : Int}, linSum loan all a (xs ++ [x]) s = (match linSum loan all a xs s with
    | none => none
    | some t => if all = false ∧ x.k.loan ≠ loan then some t else legSum a x.ls t)
  | [], s => by
    simp only [List.nil_append, linSum]
    split
    · rfl
    · cases legSum a x.ls s <;> rfl
  | y :: r, s => by
    simp only [List.cons_append, linSum]
    split
    · exact linSum_app
    · cases legSum a y.ls s with
      | none => rfl
      | some t => exact linSum_app
theorem liveGo_app {k : Key} {x : Ln} : ∀ {xs : List Ln} {i o : Int}, liveGo k (xs ++ [x]) i o = liveSt k x (i + xs.length) (liveGo k xs i o)
  | [], i, o => by simp [liveGo]
  | y :: r, i, o => by
    simp only [List.cons_append, liveGo, List.length_cons]
    rw [liveGo_app]
    congr 1
    omega
theorem addChk_iff {loan : Int} {xs : List Ln} : ∀ {ls : List Leg}, addChk loan xs ls = true ↔ ∀ g, g ∈ ls → (linSum loan false g.acct xs 0).isSome = true ∧ (linSum 0 true g.acct xs 0).isSome = true
  | [] => ⟨fun _ g h => (by cases h), fun _ => rfl⟩
  | g :: r => by
    rw [addChk, Bool.and_eq_true, Bool.and_eq_true, addChk_iff]
    constructor
    · rintro ⟨h1, h2, h3⟩ x hx
      rcases List.mem_cons.1 hx with rfl | hx
      · exact ⟨h1, h2⟩
      · exact h3 x hx
    · intro h
      exact ⟨(h g List.mem_cons_self).1, (h g List.mem_cons_self).2, fun x hx => h x (List.mem_cons_of_mem _ hx)⟩
@[reducible] def stp (x : Ln) : Key × Int × List Leg := (x.k, x.of, x.ls)
theorem liveGo_sim {k : Key} : ∀ {xs ys : List Ln} {i o : Int}, xs.map stp = ys.map stp → liveGo k xs i o = liveGo k ys i o
  | [], [], _, _, _ => rfl
  | [], _ :: _, _, _, h => by cases h
  | _ :: _, [], _, _, h => by cases h
  | x :: xs, y :: ys, i, o, h => by
    simp only [List.map_cons, List.cons.injEq, stp, Prod.mk.injEq] at h
    obtain ⟨⟨h1, h2, h3⟩, h4⟩ := h
    rw [liveGo, liveGo, liveGo_sim h4, liveSt, liveSt, h1, h2]
theorem linSum_sim {loan a : Int} {all : Bool} : ∀ {xs ys : List Ln} {s : Int}, xs.map stp = ys.map stp → linSum loan all a xs s = linSum loan all a ys s
  | [], [], _, _ => rfl
  | [], _ :: _, _, h => by cases h
  | _ :: _, [], _, h => by cases h
  | x :: xs, y :: ys, s, h => by
    simp only [List.map_cons, List.cons.injEq, stp, Prod.mk.injEq] at h
    obtain ⟨⟨h1, h2, h3⟩, h4⟩ := h
    unfold linSum
    rw [h1, h3]
    split
    · exact linSum_sim h4
    · cases legSum a y.ls s with
      | none => rfl
      | some t => exact linSum_sim h4
theorem addChk_sim {loan : Int} {xs ys : List Ln} (h : xs.map stp = ys.map stp) : ∀ {ls : List Leg}, addChk loan xs ls = addChk loan ys ls
  | [] => rfl
  | g :: r => by rw [addChk, addChk, linSum_sim h, linSum_sim h, addChk_sim h]
def revs : List Ln → Nat
  | [] => 0
  | x :: r => (if x.of = 0 then 0 else 1) + revs r
theorem revs_app : ∀ {xs ys : List Ln}, revs (xs ++ ys) = revs xs + revs ys
  | [], ys => by simp [revs]
  | x :: xs, ys => by rw [List.cons_append, revs, revs, revs_app]; omega
structure Inv (d : Led) : Prop where
  ok : ∀ x, x ∈ d.lns → (0 ≤ x.of ∧ x.of ≤ d.lns.length) ∧ keyIn x.k ∧ rightB x.k x.ls = true ∧ ∀ g, g ∈ x.ls → legIn g
  nd : (d.live.map (·.1)).Nodup
  live : ∀ k, lk k d.live = if 0 ≤ liveGo k d.lns 0 (-1) then some (liveGo k d.lns 0 (-1)) else none
  at_ : ∀ k, 0 ≤ liveGo k d.lns 0 (-1) → ∃ x, d.lns[(liveGo k d.lns 0 (-1)).toNat]? = some x ∧ x.k = k ∧ x.of = 0
  sumF : ∀ loan a, linSum loan false a d.lns 0 = some (getS d.sums ⟨loan, a, false⟩)
  sumT : ∀ a, linSum 0 true a d.lns 0 = some (getS d.sums ⟨0, a, true⟩)
  in_ : ∀ p, inK .i64 (getS d.sums p)
  back : ∀ (j : Nat) x, d.lns[j]? = some x → x.of ≠ 0 → x.of ≤ j ∧ ∃ y, d.lns[(x.of - 1).toNat]? = some y ∧ y.of = 0 ∧ y.k = x.k
  cnt : d.live.length + 2 * revs d.lns = d.lns.length
theorem inv_nil : Inv ⟨[], [], []⟩ where
  ok := fun x h => by cases h
  nd := List.nodup_nil
  live := fun k => rfl
  at_ := fun k h => absurd h (by show ¬ (0 : Int) ≤ -1; omega)
  sumF := fun _ _ => rfl
  sumT := fun _ => rfl
  in_ := fun p => ⟨by show (-9223372036854775808 : Int) ≤ 0; omega, by show (0 : Int) ≤ 9223372036854775807; omega⟩
  back := fun j x h => by simp at h
  cnt := rfl
/-- The sums behind one more line. -/
theorem add_sums {d : Led} (hI : Inv d) {x : Ln} (hr : rise x.ls) {nx m : List (Pr × Int)} (hn : nextGo d.sums x.k.loan x.ls [] = some nx) (hm : ∀ p, lk p m = (lk p nx).or (lk p d.sums)) :
    (∀ loan a, linSum loan false a (d.lns ++ [x]) 0 = some (getS m ⟨loan, a, false⟩)) ∧ (∀ a, linSum 0 true a (d.lns ++ [x]) 0 = some (getS m ⟨0, a, true⟩)) ∧ ∀ p, inK .i64 (getS m p) := by
  obtain ⟨h1, h2⟩ := nextGo_some hr hn
  have hg : ∀ p, getS m p = ((updP d.sums x.k.loan x.ls p).or (lk p d.sums)).getD 0 := fun p => by
    show (lk p m).getD 0 = _
    rw [hm p, h2 p]
    show (((updP d.sums x.k.loan x.ls p).or none).or (lk p d.sums)).getD 0 = _
    rw [Option.or_none]
  refine ⟨fun loan a => ?_, fun a => ?_, fun p => ?_⟩
  · rw [linSum_app, hI.sumF loan a, hg]
    simp only
    by_cases hl : x.k.loan = loan
    · rw [if_neg (fun h => h.2 hl), legSum_amt hr]
      unfold updP
      simp only [Bool.false_eq_true, if_false]
      rw [if_pos hl.symm]
      cases ha : amtOf a x.ls with
      | none => rfl
      | some v =>
        obtain ⟨g, hg1, hg2, hg3⟩ := amtOf_some ha
        have := (h1 g hg1).1
        rw [hg2, hg3, hl] at this
        simp only [this, if_true]; rfl
    · rw [if_pos ⟨trivial, hl⟩]
      unfold updP
      simp only [Bool.false_eq_true, if_false]
      rw [if_neg (Ne.symm hl)]; rfl
  · rw [linSum_app, hI.sumT a, hg]
    simp only
    rw [if_neg (fun h => by cases h.1), legSum_amt hr]
    unfold updP
    simp only [if_true]
    cases ha : amtOf a x.ls with
    | none => rfl
    | some v =>
      obtain ⟨g, hg1, hg2, hg3⟩ := amtOf_some ha
      have := (h1 g hg1).2
      rw [hg2, hg3] at this
      simp only [this, if_true]; rfl
  · rw [hg]
    cases hu : updP d.sums x.k.loan x.ls p with
    | none => exact hI.in_ p
    | some v =>
      obtain ⟨pl, pa, pc⟩ := p
      have fin : ∀ q : Pr, q.acct = pa → pl = (if pc = true then 0 else x.k.loan) → (∀ g, g ∈ x.ls → g.acct = pa → in64 (getS d.sums ⟨pl, pa, pc⟩ + g.amt) = true) → inK .i64 v := fun q _ hl hq => by
        unfold updP at hu
        simp only at hu
        rw [if_pos hl] at hu
        cases ha : amtOf pa x.ls with
        | none => rw [ha] at hu; cases hu
        | some u =>
          rw [ha] at hu
          simp only [Option.map_some, Option.some.injEq] at hu
          obtain ⟨g, hg1, hg2, hg3⟩ := amtOf_some ha
          have hq := hq g hg1 hg2
          simp only [in64, Bool.and_eq_true, decide_eq_true_eq] at hq
          rw [← hu, ← hg3]
          exact ⟨hq.1, hq.2⟩
      by_cases hl : pl = (if pc = true then 0 else x.k.loan)
      · refine fin ⟨pl, pa, pc⟩ rfl hl fun g hg hga => ?_
        have hq := h1 g hg
        cases pc with
        | false =>
          simp only [Bool.false_eq_true, if_false] at hl
          rw [hl, ← hga]; exact hq.1
        | true =>
          simp only [if_true] at hl
          rw [hl, ← hga]; exact hq.2
      · exfalso
        unfold updP at hu
        simp only at hu
        rw [if_neg hl] at hu
        cases hu
theorem chk_next {d : Led} (hI : Inv d) {x : Ln} (hr : rise x.ls) : addChk x.k.loan (d.lns ++ [x]) x.ls = (nextGo d.sums x.k.loan x.ls []).isSome := by
  have key : ∀ g, g ∈ x.ls → ((linSum x.k.loan false g.acct (d.lns ++ [x]) 0).isSome = true ↔ in64 (getS d.sums ⟨x.k.loan, g.acct, false⟩ + g.amt) = true) ∧ ((linSum 0 true g.acct (d.lns ++ [x]) 0).isSome = true ↔ in64 (getS d.sums ⟨0, g.acct, true⟩ + g.amt) = true) := fun g hg => by
    constructor
    · rw [linSum_app, hI.sumF]
      simp only
      rw [if_neg (fun h => h.2 rfl), legSum_amt hr, amtOf_mem hr hg]
      simp only
      cases in64 (getS d.sums ⟨x.k.loan, g.acct, false⟩ + g.amt) <;> simp
    · rw [linSum_app, hI.sumT]
      simp only
      rw [if_neg (fun h => by cases h.1), legSum_amt hr, amtOf_mem hr hg]
      simp only
      cases in64 (getS d.sums ⟨0, g.acct, true⟩ + g.amt) <;> simp
  cases hn : nextGo d.sums x.k.loan x.ls [] with
  | none =>
    obtain ⟨g, hg, hne⟩ := nextGo_none hn
    show _ = false
    rw [Bool.eq_false_iff]
    intro h
    have h := addChk_iff.1 h g hg
    exact hne ⟨(key g hg).1.1 h.1, (key g hg).2.1 h.2⟩
  | some nx =>
    obtain ⟨h1, _⟩ := nextGo_some hr hn
    exact addChk_iff.2 fun g hg => ⟨(key g hg).1.2 (h1 g hg).1, (key g hg).2.2 (h1 g hg).2⟩
end Go.Proofs.YtfemfomgmopibaaGreatDoor
namespace Go.Proofs.YtfemfomgmopibaaGreatDoor
open Go Go.Proofs Go.Wk
theorem stp_app {xs ys : List Ln} {x y : Ln} (h : xs.map stp = ys.map stp) (hx : stp x = stp y) : (xs ++ [x]).map stp = (ys ++ [y]).map stp := by
  rw [List.map_append, List.map_append, h]
  simp only [List.map_cons, List.map_nil, hx]
theorem live_none {d : Led} (hI : Inv d) {k : Key} : (lk k d.live).isSome = true ↔ 0 ≤ liveGo k d.lns 0 (-1) := by
  rw [hI.live k]
  split <;> simp_all
theorem len_put_new {κ ν : Type} [DecidableEq κ] {k : κ} {v : ν} : ∀ {l : List (κ × ν)}, lk k l = none → (putL k v l).length = l.length + 1
  | [], _ => rfl
  | q :: l, h => by
    unfold lk at h
    split at h
    · cases h
    · rename_i hq
      unfold putL
      rw [if_neg hq, List.length_cons, List.length_cons, len_put_new h]
theorem len_del {κ ν : Type} [DecidableEq κ] {k : κ} {v : ν} : ∀ {l : List (κ × ν)}, lk k l = some v → (delL k l).length + 1 = l.length
  | [], h => by cases h
  | q :: l, h => by
    unfold lk at h
    unfold delL
    split at h
    · rename_i hq
      rw [if_pos hq, List.length_cons]
    · rename_i hq
      rw [if_neg hq, List.length_cons, List.length_cons, len_del h]
theorem del_sub {κ ν : Type} [DecidableEq κ] {k : κ} : ∀ {l : List (κ × ν)}, (delL k l).Sublist l
  | [] => List.Sublist.slnil
  | q :: l => by
    unfold delL
    split
    · exact List.sublist_cons_self _ _
    · exact del_sub.cons_cons _
theorem lk_del {κ ν : Type} [DecidableEq κ] {k p : κ} : ∀ {l : List (κ × ν)}, (l.map (·.1)).Nodup → lk p (delL k l) = if p = k then none else lk p l
  | [], _ => by simp [delL, lk]
  | q :: l, h => by
    simp only [List.map_cons, List.nodup_cons] at h
    unfold delL
    by_cases hq : q.1 = k
    · rw [if_pos hq]
      by_cases hp : p = k
      · rw [if_pos hp]
        refine lk_nokey ?_
        rw [hp, ← hq]; exact h.1
      · rw [if_neg hp]
        show _ = (if q.1 = p then some q.2 else lk p l)
        rw [if_neg (by rw [hq]; exact Ne.symm hp)]
    · rw [if_neg hq]
      show (if q.1 = p then some q.2 else lk p (delL k l)) = if p = k then none else (if q.1 = p then some q.2 else lk p l)
      rw [lk_del h.2]
      by_cases hp : p = k
      · rw [if_pos hp, if_pos hp, if_neg (by rw [hp]; exact hq)]
      · rw [if_neg hp, if_neg hp]
theorem get_app {xs : List Ln} {x y : Ln} {j : Nat} (h : xs[j]? = some y) : (xs ++ [x])[j]? = some y := by
  obtain ⟨hj, _⟩ := List.getElem?_eq_some_iff.1 h
  rw [List.getElem?_append_left hj]; exact h
theorem get_app_inv {xs : List Ln} {x y : Ln} {j : Nat} (h : (xs ++ [x])[j]? = some y) : xs[j]? = some y ∨ (j = xs.length ∧ y = x) := by
  rcases Nat.lt_or_ge j xs.length with hj | hj
  · rw [List.getElem?_append_left hj] at h
    exact .inl h
  · rw [List.getElem?_append_right hj] at h
    have hz : j - xs.length = 0 := by
      have := (List.getElem?_eq_some_iff.1 h).1
      simpa using this
    rw [hz] at h
    simp only [List.getElem?_cons_zero, Option.some.injEq] at h
    exact .inr ⟨by omega, h.symm⟩
/-- Behind an entry that is posted. -/
theorem inv_post {d : Led} (hI : Inv d) {k : Key} {sv : SV} {ls : List Leg} (hk : keyIn k) (hl : ∀ g, g ∈ ls → legIn g) (hr : rightB k ls = true) (hv : lk k d.live = none) {nx m : List (Pr × Int)} (hn : nextGo d.sums k.loan ls [] = some nx) (hm : ∀ p, lk p m = (lk p nx).or (lk p d.sums)) :
    Inv ⟨d.lns ++ [⟨k, sv, 0, ls⟩], putL k (d.lns.length : Int) d.live, m⟩ := by
  have hv' : liveGo k d.lns 0 (-1) < 0 := by
    have := live_none hI (k := k)
    rw [hv] at this
    simp at this
    omega
  obtain ⟨s1, s2, s3⟩ := add_sums hI (x := ⟨k, sv, 0, ls⟩) (rightB_rise hr) hn hm
  have hlv : ∀ q, liveGo q (d.lns ++ [⟨k, sv, 0, ls⟩]) 0 (-1) = if k = q then (d.lns.length : Int) else liveGo q d.lns 0 (-1) := fun q => by
    rw [liveGo_app, liveSt, if_pos rfl, Int.zero_add]
  refine ⟨fun x hx => ?_, nodup_put hI.nd, fun q => ?_, fun q hq => ?_, s1, s2, s3, fun j x hx ho => ?_, ?_⟩
  · rw [List.length_append]
    rcases List.mem_append.1 hx with hx | hx
    · obtain ⟨⟨h1, h2⟩, h3, h4, h5⟩ := hI.ok x hx
      exact ⟨⟨h1, by simp only [List.length_cons, List.length_nil]; omega⟩, h3, h4, h5⟩
    · rw [List.mem_singleton] at hx
      subst hx
      exact ⟨⟨Int.le_refl _, by simp only; omega⟩, hk, hr, hl⟩
  · rw [hlv]
    by_cases hq : k = q
    · subst hq
      rw [lk_put_eq, if_pos rfl, if_pos (by omega)]
    · rw [lk_put_ne (Ne.symm hq), if_neg hq]
      exact hI.live q
  · rw [hlv] at hq ⊢
    by_cases hkq : k = q
    · subst hkq
      rw [if_pos rfl]
      exact ⟨⟨k, sv, 0, ls⟩, by simp, rfl, rfl⟩
    · rw [if_neg hkq] at hq ⊢
      obtain ⟨x, h1, h2, h3⟩ := hI.at_ q hq
      exact ⟨x, get_app h1, h2, h3⟩
  · rcases get_app_inv hx with hx | ⟨rfl, rfl⟩
    · obtain ⟨h1, y, h2, h3⟩ := hI.back j x hx ho
      exact ⟨h1, y, get_app h2, h3⟩
    · exact absurd rfl ho
  · show (putL k (d.lns.length : Int) d.live).length + 2 * revs (d.lns ++ [Ln.mk k sv 0 ls]) = (d.lns ++ [Ln.mk k sv 0 ls]).length
    have := hI.cnt
    rw [len_put_new hv, revs_app, List.length_append]
    simp only [revs, List.length_cons, List.length_nil, if_true]
    omega
theorem negGo_turn : ∀ {ls : List Leg} {s last : Int}, inK .i64 s → (∀ x, x ∈ ls → inK .i64 x.amt) → rightGo s last ls = true → negGo (-s) ls = turnGo s ls
  | [], _, _, _, _, _ => rfl
  | x :: r, s, last, hs, ha, h => by
    obtain ⟨h1, _, h3⟩ := go_step h
    have h1' : -9223372036854775808 ≤ s + x.amt ∧ s + x.amt ≤ 9223372036854775807 := h1
    have ih := negGo_turn h1 (fun y hy => ha y (List.mem_cons_of_mem _ hy)) h3
    rw [negGo, turnGo, show -s + -x.amt = -(s + x.amt) by omega, ih]
    have e : in64 (-(s + x.amt)) = !decide (s + x.amt = -9223372036854775808) := by
      unfold in64
      by_cases hq : s + x.amt = -9223372036854775808
      · rw [decide_eq_true hq, decide_eq_false (show ¬ -(s + x.amt) ≤ 9223372036854775807 by omega), Bool.and_false]; rfl
      · rw [decide_eq_false hq, decide_eq_true (show -9223372036854775808 ≤ -(s + x.amt) by omega), decide_eq_true (show -(s + x.amt) ≤ 9223372036854775807 by omega)]; rfl
    rw [e]
theorem turnGo_ne : ∀ {ls : List Leg} {s : Int}, turnGo s ls = true → ∀ x, x ∈ ls → x.amt ≠ -9223372036854775808
  | [], _, _, x, h => by cases h
  | y :: r, s, h, x, hx => by
    intro e
    rw [turn_min hx e] at h
    cases h
/-- Behind a reversal. -/
theorem inv_rev {d : Led} (hI : Inv d) {k : Key} {i : Int} (hv : lk k d.live = some i) {x : Ln} (hx : d.lns[i.toNat]? = some x) (ht : turnGo 0 x.ls = true) {sv : SV} {nx m : List (Pr × Int)} (hn : nextGo d.sums x.k.loan (x.ls.map negL) [] = some nx) (hm : ∀ p, lk p m = (lk p nx).or (lk p d.sums)) :
    Inv ⟨d.lns ++ [⟨x.k, sv, i + 1, x.ls.map negL⟩], delL k d.live, m⟩ ∧ x.k = k := by
  have hi : i = liveGo k d.lns 0 (-1) ∧ 0 ≤ liveGo k d.lns 0 (-1) := by
    have h := hI.live k
    rw [hv] at h
    split at h
    · rename_i h0
      exact ⟨Option.some.inj h, h0⟩
    · cases h
  obtain ⟨rfl, hi0⟩ := hi
  obtain ⟨y, hy1, hy2, hy3⟩ := hI.at_ k hi0
  obtain rfl : y = x := Option.some.inj (hy1.symm.trans hx)
  have hil : (liveGo k d.lns 0 (-1)).toNat < d.lns.length := (List.getElem?_eq_some_iff.1 hx).1
  obtain ⟨_, ok2, ok3, ok4⟩ := hI.ok y (List.mem_of_getElem? hx)
  have hne := turnGo_ne ht
  have hrn : rightB y.k (y.ls.map negL) = true := by rw [rightB_neg (fun g hg => ⟨hne g hg, (ok4 g hg).2⟩) ok3]; exact ht
  refine ⟨?_, hy2⟩
  obtain ⟨s1, s2, s3⟩ := add_sums hI (x := ⟨y.k, sv, liveGo k d.lns 0 (-1) + 1, y.ls.map negL⟩) (rightB_rise hrn) hn hm
  have hlv : ∀ q, liveGo q (d.lns ++ [⟨y.k, sv, liveGo k d.lns 0 (-1) + 1, y.ls.map negL⟩]) 0 (-1) = if q = k then -1 else liveGo q d.lns 0 (-1) := fun q => by
    rw [liveGo_app, liveSt, if_neg (by simp only; omega)]
    have e : liveGo k d.lns 0 (-1) + 1 - 1 = liveGo k d.lns 0 (-1) := by omega
    simp only [e]
    by_cases hq : q = k
    · subst hq
      rw [if_pos rfl, if_pos rfl]
    · rw [if_neg hq, if_neg]
      intro e
      obtain ⟨z, hz1, hz2, _⟩ := hI.at_ q (by omega)
      rw [← e, hx] at hz1
      have := Option.some.inj hz1
      rw [← this, hy2] at hz2
      exact hq hz2.symm
  refine ⟨fun x hx => ?_, hI.nd.sublist (del_sub.map _), fun q => ?_, fun q hq => ?_, s1, s2, s3, fun j z hz ho => ?_, ?_⟩
  · rw [List.length_append]
    rcases List.mem_append.1 hx with hx | hx
    · obtain ⟨⟨h1, h2⟩, h3, h4, h5⟩ := hI.ok x hx
      exact ⟨⟨h1, by simp only [List.length_cons, List.length_nil]; omega⟩, h3, h4, h5⟩
    · rw [List.mem_singleton] at hx
      subst hx
      refine ⟨⟨by simp only; omega, by simp only [List.length_cons, List.length_nil]; omega⟩, ok2, hrn, fun g hg => ?_⟩
      obtain ⟨z, hz, rfl⟩ := List.mem_map.1 hg
      have h1 := (ok4 z hz).1
      have h2 : -9223372036854775808 ≤ z.amt ∧ z.amt ≤ 9223372036854775807 := (ok4 z hz).2
      have h3 := hne z hz
      exact ⟨h1, by show -9223372036854775808 ≤ -z.amt; omega, by show -z.amt ≤ 9223372036854775807; omega⟩
  · rw [hlv, lk_del hI.nd]
    by_cases hq : q = k
    · rw [if_pos hq, if_pos hq, if_neg (by omega)]
    · rw [if_neg hq, if_neg hq]
      exact hI.live q
  · rw [hlv] at hq ⊢
    by_cases hkq : q = k
    · rw [if_pos hkq] at hq
      omega
    · rw [if_neg hkq] at hq ⊢
      obtain ⟨x, h1, h2, h3⟩ := hI.at_ q hq
      exact ⟨x, get_app h1, h2, h3⟩
  · rcases get_app_inv hz with hz | ⟨rfl, rfl⟩
    · obtain ⟨h1, u, h2, h3⟩ := hI.back j z hz ho
      exact ⟨h1, u, get_app h2, h3⟩
    · refine ⟨by simp only; omega, y, ?_, hy3, rfl⟩
      simp only
      rw [show liveGo k d.lns 0 (-1) + 1 - 1 = liveGo k d.lns 0 (-1) by omega]
      exact get_app hx
  · show (delL k d.live).length + 2 * revs (d.lns ++ [Ln.mk y.k sv (liveGo k d.lns 0 (-1) + 1) (y.ls.map negL)]) = (d.lns ++ [Ln.mk y.k sv (liveGo k d.lns 0 (-1) + 1) (y.ls.map negL)]).length
    have h1 := hI.cnt
    have h2 := len_del hv
    rw [revs_app, List.length_append]
    simp only [revs, List.length_cons, List.length_nil]
    rw [if_neg (by omega)]
    omega
/-- What an act leaves: the law, and at most one line more, of a key. -/
structure After (d d' : Led) (k : Key) : Prop where
  inv : Inv d'
  more : ∃ ys, d'.lns = d.lns ++ ys ∧ ys.length ≤ 1 ∧ ∀ y, y ∈ ys → y.k = k
theorem post_after {s : SV} {d : Led} (hI : Inv d) (hs : s.n = d.lns.length) {k : Key} {ls : List Leg} (hk : keyIn k) (hl : ∀ g, g ∈ ls → legIn g) {a : AR} (ha : postOk s d k ls a) : After d a.d k ∧ a.s.n = a.d.lns.length := by
  unfold postOk at ha
  split at ha
  · subst ha; exact ⟨⟨hI, [], by simp⟩, hs⟩
  · rename_i h1
    split at ha
    · obtain ⟨p, rfl⟩ := ha; exact ⟨⟨hI, [], by simp⟩, hs⟩
    · rename_i h2
      split at ha
      · obtain ⟨p, rfl⟩ := ha; exact ⟨⟨hI, [], by simp⟩, hs⟩
      · rename_i nx hn
        obtain ⟨_, h3, h4, ⟨sv, h5⟩, h6⟩ := ha
        obtain ⟨e, s2, lns, lv, sums⟩ := a
        simp only at h3 h4 h5 h6
        subst h4 h5
        refine ⟨⟨inv_post hI hk hl (by simpa using h1) (by simpa using h2) hn h6, _, rfl, by simp, fun y hy => ?_⟩, by simp only [List.length_append, List.length_cons, List.length_nil]; omega⟩
        rw [List.mem_singleton] at hy
        rw [hy]
theorem rev_after {s : SV} {d : Led} (hI : Inv d) (hs : s.n = d.lns.length) {k : Key} {a : AR} (ha : revOk s d k a) : After d a.d k ∧ a.s.n = a.d.lns.length := by
  unfold revOk at ha
  split at ha
  · obtain ⟨p, rfl⟩ := ha; exact ⟨⟨hI, [], by simp⟩, hs⟩
  · rename_i i hv
    obtain ⟨x, hx, ha⟩ := ha
    split at ha
    · subst ha; exact ⟨⟨hI, [], by simp⟩, hs⟩
    · split at ha
      · subst ha; exact ⟨⟨hI, [], by simp⟩, hs⟩
      · rename_i ht
        split at ha
        · obtain ⟨p, rfl⟩ := ha; exact ⟨⟨hI, [], by simp⟩, hs⟩
        · rename_i nx hn
          obtain ⟨_, h3, h4, ⟨sv, h5⟩, h6⟩ := ha
          obtain ⟨e, s2, lns, lv, sums⟩ := a
          simp only at h3 h4 h5 h6
          subst h4 h5
          obtain ⟨q1, q2⟩ := inv_rev hI hv hx (by simpa using ht) (sv := sv) hn h6
          refine ⟨⟨q1, _, rfl, by simp, fun y hy => ?_⟩, by simp only [List.length_append, List.length_cons, List.length_nil]; omega⟩
          rw [List.mem_singleton] at hy
          rw [hy]; exact q2
theorem post_sim {s : SV} {d : Led} (hI : Inv d) {k : Key} {ls : List Leg} (hk : keyIn k) (hl : ∀ g, g ∈ ls → legIn g) {a : AR} (ha : postOk s d k ls a) {rs : SV} {xs : List Ln} (hrs : rs.n = xs.length) (hx : xs.map stp = d.lns.map stp) {sv : SV} {b : RR} (hb : postROk rs xs ⟨k, sv, 0, ls⟩ b) :
    codeOfF a.e = b.c ∧ b.s.n = b.xs.length ∧ b.xs.map stp = a.d.lns.map stp := by
  have hrr := rights k hk.2.2.1 ls fun x hx => (hl x hx).1
  have hlv := live_none hI (k := k)
  have hlg : liveGo k xs 0 (-1) = liveGo k d.lns 0 (-1) := liveGo_sim hx
  unfold postROk at hb
  simp only at hb
  unfold postOk at ha
  by_cases h1 : rightB k ls = false
  · rw [if_pos h1] at ha
    rw [if_pos (by rw [← hrr]; exact h1)] at hb
    subst ha hb
    exact ⟨rfl, hrs, hx⟩
  · rw [if_neg h1] at ha
    rw [if_neg (by rw [← hrr]; exact h1)] at hb
    by_cases h2 : (lk k d.live).isSome = true
    · rw [if_pos h2] at ha
      rw [hlg, if_pos (hlv.1 h2)] at hb
      obtain ⟨p, rfl⟩ := ha
      subst hb
      exact ⟨rfl, hrs, hx⟩
    · rw [if_neg h2] at ha
      rw [hlg, if_neg (fun h => h2 (hlv.2 h))] at hb
      have hch := chk_next hI (x := ⟨k, sv, 0, ls⟩) (rightB_rise (by simpa using h1))
      have hsm : addChk k.loan (xs ++ [⟨k, sv, 0, ls⟩]) ls = addChk k.loan (d.lns ++ [⟨k, sv, 0, ls⟩]) ls := addChk_sim (stp_app hx rfl)
      unfold addROk at hb
      simp only at hb hch
      rw [hsm, hch] at hb
      cases hn : nextGo d.sums k.loan ls [] with
      | none =>
        rw [hn] at ha hb
        obtain ⟨p, rfl⟩ := ha
        rw [if_neg (by simp)] at hb
        subst hb
        exact ⟨rfl, hrs, hx⟩
      | some nx =>
        rw [hn] at ha hb
        obtain ⟨h3, _, _, ⟨sv', h5⟩, _⟩ := ha
        rw [if_pos (show (some nx).isSome = true from rfl)] at hb
        obtain ⟨b1, b2, b3⟩ := hb
        rw [h3, b1, h5, b3, b2, List.length_append, hrs]
        exact ⟨rfl, rfl, stp_app hx rfl⟩
theorem rev_sim {s : SV} {d : Led} (hI : Inv d) {k : Key} {a : AR} (ha : revOk s d k a) {rs : SV} {xs : List Ln} (hrs : rs.n = xs.length) (hx : xs.map stp = d.lns.map stp) {b : RR} (hb : revROk rs xs k b) :
    codeOfF a.e = b.c ∧ b.s.n = b.xs.length ∧ b.xs.map stp = a.d.lns.map stp := by
  have hlg : liveGo k xs 0 (-1) = liveGo k d.lns 0 (-1) := liveGo_sim hx
  have hl := hI.live k
  unfold revROk at hb
  rw [hlg] at hb
  unfold revOk at ha
  by_cases h0 : 0 ≤ liveGo k d.lns 0 (-1)
  · rw [if_pos h0] at hl
    rw [hl] at ha
    obtain ⟨x, hx1, ha⟩ := ha
    rw [if_neg (by omega)] at hb
    obtain ⟨y, hy1, hb⟩ := hb
    have hst : stp y = stp x := by
      have h1 : (xs.map stp)[(liveGo k d.lns 0 (-1)).toNat]? = some (stp y) := by rw [List.getElem?_map, hy1]; rfl
      have h2 : (d.lns.map stp)[(liveGo k d.lns 0 (-1)).toNat]? = some (stp x) := by rw [List.getElem?_map, hx1]; rfl
      rw [hx] at h1
      exact Option.some.inj (h1.symm.trans h2)
    simp only [stp, Prod.mk.injEq] at hst
    obtain ⟨_, _, hls⟩ := hst
    rw [hls] at hb
    obtain ⟨z, hz1, hz2, _⟩ := hI.at_ k h0
    obtain rfl : z = x := Option.some.inj (hz1.symm.trans hx1)
    obtain ⟨_, ok2, ok3, ok4⟩ := hI.ok z (List.mem_of_getElem? hx1)
    rw [if_neg (by rw [ok3]; simp)] at ha
    have hng : negGo 0 z.ls = turnGo 0 z.ls := negGo_turn (s := 0) (last := 0) ⟨by show (-9223372036854775808 : Int) ≤ 0; omega, by show (0 : Int) ≤ 9223372036854775807; omega⟩ (fun g hg => (ok4 g hg).2) (rightB_go ok3)
    rw [hng] at hb
    by_cases ht : turnGo 0 z.ls = false
    · rw [if_pos ht] at ha hb
      subst ha hb
      exact ⟨rfl, hrs, hx⟩
    · rw [if_neg ht] at ha hb
      have ht' : turnGo 0 z.ls = true := by simpa using ht
      obtain ⟨sv, hb⟩ := hb
      have hne := turnGo_ne ht'
      have hrn : rightB z.k (z.ls.map negL) = true := by rw [rightB_neg (fun g hg => ⟨hne g hg, (ok4 g hg).2⟩) ok3]; exact ht'
      have hch := chk_next hI (x := ⟨k, sv, liveGo k d.lns 0 (-1) + 1, z.ls.map negL⟩) (rightB_rise hrn)
      have hsm : addChk k.loan (xs ++ [⟨k, sv, liveGo k d.lns 0 (-1) + 1, z.ls.map negL⟩]) (z.ls.map negL) = addChk k.loan (d.lns ++ [⟨k, sv, liveGo k d.lns 0 (-1) + 1, z.ls.map negL⟩]) (z.ls.map negL) := addChk_sim (stp_app hx rfl)
      unfold addROk at hb
      simp only at hb hch
      rw [hsm, hch] at hb
      rw [hz2] at ha
      cases hn : nextGo d.sums k.loan (z.ls.map negL) [] with
      | none =>
        rw [hn] at ha hb
        obtain ⟨p, rfl⟩ := ha
        rw [if_neg (by simp)] at hb
        subst hb
        exact ⟨rfl, hrs, hx⟩
      | some nx =>
        rw [hn] at ha hb
        obtain ⟨h3, _, _, ⟨sv', h5⟩, _⟩ := ha
        rw [if_pos (show (some nx).isSome = true from rfl)] at hb
        obtain ⟨b1, b2, b3⟩ := hb
        rw [h3, b1, h5, b3, b2, List.length_append, hrs]
        exact ⟨rfl, rfl, stp_app hx rfl⟩
  · rw [if_neg h0] at hl
    rw [hl] at ha
    rw [if_pos (by omega)] at hb
    obtain ⟨p, rfl⟩ := ha
    subst hb
    exact ⟨rfl, hrs, hx⟩
end Go.Proofs.YtfemfomgmopibaaGreatDoor
