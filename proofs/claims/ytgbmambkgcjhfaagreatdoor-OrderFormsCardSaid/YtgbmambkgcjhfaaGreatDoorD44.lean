/- The document's example of an order; OrderApart and OrderKinds: the walks. Printed by gen44.py. -/
import Derived.Test.YtgbmambkgcjhfaaGreatDoorD43
set_option linter.unusedVariables false
namespace Go.Proofs.YtgbmambkgcjhfaaGreatDoor
open Go Go.Proofs Go.Wk Go.Pl
def awL20 : List UInt8 := [112, 97, 121, 32, 51, 32, 49, 32, 50, 48, 50, 49, 45, 48, 56, 45, 48, 49, 32, 53, 46, 48, 48]
def awO : Od := ⟨2, 3, tm0, ⟨1, numD 2021 8 1, 4, 500⟩⟩
theorem aw20D : Dat 2021 8 1 := datB_iff.1 (by decide)
theorem awOB : odB awO = true := by decide
theorem awOIn : OdIn awO := ⟨⟨by decide, by decide⟩, ⟨by decide, by decide⟩, tm0In, ⟨⟨by decide, by decide⟩, ⟨by decide, by decide⟩, ⟨by decide, by decide⟩, ⟨by decide, by decide⟩⟩⟩
theorem awODat : datL 2021 8 1 = [50, 48, 50, 49, 45, 48, 56, 45, 48, 49] := by simp [datL, padL, Lib.itoa, Lib.decDigits]
theorem awOT : OdT awO (strOf awL20) := by
  refine ⟨_, .inr (.inl ⟨rfl, 2021, 8, 1, aw20D, rfl, rfl⟩), ?_⟩
  congr 1
  have e1 : bsL (kindName awO.ev.kind) = [112, 97, 121] := by decide
  have e2 : Lib.itoa awO.loan = [51] := by simp [awO, Lib.itoa, Lib.decDigits]
  have e3 : Lib.itoa awO.ev.seq = [49] := by simp [awO, Lib.itoa, Lib.decDigits]
  have e4 := awODat
  have e5 : coinL awO.ev.amt = [53, 46, 48, 48] := by simp [awO, coinL, Lib.decDigits]
  unfold odW2
  rw [e1, e2, e3, e4, e5, if_neg (by decide)]
  decide
theorem odReadYes (l : List UInt8) (hs : l.length < 4294967200) (o : Od) (ho : odB o = true) (hin : OdIn o) (ht : OdT o (strOf l)) (w : World) (M I : BS) (hM : ∀ b, ¬ M b) (H : Hp ⟨w, M, I⟩ [] [LibF] w) :
    Ctr Tryz.prog 20 [.string (strOf l)] w M I (fun _ : Unit => .tuple #[odV o, .nilIface]) (fun _ => True) (fun _ => []) (fun _ => []) :=
  (odRead l hs w M I hM H).imp fun a w' hφ hh => by
    rcases hφ with ⟨h1, h2, h3, h4⟩ | ⟨_, _, h3⟩
    · have e : a.1 = o := OdT.inj h2 h3 ho hin h4 ht
      exact ⟨(), by unfold oeV; rw [h1, e]; rfl, trivial, hh⟩
    · exact absurd ht (h3 o ho hin)
theorem odReadNo (l : List UInt8) (hs : l.length < 4294967200) (hno : ¬ ∃ o, odB o = true ∧ OdIn o ∧ OdT o (strOf l)) (w : World) (M I : BS) (hM : ∀ b, ¬ M b) (H : Hp ⟨w, M, I⟩ [] [LibF] w) :
    Ctr Tryz.prog 20 [.string (strOf l)] w M I (fun _ : Unit => .tuple #[odV od0, .iface 55 (.int .i64 15)]) (fun _ => True) (fun _ => []) (fun _ => []) :=
  (odRead l hs w M I hM H).imp fun a w' hφ hh => by
    rcases hφ with ⟨h1, h2, h3, h4⟩ | ⟨h1, h2, _⟩
    · exact absurd ⟨a.1, h2, h3, h4⟩ hno
    · exact ⟨(), by unfold oeV; rw [h1, h2]; rfl, trivial, hh⟩
theorem odTextS (o : Od) (hin : OdIn o) (ho : odB o = true) (s : ByteArray) (hs : OdT o s) (w : World) (M I : BS) (H : Hp ⟨w, M, I⟩ [] [LibF] w) :
    Ctr Tryz.prog 18 [odV o] w M I (fun _ : Unit => .string s) (fun _ => True) (fun _ => []) (fun _ => []) :=
  (odText o hin ho w M I H).imp fun a w' hφ hh => ⟨(), by rw [OdT.uniq hφ hs], trivial, hh⟩
theorem awake20 (w : World) (M I : BS) (hM : ∀ b, ¬ M b) (H : Hp ⟨w, M, I⟩ [] [LibF] w) :
    Ctr Tryz.prog 12 [] w M I (fun _ : Unit => .bool true) (fun _ => True) (fun _ => []) (fun _ => []) := by
  refine Exe.of_ev tok Tryz.call12 Tryz.func12 rfl rfl rfl ?_
  refine call_rule H (fun M I h0 h => odReadYes awL20 (by decide) awO awOB awOIn awOT _ M I (h0 rfl) h) fun _ w1 _ H1 => ?_
  refine alloc_as tok H1 (odC od0) rfl rfl rfl fun b w2 H2 => ?_
  refine store_as tok H2 (odC awO) rfl rfl rfl rfl rfl fun w3 H3 => ?_
  refine load_rule tok H3 (v := .int .u8 2) rfl ?_
  refine load_rule tok H3 (v := .int .u32 3) rfl ?_
  refine load_rule tok H3 (v := .int .i64 500) rfl ?_
  refine load_rule tok H3 (v := odV awO) rfl ?_
  refine call_rule H3 (fun M I h0 h => odTextS awO awOIn awOB (strOf awL20) awOT _ M I h) fun _ w5 _ H7 => ?_
  refine Exists.intro () (And.intro (congrArg Value.bool ?_) (And.intro trivial (Hp.keep H7)))
  show eqS (strOf awL20) (strOf awL20) = true
  exact eqS_self _
/-! OrderApart. -/
theorem byEq20 (a b : Od) : (odB a = true ∧ OdIn a) → (odB b = true ∧ OdIn b) → odEq a b = byEq (odBytes a) (odBytes b) := fun ha hb => by
  by_cases e : a = b
  · subst e
    rw [odEq_iff.2 rfl, byEq_iff.2 rfl]
  · have n1 : odEq a b = false := by
      cases h : odEq a b
      · rfl
      · exact absurd (odEq_iff.1 h) e
    have n2 : byEq (odBytes a) (odBytes b) = false := by
      cases h : byEq (odBytes a) (odBytes b)
      · rfl
      · exact absurd (odBytes_inj ha.1 ha.2 hb.1 hb.2 (byEq_iff.1 h)) e
    rw [n1, n2]
theorem apart_words20 {a b : Od} (ha : odB a = true) (ia : OdIn a) (hb : odB b = true) (ib : OdIn b) {x y : ByteArray} (hx : OdT a x) (hy : OdT b y) : (odEq a b == eqS x y) = true := by
  by_cases e : a = b
  · subst e
    rw [odEq_iff.2 rfl, hx.uniq hy, eqS_self]; rfl
  · have n1 : odEq a b = false := by
      cases h : odEq a b
      · rfl
      · exact absurd (odEq_iff.1 h) e
    have n2 : eqS x y = false := by
      cases h : eqS x y
      · rfl
      · rw [← strOf_of x, ← strOf_of y, eqS_strOf] at h
        have e2 : x = y := by rw [← strOf_of x, of_decide_eq_true h, strOf_of]
        exact absurd (OdT.inj ha ia hb ib hx (e2 ▸ hy)) e
    rw [n1, n2]; rfl
set_option maxHeartbeats 8000000 in
set_option maxRecDepth 20000 in
theorem apartOd (a b : Od) (ha : OdIn a) (hb : OdIn b) (w : World) (M I : BS) (hM : ∀ b, ¬ M b) (H : Hp ⟨w, M, I⟩ [] [LibF] w) :
    Ctr Tryz.prog 3 [odV a, odV b] w M I (fun _ : Unit => .bool true) (fun _ => True) (fun _ => []) (fun _ => []) := by
  refine Exe.of_ev tok Tryz.call3 Tryz.func3 rfl rfl rfl ?_
  refine box_as H (odC a) rfl fun r1 w1 H1 => ?_
  refine box_as H1 (odC b) rfl fun r2 w2 H2 => ?_
  refine call_rule H2 (fun M I h0 h => awake20 _ M I (h0 rfl) h) fun _ w3 _ H3 => ?_
  have H3 : Hp ⟨w, M, I⟩ [blk r2 (odC b) 32, blk r1 (odC a) 32] [LibF] w3 := Hp.keep H3
  refine load_rule tok H3 (v := odV a) rfl ?_
  refine call_rule H3 (fun M I _ h => odRight a _ M I h) fun _ w5 _ H5 => ?_
  have H5 : Hp ⟨w, M, I⟩ [blk r2 (odC b) 32, blk r1 (odC a) 32] [LibF] w5 := Hp.keep H5
  refine br (fun q => ?_) (fun q => ?_)
  · skip
    refine draw_rule (A := []) tok tdr H5 [0, 1, 2, 3, 4, 5, 6, 7, 8, 9, 10, 11, 12, 13, 14] [0, 1, 3, 0, 15, 31, 63, 127, 255, 511, 127, 2047, 4095, 8191, 16383] rfl ?_
    refine pass_rule _ (fun w h => load_rule tok h (v := odV a) rfl ⟨rfl, rfl⟩) ?_
    refine imp_rule (fun X wx h => call_rule h (fun M I _ h => ownOd a ha _ M I h) fun _ w1 _ H1 => imp_done H1 ?_)
    refine imp_rule (fun X wx h => call_rule h (fun M I _ h => refOdRight a ha _ M I h) fun _ w1 _ H1 => imp_done H1 ?_)
    refine pass_rule _ (fun w h => load_rule tok h (v := odV a) rfl ⟨rfl, rfl⟩) ?_
    refine imp_rule (fun X wx h => call_rule h (fun M I _ h => odRight a _ M I h) fun _ w1 _ H1 => imp_done H1 ?_)
    refine br (fun q4 => ?_) (fun q4 => absurd (show (odB a == odB a) = false from q4) (by simp))
    refine pass_rule _ (fun w h => load_rule tok h (v := odV b) rfl ⟨rfl, rfl⟩) ?_
    refine imp_rule (fun X wx h => call_rule h (fun M I _ h => ownOd b hb _ M I h) fun _ w1 _ H1 => imp_done H1 ?_)
    refine imp_rule (fun X wx h => call_rule h (fun M I _ h => refOdRight b hb _ M I h) fun _ w1 _ H1 => imp_done H1 ?_)
    refine pass_rule _ (fun w h => load_rule tok h (v := odV b) rfl ⟨rfl, rfl⟩) ?_
    refine imp_rule (fun X wx h => call_rule h (fun M I _ h => odRight b _ M I h) fun _ w1 _ H1 => imp_done H1 ?_)
    refine done_rule fun w9 H9 => ?_
    refine Exists.intro () (And.intro ?_ (And.intro trivial (Hp.keep H9)))
    show Value.bool (odB b == odB b) = Value.bool true
    rw [show (odB b == odB b) = true by simp]
  have q : (!odB a) = false := q
  have ta : odB a = true := by simpa using q
  refine load_rule tok H5 (v := odV b) rfl ?_
  refine call_rule H5 (fun M I _ h => odRight b _ M I h) fun _ w7 _ H7 => ?_
  have H7 : Hp ⟨w, M, I⟩ [blk r2 (odC b) 32, blk r1 (odC a) 32] [LibF] w7 := Hp.keep H7
  refine br (fun q2 => ?_) (fun q2 => ?_)
  · skip
    refine draw_rule (A := []) tok tdr H7 [0, 1, 2, 3, 4, 5, 6, 7, 8, 9, 10, 11, 12, 13, 14] [0, 1, 3, 0, 15, 31, 63, 127, 255, 511, 127, 2047, 4095, 8191, 16383] rfl ?_
    refine pass_rule _ (fun w h => load_rule tok h (v := odV a) rfl ⟨rfl, rfl⟩) ?_
    refine imp_rule (fun X wx h => call_rule h (fun M I _ h => ownOd a ha _ M I h) fun _ w1 _ H1 => imp_done H1 ?_)
    refine imp_rule (fun X wx h => call_rule h (fun M I _ h => refOdRight a ha _ M I h) fun _ w1 _ H1 => imp_done H1 ?_)
    refine pass_rule _ (fun w h => load_rule tok h (v := odV a) rfl ⟨rfl, rfl⟩) ?_
    refine imp_rule (fun X wx h => call_rule h (fun M I _ h => odRight a _ M I h) fun _ w1 _ H1 => imp_done H1 ?_)
    refine br (fun q4 => ?_) (fun q4 => absurd (show (odB a == odB a) = false from q4) (by simp))
    refine pass_rule _ (fun w h => load_rule tok h (v := odV b) rfl ⟨rfl, rfl⟩) ?_
    refine imp_rule (fun X wx h => call_rule h (fun M I _ h => ownOd b hb _ M I h) fun _ w1 _ H1 => imp_done H1 ?_)
    refine imp_rule (fun X wx h => call_rule h (fun M I _ h => refOdRight b hb _ M I h) fun _ w1 _ H1 => imp_done H1 ?_)
    refine pass_rule _ (fun w h => load_rule tok h (v := odV b) rfl ⟨rfl, rfl⟩) ?_
    refine imp_rule (fun X wx h => call_rule h (fun M I _ h => odRight b _ M I h) fun _ w1 _ H1 => imp_done H1 ?_)
    refine done_rule fun w9 H9 => ?_
    refine Exists.intro () (And.intro ?_ (And.intro trivial (Hp.keep H9)))
    show Value.bool (odB b == odB b) = Value.bool true
    rw [show (odB b == odB b) = true by simp]
  have q2 : (!odB b) = false := q2
  have tb_ : odB b = true := by simpa using q2
  have la := odBytes_lt ta ha
  have lb := odBytes_lt tb_ hb
  have hab := byEq20 a b ⟨ta, ha⟩ ⟨tb_, hb⟩
  refine draw_rule (A := []) tok tdr H7 [3, 4, 5, 6, 7, 0, 1, 2, 8, 9, 13, 14, 15, 16, 10, 11, 12, 17, 18, 19, 20] [0, 0, 3, 0, 8, 0, 56, 120, 255, 511, 1023, 1023, 4095, 1023, 9215, 1023, 58367, 123903, 262143, 524287, 1048575] rfl ?_
  refine pass_rule _ (fun w h => load_rule tok h (v := odV a) rfl ⟨rfl, rfl⟩) ?_
  refine imp_rule (fun X wx h => call_rule h (fun M I h0 h => odBytesW a ha ta _ M I (h0 rfl) h) fun p w1 _ H1 => imp_done H1 ?_)
  refine pass_rule _ (fun w h => load_rule tok h (v := odV b) rfl ⟨rfl, rfl⟩) ?_
  refine imp_rule (fun X wx h => call_rule h (fun M I h0 h => odBytesW b hb tb_ _ M I (h0 rfl) h) fun s w1 _ H1 => imp_done H1 ?_)
  refine imp_rule (fun X wx h => ?_)
  have k1 := h.sll (A := p.A) (n := p.n) (c := p.c)
  have k2 := h.sll (A := s.A) (n := s.n) (c := s.c)
  refine call_rule h (fun M I _ h => sameBytes p.A s.A p.n p.c s.n s.c (odBytes a) (odBytes b) _ M I h ⟨k1.1, by omega⟩ k2.1) fun _ w1 _ H1 => imp_done H1 ?_
  refine pass_rule _ (fun w h => load_rule tok h (v := odV a) rfl ⟨rfl, rfl⟩) ?_
  refine pass_rule _ (fun w h => load_rule tok h (v := odV b) rfl ⟨rfl, rfl⟩) ?_
  refine pass_rule _ (fun w h => eqN_struct tok oksL 3 (r := odEq a b) okS2 rfl guard32 (odEqV a b) ⟨rfl, rfl⟩) ?_
  refine br (fun q4 => ?_) (fun q4 => absurd (show (odEq a b == byEq (odBytes a) (odBytes b)) = false from q4) (by rw [hab]; simp))
  refine pass_rule _ (fun w h => load_rule tok h (v := odV a) rfl ⟨rfl, rfl⟩) ?_
  refine imp_rule (fun X wx h => call_rule h (fun M I _ h => odText a ha ta _ M I h) fun x w1 hx H1 => imp_done H1 ?_)
  refine pass_rule _ (fun w h => load_rule tok h (v := odV b) rfl ⟨rfl, rfl⟩) ?_
  refine imp_rule (fun X wx h => call_rule h (fun M I _ h => odText b hb tb_ _ M I h) fun y w1 hy H1 => imp_done H1 ?_)
  refine pass_rule _ (fun w h => load_rule tok h (v := odV a) rfl ⟨rfl, rfl⟩) ?_
  refine pass_rule _ (fun w h => load_rule tok h (v := odV b) rfl ⟨rfl, rfl⟩) ?_
  refine pass_rule _ (fun w h => eqN_struct tok oksL 3 (r := odEq a b) okS2 rfl guard32 (odEqV a b) ⟨rfl, rfl⟩) ?_
  have hxy := apart_words20 ta ha tb_ hb hx hy
  refine done_rule fun w9 H9 => ?_
  refine Exists.intro () (And.intro ?_ (And.intro trivial (Hp.keep H9)))
  show Value.bool (odEq a b == eqS x y) = Value.bool true
  rw [hxy]
/-! OrderKinds. -/
theorem pre_strOf (a b : List UInt8) : (strOf (a ++ b)).extract 0 a.length = strOf a := by
  rw [ext_strOf, strOf_data]; simp
theorem OdT.pre1 {o : Od} {s : ByteArray} (h : OdT o s) (k : o.kind = 1) : ∃ r, s = strOf ((wBoard ++ [32]) ++ r) := by
  obtain ⟨l, hl, e⟩ := h
  rcases hl with ⟨k, y, m, d, hd, hn, el⟩ | ⟨k, y, m, d, hd, hn, el⟩ | ⟨k, el⟩ | ⟨k, el⟩ <;> try (exfalso; omega)
  rw [e, el, join_cons]
  exact ⟨_, by rw [show ∀ x : List UInt8, (wBoard ++ [32]) ++ x = wBoard ++ 32 :: x from fun x => by simp]⟩
theorem OdT.pre3 {o : Od} {s : ByteArray} (h : OdT o s) (k : o.kind = 3) : ∃ r, s = strOf ((wRev ++ [32]) ++ r) := by
  obtain ⟨l, hl, e⟩ := h
  rcases hl with ⟨k, y, m, d, hd, hn, el⟩ | ⟨k, y, m, d, hd, hn, el⟩ | ⟨k, el⟩ | ⟨k, el⟩ <;> try (exfalso; omega)
  rw [e, el, join_cons]
  exact ⟨_, by rw [show ∀ x : List UInt8, (wRev ++ [32]) ++ x = wRev ++ 32 :: x from fun x => by simp]⟩
theorem OdT.pre4 {o : Od} {s : ByteArray} (h : OdT o s) (k : o.kind = 4) : s = strOf wStep := by
  obtain ⟨l, hl, e⟩ := h
  rcases hl with ⟨k, y, m, d, hd, hn, el⟩ | ⟨k, y, m, d, hd, hn, el⟩ | ⟨k, el⟩ | ⟨k, el⟩ <;> try (exfalso; omega)
  rw [e, el, join_one]
@[reducible] def kSeq (o : Od) (q : Int) : Od := ⟨o.kind, o.loan, o.tm, ⟨q, o.ev.day, o.ev.kind, o.ev.amt⟩⟩
@[reducible] def kTm (o : Od) (t : Tm) : Od := ⟨o.kind, o.loan, t, o.ev⟩
@[reducible] def kLoan (o : Od) (q : Int) : Od := ⟨o.kind, q, o.tm, o.ev⟩
theorem kSeqNo {o : Od} {q : Int} (k : o.kind = 1) (h : 1 ≤ q) : odB (kSeq o q) = false := by
  cases hb : odB (kSeq o q) with
  | false => rfl
  | true =>
    rcases od_cases hb with ⟨_, _, he⟩ | ⟨k', _⟩ | ⟨k', _⟩ | ⟨k', _⟩
    · have e := congrArg Ev.seq he
      have e : q = 0 := e
      omega
    all_goals (have k' : o.kind = _ := k'; omega)
theorem kTmNo {o : Od} {t : Tm} (k : o.kind = 2 ∨ o.kind = 3) (h : t ≠ tm0) : odB (kTm o t) = false := by
  cases hb : odB (kTm o t) with
  | false => rfl
  | true =>
    rcases od_cases hb with ⟨k', _⟩ | ⟨_, _, e⟩ | ⟨_, e, _⟩ | ⟨k', _⟩
    · have k' : o.kind = 1 := k'
      omega
    · exact absurd e h
    · exact absurd e h
    · have k' : o.kind = 4 := k'
      omega
theorem kLoanNo {o : Od} {q : Int} (k : o.kind = 4) (h : 1 ≤ q) : odB (kLoan o q) = false := by
  cases hb : odB (kLoan o q) with
  | false => rfl
  | true =>
    rcases od_cases hb with ⟨k', _⟩ | ⟨k', _⟩ | ⟨k', _⟩ | ⟨_, _, _, e⟩
    · have k' : o.kind = 1 := k'
      omega
    · have k' : o.kind = 2 := k'
      omega
    · have k' : o.kind = 3 := k'
      omega
    · have e : q = 0 := e
      omega
theorem max1 (a : Int) : 1 ≤ (if a < 1 then 1 else a) := by split <;> omega
set_option maxHeartbeats 8000000 in
set_option maxRecDepth 20000 in
theorem kindsOd (o : Od) (loan seq : Int) (t : Tm) (hin : OdIn o) (w : World) (M I : BS) (hM : ∀ b, ¬ M b) (H : Hp ⟨w, M, I⟩ [] [LibF] w) :
    Ctr Tryz.prog 4 [odV o, .int .u32 loan, .int .u32 seq, tmV t] w M I (fun _ : Unit => .bool true) (fun _ => True) (fun _ => []) (fun _ => []) := by
  refine Exe.of_ev tok Tryz.call4 Tryz.func4 rfl rfl rfl ?_
  refine box_as H (odC o) rfl fun x w1 H1 => ?_
  refine box_as H1 (tmC t) rfl fun y w2 H2 => ?_
  refine call_rule H2 (fun M I h0 h => awake20 _ M I (h0 rfl) h) fun _ w3 _ H3 => ?_
  have H3 : Hp ⟨w, M, I⟩ [blk y (tmC t) 28, blk x (odC o) 32] [LibF] w3 := Hp.keep H3
  refine load_rule tok H3 (v := odV o) rfl ?_
  refine Or.elim (show odB o = true ∨ odB o = false by cases odB o <;> simp) (fun ho => ?_) (fun ho => ?_)
  · refine call_rule H3 (fun M I _ h => odRightT ho _ M I h) fun _ w4 _ H4 => ?_
    refine load_rule tok H4 (v := odV o) rfl ?_
    refine alloc_as tok H4 (odC od0) rfl rfl rfl fun p w5 H5 => ?_
    refine store_as tok H5 (odC o) rfl rfl rfl rfl rfl fun w6 H6 => ?_
    have H6 : Hp ⟨w, M, I⟩ [blk p (odC o) 32, blk y (tmC t) 28, blk x (odC o) 32] [LibF] w6 := Hp.keep H6
    refine load_rule tok H6 (v := .int .u8 o.kind) rfl ?_
    refine Or.elim (od_cases ho) (fun c1 => ?_) (fun c => Or.elim c (fun c2 => ?_) (fun c => Or.elim c (fun c3 => ?_) (fun c4 => ?_)))
    · have k := c1.1
      refine br (fun _ => ?_) (fun q => absurd (show (o.kind == 1) = false from q) (by rw [k]; decide))
      refine store_as tok H6 (odC (kSeq o (if seq < 1 then 1 else seq))) rfl rfl rfl rfl rfl fun w7 H7 => ?_
      refine slice_as tok H7 [.string ⟨#[]⟩, .string ⟨#[98, 111, 97, 114, 100, 32]⟩, .string ⟨#[]⟩, .string ⟨#[114, 101, 118, 101, 114, 115, 101, 32]⟩, .string ⟨#[115, 116, 101, 112]⟩] rfl rfl rfl rfl rfl rfl fun g wb Hb => ?_
      have Hb : Hp ⟨w, M, I⟩ [blk g [.string ⟨#[]⟩, .string ⟨#[98, 111, 97, 114, 100, 32]⟩, .string ⟨#[]⟩, .string ⟨#[114, 101, 118, 101, 114, 115, 101, 32]⟩, .string ⟨#[115, 116, 101, 112]⟩] 9, blk p (odC (kSeq o (if seq < 1 then 1 else seq))) 32, blk x (odC o) 32] [LibF] wb := Hb.keep
      refine load_rule tok Hb (v := .int .u8 o.kind) rfl ?_
      refine idx_own tok rfl rfl (by omega) (by omega) ?_
      refine load_rule tok Hb (v := .string ⟨#[98, 111, 97, 114, 100, 32]⟩) (by rw [k]; rfl) ?_
      refine load_rule tok Hb (v := odV o) rfl ?_
      refine call_rule Hb (fun M I _ h => odText o hin ho _ M I h) fun s wc hs Hc => ?_
      have hpre : ∃ r, s = strOf ((wBoard ++ [32]) ++ r) := by
        obtain ⟨r, hr⟩ := hs.pre1 k
        exact ⟨r, hr⟩
      have hsz : 6 ≤ s.size := by
        obtain ⟨r, hr⟩ := hpre
        rw [hr, strOf_size, List.length_append]
        have : (wBoard ++ [32] : List UInt8).length = 6 := by decide
        omega
      have hex : eqS (s.extract 0 6) ⟨#[98, 111, 97, 114, 100, 32]⟩ = true := by
        obtain ⟨r, hr⟩ := hpre
        rw [hr]
        have e := pre_strOf (wBoard ++ [32]) r
        have e2 : (wBoard ++ [32] : List UInt8).length = 6 := by decide
        rw [e2] at e
        rw [e]
        exact eqS_self _
      refine load_rule tok Hc (v := odV (kSeq o (if seq < 1 then 1 else seq))) rfl ?_
      refine call_rule Hc (fun M I _ h => odRightF (kSeqNo k (max1 seq)) _ M I h) fun _ wd _ Hd => ?_
      refine brd (fun _ => ?_) (fun q => absurd (show ((6 : Nat) : Int) ≤ ((s.size : Nat) : Int) from Int.ofNat_le.2 hsz) q)
      refine strH_rule tok rfl (by decide) (by show (((6 : Nat) : Int)) ≤ ((s.size : Nat) : Int); omega) ?_
      refine br (fun _ => ?_) (fun q => absurd (show eqS (s.extract 0 6) ⟨#[98, 111, 97, 114, 100, 32]⟩ = false from q) (by rw [hex]; simp))
      refine load_rule tok Hd (v := .int .u8 o.kind) rfl ?_
      refine br (fun _ => ?_) (fun q => absurd (show (!(o.kind == 4)) = false from q) (by rw [k]; decide))
      exact Exists.intro () (And.intro rfl (And.intro trivial (Hp.keep Hd)))
    · have k := c2.1
      refine br (fun q => absurd (show (o.kind == 1) = true from q) (by rw [k]; decide)) (fun _ => ?_)
      refine br (fun _ => ?_) (fun q => absurd (show (o.kind == 2) = false from q) (by rw [k]; decide))
      refine br (fun _ => ?_) (fun q => absurd (show (o.kind == 2) = false from q) (by rw [k]; decide))
      refine load_rule tok H6 (v := tmV t) rfl ?_
      refine store_as tok H6 (odC (kTm o t)) rfl rfl rfl rfl rfl fun w7 H7 => ?_
      refine load_rule tok H7 (v := tmV t) rfl ?_
      refine eqN_struct tok oksL 2 (r := tmEq t tm0) okS2 rfl guard28 (tmEqV2 t tm0) ?_
      refine br (fun _ => ?_) (fun qt => ?_)
      · exact Exists.intro () (And.intro rfl (And.intro trivial (Hp.keep H7)))
      have qt : tmEq t tm0 = false := qt
      have hne : t ≠ tm0 := fun e => by rw [tmEq_iff.2 e] at qt; cases qt
      refine slice_as tok H7 [.string ⟨#[]⟩, .string ⟨#[98, 111, 97, 114, 100, 32]⟩, .string ⟨#[]⟩, .string ⟨#[114, 101, 118, 101, 114, 115, 101, 32]⟩, .string ⟨#[115, 116, 101, 112]⟩] rfl rfl rfl rfl rfl rfl fun g wb Hb => ?_
      have Hb : Hp ⟨w, M, I⟩ [blk g [.string ⟨#[]⟩, .string ⟨#[98, 111, 97, 114, 100, 32]⟩, .string ⟨#[]⟩, .string ⟨#[114, 101, 118, 101, 114, 115, 101, 32]⟩, .string ⟨#[115, 116, 101, 112]⟩] 9, blk p (odC (kTm o t)) 32, blk x (odC o) 32] [LibF] wb := Hb.keep
      refine load_rule tok Hb (v := .int .u8 o.kind) rfl ?_
      refine idx_own tok rfl rfl (by omega) (by omega) ?_
      refine load_rule tok Hb (v := .string ⟨#[]⟩) (by rw [k]; rfl) ?_
      refine load_rule tok Hb (v := odV o) rfl ?_
      refine call_rule Hb (fun M I _ h => odText o hin ho _ M I h) fun s wc hs Hc => ?_
      have hpre : ∃ r, s = strOf (([]) ++ r) := by
        obtain ⟨r, hr⟩ : ∃ r, s = strOf ([] ++ r) := ⟨bsL s, (strOf_of s).symm⟩
        exact ⟨r, hr⟩
      have hsz : 0 ≤ s.size := by
        obtain ⟨r, hr⟩ := hpre
        rw [hr, strOf_size, List.length_append]
        have : ([] : List UInt8).length = 0 := by decide
        omega
      have hex : eqS (s.extract 0 0) ⟨#[]⟩ = true := by
        obtain ⟨r, hr⟩ := hpre
        rw [hr]
        have e := pre_strOf ([]) r
        have e2 : ([] : List UInt8).length = 0 := by decide
        rw [e2] at e
        rw [e]
        exact eqS_self _
      refine load_rule tok Hc (v := odV (kTm o t)) rfl ?_
      refine call_rule Hc (fun M I _ h => odRightF (kTmNo (.inl k) hne) _ M I h) fun _ wd _ Hd => ?_
      refine strH_rule tok rfl (by decide) (by show (((0 : Nat) : Int)) ≤ ((s.size : Nat) : Int); omega) ?_
      refine br (fun _ => ?_) (fun q => absurd (show eqS (s.extract 0 0) ⟨#[]⟩ = false from q) (by rw [hex]; simp))
      refine load_rule tok Hd (v := .int .u8 o.kind) rfl ?_
      refine br (fun _ => ?_) (fun q => absurd (show (!(o.kind == 4)) = false from q) (by rw [k]; decide))
      exact Exists.intro () (And.intro rfl (And.intro trivial (Hp.keep Hd)))
    · have k := c3.1
      refine br (fun q => absurd (show (o.kind == 1) = true from q) (by rw [k]; decide)) (fun _ => ?_)
      refine br (fun q => absurd (show (o.kind == 2) = true from q) (by rw [k]; decide)) (fun _ => ?_)
      refine br (fun _ => ?_) (fun q => absurd (show (o.kind == 3) = false from q) (by rw [k]; decide))
      refine load_rule tok H6 (v := tmV t) rfl ?_
      refine store_as tok H6 (odC (kTm o t)) rfl rfl rfl rfl rfl fun w7 H7 => ?_
      refine load_rule tok H7 (v := tmV t) rfl ?_
      refine eqN_struct tok oksL 2 (r := tmEq t tm0) okS2 rfl guard28 (tmEqV2 t tm0) ?_
      refine br (fun _ => ?_) (fun qt => ?_)
      · exact Exists.intro () (And.intro rfl (And.intro trivial (Hp.keep H7)))
      have qt : tmEq t tm0 = false := qt
      have hne : t ≠ tm0 := fun e => by rw [tmEq_iff.2 e] at qt; cases qt
      refine slice_as tok H7 [.string ⟨#[]⟩, .string ⟨#[98, 111, 97, 114, 100, 32]⟩, .string ⟨#[]⟩, .string ⟨#[114, 101, 118, 101, 114, 115, 101, 32]⟩, .string ⟨#[115, 116, 101, 112]⟩] rfl rfl rfl rfl rfl rfl fun g wb Hb => ?_
      have Hb : Hp ⟨w, M, I⟩ [blk g [.string ⟨#[]⟩, .string ⟨#[98, 111, 97, 114, 100, 32]⟩, .string ⟨#[]⟩, .string ⟨#[114, 101, 118, 101, 114, 115, 101, 32]⟩, .string ⟨#[115, 116, 101, 112]⟩] 9, blk p (odC (kTm o t)) 32, blk x (odC o) 32] [LibF] wb := Hb.keep
      refine load_rule tok Hb (v := .int .u8 o.kind) rfl ?_
      refine idx_own tok rfl rfl (by omega) (by omega) ?_
      refine load_rule tok Hb (v := .string ⟨#[114, 101, 118, 101, 114, 115, 101, 32]⟩) (by rw [k]; rfl) ?_
      refine load_rule tok Hb (v := odV o) rfl ?_
      refine call_rule Hb (fun M I _ h => odText o hin ho _ M I h) fun s wc hs Hc => ?_
      have hpre : ∃ r, s = strOf ((wRev ++ [32]) ++ r) := by
        obtain ⟨r, hr⟩ := hs.pre3 k
        exact ⟨r, hr⟩
      have hsz : 8 ≤ s.size := by
        obtain ⟨r, hr⟩ := hpre
        rw [hr, strOf_size, List.length_append]
        have : (wRev ++ [32] : List UInt8).length = 8 := by decide
        omega
      have hex : eqS (s.extract 0 8) ⟨#[114, 101, 118, 101, 114, 115, 101, 32]⟩ = true := by
        obtain ⟨r, hr⟩ := hpre
        rw [hr]
        have e := pre_strOf (wRev ++ [32]) r
        have e2 : (wRev ++ [32] : List UInt8).length = 8 := by decide
        rw [e2] at e
        rw [e]
        exact eqS_self _
      refine load_rule tok Hc (v := odV (kTm o t)) rfl ?_
      refine call_rule Hc (fun M I _ h => odRightF (kTmNo (.inr k) hne) _ M I h) fun _ wd _ Hd => ?_
      refine brd (fun _ => ?_) (fun q => absurd (show ((8 : Nat) : Int) ≤ ((s.size : Nat) : Int) from Int.ofNat_le.2 hsz) q)
      refine strH_rule tok rfl (by decide) (by show (((8 : Nat) : Int)) ≤ ((s.size : Nat) : Int); omega) ?_
      refine br (fun _ => ?_) (fun q => absurd (show eqS (s.extract 0 8) ⟨#[114, 101, 118, 101, 114, 115, 101, 32]⟩ = false from q) (by rw [hex]; simp))
      refine load_rule tok Hd (v := .int .u8 o.kind) rfl ?_
      refine br (fun _ => ?_) (fun q => absurd (show (!(o.kind == 4)) = false from q) (by rw [k]; decide))
      exact Exists.intro () (And.intro rfl (And.intro trivial (Hp.keep Hd)))
    · have k := c4.1
      refine br (fun q => absurd (show (o.kind == 1) = true from q) (by rw [k]; decide)) (fun _ => ?_)
      refine br (fun q => absurd (show (o.kind == 2) = true from q) (by rw [k]; decide)) (fun _ => ?_)
      refine br (fun q => absurd (show (o.kind == 3) = true from q) (by rw [k]; decide)) (fun _ => ?_)
      refine store_as tok H6 (odC (kLoan o (if loan < 1 then 1 else loan))) rfl rfl rfl rfl rfl fun w7 H7 => ?_
      refine slice_as tok H7 [.string ⟨#[]⟩, .string ⟨#[98, 111, 97, 114, 100, 32]⟩, .string ⟨#[]⟩, .string ⟨#[114, 101, 118, 101, 114, 115, 101, 32]⟩, .string ⟨#[115, 116, 101, 112]⟩] rfl rfl rfl rfl rfl rfl fun g wb Hb => ?_
      have Hb : Hp ⟨w, M, I⟩ [blk g [.string ⟨#[]⟩, .string ⟨#[98, 111, 97, 114, 100, 32]⟩, .string ⟨#[]⟩, .string ⟨#[114, 101, 118, 101, 114, 115, 101, 32]⟩, .string ⟨#[115, 116, 101, 112]⟩] 9, blk p (odC (kLoan o (if loan < 1 then 1 else loan))) 32, blk x (odC o) 32] [LibF] wb := Hb.keep
      refine load_rule tok Hb (v := .int .u8 o.kind) rfl ?_
      refine idx_own tok rfl rfl (by omega) (by omega) ?_
      refine load_rule tok Hb (v := .string ⟨#[115, 116, 101, 112]⟩) (by rw [k]; rfl) ?_
      refine load_rule tok Hb (v := odV o) rfl ?_
      refine call_rule Hb (fun M I _ h => odText o hin ho _ M I h) fun s wc hs Hc => ?_
      have hpre : ∃ r, s = strOf ((wStep) ++ r) := by
        obtain ⟨r, hr⟩ : ∃ r, s = strOf (wStep ++ r) := ⟨[], by rw [hs.pre4 k]; rfl⟩
        exact ⟨r, hr⟩
      have hsz : 4 ≤ s.size := by
        obtain ⟨r, hr⟩ := hpre
        rw [hr, strOf_size, List.length_append]
        have : (wStep : List UInt8).length = 4 := by decide
        omega
      have hex : eqS (s.extract 0 4) ⟨#[115, 116, 101, 112]⟩ = true := by
        obtain ⟨r, hr⟩ := hpre
        rw [hr]
        have e := pre_strOf (wStep) r
        have e2 : (wStep : List UInt8).length = 4 := by decide
        rw [e2] at e
        rw [e]
        exact eqS_self _
      refine load_rule tok Hc (v := odV (kLoan o (if loan < 1 then 1 else loan))) rfl ?_
      refine call_rule Hc (fun M I _ h => odRightF (kLoanNo k (max1 loan)) _ M I h) fun _ wd _ Hd => ?_
      refine brd (fun _ => ?_) (fun q => absurd (show ((4 : Nat) : Int) ≤ ((s.size : Nat) : Int) from Int.ofNat_le.2 hsz) q)
      refine strH_rule tok rfl (by decide) (by show (((4 : Nat) : Int)) ≤ ((s.size : Nat) : Int); omega) ?_
      refine br (fun _ => ?_) (fun q => absurd (show eqS (s.extract 0 4) ⟨#[115, 116, 101, 112]⟩ = false from q) (by rw [hex]; simp))
      refine load_rule tok Hd (v := .int .u8 o.kind) rfl ?_
      refine br (fun q => absurd (show (!(o.kind == 4)) = true from q) (by rw [k]; decide)) (fun _ => ?_)
      refine Exists.intro () (And.intro (congrArg Value.bool ?_) (And.intro trivial (Hp.keep Hd)))
      show eqS s ⟨#[115, 116, 101, 112]⟩ = true
      rw [hs.pre4 k]
      exact eqS_self _
  · refine call_rule H3 (fun M I _ h => odRightF ho _ M I h) fun _ w4 _ H4 => ?_
    refine load_rule tok H4 (v := odV o) rfl ?_
    refine call_rule H4 (fun M I _ h => odBytesNo o ho _ M I h) fun _ w5 _ H5 => ?_
    refine load_rule tok H5 (v := odV o) rfl ?_
    refine call_rule H5 (fun M I _ h => odTextNo o ho _ M I h) fun _ w6 _ H6 => ?_
    exact Exists.intro () (And.intro (congrArg Value.bool (eqS_self ⟨#[]⟩)) (And.intro trivial (Hp.keep H6)))
end Go.Proofs.YtgbmambkgcjhfaaGreatDoor
