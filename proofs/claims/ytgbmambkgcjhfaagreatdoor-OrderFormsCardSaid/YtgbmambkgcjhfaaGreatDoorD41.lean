/- An order's bytes: the walk; bytes tell the order. Printed by gen41.py. -/
import Derived.Test.YtgbmambkgcjhfaaGreatDoorD40
set_option linter.unusedVariables false
namespace Go.Proofs.YtgbmambkgcjhfaaGreatDoor
open Go Go.Proofs Go.Wk Go.Pl
/-- quill's text. -/
theorem textQ (q : Nat) (a : SV) (bs : List Nat) (hl : bs.length = a.n) (hn : a.n ≤ 1000) (ts : List Nat) (ht : ts.length ≤ 1000) (hts : ∀ x, x ∈ ts → x < 256) (w : World) (M I : BS) (H : Hp ⟨w, M, I⟩ (quillA q a bs) [] w) :
    Ctr Tryz.prog 44 [.pointer (some ⟨q, 0, none⟩), .string (bsS ts)] w M I (fun _ : SV => .pointer (some ⟨q, 0, none⟩)) (fun b => b.n = a.n + (numB ts.length 0).length + ts.length) (fun b => quillA q b (bs ++ numB ts.length 0 ++ ts)) (fun _ => []) := by
  have hs := bsS_size ts
  have ew : IntKind.u64.wrap (((bsS ts).size : Nat) : Int) = ((ts.length : Nat) : Int) := by rw [hs]; exact wrap_id ⟨by show (0 : Int) ≤ _; omega, by show _ ≤ (18446744073709551615 : Int); omega⟩
  have hnl := numB_len (n := ts.length) (m := 0) (by omega)
  refine Exe.of_ev tok Tryz.call44 Tryz.func44 rfl rfl rfl ?_
  refine call_rule H (fun M I _ h => uint_as q a bs hl (by omega) ts.length _ ew (by omega) _ M I h) fun b w1 hb H1 => ?_
  have hb : b.n = a.n + (numB ts.length 0).length := hb
  refine load_rule tok H1 (v := .slice b.A b.n b.c) rfl ?_
  refine append_str tok H1 (v := .slice b.A b.n b.c) (bsS ts) rfl rfl rfl rfl rfl rfl (by rw [hs]; omega) fun A2 c2 w2 H2 => ?_
  refine store_as tok H2 [.slice A2 (b.n + (bsS ts).size) c2] rfl rfl rfl rfl rfl fun w3 H3 => ?_
  rw [bsS_cells hts, ← byC_app, hs] at H3
  exact Exists.intro ⟨A2, b.n + ts.length, c2⟩ (And.intro rfl (And.intro (by show b.n + ts.length = _; omega) (Hp.keep H3)))
/-- What an order that may be is. -/
theorem od_cases {o : Od} (h : odB o = true) : (o.kind = 1 ∧ tmB o.tm = true ∧ o.ev = ev0) ∨ (o.kind = 2 ∧ evB o.ev = true ∧ o.tm = tm0) ∨ (o.kind = 3 ∧ o.tm = tm0 ∧ o.ev = ⟨o.ev.seq, 0, 0, 0⟩) ∨ (o.kind = 4 ∧ o.tm = tm0 ∧ o.ev = ev0 ∧ o.loan = 0) := by
  unfold odB at h
  cases k1 : (o.kind == 1) with
  | true =>
    rw [k1] at h
    simp only [cond_true, Bool.and_eq_true, evEq_iff] at h
    exact .inl ⟨by simpa using k1, h.1, h.2⟩
  | false =>
    cases k2 : (o.kind == 2) with
    | true =>
      rw [k1, k2] at h
      simp only [cond_true, cond_false, Bool.and_eq_true, tmEq_iff] at h
      exact .inr (.inl ⟨by simpa using k2, h.1, h.2⟩)
    | false =>
      cases k3 : (o.kind == 3) with
      | true =>
        rw [k1, k2, k3] at h
        simp only [cond_true, cond_false, Bool.and_eq_true, tmEq_iff, evEq_iff] at h
        exact .inr (.inr (.inl ⟨by simpa using k3, h.1, h.2⟩))
      | false =>
        cases k4 : (o.kind == 4) with
        | true =>
          rw [k1, k2, k3, k4] at h
          simp only [cond_true, cond_false, Bool.and_eq_true, tmEq_iff, evEq_iff, beq_iff_eq] at h
          exact .inr (.inr (.inr ⟨by simpa using k4, h.1, h.2.1, h.2.2⟩))
        | false =>
          rw [k1, k2, k3, k4] at h
          simp only [cond_false] at h
          cases h
/-- An event that may be. -/
structure EvOk (e : Ev) : Prop where
  kind : 4 ≤ e.kind ∧ e.kind ≤ 7
  day : 0 ≤ e.day ∧ e.day ≤ 3652058
  amt : 0 ≤ e.amt ∧ e.amt ≤ 1000000000000
  pay : e.kind ≠ 7 → 1 ≤ e.amt
  off : e.kind = 7 → e.amt = 0
theorem evB_iff {e : Ev} : evB e = true ↔ EvOk e := by
  unfold evB
  constructor
  · intro h
    cases hk : (e.kind == 4 || (e.kind == 5 || e.kind == 6)) with
    | true =>
      rw [hk] at h
      simp only [cond_true, coinB, dayB, Bool.and_eq_true, decide_eq_true_eq] at h
      simp only [Bool.or_eq_true, beq_iff_eq] at hk
      exact ⟨by omega, by omega, by omega, fun _ => by omega, fun _ => by omega⟩
    | false =>
      rw [hk] at h
      cases k7 : (e.kind == 7) with
      | true =>
        rw [k7] at h
        simp only [cond_true, cond_false, dayB, Bool.and_eq_true, decide_eq_true_eq, beq_iff_eq] at h
        have k7 : e.kind = 7 := by simpa using k7
        exact ⟨by omega, by omega, by omega, fun _ => by omega, fun _ => by omega⟩
      | false =>
        rw [k7] at h
        simp only [cond_false] at h
        cases h
  · intro h
    have h1 := h.kind
    have h2 := h.day
    have h3 := h.amt
    have hd : dayB e.day = true := by simp only [dayB, Bool.and_eq_true, decide_eq_true_eq]; omega
    by_cases k7 : e.kind = 7
    · rw [show (e.kind == 4 || (e.kind == 5 || e.kind == 6)) = false by simp [k7], show (e.kind == 7) = true by simp [k7], hd, h.off k7]
      rfl
    · have hp := h.pay k7
      have hk : (e.kind == 4 || (e.kind == 5 || e.kind == 6)) = true := by
        simp only [Bool.or_eq_true, beq_iff_eq]; omega
      rw [hk, hd]
      simp only [cond_true, coinB, Bool.and_eq_true, decide_eq_true_eq, true_and]
      omega
def odTail (o : Od) : List Nat := if o.kind = 1 then numB (tmBytes o.tm).length 0 ++ tmBytes o.tm else if o.kind = 2 then numB o.ev.seq.toNat 0 ++ numB o.ev.day.toNat 0 ++ numB o.ev.kind.toNat 0 ++ numB o.ev.amt.toNat 0 else if o.kind = 3 then numB o.ev.seq.toNat 0 else []
def odBytes (o : Od) : List Nat := numB o.kind.toNat 0 ++ numB o.loan.toNat 0 ++ odTail o
theorem odTail_lt {o : Od} (h : odB o = true) (hin : OdIn o) : (∀ x, x ∈ odTail o → x < 256) ∧ (odTail o).length ≤ 100 := by
  have hs : 0 ≤ o.ev.seq ∧ o.ev.seq ≤ 4294967295 := hin.ev.seq
  have l1 := numB_lt (n := o.ev.seq.toNat) (m := 0) (by omega) (by omega)
  have n1 := numB_len (n := o.ev.seq.toNat) (m := 0) (by omega)
  unfold odTail
  rcases od_cases h with ⟨k, ht, _⟩ | ⟨k, he, _⟩ | ⟨k, _, _⟩ | ⟨k, _, _, _⟩
  · have hf := tm_fit (tmB_iff.1 ht) hin.tm
    have hl := tmBytes_len hf
    have hb := tmBytes_lt hf
    have l0 := numB_lt (n := (tmBytes o.tm).length) (m := 0) (by omega) (by omega)
    have n0 := numB_len (n := (tmBytes o.tm).length) (m := 0) (by omega)
    rw [if_pos k]
    refine ⟨fun x hx => ?_, by rw [List.length_append]; omega⟩
    rcases List.mem_append.1 hx with hx | hx
    · exact l0 x hx
    · exact hb x hx
  · have ok := evB_iff.1 he
    have h1 := ok.kind
    have h2 := ok.day
    have h3 := ok.amt
    have l2 := numB_lt (n := o.ev.day.toNat) (m := 0) (by omega) (by omega)
    have n2 := numB_len (n := o.ev.day.toNat) (m := 0) (by omega)
    have l3 := numB_lt (n := o.ev.kind.toNat) (m := 0) (by omega) (by omega)
    have n3 := numB_len (n := o.ev.kind.toNat) (m := 0) (by omega)
    have l4 := numB_lt (n := o.ev.amt.toNat) (m := 0) (by omega) (by omega)
    have n4 := numB_len (n := o.ev.amt.toNat) (m := 0) (by omega)
    rw [if_neg (by omega), if_pos k]
    refine ⟨fun x hx => ?_, by simp only [List.length_append]; omega⟩
    simp only [List.mem_append] at hx
    rcases hx with ((hx | hx) | hx) | hx
    · exact l1 x hx
    · exact l2 x hx
    · exact l3 x hx
    · exact l4 x hx
  · rw [if_neg (by omega), if_neg (by omega), if_pos k]
    exact ⟨l1, by omega⟩
  · rw [if_neg (by omega), if_neg (by omega), if_neg (by omega)]
    exact ⟨fun x hx => (by cases hx), by simp⟩
theorem odBytes_lt {o : Od} (h : odB o = true) (hin : OdIn o) : (∀ x, x ∈ odBytes o → x < 256) ∧ (odBytes o).length ≤ 118 ∧ 0 < (odBytes o).length := by
  have hl : 0 ≤ o.loan ∧ o.loan ≤ 4294967295 := hin.loan
  have hk : 0 ≤ o.kind ∧ o.kind ≤ 255 := hin.kind
  have l1 := numB_lt (n := o.kind.toNat) (m := 0) (by omega) (by omega)
  have n1 := numB_len (n := o.kind.toNat) (m := 0) (by omega)
  have l2 := numB_lt (n := o.loan.toNat) (m := 0) (by omega) (by omega)
  have n2 := numB_len (n := o.loan.toNat) (m := 0) (by omega)
  have ht := odTail_lt h hin
  have hp : 0 < (numB o.kind.toNat 0).length := by simp only [numB, List.length_cons]; omega
  unfold odBytes
  refine ⟨fun x hx => ?_, by simp only [List.length_append]; omega, by simp only [List.length_append]; omega⟩
  simp only [List.mem_append] at hx
  rcases hx with (hx | hx) | hx
  · exact l1 x hx
  · exact l2 x hx
  · exact ht.1 x hx
theorem od_ext {o p : Od} (h1 : o.kind = p.kind) (h2 : o.loan = p.loan) (h3 : o.tm = p.tm) (h4 : o.ev = p.ev) : o = p := by
  cases o; cases p
  simp only at h1 h2 h3 h4
  subst h1 h2 h3 h4
  rfl
theorem ev_ext {a b : Ev} (h1 : a.seq = b.seq) (h2 : a.day = b.day) (h3 : a.kind = b.kind) (h4 : a.amt = b.amt) : a = b := by
  cases a; cases b
  simp only at h1 h2 h3 h4
  subst h1 h2 h3 h4
  rfl
theorem odBytes_inj {o p : Od} (ho : odB o = true) (io : OdIn o) (hp : odB p = true) (ip : OdIn p) (e : odBytes o = odBytes p) : o = p := by
  have hk : 0 ≤ o.kind ∧ o.kind ≤ 255 := io.kind
  have hk2 : 0 ≤ p.kind ∧ p.kind ≤ 255 := ip.kind
  have hl : 0 ≤ o.loan ∧ o.loan ≤ 4294967295 := io.loan
  have hl2 : 0 ≤ p.loan ∧ p.loan ≤ 4294967295 := ip.loan
  have hs : 0 ≤ o.ev.seq ∧ o.ev.seq ≤ 4294967295 := io.ev.seq
  have hs2 : 0 ≤ p.ev.seq ∧ p.ev.seq ≤ 4294967295 := ip.ev.seq
  unfold odBytes at e
  simp only [List.append_assoc] at e
  obtain ⟨e1, e⟩ := numI_inj (by omega) (by omega) e
  obtain ⟨e2, e⟩ := numI_inj (by omega) (by omega) e
  unfold odTail at e
  rcases od_cases ho with ⟨k, ht, hv⟩ | ⟨k, he, hv⟩ | ⟨k, hv, he⟩ | ⟨k, hv, he, _⟩ <;> rcases od_cases hp with ⟨k2, ht2, hv2⟩ | ⟨k2, he2, hv2⟩ | ⟨k2, hv2, he2⟩ | ⟨k2, hv2, he2, _⟩ <;> try (exfalso; omega)
  · rw [if_pos k, if_pos k2] at e
    have fa := tm_fit (tmB_iff.1 ht) io.tm
    have fb := tm_fit (tmB_iff.1 ht2) ip.tm
    have la := tmBytes_len fa
    have lb := tmBytes_len fb
    obtain ⟨_, _, e3⟩ := numB_inj (by omega) (by omega) (.inl rfl) (.inl rfl) e
    exact od_ext e1 e2 (tmBytes_inj fa fb e3) (hv.trans hv2.symm)
  · rw [if_neg (by omega), if_pos k, if_neg (by omega), if_pos k2] at e
    have oa := evB_iff.1 he
    have ob := evB_iff.1 he2
    have a1 := oa.kind
    have a2 := oa.day
    have a3 := oa.amt
    have b1 := ob.kind
    have b2 := ob.day
    have b3 := ob.amt
    simp only [List.append_assoc] at e
    obtain ⟨e3, e⟩ := numI_inj (by omega) (by omega) e
    obtain ⟨e4, e⟩ := numI_inj (by omega) (by omega) e
    obtain ⟨e5, e⟩ := numI_inj (by omega) (by omega) e
    obtain ⟨e6, _⟩ := numI_inj (a := o.ev.amt) (b := p.ev.amt) (r := []) (s := []) (by omega) (by omega) (by rw [List.append_nil, List.append_nil]; exact e)
    exact od_ext e1 e2 (hv.trans hv2.symm) (ev_ext e3 e4 e5 e6)
  · rw [if_neg (by omega), if_neg (by omega), if_pos k, if_neg (by omega), if_neg (by omega), if_pos k2] at e
    obtain ⟨e3, _⟩ := numI_inj (a := o.ev.seq) (b := p.ev.seq) (r := []) (s := []) (by omega) (by omega) (by rw [List.append_nil, List.append_nil]; exact e)
    refine od_ext e1 e2 (hv.trans hv2.symm) ?_
    rw [he, he2, e3]
  · exact od_ext e1 e2 (hv.trans hv2.symm) (he.trans he2.symm)
theorem odRightT {o : Od} (h : odB o = true) : CB 13 [odV o] (.bool true) := h ▸ odRight o
theorem odRightF {o : Od} (h : odB o = false) : CB 13 [odV o] (.bool false) := h ▸ odRight o
set_option maxHeartbeats 4000000 in
set_option maxRecDepth 20000 in
theorem odBytesW (o : Od) (hin : OdIn o) (ho : odB o = true) (w : World) (M I : BS) (hM : ∀ b, ¬ M b) (H : Hp ⟨w, M, I⟩ [] [] w) :
    Ctr Tryz.prog 17 [odV o] w M I (fun a : SV => .slice a.A a.n a.c) (fun _ => True) (fun _ => []) (fun a => [Sl byteR (.slice a.A a.n a.c) (odBytes o)]) := by
  have hlt := odBytes_lt ho hin
  have hk : 0 ≤ o.kind ∧ o.kind ≤ 255 := hin.kind
  have hl : 0 ≤ o.loan ∧ o.loan ≤ 4294967295 := hin.loan
  have hs : 0 ≤ o.ev.seq ∧ o.ev.seq ≤ 4294967295 := hin.ev.seq
  have e0 := u64_of (v := o.kind) (by omega) (by omega)
  have e1 := u64_of (v := o.loan) (by omega) (by omega)
  have e2 := u64_of (v := o.ev.seq) (by omega) (by omega)
  have n0 := numB_len (n := o.kind.toNat) (m := 0) (by omega)
  have n1 := numB_len (n := o.loan.toNat) (m := 0) (by omega)
  have n2 := numB_len (n := o.ev.seq.toNat) (m := 0) (by omega)
  have hp0 : 0 < (numB o.kind.toNat 0).length := by simp only [numB, List.length_cons]; omega
  refine Exe.of_ev tok Tryz.call17 Tryz.func17 rfl rfl rfl ?_
  refine box_as H (odC o) rfl fun x w1 H1 => ?_
  refine load_rule tok H1 (v := odV o) rfl ?_
  refine call_rule H1 (fun M I _ h => odRightT ho _ M I h) fun _ w2 _ H2 => ?_
  refine alloc_as tok H2 [.slice none 0 0] rfl rfl rfl fun qu w3 H3 => ?_
  have H3' : Hp ⟨w, M, I⟩ [row 5 1 (.slice none 0 0) 0 [], blk qu [.slice none 0 0] 93, blk x (odC o) 32] [] w3 := (Hp.nil H3 5 1).keep
  have H3 : Hp ⟨w, M, I⟩ [row 5 1 (.slice none 0 0) 0 (byC []), blk qu [.slice none 0 0] 93, blk x (odC o) 32] [] w3 := H3'
  refine draw_rule (A := [blk qu [.slice none 0 0] 93, row 5 1 (.slice none 0 0) 0 (byC [])]) tok tdr H3 [0, 1, 2, 3, 4, 5, 6, 7] [0, 1, 3, 7, 0, 16, 48, 127] rfl ?_
  refine pass_rule _ (fun w h => load_rule tok h (v := .int .u8 o.kind) rfl ⟨rfl, rfl⟩) ?_
  refine imp_rule (fun X wx h => call_rule h (fun M I _ h => uint_as qu ⟨none, 0, 0⟩ [] rfl (by simp only; omega) o.kind.toNat _ e0 (by omega) _ M I h) fun s0 w1 hs0 H1 => imp_done H1 ?_)
  have hs0 : s0.n = 0 + (numB o.kind.toNat 0).length := hs0
  refine pass_rule _ (fun w h => load_rule tok h (v := .int .u32 o.loan) rfl ⟨rfl, rfl⟩) ?_
  refine imp_rule (fun X wx h => call_rule h (fun M I _ h => uint_as qu s0 ([] ++ numB o.kind.toNat 0) (by simp only [List.length_append, List.length_nil]; omega) (by omega) o.loan.toNat _ e1 (by omega) _ M I h) fun s1 w1 hs1 H1 => imp_done H1 ?_)
  have hs1 : s1.n = s0.n + (numB o.loan.toNat 0).length := hs1
  refine done_rule fun w4 H4 => ?_
  have H4 : Hp ⟨w, M, I⟩ [blk qu [.slice s1.A s1.n s1.c] 93, row 5 1 (.slice s1.A s1.n s1.c) s1.n (byC ([] ++ numB o.kind.toNat 0 ++ numB o.loan.toNat 0)), blk x (odC o) 32] [] w4 := H4.keep
  refine load_rule tok H4 (v := evV o.ev) rfl ?_
  refine alloc_as tok H4 (evC ev0) rfl rfl rfl fun y w5 H5 => ?_
  refine store_as tok H5 (evC o.ev) rfl rfl rfl rfl rfl fun w6 H6 => ?_
  have H6 : Hp ⟨w, M, I⟩ [blk qu [.slice s1.A s1.n s1.c] 93, row 5 1 (.slice s1.A s1.n s1.c) s1.n (byC ([] ++ numB o.kind.toNat 0 ++ numB o.loan.toNat 0)), blk y (evC o.ev) 30, blk x (odC o) 32] [] w6 := H6.keep
  refine load_rule tok H6 (v := .int .u8 o.kind) rfl ?_
  have hh : ([] ++ numB o.kind.toNat 0 ++ numB o.loan.toNat 0).length = s1.n := by simp only [List.length_append, List.length_nil]; omega
  refine Or.elim (od_cases ho) (fun c1 => ?_) (fun c => Or.elim c (fun c2 => ?_) (fun c => Or.elim c (fun c3 => ?_) (fun c4 => ?_)))
  · have k := c1.1
    have ht := c1.2.1
    have hf := tm_fit (tmB_iff.1 ht) hin.tm
    have htl := tmBytes_len hf
    have htb := tmBytes_lt hf
    have n3 := numB_len (n := (tmBytes o.tm).length) (m := 0) (by omega)
    refine br (fun _ => ?_) (fun q => absurd (show (o.kind == 1) = false from q) (by rw [k]; decide))
    refine load_rule tok H6 (v := tmV o.tm) rfl ?_
    refine call_rule H6 (fun M I h0 h => tmBytesW o.tm hin.tm ht _ M I (h0 rfl) h) fun p w7 _ H7 => ?_
    refine convSl H7 (A := p.A) (n := p.n) (c := p.c) (bs := tmBytes o.tm) ?_
    refine call_rule H7 (fun M I _ h => textQ qu s1 ([] ++ numB o.kind.toNat 0 ++ numB o.loan.toNat 0) hh (by omega) (tmBytes o.tm) (by omega) htb _ M I h) fun s2 w8 hs2 H8 => ?_
    have hs2 : s2.n = s1.n + (numB (tmBytes o.tm).length 0).length + (tmBytes o.tm).length := hs2
    have hall : ([] ++ numB o.kind.toNat 0 ++ numB o.loan.toNat 0 ++ numB (tmBytes o.tm).length 0 ++ tmBytes o.tm) = odBytes o := by unfold odBytes odTail; rw [if_pos k]; simp only [List.nil_append, List.append_assoc]
    rw [hall] at H8
    refine Exists.elim (H8.rowSome (A := s2.A) (n := s2.n) (c := s2.c) (by omega)) fun b6 hb6 => ?_
    have H6 := frzBytes H8 (v := .slice s2.A s2.n s2.c) (odBytes o) hM hlt.1
    refine call_rule H6 (fun M I _ h => doneE qu s2.A ⟨b6, 0, none⟩ hb6 s2.n s2.c (odBytes o) (by omega) _ M I h) fun r w9 _ H9 => ?_
    exact Exists.intro r (And.intro rfl (And.intro trivial (Hp.keep H9)))
  · have k := c2.1
    have ok := evB_iff.1 c2.2.1
    have a1 := ok.kind
    have a2 := ok.day
    have a3 := ok.amt
    have e3 := u64_of (v := o.ev.day) (by omega) (by omega)
    have e4 := u64_of (v := o.ev.kind) (by omega) (by omega)
    have e5 := u64_of (v := o.ev.amt) (by omega) (by omega)
    have n3 := numB_len (n := o.ev.day.toNat) (m := 0) (by omega)
    have n4 := numB_len (n := o.ev.kind.toNat) (m := 0) (by omega)
    have n5 := numB_len (n := o.ev.amt.toNat) (m := 0) (by omega)
    refine br (fun q => absurd (show (o.kind == 1) = true from q) (by rw [k]; decide)) (fun _ => ?_)
    refine br (fun _ => ?_) (fun q => absurd (show (o.kind == 2) = false from q) (by rw [k]; decide))
    refine draw_rule (A := [blk qu [.slice s1.A s1.n s1.c] 93, row 5 1 (.slice s1.A s1.n s1.c) s1.n (byC ([] ++ numB o.kind.toNat 0 ++ numB o.loan.toNat 0))]) tok tdr H6 [0, 1, 2, 3, 4, 5, 6, 7, 8, 9, 10, 11, 12, 13, 14, 15] [0, 1, 3, 7, 0, 16, 48, 127, 0, 256, 768, 2047, 0, 4096, 12288, 32767] rfl ?_
    refine pass_rule _ (fun w h => load_rule tok h (v := .int .u32 o.ev.seq) rfl ⟨rfl, rfl⟩) ?_
    refine imp_rule (fun X wx h => call_rule h (fun M I _ h => uint_as qu s1 ([] ++ numB o.kind.toNat 0 ++ numB o.loan.toNat 0) (by simp only [List.length_append, List.length_nil] at hh ⊢; omega) (by omega) o.ev.seq.toNat _ e2 (by omega) _ M I h) fun s2 w1 hs2 H1 => imp_done H1 ?_)
    have hs2 : s2.n = s1.n + (numB o.ev.seq.toNat 0).length := hs2
    refine pass_rule _ (fun w h => load_rule tok h (v := .int .i32 o.ev.day) rfl ⟨rfl, rfl⟩) ?_
    refine imp_rule (fun X wx h => call_rule h (fun M I _ h => uint_as qu s2 ([] ++ numB o.kind.toNat 0 ++ numB o.loan.toNat 0 ++ numB o.ev.seq.toNat 0) (by simp only [List.length_append, List.length_nil] at hh ⊢; omega) (by omega) o.ev.day.toNat _ e3 (by omega) _ M I h) fun s3 w1 hs3 H1 => imp_done H1 ?_)
    have hs3 : s3.n = s2.n + (numB o.ev.day.toNat 0).length := hs3
    refine pass_rule _ (fun w h => load_rule tok h (v := .int .u8 o.ev.kind) rfl ⟨rfl, rfl⟩) ?_
    refine imp_rule (fun X wx h => call_rule h (fun M I _ h => uint_as qu s3 ([] ++ numB o.kind.toNat 0 ++ numB o.loan.toNat 0 ++ numB o.ev.seq.toNat 0 ++ numB o.ev.day.toNat 0) (by simp only [List.length_append, List.length_nil] at hh ⊢; omega) (by omega) o.ev.kind.toNat _ e4 (by omega) _ M I h) fun s4 w1 hs4 H1 => imp_done H1 ?_)
    have hs4 : s4.n = s3.n + (numB o.ev.kind.toNat 0).length := hs4
    refine pass_rule _ (fun w h => load_rule tok h (v := .int .i64 o.ev.amt) rfl ⟨rfl, rfl⟩) ?_
    refine imp_rule (fun X wx h => call_rule h (fun M I _ h => uint_as qu s4 ([] ++ numB o.kind.toNat 0 ++ numB o.loan.toNat 0 ++ numB o.ev.seq.toNat 0 ++ numB o.ev.day.toNat 0 ++ numB o.ev.kind.toNat 0) (by simp only [List.length_append, List.length_nil] at hh ⊢; omega) (by omega) o.ev.amt.toNat _ e5 (by omega) _ M I h) fun s5 w1 hs5 H1 => imp_done H1 ?_)
    have hs5 : s5.n = s4.n + (numB o.ev.amt.toNat 0).length := hs5
    refine done_rule fun w8 H8 => ?_
    have hall : ([] ++ numB o.kind.toNat 0 ++ numB o.loan.toNat 0 ++ numB o.ev.seq.toNat 0 ++ numB o.ev.day.toNat 0 ++ numB o.ev.kind.toNat 0 ++ numB o.ev.amt.toNat 0) = odBytes o := by unfold odBytes odTail; rw [if_neg (by omega), if_pos k]; simp only [List.nil_append, List.append_assoc]
    rw [hall] at H8
    refine Exists.elim (H8.rowSome (A := s5.A) (n := s5.n) (c := s5.c) (by omega)) fun b6 hb6 => ?_
    have H6 := frzBytes H8 (v := .slice s5.A s5.n s5.c) (odBytes o) hM hlt.1
    refine call_rule H6 (fun M I _ h => doneE qu s5.A ⟨b6, 0, none⟩ hb6 s5.n s5.c (odBytes o) (by omega) _ M I h) fun r w9 _ H9 => ?_
    exact Exists.intro r (And.intro rfl (And.intro trivial (Hp.keep H9)))
  · have k := c3.1
    refine br (fun q => absurd (show (o.kind == 1) = true from q) (by rw [k]; decide)) (fun _ => ?_)
    refine br (fun q => absurd (show (o.kind == 2) = true from q) (by rw [k]; decide)) (fun _ => ?_)
    refine br (fun _ => ?_) (fun q => absurd (show (o.kind == 3) = false from q) (by rw [k]; decide))
    refine load_rule tok H6 (v := .int .u32 o.ev.seq) rfl ?_
    refine call_rule H6 (fun M I _ h => uint_as qu s1 ([] ++ numB o.kind.toNat 0 ++ numB o.loan.toNat 0) hh (by omega) o.ev.seq.toNat _ e2 (by omega) _ M I h) fun s2 w8 hs2 H8 => ?_
    have hs2 : s2.n = s1.n + (numB o.ev.seq.toNat 0).length := hs2
    have hall : ([] ++ numB o.kind.toNat 0 ++ numB o.loan.toNat 0 ++ numB o.ev.seq.toNat 0) = odBytes o := by unfold odBytes odTail; rw [if_neg (by omega), if_neg (by omega), if_pos k]; rfl
    rw [hall] at H8
    refine Exists.elim (H8.rowSome (A := s2.A) (n := s2.n) (c := s2.c) (by omega)) fun b6 hb6 => ?_
    have H6 := frzBytes H8 (v := .slice s2.A s2.n s2.c) (odBytes o) hM hlt.1
    refine call_rule H6 (fun M I _ h => doneE qu s2.A ⟨b6, 0, none⟩ hb6 s2.n s2.c (odBytes o) (by omega) _ M I h) fun r w9 _ H9 => ?_
    exact Exists.intro r (And.intro rfl (And.intro trivial (Hp.keep H9)))
  · have k := c4.1
    refine br (fun q => absurd (show (o.kind == 1) = true from q) (by rw [k]; decide)) (fun _ => ?_)
    refine br (fun q => absurd (show (o.kind == 2) = true from q) (by rw [k]; decide)) (fun _ => ?_)
    refine br (fun q => absurd (show (o.kind == 3) = true from q) (by rw [k]; decide)) (fun _ => ?_)
    have hall : ([] ++ numB o.kind.toNat 0 ++ numB o.loan.toNat 0) = odBytes o := by unfold odBytes odTail; rw [if_neg (by omega), if_neg (by omega), if_neg (by omega), List.append_nil]; rfl
    rw [hall] at H6
    refine Exists.elim (H6.rowSome (A := s1.A) (n := s1.n) (c := s1.c) (by omega)) fun b6 hb6 => ?_
    have H7 := frzBytes H6 (v := .slice s1.A s1.n s1.c) (odBytes o) hM hlt.1
    refine call_rule H7 (fun M I _ h => doneE qu s1.A ⟨b6, 0, none⟩ hb6 s1.n s1.c (odBytes o) (by omega) _ M I h) fun r w9 _ H9 => ?_
    exact Exists.intro r (And.intro rfl (And.intro trivial (Hp.keep H9)))
theorem odBytesNo (o : Od) (ho : odB o = false) (w : World) (M I : BS) (H : Hp ⟨w, M, I⟩ [] [] w) :
    Ctr Tryz.prog 17 [odV o] w M I (fun _ : Unit => .slice none 0 0) (fun _ => True) (fun _ => []) (fun _ => [Sl byteR (.slice none 0 0) []]) := by
  refine Exe.of_ev tok Tryz.call17 Tryz.func17 rfl rfl rfl ?_
  refine box_as H (odC o) rfl fun x w1 H1 => ?_
  refine load_rule tok H1 (v := odV o) rfl ?_
  refine call_rule H1 (fun M I _ h => odRightF ho _ M I h) fun _ w2 _ H2 => ?_
  exact Exists.intro () (And.intro rfl (And.intro trivial (Hp.keep (H2.slNil byteR))))
end Go.Proofs.YtgbmambkgcjhfaaGreatDoor
