/- The document's ledger: sums: the walks. -/
import Derived.Test.YtfemfomgmopibaaGreatDoorB8
namespace Go.Proofs.YtfemfomgmopibaaGreatDoor
open Go Go.Proofs Go.Wk
def legSum (a : Int) : List Leg → Int → Option Int
  | [], s => some s
  | g :: r, s => if g.acct = a then (if in64 (s + g.amt) = true then legSum a r (s + g.amt) else none) else legSum a r s
def linSum (loan : Int) (all : Bool) (a : Int) : List Ln → Int → Option Int
  | [], s => some s
  | x :: r, s => if all = false ∧ x.k.loan ≠ loan then linSum loan all a r s else (match legSum a x.ls s with
    | none => none
    | some t => linSum loan all a r t)
def sumV : Option Int → Value
  | none => .tuple #[.int .i64 0, .bool false]
  | some s => .tuple #[.int .i64 s, .bool true]
theorem legSum_in {a : Int} : ∀ {ls : List Leg} {s t : Int}, inK .i64 s → legSum a ls s = some t → inK .i64 t
  | [], s, t, h, e => by simp only [legSum, Option.some.injEq] at e; rw [← e]; exact h
  | g :: r, s, t, h, e => by
    unfold legSum at e
    split at e
    · split at e
      · rename_i en
        simp only [in64, Bool.and_eq_true, decide_eq_true_eq] at en
        exact legSum_in ⟨en.1, en.2⟩ e
      · cases e
    · exact legSum_in h e
set_option maxRecDepth 20000 in
set_option maxHeartbeats 1000000 in
theorem sumRef_false (p : Nat) (s : SV) (xs : List Ln) (hok : LnsOk xs) (hsn : s.n = xs.length) (loan a : Int) (w : World) (M I : BS)
    (H : Hp ⟨w, M, I⟩ [blk p [.slice s.A s.n s.c] 33, row 66 6 (.slice s.A s.n s.c) s.n (lnsC xs)] [LnF xs] w) :
    Ctr Tryz.prog 82 [.pointer (some ⟨p, 0, none⟩), .int .u32 loan, .bool false, .int .u8 a] w M I (fun _ : Unit => sumV (linSum loan false a xs 0)) (fun _ => True) (fun _ => [blk p [.slice s.A s.n s.c] 33, row 66 6 (.slice s.A s.n s.c) s.n (lnsC xs)]) (fun _ => []) := by
  obtain ⟨A, n, c⟩ := s
  simp only at hsn H ⊢
  obtain ⟨hlen, hall⟩ := hok
  refine Exe.of_ev tok Tryz.call82 Tryz.func82 rfl rfl rfl ?_
  refine load_rule tok H (v := .slice A n c) rfl ?_
  refine loop_rule tok (σ := Nat × Int) 1152921504602773248 (fun t => [(10, .int .i64 t.2), (22, .int .i64 t.1)])
    (fun t w' => t.1 ≤ xs.length ∧ inK .i64 t.2 ∧ linSum loan false a xs 0 = linSum loan false a (xs.drop t.1) t.2 ∧ Hp ⟨w, M, I⟩ [blk p [.slice A n c] 33, row 66 6 (.slice A n c) n (lnsC xs)] [LnF xs] w') (fun t => xs.length - t.1) (0, 0) rfl rfl ⟨rfl, rfl, trivial⟩
    ⟨Nat.zero_le _, ⟨by simp [kLo], by simp [kHi]⟩, rfl, H⟩ ?_
  rintro ⟨i, sm⟩ j w3 ⟨hi, hin, hg, H3⟩
  simp only at hi hin hg H3
  refine brd (fun h5 => ?_) (fun h5 => ?_)
  · have h5 : (i : Int) < n := h5
    have hil : i < xs.length := by omega
    obtain ⟨u, hu⟩ : ∃ u, xs[i]? = some u := ⟨_, List.getElem?_eq_getElem hil⟩
    have hdu : xs.drop i = u :: xs.drop (i + 1) := by
      rw [List.drop_eq_getElem_cons hil]
      rw [List.getElem?_eq_getElem hil] at hu
      rw [Option.some.inj hu]
    have hum := List.mem_of_getElem? hu
    have hul := (hall u hum).2.2
    obtain ⟨b1, rfl⟩ := H3.rowSome (A := A) (n := n) (c := c) (by omega)
    have i1 : (0 : Int) ≤ (i : Int) := by omega
    have hi64 : Value.int .i64 (IntKind.i64.wrap (i + 1)) = .int .i64 ((i + 1 : Nat) : Int) := by rw [w64 (by omega) (by omega)]; rfl
    have hmu : xs.length - (i + 1) < xs.length - i := by omega
    rw [hdu] at hg
    have H3' := Hp.lnAt H3 (xs := xs) hum
    obtain ⟨hn2, hc2, hc3⟩ := H3'.sll (A := u.s.A) (n := u.s.n) (c := u.s.c)
    have hlok := legs_ok (A := u.s.A) (n := u.s.n) (c := u.s.c) H3'
    refine idx_own tok rfl rfl i1 h5 ?_
    refine row_ld (n := n) (c := c) tok H3' (v := lnV u) (lnR_get hu) ?_
    refine alloc_as tok H3' lnZ rfl rfl rfl fun t w4 H4 => ?_
    refine store_as tok H4 (lnC u) rfl rfl rfl rfl rfl fun w5 H5 => ?_
    refine load_rule tok H5 (v := .int .u32 u.k.loan) rfl ?_
    refine br (fun qm => ?_) (fun qm => ?_)
    · have qm : (u.k.loan != loan) = true := qm
      have qm : u.k.loan ≠ loan := by simpa using qm
      refine Exists.intro (i + 1, sm) (And.intro ⟨rfl, hi64, trivial⟩ (And.intro hmu ⟨by simp only; omega, hin, ?_, Hp.keep H5⟩))
      rw [hg, linSum, if_pos ⟨rfl, qm⟩]
    have qm : (u.k.loan != loan) = false := qm
    have qm : u.k.loan = loan := by simpa using qm
    refine load_rule tok H5 (v := .slice u.s.A u.s.n u.s.c) rfl ?_
    have H5 : Hp ⟨w, M, I⟩ [blk t (lnC u) 66, blk p [.slice (some ⟨b1, 0, none⟩) n c] 33, row 66 6 (.slice (some ⟨b1, 0, none⟩) n c) n (lnsC xs)] [Sl legR (.slice u.s.A u.s.n u.s.c) u.ls, LnF xs] w5 := Hp.keep H5
    refine loop_rule tok (σ := Nat × Int) 576459652791912192 (fun t => [(10, .int .i64 t.2), (40, .int .i64 t.1)])
      (fun t' w' => t'.1 ≤ u.ls.length ∧ inK .i64 t'.2 ∧ legSum a u.ls sm = legSum a (u.ls.drop t'.1) t'.2 ∧ Hp ⟨w, M, I⟩ [blk t (lnC u) 66, blk p [.slice (some ⟨b1, 0, none⟩) n c] 33, row 66 6 (.slice (some ⟨b1, 0, none⟩) n c) n (lnsC xs)] [Sl legR (.slice u.s.A u.s.n u.s.c) u.ls, LnF xs] w') (fun t' => u.ls.length - t'.1) (0, sm) rfl rfl ⟨rfl, rfl, trivial⟩
      ⟨Nat.zero_le _, hin, rfl, H5⟩ ?_
    rintro ⟨i2, s2⟩ j2 w6 ⟨hi2, hin2, hg2, H6⟩
    simp only at hi2 hin2 hg2 H6
    refine brd (fun h7 => ?_) (fun h7 => ?_)
    · have h7 : (i2 : Int) < u.s.n := h7
      have hil2 : i2 < u.ls.length := by omega
      obtain ⟨g, hgg⟩ : ∃ g, u.ls[i2]? = some g := ⟨_, List.getElem?_eq_getElem hil2⟩
      have hdg : u.ls.drop i2 = g :: u.ls.drop (i2 + 1) := by
        rw [List.drop_eq_getElem_cons hil2]
        rw [List.getElem?_eq_getElem hil2] at hgg
        rw [Option.some.inj hgg]
      have hg3 := (hlok g (List.mem_of_getElem? hgg)).2
      have hj64 : Value.int .i64 (IntKind.i64.wrap (i2 + 1)) = .int .i64 ((i2 + 1 : Nat) : Int) := by rw [w64 (by omega) (by omega)]; rfl
      have hmu2 : u.ls.length - (i2 + 1) < u.ls.length - i2 := by omega
      rw [hdg] at hg2
      have i2p : (0 : Int) ≤ (i2 : Int) := by omega
      refine idx_rule tok H6 (r := legR) (A := u.s.A) (n := u.s.n) (c := u.s.c) rfl rfl rfl i2p h7 fun pb po g' hg' H7 => ?_
      have eg : g' = g := Option.some.inj ((show u.ls[i2]? = some g' by simpa using hg').symm.trans hgg)
      subst eg
      refine ldp_rule tok H7 rfl rfl rfl fun _ _ H8 => ?_
      refine alloc_as tok H8 [.int .u8 0, .int .i64 0] rfl rfl rfl fun y w8 H9 => ?_
      refine store_as tok H9 [.int .u8 g'.acct, .int .i64 g'.amt] rfl rfl rfl rfl rfl fun w9 H10 => ?_
      refine load_rule tok H10 (v := .int .u8 g'.acct) rfl ?_
      refine br (fun q => ?_) (fun q => ?_)
      · have q : (g'.acct == a) = true := q
        have q : g'.acct = a := by simpa using q
        refine load_rule tok H10 (v := .int .i64 g'.amt) rfl ?_
        rcases (show in64 (s2 + g'.amt) = true ∨ in64 (s2 + g'.amt) = false by cases in64 (s2 + g'.amt) <;> simp) with en | en
        · have en' := en
          simp only [in64, Bool.and_eq_true, decide_eq_true_eq] at en'
          refine call_rule H10 (fun M I _ h => (addR_ok en).symm ▸ addRef s2 g'.amt hin2 hg3 _ M I h) fun _ w11 _ H11 => ?_
          refine Exists.intro (i2 + 1, s2 + g'.amt) (And.intro ⟨rfl, hj64, trivial⟩ (And.intro hmu2 ⟨by simp only; omega, ⟨en'.1, en'.2⟩, ?_, Hp.keep H11⟩))
          rw [hg2, legSum, if_pos q, if_pos en]
        · refine call_rule H10 (fun M I _ h => (addR_no en).symm ▸ addRef s2 g'.amt hin2 hg3 _ M I h) fun _ w11 _ H11 => ?_
          have e0 : linSum loan false a xs 0 = none := by
            rw [hg, linSum, if_neg (fun h => h.2 qm), hg2, legSum, if_pos q, if_neg (by rw [en]; simp)]
          refine Exists.intro () (And.intro ?_ (And.intro trivial (Hp.keep H11)))
          rw [e0]; rfl
      · have q : (g'.acct == a) = false := q
        have q : ¬ g'.acct = a := by simpa using q
        refine Exists.intro (i2 + 1, s2) (And.intro ⟨rfl, hj64, trivial⟩ (And.intro hmu2 ⟨by simp only; omega, hin2, ?_, Hp.keep H10⟩))
        rw [hg2, legSum, if_neg q]
    · have h7 : ¬ (i2 : Int) < u.s.n := h7
      have e2 : legSum a u.ls sm = some s2 := by rw [hg2, List.drop_eq_nil_of_le (by omega)]; rfl
      refine Exists.intro (i + 1, s2) (And.intro ⟨rfl, hi64, trivial⟩ (And.intro hmu ⟨by simp only; omega, hin2, ?_, Hp.keep H6⟩))
      rw [hg, linSum, if_neg (fun h => h.2 qm), e2]
  · have h5 : ¬ (i : Int) < n := h5
    have e0 : linSum loan false a xs 0 = some sm := by rw [hg, List.drop_eq_nil_of_le (by omega)]; rfl
    refine Exists.intro () (And.intro ?_ (And.intro trivial (Hp.keep H3)))
    rw [e0]; rfl
set_option maxRecDepth 20000 in
set_option maxHeartbeats 1000000 in
theorem sumRef_true (p : Nat) (s : SV) (xs : List Ln) (hok : LnsOk xs) (hsn : s.n = xs.length) (loan a : Int) (w : World) (M I : BS)
    (H : Hp ⟨w, M, I⟩ [blk p [.slice s.A s.n s.c] 33, row 66 6 (.slice s.A s.n s.c) s.n (lnsC xs)] [LnF xs] w) :
    Ctr Tryz.prog 82 [.pointer (some ⟨p, 0, none⟩), .int .u32 loan, .bool true, .int .u8 a] w M I (fun _ : Unit => sumV (linSum loan true a xs 0)) (fun _ => True) (fun _ => [blk p [.slice s.A s.n s.c] 33, row 66 6 (.slice s.A s.n s.c) s.n (lnsC xs)]) (fun _ => []) := by
  obtain ⟨A, n, c⟩ := s
  simp only at hsn H ⊢
  obtain ⟨hlen, hall⟩ := hok
  refine Exe.of_ev tok Tryz.call82 Tryz.func82 rfl rfl rfl ?_
  refine load_rule tok H (v := .slice A n c) rfl ?_
  refine loop_rule tok (σ := Nat × Int) 1152921504602773248 (fun t => [(10, .int .i64 t.2), (22, .int .i64 t.1)])
    (fun t w' => t.1 ≤ xs.length ∧ inK .i64 t.2 ∧ linSum loan true a xs 0 = linSum loan true a (xs.drop t.1) t.2 ∧ Hp ⟨w, M, I⟩ [blk p [.slice A n c] 33, row 66 6 (.slice A n c) n (lnsC xs)] [LnF xs] w') (fun t => xs.length - t.1) (0, 0) rfl rfl ⟨rfl, rfl, trivial⟩
    ⟨Nat.zero_le _, ⟨by simp [kLo], by simp [kHi]⟩, rfl, H⟩ ?_
  rintro ⟨i, sm⟩ j w3 ⟨hi, hin, hg, H3⟩
  simp only at hi hin hg H3
  refine brd (fun h5 => ?_) (fun h5 => ?_)
  · have h5 : (i : Int) < n := h5
    have hil : i < xs.length := by omega
    obtain ⟨u, hu⟩ : ∃ u, xs[i]? = some u := ⟨_, List.getElem?_eq_getElem hil⟩
    have hdu : xs.drop i = u :: xs.drop (i + 1) := by
      rw [List.drop_eq_getElem_cons hil]
      rw [List.getElem?_eq_getElem hil] at hu
      rw [Option.some.inj hu]
    have hum := List.mem_of_getElem? hu
    have hul := (hall u hum).2.2
    obtain ⟨b1, rfl⟩ := H3.rowSome (A := A) (n := n) (c := c) (by omega)
    have i1 : (0 : Int) ≤ (i : Int) := by omega
    have hi64 : Value.int .i64 (IntKind.i64.wrap (i + 1)) = .int .i64 ((i + 1 : Nat) : Int) := by rw [w64 (by omega) (by omega)]; rfl
    have hmu : xs.length - (i + 1) < xs.length - i := by omega
    rw [hdu] at hg
    have H3' := Hp.lnAt H3 (xs := xs) hum
    obtain ⟨hn2, hc2, hc3⟩ := H3'.sll (A := u.s.A) (n := u.s.n) (c := u.s.c)
    have hlok := legs_ok (A := u.s.A) (n := u.s.n) (c := u.s.c) H3'
    refine idx_own tok rfl rfl i1 h5 ?_
    refine row_ld (n := n) (c := c) tok H3' (v := lnV u) (lnR_get hu) ?_
    refine alloc_as tok H3' lnZ rfl rfl rfl fun t w4 H4 => ?_
    refine store_as tok H4 (lnC u) rfl rfl rfl rfl rfl fun w5 H5 => ?_
    refine load_rule tok H5 (v := .slice u.s.A u.s.n u.s.c) rfl ?_
    have H5 : Hp ⟨w, M, I⟩ [blk t (lnC u) 66, blk p [.slice (some ⟨b1, 0, none⟩) n c] 33, row 66 6 (.slice (some ⟨b1, 0, none⟩) n c) n (lnsC xs)] [Sl legR (.slice u.s.A u.s.n u.s.c) u.ls, LnF xs] w5 := Hp.keep H5
    refine loop_rule tok (σ := Nat × Int) 576459652791912192 (fun t => [(10, .int .i64 t.2), (40, .int .i64 t.1)])
      (fun t' w' => t'.1 ≤ u.ls.length ∧ inK .i64 t'.2 ∧ legSum a u.ls sm = legSum a (u.ls.drop t'.1) t'.2 ∧ Hp ⟨w, M, I⟩ [blk t (lnC u) 66, blk p [.slice (some ⟨b1, 0, none⟩) n c] 33, row 66 6 (.slice (some ⟨b1, 0, none⟩) n c) n (lnsC xs)] [Sl legR (.slice u.s.A u.s.n u.s.c) u.ls, LnF xs] w') (fun t' => u.ls.length - t'.1) (0, sm) rfl rfl ⟨rfl, rfl, trivial⟩
      ⟨Nat.zero_le _, hin, rfl, H5⟩ ?_
    rintro ⟨i2, s2⟩ j2 w6 ⟨hi2, hin2, hg2, H6⟩
    simp only at hi2 hin2 hg2 H6
    refine brd (fun h7 => ?_) (fun h7 => ?_)
    · have h7 : (i2 : Int) < u.s.n := h7
      have hil2 : i2 < u.ls.length := by omega
      obtain ⟨g, hgg⟩ : ∃ g, u.ls[i2]? = some g := ⟨_, List.getElem?_eq_getElem hil2⟩
      have hdg : u.ls.drop i2 = g :: u.ls.drop (i2 + 1) := by
        rw [List.drop_eq_getElem_cons hil2]
        rw [List.getElem?_eq_getElem hil2] at hgg
        rw [Option.some.inj hgg]
      have hg3 := (hlok g (List.mem_of_getElem? hgg)).2
      have hj64 : Value.int .i64 (IntKind.i64.wrap (i2 + 1)) = .int .i64 ((i2 + 1 : Nat) : Int) := by rw [w64 (by omega) (by omega)]; rfl
      have hmu2 : u.ls.length - (i2 + 1) < u.ls.length - i2 := by omega
      rw [hdg] at hg2
      have i2p : (0 : Int) ≤ (i2 : Int) := by omega
      refine idx_rule tok H6 (r := legR) (A := u.s.A) (n := u.s.n) (c := u.s.c) rfl rfl rfl i2p h7 fun pb po g' hg' H7 => ?_
      have eg : g' = g := Option.some.inj ((show u.ls[i2]? = some g' by simpa using hg').symm.trans hgg)
      subst eg
      refine ldp_rule tok H7 rfl rfl rfl fun _ _ H8 => ?_
      refine alloc_as tok H8 [.int .u8 0, .int .i64 0] rfl rfl rfl fun y w8 H9 => ?_
      refine store_as tok H9 [.int .u8 g'.acct, .int .i64 g'.amt] rfl rfl rfl rfl rfl fun w9 H10 => ?_
      refine load_rule tok H10 (v := .int .u8 g'.acct) rfl ?_
      refine br (fun q => ?_) (fun q => ?_)
      · have q : (g'.acct == a) = true := q
        have q : g'.acct = a := by simpa using q
        refine load_rule tok H10 (v := .int .i64 g'.amt) rfl ?_
        rcases (show in64 (s2 + g'.amt) = true ∨ in64 (s2 + g'.amt) = false by cases in64 (s2 + g'.amt) <;> simp) with en | en
        · have en' := en
          simp only [in64, Bool.and_eq_true, decide_eq_true_eq] at en'
          refine call_rule H10 (fun M I _ h => (addR_ok en).symm ▸ addRef s2 g'.amt hin2 hg3 _ M I h) fun _ w11 _ H11 => ?_
          refine Exists.intro (i2 + 1, s2 + g'.amt) (And.intro ⟨rfl, hj64, trivial⟩ (And.intro hmu2 ⟨by simp only; omega, ⟨en'.1, en'.2⟩, ?_, Hp.keep H11⟩))
          rw [hg2, legSum, if_pos q, if_pos en]
        · refine call_rule H10 (fun M I _ h => (addR_no en).symm ▸ addRef s2 g'.amt hin2 hg3 _ M I h) fun _ w11 _ H11 => ?_
          have e0 : linSum loan true a xs 0 = none := by
            rw [hg, linSum, if_neg (fun h => by cases h.1), hg2, legSum, if_pos q, if_neg (by rw [en]; simp)]
          refine Exists.intro () (And.intro ?_ (And.intro trivial (Hp.keep H11)))
          rw [e0]; rfl
      · have q : (g'.acct == a) = false := q
        have q : ¬ g'.acct = a := by simpa using q
        refine Exists.intro (i2 + 1, s2) (And.intro ⟨rfl, hj64, trivial⟩ (And.intro hmu2 ⟨by simp only; omega, hin2, ?_, Hp.keep H10⟩))
        rw [hg2, legSum, if_neg q]
    · have h7 : ¬ (i2 : Int) < u.s.n := h7
      have e2 : legSum a u.ls sm = some s2 := by rw [hg2, List.drop_eq_nil_of_le (by omega)]; rfl
      refine Exists.intro (i + 1, s2) (And.intro ⟨rfl, hi64, trivial⟩ (And.intro hmu ⟨by simp only; omega, hin2, ?_, Hp.keep H6⟩))
      rw [hg, linSum, if_neg (fun h => by cases h.1), e2]
  · have h5 : ¬ (i : Int) < n := h5
    have e0 : linSum loan true a xs 0 = some sm := by rw [hg, List.drop_eq_nil_of_le (by omega)]; rfl
    refine Exists.intro () (And.intro ?_ (And.intro trivial (Hp.keep H3)))
    rw [e0]; rfl
end Go.Proofs.YtfemfomgmopibaaGreatDoor
