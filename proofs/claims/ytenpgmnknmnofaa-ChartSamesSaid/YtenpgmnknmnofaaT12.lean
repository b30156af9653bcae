/- The document's own sum, and its entry: the walk. -/
import Derived.Test.YtenpgmnknmnofaaT11
namespace Go.Proofs.Ytenpgmnknmnofaa
open Go Go.Proofs Go.Wk
def addR (a b : Int) : Value := if in64 (a + b) then .tuple #[.int .i64 (a + b), .bool true] else .tuple #[.int .i64 0, .bool false]
theorem addR_no {a b : Int} (en : in64 (a + b) = false) : Value.tuple #[.int .i64 0, .bool false] = addR a b := by unfold addR; rw [en]; rfl
theorem addR_ok {a b : Int} (en : in64 (a + b) = true) : Value.tuple #[.int .i64 (a + b), .bool true] = addR a b := by unfold addR; rw [en]; rfl
theorem addRef (a b : Int) (ha : inK .i64 a) (hb : inK .i64 b) : CB 28 [.int .i64 a, .int .i64 b] (addR a b) := by
  intro w M I H
  obtain ⟨a1, a2⟩ := ha
  obtain ⟨b1, b2⟩ := hb
  simp only [kLo, kHi] at a1 a2 b1 b2
  have enh : 9223372036854775807 < a + b → in64 (a + b) = false := fun h => by unfold in64; rw [decide_eq_false (show ¬ a + b ≤ 9223372036854775807 by omega), Bool.and_false]
  have enl : a + b < -9223372036854775808 → in64 (a + b) = false := fun h => by unfold in64; rw [decide_eq_false (show ¬ -9223372036854775808 ≤ a + b by omega), Bool.false_and]
  have eno : -9223372036854775808 ≤ a + b → a + b ≤ 9223372036854775807 → in64 (a + b) = true := fun h h' => by unfold in64; rw [decide_eq_true h, decide_eq_true h']; rfl
  have fin : -9223372036854775808 ≤ a + b → a + b ≤ 9223372036854775807 → Value.tuple #[.int .i64 (IntKind.i64.wrap (a + b)), .bool true] = addR a b := fun h h' => by
    rw [w64 h h']; exact addR_ok (eno h h')
  refine Exe.of_ev tok Try.call28 Try.func28 rfl rfl rfl ?_
  refine brd (fun q => ?_) (fun q => ?_)
  · have e : IntKind.i64.wrap (9223372036854775807 - b) = 9223372036854775807 - b := w64 (by omega) (by omega)
    refine brd (fun q2 => ?_) (fun q2 => ?_)
    · have q2 : IntKind.i64.wrap (9223372036854775807 - b) < a := q2
      rw [e] at q2
      exact Exists.intro () (And.intro (addR_no (enh (by omega))) (And.intro trivial H))
    · have q2 : ¬ IntKind.i64.wrap (9223372036854775807 - b) < a := q2
      rw [e] at q2
      refine brd (fun q3 => ?_) (fun q3 => ?_)
      · exact absurd q3 (show ¬ b < 0 by omega)
      · exact Exists.intro () (And.intro (fin (by omega) (by omega)) (And.intro trivial H))
  · refine brd (fun q2 => ?_) (fun q2 => ?_)
    · have e : IntKind.i64.wrap (-9223372036854775808 - b) = -9223372036854775808 - b := w64 (by omega) (by omega)
      refine brd (fun q3 => ?_) (fun q3 => ?_)
      · have q3 : a < IntKind.i64.wrap (-9223372036854775808 - b) := q3
        rw [e] at q3
        exact Exists.intro () (And.intro (addR_no (enl (by omega))) (And.intro trivial H))
      · have q3 : ¬ a < IntKind.i64.wrap (-9223372036854775808 - b) := q3
        rw [e] at q3
        exact Exists.intro () (And.intro (fin (by omega) (by omega)) (And.intro trivial H))
    · exact Exists.intro () (And.intro (fin (by omega) (by omega)) (And.intro trivial H))
/-- The sum of an account's legs, left to right: none at too great a sum. -/
def accGo (k : Int) : List Leg → Int → Bool → Option (Int × Bool)
  | [], s, b => some (s, b)
  | l :: r, s, b => if l.acct = k then (if in64 (s + l.amt) then accGo k r (s + l.amt) true else none) else accGo k r s b
/-- The document's entry: account by account. -/
def refGo (ls : List Leg) : Nat → Nat → List Leg → List Leg
  | 0, _, out => out
  | d + 1, k, out => match accGo k ls 0 false with
    | none => []
    | some (s, b) => refGo ls d (k + 1) (if b then out ++ [⟨k, s⟩] else out)
theorem accGo_in (k : Int) : ∀ (ls : List Leg) (s : Int) (b : Bool) (p : Int × Bool), inK .i64 s → accGo k ls s b = some p → inK .i64 p.1
  | [], s, b, p, hs, h => by simp only [accGo, Option.some.injEq] at h; subst h; exact hs
  | l :: r, s, b, p, hs, h => by
    unfold accGo at h
    split at h
    · split at h
      · rename_i en
        simp only [in64, Bool.and_eq_true, decide_eq_true_eq] at en
        exact accGo_in k r _ _ p ⟨en.1, en.2⟩ h
      · cases h
    · exact accGo_in k r s b p hs h
def refMade (ls : List Leg) : List Leg := refGo ls 256 0 []
def RefAt (ls : List Leg) (i : Nat) (out : List Leg) : Prop := ∃ d, i + d = 256 ∧ refMade ls = refGo ls d i out
theorem refGo_zero (ls : List Leg) : RefAt ls 0 [] := ⟨256, rfl, rfl⟩
set_option maxRecDepth 20000 in
theorem makeRef (k : Key) (A : Option Addr) (n c : Nat) (ls : List Leg) (w : World) (M I : BS) (hM : ∀ b, ¬ M b) (H : Hp ⟨w, M, I⟩ [] [Sl legR (.slice A n c) ls] w) :
    Ctr Try.prog 10 [keyV k, .slice A n c] w M I (fun a : SV => .agg #[.int .u32 k.loan, .int .i32 k.day, .int .u8 k.kind, .int .u32 k.seq, .slice a.A a.n a.c]) (fun _ => True) (fun _ => []) (fun a => [Sl legR (.slice a.A a.n a.c) (refMade ls)]) := by
  obtain ⟨hn, hc, hc2⟩ := H.sll (A := A) (n := n) (c := c)
  refine Exe.of_ev tok Try.call10 Try.func10 rfl rfl rfl ?_
  refine box_as H (keyC k) rfl fun x w1 H1 => ?_
  refine alloc_as tok H1 zeroC rfl rfl rfl fun r w2 H2 => ?_
  refine load_rule tok H2 (v := keyV k) rfl ?_
  refine alloc_as tok H2 zeroC rfl rfl rfl fun o w4 H4 => ?_
  refine store_as tok H4 (entC k none 0 0) rfl rfl rfl rfl rfl fun w5 H5 => ?_
  have H5' : Hp ⟨w, M, I⟩ [row 67 2 (.slice none 0 0) 0 [], blk o (entC k none 0 0) 36, blk r zeroC 36, blk x (keyC k) 33] [Sl legR (.slice A n c) ls] w5 := (Hp.nil H5 67 2).keep
  refine loop_rule tok (σ := Nat × List Leg × SV) 9007199254715840 (fun s => [(6, .int .i64 s.1)])
    (fun s w' => s.1 ≤ 256 ∧ s.2.2.n = s.2.1.length ∧ s.2.1.length ≤ s.1 ∧ (∀ y, y ∈ s.2.1 → inK .u8 y.acct ∧ inK .i64 y.amt) ∧ RefAt ls s.1 s.2.1 ∧
      Hp ⟨w, M, I⟩ [row 67 2 (.slice s.2.2.A s.2.2.n s.2.2.c) s.2.2.n (legsC s.2.1), blk o (entC k s.2.2.A s.2.2.n s.2.2.c) 36, blk r zeroC 36, blk x (keyC k) 33] [Sl legR (.slice A n c) ls] w') (fun s => 256 - s.1) (0, [], ⟨none, 0, 0⟩) rfl rfl ⟨rfl, trivial⟩
    ⟨Nat.zero_le 256, rfl, Nat.le_refl 0, (fun y hy => by cases hy), ?_, H5'⟩ ?_
  · exact refGo_zero ls
  rintro ⟨i, out, A1, n1, c1⟩ j w6 ⟨hi, hn1, hol, hok, hg, H6⟩
  simp only at hi hn1 hol hok hg H6
  subst hn1
  refine brd (fun h5 => ?_) (fun h5 => ?_)
  · have hlt : i < 256 := by omega
    obtain ⟨d, hd256, hg⟩ := hg
    obtain ⟨d, rfl⟩ : ∃ d', d = d' + 1 := ⟨d - 1, by omega⟩
    have hstep : refGo ls (d + 1) i out = match accGo i ls 0 false with
        | none => []
        | some (s, b) => refGo ls d (i + 1) (if b then out ++ [⟨i, s⟩] else out) := by
      rw [refGo]
    refine loop_rule tok (σ := Nat × Int × Bool) 8796090932608 (fun s => [(7, .int .i64 s.2.1), (8, .bool s.2.2), (21, .int .i64 s.1)])
      (fun s w' => s.1 ≤ ls.length ∧ inK .i64 s.2.1 ∧ accGo i ls 0 false = accGo i (ls.drop s.1) s.2.1 s.2.2 ∧
        Hp ⟨w, M, I⟩ [row 67 2 (.slice A1 out.length c1) out.length (legsC out), blk o (entC k A1 out.length c1) 36, blk r zeroC 36, blk x (keyC k) 33] [Sl legR (.slice A n c) ls] w') (fun s => ls.length - s.1) (0, 0, false) rfl rfl ⟨rfl, rfl, rfl, trivial⟩
      ⟨Nat.zero_le _, ⟨by simp [kLo], by simp [kHi]⟩, rfl, H6⟩ ?_
    rintro ⟨jj, s, b⟩ j2 w7 ⟨hj, hs, ha, H7⟩
    simp only at hj hs ha H7
    refine brd (fun h6 => ?_) (fun h6 => ?_)
    · refine idx_rule tok H7 rfl rfl rfl (by omega) h6 fun eb eo y hy H8 => ?_
      refine ldp_rule tok H8 rfl rfl rfl fun _ hyk H9 => ?_
      refine alloc_rule tok H9 rfl rfl fun lb w8 H10 => ?_
      refine store_as tok H10 [.int .u8 y.acct, .int .i64 y.amt] rfl rfl rfl rfl rfl fun w9 H11 => ?_
      refine load_rule tok H11 rfl ?_
      have hy' : ls[jj]? = some y := by simpa using hy
      have hd : ls.drop jj = y :: ls.drop (jj + 1) := by
        obtain ⟨hj, _⟩ := List.getElem?_eq_some_iff.1 hy'
        rw [List.drop_eq_getElem_cons hj]
        rw [List.getElem?_eq_getElem hj] at hy'
        rw [Option.some.inj hy']
      have ey : IntKind.i64.wrap y.acct = y.acct := by
        obtain ⟨⟨q1, q2⟩, _⟩ := hyk
        simp only [kLo, kHi] at q1 q2
        exact w64 (by omega) (by omega)
      have nxt : Value.int .i64 (IntKind.i64.wrap (jj + 1)) = .int .i64 ((jj + 1 : Nat) : Int) := by rw [w64 (by omega) (by omega)]; rfl
      refine br (fun h7 => ?_) (fun h7 => ?_)
      · have h7 : (IntKind.i64.wrap y.acct != (i : Int)) = true := h7
        rw [ey] at h7
        have h7 : y.acct ≠ i := by simpa using h7
        refine Exists.intro (jj + 1, s, b) (And.intro ⟨rfl, rfl, nxt, trivial⟩ (And.intro ?_ ⟨?_, hs, ?_, H11.keep⟩))
        · simp only; omega
        · simp only; omega
        · rw [ha, hd, accGo, if_neg h7]
      · have h7 : (IntKind.i64.wrap y.acct != (i : Int)) = false := h7
        rw [ey] at h7
        have h7 : y.acct = i := by simpa using h7
        refine load_rule tok H11 rfl ?_
        rcases (show in64 (s + y.amt) = true ∨ in64 (s + y.amt) = false by cases in64 (s + y.amt) <;> simp) with en | en
        · refine call_rule H11 (fun M I _ h => (addR_ok en).symm ▸ addRef _ _ hs hyk.2 _ M I h) fun _ w10 _ H12 => ?_
          have en' := en
          simp only [in64, Bool.and_eq_true, decide_eq_true_eq] at en'
          refine Exists.intro (jj + 1, s + y.amt, true) (And.intro ⟨rfl, rfl, nxt, trivial⟩ (And.intro ?_ ⟨?_, ⟨en'.1, en'.2⟩, ?_, H12.keep⟩))
          · simp only; omega
          · simp only; omega
          · rw [ha, hd, accGo, if_pos h7, if_pos en]
        · refine call_rule H11 (fun M I _ h => (addR_no en).symm ▸ addRef _ _ hs hyk.2 _ M I h) fun _ w10 _ H12 => ?_
          refine load_rule tok H12 (v := keyV k) rfl ?_
          refine store_as tok H12 (entC k none 0 0) rfl rfl rfl rfl rfl fun w11 H13 => ?_
          refine Exists.intro ⟨r, 0, none⟩ (Exists.intro (.agg #[.int .u32 k.loan, .int .i32 k.day, .int .u8 k.kind, .int .u32 k.seq, .slice none 0 0]) (And.intro rfl (And.intro (Hp.ld (T := tb) tok H13 rfl) ?_)))
          have e0 : refMade ls = [] := by
            rw [hg, hstep, ha, hd, accGo, if_pos h7, if_neg (by rw [en]; simp)]
          rw [e0]
          exact Exists.intro ⟨none, 0, 0⟩ (And.intro rfl (And.intro trivial (Hp.keep (Hp.slNil legR H13))))
    · have hjl : jj = ls.length := by omega
      have ha2 : accGo i ls 0 false = some (s, b) := by rw [ha, hjl, List.drop_length, accGo]
      have hg2 : RefAt ls (i + 1) (if b then out ++ [⟨i, s⟩] else out) := ⟨d, by omega, by rw [hg, hstep, ha2]⟩
      have nxt : Value.int .i64 (IntKind.i64.wrap (i + 1)) = .int .i64 ((i + 1 : Nat) : Int) := by rw [w64 (by omega) (by omega)]; rfl
      refine br (fun h7 => ?_) (fun h7 => ?_)
      · subst h7
        refine load_rule tok H7 (v := .slice A1 out.length c1) rfl ?_
        have ei : IntKind.u8.wrap (i : Int) = i := wrap_id ⟨by simp only [kLo]; omega, by simp only [kHi]; omega⟩
        refine slice_as tok H7 [.int .u8 (IntKind.u8.wrap (i : Int)), .int .i64 s] rfl rfl rfl rfl rfl rfl fun g w8 H8 => ?_
        refine append_rule (v := .slice A1 out.length c1) (b := g) (m := 1) (c := 1) tok H8 rfl rfl rfl rfl rfl rfl rfl rfl ?_ (by omega) fun A2 c2 w10 H12 => ?_
        · show (out.length + 1) * 16 ≤ _
          omega
        refine store_as tok H12 (entC k A2 (out.length + 1) c2) rfl rfl rfl rfl rfl fun w11 H13 => ?_
        rw [ei] at H13
        have el : (out ++ [(⟨i, s⟩ : Leg)]).length = out.length + 1 := by simp
        have e : legsC (out ++ [⟨i, s⟩]) = legsC out ++ [.int .u8 i, .int .i64 s] := by rw [legsC_app]; rfl
        refine Exists.intro (i + 1, out ++ [⟨i, s⟩], ⟨A2, out.length + 1, c2⟩) (And.intro ⟨nxt, trivial⟩ (And.intro ?_ ⟨?_, el.symm, ?_, ?_, hg2, ?_⟩))
        · simp only; omega
        · simp only; omega
        · simp only [el]; omega
        · intro y hy
          rcases List.mem_append.1 hy with hy | hy
          · exact hok y hy
          · simp only [List.mem_singleton] at hy
            subst hy
            exact ⟨⟨by simp only [kLo]; omega, by simp only [kHi]; omega⟩, hs⟩
        · simp only [e]
          exact H13.keep
      · subst h7
        refine Exists.intro (i + 1, out, ⟨A1, out.length, c1⟩) (And.intro ⟨nxt, trivial⟩ (And.intro ?_ ⟨?_, rfl, ?_, hok, hg2, H7⟩))
        · simp only; omega
        · simp only; omega
        · simp only; omega
  · obtain rfl : i = 256 := by omega
    obtain ⟨d, hd256, hg⟩ := hg
    obtain rfl : d = 0 := by omega
    have e0 : refMade ls = out := by rw [hg, refGo]
    rw [e0]
    refine load_rule tok H6 (v := .agg #[.int .u32 k.loan, .int .i32 k.day, .int .u8 k.kind, .int .u32 k.seq, .slice A1 out.length c1]) rfl ?_
    refine store_as tok H6 (entC k A1 out.length c1) rfl rfl rfl rfl rfl fun w7 H7 => ?_
    refine Exists.intro ⟨r, 0, none⟩ (Exists.intro (.agg #[.int .u32 k.loan, .int .i32 k.day, .int .u8 k.kind, .int .u32 k.seq, .slice A1 out.length c1]) (And.intro rfl (And.intro (Hp.ld (T := tb) tok H7 rfl) ?_)))
    have H8 := frzLegsRow (v := .slice A1 out.length c1) H7 out hM hok
    exact Exists.intro ⟨A1, out.length, c1⟩ (And.intro rfl (And.intro trivial (Hp.keep H8)))
end Go.Proofs.Ytenpgmnknmnofaa
