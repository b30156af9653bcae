/- Keys stand in the order: the walk. -/
import Derived.Test.YtfemfomgmopibaaGreatDoorA1
namespace Go.Proofs.YtfemfomgmopibaaGreatDoor
open Go Go.Proofs Go.Wk
def eqK (a b : Key) : Bool := a.loan == b.loan && (a.day == b.day && (a.kind == b.kind && (a.seq == b.seq && true)))
theorem cmp_neg {a b : Int} : cmpI a b = 0 ↔ a = b := by
  unfold cmpI
  by_cases h : a < b
  · rw [if_pos h]; constructor
    · intro h1; cases h1
    · intro h1; omega
  · rw [if_neg h]
    by_cases h2 : b < a
    · rw [if_pos h2]; constructor
      · intro h1; cases h1
      · intro h1; omega
    · rw [if_neg h2]; constructor
      · intro _; omega
      · intro _; rfl
theorem cmp_swap (a b : Int) : cmpI b a = -cmpI a b := by
  unfold cmpI
  by_cases h : a < b
  · simp only [if_pos h, if_neg (show ¬ b < a by omega)]; omega
  · by_cases h2 : b < a
    · simp only [if_neg h, if_pos h2]
    · simp only [if_neg h, if_neg h2]; omega
theorem eqK_less (a b : Key) : eqK a b = (!lessB a b && !lessB b a) := by
  have c1 := @cmp_neg a.loan b.loan
  have c2 := @cmp_neg a.day b.day
  have c3 := @cmp_neg a.kind b.kind
  have c4 := @cmp_neg a.seq b.seq
  unfold eqK lessB
  rw [cmp_swap a.loan b.loan, cmp_swap a.day b.day, cmp_swap a.kind b.kind, cmp_swap a.seq b.seq]
  generalize cmpI a.loan b.loan = x1 at *
  generalize cmpI a.day b.day = x2 at *
  generalize cmpI a.kind b.kind = x3 at *
  generalize cmpI a.seq b.seq = x4 at *
  have e1 : (a.loan == b.loan) = decide (x1 = 0) := by rw [Bool.eq_iff_iff]; simp [c1]
  have e2 : (a.day == b.day) = decide (x2 = 0) := by rw [Bool.eq_iff_iff]; simp [c2]
  have e3 : (a.kind == b.kind) = decide (x3 = 0) := by rw [Bool.eq_iff_iff]; simp [c3]
  have e4 : (a.seq == b.seq) = decide (x4 = 0) := by rw [Bool.eq_iff_iff]; simp [c4]
  rw [e1, e2, e3, e4]
  simp only [orL, ne_eq, ite_not]
  rw [Bool.eq_iff_iff]
  simp only [Bool.and_eq_true, decide_eq_true_eq, Bool.not_eq_true', decide_eq_false_iff_not, Bool.and_true]
  by_cases h1 : x1 = 0 <;> by_cases h2 : x2 = 0 <;> by_cases h3 : x3 = 0 <;> by_cases h4 : x4 = 0 <;> simp_all <;> omega
theorem acc_min (n : Int) (h0 : 0 ≤ n) : ldV (tb 9) ((accL ++ [(⟨#[]⟩ : ByteArray)]).map Value.string) (0 + (if 10 < n then 10 else n).toNat * 1) = some (.string (accName n)) := by
  show ((accL ++ [(⟨#[]⟩ : ByteArray)]).map Value.string)[0 + (if 10 < n then 10 else n).toNat * 1]? = _
  by_cases h : 10 < n
  · rw [if_pos h]
    have : accL.length ≤ n.toNat := by show 10 ≤ _; omega
    simp only [accName, List.getElem?_eq_none this]
    rfl
  · rw [if_neg h]
    obtain ⟨m, rfl⟩ := Int.eq_ofNat_of_zero_le h0
    have hm : m ≤ 10 := by omega
    rcases (show m = 0 ∨ m = 1 ∨ m = 2 ∨ m = 3 ∨ m = 4 ∨ m = 5 ∨ m = 6 ∨ m = 7 ∨ m = 8 ∨ m = 9 ∨ m = 10 by omega) with rfl | rfl | rfl | rfl | rfl | rfl | rfl | rfl | rfl | rfl | rfl <;> rfl
theorem kind_min (n : Int) (h0 : 0 ≤ n) : ldV (tb 9) ((kindL ++ [(⟨#[]⟩ : ByteArray)]).map Value.string) (0 + (if 8 < n then 8 else n).toNat * 1) = some (.string (kindName n)) := by
  show ((kindL ++ [(⟨#[]⟩ : ByteArray)]).map Value.string)[0 + (if 8 < n then 8 else n).toNat * 1]? = _
  by_cases h : 8 < n
  · rw [if_pos h]
    have : kindL.length ≤ n.toNat := by show 8 ≤ _; omega
    simp only [kindName, List.getElem?_eq_none this]
    rfl
  · rw [if_neg h]
    obtain ⟨m, rfl⟩ := Int.eq_ofNat_of_zero_le h0
    have hm : m ≤ 8 := by omega
    rcases (show m = 0 ∨ m = 1 ∨ m = 2 ∨ m = 3 ∨ m = 4 ∨ m = 5 ∨ m = 6 ∨ m = 7 ∨ m = 8 by omega) with rfl | rfl | rfl | rfl | rfl | rfl | rfl | rfl | rfl <;> rfl
end Go.Proofs.YtfemfomgmopibaaGreatDoor
namespace Go.Proofs.YtfemfomgmopibaaGreatDoor
open Go Go.Proofs Go.Wk
theorem cl_legs {cs : List Value} : ∀ {ls : List Leg} {w : World} {I : BS}, (Cl legR cs ls).holds w I → cs = legsC ls
  | [], w, I, ⟨h, _⟩ => by simpa [legsC] using h
  | x :: r, w, I, ⟨h, hx⟩ => by
    obtain ⟨p, _, h0, _⟩ := hx 0 x rfl
    have h0 : cs.take 2 = [.int .u8 x.acct, .int .i64 x.amt] := by simpa using h0
    have ih := cl_legs (cs := cs.drop 2) (ls := r) (w := w) (I := I) ⟨by rw [List.length_drop, h]; simp; omega, fun i y hy => by
      obtain ⟨q, h1, h2, h3⟩ := hx (i + 1) y (by simpa using hy)
      refine ⟨q, h1, ?_, h3⟩
      rw [← h2, List.drop_drop]
      show ((cs.drop (2 + i * 2)).take 2) = (cs.drop ((i + 1) * 2)).take 2
      rw [show 2 + i * 2 = (i + 1) * 2 by omega]⟩
    rw [← List.take_append_drop 2 cs, h0, ih]
    rfl
theorem min_v (n : Nat) : Value.int .i64 (if (12 : Int) < (n : Int) then 12 else (n : Int)) = .int .i64 ((min n 12 : Nat) : Int) := by
  congr 1
  split <;> omega
theorem legs_one (x : Leg) : ∀ u, u ∈ ([.int .u8 x.acct, .int .i64 x.amt] : List Value) → u.oneCell' = true := by
  intro u hu
  simp only [List.mem_cons, List.not_mem_nil, or_false] at hu
  rcases hu with rfl | rfl <;> rfl
theorem legs_ok {w : World} {B : Base} {S : List Asn} {F : List Fact} (H : Hp B S F w) {A : Option Addr} {n c : Nat} {ls : List Leg} [hp : InSl F A n c legR ls] : ∀ x, x ∈ ls → inK .u8 x.acct ∧ inK .i64 x.amt := fun x hx => by
  obtain ⟨I, fp, _, ha, _⟩ := H.ex
  obtain ⟨A', c', _, _, _, _, hel⟩ := ha _ hp.mem
  obtain ⟨i, hi⟩ := List.mem_iff_getElem?.1 hx
  obtain ⟨b, o, _, _, p, hok, _⟩ := hel i x hi
  exact hok
theorem frzLegsRow {w : World} {B : Base} {S S' : List Asn} {F : List Fact} (H : Hp B S F w) {v : Value} {e n : Nat} (ls : List Leg) (hM : ∀ b, ¬ B.M b) [h1 : TakeR S v e 2 n (legsC ls) S'] (hok : ∀ x, x ∈ ls → inK .u8 x.acct ∧ inK .i64 x.amt) : Hp B S' (Sl legR v ls :: F) w := by
  have hcl : ∀ i x, ls[i]? = some x → ∃ p : Unit, (inK .u8 x.acct ∧ inK .i64 x.amt) ∧ ((legsC ls).drop (i * 2)).take 2 = [.int .u8 x.acct, .int .i64 x.amt] ∧ ([] : List Fact) = [] := fun i x hx => by
    obtain ⟨hj, _⟩ := List.getElem?_eq_some_iff.1 hx
    refine ⟨(), hok x (List.mem_of_getElem? hx), ?_, rfl⟩
    rw [legsC_drop, List.drop_eq_getElem_cons hj]
    rw [List.getElem?_eq_getElem hj] at hx
    rw [Option.some.inj hx]
    rfl
  have H2 := (H.addCl legR (cs := legsC ls) (xs := ls) (legsC_len ls) hcl).frzRow (v := v) (xs := ls) legR hM rfl (by decide)
  refine H2.facts fun I ha f hf => ha f ?_
  rcases List.mem_cons.1 hf with rfl | hf
  · exact List.mem_cons_self
  · exact List.mem_cons_of_mem _ (List.mem_cons_of_mem _ hf)
/-- A leg of the document's lies as the program's. -/
theorem own_ (k : Key) (A : Option Addr) (n c : Nat) (ls : List Leg) (hl : ls.length ≤ 1000) (w : World) (M I : BS) (hM : ∀ b, ¬ M b) (H : Hp ⟨w, M, I⟩ [] [Sl legR (.slice A n c) ls] w) :
    Ctr Tryz.prog 29 [.agg #[.int .u32 k.loan, .int .i32 k.day, .int .u8 k.kind, .int .u32 k.seq, .slice A n c]] w M I (fun a : SV => .agg #[.int .u32 k.loan, .int .i32 k.day, .int .u8 k.kind, .int .u32 k.seq, .slice a.A a.n a.c]) (fun _ => True) (fun _ => []) (fun a => [Sl legR (.slice a.A a.n a.c) ls]) := by
  obtain ⟨hn, hc, hc2⟩ := H.sll (A := A) (n := n) (c := c)
  refine Exe.of_ev tok Tryz.call29 Tryz.func29 rfl rfl rfl ?_
  refine box_as H (entC k A n c) rfl fun x w1 H1 => ?_
  refine alloc_as tok H1 zeroC rfl rfl rfl fun r w2 H2 => ?_
  refine load_rule tok H2 (v := keyV k) rfl ?_
  refine call_rule H2 (fun M I _ h => key_ k _ M I h) fun _ w3 _ H3 => ?_
  refine alloc_as tok H3 zeroC rfl rfl rfl fun o w4 H4 => ?_
  refine store_as tok H4 (entC k none 0 0) rfl rfl rfl rfl rfl fun w5 H5 => ?_
  refine load_rule tok H5 (v := .slice A n c) rfl ?_
  have H5' : Hp ⟨w, M, I⟩ [row 128 2 (.slice none 0 0) 0 [], blk o (entC k none 0 0) 64, blk r zeroC 64, blk x (entC k A n c) 39] [Sl legR (.slice A n c) ls] w5 := (Hp.nil H5 128 2).keep
  refine loop_rule tok (σ := Nat × SV) 268427296 (fun s => [(13, .int .i64 s.1)])
    (fun s w' => s.1 ≤ ls.length ∧ s.2.n = s.1 ∧ Hp ⟨w, M, I⟩ [row 128 2 (.slice s.2.A s.2.n s.2.c) s.2.n (legsC (ls.take s.1)), blk o (entC k s.2.A s.2.n s.2.c) 64, blk r zeroC 64, blk x (entC k A n c) 39] [Sl legR (.slice A n c) ls] w') (fun s => ls.length - s.1) (0, ⟨none, 0, 0⟩) rfl rfl ⟨rfl, trivial⟩
    ⟨Nat.zero_le _, rfl, H5'⟩ ?_
  rintro ⟨i, A1, n1, c1⟩ j w6 ⟨hi, hni, H6⟩
  simp only at hi hni H6
  subst hni
  refine brd (fun h5 => ?_) (fun h5 => ?_)
  · refine idx_rule tok H6 rfl rfl rfl (by omega) h5 fun eb eo y hy H7 => ?_
    refine ldp_rule tok H7 rfl rfl rfl fun _ hok H8 => ?_
    refine alloc_rule tok H8 rfl rfl fun lb w7 H9 => ?_
    refine store_as tok H9 [.int .u8 y.acct, .int .i64 y.amt] rfl rfl rfl rfl rfl fun w8 H10 => ?_
    refine load_rule tok H10 (v := .slice A1 n1 c1) rfl ?_
    refine load_rule tok H10 rfl ?_
    refine load_rule tok H10 rfl ?_
    refine slice_as tok H10 [.int .u8 y.acct, .int .i64 y.amt] rfl rfl rfl rfl rfl rfl fun g w9 H11 => ?_
    refine append_rule (v := .slice A1 n1 c1) (b := g) (m := 1) (c := 1) tok H11 rfl rfl rfl rfl rfl rfl rfl rfl ?_ (by omega) fun A2 c2 w10 H12 => ?_
    · show (n1 + 1) * 16 ≤ _
      omega
    refine store_as tok H12 (entC k A2 (n1 + 1) c2) rfl rfl rfl rfl rfl fun w11 H13 => ?_
    have hy' : ls[n1]? = some y := by simpa using hy
    have e : legsC (ls.take (n1 + 1)) = legsC (ls.take n1) ++ [.int .u8 y.acct, .int .i64 y.amt] := by
      rw [List.take_add_one, hy', legsC_app]; rfl
    refine Exists.intro (n1 + 1, ⟨A2, n1 + 1, c2⟩) (And.intro ⟨?_, trivial⟩ (And.intro ?_ ⟨?_, rfl, ?_⟩))
    · show Value.int .i64 (IntKind.i64.wrap (n1 + 1)) = _
      rw [w64 (by omega) (by omega)]; rfl
    · simp only; omega
    · simp only; omega
    · simp only [e]
      exact H13.keep
  · obtain rfl : n1 = ls.length := by omega
    rw [List.take_of_length_le (Nat.le_refl _)] at H6
    refine load_rule tok H6 (v := .agg #[.int .u32 k.loan, .int .i32 k.day, .int .u8 k.kind, .int .u32 k.seq, .slice A1 ls.length c1]) rfl ?_
    refine store_as tok H6 (entC k A1 ls.length c1) rfl rfl rfl rfl rfl fun w7 H7 => ?_
    refine Exists.intro ⟨r, 0, none⟩ (Exists.intro (.agg #[.int .u32 k.loan, .int .i32 k.day, .int .u8 k.kind, .int .u32 k.seq, .slice A1 ls.length c1]) (And.intro rfl (And.intro (Hp.ld (T := tb) tok H7 rfl) ?_)))
    have H8 := frzLegsRow (v := .slice A1 ls.length c1) H7 ls hM (legs_ok H (A := A) (n := n) (c := c))
    exact Exists.intro ⟨A1, ls.length, c1⟩ (And.intro rfl (And.intro trivial (Hp.keep H8)))
end Go.Proofs.YtfemfomgmopibaaGreatDoor
/- The document's own sum, and its entry: the walk. -/
namespace Go.Proofs.YtfemfomgmopibaaGreatDoor
open Go Go.Proofs Go.Wk
def addR (a b : Int) : Value := if in64 (a + b) then .tuple #[.int .i64 (a + b), .bool true] else .tuple #[.int .i64 0, .bool false]
theorem addR_no {a b : Int} (en : in64 (a + b) = false) : Value.tuple #[.int .i64 0, .bool false] = addR a b := by unfold addR; rw [en]; rfl
theorem addR_ok {a b : Int} (en : in64 (a + b) = true) : Value.tuple #[.int .i64 (a + b), .bool true] = addR a b := by unfold addR; rw [en]; rfl
theorem addRef (a b : Int) (ha : inK .i64 a) (hb : inK .i64 b) : CB 55 [.int .i64 a, .int .i64 b] (addR a b) := by
  intro w M I H
  obtain ⟨a1, a2⟩ := ha
  obtain ⟨b1, b2⟩ := hb
  simp only [kLo, kHi] at a1 a2 b1 b2
  have enh : 9223372036854775807 < a + b → in64 (a + b) = false := fun h => by unfold in64; rw [decide_eq_false (show ¬ a + b ≤ 9223372036854775807 by omega), Bool.and_false]
  have enl : a + b < -9223372036854775808 → in64 (a + b) = false := fun h => by unfold in64; rw [decide_eq_false (show ¬ -9223372036854775808 ≤ a + b by omega), Bool.false_and]
  have eno : -9223372036854775808 ≤ a + b → a + b ≤ 9223372036854775807 → in64 (a + b) = true := fun h h' => by unfold in64; rw [decide_eq_true h, decide_eq_true h']; rfl
  have fin : -9223372036854775808 ≤ a + b → a + b ≤ 9223372036854775807 → Value.tuple #[.int .i64 (IntKind.i64.wrap (a + b)), .bool true] = addR a b := fun h h' => by
    rw [w64 h h']; exact addR_ok (eno h h')
  refine Exe.of_ev tok Tryz.call55 Tryz.func55 rfl rfl rfl ?_
  refine brd (fun q => ?_) (fun q => ?_)
  · have e : IntKind.i64.wrap (9223372036854775807 - b) = 9223372036854775807 - b := w64 (by omega) (by omega)
    refine brd (fun q2 => ?_) (fun q2 => ?_)
    · have q2 : IntKind.i64.wrap (9223372036854775807 - b) < a := q2
      rw [e] at q2
      exact Exists.intro () (And.intro (addR_no (enh (by omega))) (And.intro trivial H))
    · have q2 : ¬ IntKind.i64.wrap (9223372036854775807 - b) < a := q2
      rw [e] at q2
      refine brd (fun q3 => ?_) (fun q3 => ?_)
      · exact absurd q3 (show ¬ b < 0 by omega)
      · exact Exists.intro () (And.intro (fin (by omega) (by omega)) (And.intro trivial H))
  · refine brd (fun q2 => ?_) (fun q2 => ?_)
    · have e : IntKind.i64.wrap (-9223372036854775808 - b) = -9223372036854775808 - b := w64 (by omega) (by omega)
      refine brd (fun q3 => ?_) (fun q3 => ?_)
      · have q3 : a < IntKind.i64.wrap (-9223372036854775808 - b) := q3
        rw [e] at q3
        exact Exists.intro () (And.intro (addR_no (enl (by omega))) (And.intro trivial H))
      · have q3 : ¬ a < IntKind.i64.wrap (-9223372036854775808 - b) := q3
        rw [e] at q3
        exact Exists.intro () (And.intro (fin (by omega) (by omega)) (And.intro trivial H))
    · exact Exists.intro () (And.intro (fin (by omega) (by omega)) (And.intro trivial H))
/-- The sum of an account's legs, left to right: none at too great a sum. -/
def accGo (k : Int) : List Leg → Int → Bool → Option (Int × Bool)
  | [], s, b => some (s, b)
  | l :: r, s, b => if l.acct = k then (if in64 (s + l.amt) then accGo k r (s + l.amt) true else none) else accGo k r s b
/-- The document's entry: account by account. -/
def refGo (ls : List Leg) : Nat → Nat → List Leg → List Leg
  | 0, _, out => out
  | d + 1, k, out => match accGo k ls 0 false with
    | none => []
    | some (s, b) => refGo ls d (k + 1) (if b then out ++ [⟨k, s⟩] else out)
theorem accGo_in (k : Int) : ∀ (ls : List Leg) (s : Int) (b : Bool) (p : Int × Bool), inK .i64 s → accGo k ls s b = some p → inK .i64 p.1
  | [], s, b, p, hs, h => by simp only [accGo, Option.some.injEq] at h; subst h; exact hs
  | l :: r, s, b, p, hs, h => by
    unfold accGo at h
    split at h
    · split at h
      · rename_i en
        simp only [in64, Bool.and_eq_true, decide_eq_true_eq] at en
        exact accGo_in k r _ _ p ⟨en.1, en.2⟩ h
      · cases h
    · exact accGo_in k r s b p hs h
def refMade (ls : List Leg) : List Leg := refGo ls 256 0 []
def RefAt (ls : List Leg) (i : Nat) (out : List Leg) : Prop := ∃ d, i + d = 256 ∧ refMade ls = refGo ls d i out
theorem refGo_zero (ls : List Leg) : RefAt ls 0 [] := ⟨256, rfl, rfl⟩
end Go.Proofs.YtfemfomgmopibaaGreatDoor
/- The document's word on entries that are alike, and on those that may be: the walk. -/
namespace Go.Proofs.YtfemfomgmopibaaGreatDoor
open Go Go.Proofs Go.Wk
def legEq (x y : Leg) : Bool := x.acct == y.acct && (x.amt == y.amt && true)
def legsEq : List Leg → List Leg → Bool
  | [], [] => true
  | x :: r, y :: s => legEq x y && legsEq r s
  | _, _ => false
def sameB (k l : Key) (a b : List Leg) : Bool := eqK k l && legsEq a b
theorem legsEq_len : ∀ {a b : List Leg}, a.length ≠ b.length → legsEq a b = false
  | [], [], h => absurd rfl h
  | [], _ :: _, _ => rfl
  | _ :: _, [], _ => rfl
  | x :: r, y :: s, h => by
    rw [legsEq, legsEq_len (by simpa using h), Bool.and_false]
end Go.Proofs.YtfemfomgmopibaaGreatDoor
/- Which entries may be, by the document: the walk. -/
namespace Go.Proofs.YtfemfomgmopibaaGreatDoor
open Go Go.Proofs Go.Wk
def rGo : List Leg → Option Int → Int → Bool
  | [], _, s => s == 0
  | l :: r, p, s => bif in64 (s + l.amt) then (bif decide (l.acct < 1) then false else bif decide (9 < l.acct) then false else bif (match p with
    | none => false
    | some a => decide (l.acct ≤ a)) then false else rGo r (some l.acct) (s + l.amt)) else false
def rightR (k : Key) (ls : List Leg) : Bool := bif decide (k.kind < 1) then false else bif decide (7 < k.kind) then false else bif decide (k.day < 0) then false else bif decide (3652058 < k.day) then false else
  bif decide ((ls.length : Int) < 1) then false else bif decide (8 < (ls.length : Int)) then false else rGo ls none 0
theorem rightRef (k : Key) (A : Option Addr) (n c : Nat) (ls : List Leg) (hn : n = ls.length) (w : World) (M I : BS) (H : Hp ⟨w, M, I⟩ [] [Sl legR (.slice A n c) ls] w) :
    Ctr Tryz.prog 57 [.agg #[.int .u32 k.loan, .int .i32 k.day, .int .u8 k.kind, .int .u32 k.seq, .slice A n c]] w M I (fun _ : Unit => .bool (rightR k ls)) (fun _ => True) (fun _ => []) (fun _ => []) := by
  subst hn
  obtain ⟨_, hc, hc2⟩ := H.sll (A := A) (n := ls.length) (c := c)
  refine Exe.of_ev tok Tryz.call57 Tryz.func57 rfl rfl rfl ?_
  refine box_as H (entC k A ls.length c) rfl fun b w1 H1 => ?_
  refine load_rule tok H1 rfl ?_
  refine brd (fun h => ?_) (fun h1 => ?_)
  · refine Exists.intro () (And.intro (congrArg Value.bool ?_) (And.intro trivial (Hp.keep H1)))
    rw [rightR, decide_eq_true h]; rfl
  refine load_rule tok H1 rfl ?_
  refine brd (fun h => ?_) (fun h2 => ?_)
  · refine Exists.intro () (And.intro (congrArg Value.bool ?_) (And.intro trivial (Hp.keep H1)))
    rw [rightR, decide_eq_false h1, decide_eq_true h]; rfl
  refine load_rule tok H1 rfl ?_
  refine brd (fun h => ?_) (fun h3 => ?_)
  · refine Exists.intro () (And.intro (congrArg Value.bool ?_) (And.intro trivial (Hp.keep H1)))
    rw [rightR, decide_eq_false h1, decide_eq_false h2, decide_eq_true h]; rfl
  refine load_rule tok H1 rfl ?_
  refine brd (fun h => ?_) (fun h4 => ?_)
  · refine Exists.intro () (And.intro (congrArg Value.bool ?_) (And.intro trivial (Hp.keep H1)))
    rw [rightR, decide_eq_false h1, decide_eq_false h2, decide_eq_false h3, decide_eq_true h]; rfl
  refine load_rule tok H1 (v := .slice A ls.length c) rfl ?_
  refine brd (fun h => ?_) (fun h5 => ?_)
  · refine Exists.intro () (And.intro (congrArg Value.bool ?_) (And.intro trivial (Hp.keep H1)))
    rw [rightR, decide_eq_false h1, decide_eq_false h2, decide_eq_false h3, decide_eq_false h4, decide_eq_true h]; rfl
  refine load_rule tok H1 (v := .slice A ls.length c) rfl ?_
  refine brd (fun h => ?_) (fun h6 => ?_)
  · refine Exists.intro () (And.intro (congrArg Value.bool ?_) (And.intro trivial (Hp.keep H1)))
    rw [rightR, decide_eq_false h1, decide_eq_false h2, decide_eq_false h3, decide_eq_false h4, decide_eq_false h5, decide_eq_true h]; rfl
  have hR : rightR k ls = rGo ls none 0 := by rw [rightR, decide_eq_false h1, decide_eq_false h2, decide_eq_false h3, decide_eq_false h4, decide_eq_false h5, decide_eq_false h6]; rfl
  rw [hR]
  have hpos : 0 < ls.length := by omega
  obtain ⟨b1, o1, hA⟩ := Hp.slAt (A := A) (n := ls.length) (c := c) (r := legR) (xs := ls) H1 hpos
  subst hA
  refine load_rule tok H1 (v := .slice (some ⟨b1, o1, none⟩) ls.length c) rfl ?_
  refine loop_rule tok (σ := Nat × Int) 154742504910637349990301948 (fun s => [(3, .int .i64 s.2), (45, .int .i64 s.1)])
    (fun s w' => s.1 ≤ ls.length ∧ inK .i64 s.2 ∧ (∃ p : Option Int, rGo ls none 0 = rGo (ls.drop s.1) p s.2 ∧ (s.1 = 0 → p = none) ∧ ∀ i', s.1 = i' + 1 → ∃ u, ls[i']? = some u ∧ p = some u.acct) ∧ Hp ⟨w, M, I⟩ [blk b (entC k (some ⟨b1, o1, none⟩) ls.length c) 64] [Sl legR (.slice (some ⟨b1, o1, none⟩) ls.length c) ls] w') (fun s => ls.length - s.1) (0, 0) rfl rfl ⟨rfl, rfl, trivial⟩
    ⟨Nat.zero_le _, ⟨by simp [kLo], by simp [kHi]⟩, ⟨none, rfl, fun _ => rfl, fun i' h => by cases h⟩, H1⟩ ?_
  rintro ⟨i, s⟩ j w2 ⟨hi, hs, ⟨p, hg, hp0, hp1⟩, H2⟩
  simp only at hi hs hg hp0 hp1 H2
  refine brd (fun h7 => ?_) (fun h7 => ?_)
  · have hil : i < ls.length := by omega
    refine Exists.elim (show ∃ x, ls[i]? = some x from ⟨_, List.getElem?_eq_getElem hil⟩) fun x hx => ?_
    have hd : ls.drop i = x :: ls.drop (i + 1) := by
      rw [List.drop_eq_getElem_cons hil]
      rw [List.getElem?_eq_getElem hil] at hx
      rw [Option.some.inj hx]
    have hok := legs_ok H (A := some ⟨b1, o1, none⟩) (n := ls.length) (c := c) x (List.mem_of_getElem? hx)
    have i1 : (0 : Int) ≤ (i : Int) := by omega
    have i2 : (i : Int) < ls.length := h7
    refine idx_own tok rfl rfl i1 i2 ?_
    refine sl_ld (o := o1) (n := ls.length) (c := c) (j := i) (f := 0) (r := legR) (xs := ls) (x := x) tok H2 (legV x) hx rfl (fun _ _ => rfl) ?_
    refine alloc_rule tok H2 rfl rfl fun lb w3 H3 => ?_
    refine store_as tok H3 [.int .u8 x.acct, .int .i64 x.amt] rfl rfl rfl rfl rfl fun w4 H4 => ?_
    refine load_rule tok H4 rfl ?_
    have hprev : 0 < i → ∃ u, ls[(IntKind.i64.wrap ((i : Int) - 1)).toNat]? = some u ∧ p = some u.acct := fun h => by
      obtain ⟨u, h1, h2⟩ := hp1 (i - 1) (by omega)
      refine ⟨u, ?_, h2⟩
      rw [w64 (by omega) (by omega), show ((i : Int) - 1).toNat = i - 1 by omega]
      exact h1
    have nxt : Value.int .i64 (IntKind.i64.wrap (i + 1)) = .int .i64 ((i + 1 : Nat) : Int) := by rw [w64 (by omega) (by omega)]; rfl
    have hpz : ¬ (0 : Int) < (i : Int) → p = none := fun h => hp0 (by omega)
    have j1 : (0 : Int) < (i : Int) → (0 : Int) ≤ IntKind.i64.wrap ((i : Int) - 1) := fun h => by rw [w64 (by omega) (by omega)]; omega
    have j2 : (0 : Int) < (i : Int) → IntKind.i64.wrap ((i : Int) - 1) < ls.length := fun h => by rw [w64 (by omega) (by omega)]; omega
    refine Or.elim (show in64 (s + x.amt) = true ∨ in64 (s + x.amt) = false by cases in64 (s + x.amt) <;> simp) (fun en => ?_) (fun en => ?_)
    · refine call_rule H4 (fun M I _ h => (addR_ok en).symm ▸ addRef _ _ hs hok.2 _ M I h) fun _ w5 _ H5 => ?_
      refine draw_rule (A := []) tok tdr H5 [0, 1, 2, 3, 4, 5, 6, 7, 8, 9, 10, 11, 12, 13, 14, 15, 16, 17, 18, 19, 20, 21, 22, 23, 24, 25, 26, 27] [0, 1, 3, 7, 15, 31, 63, 127, 255, 511, 1023, 2047, 4095, 8191, 16383, 32767, 65535, 131071, 65535, 327679, 65535, 1114111, 3997695, 8191999, 16580607, 33554431, 67108863, 134217727] rfl ?_
      refine pass_rule _ (fun w h => load_rule tok h (v := .int .u8 x.acct) rfl ⟨rfl, rfl⟩) ?_
      refine brd (fun g1 => ?_) (fun g1 => ?_)
      · refine done_rule fun w6 H6 => ?_
        refine Exists.intro () (And.intro (congrArg Value.bool ?_) (And.intro trivial (Hp.keep H6)))
        have e : rGo ls none 0 = false := by rw [hg, hd]; simp only [rGo, en, decide_eq_true g1, cond_true]
        rw [e]
      refine pass_rule _ (fun w h => load_rule tok h (v := .int .u8 x.acct) rfl ⟨rfl, rfl⟩) ?_
      refine brd (fun g2 => ?_) (fun g2 => ?_)
      · refine done_rule fun w6 H6 => ?_
        refine Exists.intro () (And.intro (congrArg Value.bool ?_) (And.intro trivial (Hp.keep H6)))
        have e : rGo ls none 0 = false := by rw [hg, hd]; simp only [rGo, en, decide_eq_false g1, decide_eq_true g2, cond_true, cond_false]
        rw [e]
      have en' : -9223372036854775808 ≤ s + x.amt ∧ s + x.amt ≤ 9223372036854775807 := by
        simp only [in64, Bool.and_eq_true, decide_eq_true_eq] at en
        exact en
      have on : ∀ w6, (match p with | none => false | some a => decide (x.acct ≤ a)) = false → Hp ⟨w, M, I⟩ [blk b (entC k (some ⟨b1, o1, none⟩) ls.length c) 64] [Sl legR (.slice (some ⟨b1, o1, none⟩) ls.length c) ls] w6 → (i + 1 ≤ ls.length ∧ inK .i64 (s + x.amt) ∧ (∃ p : Option Int, rGo ls none 0 = rGo (ls.drop (i + 1)) p (s + x.amt) ∧ (i + 1 = 0 → p = none) ∧ ∀ i', i + 1 = i' + 1 → ∃ u, ls[i']? = some u ∧ p = some u.acct) ∧ Hp ⟨w, M, I⟩ [blk b (entC k (some ⟨b1, o1, none⟩) ls.length c) 64] [Sl legR (.slice (some ⟨b1, o1, none⟩) ls.length c) ls] w6) := fun w6 hm h6 =>
        ⟨by omega, ⟨en'.1, en'.2⟩, ⟨some x.acct, by rw [hg, hd]; simp only [rGo, en, decide_eq_false g1, decide_eq_false g2, hm, cond_true, cond_false], fun h => by omega, fun i' h => ⟨x, by rw [← Nat.succ.inj h]; exact hx, rfl⟩⟩, h6⟩
      refine brd (fun g3 => ?_) (fun g3 => ?_)
      · refine Exists.elim (hprev (by omega)) fun u hu => ?_
        refine pass_rule _ (fun w h => load_rule tok h (v := .int .u8 x.acct) rfl ⟨rfl, rfl⟩) ?_
        refine pass_rule _ (fun w h => load_rule tok h (v := .slice (some ⟨b1, o1, none⟩) ls.length c) rfl ⟨rfl, rfl⟩) ?_
        refine pass_rule _ (fun w h => idx_own tok rfl rfl (j1 g3) (j2 g3) ⟨rfl, rfl⟩) ?_
        refine pass_rule _ (fun w h => sl_ld (o := o1) (n := ls.length) (c := c) (j := (IntKind.i64.wrap ((i : Int) - 1)).toNat) (f := 0) (r := legR) (xs := ls) (x := u) tok h (.int .u8 u.acct) hu.1 rfl (fun _ _ => rfl) ⟨rfl, rfl⟩) ?_
        refine done_rule fun w6 H6 => ?_
        refine brd (fun g4 => ?_) (fun g4 => ?_)
        · refine Exists.intro () (And.intro (congrArg Value.bool ?_) (And.intro trivial (Hp.keep H6)))
          have e : rGo ls none 0 = false := by rw [hg, hd, hu.2]; simp only [rGo, en, decide_eq_false g1, decide_eq_false g2, decide_eq_true g4, cond_true, cond_false]
          rw [e]
        · refine Exists.intro (i + 1, s + x.amt) (And.intro ⟨rfl, nxt, trivial⟩ (And.intro ?_ (on w6 ?_ (Hp.keep H6))))
          · simp only; omega
          · rw [hu.2]; exact decide_eq_false g4
      · refine done_rule fun w6 H6 => ?_
        refine Exists.intro (i + 1, s + x.amt) (And.intro ⟨rfl, nxt, trivial⟩ (And.intro ?_ (on w6 ?_ (Hp.keep H6))))
        · simp only; omega
        · rw [hpz g3]
    · refine call_rule H4 (fun M I _ h => (addR_no en).symm ▸ addRef _ _ hs hok.2 _ M I h) fun _ w5 _ H5 => ?_
      refine draw_rule (A := []) tok tdr H5 [0, 1, 2, 3, 4, 5, 6, 7, 8, 9, 10, 11, 12, 13, 14, 15, 16, 17, 18, 19, 20, 21, 22, 23, 24, 25, 26, 27] [0, 1, 3, 7, 15, 31, 63, 127, 255, 511, 1023, 2047, 4095, 8191, 16383, 32767, 65535, 131071, 65535, 327679, 65535, 1114111, 3997695, 8191999, 16580607, 33554431, 67108863, 134217727] rfl ?_
      refine done_rule fun w6 H6 => ?_
      refine Exists.intro () (And.intro (congrArg Value.bool ?_) (And.intro trivial (Hp.keep H6)))
      have e : rGo ls none 0 = false := by rw [hg, hd]; simp only [rGo, en, cond_false]
      rw [e]
  · refine Exists.intro () (And.intro (congrArg Value.bool ?_) (And.intro trivial (Hp.keep H2)))
    rw [hg, List.drop_eq_nil_of_le (by omega)]; rfl
end Go.Proofs.YtfemfomgmopibaaGreatDoor
/- Legs of any order make the document's entry: the walk. -/
namespace Go.Proofs.YtfemfomgmopibaaGreatDoor
open Go Go.Proofs Go.Wk
/-- What the law asks of plain lists. -/
structure MakesOk (k : Key) (ls out : List Leg) : Prop where
  len : out.length ≤ 1000
  same : sameB k k out (refMade ls) = true
  right : rightB k out = rightR k (refMade ls)
  raw : rightB k ls = rightR k ls
end Go.Proofs.YtfemfomgmopibaaGreatDoor
/- The program's word on entries that may be is the document's. -/
namespace Go.Proofs.YtfemfomgmopibaaGreatDoor
open Go Go.Proofs Go.Wk
theorem noB_acc (a : Int) (h0 : 0 ≤ a) (h1 : a ≤ 255) : noB (accName a) = (decide (a < 1) || decide (9 < a)) := by
  rcases (show a = 0 ∨ a = 1 ∨ a = 2 ∨ a = 3 ∨ a = 4 ∨ a = 5 ∨ a = 6 ∨ a = 7 ∨ a = 8 ∨ a = 9 ∨ 9 < a by omega) with rfl | rfl | rfl | rfl | rfl | rfl | rfl | rfl | rfl | rfl | h
  all_goals first | decide +kernel | skip
  have : accL.length ≤ a.toNat := by show 10 ≤ _; omega
  rw [decide_eq_true h, Bool.or_true]
  unfold accName
  rw [List.getElem?_eq_none this]
  decide +kernel
theorem noB_kind (a : Int) (h0 : 0 ≤ a) (h1 : a ≤ 255) : noB (kindName a) = (decide (a < 1) || decide (7 < a)) := by
  rcases (show a = 0 ∨ a = 1 ∨ a = 2 ∨ a = 3 ∨ a = 4 ∨ a = 5 ∨ a = 6 ∨ a = 7 ∨ 7 < a by omega) with rfl | rfl | rfl | rfl | rfl | rfl | rfl | rfl | h
  all_goals first | decide +kernel | skip
  have : kindL.length ≤ a.toNat := by show 8 ≤ _; omega
  rw [decide_eq_true h, Bool.or_true]
  unfold kindName
  rw [List.getElem?_eq_none this]
  decide +kernel
theorem rightGo_r : ∀ (ls : List Leg) (p : Option Int) (s : Int), (∀ x, x ∈ ls → inK .u8 x.acct) → (∀ a, p = some a → 1 ≤ a) → rightGo s (p.getD 0) ls = rGo ls p s
  | [], _, _, _, _ => rfl
  | l :: r, p, s, hr, hp => by
    obtain ⟨h0, h1⟩ := hr l List.mem_cons_self
    simp only [kLo, kHi] at h0 h1
    unfold rightGo rGo
    rw [noB_acc l.acct h0 h1]
    cases hin : in64 (s + l.amt) with
    | false => rfl
    | true =>
      simp only [cond_true]
      by_cases q1 : l.acct < 1
      · have : l.acct ≤ p.getD 0 := by
          cases p with
          | none => simp only [Option.getD_none]; omega
          | some a => have := hp a rfl; simp only [Option.getD_some]; omega
        simp [q1, this]
      · by_cases q2 : 9 < l.acct
        · simp [q1, q2]
        · have ih := rightGo_r r (some l.acct) (s + l.amt) (fun x hx => hr x (List.mem_cons_of_mem _ hx)) (fun a ha => by cases ha; omega)
          simp only [Option.getD_some] at ih
          cases p with
          | none =>
            have : ¬ l.acct ≤ 0 := by omega
            simp [q1, q2, this, ih]
          | some a => simp [q1, q2, ih]
theorem rights (k : Key) (hk : inK .u8 k.kind) (ls : List Leg) (hr : ∀ x, x ∈ ls → inK .u8 x.acct) : rightB k ls = rightR k ls := by
  obtain ⟨h0, h1⟩ := hk
  simp only [kLo, kHi] at h0 h1
  unfold rightB rightR dayB
  rw [noB_kind k.kind h0 h1, ← rightGo_r ls none 0 hr (fun a ha => by cases ha)]
  by_cases q1 : k.kind < 1
  · simp [q1]
  · by_cases q2 : 7 < k.kind
    · simp [q1, q2]
    · by_cases q3 : k.day < 0
      · have : ¬ 0 ≤ k.day := by omega
        simp [q1, q2, q3, this]
      · by_cases q4 : 3652058 < k.day
        · have : ¬ k.day ≤ 3652058 := by omega
          simp [q1, q2, q3, q4, this]
        · have e1 : 0 ≤ k.day := by omega
          have e2 : k.day ≤ 3652058 := by omega
          cases ls with
          | nil => simp [q1, q2, q3, q4, e1, e2]
          | cons x r =>
            have e3 : ((((x :: r).length : Nat) : Int) == 0) = false := by simp; omega
            have e4 : ¬ (((x :: r).length : Nat) : Int) < 1 := by simp; omega
            simp only [e3, e4, q1, q2, q3, q4, e1, e2, decide_true, decide_false, Bool.or_self, Bool.and_self, Bool.not_true, cond_false, Option.getD_none]
end Go.Proofs.YtfemfomgmopibaaGreatDoor
/- Legs summed one by one, and account by account: the same. -/
namespace Go.Proofs.YtfemfomgmopibaaGreatDoor
open Go Go.Proofs Go.Wk
theorem lk_putL {a k : Int} {v : Int} : ∀ {m : List (Int × Int)}, lk k (putL a v m) = if a = k then some v else lk k m
  | [] => by
    unfold putL lk
    by_cases h : a = k
    · simp [h]
    · simp [h, lk]
  | q :: m => by
    unfold putL
    by_cases hq : q.1 = a
    · rw [if_pos hq]
      unfold lk
      by_cases h : a = k
      · simp [h]
      · have : q.1 ≠ k := by rw [hq]; exact h
        simp [h, this]
    · rw [if_neg hq]
      unfold lk
      rw [lk_putL (m := m)]
      by_cases h : a = k
      · subst h; simp [hq]
      · simp [h]
theorem sum_acc : ∀ (ls : List Leg) (m : List (Int × Int)), match sumGo ls m with
    | some m' => ∀ k, accGo k ls ((lk k m).getD 0) (lk k m).isSome = some ((lk k m').getD 0, (lk k m').isSome)
    | none => ∃ l, l ∈ ls ∧ accGo l.acct ls ((lk l.acct m).getD 0) (lk l.acct m).isSome = none
  | [], m => by simp [sumGo, accGo]
  | l :: r, m => by
    unfold sumGo
    by_cases hin : in64 ((lk l.acct m).getD 0 + l.amt) = true
    · rw [if_pos hin]
      have ih := sum_acc r (putL l.acct ((lk l.acct m).getD 0 + l.amt) m)
      have step : ∀ k, accGo k (l :: r) ((lk k m).getD 0) (lk k m).isSome = accGo k r ((lk k (putL l.acct ((lk l.acct m).getD 0 + l.amt) m)).getD 0) (lk k (putL l.acct ((lk l.acct m).getD 0 + l.amt) m)).isSome := fun k => by
        rw [lk_putL]
        by_cases hk : l.acct = k
        · subst hk; simp [accGo, hin]
        · simp [accGo, hk]
      cases hs : sumGo r (putL l.acct ((lk l.acct m).getD 0 + l.amt) m) with
      | some m' => rw [hs] at ih; exact fun k => (step k).trans (ih k)
      | none =>
        rw [hs] at ih
        obtain ⟨x, hx, h⟩ := ih
        exact ⟨x, List.mem_cons_of_mem _ hx, (step _).trans h⟩
    · rw [if_neg hin]
      exact ⟨l, List.mem_cons_self, by simp [accGo, hin]⟩
/-- What the document lists from an account on. -/
def refL (ls : List Leg) : Nat → Nat → List Leg
  | 0, _ => []
  | d + 1, k => match accGo k ls 0 false with
    | some (s, true) => ⟨k, s⟩ :: refL ls d (k + 1)
    | _ => refL ls d (k + 1)
theorem refGo_none {ls : List Leg} : ∀ (d k : Nat) (out : List Leg) (j : Nat), k ≤ j → j < k + d → accGo j ls 0 false = none → refGo ls d k out = []
  | 0, k, out, j, h1, h2, _ => by omega
  | d + 1, k, out, j, h1, h2, h => by
    unfold refGo
    cases hk : accGo k ls 0 false with
    | none => rfl
    | some p =>
      obtain ⟨s, b⟩ := p
      have hne : j ≠ k := fun e => by rw [e, hk] at h; cases h
      exact refGo_none d (k + 1) _ j (by omega) (by omega) h
theorem refGo_some {ls : List Leg} : ∀ (d k : Nat) (out : List Leg), (∀ j : Nat, accGo j ls 0 false ≠ none) → refGo ls d k out = out ++ refL ls d k
  | 0, k, out, _ => by simp [refGo, refL]
  | d + 1, k, out, h => by
    unfold refGo refL
    cases hk : accGo k ls 0 false with
    | none => exact absurd hk (h k)
    | some p =>
      obtain ⟨s, b⟩ := p
      cases b with
      | false => exact refGo_some d (k + 1) _ h
      | true =>
        simp only [if_true]
        rw [refGo_some d (k + 1) _ h]; simp
theorem mem_refL {ls : List Leg} {x : Leg} : ∀ (d k : Nat), x ∈ refL ls d k → ∃ j : Nat, k ≤ j ∧ j < k + d ∧ x.acct = j ∧ accGo j ls 0 false = some (x.amt, true)
  | 0, k, h => by simp [refL] at h
  | d + 1, k, h => by
    unfold refL at h
    split at h
    · rename_i s hk
      rcases List.mem_cons.1 h with rfl | h
      · exact ⟨k, by omega, by omega, rfl, hk⟩
      · obtain ⟨j, h1, h2, h3⟩ := mem_refL d (k + 1) h
        exact ⟨j, by omega, by omega, h3⟩
    · obtain ⟨j, h1, h2, h3⟩ := mem_refL d (k + 1) h
      exact ⟨j, by omega, by omega, h3⟩
theorem refL_mem {ls : List Leg} {j : Nat} {s : Int} (h : accGo j ls 0 false = some (s, true)) : ∀ (d k : Nat), k ≤ j → j < k + d → (⟨j, s⟩ : Leg) ∈ refL ls d k
  | 0, k, h1, h2 => by omega
  | d + 1, k, h1, h2 => by
    unfold refL
    by_cases hk : j = k
    · subst hk
      rw [h]; exact List.mem_cons_self
    · have ih := refL_mem h d (k + 1) (by omega) (by omega)
      split
      · exact List.mem_cons_of_mem _ ih
      · exact ih
def rise (l : List Leg) : Prop := l.Pairwise fun a b => a.acct < b.acct
theorem refL_rise {ls : List Leg} : ∀ (d k : Nat), rise (refL ls d k)
  | 0, k => List.Pairwise.nil
  | d + 1, k => by
    unfold refL
    split
    · refine List.pairwise_cons.2 ⟨fun y hy => ?_, refL_rise d (k + 1)⟩
      obtain ⟨j, h1, h2, h3, _⟩ := mem_refL d (k + 1) hy
      rw [h3]; simp only; omega
    · exact refL_rise d (k + 1)
theorem rise_eq : ∀ {a b : List Leg}, rise a → rise b → (∀ x, x ∈ a ↔ x ∈ b) → a = b
  | [], [], _, _, _ => rfl
  | [], y :: b, _, _, h => absurd ((h y).2 List.mem_cons_self) (by simp)
  | x :: a, [], _, _, h => absurd ((h x).1 List.mem_cons_self) (by simp)
  | x :: a, y :: b, ha, hb, h => by
    obtain ⟨ha1, ha2⟩ := List.pairwise_cons.1 ha
    obtain ⟨hb1, hb2⟩ := List.pairwise_cons.1 hb
    have hxy : x = y := by
      rcases List.mem_cons.1 ((h x).1 List.mem_cons_self) with e | e
      · exact e
      · rcases List.mem_cons.1 ((h y).2 List.mem_cons_self) with e2 | e2
        · exact e2.symm
        · have q1 := hb1 x e
          have q2 := ha1 y e2
          omega
    subst hxy
    rw [rise_eq ha2 hb2 fun z => ⟨fun hz => ?_, fun hz => ?_⟩]
    · rcases List.mem_cons.1 ((h z).1 (List.mem_cons_of_mem _ hz)) with e | e
      · have := ha1 z hz; rw [e] at this; omega
      · exact e
    · rcases List.mem_cons.1 ((h z).2 (List.mem_cons_of_mem _ hz)) with e | e
      · have := hb1 z hz; rw [e] at this; omega
      · exact e
theorem putL_keys {a v : Int} : ∀ {m : List (Int × Int)} (k : Int), k ∈ (putL a v m).map Prod.fst → k = a ∨ k ∈ m.map Prod.fst
  | [], k, h => by simpa [putL] using h
  | q :: m, k, h => by
    unfold putL at h
    split at h
    · simp only [List.map_cons, List.mem_cons] at h ⊢
      exact h.imp id .inr
    · simp only [List.map_cons, List.mem_cons] at h ⊢
      rcases h with h | h
      · exact .inr (.inl h)
      · exact (putL_keys k h).imp id .inr
theorem putL_nodup {a v : Int} : ∀ {m : List (Int × Int)}, (m.map Prod.fst).Nodup → ((putL a v m).map Prod.fst).Nodup
  | [], _ => by simp [putL]
  | q :: m, h => by
    simp only [List.map_cons, List.nodup_cons] at h
    unfold putL
    split
    · rename_i hq
      simp only [List.map_cons, List.nodup_cons]
      rw [← hq]; exact h
    · rename_i hq
      simp only [List.map_cons, List.nodup_cons]
      exact ⟨fun hm => (putL_keys _ hm).elim hq h.1, putL_nodup h.2⟩
theorem sumGo_nodup : ∀ {ls : List Leg} {m m' : List (Int × Int)}, (m.map Prod.fst).Nodup → sumGo ls m = some m' → (m'.map Prod.fst).Nodup
  | [], m, m', h, e => by simp only [sumGo, Option.some.injEq] at e; subst e; exact h
  | l :: r, m, m', h, e => by
    unfold sumGo at e
    split at e
    · exact sumGo_nodup (putL_nodup h) e
    · cases e
theorem lk_iff {k v : Int} : ∀ {m : List (Int × Int)}, (m.map Prod.fst).Nodup → ((k, v) ∈ m ↔ lk k m = some v)
  | [], _ => by simp [lk]
  | q :: m, h => by
    simp only [List.map_cons, List.nodup_cons] at h
    unfold lk
    by_cases hq : q.1 = k
    · rw [if_pos hq]
      constructor
      · intro hm
        rcases List.mem_cons.1 hm with e | e
        · rw [← e]
        · exact absurd (List.mem_map_of_mem (f := Prod.fst) e) (by rw [← hq]; exact h.1)
      · intro e
        rw [← hq, ← Option.some.inj e]; exact List.mem_cons_self
    · rw [if_neg hq, ← lk_iff h.2]
      constructor
      · intro hm
        rcases List.mem_cons.1 hm with e | e
        · rw [← e] at hq; exact absurd rfl hq
        · exact e
      · exact List.mem_cons_of_mem _
theorem accGo_true {k : Int} : ∀ {ls : List Leg} {s s' : Int}, accGo k ls s false = some (s', true) → ∃ l, l ∈ ls ∧ l.acct = k
  | [], s, s', h => by simp [accGo] at h
  | l :: r, s, s', h => by
    unfold accGo at h
    by_cases hk : l.acct = k
    · exact ⟨l, List.mem_cons_self, hk⟩
    · rw [if_neg hk] at h
      obtain ⟨x, hx, e⟩ := accGo_true h
      exact ⟨x, List.mem_cons_of_mem _ hx, e⟩
theorem made_ref {ls out : List Leg} (hr : ∀ x, x ∈ ls → inK .u8 x.acct) (h : made ls out) : out = refMade ls := by
  have hsa := sum_acc ls []
  unfold made at h
  unfold refMade
  cases hs : sumGo ls [] with
  | none =>
    rw [hs] at h hsa
    obtain ⟨l, hl, ha⟩ := hsa
    obtain ⟨h0, h1⟩ := hr l hl
    simp only [kLo, kHi] at h0 h1
    have ha : accGo l.acct ls 0 false = none := ha
    have e : ((l.acct.toNat : Nat) : Int) = l.acct := by omega
    rw [refGo_none 256 0 [] l.acct.toNat (by omega) (by omega) (by rw [e]; exact ha)]
    exact h
  | some m =>
    rw [hs] at h hsa
    obtain ⟨hp, hsrt⟩ := h
    have hsa : ∀ k, accGo k ls 0 false = some ((lk k m).getD 0, (lk k m).isSome) := hsa
    have hnd := sumGo_nodup (by simp) hs
    rw [refGo_some 256 0 [] (fun j => by rw [hsa]; simp), List.nil_append]
    have hmem : ∀ x : Leg, x ∈ out ↔ lk x.acct m = some x.amt := fun x => by
      rw [hp.mem_iff, ← lk_iff hnd]
      constructor
      · intro h
        obtain ⟨q, hq, rfl⟩ := List.mem_map.1 h
        exact hq
      · intro h
        exact List.mem_map.2 ⟨(x.acct, x.amt), h, rfl⟩
    have hrise : rise out := by
      have hnd2 : (out.map Leg.acct).Nodup := by
        have := (hp.map Leg.acct).nodup_iff.2 (by rw [List.map_map]; exact hnd)
        exact this
      have h1 : out.Pairwise fun a b => a.acct ≠ b.acct := List.pairwise_map.1 hnd2
      exact (hsrt.and h1).imp fun h => by omega
    refine rise_eq hrise (refL_rise 256 0) fun x => ?_
    rw [hmem]
    constructor
    · intro hx
      have ha : accGo x.acct ls 0 false = some (x.amt, true) := by rw [hsa, hx]; rfl
      obtain ⟨l, hl, el⟩ := accGo_true ha
      obtain ⟨h0, h1⟩ := hr l hl
      simp only [kLo, kHi] at h0 h1
      have e : ((x.acct.toNat : Nat) : Int) = x.acct := by omega
      have := refL_mem (j := x.acct.toNat) (s := x.amt) (by rw [e]; exact ha) 256 0 (by omega) (by omega)
      rw [e] at this
      exact this
    · intro hx
      obtain ⟨j, _, _, e, ha⟩ := mem_refL 256 0 hx
      rw [hsa, ← e] at ha
      cases hl : lk x.acct m with
      | none => rw [hl] at ha; simp at ha
      | some v => rw [hl] at ha; simp at ha; rw [ha]
end Go.Proofs.YtfemfomgmopibaaGreatDoor
/- Legs of any order make the document's entry: the plain law. -/
namespace Go.Proofs.YtfemfomgmopibaaGreatDoor
open Go Go.Proofs Go.Wk
theorem legsEq_self : ∀ l : List Leg, legsEq l l = true
  | [] => rfl
  | x :: r => by simp [legsEq, legEq, legsEq_self r]
theorem sumGo_len : ∀ {ls : List Leg} {m m' : List (Int × Int)}, sumGo ls m = some m' → m'.length ≤ m.length + ls.length
  | [], m, m', e => by simp only [sumGo, Option.some.injEq] at e; subst e; simp
  | l :: r, m, m', e => by
    unfold sumGo at e
    split at e
    · have h1 := sumGo_len e
      have h2 := len_putL (k := l.acct) (v := (lk l.acct m).getD 0 + l.amt) (l := m)
      simp only [List.length_cons]; omega
    · cases e
theorem makesLaw (k : Key) (hk : inK .u8 k.kind) (ls : List Leg) (hl : ls.length ≤ 12) (hr : ∀ x, x ∈ ls → inK .u8 x.acct) (hro : ∀ out, made ls out → ∀ x, x ∈ out → inK .u8 x.acct) (out : List Leg) (h : made ls out) : MakesOk k ls out := by
  have e := made_ref hr h
  refine ⟨?_, ?_, ?_, rights k hk ls hr⟩
  · unfold made at h
    cases hs : sumGo ls [] with
    | none => rw [hs] at h; rw [h]; simp
    | some m => rw [hs] at h; have := sumGo_len hs; have := h.1.length_eq; simp at *; omega
  · rw [← e]; simp [sameB, eqK, legsEq_self]
  · rw [← e]; exact rights k hk out (hro out h)
end Go.Proofs.YtfemfomgmopibaaGreatDoor
