/- What an entry has of an account; entries alike; legs that one may write: the walks. -/
import Derived.Test.YtfemfomgmopibaaGreatDoorA2
namespace Go.Proofs.YtfemfomgmopibaaGreatDoor
open Go Go.Proofs Go.Wk
def ofV (a : Int) : List Leg → Int
  | [] => 0
  | x :: r => if x.acct = a then x.amt else ofV a r
theorem equal (A B : Option Addr) (n c m d : Nat) (ls ms : List Leg) (w : World) (M I : BS) (H : Hp ⟨w, M, I⟩ [] [Sl legR (.slice A n c) ls, Sl legR (.slice B m d) ms] w) (hA : n = ls.length ∧ ls.length ≤ 9223372036854775807) (hB : m = ms.length) :
    Ctr Tryz.prog 49 [.slice A n c, .slice B m d] w M I (fun _ : Unit => .bool (legsEq ls ms)) (fun _ => True) (fun _ => []) (fun _ => []) := by
  obtain ⟨rfl, hlen⟩ := hA
  subst hB
  refine Exe.of_ev tok Tryz.call49 Tryz.func49 rfl rfl rfl ?_
  refine br (fun q2 => ?_) (fun q2 => ?_)
  · have q2 : ((ls.length : Int) != (ms.length : Int)) = true := q2
    have q2 : ls.length ≠ ms.length := fun h => by rw [h] at q2; simp at q2
    refine Exists.intro () (And.intro (congrArg Value.bool ?_) (And.intro trivial (Hp.keep H)))
    rw [legsEq_len q2]
  have q2 : ((ls.length : Int) != (ms.length : Int)) = false := q2
  have q2 : ls.length = ms.length := by
    have q2 : (ls.length : Int) = ms.length := by simpa using q2
    omega
  refine loop_rule tok (σ := Nat) 67100720 (fun i => [(13, .int .i64 i)])
    (fun i w' => i ≤ ls.length ∧ legsEq ls ms = legsEq (ls.drop i) (ms.drop i) ∧ Hp ⟨w, M, I⟩ [] [Sl legR (.slice A ls.length c) ls, Sl legR (.slice B ms.length d) ms] w') (fun i => ls.length - i) 0 rfl rfl ⟨rfl, trivial⟩
    ⟨Nat.zero_le _, rfl, H⟩ ?_
  rintro i j w3 ⟨hi, hg, H3⟩
  refine brd (fun h5 => ?_) (fun h5 => ?_)
  · have hil : i < ls.length := by omega
    obtain ⟨u, hu⟩ : ∃ u, ls[i]? = some u := ⟨_, List.getElem?_eq_getElem hil⟩
    obtain ⟨v, hv⟩ : ∃ v, ms[i]? = some v := ⟨_, List.getElem?_eq_getElem (by omega)⟩
    have hdu : ls.drop i = u :: ls.drop (i + 1) := by
      rw [List.drop_eq_getElem_cons hil]
      rw [List.getElem?_eq_getElem hil] at hu
      rw [Option.some.inj hu]
    have hdv : ms.drop i = v :: ms.drop (i + 1) := by
      rw [List.drop_eq_getElem_cons (by omega)]
      rw [List.getElem?_eq_getElem (by omega)] at hv
      rw [Option.some.inj hv]
    obtain ⟨b1, o1, rfl⟩ := H3.slAt (A := A) (n := ls.length) (c := c) (r := legR) (by omega)
    obtain ⟨b2, o2, rfl⟩ := H3.slAt (A := B) (n := ms.length) (c := d) (r := legR) (by omega)
    have i1 : (0 : Int) ≤ (i : Int) := by omega
    have i2 : (i : Int) < ls.length := h5
    have i3 : (i : Int) < ms.length := by omega
    refine draw_rule (A := []) tok tdr H3 [0, 1, 2, 3, 4, 5, 6, 7, 8] [0, 0, 3, 7, 0, 0, 48, 112, 255] rfl ?_
    refine pass_rule _ (fun w h => idx_own tok rfl rfl i1 i2 ⟨rfl, rfl⟩) ?_
    refine pass_rule _ (fun w h => sl_ld (n := ls.length) (c := c) (j := i) (f := 0) (r := legR) tok h (legV u) hu rfl (fun _ _ => rfl) ⟨rfl, rfl⟩) ?_
    refine pass_rule _ (fun w h => idx_own tok rfl rfl i1 i3 ⟨rfl, rfl⟩) ?_
    refine pass_rule _ (fun w h => sl_ld (n := ms.length) (c := d) (j := i) (f := 0) (r := legR) tok h (legV v) hv rfl (fun _ _ => rfl) ⟨rfl, rfl⟩) ?_
    refine pass_rule _ (fun w h => ne_struct tok (r := legEq u v) rfl Tryz.eqGuardType43 Tryz.stoodInHeld43 rfl ⟨rfl, rfl⟩) ?_
    refine done_rule fun w4 H4 => ?_
    refine br (fun q3 => ?_) (fun q3 => ?_)
    · have q3 : legEq u v = false := by simpa using q3
      refine Exists.intro () (And.intro (congrArg Value.bool ?_) (And.intro trivial (Hp.keep H4)))
      rw [hg, hdu, hdv, legsEq, q3, Bool.false_and]
    · have q3 : legEq u v = true := by simpa using q3
      refine Exists.intro (i + 1) (And.intro ⟨?_, trivial⟩ (And.intro ?_ ⟨?_, ?_, H4⟩))
      · show Value.int .i64 (IntKind.i64.wrap (i + 1)) = _
        rw [w64 (by omega) (by omega)]; rfl
      · omega
      · omega
      · rw [hg, hdu, hdv, legsEq, q3, Bool.true_and]
  · refine Exists.intro () (And.intro (congrArg Value.bool ?_) (And.intro trivial (Hp.keep H3)))
    rw [hg, List.drop_eq_nil_of_le (by omega), List.drop_eq_nil_of_le (by omega)]; rfl
theorem same_ (k l : Key) (A B : Option Addr) (n c m d : Nat) (ls ms : List Leg) (w : World) (M I : BS) (H : Hp ⟨w, M, I⟩ [] [Sl legR (.slice A n c) ls, Sl legR (.slice B m d) ms] w) (hA : n = ls.length ∧ ls.length ≤ 9223372036854775807) (hB : m = ms.length) :
    Ctr Tryz.prog 22 [.agg #[.int .u32 k.loan, .int .i32 k.day, .int .u8 k.kind, .int .u32 k.seq, .slice A n c], .agg #[.int .u32 l.loan, .int .i32 l.day, .int .u8 l.kind, .int .u32 l.seq, .slice B m d]] w M I (fun _ : Unit => .bool (sameB k l ls ms)) (fun _ => True) (fun _ => []) (fun _ => []) := by
  refine Exe.of_ev tok Tryz.call22 Tryz.func22 rfl rfl rfl ?_
  refine box_as H (entC k A n c) rfl fun x w1 H1 => ?_
  refine box_as H1 (entC l B m d) rfl fun y w2 H2 => ?_
  refine load_rule tok H2 (v := keyV k) rfl ?_
  refine load_rule tok H2 (v := keyV l) rfl ?_
  refine eq_struct tok (r := eqK k l) rfl Tryz.eqGuardType26 Tryz.stoodInHeld26 rfl ?_
  refine br (fun q => ?_) (fun q => ?_)
  · refine load_rule tok H2 (v := .slice A n c) rfl ?_
    refine load_rule tok H2 (v := .slice B m d) rfl ?_
    refine call_rule H2 (fun M I _ h => equal A B n c m d ls ms _ M I h hA hB) fun _ w3 _ H3 => ?_
    refine Exists.intro () (And.intro (congrArg Value.bool ?_) (And.intro trivial (Hp.keep H3)))
    rw [sameB, q]; rfl
  · refine Exists.intro () (And.intro (congrArg Value.bool ?_) (And.intro trivial (Hp.keep H2)))
    rw [sameB, q]; rfl
end Go.Proofs.YtfemfomgmopibaaGreatDoor
/- Legs in whatever order: the walk. -/
namespace Go.Proofs.YtfemfomgmopibaaGreatDoor
open Go Go.Proofs Go.Wk
theorem legs_amt {ls : List Leg} {j : Nat} {x : Leg} (h : ls[j]? = some x) : ldV (tb 41) (legsC ls) (0 + j * 2 + 1) = some (.int .i64 x.amt) := by
  obtain ⟨hj, _⟩ := List.getElem?_eq_some_iff.1 h
  have hd : ls.drop j = x :: ls.drop (j + 1) := by
    rw [List.drop_eq_getElem_cons hj]
    rw [List.getElem?_eq_getElem hj] at h
    rw [Option.some.inj h]
  show (legsC ls)[0 + j * 2 + 1]? = _
  have : (legsC ls)[0 + j * 2 + 1]? = ((legsC ls).drop (j * 2))[1]? := by rw [List.getElem?_drop]; congr 1; omega
  rw [this, legsC_drop, hd]
  rfl
theorem legs_setAmt : ∀ (ls : List Leg) (j : Nat) (x : Leg) (v : Int), ls[j]? = some x → setL (legsC ls) (0 + j * 2 + 1) [.int .i64 v] = legsC (ls.set j ⟨x.acct, v⟩)
  | [], j, x, v, h => by simp at h
  | y :: r, 0, x, v, h => by
    simp only [List.getElem?_cons_zero, Option.some.injEq] at h
    subst h
    rfl
  | y :: r, j + 1, x, v, h => by
    have ih := legs_setAmt r j x v (by simpa using h)
    rw [show 0 + (j + 1) * 2 + 1 = (0 + j * 2 + 1) + 1 + 1 by omega]
    show Value.int .u8 y.acct :: Value.int .i64 y.amt :: setL (legsC r) (0 + j * 2 + 1) [.int .i64 v] = _
    rw [ih]; rfl
/-- An amount's rest. -/
def modL (x : Leg) : Leg := ⟨x.acct, x.amt.tmod 1000000⟩
def sumA (a : Int) : List Leg → Int
  | [] => 0
  | x :: r => (if x.acct = a then x.amt else 0) + sumA a r
structure LegsOk (ls : List Leg) : Prop where
  sum : ∀ out, made ls out → ∀ a : Nat, a < 12 → ofV a out = sumA a ls
  len : ∀ out, made ls out → out.length ≤ 1000
  perm : ∀ t a b, t.Perm ls → made ls a → made t b → legsEq a b = true
theorem modL_in {x : Leg} : -999999 ≤ (modL x).amt ∧ (modL x).amt ≤ 999999 := by
  have h1 : (modL x).amt = x.amt.tmod 1000000 := rfl
  have h2 := Int.tmod_lt_of_pos x.amt (b := 1000000) (by decide)
  have h3 := Int.lt_tmod_of_pos x.amt (b := 1000000) (by decide)
  omega
theorem sumA_take {a : Int} : ∀ (ls : List Leg) (i : Nat) (u : Leg), ls[i]? = some u → sumA a (ls.take (i + 1)) = sumA a (ls.take i) + (if u.acct = a then u.amt else 0)
  | [], i, u, h => by simp at h
  | x :: r, 0, u, h => by
    simp only [List.getElem?_cons_zero, Option.some.injEq] at h
    subst h
    simp [sumA]
  | x :: r, i + 1, u, h => by
    have := sumA_take (a := a) r i u (by simpa using h)
    rw [List.take_succ_cons, List.take_succ_cons, sumA, sumA, this]
    omega
theorem sumA_in {a : Int} : ∀ (ls : List Leg), (∀ x, x ∈ ls → -999999 ≤ x.amt ∧ x.amt ≤ 999999) → -999999 * (ls.length : Int) ≤ sumA a ls ∧ sumA a ls ≤ 999999 * (ls.length : Int)
  | [], _ => by simp [sumA]
  | x :: r, h => by
    have h1 := h x List.mem_cons_self
    have h2 := sumA_in (a := a) r fun y hy => h y (List.mem_cons_of_mem _ hy)
    simp only [sumA, List.length_cons]
    split <;> omega
/-- Two places of a list change places. -/
def swapL (l : List Leg) (i j : Nat) (x y : Leg) : List Leg := (l.set i y).set j x
theorem swap_perm {l : List Leg} {i j : Nat} {x y : Leg} (hx : l[i]? = some x) (hy : l[j]? = some y) : (swapL l i j x y).Perm l := by
  obtain ⟨hi, rfl⟩ := List.getElem?_eq_some_iff.1 hx
  obtain ⟨hj, rfl⟩ := List.getElem?_eq_some_iff.1 hy
  exact List.set_set_perm hi hj
end Go.Proofs.YtfemfomgmopibaaGreatDoor
/- Legs in whatever order: the plain law. -/
namespace Go.Proofs.YtfemfomgmopibaaGreatDoor
open Go Go.Proofs Go.Wk
def anyA (a : Int) : List Leg → Bool
  | [] => false
  | x :: r => decide (x.acct = a) || anyA a r
@[reducible] def small (ls : List Leg) : Prop := ∀ x, x ∈ ls → -999999 ≤ x.amt ∧ x.amt ≤ 999999
set_option maxRecDepth 100000 in
theorem acc_sum {k : Int} : ∀ (ls : List Leg) (s : Int) (b : Bool), small ls → -999999 * (1000 - ls.length : Int) ≤ s → s ≤ 999999 * (1000 - ls.length : Int) → ls.length ≤ 1000 → accGo k ls s b = some (s + sumA k ls, b || anyA k ls)
  | [], s, b, _, _, _, _ => by simp [accGo, sumA, anyA]
  | x :: r, s, b, h, h1, h2, h3 => by
    have hx := h x List.mem_cons_self
    have hr : small r := fun y hy => h y (List.mem_cons_of_mem _ hy)
    simp only [List.length_cons] at h1 h2 h3
    unfold accGo sumA anyA
    by_cases hk : x.acct = k
    · have hin : in64 (s + x.amt) = true := by
        unfold in64
        simp only [Bool.and_eq_true, decide_eq_true_eq]
        omega
      rw [if_pos hk, if_pos hin, acc_sum r _ _ hr (by omega) (by omega) (by omega), if_pos hk, decide_eq_true hk, Bool.true_or, Bool.or_true, Int.add_assoc]
    · rw [if_neg hk, acc_sum r _ _ hr (by omega) (by omega) (by omega), if_neg hk, decide_eq_false hk, Bool.false_or, Int.zero_add]
theorem any_sum {k : Int} : ∀ (ls : List Leg), anyA k ls = false → sumA k ls = 0
  | [], _ => rfl
  | x :: r, h => by
    unfold anyA at h
    simp only [Bool.or_eq_false_iff, decide_eq_false_iff_not] at h
    unfold sumA
    rw [if_neg h.1, any_sum r h.2, Int.zero_add]
theorem sumA_perm {k : Int} {a b : List Leg} (h : a.Perm b) : sumA k a = sumA k b := by
  induction h with
  | nil => rfl
  | cons x _ ih => simp only [sumA, ih]
  | swap x y l => simp only [sumA]; omega
  | trans _ _ h1 h2 => rw [h1, h2]
theorem anyA_perm {k : Int} {a b : List Leg} (h : a.Perm b) : anyA k a = anyA k b := by
  induction h with
  | nil => rfl
  | cons x _ ih => simp only [anyA, ih]
  | swap x y l => simp only [anyA]; rw [← Bool.or_assoc, ← Bool.or_assoc, Bool.or_comm (decide (y.acct = k))]
  | trans _ _ h1 h2 => rw [h1, h2]
theorem refL_congr {a b : List Leg} (h : ∀ k : Int, accGo k a 0 false = accGo k b 0 false) : ∀ d k, refL a d k = refL b d k
  | 0, k => rfl
  | d + 1, k => by
    unfold refL
    rw [h k, refL_congr h d (k + 1)]
theorem made_refL {ls out : List Leg} (hb : small ls) (hl : ls.length ≤ 12) (hr : ∀ x, x ∈ ls → inK .u8 x.acct) (h : made ls out) : out = refL ls 256 0 := by
  rw [made_ref hr h]
  unfold refMade
  rw [refGo_some 256 0 [] fun j => by rw [acc_sum ls 0 false hb (by omega) (by omega) (by omega)]; simp]
  rfl
theorem ofV_refL {ls : List Leg} {a : Nat} (hb : small ls) (hl : ls.length ≤ 12) : ∀ d k : Nat, ofV a (refL ls d k) = if k ≤ a ∧ a < k + d then sumA a ls else 0
  | 0, k => by
    rw [if_neg (by omega)]; rfl
  | d + 1, k => by
    unfold refL
    rw [acc_sum ls 0 false hb (by omega) (by omega) (by omega)]
    cases ha : anyA k ls with
    | true =>
      simp only [Bool.false_or]
      unfold ofV
      by_cases hk : k = a
      · subst hk
        rw [if_pos rfl, if_pos (by omega), Int.zero_add]
      · rw [if_neg (by simp only; omega), ofV_refL hb hl d (k + 1)]
        by_cases h2 : k + 1 ≤ a ∧ a < k + 1 + d
        · rw [if_pos h2, if_pos (by omega)]
        · rw [if_neg h2, if_neg (by omega)]
    | false =>
      simp only [Bool.false_or]
      rw [ofV_refL hb hl d (k + 1)]
      by_cases hk : k = a
      · subst hk
        rw [if_neg (by omega), if_pos (by omega), any_sum ls ha]
      · by_cases h2 : k + 1 ≤ a ∧ a < k + 1 + d
        · rw [if_pos h2, if_pos (by omega)]
        · rw [if_neg h2, if_neg (by omega)]
theorem legsLaw (ls : List Leg) (hb : small ls) (hl : ls.length ≤ 12) (hr : ∀ x, x ∈ ls → inK .u8 x.acct) : LegsOk ls where
  sum out h a ha := by rw [made_refL hb hl hr h, ofV_refL hb hl, if_pos (by omega)]
  len out h := by
    unfold made at h
    cases hs : sumGo ls [] with
    | none => rw [hs] at h; rw [h]; simp
    | some m => rw [hs] at h; have := sumGo_len hs; have := h.1.length_eq; simp at *; omega
  perm t a b hp ha hb2 := by
    have hbt : small t := fun x hx => hb x (hp.mem_iff.1 hx)
    have hlt : t.length ≤ 12 := by rw [hp.length_eq]; exact hl
    have e : a = b := by
      rw [made_refL hb hl hr ha, made_refL hbt hlt (fun x hx => hr x (hp.mem_iff.1 hx)) hb2]
      refine refL_congr (fun k => ?_) 256 0
      rw [acc_sum ls 0 false hb (by omega) (by omega) (by omega), acc_sum t 0 false hbt (by omega) (by omega) (by omega), sumA_perm hp, anyA_perm hp]
    rw [e]
    exact legsEq_self b
end Go.Proofs.YtfemfomgmopibaaGreatDoor
/- How many bytes a number takes; numbers as bytes: the walks. -/
namespace Go.Proofs.YtfemfomgmopibaaGreatDoor
open Go Go.Proofs Go.Wk
/-- How many bytes a number takes. -/
def sizeB (x : Nat) : Nat := if h : x = 0 then 0 else 1 + sizeB (x / 256)
termination_by x
decreasing_by omega
theorem sizeB_zero : sizeB 0 = 0 := by unfold sizeB; rfl
theorem sizeB_pos {x : Nat} (h : x ≠ 0) : sizeB x = 1 + sizeB (x / 256) := by rw [sizeB, dif_neg h]
theorem sizeB_small {y : Nat} (h : y < 256) : sizeB y = if y = 0 then 0 else 1 := by
  by_cases h0 : y = 0
  · subst h0; rw [sizeB_zero]; rfl
  · rw [sizeB_pos h0, Nat.div_eq_of_lt h, sizeB_zero, if_neg h0]
theorem sizeB_2 {x : Nat} (h : 256 ≤ x) : sizeB x = 2 + sizeB (x / 65536) := by
  rw [sizeB_pos (by omega), sizeB_pos (x := x / 256) (by omega), Nat.div_div_eq_div_mul, show 256 * 256 = 65536 from rfl]; omega
theorem sizeB_4 {x : Nat} (h : 16777216 ≤ x) : sizeB x = 4 + sizeB (x / 4294967296) := by
  rw [sizeB_2 (by omega), sizeB_2 (x := x / 65536) (by omega), Nat.div_div_eq_div_mul, show 65536 * 65536 = 4294967296 from rfl]; omega
def tabGo : List UInt8 → Nat → Bool
  | [], k => Nat.beq k 256
  | b :: r, k => ((Nat.beq b.toNat 0) == (Nat.beq k 0)) && (Nat.ble b.toNat 8 && tabGo r (k + 1))
theorem tabGo_at : ∀ {l : List UInt8} {k y : Nat}, tabGo l k = true → k ≤ y → y < 256 → ∃ b, l[y - k]? = some b ∧ b.toNat ≤ 8 ∧ (b.toNat = 0 ↔ y = 0)
  | [], k, y, h, h1, h2 => by
    have := Nat.eq_of_beq_eq_true h
    omega
  | b :: r, k, y, h, h1, h2 => by
    simp only [tabGo, Bool.and_eq_true, beq_iff_eq] at h
    obtain ⟨h3, h4, h5⟩ := h
    by_cases hk : k = y
    · subst hk
      refine ⟨b, by simp, Nat.le_of_ble_eq_true h4, ?_⟩
      rw [← Nat.beq_eq, ← Nat.beq_eq, h3]
    · obtain ⟨c, hc, hc2⟩ := tabGo_at h5 (show k + 1 ≤ y by omega) h2
      refine ⟨c, ?_, hc2⟩
      rw [show y - k = (y - (k + 1)) + 1 by omega, List.getElem?_cons_succ]
      exact hc
theorem tab_at {P : Program} {T : Tab} {K : Value → World → Prop} {w : World} (hT : T.Ok P) {t : TypeId} {it : TypeInfo} {s : ByteArray} (ht : T t = some ⟨.string, it⟩) (hs : tabGo s.data.toList 0 = true) {y : Nat} (hy : y < 256)
    (k : ∀ b : Nat, b ≤ 8 → (b = 0 ↔ y = 0) → K (.int .u8 b) w) : IndexK P K w t (.string s) (.int .u8 (IntKind.u8.wrap y)) := by
  have e : IntKind.u8.wrap y = y := wrap_id ⟨by show (0 : Int) ≤ _; omega, by show _ ≤ (255 : Int); omega⟩
  obtain ⟨b, hb, h8, h0⟩ := tabGo_at hs (Nat.zero_le y) hy
  rw [e]
  refine str_at hT ht (by omega) (b := b) ?_ (k b.toNat h8 h0)
  have h1 : s.data.toList[y]? = some b := hb
  have h2 : s.data[y]? = some b := by rw [← h1, Array.getElem?_toList]
  obtain ⟨h3, h4⟩ := Array.getElem?_eq_some_iff.1 h2
  rw [Int.toNat_natCast, getElem?_pos s y h3]
  exact congrArg some h4
theorem shr_div {x s : Nat} {k : IntKind} (h : s ≤ k.bits) : ((x : Int)).fdiv (2 ^ min ((s : Int)).toNat k.bits) = ((x / 2 ^ s : Nat) : Int) := by
  rw [Int.toNat_natCast, Nat.min_eq_left h]
  have : ((2 : Int) ^ s) = ((2 ^ s : Nat) : Int) := by simp
  rw [this]
  exact (Int.ofNat_fdiv x (2 ^ s)).symm
theorem leafB {x y b acc : Nat} (hx : sizeB x = acc / 8 + sizeB y) (h8 : acc % 8 = 0) (hy : y < 256) (hb : b ≤ 8) (h0 : b = 0 ↔ y = 0) : (acc + b + 7) / 8 = sizeB x := by
  rw [hx, sizeB_small hy]
  by_cases h : y = 0
  · rw [if_pos h]; have := h0.2 h; omega
  · rw [if_neg h]; have : b ≠ 0 := fun e => h (h0.1 e); omega
set_option maxRecDepth 20000 in
theorem lenB (x : Nat) (hx : x < 18446744073709551616) (w : World) (M I : BS) (H : Hp ⟨w, M, I⟩ [] [] w) :
    Ctr Tryz.prog 92 [.int .u64 x] w M I (fun n : Nat => .int .i64 n) (fun n => n ≤ 64 ∧ (n + 7) / 8 = sizeB x) (fun _ => []) (fun _ => []) := by
  refine Exe.of_ev tok Tryz.call92 Tryz.func92 rfl rfl rfl ?_

  refine brd (fun h0 => ?_) (fun h0 => ?_)
  · have h0 : (((4294967296 : Nat)) : Int) ≤ x := h0
    obtain ⟨y0, e0⟩ : ∃ y : Nat, x / 4294967296 = y := ⟨_, rfl⟩
    have s0 : sizeB x = 4 + sizeB y0 := by rw [sizeB_4 (x := x) (by omega), e0]
    refine shr_as (y0 : Int) (by decide) (by rw [← e0]; exact shr_div (x := x) (s := 32) (k := .u64) (by decide)) ?_
    refine brd (fun h1 => ?_) (fun h1 => ?_)
    · have h1 : (((65536 : Nat)) : Int) ≤ y0 := h1
      obtain ⟨y1, e1⟩ : ∃ y : Nat, y0 / 65536 = y := ⟨_, rfl⟩
      have s1 : sizeB y0 = 2 + sizeB y1 := by rw [sizeB_2 (x := y0) (by omega), e1]
      refine shr_as (y1 : Int) (by decide) (by rw [← e1]; exact shr_div (x := y0) (s := 16) (k := .u64) (by decide)) ?_
      refine brd (fun h2 => ?_) (fun h2 => ?_)
      · have h2 : (((256 : Nat)) : Int) ≤ y1 := h2
        obtain ⟨y2, e2⟩ : ∃ y : Nat, y1 / 256 = y := ⟨_, rfl⟩
        have s2 : sizeB y1 = 1 + sizeB y2 := by rw [sizeB_pos (x := y1) (by omega), e2]
        refine shr_as (y2 : Int) (by decide) (by rw [← e2]; exact shr_div (x := y1) (s := 8) (k := .u64) (by decide)) ?_
        refine tab_at tok rfl (by kernel_rfl) (y := y2) (by omega) fun b hb h0 => ?_
        refine Exists.intro (56 + b) (And.intro ?_ (And.intro ⟨by omega, leafB (by rw [s0, s1, s2] <;> omega) rfl (by omega) hb h0⟩ H))
        show Value.int .i64 (IntKind.i64.wrap (56 + IntKind.i64.wrap b)) = Value.int .i64 ((56 + b : Nat) : Int)
        rw [w64 (n := (b : Int)) (by omega) (by omega), w64 (by omega) (by omega)] <;> rfl
      · have h2 : ¬ (((256 : Nat)) : Int) ≤ y1 := h2
        refine tab_at tok rfl (by kernel_rfl) (y := y1) (by omega) fun b hb h0 => ?_
        refine Exists.intro (48 + b) (And.intro ?_ (And.intro ⟨by omega, leafB (by rw [s0, s1] <;> omega) rfl (by omega) hb h0⟩ H))
        show Value.int .i64 (IntKind.i64.wrap (48 + IntKind.i64.wrap b)) = Value.int .i64 ((48 + b : Nat) : Int)
        rw [w64 (n := (b : Int)) (by omega) (by omega), w64 (by omega) (by omega)] <;> rfl
    · have h1 : ¬ (((65536 : Nat)) : Int) ≤ y0 := h1
      refine brd (fun h2 => ?_) (fun h2 => ?_)
      · have h2 : (((256 : Nat)) : Int) ≤ y0 := h2
        obtain ⟨y2, e2⟩ : ∃ y : Nat, y0 / 256 = y := ⟨_, rfl⟩
        have s2 : sizeB y0 = 1 + sizeB y2 := by rw [sizeB_pos (x := y0) (by omega), e2]
        refine shr_as (y2 : Int) (by decide) (by rw [← e2]; exact shr_div (x := y0) (s := 8) (k := .u64) (by decide)) ?_
        refine tab_at tok rfl (by kernel_rfl) (y := y2) (by omega) fun b hb h0 => ?_
        refine Exists.intro (40 + b) (And.intro ?_ (And.intro ⟨by omega, leafB (by rw [s0, s2] <;> omega) rfl (by omega) hb h0⟩ H))
        show Value.int .i64 (IntKind.i64.wrap (40 + IntKind.i64.wrap b)) = Value.int .i64 ((40 + b : Nat) : Int)
        rw [w64 (n := (b : Int)) (by omega) (by omega), w64 (by omega) (by omega)] <;> rfl
      · have h2 : ¬ (((256 : Nat)) : Int) ≤ y0 := h2
        refine tab_at tok rfl (by kernel_rfl) (y := y0) (by omega) fun b hb h0 => ?_
        refine Exists.intro (32 + b) (And.intro ?_ (And.intro ⟨by omega, leafB (by rw [s0] <;> omega) rfl (by omega) hb h0⟩ H))
        show Value.int .i64 (IntKind.i64.wrap (32 + IntKind.i64.wrap b)) = Value.int .i64 ((32 + b : Nat) : Int)
        rw [w64 (n := (b : Int)) (by omega) (by omega), w64 (by omega) (by omega)] <;> rfl
  · have h0 : ¬ (((4294967296 : Nat)) : Int) ≤ x := h0
    refine brd (fun h1 => ?_) (fun h1 => ?_)
    · have h1 : (((65536 : Nat)) : Int) ≤ x := h1
      obtain ⟨y1, e1⟩ : ∃ y : Nat, x / 65536 = y := ⟨_, rfl⟩
      have s1 : sizeB x = 2 + sizeB y1 := by rw [sizeB_2 (x := x) (by omega), e1]
      refine shr_as (y1 : Int) (by decide) (by rw [← e1]; exact shr_div (x := x) (s := 16) (k := .u64) (by decide)) ?_
      refine brd (fun h2 => ?_) (fun h2 => ?_)
      · have h2 : (((256 : Nat)) : Int) ≤ y1 := h2
        obtain ⟨y2, e2⟩ : ∃ y : Nat, y1 / 256 = y := ⟨_, rfl⟩
        have s2 : sizeB y1 = 1 + sizeB y2 := by rw [sizeB_pos (x := y1) (by omega), e2]
        refine shr_as (y2 : Int) (by decide) (by rw [← e2]; exact shr_div (x := y1) (s := 8) (k := .u64) (by decide)) ?_
        refine tab_at tok rfl (by kernel_rfl) (y := y2) (by omega) fun b hb h0 => ?_
        refine Exists.intro (24 + b) (And.intro ?_ (And.intro ⟨by omega, leafB (by rw [s1, s2] <;> omega) rfl (by omega) hb h0⟩ H))
        show Value.int .i64 (IntKind.i64.wrap (24 + IntKind.i64.wrap b)) = Value.int .i64 ((24 + b : Nat) : Int)
        rw [w64 (n := (b : Int)) (by omega) (by omega), w64 (by omega) (by omega)] <;> rfl
      · have h2 : ¬ (((256 : Nat)) : Int) ≤ y1 := h2
        refine tab_at tok rfl (by kernel_rfl) (y := y1) (by omega) fun b hb h0 => ?_
        refine Exists.intro (16 + b) (And.intro ?_ (And.intro ⟨by omega, leafB (by rw [s1] <;> omega) rfl (by omega) hb h0⟩ H))
        show Value.int .i64 (IntKind.i64.wrap (16 + IntKind.i64.wrap b)) = Value.int .i64 ((16 + b : Nat) : Int)
        rw [w64 (n := (b : Int)) (by omega) (by omega), w64 (by omega) (by omega)] <;> rfl
    · have h1 : ¬ (((65536 : Nat)) : Int) ≤ x := h1
      refine brd (fun h2 => ?_) (fun h2 => ?_)
      · have h2 : (((256 : Nat)) : Int) ≤ x := h2
        obtain ⟨y2, e2⟩ : ∃ y : Nat, x / 256 = y := ⟨_, rfl⟩
        have s2 : sizeB x = 1 + sizeB y2 := by rw [sizeB_pos (x := x) (by omega), e2]
        refine shr_as (y2 : Int) (by decide) (by rw [← e2]; exact shr_div (x := x) (s := 8) (k := .u64) (by decide)) ?_
        refine tab_at tok rfl (by kernel_rfl) (y := y2) (by omega) fun b hb h0 => ?_
        refine Exists.intro (8 + b) (And.intro ?_ (And.intro ⟨by omega, leafB (by rw [s2] <;> omega) rfl (by omega) hb h0⟩ H))
        show Value.int .i64 (IntKind.i64.wrap (8 + IntKind.i64.wrap b)) = Value.int .i64 ((8 + b : Nat) : Int)
        rw [w64 (n := (b : Int)) (by omega) (by omega), w64 (by omega) (by omega)] <;> rfl
      · have h2 : ¬ (((256 : Nat)) : Int) ≤ x := h2
        refine tab_at tok rfl (by kernel_rfl) (y := x) (by omega) fun b hb h0 => ?_
        refine Exists.intro (0 + b) (And.intro ?_ (And.intro ⟨by omega, leafB (by rw [Nat.zero_div, Nat.zero_add]) rfl (by omega) hb h0⟩ H))
        show Value.int .i64 (IntKind.i64.wrap (0 + IntKind.i64.wrap b)) = Value.int .i64 ((0 + b : Nat) : Int)
        rw [w64 (n := (b : Int)) (by omega) (by omega), w64 (by omega) (by omega)] <;> rfl
end Go.Proofs.YtfemfomgmopibaaGreatDoor
/- Numbers as bytes: the walks. -/
namespace Go.Proofs.YtfemfomgmopibaaGreatDoor
open Go Go.Proofs Go.Wk
@[reducible] def byC (bs : List Nat) : List Value := bs.map fun b : Nat => Value.int .u8 (b : Int)
/-- A number's bytes, the greatest first. -/
def bigE (n : Nat) : Nat → List Nat
  | 0 => []
  | k + 1 => (n / 256 ^ k) % 256 :: bigE n k
/-- How many bytes, with a mark; and these. -/
def numB (n mark : Nat) : List Nat := (mark + sizeB n) :: bigE n (sizeB n)
theorem bigE_len (n : Nat) : ∀ k, (bigE n k).length = k
  | 0 => rfl
  | k + 1 => by rw [bigE, List.length_cons, bigE_len n k]
theorem sizeB_le8 {x : Nat} (h : x < 18446744073709551616) : sizeB x ≤ 8 := by
  have h0 : x / 4294967296 / 65536 / 256 < 256 := by omega
  by_cases h1 : 16777216 ≤ x
  · rw [sizeB_4 h1]
    by_cases h2 : 256 ≤ x / 4294967296
    · rw [sizeB_2 h2]
      by_cases h3 : x / 4294967296 / 65536 = 0
      · rw [h3, sizeB_zero]; omega
      · rw [sizeB_pos h3, sizeB_small h0]; split <;> omega
    · rw [sizeB_small (by omega)]; split <;> omega
  · by_cases h2 : 256 ≤ x
    · rw [sizeB_2 h2, sizeB_small (by omega)]; split <;> omega
    · rw [sizeB_small (by omega)]; split <;> omega
theorem wrap_u8 (x : Nat) : IntKind.u8.wrap (x : Int) = ((x % 256 : Nat) : Int) := by
  simp [IntKind.wrap, IntKind.signed, IntKind.bits]
/-- A quill at q that holds bytes. -/
@[reducible] def quillA (q : Nat) (a : SV) (bs : List Nat) : List Asn := [blk q [.slice a.A a.n a.c] 122, row 5 1 (.slice a.A a.n a.c) a.n (byC bs)]
set_option maxRecDepth 20000 in
theorem number (q : Nat) (a : SV) (bs : List Nat) (hl : bs.length = a.n) (hn : a.n ≤ 1000000) (n mark : Nat) (hx : n < 18446744073709551616) (hm : mark ≤ 128) (w : World) (M I : BS) (H : Hp ⟨w, M, I⟩ (quillA q a bs) [] w) :
    Ctr Tryz.prog 79 [.pointer (some ⟨q, 0, none⟩), .int .u64 n, .int .u8 mark] w M I (fun _ : SV => .pointer (some ⟨q, 0, none⟩)) (fun b => b.n = a.n + (numB n mark).length) (fun b => quillA q b (bs ++ numB n mark)) (fun _ => []) := by
  obtain ⟨A, m, c⟩ := a
  simp only at hl hn
  have h8 := sizeB_le8 hx
  refine Exe.of_ev tok Tryz.call79 Tryz.func79 rfl rfl rfl ?_
  refine call_rule H (fun M I _ h => lenB n hx _ M I h) fun L w1 hL H1 => ?_
  obtain ⟨hL1, hL2⟩ := hL
  refine quo_as ((sizeB n : Nat) : Int) (by decide) (by
    show IntKind.i64.wrap ((IntKind.i64.wrap (IntKind.i64.wrap ((L : Int) + 8) - 1)).tdiv 8) = _
    rw [w64 (n := (L : Int) + 8) (by omega) (by omega), w64 (n := (L : Int) + 8 - 1) (by omega) (by omega), show (L : Int) + 8 - 1 = ((L + 7 : Nat) : Int) by omega, show (((L + 7 : Nat) : Int)).tdiv 8 = (((L + 7) / 8 : Nat) : Int) from (Int.ofNat_tdiv (L + 7) 8).symm, hL2]
    exact w64 (by omega) (by omega)) ?_
  have H1 : Hp ⟨w, M, I⟩ [blk q [.slice A m c] 122, row 5 1 (.slice A m c) m (byC bs)] [] w1 := H1.keep
  refine load_rule tok H1 (v := .slice A m c) rfl ?_
  refine slice_as tok H1 [.int .u8 (IntKind.u8.wrap ((mark : Int) + IntKind.u8.wrap ((sizeB n : Nat) : Int)))] rfl rfl rfl rfl rfl rfl fun g w2 H2 => ?_
  refine append_rule (v := .slice A m c) (b := g) (m := 1) (c := 1) tok H2 rfl rfl rfl rfl rfl rfl rfl rfl (by show (m + 1) * 1 ≤ _; omega) (by omega) fun A2 c2 w3 H3 => ?_
  refine store_as tok H3 [.slice A2 (m + 1) c2] rfl rfl rfl rfl rfl fun w4 H4 => ?_
  have eh : IntKind.u8.wrap ((mark : Int) + IntKind.u8.wrap ((sizeB n : Nat) : Int)) = ((mark + sizeB n : Nat) : Int) := by
    have e1 : IntKind.u8.wrap ((sizeB n : Nat) : Int) = (sizeB n : Nat) := wrap_id ⟨by show (0 : Int) ≤ _; omega, by show _ ≤ (255 : Int); omega⟩
    rw [e1, wrap_id (k := .u8) ⟨by show (0 : Int) ≤ _; omega, by show _ ≤ (255 : Int); omega⟩]; omega
  have H4 : Hp ⟨w, M, I⟩ [blk q [.slice A2 (m + 1) c2] 122, row 5 1 (.slice A2 (m + 1) c2) (m + 1) (byC bs ++ [.int .u8 (IntKind.u8.wrap ((mark : Int) + IntKind.u8.wrap ((sizeB n : Nat) : Int)))])] [] w4 := H4.keep
  have eb : byC bs ++ [.int .u8 (IntKind.u8.wrap ((mark : Int) + IntKind.u8.wrap ((sizeB n : Nat) : Int)))] = byC (bs ++ [mark + sizeB n] ++ []) := by
    rw [eh]; simp [byC]
  rw [eb] at H4
  refine loop_rule tok (σ := Nat × SV × List Nat) 562947805937920 (fun s => [(8, .int .i64 ((s.1 : Int) - 1))])
    (fun s w' => s.1 ≤ sizeB n ∧ s.2.1.n + s.1 = m + 1 + sizeB n ∧ s.2.2 ++ bigE n s.1 = bigE n (sizeB n) ∧ Hp ⟨w, M, I⟩ [blk q [.slice s.2.1.A s.2.1.n s.2.1.c] 122, row 5 1 (.slice s.2.1.A s.2.1.n s.2.1.c) s.2.1.n (byC (bs ++ [mark + sizeB n] ++ s.2.2))] [] w') (fun s => s.1) (sizeB n, ⟨A2, m + 1, c2⟩, []) rfl rfl ⟨?_, trivial⟩ ⟨Nat.le_refl _, rfl, rfl, H4⟩ ?_
  · show Value.int .i64 (IntKind.i64.wrap (((sizeB n : Nat) : Int) - 1)) = _
    rw [w64 (by omega) (by omega)]
  rintro ⟨k, ⟨A3, m3, c3⟩, pre⟩ j w5 ⟨hk, hm3, hpre, H5⟩
  simp only at hk hm3 hpre H5
  refine brd (fun h => ?_) (fun h => ?_)
  · have h : (0 : Int) ≤ (k : Int) - 1 := h
    obtain ⟨k, rfl⟩ : ∃ k', k = k' + 1 := ⟨k - 1, by omega⟩
    have ey : IntKind.i64.wrap (8 * (((k + 1 : Nat) : Int) - 1)) = ((8 * k : Nat) : Int) := by
      rw [w64 (by omega) (by omega)]; omega
    refine draw_rule (A := [blk q [.slice A3 m3 c3] 122, row 5 1 (.slice A3 m3 c3) m3 (byC (bs ++ [mark + sizeB n] ++ pre))]) tok tdr H5 [1, 2, 3, 4, 5, 6, 7, 8, 9, 10, 11, 0, 12, 13, 14] [0, 0, 2, 6, 14, 0, 0, 64, 224, 480, 992, 2046, 4095, 8191, 16383] rfl ?_
    refine pass_last _ rfl (fun X w h => load_rule tok h (v := .slice A3 m3 c3) rfl ⟨rfl, rfl⟩) ?_
    refine pass_rule (.int .u64 ((n / 256 ^ k : Nat) : Int)) (fun w h => shr_as ((n / 256 ^ k : Nat) : Int) ?_ ?_ ⟨rfl, rfl⟩) ?_
    · show (0 : Int) ≤ IntKind.i64.wrap (8 * (((k + 1 : Nat) : Int) - 1))
      rw [ey]; omega
    · show (n : Int).fdiv (2 ^ min (IntKind.i64.wrap (8 * (((k + 1 : Nat) : Int) - 1))).toNat IntKind.u64.bits) = _
      rw [ey, shr_div (k := .u64) (show 8 * k ≤ 64 by omega), Nat.pow_mul]
    refine fresh_slice tok [.int .u8 (IntKind.u8.wrap ((n / 256 ^ k : Nat) : Int))] rfl rfl rfl rfl rfl rfl rfl fun g => ?_
    refine imp_rule (fun X wx h => append_rule (v := .slice A3 m3 c3) (b := g) (m := 1) (c := 1) tok h rfl rfl rfl rfl rfl rfl rfl rfl (by show (m3 + 1) * 1 ≤ _; omega) (by omega) fun A4 c4 w1 H1 => imp_done H1 ?_)
    refine imp_rule (fun X wx h => store_as tok h [.slice A4 (m3 + 1) c4] rfl rfl rfl rfl rfl fun w1 H1 => imp_done H1 ?_)
    refine done_rule fun w6 H6 => ?_
    refine Exists.intro (k, ⟨A4, m3 + 1, c4⟩, pre ++ [n / 256 ^ k % 256]) (And.intro ⟨?_, trivial⟩ (And.intro ?_ ⟨?_, ?_, ?_, ?_⟩))
    · show Value.int .i64 (IntKind.i64.wrap ((((k + 1 : Nat) : Int) - 1) - 1)) = Value.int .i64 ((k : Int) - 1)
      rw [w64 (by omega) (by omega)]; congr 1; omega
    · simp only; omega
    · simp only; omega
    · simp only; omega
    · simp only [List.append_assoc, List.cons_append, List.nil_append]
      exact hpre
    · have e : byC (bs ++ [mark + sizeB n] ++ (pre ++ [n / 256 ^ k % 256])) = byC (bs ++ [mark + sizeB n] ++ pre) ++ [.int .u8 (IntKind.u8.wrap ((n / 256 ^ k : Nat) : Int))] := by
        rw [wrap_u8]; simp [byC]
      have H7 : Hp ⟨w, M, I⟩ [blk q [.slice A4 (m3 + 1) c4] 122, row 5 1 (.slice A4 (m3 + 1) c4) (m3 + 1) (byC (bs ++ [mark + sizeB n] ++ pre) ++ [.int .u8 (IntKind.u8.wrap ((n / 256 ^ k : Nat) : Int))])] [] w6 := H6.keep
      rw [← e] at H7
      exact H7
  · have h : ¬ (0 : Int) ≤ (k : Int) - 1 := h
    have h0 : k = 0 := by omega
    subst h0
    have hpre : pre = bigE n (sizeB n) := by rw [← hpre]; simp [bigE]
    have hl2 : (numB n mark).length = 1 + sizeB n := by simp [numB, bigE_len]; omega
    have H7 : Hp ⟨w, M, I⟩ (quillA q ⟨A3, m3, c3⟩ (bs ++ numB n mark)) [] w5 := by
      have e : bs ++ numB n mark = bs ++ [mark + sizeB n] ++ pre := by rw [hpre]; simp [numB]
      rw [e]
      exact H5
    exact Exists.intro ⟨A3, m3, c3⟩ (And.intro rfl (And.intro (by show m3 = m + _; omega) H7))
end Go.Proofs.YtfemfomgmopibaaGreatDoor
/- Numbers with a sign as bytes; all of it; bytes of one's own: the walks. -/
namespace Go.Proofs.YtfemfomgmopibaaGreatDoor
open Go Go.Proofs Go.Wk
def intB (v : Int) : List Nat := if v < 0 then numB (-1 - v).toNat 128 else numB v.toNat 0
theorem uint (q : Nat) (a : SV) (bs : List Nat) (hl : bs.length = a.n) (hn : a.n ≤ 1000000) (n : Nat) (hx : n < 18446744073709551616) (w : World) (M I : BS) (H : Hp ⟨w, M, I⟩ (quillA q a bs) [] w) :
    Ctr Tryz.prog 50 [.pointer (some ⟨q, 0, none⟩), .int .u64 n] w M I (fun _ : SV => .pointer (some ⟨q, 0, none⟩)) (fun b => b.n = a.n + (numB n 0).length) (fun b => quillA q b (bs ++ numB n 0)) (fun _ => []) := by
  refine Exe.of_ev tok Tryz.call50 Tryz.func50 rfl rfl rfl ?_
  refine call_rule H (fun M I _ h => number q a bs hl hn n 0 hx (by omega) _ M I h) fun b w1 hb H1 => ?_
  exact Exists.intro b (And.intro rfl (And.intro hb H1))
theorem uint_as (q : Nat) (a : SV) (bs : List Nat) (hl : bs.length = a.n) (hn : a.n ≤ 1000000) (n : Nat) (v : Int) (hv : v = (n : Int)) (hx : n < 18446744073709551616) (w : World) (M I : BS) (H : Hp ⟨w, M, I⟩ (quillA q a bs) [] w) :
    Ctr Tryz.prog 50 [.pointer (some ⟨q, 0, none⟩), .int .u64 v] w M I (fun _ : SV => .pointer (some ⟨q, 0, none⟩)) (fun b => b.n = a.n + (numB n 0).length) (fun b => quillA q b (bs ++ numB n 0)) (fun _ => []) := by
  subst hv; exact uint q a bs hl hn n hx w M I H
theorem int_ (q : Nat) (a : SV) (bs : List Nat) (hl : bs.length = a.n) (hn : a.n ≤ 1000000) (v : Int) (hx : inK .i64 v) (w : World) (M I : BS) (H : Hp ⟨w, M, I⟩ (quillA q a bs) [] w) :
    Ctr Tryz.prog 80 [.pointer (some ⟨q, 0, none⟩), .int .i64 v] w M I (fun _ : SV => .pointer (some ⟨q, 0, none⟩)) (fun b => b.n = a.n + (intB v).length) (fun b => quillA q b (bs ++ intB v)) (fun _ => []) := by
  have hx : -9223372036854775808 ≤ v ∧ v ≤ 9223372036854775807 := hx
  refine Exe.of_ev tok Tryz.call80 Tryz.func80 rfl rfl rfl ?_
  refine brd (fun h => ?_) (fun h => ?_)
  · have ei : intB v = numB (-1 - v).toNat 128 := by rw [intB, if_pos h]
    have ev : IntKind.u64.wrap (IntKind.i64.wrap (-1 - v)) = (((-1 - v).toNat : Nat) : Int) := by
      rw [w64 (by omega) (by omega), wrap_id (k := .u64) ⟨by show (0 : Int) ≤ _; omega, by show _ ≤ (18446744073709551615 : Int); omega⟩]; omega
    refine call_rule H (fun M I _ h => ev ▸ number q a bs hl hn (-1 - v).toNat 128 (by omega) (by omega) _ M I h) fun b w1 hb H1 => ?_
    rw [← ei] at hb H1
    exact Exists.intro b (And.intro rfl (And.intro hb H1))
  · have ei : intB v = numB v.toNat 0 := by rw [intB, if_neg h]
    have ev : IntKind.u64.wrap v = ((v.toNat : Nat) : Int) := by
      rw [wrap_id (k := .u64) ⟨by show (0 : Int) ≤ _; omega, by show _ ≤ (18446744073709551615 : Int); omega⟩]; omega
    refine call_rule H (fun M I _ h => ev ▸ number q a bs hl hn v.toNat 0 (by omega) (by omega) _ M I h) fun b w1 hb H1 => ?_
    rw [← ei] at hb H1
    exact Exists.intro b (And.intro rfl (And.intro hb H1))
@[reducible] def byteR : Rp Nat := ⟨1, Unit, fun x _ => [.int .u8 (x : Int)], fun x _ => x < 256, fun _ _ => [], fun _ _ => rfl⟩
theorem byC_at {bs : List Nat} {i b : Nat} (h : bs[i]? = some b) : ((byC bs).drop (i * 1)).take 1 = [.int .u8 (b : Int)] := by
  obtain ⟨hi, rfl⟩ := List.getElem?_eq_some_iff.1 h
  rw [Nat.mul_one]
  have hl : i < (byC bs).length := by simpa [byC] using hi
  rw [List.drop_eq_getElem_cons hl]
  simp [byC]
theorem frzBytes {w : World} {B : Base} {S S' : List Asn} {F : List Fact} (H : Hp B S F w) {v : Value} {e n : Nat} (bs : List Nat) (hM : ∀ b, ¬ B.M b) [h1 : TakeR S v e 1 n (byC bs) S'] (hok : ∀ x, x ∈ bs → x < 256) : Hp B S' (Sl byteR v bs :: F) w := by
  have hcl : ∀ (i x : Nat), bs[i]? = some x → ∃ p : Unit, x < 256 ∧ ((byC bs).drop (i * 1)).take 1 = [.int .u8 (x : Int)] ∧ ([] : List Fact) = [] := fun i x hx => ⟨(), hok x (List.mem_of_getElem? hx), byC_at hx, rfl⟩
  have H2 := (H.addCl byteR (cs := byC bs) (xs := bs) (by simp [byC]) hcl).frzRow (v := v) (xs := bs) byteR hM rfl (by decide)
  refine H2.facts fun I ha f hf => ha f ?_
  rcases List.mem_cons.1 hf with rfl | hf
  · exact List.mem_cons_self
  · exact List.mem_cons_of_mem _ (List.mem_cons_of_mem _ hf)
theorem clone (ad : Addr) (n c : Nat) (bs : List Nat) (hn : n ≤ 1000000) (w : World) (M I : BS) (hM : ∀ b, ¬ M b) (H : Hp ⟨w, M, I⟩ [] [Sl byteR (.slice (some ad) n c) bs] w) :
    Ctr Tryz.prog 81 [.slice (some ad) n c] w M I (fun a : SV => .slice a.A a.n a.c) (fun _ => True) (fun _ => []) (fun a => [Sl byteR (.slice a.A a.n a.c) bs]) := by
  refine Exe.of_ev tok Tryz.call81 Tryz.func81 rfl rfl rfl ?_
  refine slice_as tok H [] rfl rfl rfl rfl rfl rfl fun g w1 H1 => ?_
  have H2 : Hp ⟨w, M, I⟩ [row 5 1 (.slice (some ⟨g, 0, none⟩) 0 0) 0 []] [Sl byteR (.slice (some ad) n c) bs] w1 := H1.toRow 1 0 rfl (by decide)
  refine append_sl (v := .slice (some ⟨g, 0, none⟩) 0 0) (A := some ad) (m := n) (c := c) tok H2 rfl rfl rfl rfl rfl rfl rfl ?_ ?_ (by omega) fun A2 c2 news w4 H4 => ?_
  · intro x p _ u hu
    rw [List.mem_singleton] at hu
    subst hu; rfl
  · show (0 + n) * 1 ≤ _
    omega
  have H4' : Hp ⟨w, M, I⟩ [row 5 1 (.slice A2 (0 + n) c2) (0 + n) news] [Cl byteR news bs, Sl byteR (.slice (some ad) n c) bs] w4 := H4
  have H5 := H4'.frzRow (v := .slice A2 (0 + n) c2) (xs := bs) byteR hM rfl (by decide)
  exact Exists.intro ⟨A2, 0 + n, c2⟩ (And.intro rfl (And.intro trivial (Hp.keep H5)))
theorem done_ (q : Nat) (ad : Addr) (n c : Nat) (bs : List Nat) (hn : n ≤ 1000000) (w : World) (M I : BS) (H : Hp ⟨w, M, I⟩ [blk q [.slice (some ad) n c] 122] [Sl byteR (.slice (some ad) n c) bs] w) :
    Ctr Tryz.prog 53 [.pointer (some ⟨q, 0, none⟩)] w M I (fun a : SV => .slice a.A a.n a.c) (fun _ => True) (fun _ => []) (fun a => [Sl byteR (.slice a.A a.n a.c) bs]) := by
  refine Exe.of_ev tok Tryz.call53 Tryz.func53 rfl rfl rfl ?_
  refine load_rule tok H (v := .slice (some ad) n c) rfl ?_
  refine call_rule H (fun M I h0 h => clone ad n c bs hn _ M I (h0 rfl) h) fun a w1 _ H1 => ?_
  exact Exists.intro a (And.intro rfl (And.intro trivial (Hp.keep H1)))
end Go.Proofs.YtfemfomgmopibaaGreatDoor
/- An entry's bytes: the walk. -/
namespace Go.Proofs.YtfemfomgmopibaaGreatDoor
open Go Go.Proofs Go.Wk
def legsB : List Leg → List Nat
  | [] => []
  | x :: r => numB x.acct.toNat 0 ++ intB x.amt ++ legsB r
def entBytes (k : Key) (ls : List Leg) : List Nat := numB k.loan.toNat 0 ++ numB k.day.toNat 0 ++ numB k.kind.toNat 0 ++ numB k.seq.toNat 0 ++ numB ls.length 0 ++ legsB ls
theorem numB_len {n m : Nat} (h : n < 18446744073709551616) : (numB n m).length ≤ 9 := by
  have := sizeB_le8 h
  simp only [numB, List.length_cons, bigE_len]; omega
theorem bigE_lt (n : Nat) : ∀ k x, x ∈ bigE n k → x < 256
  | 0, x, h => by cases h
  | k + 1, x, h => by
    unfold bigE at h
    rcases List.mem_cons.1 h with rfl | h
    · omega
    · exact bigE_lt n k x h
theorem numB_lt {n m : Nat} (h : n < 18446744073709551616) (hm : m ≤ 128) : ∀ x, x ∈ numB n m → x < 256 := fun x hx => by
  have := sizeB_le8 h
  unfold numB at hx
  rcases List.mem_cons.1 hx with rfl | hx
  · omega
  · exact bigE_lt n _ x hx
theorem intB_lt {v : Int} (h : inK .i64 v) : (∀ x, x ∈ intB v → x < 256) ∧ (intB v).length ≤ 9 := by
  have h : -9223372036854775808 ≤ v ∧ v ≤ 9223372036854775807 := h
  unfold intB
  split
  · exact ⟨numB_lt (by omega) (by omega), numB_len (by omega)⟩
  · exact ⟨numB_lt (by omega) (by omega), numB_len (by omega)⟩
@[reducible] def legIn (x : Leg) : Prop := inK .u8 x.acct ∧ inK .i64 x.amt
theorem legsB_lt : ∀ {ls : List Leg}, (∀ x, x ∈ ls → legIn x) → (∀ x, x ∈ legsB ls → x < 256) ∧ (legsB ls).length ≤ 18 * ls.length
  | [], _ => ⟨(fun x h => by cases h), by simp [legsB]⟩
  | l :: r, h => by
    obtain ⟨h1, h2⟩ := legsB_lt (ls := r) fun x hx => h x (List.mem_cons_of_mem _ hx)
    obtain ⟨⟨a1, a2⟩, a3⟩ := h l List.mem_cons_self
    simp only [kLo, kHi] at a1 a2
    obtain ⟨b1, b2⟩ := intB_lt a3
    have c1 := numB_lt (n := l.acct.toNat) (m := 0) (by omega) (by omega)
    have c2 := numB_len (n := l.acct.toNat) (m := 0) (by omega)
    refine ⟨fun x hx => ?_, ?_⟩
    · unfold legsB at hx
      rcases List.mem_append.1 hx with hx | hx
      · rcases List.mem_append.1 hx with hx | hx
        · exact c1 x hx
        · exact b1 x hx
      · exact h1 x hx
    · simp only [legsB, List.length_append, List.length_cons]; omega
theorem legsB_app : ∀ a b : List Leg, legsB (a ++ b) = legsB a ++ legsB b
  | [], _ => rfl
  | x :: a, b => by simp [legsB, legsB_app a b]
@[reducible] def keyIn (k : Key) : Prop := inK .u32 k.loan ∧ inK .i32 k.day ∧ inK .u8 k.kind ∧ inK .u32 k.seq
theorem right_day {k : Key} {ls : List Leg} (h : rightB k ls = true) : 0 ≤ k.day ∧ ls.length ≤ 8 ∧ ls.length ≠ 0 := by
  unfold rightB at h
  cases h1 : noB (kindName k.kind) <;> rw [h1] at h <;> simp only [cond_true, cond_false] at h
  · cases h2 : dayB k.day <;> rw [h2] at h <;> simp only [Bool.not_true, Bool.not_false, cond_true, cond_false] at h
    · cases h
    · cases h3 : ((ls.length : Int) == 0) <;> rw [h3] at h <;> simp only [cond_true, cond_false] at h
      · cases h4 : decide (8 < (ls.length : Int)) <;> rw [h4] at h <;> simp only [cond_true, cond_false] at h
        · simp only [dayB, Bool.and_eq_true, decide_eq_true_eq] at h2
          simp only [beq_eq_false_iff_ne, ne_eq] at h3
          simp only [decide_eq_false_iff_not] at h4
          omega
        · cases h
      · cases h
  · cases h
theorem u64_of {v : Int} (h0 : 0 ≤ v) (h1 : v < 18446744073709551616) : IntKind.u64.wrap v = ((v.toNat : Nat) : Int) := by
  rw [wrap_id (k := .u64) ⟨by show (0 : Int) ≤ _; omega, by show _ ≤ (18446744073709551615 : Int); omega⟩]; omega
set_option maxRecDepth 20000 in
set_option maxHeartbeats 1000000 in
theorem bytes_ (k : Key) (hk : keyIn k) (A : Option Addr) (n c : Nat) (ls : List Leg) (w : World) (M I : BS) (hM : ∀ b, ¬ M b) (H : Hp ⟨w, M, I⟩ [] [Sl legR (.slice A n c) ls] w) :
    Ctr Tryz.prog 52 [.agg #[.int .u32 k.loan, .int .i32 k.day, .int .u8 k.kind, .int .u32 k.seq, .slice A n c]] w M I (fun a : SV => .slice a.A a.n a.c) (fun _ => True) (fun _ => []) (fun a => [Sl byteR (.slice a.A a.n a.c) (if rightB k ls = true then entBytes k ls else [])]) := by
  obtain ⟨hn, hc, hc2⟩ := H.sll (A := A) (n := n) (c := c)
  have hok := legs_ok (A := A) (n := n) (c := c) H
  obtain ⟨⟨k1, k2⟩, ⟨k3, k4⟩, ⟨k5, k6⟩, ⟨k7, k8⟩⟩ := id hk
  simp only [kLo, kHi] at k1 k2 k3 k4 k5 k6 k7 k8
  refine Exe.of_ev tok Tryz.call52 Tryz.func52 rfl rfl rfl ?_
  refine box_as H (entC k A n c) rfl fun x w1 H1 => ?_
  refine load_rule tok H1 (v := .agg #[.int .u32 k.loan, .int .i32 k.day, .int .u8 k.kind, .int .u32 k.seq, .slice A n c]) rfl ?_
  refine call_rule H1 (fun M I _ h => right k hk.2.2.1 A n c ls _ M I h) fun _ w2 _ H2 => ?_
  refine br (fun q => ?_) (fun q => ?_)
  · have q : rightB k ls = false := by simpa using q
    refine Exists.intro ⟨none, 0, 0⟩ (And.intro rfl (And.intro trivial ?_))
    have e : (if rightB k ls = true then entBytes k ls else []) = [] := by rw [q]; rfl
    rw [e]
    exact Hp.keep (H2.slNil byteR)
  have q : rightB k ls = true := by simpa using q
  obtain ⟨q1, q2, q3⟩ := right_day q
  refine alloc_as tok H2 [.slice none 0 0] rfl rfl rfl fun qu w3 H3 => ?_
  have H3' : Hp ⟨w, M, I⟩ [row 5 1 (.slice none 0 0) 0 [], blk qu [.slice none 0 0] 122, blk x (entC k A n c) 39] [Sl legR (.slice A n c) ls] w3 := (Hp.nil H3 5 1).keep
  have H3 : Hp ⟨w, M, I⟩ [row 5 1 (.slice none 0 0) 0 (byC []), blk qu [.slice none 0 0] 122, blk x (entC k A n c) 39] [Sl legR (.slice A n c) ls] w3 := H3'
  have e1 := u64_of (v := k.loan) (by omega) (by omega)
  have e2 := u64_of (v := k.day) (by omega) (by omega)
  have e3 := u64_of (v := k.kind) (by omega) (by omega)
  have e4 := u64_of (v := k.seq) (by omega) (by omega)
  have e5 : IntKind.u64.wrap (n : Int) = ((ls.length : Nat) : Int) := by rw [u64_of (by omega) (by omega)]; omega
  have n1 := numB_len (n := k.loan.toNat) (m := 0) (by omega)
  have n2 := numB_len (n := k.day.toNat) (m := 0) (by omega)
  have n3 := numB_len (n := k.kind.toNat) (m := 0) (by omega)
  have n4 := numB_len (n := k.seq.toNat) (m := 0) (by omega)
  have n5 := numB_len (n := ls.length) (m := 0) (by omega)
  refine draw_rule (A := [blk qu [.slice none 0 0] 122, row 5 1 (.slice none 0 0) 0 (byC [])]) tok tdr H3 [0, 1, 2, 3, 4, 5, 6, 7, 8, 9, 10, 11, 12, 13, 14, 15, 16, 17, 18, 19, 20, 21, 22, 23, 24] [0, 1, 3, 7, 15, 0, 32, 96, 224, 511, 0, 1024, 3072, 7168, 16383, 0, 32768, 98304, 229376, 524287, 0, 1048576, 3145728, 7340032, 16777215] rfl ?_
  refine pass_rule _ (fun w h => load_rule tok h (v := .int .u32 k.loan) rfl ⟨rfl, rfl⟩) ?_
  refine imp_rule (fun X wx h => call_rule h (fun M I _ h => uint_as qu ⟨none, 0, 0⟩ [] rfl (by simp only; omega) k.loan.toNat _ e1 (by omega) _ M I h) fun s1 w1 hs1 H1 => imp_done H1 ?_)
  have hs1 : s1.n = 0 + (numB k.loan.toNat 0).length := hs1
  refine pass_rule _ (fun w h => load_rule tok h (v := .int .i32 k.day) rfl ⟨rfl, rfl⟩) ?_
  refine imp_rule (fun X wx h => call_rule h (fun M I _ h => uint_as qu s1 ([] ++ numB k.loan.toNat 0) (by simp; omega) (by omega) k.day.toNat _ e2 (by omega) _ M I h) fun s2 w1 hs2 H1 => imp_done H1 ?_)
  refine pass_rule _ (fun w h => load_rule tok h (v := .int .u8 k.kind) rfl ⟨rfl, rfl⟩) ?_
  refine imp_rule (fun X wx h => call_rule h (fun M I _ h => uint_as qu s2 ([] ++ numB k.loan.toNat 0 ++ numB k.day.toNat 0) (by simp; omega) (by omega) k.kind.toNat _ e3 (by omega) _ M I h) fun s3 w1 hs3 H1 => imp_done H1 ?_)
  refine pass_rule _ (fun w h => load_rule tok h (v := .int .u32 k.seq) rfl ⟨rfl, rfl⟩) ?_
  refine imp_rule (fun X wx h => call_rule h (fun M I _ h => uint_as qu s3 ([] ++ numB k.loan.toNat 0 ++ numB k.day.toNat 0 ++ numB k.kind.toNat 0) (by simp; omega) (by omega) k.seq.toNat _ e4 (by omega) _ M I h) fun s4 w1 hs4 H1 => imp_done H1 ?_)
  refine pass_rule _ (fun w h => load_rule tok h (v := .slice A n c) rfl ⟨rfl, rfl⟩) ?_
  refine imp_rule (fun X wx h => call_rule h (fun M I _ h => uint_as qu s4 ([] ++ numB k.loan.toNat 0 ++ numB k.day.toNat 0 ++ numB k.kind.toNat 0 ++ numB k.seq.toNat 0) (by simp; omega) (by omega) ls.length _ e5 (by omega) _ M I h) fun s5 w1 hs5 H1 => imp_done H1 ?_)
  refine done_rule fun w4 H4 => ?_
  refine load_rule tok H4 (v := .slice A n c) rfl ?_
  have hd : ([] ++ numB k.loan.toNat 0 ++ numB k.day.toNat 0 ++ numB k.kind.toNat 0 ++ numB k.seq.toNat 0 ++ numB ls.length 0) ++ legsB (ls.take 0) = numB k.loan.toNat 0 ++ numB k.day.toNat 0 ++ numB k.kind.toNat 0 ++ numB k.seq.toNat 0 ++ numB ls.length 0 ++ legsB (ls.take 0) := rfl
  have H4 : Hp ⟨w, M, I⟩ [blk qu [.slice s5.A s5.n s5.c] 122, row 5 1 (.slice s5.A s5.n s5.c) s5.n (byC ([] ++ numB k.loan.toNat 0 ++ numB k.day.toNat 0 ++ numB k.kind.toNat 0 ++ numB k.seq.toNat 0 ++ numB ls.length 0)), blk x (entC k A n c) 39] [Sl legR (.slice A n c) ls] w4 := H4.keep
  have hlen : s5.n = (numB k.loan.toNat 0 ++ numB k.day.toNat 0 ++ numB k.kind.toNat 0 ++ numB k.seq.toNat 0 ++ numB ls.length 0 ++ legsB (ls.take 0)).length := by
    rw [← hd]
    simp only [List.length_append, List.take_zero, legsB, List.length_nil]
    omega
  have hshort : (numB k.loan.toNat 0 ++ numB k.day.toNat 0 ++ numB k.kind.toNat 0 ++ numB k.seq.toNat 0 ++ numB ls.length 0).length ≤ 45 := by
    simp only [List.length_append]; omega
  have hhd : ∀ x, x ∈ (numB k.loan.toNat 0 ++ numB k.day.toNat 0 ++ numB k.kind.toNat 0 ++ numB k.seq.toNat 0 ++ numB ls.length 0) → x < 256 := by
    intro y hy
    simp only [List.mem_append] at hy
    rcases hy with (((hy | hy) | hy) | hy) | hy
    all_goals exact numB_lt (by omega) (by omega) y hy
  have hpos : 0 < (numB k.loan.toNat 0 ++ numB k.day.toNat 0 ++ numB k.kind.toNat 0 ++ numB k.seq.toNat 0 ++ numB ls.length 0).length := by
    simp only [List.length_append, numB, List.length_cons]; omega
  rw [show ([] ++ numB k.loan.toNat 0 ++ numB k.day.toNat 0 ++ numB k.kind.toNat 0 ++ numB k.seq.toNat 0 ++ numB ls.length 0) = (numB k.loan.toNat 0 ++ numB k.day.toNat 0 ++ numB k.kind.toNat 0 ++ numB k.seq.toNat 0 ++ numB ls.length 0 ++ legsB (ls.take 0)) by rw [← hd]; simp [legsB]] at H4
  have hent : entBytes k ls = (numB k.loan.toNat 0 ++ numB k.day.toNat 0 ++ numB k.kind.toNat 0 ++ numB k.seq.toNat 0 ++ numB ls.length 0) ++ legsB ls := rfl
  generalize (numB k.loan.toNat 0 ++ numB k.day.toNat 0 ++ numB k.kind.toNat 0 ++ numB k.seq.toNat 0 ++ numB ls.length 0) = hb at H4 hlen hshort hhd hpos hent
  have hleg := legsB_lt hok
  refine loop_rule tok (σ := Nat × SV) 562812514467872 (fun s => [(37, .int .i64 s.1)])
    (fun s w' => s.1 ≤ n ∧ s.2.n = (hb ++ legsB (ls.take s.1)).length ∧ Hp ⟨w, M, I⟩ [blk qu [.slice s.2.A s.2.n s.2.c] 122, row 5 1 (.slice s.2.A s.2.n s.2.c) s.2.n (byC (hb ++ legsB (ls.take s.1))), blk x (entC k A n c) 39] [Sl legR (.slice A n c) ls] w') (fun s => n - s.1) (0, s5) rfl rfl ⟨rfl, trivial⟩ ⟨Nat.zero_le _, hlen, H4⟩ ?_
  rintro ⟨i, A6, n6, c6⟩ j5 w5 ⟨hi, h6, H5⟩
  simp only at hi h6 H5
  refine brd (fun hq => ?_) (fun hq => ?_)
  · have hq : (i : Int) < n := hq
    have hil : i < n := by omega
    obtain ⟨u, hu⟩ : ∃ u, ls[i]? = some u := ⟨_, List.getElem?_eq_getElem (by omega)⟩
    obtain ⟨⟨u1, u2⟩, u3⟩ := hok u (List.mem_of_getElem? hu)
    simp only [kLo, kHi] at u1 u2
    obtain ⟨b1, o1, rfl⟩ := H5.slAt (A := A) (n := n) (c := c) (r := legR) (by omega)
    refine idx_own tok rfl rfl (show (0 : Int) ≤ (i : Int) by omega) hq ?_
    refine sl_ld (n := n) (c := c) (j := i) (f := 0) (r := legR) tok H5 (legV u) hu rfl (fun _ _ => rfl) ?_
    refine alloc_as tok H5 [.int .u8 0, .int .i64 0] rfl rfl rfl fun l w6 H6 => ?_
    refine store_as tok H6 [.int .u8 u.acct, .int .i64 u.amt] rfl rfl rfl rfl rfl fun w7 H7 => ?_
    have htk : (legsB (ls.take i)).length ≤ 18 * i := by
      have h1 := (legsB_lt (ls := ls.take i) fun y hy => hok y (List.mem_of_mem_take hy)).2
      have h2 : (ls.take i).length ≤ i := by simp; omega
      omega
    have e6 := u64_of (v := u.acct) (by omega) (by omega)
    have n6' := numB_len (n := u.acct.toNat) (m := 0) (by omega)
    simp only [List.length_append] at h6
    have hd1 : ls.take (i + 1) = ls.take i ++ [u] := by rw [List.take_add_one, hu]; rfl
    refine draw_rule (A := [blk qu [.slice A6 n6 c6] 122, row 5 1 (.slice A6 n6 c6) n6 (byC (hb ++ legsB (ls.take i)))]) tok tdr H7 [0, 1, 2, 3, 4, 5, 6] [0, 1, 3, 7, 0, 16, 63] rfl ?_
    refine pass_rule _ (fun w h => load_rule tok h (v := .int .u8 u.acct) rfl ⟨rfl, rfl⟩) ?_
    refine imp_rule (fun X wx h => call_rule h (fun M I _ h => uint_as qu ⟨A6, n6, c6⟩ (hb ++ legsB (ls.take i)) (by simp only [List.length_append]; omega) (by simp only; omega) u.acct.toNat _ e6 (by omega) _ M I h) fun s7 w1 hs7 H1 => imp_done H1 ?_)
    have hs7 : s7.n = n6 + (numB u.acct.toNat 0).length := hs7
    refine pass_rule _ (fun w h => load_rule tok h (v := .int .i64 u.amt) rfl ⟨rfl, rfl⟩) ?_
    refine imp_rule (fun X wx h => call_rule h (fun M I _ h => int_ qu s7 (hb ++ legsB (ls.take i) ++ numB u.acct.toNat 0) (by simp only [List.length_append]; omega) (by omega) u.amt u3 _ M I h) fun s8 w1 hs8 H1 => imp_done H1 ?_)
    refine done_rule fun w8 H8 => ?_
    have el : hb ++ legsB (ls.take i) ++ numB u.acct.toNat 0 ++ intB u.amt = hb ++ legsB (ls.take (i + 1)) := by
      rw [hd1, legsB_app]; simp [legsB]
    have H8 : Hp ⟨w, M, I⟩ [blk qu [.slice s8.A s8.n s8.c] 122, row 5 1 (.slice s8.A s8.n s8.c) s8.n (byC (hb ++ legsB (ls.take i) ++ numB u.acct.toNat 0 ++ intB u.amt)), blk x (entC k (some ⟨b1, o1, none⟩) n c) 39] [Sl legR (.slice (some ⟨b1, o1, none⟩) n c) ls] w8 := H8.keep
    rw [el] at H8
    refine Exists.intro (i + 1, s8) (And.intro ⟨?_, trivial⟩ (And.intro ?_ ⟨?_, ?_, H8⟩))
    · show Value.int .i64 (IntKind.i64.wrap (i + 1)) = _
      rw [w64 (by omega) (by omega)]; rfl
    · simp only; omega
    · simp only; omega
    · simp only
      rw [← el, hs8, hs7, h6]
      simp only [List.length_append]
  · have hq : ¬ (i : Int) < n := hq
    have hii : i = ls.length := by omega
    subst hii
    rw [List.take_length] at H5 h6
    have hl6 : (legsB ls).length ≤ 18 * ls.length := hleg.2
    simp only [List.length_append] at h6
    obtain ⟨b6, rfl⟩ := H5.rowSome (A := A6) (n := n6) (c := c6) (by omega)
    have H6 := frzBytes H5 (v := .slice (some ⟨b6, 0, none⟩) n6 c6) (hb ++ legsB ls) hM fun y hy => by
      rcases List.mem_append.1 hy with hy | hy
      · exact hhd y hy
      · exact hleg.1 y hy
    refine call_rule H6 (fun M I _ h => done_ qu ⟨b6, 0, none⟩ n6 c6 (hb ++ legsB ls) (by omega) _ M I h) fun r w9 _ H9 => ?_
    refine Exists.intro r (And.intro rfl (And.intro trivial ?_))
    have e : (if rightB k ls = true then entBytes k ls else []) = hb ++ legsB ls := by rw [q, if_pos rfl, hent]
    rw [e]
    exact Hp.keep H9
end Go.Proofs.YtfemfomgmopibaaGreatDoor
/- Bytes alike; bytes tell the entry: walk and plain law. -/
namespace Go.Proofs.YtfemfomgmopibaaGreatDoor
open Go Go.Proofs Go.Wk
def byEq : List Nat → List Nat → Bool
  | [], [] => true
  | x :: r, y :: s => decide (x = y) && byEq r s
  | _, _ => false
theorem byEq_iff : ∀ {a b : List Nat}, byEq a b = true ↔ a = b
  | [], [] => by simp [byEq]
  | [], _ :: _ => by simp [byEq]
  | _ :: _, [] => by simp [byEq]
  | x :: r, y :: s => by
    rw [byEq, Bool.and_eq_true, decide_eq_true_eq, byEq_iff, List.cons.injEq]
theorem byEq_len {a b : List Nat} (h : a.length ≠ b.length) : byEq a b = false := by
  cases hb : byEq a b with
  | false => rfl
  | true => exact absurd (congrArg List.length (byEq_iff.1 hb)) h
/-! ### Bytes tell the number -/
theorem lt_sizeB (n : Nat) : n < 256 ^ sizeB n := by
  induction n using Nat.strongRecOn with
  | ind n ih =>
    by_cases h : n = 0
    · subst h; rw [sizeB_zero]; decide
    · rw [sizeB_pos h, Nat.add_comm, Nat.pow_succ]
      have := ih (n / 256) (by omega)
      omega
theorem bigE_inj {n m : Nat} : ∀ k, bigE n k = bigE m k → n % 256 ^ k = m % 256 ^ k
  | 0, _ => by simp [Nat.mod_one]
  | k + 1, h => by
    simp only [bigE, List.cons.injEq] at h
    rw [Nat.mod_pow_succ, Nat.mod_pow_succ, h.1, bigE_inj k h.2]
theorem numB_inj {n m a b : Nat} {r s : List Nat} (hn : n < 18446744073709551616) (hm : m < 18446744073709551616) (ha : a = 0 ∨ a = 128) (hb : b = 0 ∨ b = 128) (h : numB n a ++ r = numB m b ++ s) : n = m ∧ a = b ∧ r = s := by
  have h1 := sizeB_le8 hn
  have h2 := sizeB_le8 hm
  simp only [numB, List.cons_append, List.cons.injEq] at h
  obtain ⟨h3, h4⟩ := h
  have h5 : sizeB n = sizeB m := by omega
  obtain ⟨h6, h7⟩ := List.append_inj h4 (by rw [bigE_len, bigE_len, h5])
  rw [← h5] at h6
  have h8 := bigE_inj _ h6
  rw [Nat.mod_eq_of_lt (lt_sizeB n), Nat.mod_eq_of_lt (by rw [h5]; exact lt_sizeB m)] at h8
  exact ⟨h8, by omega, h7⟩
theorem intB_inj {v u : Int} {r s : List Nat} (hv : inK .i64 v) (hu : inK .i64 u) (h : intB v ++ r = intB u ++ s) : v = u ∧ r = s := by
  have hv : -9223372036854775808 ≤ v ∧ v ≤ 9223372036854775807 := hv
  have hu : -9223372036854775808 ≤ u ∧ u ≤ 9223372036854775807 := hu
  unfold intB at h
  split at h <;> split at h
  all_goals
    obtain ⟨h1, h2, h3⟩ := numB_inj (by omega) (by omega) (by simp) (by simp) h
    exact ⟨by omega, h3⟩
theorem legsB_inj : ∀ {a b : List Leg}, a.length = b.length → (∀ x, x ∈ a → legIn x) → (∀ x, x ∈ b → legIn x) → legsB a = legsB b → a = b
  | [], [], _, _, _, _ => rfl
  | [], _ :: _, h, _, _, _ => by simp at h
  | _ :: _, [], h, _, _, _ => by simp at h
  | x :: r, y :: s, hl, ha, hb, h => by
    obtain ⟨⟨a1, a2⟩, a3⟩ := ha x List.mem_cons_self
    obtain ⟨⟨b1, b2⟩, b3⟩ := hb y List.mem_cons_self
    simp only [kLo, kHi] at a1 a2 b1 b2
    simp only [legsB, List.append_assoc] at h
    obtain ⟨h1, _, h2⟩ := numB_inj (by omega) (by omega) (by simp) (by simp) h
    obtain ⟨h3, h4⟩ := intB_inj a3 b3 h2
    have := legsB_inj (by simpa using hl) (fun z hz => ha z (List.mem_cons_of_mem _ hz)) (fun z hz => hb z (List.mem_cons_of_mem _ hz)) h4
    rw [this]
    obtain ⟨xa, xm⟩ := x
    obtain ⟨ya, ym⟩ := y
    simp only at h1 h3 a1 b1
    rw [show xa = ya by omega, h3]
theorem entBytes_inj {k l : Key} {a b : List Leg} (hk : keyIn k) (hl : keyIn l) (ha : ∀ x, x ∈ a → legIn x) (hb : ∀ x, x ∈ b → legIn x) (hra : rightB k a = true) (hrb : rightB l b = true) (h : entBytes k a = entBytes l b) : k = l ∧ a = b := by
  obtain ⟨⟨k1, k2⟩, ⟨k3, k4⟩, ⟨k5, k6⟩, ⟨k7, k8⟩⟩ := hk
  obtain ⟨⟨l1, l2⟩, ⟨l3, l4⟩, ⟨l5, l6⟩, ⟨l7, l8⟩⟩ := hl
  simp only [kLo, kHi] at k1 k2 k3 k4 k5 k6 k7 k8 l1 l2 l3 l4 l5 l6 l7 l8
  obtain ⟨q1, q2, _⟩ := right_day hra
  obtain ⟨p1, p2, _⟩ := right_day hrb
  simp only [entBytes, List.append_assoc] at h
  obtain ⟨h1, _, h⟩ := numB_inj (by omega) (by omega) (by simp) (by simp) h
  obtain ⟨h2, _, h⟩ := numB_inj (by omega) (by omega) (by simp) (by simp) h
  obtain ⟨h3, _, h⟩ := numB_inj (by omega) (by omega) (by simp) (by simp) h
  obtain ⟨h4, _, h⟩ := numB_inj (by omega) (by omega) (by simp) (by simp) h
  obtain ⟨h5, _, h⟩ := numB_inj (by omega) (by omega) (by simp) (by simp) h
  refine ⟨?_, legsB_inj h5 ha hb h⟩
  obtain ⟨x1, x2, x3, x4⟩ := k
  obtain ⟨y1, y2, y3, y4⟩ := l
  simp only at *
  rw [show x1 = y1 by omega, show x2 = y2 by omega, show x3 = y3 by omega, show x4 = y4 by omega]
theorem legsEq_iff : ∀ {a b : List Leg}, legsEq a b = true ↔ a = b
  | [], [] => by simp [legsEq]
  | [], _ :: _ => by simp [legsEq]
  | _ :: _, [] => by simp [legsEq]
  | x :: r, y :: s => by
    rw [legsEq, Bool.and_eq_true, legsEq_iff, List.cons.injEq]
    obtain ⟨xa, xm⟩ := x
    obtain ⟨ya, ym⟩ := y
    simp [legEq]
theorem eqK_iff {k l : Key} : eqK k l = true ↔ k = l := by
  obtain ⟨x1, x2, x3, x4⟩ := k
  obtain ⟨y1, y2, y3, y4⟩ := l
  simp [eqK]
theorem same_bytes {k l : Key} {a b : List Leg} (hk : keyIn k) (hl : keyIn l) (ha : ∀ x, x ∈ a → legIn x) (hb : ∀ x, x ∈ b → legIn x) (hra : rightB k a = true) (hrb : rightB l b = true) : sameB k l a b = byEq (entBytes k a) (entBytes l b) := by
  rw [Bool.eq_iff_iff, byEq_iff, sameB, Bool.and_eq_true, eqK_iff, legsEq_iff]
  constructor
  · rintro ⟨rfl, rfl⟩; rfl
  · exact entBytes_inj hk hl ha hb hra hrb
/-- The sum as the machine makes it. -/
def sumW (s : Int) : List Leg → Int
  | [] => s
  | x :: r => sumW (IntKind.i64.wrap (s + x.amt)) r
theorem right_sum : ∀ {ls : List Leg} {s last : Int}, rightGo s last ls = true → sumW s ls = 0
  | [], s, last, h => by simpa [rightGo, sumW] using h
  | x :: r, s, last, h => by
    unfold rightGo at h
    cases h1 : in64 (s + x.amt) <;> rw [h1] at h <;> simp only [cond_true, cond_false] at h
    · cases h
    · cases h2 : decide (x.acct ≤ last) <;> rw [h2] at h <;> simp only [cond_true, cond_false] at h
      · cases h3 : noB (accName x.acct) <;> rw [h3] at h <;> simp only [cond_true, cond_false] at h
        · simp only [in64, Bool.and_eq_true, decide_eq_true_eq] at h1
          rw [sumW, w64 h1.1 h1.2]
          exact right_sum h
        · cases h
      · cases h
theorem rightB_sum {k : Key} {ls : List Leg} (h : rightB k ls = true) : sumW 0 ls = 0 := by
  unfold rightB at h
  cases h1 : noB (kindName k.kind) <;> rw [h1] at h <;> simp only [cond_true, cond_false] at h
  · cases h2 : dayB k.day <;> rw [h2] at h <;> simp only [Bool.not_true, Bool.not_false, cond_true, cond_false] at h
    · cases h
    · cases h3 : ((ls.length : Int) == 0) <;> rw [h3] at h <;> simp only [cond_true, cond_false] at h
      · cases h4 : decide (8 < (ls.length : Int)) <;> rw [h4] at h <;> simp only [cond_true, cond_false] at h
        · exact right_sum h
        · cases h
      · cases h
  · cases h
end Go.Proofs.YtfemfomgmopibaaGreatDoor
