/- An entry the other way: the walk. -/
import Derived.Test.YtfemfomgmopibaaGreatDoorA3
import Derived.Test.YtfemfomgmopibaaGreatDoorAsE
namespace Go.Proofs.YtfemfomgmopibaaGreatDoor
open Go Go.Proofs Go.Wk
def minI : Int := -9223372036854775808
@[reducible] def negR (v : Int) : Value := if v = -9223372036854775808 then .tuple #[.int .i64 0, .iface 47 (.int .i64 12)] else .tuple #[.int .i64 (-v), .nilIface]
theorem neg (v : Int) (h : inK .i64 v) : CB 71 [.int .i64 v] (negR v) := by
  intro w M I H
  have h : -9223372036854775808 ≤ v ∧ v ≤ 9223372036854775807 := h
  refine Exe.of_ev tok Tryz.call71 Tryz.func71 rfl rfl rfl ?_
  refine brd (fun q => ?_) (fun q => ?_)
  · refine Exists.intro () (And.intro ?_ (And.intro trivial H))
    have q : v = -9223372036854775808 := q
    show Value.tuple #[.int .i64 0, .iface 47 (.int .i64 12)] = negR v
    rw [negR, if_pos q]
  · refine Exists.intro () (And.intro ?_ (And.intro trivial H))
    have q : ¬ v = -9223372036854775808 := q
    show Value.tuple #[.int .i64 (IntKind.i64.wrap (0 - v)), .nilIface] = negR v
    rw [negR, if_neg q, w64 (by omega) (by omega), Int.zero_sub]
def negL (x : Leg) : Leg := ⟨x.acct, -x.amt⟩
/-- Do all amounts and all sums have an other way? -/
def turnGo (s : Int) : List Leg → Bool
  | [] => true
  | x :: r => !decide (x.amt = -9223372036854775808) && (!decide (s + x.amt = -9223372036854775808) && turnGo (s + x.amt) r)
theorem turn_min : ∀ {ls : List Leg} {s : Int} {x : Leg}, x ∈ ls → x.amt = -9223372036854775808 → turnGo s ls = false
  | [], _, _, h, _ => by cases h
  | y :: r, s, x, h, e => by
    unfold turnGo
    rcases List.mem_cons.1 h with rfl | h
    · rw [decide_eq_true e]; rfl
    · rw [turn_min h e, Bool.and_false, Bool.and_false]
theorem turn_right : ∀ {ls : List Leg} {s last : Int}, inK .i64 s → s ≠ -9223372036854775808 → (∀ x, x ∈ ls → x.amt ≠ -9223372036854775808 ∧ inK .i64 x.amt) → rightGo s last ls = true → rightGo (-s) last (ls.map negL) = turnGo s ls
  | [], s, last, _, _, _, h => by
    simp only [rightGo, beq_iff_eq] at h
    subst h; rfl
  | x :: r, s, last, hs, hm, ha, h => by
    obtain ⟨hx1, hx2⟩ := ha x List.mem_cons_self
    have hs : -9223372036854775808 ≤ s ∧ s ≤ 9223372036854775807 := hs
    have hx2 : -9223372036854775808 ≤ x.amt ∧ x.amt ≤ 9223372036854775807 := hx2
    unfold rightGo at h
    cases h1 : in64 (s + x.amt) <;> rw [h1] at h <;> simp only [cond_true, cond_false] at h
    · cases h
    · cases h2 : decide (x.acct ≤ last) <;> rw [h2] at h <;> simp only [cond_true, cond_false] at h
      · cases h3 : noB (accName x.acct) <;> rw [h3] at h <;> simp only [cond_true, cond_false] at h
        · simp only [in64, Bool.and_eq_true, decide_eq_true_eq] at h1
          simp only [List.map_cons, rightGo, turnGo, negL, h2, h3, cond_false]
          rw [decide_eq_false hx1, Bool.not_false, Bool.true_and, show -s + -x.amt = -(s + x.amt) by omega]
          by_cases hq : s + x.amt = -9223372036854775808
          · rw [decide_eq_true hq, Bool.not_true, Bool.false_and]
            have : in64 (-(s + x.amt)) = false := by
              unfold in64
              rw [decide_eq_false (show ¬ -(s + x.amt) ≤ 9223372036854775807 by omega), Bool.and_false]
            rw [this]; rfl
          · rw [decide_eq_false hq, Bool.not_false, Bool.true_and]
            have : in64 (-(s + x.amt)) = true := by
              unfold in64
              rw [decide_eq_true (show -9223372036854775808 ≤ -(s + x.amt) by omega), decide_eq_true (show -(s + x.amt) ≤ 9223372036854775807 by omega)]; rfl
            rw [this, cond_true]
            exact turn_right (s := s + x.amt) ⟨h1.1, h1.2⟩ hq (fun y hy => ha y (List.mem_cons_of_mem _ hy)) h
        · cases h
      · cases h
theorem rightB_neg {k : Key} {ls : List Leg} (ha : ∀ x, x ∈ ls → x.amt ≠ -9223372036854775808 ∧ inK .i64 x.amt) (h : rightB k ls = true) : rightB k (ls.map negL) = turnGo 0 ls := by
  have key : rightGo 0 0 ls = true → rightGo 0 0 (ls.map negL) = turnGo 0 ls := fun h => turn_right (s := 0) (last := 0) ⟨by decide, by decide⟩ (by decide) ha h
  unfold rightB at h ⊢
  rw [List.length_map]
  cases h1 : noB (kindName k.kind) <;> rw [h1] at h <;> simp only [cond_true, cond_false] at h ⊢
  · cases h2 : dayB k.day <;> rw [h2] at h <;> simp only [Bool.not_true, Bool.not_false, cond_true, cond_false] at h ⊢
    · cases h
    · cases h3 : ((ls.length : Int) == 0) <;> rw [h3] at h <;> simp only [cond_true, cond_false] at h ⊢
      · cases h4 : decide (8 < (ls.length : Int)) <;> rw [h4] at h <;> simp only [cond_true, cond_false] at h ⊢
        · exact key h
        · cases h
      · cases h
  · cases h
inductive TR where
  | bad (c : Int)
  | ok (s : SV)
@[reducible] def trV (k : Key) : TR → Value
  | .bad c => .tuple #[.agg #[.int .u32 0, .int .i32 0, .int .u8 0, .int .u32 0, .slice none 0 0], .iface 47 (.int .i64 c)]
  | .ok s => .tuple #[.agg #[.int .u32 k.loan, .int .i32 k.day, .int .u8 k.kind, .int .u32 k.seq, .slice s.A s.n s.c], .nilIface]
def trOk (k : Key) (ls : List Leg) : TR → Prop
  | .bad c => (rightB k ls = false ∧ c = 1) ∨ (rightB k ls = true ∧ turnGo 0 ls = false ∧ c = 12)
  | .ok _ => rightB k ls = true ∧ turnGo 0 ls = true ∧ rightB k (ls.map negL) = true
@[reducible] def trF (ls : List Leg) : TR → Fact
  | .bad _ => ttF
  | .ok s => Sl legR (.slice s.A s.n s.c) (ls.map negL)
set_option maxRecDepth 20000 in
set_option maxHeartbeats 1000000 in
theorem turned (k : Key) (hk : inK .u8 k.kind) (A : Option Addr) (n c : Nat) (ls : List Leg) (w : World) (M I : BS) (hM : ∀ b, ¬ M b) (H : Hp ⟨w, M, I⟩ [] [Sl legR (.slice A n c) ls] w) :
    Ctr Tryz.prog 42 [.agg #[.int .u32 k.loan, .int .i32 k.day, .int .u8 k.kind, .int .u32 k.seq, .slice A n c]] w M I (trV k) (trOk k ls) (fun _ => []) (fun a => [trF ls a]) := by
  obtain ⟨hn, hc, hc2⟩ := H.sll (A := A) (n := n) (c := c)
  have hok := legs_ok (A := A) (n := n) (c := c) H
  refine Exe.of_ev tok Tryz.call42 Tryz.func42 rfl rfl rfl ?_
  refine box_as H (entC k A n c) rfl fun x w1 H1 => ?_
  refine alloc_as tok H1 zeroC rfl rfl rfl fun r w2 H2 => ?_
  refine load_rule tok H2 (v := .agg #[.int .u32 k.loan, .int .i32 k.day, .int .u8 k.kind, .int .u32 k.seq, .slice A n c]) rfl ?_
  refine call_rule H2 (fun M I _ h => right k hk A n c ls _ M I h) fun _ w3 _ H3 => ?_
  refine br (fun q => ?_) (fun q => ?_)
  · have q : rightB k ls = false := by simpa using q
    refine store_as tok H3 zeroC rfl rfl rfl rfl rfl fun w4 H4 => ?_
    refine Exists.intro ⟨r, 0, none⟩ (Exists.intro (.agg #[.int .u32 0, .int .i32 0, .int .u8 0, .int .u32 0, .slice none 0 0]) (And.intro rfl (And.intro (Hp.ld (T := tb) tok H4 rfl) ?_)))
    exact Exists.intro (.bad 1) (And.intro rfl (And.intro (.inl ⟨q, rfl⟩) (Hp.keep (H4.addTt))))
  have q : rightB k ls = true := by simpa using q
  obtain ⟨_, q2, _⟩ := right_day q
  refine load_rule tok H3 (v := keyV k) rfl ?_
  refine alloc_as tok H3 zeroC rfl rfl rfl fun o w4 H4 => ?_
  refine store_as tok H4 (entC k none 0 0) rfl rfl rfl rfl rfl fun w5 H5 => ?_
  refine load_rule tok H5 (v := .slice A n c) rfl ?_
  have H5' : Hp ⟨w, M, I⟩ [row 43 2 (.slice none 0 0) 0 [], blk o (entC k none 0 0) 39, blk r zeroC 39, blk x (entC k A n c) 39] [Sl legR (.slice A n c) ls] w5 := (Hp.nil H5 43 2).keep
  have H5 : Hp ⟨w, M, I⟩ [row 43 2 (.slice none 0 0) 0 (legsC ((ls.take 0).map negL)), blk o (entC k none 0 0) 39, blk r zeroC 39, blk x (entC k A n c) 39] [Sl legR (.slice A n c) ls] w5 := H5'
  refine loop_rule tok (σ := Nat × SV) 17592184996296 (fun s => [(20, .int .i64 s.1)])
    (fun s w' => s.1 ≤ n ∧ s.2.n = s.1 ∧ (∀ y, y ∈ ls.take s.1 → y.amt ≠ -9223372036854775808) ∧ Hp ⟨w, M, I⟩ [row 43 2 (.slice s.2.A s.2.n s.2.c) s.2.n (legsC ((ls.take s.1).map negL)), blk o (entC k s.2.A s.2.n s.2.c) 39, blk r zeroC 39, blk x (entC k A n c) 39] [Sl legR (.slice A n c) ls] w') (fun s => n - s.1) (0, ⟨none, 0, 0⟩) rfl rfl ⟨rfl, trivial⟩ ⟨Nat.zero_le _, rfl, (fun y hy => by cases hy), H5⟩ ?_
  rintro ⟨i, A1, n1, c1⟩ j w6 ⟨hi, hn1, hmn, H6⟩
  simp only at hi hn1 hmn H6
  subst hn1
  refine brd (fun h => ?_) (fun h => ?_)
  · have h : (n1 : Int) < n := h
    obtain ⟨u, hu⟩ : ∃ u, ls[n1]? = some u := ⟨_, List.getElem?_eq_getElem (by omega)⟩
    have hum : u ∈ ls := List.mem_of_getElem? hu
    obtain ⟨b1, o1, rfl⟩ := H6.slAt (A := A) (n := n) (c := c) (r := legR) (by omega)
    refine idx_own tok rfl rfl (show (0 : Int) ≤ (n1 : Int) by omega) h ?_
    refine sl_ld (n := n) (c := c) (j := n1) (f := 0) (r := legR) tok H6 (legV u) hu rfl (fun _ _ => rfl) ?_
    refine alloc_as tok H6 [.int .u8 0, .int .i64 0] rfl rfl rfl fun l w7 H7 => ?_
    refine store_as tok H7 [.int .u8 u.acct, .int .i64 u.amt] rfl rfl rfl rfl rfl fun w8 H8 => ?_
    refine load_rule tok H8 (v := .int .i64 u.amt) rfl ?_
    rcases (show u.amt = -9223372036854775808 ∨ u.amt ≠ -9223372036854775808 by omega) with hu1 | hu1
    · have en : negR u.amt = .tuple #[.int .i64 0, .iface 47 (.int .i64 12)] := if_pos hu1
      refine call_rule H8 (fun M I _ h => en ▸ neg u.amt (hok u hum).2 _ M I h) fun _ w9 _ H9 => ?_
      refine store_as tok H9 zeroC rfl rfl rfl rfl rfl fun w10 H10 => ?_
      refine Exists.intro ⟨r, 0, none⟩ (Exists.intro (.agg #[.int .u32 0, .int .i32 0, .int .u8 0, .int .u32 0, .slice none 0 0]) (And.intro rfl (And.intro (Hp.ld (T := tb) tok H10 rfl) ?_)))
      exact Exists.intro (.bad 12) (And.intro rfl (And.intro (.inr ⟨q, turn_min hum hu1, rfl⟩) (Hp.keep (H10.addTt))))
    · have en : negR u.amt = .tuple #[.int .i64 (-u.amt), .nilIface] := if_neg hu1
      refine call_rule H8 (fun M I _ h => en ▸ neg u.amt (hok u hum).2 _ M I h) fun _ w9 _ H9 => ?_
      refine load_rule tok H9 (v := .slice A1 n1 c1) rfl ?_
      refine load_rule tok H9 (v := .int .u8 u.acct) rfl ?_
      refine slice_as tok H9 [.int .u8 u.acct, .int .i64 (-u.amt)] rfl rfl rfl rfl rfl rfl fun g w10 H10 => ?_
      refine append_rule (v := .slice A1 n1 c1) (b := g) (m := 1) (c := 1) tok H10 rfl rfl rfl rfl rfl rfl rfl rfl (by show (n1 + 1) * 16 ≤ _; omega) (by omega) fun A2 c2 w11 H11 => ?_
      refine store_as tok H11 (entC k A2 (n1 + 1) c2) rfl rfl rfl rfl rfl fun w12 H12 => ?_
      have e : legsC ((ls.take (n1 + 1)).map negL) = legsC ((ls.take n1).map negL) ++ [.int .u8 u.acct, .int .i64 (-u.amt)] := by
        rw [List.take_add_one, hu, List.map_append, legsC_app]; rfl
      have H13 : Hp ⟨w, M, I⟩ [row 43 2 (.slice A2 (n1 + 1) c2) (n1 + 1) (legsC ((ls.take n1).map negL) ++ [.int .u8 u.acct, .int .i64 (-u.amt)]), blk o (entC k A2 (n1 + 1) c2) 39, blk r zeroC 39, blk x (entC k (some ⟨b1, o1, none⟩) n c) 39] [Sl legR (.slice (some ⟨b1, o1, none⟩) n c) ls] w12 := H12.keep
      rw [← e] at H13
      refine Exists.intro (n1 + 1, ⟨A2, n1 + 1, c2⟩) (And.intro ⟨?_, trivial⟩ (And.intro ?_ ⟨?_, rfl, ?_, H13⟩))
      · show Value.int .i64 (IntKind.i64.wrap (n1 + 1)) = _
        rw [w64 (by omega) (by omega)]; rfl
      · simp only; omega
      · simp only; omega
      · intro y hy
        simp only at hy
        rw [List.take_add_one, hu] at hy
        rcases List.mem_append.1 hy with hy | hy
        · exact hmn y hy
        · simp only [Option.toList_some, List.mem_singleton] at hy
          rw [hy]; exact hu1
  · have h : ¬ (n1 : Int) < n := h
    have e1 : ls.take n1 = ls := List.take_of_length_le (by omega)
    rw [e1] at H6 hmn
    have H7 := frzLegsRow H6 (v := .slice A1 n1 c1) (ls.map negL) hM fun y hy => by
      obtain ⟨z, hz, rfl⟩ := List.mem_map.1 hy
      have h1 := (hok z hz).1
      have h2 : -9223372036854775808 ≤ z.amt ∧ z.amt ≤ 9223372036854775807 := (hok z hz).2
      have h3 := hmn z hz
      exact ⟨h1, by show -9223372036854775808 ≤ -z.amt; omega, by show -z.amt ≤ 9223372036854775807; omega⟩
    have hrt := rightB_neg (k := k) (fun y hy => ⟨hmn y hy, (hok y hy).2⟩) q
    refine load_rule tok H7 (v := .agg #[.int .u32 k.loan, .int .i32 k.day, .int .u8 k.kind, .int .u32 k.seq, .slice A1 n1 c1]) rfl ?_
    refine call_rule H7 (fun M I _ h => right k hk A1 n1 c1 (ls.map negL) _ M I h) fun _ w8 _ H8 => ?_
    refine br (fun q3 => ?_) (fun q3 => ?_)
    · have q3 : rightB k (ls.map negL) = false := by simpa using q3
      refine store_as tok H8 zeroC rfl rfl rfl rfl rfl fun w9 H9 => ?_
      refine Exists.intro ⟨r, 0, none⟩ (Exists.intro (.agg #[.int .u32 0, .int .i32 0, .int .u8 0, .int .u32 0, .slice none 0 0]) (And.intro rfl (And.intro (Hp.ld (T := tb) tok H9 rfl) ?_)))
      exact Exists.intro (.bad 12) (And.intro rfl (And.intro (.inr ⟨q, by rw [← hrt]; exact q3, rfl⟩) (Hp.keep (H9.addTt))))
    · have q3 : rightB k (ls.map negL) = true := by simpa using q3
      refine load_rule tok H8 (v := .agg #[.int .u32 k.loan, .int .i32 k.day, .int .u8 k.kind, .int .u32 k.seq, .slice A1 n1 c1]) rfl ?_
      refine store_as tok H8 (entC k A1 n1 c1) rfl rfl rfl rfl rfl fun w9 H9 => ?_
      refine Exists.intro ⟨r, 0, none⟩ (Exists.intro (.agg #[.int .u32 k.loan, .int .i32 k.day, .int .u8 k.kind, .int .u32 k.seq, .slice A1 n1 c1]) (And.intro rfl (And.intro (Hp.ld (T := tb) tok H9 rfl) ?_)))
      exact Exists.intro (.ok ⟨A1, n1, c1⟩) (And.intro rfl (And.intro ⟨q, by rw [← hrt]; exact q3, q3⟩ (Hp.keep H9)))
end Go.Proofs.YtfemfomgmopibaaGreatDoor
/- An entry the other way may be, and has each amount the other way: the walk. -/
namespace Go.Proofs.YtfemfomgmopibaaGreatDoor
open Go Go.Proofs Go.Wk
theorem go_step {s last : Int} {x : Leg} {r : List Leg} (h : rightGo s last (x :: r) = true) : inK .i64 (s + x.amt) ∧ last < x.acct ∧ rightGo (s + x.amt) x.acct r = true := by
  unfold rightGo at h
  cases h1 : in64 (s + x.amt) <;> rw [h1] at h <;> simp only [cond_true, cond_false] at h
  · cases h
  · cases h2 : decide (x.acct ≤ last) <;> rw [h2] at h <;> simp only [cond_true, cond_false] at h
    · cases h3 : noB (accName x.acct) <;> rw [h3] at h <;> simp only [cond_true, cond_false] at h
      · simp only [in64, Bool.and_eq_true, decide_eq_true_eq] at h1
        simp only [decide_eq_false_iff_not] at h2
        exact ⟨⟨h1.1, h1.2⟩, by omega, h⟩
      · cases h
    · cases h
theorem rightB_go {k : Key} {ls : List Leg} (h : rightB k ls = true) : rightGo 0 0 ls = true := by
  unfold rightB at h
  cases h1 : noB (kindName k.kind) <;> rw [h1] at h <;> simp only [cond_true, cond_false] at h
  · cases h2 : dayB k.day <;> rw [h2] at h <;> simp only [Bool.not_true, Bool.not_false, cond_true, cond_false] at h
    · cases h
    · cases h3 : ((ls.length : Int) == 0) <;> rw [h3] at h <;> simp only [cond_true, cond_false] at h
      · cases h4 : decide (8 < (ls.length : Int)) <;> rw [h4] at h <;> simp only [cond_true, cond_false] at h
        · exact h
        · cases h
      · cases h
  · cases h
theorem go_rise : ∀ {ls : List Leg} {s last : Int}, rightGo s last ls = true → ∀ x, x ∈ ls → last < x.acct
  | [], _, _, _, x, hx => by cases hx
  | y :: r, s, last, h, x, hx => by
    obtain ⟨_, h2, h3⟩ := go_step h
    rcases List.mem_cons.1 hx with rfl | hx
    · exact h2
    · have := go_rise h3 x hx; omega
theorem ofV_mem : ∀ {ls : List Leg} {s last : Int}, rightGo s last ls = true → ∀ x, x ∈ ls → ofV x.acct ls = x.amt
  | [], _, _, _, x, hx => by cases hx
  | y :: r, s, last, h, x, hx => by
    obtain ⟨_, h2, h3⟩ := go_step h
    unfold ofV
    rcases List.mem_cons.1 hx with rfl | hx
    · rw [if_pos rfl]
    · have := go_rise h3 x hx
      rw [if_neg (by omega)]
      exact ofV_mem h3 x hx
theorem ofV_no {a : Int} : ∀ {ls : List Leg}, (∀ x, x ∈ ls → x.acct ≠ a) → ofV a ls = 0
  | [], _ => rfl
  | y :: r, h => by
    unfold ofV
    rw [if_neg (h y List.mem_cons_self)]
    exact ofV_no fun x hx => h x (List.mem_cons_of_mem _ hx)
theorem ofV_neg {a : Int} : ∀ (ls : List Leg), ofV a (ls.map negL) = -ofV a ls
  | [] => rfl
  | y :: r => by
    simp only [List.map_cons, ofV, negL]
    split
    · rfl
    · exact ofV_neg r
theorem turn_amt : ∀ {ls : List Leg} {s : Int}, turnGo s ls = true → ∀ x, x ∈ ls → x.amt ≠ -9223372036854775808
  | ls, s, h, x, hx, e => by rw [turn_min hx e] at h; cases h
end Go.Proofs.YtfemfomgmopibaaGreatDoor
