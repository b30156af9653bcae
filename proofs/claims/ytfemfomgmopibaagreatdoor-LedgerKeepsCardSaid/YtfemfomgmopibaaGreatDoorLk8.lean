/- What an entry has of an account; entries alike; legs that one may write: the walks. -/
import Derived.Test.YtfemfomgmopibaaGreatDoorLk7
namespace Go.Proofs.YtfemfomgmopibaaGreatDoor
open Go Go.Proofs Go.Wk
theorem equal (A B : Option Addr) (n c m d : Nat) (ls ms : List Leg) (w : World) (M I : BS) (H : Hp ⟨w, M, I⟩ [] [Sl legR (.slice A n c) ls, Sl legR (.slice B m d) ms] w) (hA : n = ls.length ∧ ls.length ≤ 9223372036854775807) (hB : m = ms.length) :
    Ctr Tryz.prog 49 [.slice A n c, .slice B m d] w M I (fun _ : Unit => .bool (legsEq ls ms)) (fun _ => True) (fun _ => []) (fun _ => []) := by
  obtain ⟨rfl, hlen⟩ := hA
  subst hB
  refine Exe.of_ev tok Tryz.call49 Tryz.func49 rfl rfl rfl ?_
  refine br (fun q2 => ?_) (fun q2 => ?_)
  · have q2 : ((ls.length : Int) != (ms.length : Int)) = true := q2
    have q2 : ls.length ≠ ms.length := fun h => by rw [h] at q2; simp at q2
    refine Exists.intro () (And.intro (congrArg Value.bool ?_) (And.intro trivial (Hp.keep H)))
    rw [legsEq_len q2]
  have q2 : ((ls.length : Int) != (ms.length : Int)) = false := q2
  have q2 : ls.length = ms.length := by
    have q2 : (ls.length : Int) = ms.length := by simpa using q2
    omega
  refine loop_rule tok (σ := Nat) 67100720 (fun i => [(13, .int .i64 i)])
    (fun i w' => i ≤ ls.length ∧ legsEq ls ms = legsEq (ls.drop i) (ms.drop i) ∧ Hp ⟨w, M, I⟩ [] [Sl legR (.slice A ls.length c) ls, Sl legR (.slice B ms.length d) ms] w') (fun i => ls.length - i) 0 rfl rfl ⟨rfl, trivial⟩
    ⟨Nat.zero_le _, rfl, H⟩ ?_
  rintro i j w3 ⟨hi, hg, H3⟩
  refine brd (fun h5 => ?_) (fun h5 => ?_)
  · have hil : i < ls.length := by omega
    obtain ⟨u, hu⟩ : ∃ u, ls[i]? = some u := ⟨_, List.getElem?_eq_getElem hil⟩
    obtain ⟨v, hv⟩ : ∃ v, ms[i]? = some v := ⟨_, List.getElem?_eq_getElem (by omega)⟩
    have hdu : ls.drop i = u :: ls.drop (i + 1) := by
      rw [List.drop_eq_getElem_cons hil]
      rw [List.getElem?_eq_getElem hil] at hu
      rw [Option.some.inj hu]
    have hdv : ms.drop i = v :: ms.drop (i + 1) := by
      rw [List.drop_eq_getElem_cons (by omega)]
      rw [List.getElem?_eq_getElem (by omega)] at hv
      rw [Option.some.inj hv]
    obtain ⟨b1, o1, rfl⟩ := H3.slAt (A := A) (n := ls.length) (c := c) (r := legR) (by omega)
    obtain ⟨b2, o2, rfl⟩ := H3.slAt (A := B) (n := ms.length) (c := d) (r := legR) (by omega)
    have i1 : (0 : Int) ≤ (i : Int) := by omega
    have i2 : (i : Int) < ls.length := h5
    have i3 : (i : Int) < ms.length := by omega
    refine draw_rule (A := []) tok tdr H3 [0, 1, 2, 3, 4, 5, 6, 7, 8] [0, 0, 3, 7, 0, 0, 48, 112, 255] rfl ?_
    refine pass_rule _ (fun w h => idx_own tok rfl rfl i1 i2 ⟨rfl, rfl⟩) ?_
    refine pass_rule _ (fun w h => sl_ld (n := ls.length) (c := c) (j := i) (f := 0) (r := legR) tok h (legV u) hu rfl (fun _ _ => rfl) ⟨rfl, rfl⟩) ?_
    refine pass_rule _ (fun w h => idx_own tok rfl rfl i1 i3 ⟨rfl, rfl⟩) ?_
    refine pass_rule _ (fun w h => sl_ld (n := ms.length) (c := d) (j := i) (f := 0) (r := legR) tok h (legV v) hv rfl (fun _ _ => rfl) ⟨rfl, rfl⟩) ?_
    refine pass_rule _ (fun w h => ne_struct tok (r := legEq u v) rfl Tryz.eqGuardType43 Tryz.stoodInHeld43 rfl ⟨rfl, rfl⟩) ?_
    refine done_rule fun w4 H4 => ?_
    refine br (fun q3 => ?_) (fun q3 => ?_)
    · have q3 : legEq u v = false := by simpa using q3
      refine Exists.intro () (And.intro (congrArg Value.bool ?_) (And.intro trivial (Hp.keep H4)))
      rw [hg, hdu, hdv, legsEq, q3, Bool.false_and]
    · have q3 : legEq u v = true := by simpa using q3
      refine Exists.intro (i + 1) (And.intro ⟨?_, trivial⟩ (And.intro ?_ ⟨?_, ?_, H4⟩))
      · show Value.int .i64 (IntKind.i64.wrap (i + 1)) = _
        rw [w64 (by omega) (by omega)]; rfl
      · omega
      · omega
      · rw [hg, hdu, hdv, legsEq, q3, Bool.true_and]
  · refine Exists.intro () (And.intro (congrArg Value.bool ?_) (And.intro trivial (Hp.keep H3)))
    rw [hg, List.drop_eq_nil_of_le (by omega), List.drop_eq_nil_of_le (by omega)]; rfl
theorem same_ (k l : Key) (A B : Option Addr) (n c m d : Nat) (ls ms : List Leg) (w : World) (M I : BS) (H : Hp ⟨w, M, I⟩ [] [Sl legR (.slice A n c) ls, Sl legR (.slice B m d) ms] w) (hA : n = ls.length ∧ ls.length ≤ 9223372036854775807) (hB : m = ms.length) :
    Ctr Tryz.prog 22 [.agg #[.int .u32 k.loan, .int .i32 k.day, .int .u8 k.kind, .int .u32 k.seq, .slice A n c], .agg #[.int .u32 l.loan, .int .i32 l.day, .int .u8 l.kind, .int .u32 l.seq, .slice B m d]] w M I (fun _ : Unit => .bool (sameB k l ls ms)) (fun _ => True) (fun _ => []) (fun _ => []) := by
  refine Exe.of_ev tok Tryz.call22 Tryz.func22 rfl rfl rfl ?_
  refine box_as H (entC k A n c) rfl fun x w1 H1 => ?_
  refine box_as H1 (entC l B m d) rfl fun y w2 H2 => ?_
  refine load_rule tok H2 (v := keyV k) rfl ?_
  refine load_rule tok H2 (v := keyV l) rfl ?_
  refine eq_struct tok (r := eqK k l) rfl Tryz.eqGuardType26 Tryz.stoodInHeld26 rfl ?_
  refine br (fun q => ?_) (fun q => ?_)
  · refine load_rule tok H2 (v := .slice A n c) rfl ?_
    refine load_rule tok H2 (v := .slice B m d) rfl ?_
    refine call_rule H2 (fun M I _ h => equal A B n c m d ls ms _ M I h hA hB) fun _ w3 _ H3 => ?_
    refine Exists.intro () (And.intro (congrArg Value.bool ?_) (And.intro trivial (Hp.keep H3)))
    rw [sameB, q]; rfl
  · refine Exists.intro () (And.intro (congrArg Value.bool ?_) (And.intro trivial (Hp.keep H2)))
    rw [sameB, q]; rfl
end Go.Proofs.YtfemfomgmopibaaGreatDoor
/- Legs in whatever order: the walk. -/
namespace Go.Proofs.YtfemfomgmopibaaGreatDoor
open Go Go.Proofs Go.Wk
end Go.Proofs.YtfemfomgmopibaaGreatDoor
/- Legs in whatever order: the plain law. -/
namespace Go.Proofs.YtfemfomgmopibaaGreatDoor
open Go Go.Proofs Go.Wk
end Go.Proofs.YtfemfomgmopibaaGreatDoor
/- How many bytes a number takes; numbers asx bytes: the walks. -/
namespace Go.Proofs.YtfemfomgmopibaaGreatDoor
open Go Go.Proofs Go.Wk
end Go.Proofs.YtfemfomgmopibaaGreatDoor
/- Numbers asx bytes: the walks. -/
namespace Go.Proofs.YtfemfomgmopibaaGreatDoor
open Go Go.Proofs Go.Wk
end Go.Proofs.YtfemfomgmopibaaGreatDoor
/- Numbers with a sign asx bytes; all of it; bytes of one's own: the walks. -/
namespace Go.Proofs.YtfemfomgmopibaaGreatDoor
open Go Go.Proofs Go.Wk
@[reducible] def byteR : Rp Nat := ⟨1, Unit, fun x _ => [.int .u8 (x : Int)], fun x _ => x < 256, fun _ _ => [], fun _ _ => rfl⟩
theorem clone (ad : Addr) (n c : Nat) (bs : List Nat) (hn : n ≤ 1000000) (w : World) (M I : BS) (hM : ∀ b, ¬ M b) (H : Hp ⟨w, M, I⟩ [] [Sl byteR (.slice (some ad) n c) bs] w) :
    Ctr Tryz.prog 81 [.slice (some ad) n c] w M I (fun a : SV => .slice a.A a.n a.c) (fun _ => True) (fun _ => []) (fun a => [Sl byteR (.slice a.A a.n a.c) bs]) := by
  refine Exe.of_ev tok Tryz.call81 Tryz.func81 rfl rfl rfl ?_
  refine slice_as tok H [] rfl rfl rfl rfl rfl rfl fun g w1 H1 => ?_
  have H2 : Hp ⟨w, M, I⟩ [row 5 1 (.slice (some ⟨g, 0, none⟩) 0 0) 0 []] [Sl byteR (.slice (some ad) n c) bs] w1 := H1.toRow 1 0 rfl (by decide)
  refine append_sl (v := .slice (some ⟨g, 0, none⟩) 0 0) (A := some ad) (m := n) (c := c) tok H2 rfl rfl rfl rfl rfl rfl rfl ?_ ?_ (by omega) fun A2 c2 news w4 H4 => ?_
  · intro x p _ u hu
    rw [List.mem_singleton] at hu
    subst hu; rfl
  · show (0 + n) * 1 ≤ _
    omega
  have H4' : Hp ⟨w, M, I⟩ [row 5 1 (.slice A2 (0 + n) c2) (0 + n) news] [Cl byteR news bs, Sl byteR (.slice (some ad) n c) bs] w4 := H4
  have H5 := H4'.frzRow (v := .slice A2 (0 + n) c2) (xs := bs) byteR hM rfl (by decide)
  exact Exists.intro ⟨A2, 0 + n, c2⟩ (And.intro rfl (And.intro trivial (Hp.keep H5)))
end Go.Proofs.YtfemfomgmopibaaGreatDoor
/- An entry's bytes: the walk. -/
namespace Go.Proofs.YtfemfomgmopibaaGreatDoor
open Go Go.Proofs Go.Wk
@[reducible] def legIn (x : Leg) : Prop := inK .u8 x.acct ∧ inK .i64 x.amt
@[reducible] def keyIn (k : Key) : Prop := inK .u32 k.loan ∧ inK .i32 k.day ∧ inK .u8 k.kind ∧ inK .u32 k.seq
theorem right_day {k : Key} {ls : List Leg} (h : rightB k ls = true) : 0 ≤ k.day ∧ ls.length ≤ 8 ∧ ls.length ≠ 0 := by
  unfold rightB at h
  cases h1 : noB (kindName k.kind) <;> rw [h1] at h <;> simp only [cond_true, cond_false] at h
  · cases h2 : dayB k.day <;> rw [h2] at h <;> simp only [Bool.not_true, Bool.not_false, cond_true, cond_false] at h
    · cases h
    · cases h3 : ((ls.length : Int) == 0) <;> rw [h3] at h <;> simp only [cond_true, cond_false] at h
      · cases h4 : decide (8 < (ls.length : Int)) <;> rw [h4] at h <;> simp only [cond_true, cond_false] at h
        · simp only [dayB, Bool.and_eq_true, decide_eq_true_eq] at h2
          simp only [beq_eq_false_iff_ne, ne_eq] at h3
          simp only [decide_eq_false_iff_not] at h4
          omega
        · cases h
      · cases h
  · cases h
end Go.Proofs.YtfemfomgmopibaaGreatDoor
/- Bytes alike; bytes tell the entry: walk and plain law. -/
namespace Go.Proofs.YtfemfomgmopibaaGreatDoor
open Go Go.Proofs Go.Wk
/-! ### Bytes tell the number -/
theorem eqK_iff {k l : Key} : eqK k l = true ↔ k = l := by
  obtain ⟨x1, x2, x3, x4⟩ := k
  obtain ⟨y1, y2, y3, y4⟩ := l
  simp [eqK]
end Go.Proofs.YtfemfomgmopibaaGreatDoor
namespace Go.Proofs.YtfemfomgmopibaaGreatDoor
open Go Go.Proofs Go.Wk
@[reducible] def negR (v : Int) : Value := if v = -9223372036854775808 then .tuple #[.int .i64 0, .iface 47 (.int .i64 12)] else .tuple #[.int .i64 (-v), .nilIface]
theorem neg (v : Int) (h : inK .i64 v) : CB 71 [.int .i64 v] (negR v) := by
  intro w M I H
  have h : -9223372036854775808 ≤ v ∧ v ≤ 9223372036854775807 := h
  refine Exe.of_ev tok Tryz.call71 Tryz.func71 rfl rfl rfl ?_
  refine brd (fun q => ?_) (fun q => ?_)
  · refine Exists.intro () (And.intro ?_ (And.intro trivial H))
    have q : v = -9223372036854775808 := q
    show Value.tuple #[.int .i64 0, .iface 47 (.int .i64 12)] = negR v
    rw [negR, if_pos q]
  · refine Exists.intro () (And.intro ?_ (And.intro trivial H))
    have q : ¬ v = -9223372036854775808 := q
    show Value.tuple #[.int .i64 (IntKind.i64.wrap (0 - v)), .nilIface] = negR v
    rw [negR, if_neg q, w64 (by omega) (by omega), Int.zero_sub]
def negL (x : Leg) : Leg := ⟨x.acct, -x.amt⟩
/-- Do all amounts and all sums have an other way? -/
def turnGo (s : Int) : List Leg → Bool
  | [] => true
  | x :: r => !decide (x.amt = -9223372036854775808) && (!decide (s + x.amt = -9223372036854775808) && turnGo (s + x.amt) r)
theorem turn_min : ∀ {ls : List Leg} {s : Int} {x : Leg}, x ∈ ls → x.amt = -9223372036854775808 → turnGo s ls = false
  | [], _, _, h, _ => by cases h
  | y :: r, s, x, h, e => by
    unfold turnGo
    rcases List.mem_cons.1 h with rfl | h
    · rw [decide_eq_true e]; rfl
    · rw [turn_min h e, Bool.and_false, Bool.and_false]
theorem turn_right : ∀ {ls : List Leg} {s last : Int}, inK .i64 s → s ≠ -9223372036854775808 → (∀ x, x ∈ ls → x.amt ≠ -9223372036854775808 ∧ inK .i64 x.amt) → rightGo s last ls = true → rightGo (-s) last (ls.map negL) = turnGo s ls
  | [], s, last, _, _, _, h => by
    simp only [rightGo, beq_iff_eq] at h
    subst h; rfl
  | x :: r, s, last, hs, hm, ha, h => by
    obtain ⟨hx1, hx2⟩ := ha x List.mem_cons_self
    have hs : -9223372036854775808 ≤ s ∧ s ≤ 9223372036854775807 := hs
    have hx2 : -9223372036854775808 ≤ x.amt ∧ x.amt ≤ 9223372036854775807 := hx2
    unfold rightGo at h
    cases h1 : in64 (s + x.amt) <;> rw [h1] at h <;> simp only [cond_true, cond_false] at h
    · cases h
    · cases h2 : decide (x.acct ≤ last) <;> rw [h2] at h <;> simp only [cond_true, cond_false] at h
      · cases h3 : noB (accName x.acct) <;> rw [h3] at h <;> simp only [cond_true, cond_false] at h
        · simp only [in64, Bool.and_eq_true, decide_eq_true_eq] at h1
          simp only [List.map_cons, rightGo, turnGo, negL, h2, h3, cond_false]
          rw [decide_eq_false hx1, Bool.not_false, Bool.true_and, show -s + -x.amt = -(s + x.amt) by omega]
          by_cases hq : s + x.amt = -9223372036854775808
          · rw [decide_eq_true hq, Bool.not_true, Bool.false_and]
            have : in64 (-(s + x.amt)) = false := by
              unfold in64
              rw [decide_eq_false (show ¬ -(s + x.amt) ≤ 9223372036854775807 by omega), Bool.and_false]
            rw [this]; rfl
          · rw [decide_eq_false hq, Bool.not_false, Bool.true_and]
            have : in64 (-(s + x.amt)) = true := by
              unfold in64
              rw [decide_eq_true (show -9223372036854775808 ≤ -(s + x.amt) by omega), decide_eq_true (show -(s + x.amt) ≤ 9223372036854775807 by omega)]; rfl
            rw [this, cond_true]
            exact turn_right (s := s + x.amt) ⟨h1.1, h1.2⟩ hq (fun y hy => ha y (List.mem_cons_of_mem _ hy)) h
        · cases h
      · cases h
theorem rightB_neg {k : Key} {ls : List Leg} (ha : ∀ x, x ∈ ls → x.amt ≠ -9223372036854775808 ∧ inK .i64 x.amt) (h : rightB k ls = true) : rightB k (ls.map negL) = turnGo 0 ls := by
  have key : rightGo 0 0 ls = true → rightGo 0 0 (ls.map negL) = turnGo 0 ls := fun h => turn_right (s := 0) (last := 0) ⟨by decide, by decide⟩ (by decide) ha h
  unfold rightB at h ⊢
  rw [List.length_map]
  cases h1 : noB (kindName k.kind) <;> rw [h1] at h <;> simp only [cond_true, cond_false] at h ⊢
  · cases h2 : dayB k.day <;> rw [h2] at h <;> simp only [Bool.not_true, Bool.not_false, cond_true, cond_false] at h ⊢
    · cases h
    · cases h3 : ((ls.length : Int) == 0) <;> rw [h3] at h <;> simp only [cond_true, cond_false] at h ⊢
      · cases h4 : decide (8 < (ls.length : Int)) <;> rw [h4] at h <;> simp only [cond_true, cond_false] at h ⊢
        · exact key h
        · cases h
      · cases h
  · cases h
inductive TR where
  | bad (c : Int)
  | ok (s : SV)
@[reducible] def trV (k : Key) : TR → Value
  | .bad c => .tuple #[.agg #[.int .u32 0, .int .i32 0, .int .u8 0, .int .u32 0, .slice none 0 0], .iface 47 (.int .i64 c)]
  | .ok s => .tuple #[.agg #[.int .u32 k.loan, .int .i32 k.day, .int .u8 k.kind, .int .u32 k.seq, .slice s.A s.n s.c], .nilIface]
def trOk (k : Key) (ls : List Leg) : TR → Prop
  | .bad c => (rightB k ls = false ∧ c = 1) ∨ (rightB k ls = true ∧ turnGo 0 ls = false ∧ c = 12)
  | .ok _ => rightB k ls = true ∧ turnGo 0 ls = true ∧ rightB k (ls.map negL) = true
@[reducible] def trF (ls : List Leg) : TR → Fact
  | .bad _ => ttF
  | .ok s => Sl legR (.slice s.A s.n s.c) (ls.map negL)
set_option maxRecDepth 20000 in
set_option maxHeartbeats 1000000 in
theorem turned (k : Key) (hk : inK .u8 k.kind) (A : Option Addr) (n c : Nat) (ls : List Leg) (w : World) (M I : BS) (hM : ∀ b, ¬ M b) (H : Hp ⟨w, M, I⟩ [] [Sl legR (.slice A n c) ls] w) :
    Ctr Tryz.prog 42 [.agg #[.int .u32 k.loan, .int .i32 k.day, .int .u8 k.kind, .int .u32 k.seq, .slice A n c]] w M I (trV k) (trOk k ls) (fun _ => []) (fun a => [trF ls a]) := by
  obtain ⟨hn, hc, hc2⟩ := H.sll (A := A) (n := n) (c := c)
  have hok := legs_ok (A := A) (n := n) (c := c) H
  refine Exe.of_ev tok Tryz.call42 Tryz.func42 rfl rfl rfl ?_
  refine box_as H (entC k A n c) rfl fun x w1 H1 => ?_
  refine alloc_as tok H1 zeroC rfl rfl rfl fun r w2 H2 => ?_
  refine load_rule tok H2 (v := .agg #[.int .u32 k.loan, .int .i32 k.day, .int .u8 k.kind, .int .u32 k.seq, .slice A n c]) rfl ?_
  refine call_rule H2 (fun M I _ h => right k hk A n c ls _ M I h) fun _ w3 _ H3 => ?_
  refine br (fun q => ?_) (fun q => ?_)
  · have q : rightB k ls = false := by simpa using q
    refine store_as tok H3 zeroC rfl rfl rfl rfl rfl fun w4 H4 => ?_
    refine Exists.intro ⟨r, 0, none⟩ (Exists.intro (.agg #[.int .u32 0, .int .i32 0, .int .u8 0, .int .u32 0, .slice none 0 0]) (And.intro rfl (And.intro (Hp.ld (T := tb) tok H4 rfl) ?_)))
    exact Exists.intro (.bad 1) (And.intro rfl (And.intro (.inl ⟨q, rfl⟩) (Hp.keep (H4.addTt))))
  have q : rightB k ls = true := by simpa using q
  obtain ⟨_, q2, _⟩ := right_day q
  refine load_rule tok H3 (v := keyV k) rfl ?_
  refine alloc_as tok H3 zeroC rfl rfl rfl fun o w4 H4 => ?_
  refine store_as tok H4 (entC k none 0 0) rfl rfl rfl rfl rfl fun w5 H5 => ?_
  refine load_rule tok H5 (v := .slice A n c) rfl ?_
  have H5' : Hp ⟨w, M, I⟩ [row 43 2 (.slice none 0 0) 0 [], blk o (entC k none 0 0) 39, blk r zeroC 39, blk x (entC k A n c) 39] [Sl legR (.slice A n c) ls] w5 := (Hp.nil H5 43 2).keep
  have H5 : Hp ⟨w, M, I⟩ [row 43 2 (.slice none 0 0) 0 (legsC ((ls.take 0).map negL)), blk o (entC k none 0 0) 39, blk r zeroC 39, blk x (entC k A n c) 39] [Sl legR (.slice A n c) ls] w5 := H5'
  refine loop_rule tok (σ := Nat × SV) 17592184996296 (fun s => [(20, .int .i64 s.1)])
    (fun s w' => s.1 ≤ n ∧ s.2.n = s.1 ∧ (∀ y, y ∈ ls.take s.1 → y.amt ≠ -9223372036854775808) ∧ Hp ⟨w, M, I⟩ [row 43 2 (.slice s.2.A s.2.n s.2.c) s.2.n (legsC ((ls.take s.1).map negL)), blk o (entC k s.2.A s.2.n s.2.c) 39, blk r zeroC 39, blk x (entC k A n c) 39] [Sl legR (.slice A n c) ls] w') (fun s => n - s.1) (0, ⟨none, 0, 0⟩) rfl rfl ⟨rfl, trivial⟩ ⟨Nat.zero_le _, rfl, (fun y hy => by cases hy), H5⟩ ?_
  rintro ⟨i, A1, n1, c1⟩ j w6 ⟨hi, hn1, hmn, H6⟩
  simp only at hi hn1 hmn H6
  subst hn1
  refine brd (fun h => ?_) (fun h => ?_)
  · have h : (n1 : Int) < n := h
    obtain ⟨u, hu⟩ : ∃ u, ls[n1]? = some u := ⟨_, List.getElem?_eq_getElem (by omega)⟩
    have hum : u ∈ ls := List.mem_of_getElem? hu
    obtain ⟨b1, o1, rfl⟩ := H6.slAt (A := A) (n := n) (c := c) (r := legR) (by omega)
    refine idx_own tok rfl rfl (show (0 : Int) ≤ (n1 : Int) by omega) h ?_
    refine sl_ld (n := n) (c := c) (j := n1) (f := 0) (r := legR) tok H6 (legV u) hu rfl (fun _ _ => rfl) ?_
    refine alloc_as tok H6 [.int .u8 0, .int .i64 0] rfl rfl rfl fun l w7 H7 => ?_
    refine store_as tok H7 [.int .u8 u.acct, .int .i64 u.amt] rfl rfl rfl rfl rfl fun w8 H8 => ?_
    refine load_rule tok H8 (v := .int .i64 u.amt) rfl ?_
    rcases (show u.amt = -9223372036854775808 ∨ u.amt ≠ -9223372036854775808 by omega) with hu1 | hu1
    · have en : negR u.amt = .tuple #[.int .i64 0, .iface 47 (.int .i64 12)] := if_pos hu1
      refine call_rule H8 (fun M I _ h => en ▸ neg u.amt (hok u hum).2 _ M I h) fun _ w9 _ H9 => ?_
      refine store_as tok H9 zeroC rfl rfl rfl rfl rfl fun w10 H10 => ?_
      refine Exists.intro ⟨r, 0, none⟩ (Exists.intro (.agg #[.int .u32 0, .int .i32 0, .int .u8 0, .int .u32 0, .slice none 0 0]) (And.intro rfl (And.intro (Hp.ld (T := tb) tok H10 rfl) ?_)))
      exact Exists.intro (.bad 12) (And.intro rfl (And.intro (.inr ⟨q, turn_min hum hu1, rfl⟩) (Hp.keep (H10.addTt))))
    · have en : negR u.amt = .tuple #[.int .i64 (-u.amt), .nilIface] := if_neg hu1
      refine call_rule H8 (fun M I _ h => en ▸ neg u.amt (hok u hum).2 _ M I h) fun _ w9 _ H9 => ?_
      refine load_rule tok H9 (v := .slice A1 n1 c1) rfl ?_
      refine load_rule tok H9 (v := .int .u8 u.acct) rfl ?_
      refine slice_as tok H9 [.int .u8 u.acct, .int .i64 (-u.amt)] rfl rfl rfl rfl rfl rfl fun g w10 H10 => ?_
      refine append_rule (v := .slice A1 n1 c1) (b := g) (m := 1) (c := 1) tok H10 rfl rfl rfl rfl rfl rfl rfl rfl (by show (n1 + 1) * 16 ≤ _; omega) (by omega) fun A2 c2 w11 H11 => ?_
      refine store_as tok H11 (entC k A2 (n1 + 1) c2) rfl rfl rfl rfl rfl fun w12 H12 => ?_
      have e : legsC ((ls.take (n1 + 1)).map negL) = legsC ((ls.take n1).map negL) ++ [.int .u8 u.acct, .int .i64 (-u.amt)] := by
        rw [List.take_add_one, hu, List.map_append, legsC_app]; rfl
      have H13 : Hp ⟨w, M, I⟩ [row 43 2 (.slice A2 (n1 + 1) c2) (n1 + 1) (legsC ((ls.take n1).map negL) ++ [.int .u8 u.acct, .int .i64 (-u.amt)]), blk o (entC k A2 (n1 + 1) c2) 39, blk r zeroC 39, blk x (entC k (some ⟨b1, o1, none⟩) n c) 39] [Sl legR (.slice (some ⟨b1, o1, none⟩) n c) ls] w12 := H12.keep
      rw [← e] at H13
      refine Exists.intro (n1 + 1, ⟨A2, n1 + 1, c2⟩) (And.intro ⟨?_, trivial⟩ (And.intro ?_ ⟨?_, rfl, ?_, H13⟩))
      · show Value.int .i64 (IntKind.i64.wrap (n1 + 1)) = _
        rw [w64 (by omega) (by omega)]; rfl
      · simp only; omega
      · simp only; omega
      · intro y hy
        simp only at hy
        rw [List.take_add_one, hu] at hy
        rcases List.mem_append.1 hy with hy | hy
        · exact hmn y hy
        · simp only [Option.toList_some, List.mem_singleton] at hy
          rw [hy]; exact hu1
  · have h : ¬ (n1 : Int) < n := h
    have e1 : ls.take n1 = ls := List.take_of_length_le (by omega)
    rw [e1] at H6 hmn
    have H7 := frzLegsRow H6 (v := .slice A1 n1 c1) (ls.map negL) hM fun y hy => by
      obtain ⟨z, hz, rfl⟩ := List.mem_map.1 hy
      have h1 := (hok z hz).1
      have h2 : -9223372036854775808 ≤ z.amt ∧ z.amt ≤ 9223372036854775807 := (hok z hz).2
      have h3 := hmn z hz
      exact ⟨h1, by show -9223372036854775808 ≤ -z.amt; omega, by show -z.amt ≤ 9223372036854775807; omega⟩
    have hrt := rightB_neg (k := k) (fun y hy => ⟨hmn y hy, (hok y hy).2⟩) q
    refine load_rule tok H7 (v := .agg #[.int .u32 k.loan, .int .i32 k.day, .int .u8 k.kind, .int .u32 k.seq, .slice A1 n1 c1]) rfl ?_
    refine call_rule H7 (fun M I _ h => right k hk A1 n1 c1 (ls.map negL) _ M I h) fun _ w8 _ H8 => ?_
    refine br (fun q3 => ?_) (fun q3 => ?_)
    · have q3 : rightB k (ls.map negL) = false := by simpa using q3
      refine store_as tok H8 zeroC rfl rfl rfl rfl rfl fun w9 H9 => ?_
      refine Exists.intro ⟨r, 0, none⟩ (Exists.intro (.agg #[.int .u32 0, .int .i32 0, .int .u8 0, .int .u32 0, .slice none 0 0]) (And.intro rfl (And.intro (Hp.ld (T := tb) tok H9 rfl) ?_)))
      exact Exists.intro (.bad 12) (And.intro rfl (And.intro (.inr ⟨q, by rw [← hrt]; exact q3, rfl⟩) (Hp.keep (H9.addTt))))
    · have q3 : rightB k (ls.map negL) = true := by simpa using q3
      refine load_rule tok H8 (v := .agg #[.int .u32 k.loan, .int .i32 k.day, .int .u8 k.kind, .int .u32 k.seq, .slice A1 n1 c1]) rfl ?_
      refine store_as tok H8 (entC k A1 n1 c1) rfl rfl rfl rfl rfl fun w9 H9 => ?_
      refine Exists.intro ⟨r, 0, none⟩ (Exists.intro (.agg #[.int .u32 k.loan, .int .i32 k.day, .int .u8 k.kind, .int .u32 k.seq, .slice A1 n1 c1]) (And.intro rfl (And.intro (Hp.ld (T := tb) tok H9 rfl) ?_)))
      exact Exists.intro (.ok ⟨A1, n1, c1⟩) (And.intro rfl (And.intro ⟨q, by rw [← hrt]; exact q3, q3⟩ (Hp.keep H9)))
end Go.Proofs.YtfemfomgmopibaaGreatDoor
/- An entry the other way may be, and has each amount the other way: the walk. -/
namespace Go.Proofs.YtfemfomgmopibaaGreatDoor
open Go Go.Proofs Go.Wk
theorem go_step {s last : Int} {x : Leg} {r : List Leg} (h : rightGo s last (x :: r) = true) : inK .i64 (s + x.amt) ∧ last < x.acct ∧ rightGo (s + x.amt) x.acct r = true := by
  unfold rightGo at h
  cases h1 : in64 (s + x.amt) <;> rw [h1] at h <;> simp only [cond_true, cond_false] at h
  · cases h
  · cases h2 : decide (x.acct ≤ last) <;> rw [h2] at h <;> simp only [cond_true, cond_false] at h
    · cases h3 : noB (accName x.acct) <;> rw [h3] at h <;> simp only [cond_true, cond_false] at h
      · simp only [in64, Bool.and_eq_true, decide_eq_true_eq] at h1
        simp only [decide_eq_false_iff_not] at h2
        exact ⟨⟨h1.1, h1.2⟩, by omega, h⟩
      · cases h
    · cases h
theorem rightB_go {k : Key} {ls : List Leg} (h : rightB k ls = true) : rightGo 0 0 ls = true := by
  unfold rightB at h
  cases h1 : noB (kindName k.kind) <;> rw [h1] at h <;> simp only [cond_true, cond_false] at h
  · cases h2 : dayB k.day <;> rw [h2] at h <;> simp only [Bool.not_true, Bool.not_false, cond_true, cond_false] at h
    · cases h
    · cases h3 : ((ls.length : Int) == 0) <;> rw [h3] at h <;> simp only [cond_true, cond_false] at h
      · cases h4 : decide (8 < (ls.length : Int)) <;> rw [h4] at h <;> simp only [cond_true, cond_false] at h
        · exact h
        · cases h
      · cases h
  · cases h
end Go.Proofs.YtfemfomgmopibaaGreatDoor
namespace Go.Proofs.YtfemfomgmopibaaGreatDoor
open Go Go.Proofs Go.Wk
structure Pr where
  loan : Int
  acct : Int
  ctl : Bool
deriving DecidableEq
@[reducible] def prV (p : Pr) : Value := .agg #[.int .u32 p.loan, .int .u8 p.acct, .bool p.ctl]
@[reducible] def iV (n : Int) : Value := .int .i64 n
def eqP (a b : Pr) : Bool := a.loan == b.loan && (a.acct == b.acct && (a.ctl == b.ctl && true))
theorem eqP_iff {a b : Pr} : eqP a b = true ↔ a = b := by
  obtain ⟨x1, x2, x3⟩ := a
  obtain ⟨y1, y2, y3⟩ := b
  simp [eqP]
theorem same_key (k : Key) : Instr.sameBits 10000 (keyV k) (keyV k) = true := by
  show Instr.sameBits (9999 + 1) _ _ = true
  generalize 9999 = d
  simp [Instr.sameBits]
theorem same_pr (p : Pr) : Instr.sameBits 10000 (prV p) (prV p) = true := by
  show Instr.sameBits (9999 + 1) _ _ = true
  generalize 9999 = d
  simp [Instr.sameBits]
theorem keyKeys : Keys Tryz.prog 26 keyV :=
  struct_keys tok (fun k : Key => #[.int .u32 k.loan, .int .i32 k.day, .int .u8 k.kind, .int .u32 k.seq]) (fun _ => rfl) rfl Tryz.stoodInHeld26 (fun a b => ⟨eqK a b, rfl, eqK_iff⟩) same_key
theorem prKeys : Keys Tryz.prog 94 prV :=
  struct_keys tok (fun p : Pr => #[.int .u32 p.loan, .int .u8 p.acct, .bool p.ctl]) (fun _ => rfl) rfl Tryz.stoodInHeld94 (fun a b => ⟨eqP a b, rfl, eqP_iff⟩) same_pr
/-- A line: its entry, of which it is the reversal. -/
structure Ln where
  k : Key
  s : SV
  of : Int
  ls : List Leg
@[reducible] def lnC (x : Ln) : List Value := [.int .u32 x.k.loan, .int .i32 x.k.day, .int .u8 x.k.kind, .int .u32 x.k.seq, .slice x.s.A x.s.n x.s.c, .int .i64 x.of]
def lnsC : List Ln → List Value
  | [] => []
  | x :: r => lnC x ++ lnsC r
theorem lnsC_len : ∀ xs : List Ln, (lnsC xs).length = xs.length * 6
  | [] => rfl
  | x :: r => by simp only [lnsC, List.length_append, List.length_cons, List.length_nil, lnsC_len r]; omega
theorem lnsC_app : ∀ a b : List Ln, lnsC (a ++ b) = lnsC a ++ lnsC b
  | [], _ => rfl
  | x :: a, b => by simp [lnsC, lnsC_app a b]
/-- What the lines' legs read asx. -/
def LnF (xs : List Ln) : Fact where
  holds w I := ∀ x, x ∈ xs → (Sl legR (.slice x.s.A x.s.n x.s.c) x.ls).holds w I
  mono := fun h hI hw x hx => (Sl legR _ _).mono (h x hx) hI hw
structure Led where
  lns : List Ln
  live : List (Key × Int)
  sums : List (Pr × Int)
@[reducible] def ledA (l m1 m2 : Nat) (s : SV) (d : Led) : List Asn := [blk l [.slice s.A s.n s.c, .map (some m1), .map (some m2)] 85, row 69 6 (.slice s.A s.n s.c) s.n (lnsC d.lns), mapO m1 keyV iV d.live, mapO m2 prV iV d.sums]
theorem new_ (w : World) (M I : BS) (H : Hp ⟨w, M, I⟩ [] [] w) :
    Ctr Tryz.prog 8 [] w M I (fun a : Nat × Nat × Nat => .pointer (some ⟨a.1, 0, none⟩)) (fun _ => True) (fun a => ledA a.1 a.2.1 a.2.2 ⟨none, 0, 0⟩ ⟨[], [], []⟩) (fun _ => []) := by
  refine Exe.of_ev tok Tryz.call8 Tryz.func8 rfl rfl rfl ?_
  refine makeMap_rule H keyV iV fun m1 w1 H1 => ?_
  refine makeMap_rule H1 prV iV fun m2 w2 H2 => ?_
  refine box_as H2 [.slice none 0 0, .map (some m1), .map (some m2)] rfl fun l w3 H3 => ?_
  have H4 : Hp ⟨w, M, I⟩ [row 69 6 (.slice none 0 0) 0 [], blk l [.slice none 0 0, .map (some m1), .map (some m2)] 85, mapO m2 prV iV [], mapO m1 keyV iV []] [] w3 := Hp.nil H3 69 6
  have H5 : Hp ⟨w, M, I⟩ [blk l [.slice none 0 0, .map (some m1), .map (some m2)] 85, row 69 6 (.slice none 0 0) 0 [], mapO m1 keyV iV [], mapO m2 prV iV []] [] w3 := H4.keep
  exact Exists.intro (l, m1, m2) (And.intro rfl (And.intro trivial H5))
theorem cloneLegs (A : Option Addr) (n c : Nat) (ls : List Leg) (hn : ls.length ≤ 1000000) (w : World) (M I : BS) (hM : ∀ b, ¬ M b) (H : Hp ⟨w, M, I⟩ [] [Sl legR (.slice A n c) ls] w) :
    Ctr Tryz.prog 66 [.slice A n c] w M I (fun a : SV => .slice a.A a.n a.c) (fun _ => True) (fun _ => []) (fun a => [Sl legR (.slice a.A a.n a.c) ls]) := by
  obtain ⟨hl, _, _⟩ := H.sll (A := A) (n := n) (c := c)
  cases A with
  | none =>
    have h0 : n = 0 ∧ c = 0 := by
      obtain ⟨I', _, _, ha, _⟩ := H.ex
      obtain ⟨A', c', e1, _, q2, q3, _⟩ := ha _ List.mem_cons_self
      injection e1 with e1 e2 e3
      have := q3 e1.symm
      omega
    obtain ⟨rfl, rfl⟩ := h0
    refine Exe.of_ev tok Tryz.call66 Tryz.func66 rfl rfl rfl ?_
    exact Exists.intro ⟨none, 0, 0⟩ (And.intro rfl (And.intro trivial (Hp.keep H)))
  | some ad =>
    refine Exe.of_ev tok Tryz.call66 Tryz.func66 rfl rfl rfl ?_
    refine slice_as tok H [] rfl rfl rfl rfl rfl rfl fun g w1 H1 => ?_
    have H2 : Hp ⟨w, M, I⟩ [row 43 2 (.slice (some ⟨g, 0, none⟩) 0 0) 0 []] [Sl legR (.slice (some ad) n c) ls] w1 := H1.toRow 2 0 rfl (by decide)
    refine append_sl (v := .slice (some ⟨g, 0, none⟩) 0 0) (A := some ad) (m := n) (c := c) tok H2 rfl rfl rfl rfl rfl rfl rfl (fun x _ _ => legs_one x) (by show (0 + n) * 16 ≤ _; omega) (by omega) fun A2 c2 news w4 H4 => ?_
    have H4' : Hp ⟨w, M, I⟩ [row 43 2 (.slice A2 (0 + n) c2) (0 + n) news] [Cl legR news ls, Sl legR (.slice (some ad) n c) ls] w4 := H4
    have H5 := H4'.frzRow (v := .slice A2 (0 + n) c2) (xs := ls) legR hM rfl (by decide)
    exact Exists.intro ⟨A2, 0 + n, c2⟩ (And.intro rfl (And.intro trivial (Hp.keep H5)))
theorem lk_put_eq {κ ν : Type} [DecidableEq κ] {k : κ} {v : ν} : ∀ {l : List (κ × ν)}, lk k (putL k v l) = some v
  | [] => by simp [putL, lk]
  | q :: l => by
    unfold putL
    split
    · simp [lk]
    · rename_i h
      unfold lk
      rw [if_neg h]; exact lk_put_eq
theorem lk_put_ne {κ ν : Type} [DecidableEq κ] {k p : κ} {v : ν} (hp : p ≠ k) : ∀ {l : List (κ × ν)}, lk p (putL k v l) = lk p l
  | [] => by simp [putL, lk, Ne.symm hp]
  | q :: l => by
    unfold putL
    split
    · rename_i h
      simp only [lk]
      rw [if_neg (by simpa using Ne.symm hp), if_neg (by rw [h]; exact Ne.symm hp)]
    · simp only [lk]
      split
      · rfl
      · exact lk_put_ne hp
theorem lk_nokey {κ ν : Type} [DecidableEq κ] {p : κ} : ∀ {l : List (κ × ν)}, p ∉ l.map (·.1) → lk p l = none
  | [], _ => rfl
  | q :: l, h => by
    simp only [List.map_cons, List.mem_cons, not_or] at h
    unfold lk
    rw [if_neg (Ne.symm h.1)]
    exact lk_nokey h.2
theorem lk_of_mem {κ ν : Type} [DecidableEq κ] {k : κ} {v : ν} : ∀ {l : List (κ × ν)}, (l.map (·.1)).Nodup → (k, v) ∈ l → lk k l = some v
  | [], _, h => by cases h
  | q :: l, hn, h => by
    simp only [List.map_cons, List.nodup_cons] at hn
    unfold lk
    rcases List.mem_cons.1 h with rfl | h
    · rw [if_pos rfl]
    · rw [if_neg (fun e => hn.1 (by rw [e]; exact List.mem_map_of_mem h)), lk_of_mem hn.2 h]
/-- maps.Copy: whatever the order, what one finds then. -/
theorem copyMap (m2 m3 : Nat) (dst src : List (Pr × Int)) (hnd : (src.map (·.1)).Nodup) (w : World) (M I : BS) (H : Hp ⟨w, M, I⟩ [mapO m2 prV iV dst, mapO m3 prV iV src] [] w) :
    Ctr Tryz.prog 65 [.map (some m2), .map (some m3)] w M I (fun _ : List (Pr × Int) => .tuple #[]) (fun d => ∀ p, lk p d = (lk p src).or (lk p dst)) (fun d => [mapO m2 prV iV d]) (fun _ => []) := by
  refine Exe.of_ev tok Tryz.call65 Tryz.func65 rfl rfl rfl ?_
  refine range_rule (n := m3) tok H rfl fun it w1 H1 => ?_
  have H1 : Hp ⟨w, M, I⟩ [rngO m3 it prV iV src src none, mapO m2 prV iV dst] [] w1 := Hp.keep H1
  refine loop_rule tok (σ := List (Pr × Int) × Option (Pr × Int) × List (Pr × Int)) 65328 (fun _ => [])
    (fun s w' => (∀ q, q ∈ s.1 → q ∈ src) ∧ (s.1.map (·.1)).Nodup ∧ (∀ p, lk p s.2.2 = if p ∈ s.1.map (·.1) then lk p dst else (lk p src).or (lk p dst)) ∧ Hp ⟨w, M, I⟩ [rngO m3 it prV iV src s.1 s.2.1, mapO m2 prV iV s.2.2] [] w') (fun s => s.1.length) (src, none, dst) rfl rfl trivial
    ⟨fun q h => h, hnd, fun p => ?_, H1⟩ ?_
  · simp only
    split
    · rfl
    · rename_i h
      rw [lk_nokey h]; rfl
  rintro ⟨lf, cur, d⟩ j w2 ⟨h1, h2, h3, H2⟩
  simp only at h1 h2 h3 H2
  refine next_rule (n := m3) H2 (fun hl => ?_) fun a p b w3 hl H3 => ?_
  · subst hl
    have hd : ∀ p, lk p d = (lk p src).or (lk p dst) := fun p => by rw [h3 p]; simp
    have H4 : Hp ⟨w, M, I⟩ [mapO m2 prV iV d] [] w2 := Hp.keep H2
    exact Exists.intro d (And.intro rfl (And.intro hd H4))
  · subst hl
    refine entry_rule (n := m3) H3 ?_
    refine alloc_as tok H3 [.int .u32 0, .int .u8 0, .bool false] rfl rfl rfl fun t w4 H4 => ?_
    refine store_as tok H4 [.int .u32 p.1.loan, .int .u8 p.1.acct, .bool p.1.ctl] rfl rfl rfl rfl rfl fun w5 H5 => ?_
    refine load_rule tok H5 (v := prV p.1) rfl ?_
    refine mapUpd_rule (n := m2) (k := p.1) (v := p.2) tok H5 rfl prKeys rfl rfl fun w6 H6 => ?_
    have hnp : p.1 ∉ (a ++ b).map (·.1) := by
      have h := h2
      rw [List.map_append, List.map_cons] at h
      have h := (List.perm_middle.nodup_iff.1 h)
      rw [List.nodup_cons] at h
      rw [List.map_append]; exact h.1
    refine Exists.intro (a ++ b, some p, putL p.1 p.2 d) (And.intro trivial (And.intro ?_ ⟨?_, ?_, ?_, Hp.keep H6⟩))
    · simp only [List.length_append, List.length_cons]; omega
    · intro q hq
      refine h1 q ?_
      rcases List.mem_append.1 hq with hq | hq
      · exact List.mem_append_left _ hq
      · exact List.mem_append_right _ (List.mem_cons_of_mem _ hq)
    · have h := h2
      rw [List.map_append, List.map_cons] at h
      have h := (List.perm_middle.nodup_iff.1 h)
      rw [List.nodup_cons] at h
      rw [List.map_append]; exact h.2
    · intro q
      simp only
      by_cases hq : q = p.1
      · subst hq
        rw [lk_put_eq, if_neg hnp, lk_of_mem (v := p.2) hnd (h1 p (by simp))]; rfl
      · rw [lk_put_ne hq, h3 q]
        have hm : (q ∈ (a ++ p :: b).map (·.1)) ↔ q ∈ (a ++ b).map (·.1) := by
          simp only [List.map_append, List.map_cons, List.mem_append, List.mem_cons]
          constructor
          · rintro (h | h | h)
            · exact .inl h
            · exact absurd h hq
            · exact .inr h
          · rintro (h | h)
            · exact .inl h
            · exact .inr (.inr h)
        simp only [hm]
end Go.Proofs.YtfemfomgmopibaaGreatDoor
namespace Go.Proofs.YtfemfomgmopibaaGreatDoor
open Go Go.Proofs Go.Wk
@[reducible] def getS (m : List (Pr × Int)) (p : Pr) : Int := (lk p m).getD 0
theorem getV (m : List (Pr × Int)) (p : Pr) : Value.int .i64 (getS m p) = ((lk p m).map iV).getD (.int .i64 0) := by
  unfold getS
  cases lk p m <;> rfl
def nextGo (sums : List (Pr × Int)) (loan : Int) : List Leg → List (Pr × Int) → Option (List (Pr × Int))
  | [], nx => some nx
  | x :: r, nx => if in64 (getS sums ⟨loan, x.acct, false⟩ + x.amt) = true ∧ in64 (getS sums ⟨0, x.acct, true⟩ + x.amt) = true
      then nextGo sums loan r (putL ⟨0, x.acct, true⟩ (getS sums ⟨0, x.acct, true⟩ + x.amt) (putL ⟨loan, x.acct, false⟩ (getS sums ⟨loan, x.acct, false⟩ + x.amt) nx)) else none
theorem put_keys {κ ν : Type} [DecidableEq κ] {k p : κ} {v : ν} : ∀ {l : List (κ × ν)}, p ∈ (putL k v l).map (·.1) ↔ p = k ∨ p ∈ l.map (·.1)
  | [] => by simp [putL]
  | q :: l => by
    unfold putL
    split
    · rename_i h
      simp [h]
    · simp only [List.map_cons, List.mem_cons, put_keys (l := l)]
      constructor
      · rintro (h | h | h)
        · exact .inr (.inl h)
        · exact .inl h
        · exact .inr (.inr h)
      · rintro (h | h | h)
        · exact .inr (.inl h)
        · exact .inl h
        · exact .inr (.inr h)
theorem nodup_put {κ ν : Type} [DecidableEq κ] {k : κ} {v : ν} : ∀ {l : List (κ × ν)}, (l.map (·.1)).Nodup → ((putL k v l).map (·.1)).Nodup
  | [], _ => by simp [putL]
  | q :: l, h => by
    simp only [List.map_cons, List.nodup_cons] at h
    unfold putL
    split
    · rename_i hq
      simp only [List.map_cons, List.nodup_cons]
      exact ⟨by rw [← hq]; exact h.1, h.2⟩
    · rename_i hq
      simp only [List.map_cons, List.nodup_cons]
      refine ⟨fun hm => ?_, nodup_put h.2⟩
      rcases put_keys.1 hm with e | e
      · exact hq e
      · exact h.1 e
structure AR where
  e : ErrF
  s : SV
  d : Led
def addOk (s : SV) (d : Led) (k : Key) (ls : List Leg) (of : Int) (a : AR) : Prop := match nextGo d.sums k.loan ls [] with
  | none => (∃ p, a.e = .fault p k.loan 12) ∧ a.s = s ∧ a.d = d
  | some nx => a.e = .none ∧ a.s.n = s.n + 1 ∧ a.d.live = d.live ∧ (∃ sv, a.d.lns = d.lns ++ [⟨k, sv, of, ls⟩]) ∧ ∀ p, lk p a.d.sums = (lk p nx).or (lk p d.sums)
set_option maxRecDepth 20000 in
set_option maxHeartbeats 2000000 in
theorem add_ (l m1 m2 : Nat) (s : SV) (d : Led) (hd : d.lns.length ≤ 100000) (hsn : s.n = d.lns.length) (hs : ∀ p, inK .i64 (getS d.sums p)) (k : Key) (hk : keyIn k) (A : Option Addr) (n c : Nat) (ls : List Leg) (hls : ls.length ≤ 1000) (of : Int) (w : World) (M I : BS)
    (H : Hp ⟨w, M, I⟩ (ledA l m1 m2 s d) [Sl legR (.slice A n c) ls, LnF d.lns] w) :
    Ctr Tryz.prog 38 [.pointer (some ⟨l, 0, none⟩), .agg #[.int .u32 k.loan, .int .i32 k.day, .int .u8 k.kind, .int .u32 k.seq, .slice A n c], .int .i64 of] w M I (fun a : AR => errFV a.e) (addOk s d k ls of) (fun a => errFA a.e :: ledA l m1 m2 a.s a.d) (fun a => [LnF a.d.lns]) := by
  obtain ⟨hn, hc, hc2⟩ := H.sll (A := A) (n := n) (c := c)
  have hok := legs_ok (A := A) (n := n) (c := c) H
  obtain ⟨hk1, hk2⟩ := hk.1
  simp only [kLo, kHi] at hk1 hk2
  refine Exe.of_ev tok Tryz.call38 Tryz.func38 rfl rfl rfl ?_
  refine box_as H (entC k A n c) rfl fun x w1 H1 => ?_
  refine makeMap_rule H1 prV iV fun m3 w2 H2 => ?_
  refine load_rule tok H2 (v := .slice A n c) rfl ?_
  have H2 : Hp ⟨w, M, I⟩ [mapO m3 prV iV [], blk x (entC k A n c) 39, blk l [.slice s.A s.n s.c, .map (some m1), .map (some m2)] 85, row 69 6 (.slice s.A s.n s.c) s.n (lnsC d.lns), mapO m1 keyV iV d.live, mapO m2 prV iV d.sums] [Sl legR (.slice A n c) ls, LnF d.lns] w2 := H2
  refine loop_rule tok (σ := Nat × List (Pr × Int)) 18446744073709304384 (fun s => [(18, .int .i64 s.1)])
    (fun t w' => t.1 ≤ n ∧ nextGo d.sums k.loan ls [] = nextGo d.sums k.loan (ls.drop t.1) t.2 ∧ (t.2.map (·.1)).Nodup ∧ Hp ⟨w, M, I⟩ [mapO m3 prV iV t.2, blk x (entC k A n c) 39, blk l [.slice s.A s.n s.c, .map (some m1), .map (some m2)] 85, row 69 6 (.slice s.A s.n s.c) s.n (lnsC d.lns), mapO m1 keyV iV d.live, mapO m2 prV iV d.sums] [Sl legR (.slice A n c) ls, LnF d.lns] w') (fun s => n - s.1) (0, []) rfl rfl ⟨rfl, trivial⟩ ⟨Nat.zero_le _, rfl, List.nodup_nil, H2⟩ ?_
  rintro ⟨i, nx⟩ j w3 ⟨hi, hg, hnd, H3⟩
  simp only at hi hg hnd H3
  refine brd (fun q => ?_) (fun q => ?_)
  · have q : (i : Int) < n := q
    obtain ⟨u, hu⟩ : ∃ u, ls[i]? = some u := ⟨_, List.getElem?_eq_getElem (by omega)⟩
    have hdu : ls.drop i = u :: ls.drop (i + 1) := by
      rw [List.drop_eq_getElem_cons (by omega)]
      rw [List.getElem?_eq_getElem (by omega)] at hu
      rw [Option.some.inj hu]
    have hu2 := (hok u (List.mem_of_getElem? hu)).2
    rw [hdu] at hg
    refine idx_rule tok H3 (r := legR) (A := A) (n := n) (c := c) rfl rfl rfl (by omega) q fun pb po u' hu' H4 => ?_
    have eu : u' = u := Option.some.inj ((show ls[i]? = some u' by simpa using hu').symm.trans hu)
    refine ldp_rule tok H4 rfl rfl rfl fun _ _ H5 => ?_
    refine alloc_as tok H5 [.int .u8 0, .int .i64 0] rfl rfl rfl fun y w4 H6 => ?_
    refine store_as tok H6 [.int .u8 u'.acct, .int .i64 u'.amt] rfl rfl rfl rfl rfl fun w5 H7 => ?_
    refine load_rule tok H7 (v := .int .u32 k.loan) rfl ?_
    refine load_rule tok H7 (v := .int .u8 u'.acct) rfl ?_
    refine load_rule tok H7 (v := .int .u8 u'.acct) rfl ?_
    refine slice_as tok H7 [.int .u32 k.loan, .int .u8 u'.acct, .bool false, .int .u32 0, .int .u8 u'.acct, .bool true] rfl rfl rfl rfl rfl rfl fun g w6 H8 => ?_
    have H8 : Hp ⟨w, M, I⟩ [mapO m3 prV iV nx, blk g [.int .u32 k.loan, .int .u8 u'.acct, .bool false, .int .u32 0, .int .u8 u'.acct, .bool true] 94, blk y [.int .u8 u'.acct, .int .i64 u'.amt] 43, blk x (entC k A n c) 39, blk l [.slice s.A s.n s.c, .map (some m1), .map (some m2)] 85, row 69 6 (.slice s.A s.n s.c) s.n (lnsC d.lns), mapO m1 keyV iV d.live, mapO m2 prV iV d.sums] [Sl legR (.slice A n c) ls, LnF d.lns] w6 := Hp.keep H8
    have hu3 : inK .i64 u'.amt := by rw [eu]; exact hu2
    have ew : IntKind.u64.wrap k.loan = k.loan := wrap_id ⟨hk1, by show _ ≤ (18446744073709551615 : Int); omega⟩
    have over : ∀ pf w', nextGo d.sums k.loan ls [] = none → Hp ⟨w, M, I⟩ [blk pf [.int .u64 k.loan, .iface 47 (.int .i64 12)] 104, blk l [.slice s.A s.n s.c, .map (some m1), .map (some m2)] 85, row 69 6 (.slice s.A s.n s.c) s.n (lnsC d.lns), mapO m1 keyV iV d.live, mapO m2 prV iV d.sums] [LnF d.lns] w' →
        ∃ a : AR, Value.iface 102 (.pointer (some ⟨pf, 0, none⟩)) = errFV a.e ∧ addOk s d k ls of a ∧ Hp ⟨w, M, I⟩ (errFA a.e :: ledA l m1 m2 a.s a.d) [LnF a.d.lns] w' := fun pf w' e h =>
      ⟨⟨.fault pf k.loan 12, s, d⟩, rfl, by unfold addOk; rw [e]; exact ⟨⟨pf, rfl⟩, rfl, rfl⟩, h⟩
    refine loop_rule tok (σ := Nat × List (Pr × Int)) 9223372028264855616 (fun s => [(33, .int .i64 s.1)])
      (fun t w' => ((t.1 = 0 ∧ t.2 = nx) ∨ (t.1 = 1 ∧ t.2 = putL ⟨k.loan, u'.acct, false⟩ (getS d.sums ⟨k.loan, u'.acct, false⟩ + u'.amt) nx ∧ in64 (getS d.sums ⟨k.loan, u'.acct, false⟩ + u'.amt) = true) ∨ (t.1 = 2 ∧ t.2 = putL ⟨0, u'.acct, true⟩ (getS d.sums ⟨0, u'.acct, true⟩ + u'.amt) (putL ⟨k.loan, u'.acct, false⟩ (getS d.sums ⟨k.loan, u'.acct, false⟩ + u'.amt) nx) ∧ in64 (getS d.sums ⟨k.loan, u'.acct, false⟩ + u'.amt) = true ∧ in64 (getS d.sums ⟨0, u'.acct, true⟩ + u'.amt) = true)) ∧
        Hp ⟨w, M, I⟩ [mapO m3 prV iV t.2, blk g [.int .u32 k.loan, .int .u8 u'.acct, .bool false, .int .u32 0, .int .u8 u'.acct, .bool true] 94, blk y [.int .u8 u'.acct, .int .i64 u'.amt] 43, blk x (entC k A n c) 39, blk l [.slice s.A s.n s.c, .map (some m1), .map (some m2)] 85, row 69 6 (.slice s.A s.n s.c) s.n (lnsC d.lns), mapO m1 keyV iV d.live, mapO m2 prV iV d.sums] [Sl legR (.slice A n c) ls, LnF d.lns] w') (fun s => 2 - s.1) (0, nx) rfl rfl ⟨rfl, trivial⟩ ⟨.inl ⟨rfl, rfl⟩, H8⟩ ?_
    rintro ⟨t, mm⟩ j2 w7 ⟨ht, H9⟩
    simp only at ht H9
    rcases ht with ⟨rfl, rfl⟩ | ⟨rfl, rfl, en0⟩ | ⟨rfl, rfl, en0, en1⟩
    · skip
      refine idx_own tok rfl rfl (show (0 : Int) ≤ ((0 : Nat) : Int) by omega) (show ((0 : Nat) : Int) < ((2 : Nat) : Int) by omega) ?_
      refine load_rule tok H9 (v := prV ⟨k.loan, u'.acct, false⟩) rfl ?_
      refine alloc_as tok H9 [.int .u32 0, .int .u8 0, .bool false] rfl rfl rfl fun pa w8 Ha => ?_
      refine store_as tok Ha [.int .u32 k.loan, .int .u8 u'.acct, .bool false] rfl rfl rfl rfl rfl fun w9 Hb => ?_
      refine draw_rule (A := []) tok tdr Hb [0, 1, 2, 3, 4, 5, 6, 7, 8, 9, 10, 11, 12, 13] [0, 1, 3, 7, 0, 31, 0, 64, 255, 511, 1023, 1023, 2047, 8191] rfl ?_
      refine pass_rule _ (fun w h => load_rule tok h (v := .map (some m2)) rfl ⟨rfl, rfl⟩) ?_
      refine pass_rule _ (fun w h => load_rule tok h (v := prV ⟨k.loan, u'.acct, false⟩) rfl ⟨rfl, rfl⟩) ?_
      refine pass_rule (.int .i64 (getS d.sums ⟨k.loan, u'.acct, false⟩)) (fun w h => lookup_rule (n := m2) tok h rfl rfl rfl prKeys rfl (getV d.sums ⟨k.loan, u'.acct, false⟩) ⟨rfl, rfl⟩) ?_
      refine pass_rule _ (fun w h => load_rule tok h (v := .int .i64 u'.amt) rfl ⟨rfl, rfl⟩) ?_
      refine Or.elim (show in64 (getS d.sums ⟨k.loan, u'.acct, false⟩ + u'.amt) = true ∨ in64 (getS d.sums ⟨k.loan, u'.acct, false⟩ + u'.amt) = false by cases in64 (getS d.sums ⟨k.loan, u'.acct, false⟩ + u'.amt) <;> simp) (fun en => ?_) (fun en => ?_)
      · refine imp_rule (fun X wx h => call_rule h (fun M I _ h => (addV_ok en).symm ▸ add (getS d.sums ⟨k.loan, u'.acct, false⟩) u'.amt (hs ⟨k.loan, u'.acct, false⟩) hu3 _ M I h) fun _ w1 _ H1 => imp_done H1 ?_)
        refine done_rule fun wa Hc => ?_
        refine load_rule tok Hc (v := prV ⟨k.loan, u'.acct, false⟩) rfl ?_
        refine mapUpd_rule (n := m3) (k := ⟨k.loan, u'.acct, false⟩) (v := getS d.sums ⟨k.loan, u'.acct, false⟩ + u'.amt) tok Hc rfl prKeys rfl rfl fun wb Hd => ?_
        exact Exists.intro (0 + 1, putL ⟨k.loan, u'.acct, false⟩ (getS d.sums ⟨k.loan, u'.acct, false⟩ + u'.amt) mm) (And.intro ⟨rfl, trivial⟩ (And.intro (by show 2 - (0 + 1) < 2 - 0; omega) ⟨(.inr (.inl ⟨rfl, rfl, en⟩)), Hp.keep Hd⟩))
      · refine imp_rule (fun X wx h => call_rule h (fun M I _ h => (addV_no en).symm ▸ add (getS d.sums ⟨k.loan, u'.acct, false⟩) u'.amt (hs ⟨k.loan, u'.acct, false⟩) hu3 _ M I h) fun _ w1 _ H1 => imp_done H1 ?_)
        refine done_rule fun wa Hc => ?_
        refine load_rule tok Hc (v := .int .u32 k.loan) rfl ?_
        refine box_as Hc [.int .u64 (IntKind.u64.wrap k.loan), .iface 47 (.int .i64 12)] rfl fun pf wb Hd => ?_
        rw [ew] at Hd
        exact over pf wb (by rw [hg, nextGo, if_neg (fun h => by rw [eu] at en; rw [h.1] at en; cases en)]) (Hp.keep Hd)
    · skip
      refine idx_own tok rfl rfl (show (0 : Int) ≤ ((1 : Nat) : Int) by omega) (show ((1 : Nat) : Int) < ((2 : Nat) : Int) by omega) ?_
      refine load_rule tok H9 (v := prV ⟨0, u'.acct, true⟩) rfl ?_
      refine alloc_as tok H9 [.int .u32 0, .int .u8 0, .bool false] rfl rfl rfl fun pa w8 Ha => ?_
      refine store_as tok Ha [.int .u32 0, .int .u8 u'.acct, .bool true] rfl rfl rfl rfl rfl fun w9 Hb => ?_
      refine draw_rule (A := []) tok tdr Hb [0, 1, 2, 3, 4, 5, 6, 7, 8, 9, 10, 11, 12, 13] [0, 1, 3, 7, 0, 31, 0, 64, 255, 511, 1023, 1023, 2047, 8191] rfl ?_
      refine pass_rule _ (fun w h => load_rule tok h (v := .map (some m2)) rfl ⟨rfl, rfl⟩) ?_
      refine pass_rule _ (fun w h => load_rule tok h (v := prV ⟨0, u'.acct, true⟩) rfl ⟨rfl, rfl⟩) ?_
      refine pass_rule (.int .i64 (getS d.sums ⟨0, u'.acct, true⟩)) (fun w h => lookup_rule (n := m2) tok h rfl rfl rfl prKeys rfl (getV d.sums ⟨0, u'.acct, true⟩) ⟨rfl, rfl⟩) ?_
      refine pass_rule _ (fun w h => load_rule tok h (v := .int .i64 u'.amt) rfl ⟨rfl, rfl⟩) ?_
      refine Or.elim (show in64 (getS d.sums ⟨0, u'.acct, true⟩ + u'.amt) = true ∨ in64 (getS d.sums ⟨0, u'.acct, true⟩ + u'.amt) = false by cases in64 (getS d.sums ⟨0, u'.acct, true⟩ + u'.amt) <;> simp) (fun en => ?_) (fun en => ?_)
      · refine imp_rule (fun X wx h => call_rule h (fun M I _ h => (addV_ok en).symm ▸ add (getS d.sums ⟨0, u'.acct, true⟩) u'.amt (hs ⟨0, u'.acct, true⟩) hu3 _ M I h) fun _ w1 _ H1 => imp_done H1 ?_)
        refine done_rule fun wa Hc => ?_
        refine load_rule tok Hc (v := prV ⟨0, u'.acct, true⟩) rfl ?_
        refine mapUpd_rule (n := m3) (k := ⟨0, u'.acct, true⟩) (v := getS d.sums ⟨0, u'.acct, true⟩ + u'.amt) tok Hc rfl prKeys rfl rfl fun wb Hd => ?_
        exact Exists.intro (1 + 1, putL ⟨0, u'.acct, true⟩ (getS d.sums ⟨0, u'.acct, true⟩ + u'.amt) (putL ⟨k.loan, u'.acct, false⟩ (getS d.sums ⟨k.loan, u'.acct, false⟩ + u'.amt) nx)) (And.intro ⟨rfl, trivial⟩ (And.intro (by show 2 - (1 + 1) < 2 - 1; omega) ⟨(.inr (.inr ⟨rfl, rfl, en0, en⟩)), Hp.keep Hd⟩))
      · refine imp_rule (fun X wx h => call_rule h (fun M I _ h => (addV_no en).symm ▸ add (getS d.sums ⟨0, u'.acct, true⟩) u'.amt (hs ⟨0, u'.acct, true⟩) hu3 _ M I h) fun _ w1 _ H1 => imp_done H1 ?_)
        refine done_rule fun wa Hc => ?_
        refine load_rule tok Hc (v := .int .u32 k.loan) rfl ?_
        refine box_as Hc [.int .u64 (IntKind.u64.wrap k.loan), .iface 47 (.int .i64 12)] rfl fun pf wb Hd => ?_
        rw [ew] at Hd
        exact over pf wb (by rw [hg, nextGo, if_neg (fun h => by rw [eu] at en; rw [h.2] at en; cases en)]) (Hp.keep Hd)
    · refine Exists.intro (i + 1, putL ⟨0, u'.acct, true⟩ (getS d.sums ⟨0, u'.acct, true⟩ + u'.amt) (putL ⟨k.loan, u'.acct, false⟩ (getS d.sums ⟨k.loan, u'.acct, false⟩ + u'.amt) nx)) (And.intro ⟨?_, trivial⟩ (And.intro ?_ ⟨?_, ?_, ?_, Hp.keep H9⟩))
      · show Value.int .i64 (IntKind.i64.wrap (i + 1)) = _
        rw [w64 (by omega) (by omega)]; rfl
      · simp only; omega
      · simp only; omega
      · simp only
        rw [hg, nextGo, if_pos ⟨by rw [← eu]; exact en0, by rw [← eu]; exact en1⟩, eu]
      · exact nodup_put (nodup_put hnd)
  · have q : ¬ (i : Int) < n := q
    have hdn : ls.drop i = [] := List.drop_eq_nil_of_le (by omega)
    rw [hdn] at hg
    have hg : nextGo d.sums k.loan ls [] = some nx := hg
    refine load_rule tok H3 (v := .map (some m2)) rfl ?_
    refine call_rule H3 (fun M I _ h => copyMap m2 m3 d.sums nx hnd _ M I h) fun sums2 w4 hsm H4 => ?_
    have H4 : Hp ⟨w, M, I⟩ [blk x (entC k A n c) 39, blk l [.slice s.A s.n s.c, .map (some m1), .map (some m2)] 85, row 69 6 (.slice s.A s.n s.c) s.n (lnsC d.lns), mapO m1 keyV iV d.live, mapO m2 prV iV sums2] [Sl legR (.slice A n c) ls, LnF d.lns] w4 := Hp.keep H4
    refine draw_rule (A := [blk l [.slice s.A s.n s.c, .map (some m1), .map (some m2)] 85, row 69 6 (.slice s.A s.n s.c) s.n (lnsC d.lns)]) tok tdr H4 [7, 8, 9, 1, 2, 3, 4, 5, 6, 10, 11, 12, 13, 14, 0, 15, 16, 17] [0, 0, 2, 6, 14, 0, 32, 0, 128, 384, 992, 0, 4064, 8160, 16382, 32767, 65535, 131071] rfl ?_
    refine pass_rule _ (fun w h => load_rule tok h (v := .slice A n c) rfl ⟨rfl, rfl⟩) ?_
    refine imp_rule (fun X wx h => call_rule h (fun M I h0 h => cloneLegs A n c ls (by omega) _ M I (h0 rfl) h) fun sv w1 _ H1 => imp_done H1 ?_)
    refine pass_kept [blk l [.slice s.A s.n s.c, .map (some m1), .map (some m2)] 85] _ (fun X w h => load_rule tok h (v := .slice s.A s.n s.c) rfl ⟨rfl, rfl⟩) ?_
    refine pass_rule _ (fun w h => load_rule tok h (v := keyV k) rfl ⟨rfl, rfl⟩) ?_
    refine fresh_slice tok [.int .u32 k.loan, .int .i32 k.day, .int .u8 k.kind, .int .u32 k.seq, .slice sv.A sv.n sv.c, .int .i64 of] rfl rfl rfl rfl rfl rfl rfl fun g => ?_
    refine imp_rule (fun X wx h => append_rule (v := .slice s.A s.n s.c) (b := g) (m := 1) (c := 1) tok h rfl rfl rfl rfl rfl rfl rfl rfl (by show (s.n + 1) * 48 ≤ _; omega) (by omega) fun A2 c2 w1 H1 => imp_done H1 ?_)
    refine imp_rule (fun X wx h => store_as tok h [.slice A2 (s.n + 1) c2, .map (some m1), .map (some m2)] rfl rfl rfl rfl rfl fun w1 H1 => imp_done H1 ?_)
    refine done_rule fun w5 H5 => ?_
    have H6 : Hp ⟨w, M, I⟩ [blk l [.slice A2 (s.n + 1) c2, .map (some m1), .map (some m2)] 85, row 69 6 (.slice A2 (s.n + 1) c2) (s.n + 1) (lnsC d.lns ++ [.int .u32 k.loan, .int .i32 k.day, .int .u8 k.kind, .int .u32 k.seq, .slice sv.A sv.n sv.c, .int .i64 of]), mapO m1 keyV iV d.live, mapO m2 prV iV sums2] [Sl legR (.slice sv.A sv.n sv.c) ls, LnF d.lns] w5 := Hp.keep H5
    have el : lnsC d.lns ++ [.int .u32 k.loan, .int .i32 k.day, .int .u8 k.kind, .int .u32 k.seq, .slice sv.A sv.n sv.c, .int .i64 of] = lnsC (d.lns ++ [⟨k, sv, of, ls⟩]) := by
      rw [lnsC_app]; simp [lnsC]
    rw [el] at H6
    have H7 : Hp ⟨w, M, I⟩ [blk l [.slice A2 (s.n + 1) c2, .map (some m1), .map (some m2)] 85, row 69 6 (.slice A2 (s.n + 1) c2) (s.n + 1) (lnsC (d.lns ++ [⟨k, sv, of, ls⟩])), mapO m1 keyV iV d.live, mapO m2 prV iV sums2] [LnF (d.lns ++ [⟨k, sv, of, ls⟩])] w5 := H6.facts fun I ha f hf => by
      rw [List.mem_singleton] at hf
      subst hf
      intro z hz
      rcases List.mem_append.1 hz with hz | hz
      · exact ha (LnF d.lns) (List.mem_cons_of_mem _ List.mem_cons_self) z hz
      · rw [List.mem_singleton] at hz
        subst hz
        exact ha _ List.mem_cons_self
    have okk : addOk s d k ls of ⟨.none, ⟨A2, s.n + 1, c2⟩, ⟨d.lns ++ [⟨k, sv, of, ls⟩], d.live, sums2⟩⟩ := by
      unfold addOk
      rw [hg]
      exact ⟨rfl, rfl, rfl, ⟨sv, rfl⟩, hsm⟩
    exact Exists.intro ⟨.none, ⟨A2, s.n + 1, c2⟩, ⟨d.lns ++ [⟨k, sv, of, ls⟩], d.live, sums2⟩⟩ (And.intro rfl (And.intro okk (Hp.addEmp H7)))
end Go.Proofs.YtfemfomgmopibaaGreatDoor
namespace Go.Proofs.YtfemfomgmopibaaGreatDoor
open Go Go.Proofs Go.Wk
def postOk (s : SV) (d : Led) (k : Key) (ls : List Leg) (a : AR) : Prop :=
  if rightB k ls = false then a = ⟨.code 1, s, d⟩
  else if (lk k d.live).isSome = true then ∃ p, a = ⟨.fault p k.loan 10, s, d⟩
  else match nextGo d.sums k.loan ls [] with
    | none => ∃ p, a = ⟨.fault p k.loan 12, s, d⟩
    | some nx => a.e = .none ∧ a.s.n = s.n + 1 ∧ a.d.live = putL k (d.lns.length : Int) d.live ∧ (∃ sv, a.d.lns = d.lns ++ [⟨k, sv, 0, ls⟩]) ∧ ∀ p, lk p a.d.sums = (lk p nx).or (lk p d.sums)
theorem liveV (m : List (Key × Int)) (k : Key) : Value.tuple #[.int .i64 ((lk k m).getD 0), .bool (lk k m).isSome] = .tuple #[((lk k m).map iV).getD (.int .i64 0), .bool (lk k m).isSome] := by
  cases lk k m <;> rfl
set_option maxRecDepth 20000 in
set_option maxHeartbeats 2000000 in
theorem post_ (l m1 m2 : Nat) (s : SV) (d : Led) (hd : d.lns.length ≤ 100000) (hsn : s.n = d.lns.length) (hs : ∀ p, inK .i64 (getS d.sums p)) (k : Key) (hk : keyIn k) (A : Option Addr) (n c : Nat) (ls : List Leg) (hls : ls.length ≤ 1000) (w : World) (M I : BS)
    (H : Hp ⟨w, M, I⟩ (ledA l m1 m2 s d) [Sl legR (.slice A n c) ls, LnF d.lns] w) :
    Ctr Tryz.prog 12 [.pointer (some ⟨l, 0, none⟩), .agg #[.int .u32 k.loan, .int .i32 k.day, .int .u8 k.kind, .int .u32 k.seq, .slice A n c]] w M I (fun a : AR => errFV a.e) (postOk s d k ls) (fun a => errFA a.e :: ledA l m1 m2 a.s a.d) (fun a => [LnF a.d.lns]) := by
  obtain ⟨hk1, hk2⟩ := hk.1
  simp only [kLo, kHi] at hk1 hk2
  have ew : IntKind.u64.wrap k.loan = k.loan := wrap_id ⟨hk1, by show _ ≤ (18446744073709551615 : Int); omega⟩
  refine Exe.of_ev tok Tryz.call12 Tryz.func12 rfl rfl rfl ?_
  refine box_as H (entC k A n c) rfl fun x w1 H1 => ?_
  refine load_rule tok H1 (v := .agg #[.int .u32 k.loan, .int .i32 k.day, .int .u8 k.kind, .int .u32 k.seq, .slice A n c]) rfl ?_
  refine call_rule H1 (fun M I _ h => right k hk.2.2.1 A n c ls _ M I h) fun _ w2 _ H2 => ?_
  refine br (fun q => ?_) (fun q => ?_)
  · have q : rightB k ls = false := by simpa using q
    have okk : postOk s d k ls ⟨.code 1, s, d⟩ := by unfold postOk; rw [if_pos q]
    have H3 : Hp ⟨w, M, I⟩ (ledA l m1 m2 s d) [LnF d.lns] w2 := Hp.keep H2
    exact Exists.intro ⟨.code 1, s, d⟩ (And.intro rfl (And.intro okk (Hp.addEmp H3)))
  have q : rightB k ls = true := by simpa using q
  have q' : ¬ rightB k ls = false := by rw [q]; simp
  refine draw_rule (A := []) tok tdr H2 [0, 1, 2, 3, 4, 5, 6, 7, 8, 9, 10, 11] [0, 1, 3, 7, 0, 16, 63, 127, 255, 255, 511, 2047] rfl ?_
  refine pass_rule _ (fun w h => load_rule tok h (v := .map (some m1)) rfl ⟨rfl, rfl⟩) ?_
  refine pass_rule _ (fun w h => load_rule tok h (v := keyV k) rfl ⟨rfl, rfl⟩) ?_
  refine pass_rule (.tuple #[.int .i64 ((lk k d.live).getD 0), .bool (lk k d.live).isSome]) (fun w h => lookup_ok_rule (n := m1) tok h rfl rfl rfl keyKeys rfl (liveV d.live k) ⟨rfl, rfl⟩) ?_
  refine done_rule fun w3 H3 => ?_
  refine br (fun q2 => ?_) (fun q2 => ?_)
  · have q2 : (lk k d.live).isSome = true := q2
    refine load_rule tok H3 (v := .int .u32 k.loan) rfl ?_
    refine box_as H3 [.int .u64 (IntKind.u64.wrap k.loan), .iface 47 (.int .i64 10)] rfl fun pf w4 H4 => ?_
    rw [ew] at H4
    have okk : postOk s d k ls ⟨.fault pf k.loan 10, s, d⟩ := by unfold postOk; rw [if_neg q', if_pos q2]; exact ⟨pf, rfl⟩
    have H5 : Hp ⟨w, M, I⟩ (blk pf [.int .u64 k.loan, .iface 47 (.int .i64 10)] 104 :: ledA l m1 m2 s d) [LnF d.lns] w4 := Hp.keep H4
    exact Exists.intro ⟨.fault pf k.loan 10, s, d⟩ (And.intro rfl (And.intro okk H5))
  have q2' : ¬ (lk k d.live).isSome = true := by
    have q2 : (lk k d.live).isSome = false := q2
    rw [q2]; simp
  refine load_rule tok H3 (v := .agg #[.int .u32 k.loan, .int .i32 k.day, .int .u8 k.kind, .int .u32 k.seq, .slice A n c]) rfl ?_
  refine call_rule H3 (fun M I _ h => add_ l m1 m2 s d hd hsn hs k hk A n c ls hls 0 _ M I h) fun a => ?_
  rcases a with ⟨e, s2, d2⟩
  cases e with
  | code c0 =>
    intro w4 ha H4
    exfalso
    unfold addOk at ha
    cases hg : nextGo d.sums k.loan ls [] with
    | none => rw [hg] at ha; obtain ⟨⟨p, hp⟩, _⟩ := ha; cases hp
    | some nx => rw [hg] at ha; cases ha.1
  | fault pf a0 c0 =>
    intro w4 ha H4
    have H4 : Hp ⟨w, M, I⟩ [blk pf [.int .u64 a0, .iface 47 (.int .i64 c0)] 104, blk l [.slice s2.A s2.n s2.c, .map (some m1), .map (some m2)] 85, row 69 6 (.slice s2.A s2.n s2.c) s2.n (lnsC d2.lns), mapO m1 keyV iV d2.live, mapO m2 prV iV d2.sums, blk x (entC k A n c) 39] [LnF d2.lns, Sl legR (.slice A n c) ls, LnF d.lns] w4 := H4
    have okk : postOk s d k ls ⟨.fault pf a0 c0, s2, d2⟩ := by
      unfold postOk
      rw [if_neg q', if_neg q2']
      unfold addOk at ha
      cases hg : nextGo d.sums k.loan ls [] with
      | none =>
        rw [hg] at ha
        obtain ⟨⟨p, hp⟩, h1, h2⟩ := ha
        simp only at hp h1 h2
        injection hp with e1 e2 e3
        subst e1 e2 e3 h1 h2
        exact ⟨pf, rfl⟩
      | some nx => rw [hg] at ha; cases ha.1
    have H5 : Hp ⟨w, M, I⟩ (blk pf [.int .u64 a0, .iface 47 (.int .i64 c0)] 104 :: ledA l m1 m2 s2 d2) [LnF d2.lns] w4 := Hp.keep H4
    exact Exists.intro ⟨.fault pf a0 c0, s2, d2⟩ (And.intro rfl (And.intro okk H5))
  | none =>
    intro w4 ha H4
    have H4 : Hp ⟨w, M, I⟩ [empA, blk l [.slice s2.A s2.n s2.c, .map (some m1), .map (some m2)] 85, row 69 6 (.slice s2.A s2.n s2.c) s2.n (lnsC d2.lns), mapO m1 keyV iV d2.live, mapO m2 prV iV d2.sums, blk x (entC k A n c) 39] [LnF d2.lns, Sl legR (.slice A n c) ls, LnF d.lns] w4 := H4
    unfold addOk at ha
    cases hg : nextGo d.sums k.loan ls [] with
    | none => rw [hg] at ha; obtain ⟨⟨p, hp⟩, _⟩ := ha; cases hp
    | some nx =>
      rw [hg] at ha
      obtain ⟨_, h2, h3, h4, h5⟩ := ha
      simp only at h2 h3 h4 h5
      have el : IntKind.i64.wrap ((s2.n : Int) - 1) = ((d.lns.length : Nat) : Int) := by
        rw [w64 (by omega) (by omega)]; omega
      refine draw_rule (A := [mapO m1 keyV iV d2.live]) tok tdr H4 [0, 1, 2, 3, 4, 5, 6, 7, 8, 9, 10, 11, 12] [0, 1, 3, 7, 0, 16, 0, 64, 192, 448, 960, 1984, 4095] rfl ?_
      refine pass_rule _ (fun w h => load_rule tok h (v := .map (some m1)) rfl ⟨rfl, rfl⟩) ?_
      refine pass_rule _ (fun w h => load_rule tok h (v := keyV k) rfl ⟨rfl, rfl⟩) ?_
      refine pass_rule _ (fun w h => load_rule tok h (v := .slice s2.A s2.n s2.c) rfl ⟨rfl, rfl⟩) ?_
      refine imp_rule (fun X wx h => mapUpd_rule (n := m1) (k := k) (v := ((d.lns.length : Nat) : Int)) tok h rfl keyKeys rfl (congrArg (Value.int .i64) el) fun w1 H1 => imp_done H1 ?_)
      refine done_rule fun w5 H5 => ?_
      have H6 : Hp ⟨w, M, I⟩ (ledA l m1 m2 s2 ⟨d2.lns, putL k ((d.lns.length : Nat) : Int) d2.live, d2.sums⟩) [LnF d2.lns] w5 := Hp.keep H5
      have okk : postOk s d k ls ⟨.none, s2, ⟨d2.lns, putL k ((d.lns.length : Nat) : Int) d2.live, d2.sums⟩⟩ := by
        unfold postOk
        rw [if_neg q', if_neg q2', hg]
        exact ⟨rfl, h2, by rw [h3], h4, h5⟩
      exact Exists.intro ⟨.none, s2, ⟨d2.lns, putL k ((d.lns.length : Nat) : Int) d2.live, d2.sums⟩⟩ (And.intro rfl (And.intro okk (Hp.addEmp H6)))
end Go.Proofs.YtfemfomgmopibaaGreatDoor
