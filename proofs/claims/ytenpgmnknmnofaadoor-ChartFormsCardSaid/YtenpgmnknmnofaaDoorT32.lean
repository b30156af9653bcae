/- An entry the other way may be, and has each amount the other way: the walk. -/
import Derived.Test.YtenpgmnknmnofaaDoorT31
namespace Go.Proofs.YtenpgmnknmnofaaDoor
open Go Go.Proofs Go.Wk
theorem go_step {s last : Int} {x : Leg} {r : List Leg} (h : rightGo s last (x :: r) = true) : inK .i64 (s + x.amt) ∧ last < x.acct ∧ rightGo (s + x.amt) x.acct r = true := by
  unfold rightGo at h
  cases h1 : in64 (s + x.amt) <;> rw [h1] at h <;> simp only [cond_true, cond_false] at h
  · cases h
  · cases h2 : decide (x.acct ≤ last) <;> rw [h2] at h <;> simp only [cond_true, cond_false] at h
    · cases h3 : noB (accName x.acct) <;> rw [h3] at h <;> simp only [cond_true, cond_false] at h
      · simp only [in64, Bool.and_eq_true, decide_eq_true_eq] at h1
        simp only [decide_eq_false_iff_not] at h2
        exact ⟨⟨h1.1, h1.2⟩, by omega, h⟩
      · cases h
    · cases h
theorem rightB_go {k : Key} {ls : List Leg} (h : rightB k ls = true) : rightGo 0 0 ls = true := by
  unfold rightB at h
  cases h1 : noB (kindName k.kind) <;> rw [h1] at h <;> simp only [cond_true, cond_false] at h
  · cases h2 : dayB k.day <;> rw [h2] at h <;> simp only [Bool.not_true, Bool.not_false, cond_true, cond_false] at h
    · cases h
    · cases h3 : ((ls.length : Int) == 0) <;> rw [h3] at h <;> simp only [cond_true, cond_false] at h
      · cases h4 : decide (8 < (ls.length : Int)) <;> rw [h4] at h <;> simp only [cond_true, cond_false] at h
        · exact h
        · cases h
      · cases h
  · cases h
theorem go_rise : ∀ {ls : List Leg} {s last : Int}, rightGo s last ls = true → ∀ x, x ∈ ls → last < x.acct
  | [], _, _, _, x, hx => by cases hx
  | y :: r, s, last, h, x, hx => by
    obtain ⟨_, h2, h3⟩ := go_step h
    rcases List.mem_cons.1 hx with rfl | hx
    · exact h2
    · have := go_rise h3 x hx; omega
theorem ofV_mem : ∀ {ls : List Leg} {s last : Int}, rightGo s last ls = true → ∀ x, x ∈ ls → ofV x.acct ls = x.amt
  | [], _, _, _, x, hx => by cases hx
  | y :: r, s, last, h, x, hx => by
    obtain ⟨_, h2, h3⟩ := go_step h
    unfold ofV
    rcases List.mem_cons.1 hx with rfl | hx
    · rw [if_pos rfl]
    · have := go_rise h3 x hx
      rw [if_neg (by omega)]
      exact ofV_mem h3 x hx
theorem ofV_no {a : Int} : ∀ {ls : List Leg}, (∀ x, x ∈ ls → x.acct ≠ a) → ofV a ls = 0
  | [], _ => rfl
  | y :: r, h => by
    unfold ofV
    rw [if_neg (h y List.mem_cons_self)]
    exact ofV_no fun x hx => h x (List.mem_cons_of_mem _ hx)
theorem ofV_neg {a : Int} : ∀ (ls : List Leg), ofV a (ls.map negL) = -ofV a ls
  | [] => rfl
  | y :: r => by
    simp only [List.map_cons, ofV, negL]
    split
    · rfl
    · exact ofV_neg r
theorem turn_amt : ∀ {ls : List Leg} {s : Int}, turnGo s ls = true → ∀ x, x ∈ ls → x.amt ≠ -9223372036854775808
  | ls, s, h, x, hx, e => by rw [turn_min hx e] at h; cases h
set_option maxRecDepth 20000 in
set_option maxHeartbeats 2000000 in
theorem turnsWalk (k : Key) (hk : keyIn k) (A : Option Addr) (n c : Nat) (ls : List Leg) (w : World) (M I : BS) (H : Hp ⟨w, M, I⟩ [] [Sl legR (.slice A n c) ls, Glob 0 errTy] w) :
    Ctr Tryd.prog 3 [keyV k, .slice A n c] w M I (fun _ : Unit => .bool true) (fun _ => True) (fun _ => []) (fun _ => []) := by
  have hl1 : (ls.take 12).length ≤ 12 := by simp; omega
  refine Exe.of_ev tok Tryd.call3 Tryd.func3 rfl rfl rfl ?_
  refine box_as H (keyC k) rfl fun x w1 H1 => ?_
  refine call_rule H1 (fun M I h0 h => awake _ M I (h0 rfl) h) fun _ w2 _ H2 => ?_
  refine draw_rule (A := []) tok tdr H2 [1, 2, 0, 3, 4, 5] [0, 0, 2, 7, 0, 31] rfl ?_
  refine imp_rule (fun X wx h => call_rule h (fun M I h0 h => few A n c ls _ M I (h0 rfl) h) fun s1 w1 _ H1 => imp_done H1 ?_)
  refine pass_rule _ (fun w h => load_rule tok h (v := keyV k) rfl ⟨rfl, rfl⟩) ?_
  refine imp_rule (fun X wx h => call_rule h (fun M I h0 h => make k s1.A s1.n s1.c (ls.take 12) hl1 _ M I (h0 rfl) h) fun a => ?_)
  rcases a with ⟨⟨A1, n1, c1⟩, out⟩
  refine fun w1 ha H1 => imp_done H1 ?_
  refine fresh_alloc tok rfl rfl rfl fun e => ?_
  refine imp_rule (fun X wx h => store_as tok h (entC k A1 n1 c1) rfl rfl rfl rfl rfl fun w1 H1 => imp_done H1 ?_)
  refine done_rule fun w3 H3 => ?_
  have H3 : Hp ⟨w, M, I⟩ [blk e (entC k A1 n1 c1) 29, blk x (keyC k) 25] [Sl legR (.slice A1 n1 c1) out, Glob 0 errTy] w3 := H3.keep
  obtain ⟨hn1, hc1, hc2⟩ := H3.sll (A := A1) (n := n1) (c := c1)
  have hok := legs_ok (A := A1) (n := n1) (c := c1) H3
  refine load_rule tok H3 (v := .agg #[.int .u32 k.loan, .int .i32 k.day, .int .u8 k.kind, .int .u32 k.seq, .slice A1 n1 c1]) rfl ?_
  refine call_rule H3 (fun M I h0 h => turned k hk.2.2.1 A1 n1 c1 out _ M I (h0 rfl) h) fun r => ?_
  rcases r with c0 | ⟨A2, n2, c2⟩
  · intro w4 hr H4
    refine alloc_as tok H4 zeroC rfl rfl rfl fun tt w5 H5 => ?_
    refine store_as tok H5 zeroC rfl rfl rfl rfl rfl fun w6 H6 => ?_
    have H6 : Hp ⟨w, M, I⟩ [blk tt [.int .u32 0, .int .i32 0, .int .u8 0, .int .u32 0, .slice none 0 0] 29, blk e (entC k A1 n1 c1) 29, blk x (keyC k) 25] [Sl legR (.slice A1 n1 c1) out, Glob 0 errTy] w6 := H6.keep
    refine load_rule tok H6 (v := .agg #[.int .u32 k.loan, .int .i32 k.day, .int .u8 k.kind, .int .u32 k.seq, .slice A1 n1 c1]) rfl ?_
    refine call_rule H6 (fun M I _ h => right k hk.2.2.1 A1 n1 c1 out _ M I h) fun _ w7 _ H7 => ?_
    refine br (fun q => ?_) (fun q => ?_)
    · have q : rightB k out = false := by simpa using q
      rcases hr with ⟨_, rfl⟩ | ⟨hr, _⟩
      · refine call_rule H7 (fun M I _ h => code_ (.code 1) _ M I h) fun _ w8 _ H8 => ?_
        refine load_rule tok H8 (v := .slice none 0 0) rfl ?_
        exact Exists.intro () (And.intro rfl (And.intro trivial (Hp.keep H8)))
      · rw [q] at hr; cases hr
    have q : rightB k out = true := by simpa using q
    rcases hr with ⟨hr, _⟩ | ⟨_, hr, rfl⟩
    · rw [q] at hr; cases hr
    refine load_rule tok H7 (v := .slice A1 n1 c1) rfl ?_
    refine loop_rule tok (σ := Nat × Int) 18446743523953739024 (fun s => [(39, .int .i64 s.1), (8, .int .i64 s.2)])
      (fun s w' => s.1 ≤ n1 ∧ inK .i64 s.2 ∧ (∃ last, rightGo s.2 last (out.drop s.1) = true) ∧ turnGo s.2 (out.drop s.1) = turnGo 0 out ∧ Hp ⟨w, M, I⟩ [blk tt [.int .u32 0, .int .i32 0, .int .u8 0, .int .u32 0, .slice none 0 0] 29, blk e (entC k A1 n1 c1) 29, blk x (keyC k) 25] [Sl legR (.slice A1 n1 c1) out, Glob 0 errTy] w') (fun s => n1 - s.1) (0, 0) rfl rfl ⟨rfl, rfl, trivial⟩ ⟨Nat.zero_le _, ⟨by decide, by decide⟩, ⟨0, rightB_go q⟩, rfl, H7⟩ ?_
    rintro ⟨i, s⟩ j w6 ⟨hi, hs, ⟨last, hg⟩, ht, H6⟩
    simp only at hi hs hg ht H6
    refine brd (fun hq => ?_) (fun hq => ?_)
    · have hq : (i : Int) < n1 := hq
      obtain ⟨u, hu⟩ : ∃ u, out[i]? = some u := ⟨_, List.getElem?_eq_getElem (by omega)⟩
      have hdu : out.drop i = u :: out.drop (i + 1) := by
        rw [List.drop_eq_getElem_cons (by omega)]
        rw [List.getElem?_eq_getElem (by omega)] at hu
        rw [Option.some.inj hu]
      rw [hdu] at hg ht
      obtain ⟨g1, g2, g3⟩ := go_step hg
      obtain ⟨b1, o1, rfl⟩ := H6.slAt (A := A1) (n := n1) (c := c1) (r := legR) (by omega)
      refine idx_own tok rfl rfl (show (0 : Int) ≤ (i : Int) by omega) hq ?_
      refine sl_ld (n := n1) (c := c1) (j := i) (f := 0) (r := legR) tok H6 (legV u) hu rfl (fun _ _ => rfl) ?_
      refine alloc_as tok H6 [.int .u8 0, .int .i64 0] rfl rfl rfl fun l w7 H7 => ?_
      refine store_as tok H7 [.int .u8 u.acct, .int .i64 u.amt] rfl rfl rfl rfl rfl fun w8 H8 => ?_
      refine load_rule tok H8 (v := .int .i64 u.amt) rfl ?_
      refine load_rule tok H8 (v := .int .i64 u.amt) rfl ?_
      have ew : IntKind.i64.wrap (s + u.amt) = s + u.amt := w64 g1.1 g1.2
      have nxt : ¬ u.amt = -9223372036854775808 → ¬ s + u.amt = -9223372036854775808 → turnGo (s + u.amt) (out.drop (i + 1)) = turnGo 0 out := fun a1 a2 => by
        rw [← ht, turnGo, decide_eq_false a1, decide_eq_false a2]; rfl
      have hit : u.amt = -9223372036854775808 ∨ s + u.amt = -9223372036854775808 → turnGo 0 out = false := fun a1 => by
        rw [← ht, turnGo]
        rcases a1 with a1 | a1
        · rw [decide_eq_true a1]; rfl
        · rw [decide_eq_true a1, Bool.not_true, Bool.false_and, Bool.and_false]
      refine brd (fun q1 => ?_) (fun q1 => ?_)
      · have q1 : u.amt = -9223372036854775808 := q1
        refine call_rule H8 (fun M I _ h => code_ (.code 12) _ M I h) fun _ w9 _ H9 => ?_
        refine load_rule tok H9 (v := .slice none 0 0) rfl ?_
        exact Exists.intro () (And.intro rfl (And.intro trivial (Hp.keep H9)))
      · have q1 : ¬ u.amt = -9223372036854775808 := q1
        refine brd (fun q2 => ?_) (fun q2 => ?_)
        · have q2 : IntKind.i64.wrap (s + u.amt) = -9223372036854775808 := q2
          rw [ew] at q2
          refine call_rule H8 (fun M I _ h => code_ (.code 12) _ M I h) fun _ w9 _ H9 => ?_
          refine load_rule tok H9 (v := .slice none 0 0) rfl ?_
          exact Exists.intro () (And.intro rfl (And.intro trivial (Hp.keep H9)))
        · have q2 : ¬ IntKind.i64.wrap (s + u.amt) = -9223372036854775808 := q2
          rw [ew] at q2
          refine Exists.intro (i + 1, s + u.amt) (And.intro ⟨?_, ?_, trivial⟩ (And.intro ?_ ⟨?_, ?_, ?_, ?_, Hp.keep H8⟩))
          · show Value.int .i64 (IntKind.i64.wrap (i + 1)) = _
            rw [w64 (by omega) (by omega)]; rfl
          · show Value.int .i64 (IntKind.i64.wrap (s + u.amt)) = _
            rw [ew]
          · simp only; omega
          · simp only; omega
          · exact g1
          · exact ⟨_, g3⟩
          · exact nxt q1 q2
    · have hq : ¬ (i : Int) < n1 := hq
      have hii : i = out.length := by omega
      have htn : turnGo 0 out = true := by rw [← ht, hii, List.drop_length]; rfl
      exact absurd hr (by rw [htn]; simp)
  · intro w4 hr H4
    have H4 : Hp ⟨w, M, I⟩ [blk e (entC k A1 n1 c1) 29, blk x (keyC k) 25] [Sl legR (.slice A2 n2 c2) (out.map negL), Sl legR (.slice A1 n1 c1) out, Glob 0 errTy] w4 := H4
    obtain ⟨hr1, hr2, hr3⟩ := hr
    refine alloc_as tok H4 zeroC rfl rfl rfl fun tt w5 H5 => ?_
    refine store_as tok H5 (entC k A2 n2 c2) rfl rfl rfl rfl rfl fun w6 H6 => ?_
    have H6 : Hp ⟨w, M, I⟩ [blk tt (entC k A2 n2 c2) 29, blk e (entC k A1 n1 c1) 29, blk x (keyC k) 25] [Sl legR (.slice A2 n2 c2) (out.map negL), Sl legR (.slice A1 n1 c1) out, Glob 0 errTy] w6 := H6.keep
    obtain ⟨hn2, hd1, hd2⟩ := H6.sll (A := A2) (n := n2) (c := c2)
    have hlm : (out.map negL).length = out.length := List.length_map _
    refine load_rule tok H6 (v := .agg #[.int .u32 k.loan, .int .i32 k.day, .int .u8 k.kind, .int .u32 k.seq, .slice A1 n1 c1]) rfl ?_
    refine call_rule H6 (fun M I _ h => right k hk.2.2.1 A1 n1 c1 out _ M I h) fun _ w7 _ H7 => ?_
    refine br (fun q => ?_) (fun q => ?_)
    · exact absurd q (by rw [hr1]; simp)
    have q : rightB k out = true := hr1
    refine load_rule tok H7 (v := .slice A1 n1 c1) rfl ?_
    refine loop_rule tok (σ := Nat × Int) 18446743523953739024 (fun s => [(39, .int .i64 s.1), (8, .int .i64 s.2)])
      (fun s w' => s.1 ≤ n1 ∧ inK .i64 s.2 ∧ (∃ last, rightGo s.2 last (out.drop s.1) = true) ∧ turnGo s.2 (out.drop s.1) = turnGo 0 out ∧ Hp ⟨w, M, I⟩ [blk tt (entC k A2 n2 c2) 29, blk e (entC k A1 n1 c1) 29, blk x (keyC k) 25] [Sl legR (.slice A2 n2 c2) (out.map negL), Sl legR (.slice A1 n1 c1) out, Glob 0 errTy] w') (fun s => n1 - s.1) (0, 0) rfl rfl ⟨rfl, rfl, trivial⟩ ⟨Nat.zero_le _, ⟨by decide, by decide⟩, ⟨0, rightB_go q⟩, rfl, H7⟩ ?_
    rintro ⟨i, s⟩ j w6 ⟨hi, hs, ⟨last, hg⟩, ht, H6⟩
    simp only at hi hs hg ht H6
    refine brd (fun hq => ?_) (fun hq => ?_)
    · have hq : (i : Int) < n1 := hq
      obtain ⟨u, hu⟩ : ∃ u, out[i]? = some u := ⟨_, List.getElem?_eq_getElem (by omega)⟩
      have hdu : out.drop i = u :: out.drop (i + 1) := by
        rw [List.drop_eq_getElem_cons (by omega)]
        rw [List.getElem?_eq_getElem (by omega)] at hu
        rw [Option.some.inj hu]
      rw [hdu] at hg ht
      obtain ⟨g1, g2, g3⟩ := go_step hg
      obtain ⟨b1, o1, rfl⟩ := H6.slAt (A := A1) (n := n1) (c := c1) (r := legR) (by omega)
      refine idx_own tok rfl rfl (show (0 : Int) ≤ (i : Int) by omega) hq ?_
      refine sl_ld (n := n1) (c := c1) (j := i) (f := 0) (r := legR) tok H6 (legV u) hu rfl (fun _ _ => rfl) ?_
      refine alloc_as tok H6 [.int .u8 0, .int .i64 0] rfl rfl rfl fun l w7 H7 => ?_
      refine store_as tok H7 [.int .u8 u.acct, .int .i64 u.amt] rfl rfl rfl rfl rfl fun w8 H8 => ?_
      refine load_rule tok H8 (v := .int .i64 u.amt) rfl ?_
      refine load_rule tok H8 (v := .int .i64 u.amt) rfl ?_
      have ew : IntKind.i64.wrap (s + u.amt) = s + u.amt := w64 g1.1 g1.2
      have nxt : ¬ u.amt = -9223372036854775808 → ¬ s + u.amt = -9223372036854775808 → turnGo (s + u.amt) (out.drop (i + 1)) = turnGo 0 out := fun a1 a2 => by
        rw [← ht, turnGo, decide_eq_false a1, decide_eq_false a2]; rfl
      have hit : u.amt = -9223372036854775808 ∨ s + u.amt = -9223372036854775808 → turnGo 0 out = false := fun a1 => by
        rw [← ht, turnGo]
        rcases a1 with a1 | a1
        · rw [decide_eq_true a1]; rfl
        · rw [decide_eq_true a1, Bool.not_true, Bool.false_and, Bool.and_false]
      refine brd (fun q1 => ?_) (fun q1 => ?_)
      · have q1 : u.amt = -9223372036854775808 := q1
        exact absurd hr2 (by rw [hit (.inl q1)]; simp)
      · have q1 : ¬ u.amt = -9223372036854775808 := q1
        refine brd (fun q2 => ?_) (fun q2 => ?_)
        · have q2 : IntKind.i64.wrap (s + u.amt) = -9223372036854775808 := q2
          rw [ew] at q2
          exact absurd hr2 (by rw [hit (.inr q2)]; simp)
        · have q2 : ¬ IntKind.i64.wrap (s + u.amt) = -9223372036854775808 := q2
          rw [ew] at q2
          refine Exists.intro (i + 1, s + u.amt) (And.intro ⟨?_, ?_, trivial⟩ (And.intro ?_ ⟨?_, ?_, ?_, ?_, Hp.keep H8⟩))
          · show Value.int .i64 (IntKind.i64.wrap (i + 1)) = _
            rw [w64 (by omega) (by omega)]; rfl
          · show Value.int .i64 (IntKind.i64.wrap (s + u.amt)) = _
            rw [ew]
          · simp only; omega
          · simp only; omega
          · exact g1
          · exact ⟨_, g3⟩
          · exact nxt q1 q2
    · have hq : ¬ (i : Int) < n1 := hq
      have hii : i = out.length := by omega
      have htn : turnGo 0 out = true := by rw [← ht, hii, List.drop_length]; rfl
      refine load_rule tok H6 (v := keyV k) rfl ?_
      refine load_rule tok H6 (v := keyV k) rfl ?_
      refine ne_struct tok (r := eqK k k) rfl Tryd.eqGuardType25 Tryd.stoodInHeld25 rfl ?_
      refine br (fun q1 => ?_) (fun q1 => ?_)
      · exact absurd q1 (by simp [eqK])
      refine load_rule tok H6 (v := .slice A2 n2 c2) rfl ?_
      refine load_rule tok H6 (v := .slice A1 n1 c1) rfl ?_
      refine br (fun q2 => ?_) (fun q2 => ?_)
      · have q2 : ((n2 : Int) != (n1 : Int)) = true := q2
        exact absurd q2 (by rw [hn2, hn1, hlm]; simp)
      refine load_rule tok H6 (v := .agg #[.int .u32 k.loan, .int .i32 k.day, .int .u8 k.kind, .int .u32 k.seq, .slice A2 n2 c2]) rfl ?_
      refine call_rule H6 (fun M I _ h => right k hk.2.2.1 A2 n2 c2 (out.map negL) _ M I h) fun _ w8 _ H8 => ?_
      refine br (fun q3 => ?_) (fun q3 => ?_)
      · exact absurd q3 (by rw [hr3]; simp)
      refine load_rule tok H8 (v := .slice A1 n1 c1) rfl ?_
      refine loop_rule tok (σ := Nat) 85070591729615645846200961720492496912 (fun s => [(89, .int .i64 s)])
        (fun s w' => s ≤ n1 ∧ Hp ⟨w, M, I⟩ [blk tt (entC k A2 n2 c2) 29, blk e (entC k A1 n1 c1) 29, blk x (keyC k) 25] [Sl legR (.slice A2 n2 c2) (out.map negL), Sl legR (.slice A1 n1 c1) out, Glob 0 errTy] w') (fun s => n1 - s) 0 rfl rfl ⟨rfl, trivial⟩ ⟨Nat.zero_le _, H8⟩ ?_
      rintro i2 j2 w9 ⟨hi2, H9⟩
      refine brd (fun hq => ?_) (fun hq => ?_)
      · have hq : (i2 : Int) < n1 := hq
        obtain ⟨u, hu⟩ : ∃ u, out[i2]? = some u := ⟨_, List.getElem?_eq_getElem (by omega)⟩
        have hum : u ∈ out := List.mem_of_getElem? hu
        have hu2 : (out.map negL)[i2]? = some (negL u) := by rw [List.getElem?_map, hu]; rfl
        have hamt := turn_amt hr2 u hum
        have huok : -9223372036854775808 ≤ u.amt ∧ u.amt ≤ 9223372036854775807 := (hok u hum).2
        obtain ⟨b1, o1, rfl⟩ := H9.slAt (A := A1) (n := n1) (c := c1) (r := legR) (by omega)
        obtain ⟨b2, o2, rfl⟩ := H9.slAt (A := A2) (n := n2) (c := c2) (r := legR) (by omega)
        have i1 : (0 : Int) ≤ (i2 : Int) := by omega
        have i3 : (i2 : Int) < n2 := by omega
        refine idx_own tok rfl rfl i1 hq ?_
        refine sl_ld (n := n1) (c := c1) (j := i2) (f := 0) (r := legR) tok H9 (legV u) hu rfl (fun _ _ => rfl) ?_
        refine alloc_as tok H9 [.int .u8 0, .int .i64 0] rfl rfl rfl fun l w10 H10 => ?_
        refine store_as tok H10 [.int .u8 u.acct, .int .i64 u.amt] rfl rfl rfl rfl rfl fun w11 H11 => ?_
        refine draw_rule (A := []) tok tdr H11 [0, 1, 2, 3, 4, 5, 6, 7, 8, 9, 10, 11, 12, 13, 14, 15, 16, 17, 18, 19, 20, 21, 22, 23, 24, 25, 26, 27, 28, 29, 30] [0, 1, 0, 7, 15, 0, 32, 0, 128, 384, 992, 2047, 4095, 8191, 8191, 24575, 65535, 8191, 139263, 524287, 1048575, 2097151, 4194303, 4194303, 12582911, 33554431, 4194303, 71303167, 268435455, 536870911, 1073741823] rfl ?_
        refine pass_rule _ (fun w h => load_rule tok h (v := .slice (some ⟨b2, o2, none⟩) n2 c2) rfl ⟨rfl, rfl⟩) ?_
        refine pass_rule _ (fun w h => idx_own tok rfl rfl i1 i3 ⟨rfl, rfl⟩) ?_
        refine pass_rule _ (fun w h => sl_ld (n := n2) (c := c2) (j := i2) (f := 0) (r := legR) tok h (legV (negL u)) hu2 rfl (fun _ _ => rfl) ⟨rfl, rfl⟩) ?_
        refine pass_rule _ (fun w h => load_rule tok h (v := .int .u8 u.acct) rfl ⟨rfl, rfl⟩) ?_
        refine pass_rule _ (fun w h => load_rule tok h (v := .int .i64 u.amt) rfl ⟨rfl, rfl⟩) ?_
        refine pass_rule _ (fun w h => ne_struct tok (r := legEq (negL u) ⟨u.acct, IntKind.i64.wrap (0 - u.amt)⟩) rfl Tryd.eqGuardType40 Tryd.stoodInHeld40 rfl ⟨rfl, rfl⟩) ?_
        have el : legEq (negL u) ⟨u.acct, IntKind.i64.wrap (0 - u.amt)⟩ = true := by
          rw [w64 (by omega) (by omega)]; simp [legEq, negL]
        refine br (fun q4 => ?_) (fun q4 => ?_)
        · exact absurd q4 (by rw [el]; simp)
        refine pass_rule _ (fun w h => load_rule tok h (v := .agg #[.int .u32 k.loan, .int .i32 k.day, .int .u8 k.kind, .int .u32 k.seq, .slice (some ⟨b1, o1, none⟩) n1 c1]) rfl ⟨rfl, rfl⟩) ?_
        refine pass_rule _ (fun w h => load_rule tok h (v := .int .u8 u.acct) rfl ⟨rfl, rfl⟩) ?_
        refine imp_rule (fun X wx h => call_rule h (fun M I _ h => of_ k (some ⟨b1, o1, none⟩) n1 c1 out u.acct _ M I h) fun _ w1 _ H1 => imp_done H1 ?_)
        refine pass_rule _ (fun w h => load_rule tok h (v := .int .i64 u.amt) rfl ⟨rfl, rfl⟩) ?_
        have e1 := ofV_mem (rightB_go hr1) u hum
        refine br (fun q5 => ?_) (fun q5 => ?_)
        · have q5 : (ofV u.acct out != u.amt) = true := q5
          exact absurd q5 (by rw [e1]; simp)
        refine pass_rule _ (fun w h => load_rule tok h (v := .agg #[.int .u32 k.loan, .int .i32 k.day, .int .u8 k.kind, .int .u32 k.seq, .slice (some ⟨b2, o2, none⟩) n2 c2]) rfl ⟨rfl, rfl⟩) ?_
        refine pass_rule _ (fun w h => load_rule tok h (v := .int .u8 u.acct) rfl ⟨rfl, rfl⟩) ?_
        refine imp_rule (fun X wx h => call_rule h (fun M I _ h => of_ k (some ⟨b2, o2, none⟩) n2 c2 (out.map negL) u.acct _ M I h) fun _ w1 _ H1 => imp_done H1 ?_)
        refine pass_rule _ (fun w h => load_rule tok h (v := .int .i64 u.amt) rfl ⟨rfl, rfl⟩) ?_
        have e2 : IntKind.i64.wrap (ofV u.acct (out.map negL) + u.amt) = 0 := by
          rw [ofV_neg, e1, w64 (by omega) (by omega)]; omega
        refine done_rule fun w12 H12 => ?_
        refine br (fun q6 => ?_) (fun q6 => ?_)
        · have q6 : (IntKind.i64.wrap (ofV u.acct (out.map negL) + u.amt) != 0) = true := q6
          exact absurd q6 (by rw [e2]; simp)
        refine Exists.intro (i2 + 1) (And.intro ⟨?_, trivial⟩ (And.intro ?_ ⟨?_, Hp.keep H12⟩))
        · show Value.int .i64 (IntKind.i64.wrap (i2 + 1)) = _
          rw [w64 (by omega) (by omega)]; rfl
        · omega
        · omega
      · refine load_rule tok H9 (v := .agg #[.int .u32 k.loan, .int .i32 k.day, .int .u8 k.kind, .int .u32 k.seq, .slice A1 n1 c1]) rfl ?_
        refine call_rule H9 (fun M I _ h => of_ k A1 n1 c1 out 0 _ M I h) fun _ w10 _ H10 => ?_
        have e0 : ofV 0 out = 0 := ofV_no fun y hy => by have := go_rise (rightB_go hr1) y hy; omega
        refine Exists.intro () (And.intro (congrArg Value.bool ?_) (And.intro trivial (Hp.keep H10)))
        exact decide_eq_true e0
end Go.Proofs.YtenpgmnknmnofaaDoor
