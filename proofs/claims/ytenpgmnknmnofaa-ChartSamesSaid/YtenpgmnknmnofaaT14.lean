/- Which entries may be, by the document: the walk. -/
import Derived.Test.YtenpgmnknmnofaaT13
namespace Go.Proofs.Ytenpgmnknmnofaa
open Go Go.Proofs Go.Wk
def rGo : List Leg → Option Int → Int → Bool
  | [], _, s => s == 0
  | l :: r, p, s => bif in64 (s + l.amt) then (bif decide (l.acct < 1) then false else bif decide (9 < l.acct) then false else bif (match p with
    | none => false
    | some a => decide (l.acct ≤ a)) then false else rGo r (some l.acct) (s + l.amt)) else false
def rightR (k : Key) (ls : List Leg) : Bool := bif decide (k.kind < 1) then false else bif decide (7 < k.kind) then false else bif decide (k.day < 0) then false else bif decide (3652058 < k.day) then false else
  bif decide ((ls.length : Int) < 1) then false else bif decide (8 < (ls.length : Int)) then false else rGo ls none 0
theorem rightRef (k : Key) (A : Option Addr) (n c : Nat) (ls : List Leg) (hn : n = ls.length) (w : World) (M I : BS) (H : Hp ⟨w, M, I⟩ [] [Sl legR (.slice A n c) ls] w) :
    Ctr Try.prog 15 [.agg #[.int .u32 k.loan, .int .i32 k.day, .int .u8 k.kind, .int .u32 k.seq, .slice A n c]] w M I (fun _ : Unit => .bool (rightR k ls)) (fun _ => True) (fun _ => []) (fun _ => []) := by
  subst hn
  obtain ⟨_, hc, hc2⟩ := H.sll (A := A) (n := ls.length) (c := c)
  refine Exe.of_ev tok Try.call15 Try.func15 rfl rfl rfl ?_
  refine box_as H (entC k A ls.length c) rfl fun b w1 H1 => ?_
  refine load_rule tok H1 rfl ?_
  refine brd (fun h => ?_) (fun h1 => ?_)
  · refine Exists.intro () (And.intro (congrArg Value.bool ?_) (And.intro trivial (Hp.keep H1)))
    rw [rightR, decide_eq_true h]; rfl
  refine load_rule tok H1 rfl ?_
  refine brd (fun h => ?_) (fun h2 => ?_)
  · refine Exists.intro () (And.intro (congrArg Value.bool ?_) (And.intro trivial (Hp.keep H1)))
    rw [rightR, decide_eq_false h1, decide_eq_true h]; rfl
  refine load_rule tok H1 rfl ?_
  refine brd (fun h => ?_) (fun h3 => ?_)
  · refine Exists.intro () (And.intro (congrArg Value.bool ?_) (And.intro trivial (Hp.keep H1)))
    rw [rightR, decide_eq_false h1, decide_eq_false h2, decide_eq_true h]; rfl
  refine load_rule tok H1 rfl ?_
  refine brd (fun h => ?_) (fun h4 => ?_)
  · refine Exists.intro () (And.intro (congrArg Value.bool ?_) (And.intro trivial (Hp.keep H1)))
    rw [rightR, decide_eq_false h1, decide_eq_false h2, decide_eq_false h3, decide_eq_true h]; rfl
  refine load_rule tok H1 (v := .slice A ls.length c) rfl ?_
  refine brd (fun h => ?_) (fun h5 => ?_)
  · refine Exists.intro () (And.intro (congrArg Value.bool ?_) (And.intro trivial (Hp.keep H1)))
    rw [rightR, decide_eq_false h1, decide_eq_false h2, decide_eq_false h3, decide_eq_false h4, decide_eq_true h]; rfl
  refine load_rule tok H1 (v := .slice A ls.length c) rfl ?_
  refine brd (fun h => ?_) (fun h6 => ?_)
  · refine Exists.intro () (And.intro (congrArg Value.bool ?_) (And.intro trivial (Hp.keep H1)))
    rw [rightR, decide_eq_false h1, decide_eq_false h2, decide_eq_false h3, decide_eq_false h4, decide_eq_false h5, decide_eq_true h]; rfl
  have hR : rightR k ls = rGo ls none 0 := by rw [rightR, decide_eq_false h1, decide_eq_false h2, decide_eq_false h3, decide_eq_false h4, decide_eq_false h5, decide_eq_false h6]; rfl
  rw [hR]
  have hpos : 0 < ls.length := by omega
  obtain ⟨b1, o1, hA⟩ := Hp.slAt (A := A) (n := ls.length) (c := c) (r := legR) (xs := ls) H1 hpos
  subst hA
  refine load_rule tok H1 (v := .slice (some ⟨b1, o1, none⟩) ls.length c) rfl ?_
  refine loop_rule tok (σ := Nat × Int) 154742504910637349990301948 (fun s => [(3, .int .i64 s.2), (45, .int .i64 s.1)])
    (fun s w' => s.1 ≤ ls.length ∧ inK .i64 s.2 ∧ (∃ p : Option Int, rGo ls none 0 = rGo (ls.drop s.1) p s.2 ∧ (s.1 = 0 → p = none) ∧ ∀ i', s.1 = i' + 1 → ∃ u, ls[i']? = some u ∧ p = some u.acct) ∧ Hp ⟨w, M, I⟩ [blk b (entC k (some ⟨b1, o1, none⟩) ls.length c) 36] [Sl legR (.slice (some ⟨b1, o1, none⟩) ls.length c) ls] w') (fun s => ls.length - s.1) (0, 0) rfl rfl ⟨rfl, rfl, trivial⟩
    ⟨Nat.zero_le _, ⟨by simp [kLo], by simp [kHi]⟩, ⟨none, rfl, fun _ => rfl, fun i' h => by cases h⟩, H1⟩ ?_
  rintro ⟨i, s⟩ j w2 ⟨hi, hs, ⟨p, hg, hp0, hp1⟩, H2⟩
  simp only at hi hs hg hp0 hp1 H2
  refine brd (fun h7 => ?_) (fun h7 => ?_)
  · have hil : i < ls.length := by omega
    refine Exists.elim (show ∃ x, ls[i]? = some x from ⟨_, List.getElem?_eq_getElem hil⟩) fun x hx => ?_
    have hd : ls.drop i = x :: ls.drop (i + 1) := by
      rw [List.drop_eq_getElem_cons hil]
      rw [List.getElem?_eq_getElem hil] at hx
      rw [Option.some.inj hx]
    have hok := legs_ok H (A := some ⟨b1, o1, none⟩) (n := ls.length) (c := c) x (List.mem_of_getElem? hx)
    have i1 : (0 : Int) ≤ (i : Int) := by omega
    have i2 : (i : Int) < ls.length := h7
    refine idx_own tok rfl rfl i1 i2 ?_
    refine sl_ld (o := o1) (n := ls.length) (c := c) (j := i) (f := 0) (r := legR) (xs := ls) (x := x) tok H2 (legV x) hx rfl (fun _ _ => rfl) ?_
    refine alloc_rule tok H2 rfl rfl fun lb w3 H3 => ?_
    refine store_as tok H3 [.int .u8 x.acct, .int .i64 x.amt] rfl rfl rfl rfl rfl fun w4 H4 => ?_
    refine load_rule tok H4 rfl ?_
    have hprev : 0 < i → ∃ u, ls[(IntKind.i64.wrap ((i : Int) - 1)).toNat]? = some u ∧ p = some u.acct := fun h => by
      obtain ⟨u, h1, h2⟩ := hp1 (i - 1) (by omega)
      refine ⟨u, ?_, h2⟩
      rw [w64 (by omega) (by omega), show ((i : Int) - 1).toNat = i - 1 by omega]
      exact h1
    have nxt : Value.int .i64 (IntKind.i64.wrap (i + 1)) = .int .i64 ((i + 1 : Nat) : Int) := by rw [w64 (by omega) (by omega)]; rfl
    have hpz : ¬ (0 : Int) < (i : Int) → p = none := fun h => hp0 (by omega)
    have j1 : (0 : Int) < (i : Int) → (0 : Int) ≤ IntKind.i64.wrap ((i : Int) - 1) := fun h => by rw [w64 (by omega) (by omega)]; omega
    have j2 : (0 : Int) < (i : Int) → IntKind.i64.wrap ((i : Int) - 1) < ls.length := fun h => by rw [w64 (by omega) (by omega)]; omega
    refine Or.elim (show in64 (s + x.amt) = true ∨ in64 (s + x.amt) = false by cases in64 (s + x.amt) <;> simp) (fun en => ?_) (fun en => ?_)
    · refine call_rule H4 (fun M I _ h => (addR_ok en).symm ▸ addRef _ _ hs hok.2 _ M I h) fun _ w5 _ H5 => ?_
      refine draw_rule (A := []) tok tdr H5 [0, 1, 2, 3, 4, 5, 6, 7, 8, 9, 10, 11, 12, 13, 14, 15, 16, 17, 18, 19, 20, 21, 22, 23, 24, 25, 26, 27] [0, 1, 3, 7, 15, 31, 63, 127, 255, 511, 1023, 2047, 4095, 8191, 16383, 32767, 65535, 131071, 65535, 327679, 65535, 1114111, 3997695, 8191999, 16580607, 33554431, 67108863, 134217727] rfl ?_
      refine pass_rule _ (fun w h => load_rule tok h (v := .int .u8 x.acct) rfl ⟨rfl, rfl⟩) ?_
      refine brd (fun g1 => ?_) (fun g1 => ?_)
      · refine done_rule fun w6 H6 => ?_
        refine Exists.intro () (And.intro (congrArg Value.bool ?_) (And.intro trivial (Hp.keep H6)))
        have e : rGo ls none 0 = false := by rw [hg, hd]; simp only [rGo, en, decide_eq_true g1, cond_true]
        rw [e]
      refine pass_rule _ (fun w h => load_rule tok h (v := .int .u8 x.acct) rfl ⟨rfl, rfl⟩) ?_
      refine brd (fun g2 => ?_) (fun g2 => ?_)
      · refine done_rule fun w6 H6 => ?_
        refine Exists.intro () (And.intro (congrArg Value.bool ?_) (And.intro trivial (Hp.keep H6)))
        have e : rGo ls none 0 = false := by rw [hg, hd]; simp only [rGo, en, decide_eq_false g1, decide_eq_true g2, cond_true, cond_false]
        rw [e]
      have en' : -9223372036854775808 ≤ s + x.amt ∧ s + x.amt ≤ 9223372036854775807 := by
        simp only [in64, Bool.and_eq_true, decide_eq_true_eq] at en
        exact en
      have on : ∀ w6, (match p with | none => false | some a => decide (x.acct ≤ a)) = false → Hp ⟨w, M, I⟩ [blk b (entC k (some ⟨b1, o1, none⟩) ls.length c) 36] [Sl legR (.slice (some ⟨b1, o1, none⟩) ls.length c) ls] w6 → (i + 1 ≤ ls.length ∧ inK .i64 (s + x.amt) ∧ (∃ p : Option Int, rGo ls none 0 = rGo (ls.drop (i + 1)) p (s + x.amt) ∧ (i + 1 = 0 → p = none) ∧ ∀ i', i + 1 = i' + 1 → ∃ u, ls[i']? = some u ∧ p = some u.acct) ∧ Hp ⟨w, M, I⟩ [blk b (entC k (some ⟨b1, o1, none⟩) ls.length c) 36] [Sl legR (.slice (some ⟨b1, o1, none⟩) ls.length c) ls] w6) := fun w6 hm h6 =>
        ⟨by omega, ⟨en'.1, en'.2⟩, ⟨some x.acct, by rw [hg, hd]; simp only [rGo, en, decide_eq_false g1, decide_eq_false g2, hm, cond_true, cond_false], fun h => by omega, fun i' h => ⟨x, by rw [← Nat.succ.inj h]; exact hx, rfl⟩⟩, h6⟩
      refine brd (fun g3 => ?_) (fun g3 => ?_)
      · refine Exists.elim (hprev (by omega)) fun u hu => ?_
        refine pass_rule _ (fun w h => load_rule tok h (v := .int .u8 x.acct) rfl ⟨rfl, rfl⟩) ?_
        refine pass_rule _ (fun w h => load_rule tok h (v := .slice (some ⟨b1, o1, none⟩) ls.length c) rfl ⟨rfl, rfl⟩) ?_
        refine pass_rule _ (fun w h => idx_own tok rfl rfl (j1 g3) (j2 g3) ⟨rfl, rfl⟩) ?_
        refine pass_rule _ (fun w h => sl_ld (o := o1) (n := ls.length) (c := c) (j := (IntKind.i64.wrap ((i : Int) - 1)).toNat) (f := 0) (r := legR) (xs := ls) (x := u) tok h (.int .u8 u.acct) hu.1 rfl (fun _ _ => rfl) ⟨rfl, rfl⟩) ?_
        refine done_rule fun w6 H6 => ?_
        refine brd (fun g4 => ?_) (fun g4 => ?_)
        · refine Exists.intro () (And.intro (congrArg Value.bool ?_) (And.intro trivial (Hp.keep H6)))
          have e : rGo ls none 0 = false := by rw [hg, hd, hu.2]; simp only [rGo, en, decide_eq_false g1, decide_eq_false g2, decide_eq_true g4, cond_true, cond_false]
          rw [e]
        · refine Exists.intro (i + 1, s + x.amt) (And.intro ⟨rfl, nxt, trivial⟩ (And.intro ?_ (on w6 ?_ (Hp.keep H6))))
          · simp only; omega
          · rw [hu.2]; exact decide_eq_false g4
      · refine done_rule fun w6 H6 => ?_
        refine Exists.intro (i + 1, s + x.amt) (And.intro ⟨rfl, nxt, trivial⟩ (And.intro ?_ (on w6 ?_ (Hp.keep H6))))
        · simp only; omega
        · rw [hpz g3]
    · refine call_rule H4 (fun M I _ h => (addR_no en).symm ▸ addRef _ _ hs hok.2 _ M I h) fun _ w5 _ H5 => ?_
      refine draw_rule (A := []) tok tdr H5 [0, 1, 2, 3, 4, 5, 6, 7, 8, 9, 10, 11, 12, 13, 14, 15, 16, 17, 18, 19, 20, 21, 22, 23, 24, 25, 26, 27] [0, 1, 3, 7, 15, 31, 63, 127, 255, 511, 1023, 2047, 4095, 8191, 16383, 32767, 65535, 131071, 65535, 327679, 65535, 1114111, 3997695, 8191999, 16580607, 33554431, 67108863, 134217727] rfl ?_
      refine done_rule fun w6 H6 => ?_
      refine Exists.intro () (And.intro (congrArg Value.bool ?_) (And.intro trivial (Hp.keep H6)))
      have e : rGo ls none 0 = false := by rw [hg, hd]; simp only [rGo, en, cond_false]
      rw [e]
  · refine Exists.intro () (And.intro (congrArg Value.bool ?_) (And.intro trivial (Hp.keep H2)))
    rw [hg, List.drop_eq_nil_of_le (by omega)]; rfl
end Go.Proofs.Ytenpgmnknmnofaa
