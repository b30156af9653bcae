/- A block that is owned and lent for a call; copies that are owned; what is new of a ledger: the walks. Printed by genb20.py. -/
import Derived.Test.YtfemfomgmopibaaGreatDoorB19
set_option linter.unusedVariables false
namespace Go.Proofs.YtfemfomgmopibaaGreatDoor
open Go Go.Proofs Go.Wk
/-- A call to which something owned is lent: it is known while the call lasts, and owned again behind it. -/
theorem lend_rule {P : Program} {K : Value → World → Prop} {w : World} {B : Base} {S S1 S' : List Asn} {F : List Fact} {g : Nat} {args : List Value} {α : Type} {V : α → Value} {φ : α → Prop} {A : α → List Asn} {G N : α → List Fact} {A0 : List Asn} {G0 : List Fact} {R : α → List Asn} (D : Asn)
    (H : Hp B S F w) [hd : Take S D S1] (h : ∀ M I, (A0 = [] → ∀ b, ¬ M b) → Hp ⟨w, M, I⟩ A0 G0 w → Ctr P g args w M I V φ A G) [hp : Pick S1 A0 S']
    (hG : ∀ (I fd : BS), D.at_ w fd → (∀ b, fd b → I b) → All F w I → All G0 w I)
    (hN : ∀ a w' (I' fd : BS), φ a → (∀ b, fd b → b < w.heap.size) → All (G a) w' I' → All F w' (fun b => I' b ∧ ¬ fd b) → All (N a) w' (fun b => I' b ∧ ¬ fd b))
    [hr : ∀ a, AppL (A a) (D :: S') (R a)]
    (k : ∀ a w', φ a → Hp B (R a) (N a) w' → K (V a) w') : CallK P K w (.func (.func g) #[] #[]) args := by
  have H1 := (H.perm hd.perm).perm (hp.perm.cons D)
  obtain ⟨h1, h2, h3, h4, h5, I, fp, ⟨fd, fs, hD, hi, hdj, hu, hs⟩, ha, r1, r2, r3, r4, r5⟩ := H1
  obtain ⟨f1, f2, s1, s2, hd2, hu2⟩ := hs.split
  have hfd : ∀ b, fd b → b < w.heap.size := fun b hb => D.lt hD hb
  have hc : Hp ⟨w, f1, fun b => I b ∨ fd b⟩ A0 G0 w := by
    refine ⟨rfl, rfl, rfl, Nat.le_refl _, fun _ _ _ => rfl, fun b => I b ∨ fd b, f1, s1.keep (fun _ _ => rfl) ?_, ?_, fun b hb => .inl hb, fun b hb => hb, ?_, fun b hb => .inl hb, ?_⟩
    · rintro b hb (h | h)
      · exact s1.off b hb h
      · exact hdj b h ((hu2 b).2 (.inl hb))
    · exact hG _ fd hD (fun b hb => .inr hb) fun f hf => f.mono (ha f hf) (fun b hb => .inl hb) fun _ _ => rfl
    · rintro b (h | h)
      · exact r3 b h
      · exact hfd b h
    · rintro b hb (h | h)
      · exact s1.off b hb h
      · exact hdj b h ((hu2 b).2 (.inl hb))
  refine CallK_fn ((h f1 _ (fun e => by subst e; exact s1) hc).mono ?_)
  rintro v w' ⟨a, rfl, hφ, k1, k2, k3, k4, k5, I', f', s', ha', q1, q2, q3, q4, q5⟩
  have hf2 : ∀ b, f2 b → w'.heap[b]? = w.heap[b]? := fun b hb => k5 b (s2.lt b hb) fun h => hd2 b h hb
  have hfD : ∀ b, fd b → w'.heap[b]? = w.heap[b]? := fun b hb => k5 b (hfd b hb) fun h => hdj b hb ((hu2 b).2 (.inl h))
  have hI : ∀ b, I b → w'.heap[b]? = w.heap[b]? := fun b hb => k5 b (r3 b hb) fun h => s1.off b h hb
  have hII : ∀ b, I b → I' b ∧ ¬ fd b := fun b hb => ⟨q2 b (.inl hb), fun h => hi b h hb⟩
  refine k a w' hφ ?_
  rw [(hr a).eq]
  have hF' : All F w' (fun b => I' b ∧ ¬ fd b) := fun f hf => f.mono (ha f hf) hII hI
  refine ⟨k1.trans h1, k2.trans h2, k3.trans h3, Nat.le_trans h4 k4, fun b hb hM => ?_, fun b => I' b ∧ ¬ fd b, fun b => f' b ∨ (fd b ∨ f2 b), Sep.app (s'.keep (fun _ _ => rfl) ?_) ⟨fd, f2, D.loc hD hfD, fun b hb h => h.2 hb, fun b hb h => hdj b hb ((hu2 b).2 (.inr h)), fun b => Iff.rfl, s2.keep hf2 ?_⟩ ?_, hN a w' I' fd hφ hfd ha' hF', ?_, fun b hb => hII b (r2 b hb), fun b hb => q3 b hb.1, ?_, ?_⟩
  · rw [← h5 b hb hM]
    refine k5 b (Nat.lt_of_lt_of_le hb h4) fun h => ?_
    rcases r4 b ((hu b).2 (.inr ((hu2 b).2 (.inl h)))) with h' | h'
    · exact hM h'
    · omega
  · exact fun b hb h => q5 b hb h.1
  · intro b hb h
    rcases q1 b h.1 with h' | h'
    · rcases h' with h' | h'
      · exact s2.off b hb h'
      · exact h.2 h'
    · have := s2.lt b hb; simp only at h'; omega
  · intro b hb h
    have hlt : b < w.heap.size := by
      rcases h with h | h
      · exact hfd b h
      · exact s2.lt b h
    rcases q4 b hb with h' | h'
    · rcases h with h | h
      · exact hdj b h ((hu2 b).2 (.inl h'))
      · exact hd2 b h' h
    · simp only at h'; omega
  · intro b hb
    rcases q1 b hb.1 with h | h
    · rcases h with h | h
      · exact r1 b h
      · exact absurd h hb.2
    · exact .inr (Nat.le_trans h4 h)
  · rintro b (hb | hb | hb)
    · rcases q4 b hb with h | h
      · exact r4 b ((hu b).2 (.inr ((hu2 b).2 (.inl h))))
      · exact .inr (Nat.le_trans h4 h)
    · exact r4 b ((hu b).2 (.inl hb))
    · exact r4 b ((hu b).2 (.inr ((hu2 b).2 (.inr hb))))
  · rintro b (hb | hb | hb) h
    · exact q5 b hb h.1
    · exact h.2 hb
    · rcases q1 b h.1 with h' | h'
      · rcases h' with h' | h'
        · exact s2.off b hb h'
        · exact h.2 h'
      · have := s2.lt b hb; simp only at h'; omega
/-! Legs that are owned. -/
@[reducible] def legC (x : Leg) : List Value := [.int .u8 x.acct, .int .i64 x.amt]
theorem clLegs : ∀ (ls : List Leg) (cs : List Value), cs.length = ls.length * 2 → (∀ (i : Nat) x, ls[i]? = some x → (cs.drop (i * 2)).take 2 = legC x) → cs = legsC ls
  | [], cs, h, _ => List.length_eq_zero_iff.1 h
  | x :: r, cs, h, h2 => by
    have h0 := h2 0 x rfl
    rw [Nat.zero_mul, List.drop_zero] at h0
    have h1 := clLegs r (cs.drop 2) (by rw [List.length_drop, h, List.length_cons]; omega) fun i y hy => by
      rw [List.drop_drop, show 2 + i * 2 = (i + 1) * 2 by omega]
      exact h2 (i + 1) y hy
    exact (List.take_append_drop 2 cs).symm.trans (by rw [h0, h1]; rfl)
theorem hpClLegs {B : Base} {S : List Asn} {F : List Fact} {w : World} (H : Hp B S F w) {cs : List Value} {ls : List Leg} [hc : InF F (Cl legR cs ls)] : cs = legsC ls := by
  obtain ⟨I, fp, _, ha, _⟩ := H.ex
  obtain ⟨h1, h2⟩ := ha _ hc.mem
  exact clLegs ls cs h1 fun i x hx => by
    obtain ⟨p, _, q, _⟩ := h2 i x hx
    exact q
/-- A row that is owned where nothing was handed over is new. -/
theorem rowNew {B : Base} {S S' : List Asn} {F : List Fact} {w : World} {A : Option Addr} {n c e sz : Nat} {cs : List Value} (H : Hp B S F w) [hp : TakeR S (.slice A n c) e sz n cs S'] (hM : ∀ b, ¬ B.M b) : ∀ b o q, A = some ⟨b, o, q⟩ → B.w.heap.size ≤ b := by
  intro b o q hA
  obtain ⟨_, _, _, _, _, I, fp, ⟨fa, fs, ha, hi, hdj, hu, hs⟩, _, r1, r2, r3, r4, r5⟩ := H.perm hp.perm
  subst hA
  have hb : fa b := (ha.2 b).2 (by
    rcases ha.1.2 with h | ⟨g, cap, cur, e1, _⟩
    · cases h.1
    · injection e1 with e1 e2 e3
      injection e1 with e1
      injection e1 with e1 e2 e3
      subst e1 e2 e3
      simp [Value.ownBlock])
  exact (r4 b ((hu b).2 (.inl hb))).resolve_left (hM b)
theorem cloneLegsO (b0 o0 n c : Nat) (ls : List Leg) (hn : ls.length ≤ 1000000) (h1 : 1 ≤ ls.length) (w : World) (M I : BS) (H : Hp ⟨w, M, I⟩ [] [Sl legR (.slice (some ⟨b0, o0, none⟩) n c) ls] w) :
    Ctr Tryz.prog 66 [.slice (some ⟨b0, o0, none⟩) n c] w M I (fun a : Nat × Nat => .slice (some ⟨a.1, 0, none⟩) n a.2) (fun _ => True) (fun a => [row 43 2 (.slice (some ⟨a.1, 0, none⟩) n a.2) n (legsC ls)]) (fun _ => []) := by
  obtain ⟨hl, _, _⟩ := H.sll (A := some ⟨b0, o0, none⟩) (n := n) (c := c)
  refine Exe.of_ev tok Tryz.call66 Tryz.func66 rfl rfl rfl ?_
  refine slice_as tok H [] rfl rfl rfl rfl rfl rfl fun g w1 H1 => ?_
  have H2 : Hp ⟨w, M, I⟩ [row 43 2 (.slice (some ⟨g, 0, none⟩) 0 0) 0 []] [Sl legR (.slice (some ⟨b0, o0, none⟩) n c) ls] w1 := H1.toRow 2 0 rfl (by decide)
  refine append_sl (v := .slice (some ⟨g, 0, none⟩) 0 0) (A := some ⟨b0, o0, none⟩) (m := n) (c := c) tok H2 rfl rfl rfl rfl rfl rfl rfl (fun x _ _ => legs_one x) (by show (0 + n) * 16 ≤ _; omega) (by omega) fun A2 c2 news w4 H4 => ?_
  have H4' : Hp ⟨w, M, I⟩ [row 43 2 (.slice A2 (0 + n) c2) (0 + n) news] [Cl legR news ls, Sl legR (.slice (some ⟨b0, o0, none⟩) n c) ls] w4 := H4
  have hcs := hpClLegs H4' (cs := news) (ls := ls)
  obtain ⟨b2, hb2⟩ := H4'.rowSome (A := A2) (n := 0 + n) (c := c2) (by omega)
  rw [Nat.zero_add, hb2, hcs] at H4'
  exact Exists.intro (b2, c2) (And.intro (by show Value.slice A2 (0 + n) c2 = _; rw [Nat.zero_add, hb2]) (And.intro trivial (Hp.keep H4')))
theorem copiedO (k : Key) (b0 o0 n c : Nat) (ls : List Leg) (hn : ls.length ≤ 1000000) (h1 : 1 ≤ ls.length) (w : World) (M I : BS) (H : Hp ⟨w, M, I⟩ [] [Sl legR (.slice (some ⟨b0, o0, none⟩) n c) ls] w) :
    Ctr Tryz.prog 43 [.agg #[.int .u32 k.loan, .int .i32 k.day, .int .u8 k.kind, .int .u32 k.seq, .slice (some ⟨b0, o0, none⟩) n c]] w M I (fun a : Nat × Nat => .agg #[.int .u32 k.loan, .int .i32 k.day, .int .u8 k.kind, .int .u32 k.seq, .slice (some ⟨a.1, 0, none⟩) n a.2]) (fun _ => True) (fun a => [row 43 2 (.slice (some ⟨a.1, 0, none⟩) n a.2) n (legsC ls)]) (fun _ => []) := by
  refine Exe.of_ev tok Tryz.call43 Tryz.func43 rfl rfl rfl ?_
  refine box_as H (entC k (some ⟨b0, o0, none⟩) n c) rfl fun x w1 H1 => ?_
  refine alloc_as tok H1 zeroC rfl rfl rfl fun r w2 H2 => ?_
  refine load_rule tok H2 (v := .slice (some ⟨b0, o0, none⟩) n c) rfl ?_
  refine call_rule H2 (fun M I _ h => cloneLegsO b0 o0 n c ls hn h1 _ M I h) fun a w3 _ H3 => ?_
  refine store_as tok H3 (entC k (some ⟨a.1, 0, none⟩) n a.2) rfl rfl rfl rfl rfl fun w4 H4 => ?_
  refine load_rule tok H4 (v := .agg #[.int .u32 k.loan, .int .i32 k.day, .int .u8 k.kind, .int .u32 k.seq, .slice (some ⟨a.1, 0, none⟩) n a.2]) rfl ?_
  refine store_as tok H4 (entC k (some ⟨a.1, 0, none⟩) n a.2) rfl rfl rfl rfl rfl fun w5 H5 => ?_
  refine Exists.intro ⟨r, 0, none⟩ (Exists.intro (.agg #[.int .u32 k.loan, .int .i32 k.day, .int .u8 k.kind, .int .u32 k.seq, .slice (some ⟨a.1, 0, none⟩) n a.2]) (And.intro rfl (And.intro (Hp.ld (T := tb) tok H5 rfl) ?_)))
  exact Exists.intro a (And.intro rfl (And.intro trivial (Hp.keep H5)))
set_option maxRecDepth 20000 in
theorem lineO (l m1 m2 : Nat) (s : SV) (xs : List Ln) (hx : xs.length ≤ 100000) (hsn : s.n = xs.length) (i : Nat) (x : Ln) (b0 o0 n0 c0 : Nat) (hxs : x.s = ⟨some ⟨b0, o0, none⟩, n0, c0⟩) (hi : xs[i]? = some x) (hl : x.ls.length ≤ 1000) (hl1 : 1 ≤ x.ls.length) (w : World) (M I : BS) (H : Hp ⟨w, M, I⟩ [blk l [.slice s.A s.n s.c, .map (some m1), .map (some m2)] 85, row 69 6 (.slice s.A s.n s.c) s.n (lnsC xs)] [LnF xs] w) :
    Ctr Tryz.prog 21 [.pointer (some ⟨l, 0, none⟩), .int .i64 (i : Int)] w M I (fun a : Nat × Nat => .tuple #[.agg #[.int .u32 x.k.loan, .int .i32 x.k.day, .int .u8 x.k.kind, .int .u32 x.k.seq, .slice (some ⟨a.1, 0, none⟩) n0 a.2, .int .i64 x.of], .bool true]) (fun _ => True) (fun a => [row 43 2 (.slice (some ⟨a.1, 0, none⟩) n0 a.2) n0 (legsC x.ls), blk l [.slice s.A s.n s.c, .map (some m1), .map (some m2)] 85, row 69 6 (.slice s.A s.n s.c) s.n (lnsC xs)]) (fun _ => []) := by
  obtain ⟨hil, _⟩ := List.getElem?_eq_some_iff.1 hi
  obtain ⟨A, n, c⟩ := s
  simp only at hsn H ⊢
  obtain ⟨b, rfl⟩ := H.rowSome (A := A) (n := n) (c := c) (by omega)
  have H' := Hp.lnAt H (xs := xs) (List.mem_of_getElem? hi)
  obtain ⟨k, sx, ofx, lsx⟩ := x
  simp only at hxs
  subst hxs
  simp only at hl hl1 H' ⊢
  have i0 : (0 : Int) ≤ (i : Int) := by omega
  have i1 : (i : Int) < n := by omega
  refine Exe.of_ev tok Tryz.call21 Tryz.func21 rfl rfl rfl ?_
  refine alloc_as tok H' [.int .u32 0, .int .i32 0, .int .u8 0, .int .u32 0, .slice none 0 0, .int .i64 0] rfl rfl rfl fun r w1 H1 => ?_
  refine call_rule H1 (fun M I _ h => len__ l m1 m2 ⟨some ⟨b, 0, none⟩, n, c⟩ _ M I h) fun _ w2 _ H2 => ?_
  refine br (fun q => ?_) (fun q => ?_)
  · exfalso; have q : decide ((n : Int) ≤ (i : Int)) = true := q; simp at q; omega
  have H3 : Hp ⟨w, M, I⟩ [blk l [.slice (some ⟨b, 0, none⟩) n c, .map (some m1), .map (some m2)] 85, blk r [.int .u32 0, .int .i32 0, .int .u8 0, .int .u32 0, .slice none 0 0, .int .i64 0] 69, row 69 6 (.slice (some ⟨b, 0, none⟩) n c) n (lnsC xs)] [Sl legR (.slice (some ⟨b0, o0, none⟩) n0 c0) lsx, LnF xs] w2 := H2
  refine draw_rule (A := [blk r [.int .u32 0, .int .i32 0, .int .u8 0, .int .u32 0, .slice none 0 0, .int .i64 0] 69]) tok tdr H3 [0, 1, 2, 3, 4, 5, 6, 7, 8, 9, 10, 11, 12, 13, 14, 15, 16, 17, 18, 19] [0, 1, 3, 7, 0, 31, 63, 127, 255, 0, 512, 1536, 3584, 0, 15872, 32256, 65024, 131071, 262143, 524287] rfl ?_
  refine pass_rule _ (fun w h => load_rule tok h (v := .slice (some ⟨b, 0, none⟩) n c) rfl ⟨rfl, rfl⟩) ?_
  refine pass_rule _ (fun w h => idx_own tok rfl rfl i0 i1 ⟨rfl, rfl⟩) ?_
  refine pass_rule _ (fun w h => row_ld (n := n) (c := c) tok h (v := .agg #[.int .u32 k.loan, .int .i32 k.day, .int .u8 k.kind, .int .u32 k.seq, .slice (some ⟨b0, o0, none⟩) n0 c0]) (lns_get hi) ⟨rfl, rfl⟩) ?_
  refine imp_rule (fun X wx h => call_rule h (fun M I _ h => copiedO k b0 o0 n0 c0 lsx (by omega) hl1 _ M I h) fun sv w1 _ H1 => imp_done H1 ?_)
  refine pass_rule _ (fun w h => load_rule tok h (v := .slice (some ⟨b, 0, none⟩) n c) rfl ⟨rfl, rfl⟩) ?_
  refine pass_rule _ (fun w h => idx_own tok rfl rfl i0 i1 ⟨rfl, rfl⟩) ?_
  refine pass_rule _ (fun w h => row_ld (n := n) (c := c) tok h (v := .int .i64 ofx) (lns_of hi) ⟨rfl, rfl⟩) ?_
  refine imp_rule (fun X wx h => store_as tok h [.int .u32 k.loan, .int .i32 k.day, .int .u8 k.kind, .int .u32 k.seq, .slice (some ⟨sv.1, 0, none⟩) n0 sv.2, .int .i64 ofx] rfl rfl rfl rfl rfl fun w1 H1 => imp_done H1 ?_)
  refine done_rule fun w5 H5 => ?_
  refine Exists.intro ⟨r, 0, none⟩ (Exists.intro (.agg #[.int .u32 k.loan, .int .i32 k.day, .int .u8 k.kind, .int .u32 k.seq, .slice (some ⟨sv.1, 0, none⟩) n0 sv.2, .int .i64 ofx]) (And.intro rfl (And.intro (Hp.ld (T := tb) tok H5 rfl) ?_)))
  exact Exists.intro sv (And.intro rfl (And.intro trivial (Hp.keep H5)))
set_option maxRecDepth 20000 in
theorem liveO (l m1 m2 : Nat) (s : SV) (d : Led) (hx : d.lns.length ≤ 100000) (hsn : s.n = d.lns.length) (kk : Key) (i : Nat) (x : Ln) (b0 o0 n0 c0 : Nat) (hxs : x.s = ⟨some ⟨b0, o0, none⟩, n0, c0⟩) (hlk : lk kk d.live = some (i : Int)) (hi : d.lns[i]? = some x) (hl : x.ls.length ≤ 1000) (hl1 : 1 ≤ x.ls.length) (w : World) (M I : BS)
    (H : Hp ⟨w, M, I⟩ [blk l [.slice s.A s.n s.c, .map (some m1), .map (some m2)] 85, row 69 6 (.slice s.A s.n s.c) s.n (lnsC d.lns), mapO m1 keyV iV d.live] [LnF d.lns] w) :
    Ctr Tryz.prog 23 [.pointer (some ⟨l, 0, none⟩), keyV kk] w M I (fun a : Nat × Nat => .tuple #[.agg #[.int .u32 x.k.loan, .int .i32 x.k.day, .int .u8 x.k.kind, .int .u32 x.k.seq, .slice (some ⟨a.1, 0, none⟩) n0 a.2], .bool true]) (fun _ => True)
      (fun a => [row 43 2 (.slice (some ⟨a.1, 0, none⟩) n0 a.2) n0 (legsC x.ls), blk l [.slice s.A s.n s.c, .map (some m1), .map (some m2)] 85, row 69 6 (.slice s.A s.n s.c) s.n (lnsC d.lns), mapO m1 keyV iV d.live]) (fun _ => []) := by
  obtain ⟨hil, _⟩ := List.getElem?_eq_some_iff.1 hi
  obtain ⟨A, n, c⟩ := s
  simp only at hsn H ⊢
  obtain ⟨b, rfl⟩ := H.rowSome (A := A) (n := n) (c := c) (by omega)
  have H' := Hp.lnAt H (xs := d.lns) (List.mem_of_getElem? hi)
  obtain ⟨k, sx, ofx, lsx⟩ := x
  simp only at hxs
  subst hxs
  simp only at hl hl1 H' ⊢
  have i0 : (0 : Int) ≤ (i : Int) := by omega
  have i1 : (i : Int) < n := by omega
  refine Exe.of_ev tok Tryz.call23 Tryz.func23 rfl rfl rfl ?_
  refine box_as H' (keyC kk) rfl fun p w1 H1 => ?_
  refine alloc_as tok H1 zeroC rfl rfl rfl fun r w2 H2 => ?_
  refine draw_rule (A := []) tok tdr H2 [0, 1, 2, 3, 4, 5, 6, 7, 8, 9, 10] [0, 1, 3, 7, 0, 31, 63, 127, 127, 255, 1023] rfl ?_
  refine pass_rule _ (fun w h => load_rule tok h (v := .map (some m1)) rfl ⟨rfl, rfl⟩) ?_
  refine pass_rule _ (fun w h => load_rule tok h (v := keyV kk) rfl ⟨rfl, rfl⟩) ?_
  refine pass_rule (.tuple #[.int .i64 (i : Int), .bool true]) (fun w h => lookup_ok_rule (n := m1) tok h rfl rfl rfl keyKeys rfl (by rw [hlk]; rfl) ⟨rfl, rfl⟩) ?_
  refine done_rule fun w3 H3 => ?_
  refine load_rule tok H3 (v := .slice (some ⟨b, 0, none⟩) n c) rfl ?_
  refine idx_own tok rfl rfl i0 i1 ?_
  refine row_ld (n := n) (c := c) tok H3 (v := .agg #[.int .u32 k.loan, .int .i32 k.day, .int .u8 k.kind, .int .u32 k.seq, .slice (some ⟨b0, o0, none⟩) n0 c0]) (lns_get hi) ?_
  refine call_rule H3 (fun M I _ h => copiedO k b0 o0 n0 c0 lsx (by omega) hl1 _ M I h) fun sv w4 _ H4 => ?_
  refine store_as tok H4 (entC k (some ⟨sv.1, 0, none⟩) n0 sv.2) rfl rfl rfl rfl rfl fun w5 H5 => ?_
  refine Exists.intro ⟨r, 0, none⟩ (Exists.intro (.agg #[.int .u32 k.loan, .int .i32 k.day, .int .u8 k.kind, .int .u32 k.seq, .slice (some ⟨sv.1, 0, none⟩) n0 sv.2]) (And.intro rfl (And.intro (Hp.ld (T := tb) tok H5 rfl) ?_)))
  exact Exists.intro sv (And.intro rfl (And.intro trivial (Hp.keep H5)))
/-! What is new of a ledger's lines. -/
def Fr (n : Nat) (s : SV) : Prop := ∀ b o q, s.A = some ⟨b, o, q⟩ → n ≤ b
def FrL (n : Nat) (d d' : Led) : Prop := ∀ x, x ∈ d'.lns → x ∈ d.lns ∨ Fr n x.s
theorem FrL.refl {n : Nat} {d : Led} : FrL n d d := fun _ h => .inl h
theorem cloneLegsF (A : Option Addr) (n c : Nat) (ls : List Leg) (hn : ls.length ≤ 1000000) (w : World) (M I : BS) (hM : ∀ b, ¬ M b) (H : Hp ⟨w, M, I⟩ [] [Sl legR (.slice A n c) ls] w) :
    Ctr Tryz.prog 66 [.slice A n c] w M I (fun a : SV => .slice a.A a.n a.c) (fun a => Fr w.heap.size a) (fun _ => []) (fun a => [Sl legR (.slice a.A a.n a.c) ls]) := by
  obtain ⟨hl, _, _⟩ := H.sll (A := A) (n := n) (c := c)
  cases A with
  | none =>
    have h0 : n = 0 ∧ c = 0 := by
      obtain ⟨I', _, _, ha, _⟩ := H.ex
      obtain ⟨A', c', e1, _, q2, q3, _⟩ := ha _ List.mem_cons_self
      injection e1 with e1 e2 e3
      have := q3 e1.symm
      omega
    obtain ⟨rfl, rfl⟩ := h0
    refine Exe.of_ev tok Tryz.call66 Tryz.func66 rfl rfl rfl ?_
    exact Exists.intro ⟨none, 0, 0⟩ (And.intro rfl (And.intro (fun b o q h => by cases h) (Hp.keep H)))
  | some ad =>
    refine Exe.of_ev tok Tryz.call66 Tryz.func66 rfl rfl rfl ?_
    refine slice_as tok H [] rfl rfl rfl rfl rfl rfl fun g w1 H1 => ?_
    have H2 : Hp ⟨w, M, I⟩ [row 43 2 (.slice (some ⟨g, 0, none⟩) 0 0) 0 []] [Sl legR (.slice (some ad) n c) ls] w1 := H1.toRow 2 0 rfl (by decide)
    refine append_sl (v := .slice (some ⟨g, 0, none⟩) 0 0) (A := some ad) (m := n) (c := c) tok H2 rfl rfl rfl rfl rfl rfl rfl (fun x _ _ => legs_one x) (by show (0 + n) * 16 ≤ _; omega) (by omega) fun A2 c2 news w4 H4 => ?_
    have H4' : Hp ⟨w, M, I⟩ [row 43 2 (.slice A2 (0 + n) c2) (0 + n) news] [Cl legR news ls, Sl legR (.slice (some ad) n c) ls] w4 := H4
    have hnew := rowNew H4' (A := A2) (n := 0 + n) (c := c2) hM
    have H5 := H4'.frzRow (v := .slice A2 (0 + n) c2) (xs := ls) legR hM rfl (by decide)
    exact Exists.intro ⟨A2, 0 + n, c2⟩ (And.intro rfl (And.intro hnew (Hp.keep H5)))
set_option maxRecDepth 20000 in
set_option maxHeartbeats 2000000 in
theorem addF_ (l m1 m2 : Nat) (s : SV) (d : Led) (hd : d.lns.length ≤ 100000) (hsn : s.n = d.lns.length) (hs : ∀ p, inK .i64 (getS d.sums p)) (k : Key) (hk : keyIn k) (A : Option Addr) (n c : Nat) (ls : List Leg) (hls : ls.length ≤ 1000) (of : Int) (w : World) (M I : BS)
    (H : Hp ⟨w, M, I⟩ (ledA l m1 m2 s d) [Sl legR (.slice A n c) ls, LnF d.lns] w) :
    Ctr Tryz.prog 38 [.pointer (some ⟨l, 0, none⟩), .agg #[.int .u32 k.loan, .int .i32 k.day, .int .u8 k.kind, .int .u32 k.seq, .slice A n c], .int .i64 of] w M I (fun a : AR => errFV a.e) (fun a => addOk s d k ls of a ∧ FrL w.heap.size d a.d) (fun a => errFA a.e :: ledA l m1 m2 a.s a.d) (fun a => [LnF a.d.lns]) := by
  obtain ⟨hn, hc, hc2⟩ := H.sll (A := A) (n := n) (c := c)
  have hok := legs_ok (A := A) (n := n) (c := c) H
  obtain ⟨hk1, hk2⟩ := hk.1
  simp only [kLo, kHi] at hk1 hk2
  refine Exe.of_ev tok Tryz.call38 Tryz.func38 rfl rfl rfl ?_
  refine box_as H (entC k A n c) rfl fun x w1 H1 => ?_
  refine makeMap_rule H1 prV iV fun m3 w2 H2 => ?_
  refine load_rule tok H2 (v := .slice A n c) rfl ?_
  have H2 : Hp ⟨w, M, I⟩ [mapO m3 prV iV [], blk x (entC k A n c) 39, blk l [.slice s.A s.n s.c, .map (some m1), .map (some m2)] 85, row 69 6 (.slice s.A s.n s.c) s.n (lnsC d.lns), mapO m1 keyV iV d.live, mapO m2 prV iV d.sums] [Sl legR (.slice A n c) ls, LnF d.lns] w2 := H2
  refine loop_rule tok (σ := Nat × List (Pr × Int)) 18446744073709304384 (fun s => [(18, .int .i64 s.1)])
    (fun t w' => t.1 ≤ n ∧ nextGo d.sums k.loan ls [] = nextGo d.sums k.loan (ls.drop t.1) t.2 ∧ (t.2.map (·.1)).Nodup ∧ Hp ⟨w, M, I⟩ [mapO m3 prV iV t.2, blk x (entC k A n c) 39, blk l [.slice s.A s.n s.c, .map (some m1), .map (some m2)] 85, row 69 6 (.slice s.A s.n s.c) s.n (lnsC d.lns), mapO m1 keyV iV d.live, mapO m2 prV iV d.sums] [Sl legR (.slice A n c) ls, LnF d.lns] w') (fun s => n - s.1) (0, []) rfl rfl ⟨rfl, trivial⟩ ⟨Nat.zero_le _, rfl, List.nodup_nil, H2⟩ ?_
  rintro ⟨i, nx⟩ j w3 ⟨hi, hg, hnd, H3⟩
  simp only at hi hg hnd H3
  refine brd (fun q => ?_) (fun q => ?_)
  · have q : (i : Int) < n := q
    obtain ⟨u, hu⟩ : ∃ u, ls[i]? = some u := ⟨_, List.getElem?_eq_getElem (by omega)⟩
    have hdu : ls.drop i = u :: ls.drop (i + 1) := by
      rw [List.drop_eq_getElem_cons (by omega)]
      rw [List.getElem?_eq_getElem (by omega)] at hu
      rw [Option.some.inj hu]
    have hu2 := (hok u (List.mem_of_getElem? hu)).2
    rw [hdu] at hg
    refine idx_rule tok H3 (r := legR) (A := A) (n := n) (c := c) rfl rfl rfl (by omega) q fun pb po u' hu' H4 => ?_
    have eu : u' = u := Option.some.inj ((show ls[i]? = some u' by simpa using hu').symm.trans hu)
    refine ldp_rule tok H4 rfl rfl rfl fun _ _ H5 => ?_
    refine alloc_as tok H5 [.int .u8 0, .int .i64 0] rfl rfl rfl fun y w4 H6 => ?_
    refine store_as tok H6 [.int .u8 u'.acct, .int .i64 u'.amt] rfl rfl rfl rfl rfl fun w5 H7 => ?_
    refine load_rule tok H7 (v := .int .u32 k.loan) rfl ?_
    refine load_rule tok H7 (v := .int .u8 u'.acct) rfl ?_
    refine load_rule tok H7 (v := .int .u8 u'.acct) rfl ?_
    refine slice_as tok H7 [.int .u32 k.loan, .int .u8 u'.acct, .bool false, .int .u32 0, .int .u8 u'.acct, .bool true] rfl rfl rfl rfl rfl rfl fun g w6 H8 => ?_
    have H8 : Hp ⟨w, M, I⟩ [mapO m3 prV iV nx, blk g [.int .u32 k.loan, .int .u8 u'.acct, .bool false, .int .u32 0, .int .u8 u'.acct, .bool true] 94, blk y [.int .u8 u'.acct, .int .i64 u'.amt] 43, blk x (entC k A n c) 39, blk l [.slice s.A s.n s.c, .map (some m1), .map (some m2)] 85, row 69 6 (.slice s.A s.n s.c) s.n (lnsC d.lns), mapO m1 keyV iV d.live, mapO m2 prV iV d.sums] [Sl legR (.slice A n c) ls, LnF d.lns] w6 := Hp.keep H8
    have hu3 : inK .i64 u'.amt := by rw [eu]; exact hu2
    have ew : IntKind.u64.wrap k.loan = k.loan := wrap_id ⟨hk1, by show _ ≤ (18446744073709551615 : Int); omega⟩
    have over : ∀ pf w', nextGo d.sums k.loan ls [] = none → Hp ⟨w, M, I⟩ [blk pf [.int .u64 k.loan, .iface 47 (.int .i64 12)] 104, blk l [.slice s.A s.n s.c, .map (some m1), .map (some m2)] 85, row 69 6 (.slice s.A s.n s.c) s.n (lnsC d.lns), mapO m1 keyV iV d.live, mapO m2 prV iV d.sums] [LnF d.lns] w' →
        ∃ a : AR, Value.iface 102 (.pointer (some ⟨pf, 0, none⟩)) = errFV a.e ∧ (addOk s d k ls of a ∧ FrL w.heap.size d a.d) ∧ Hp ⟨w, M, I⟩ (errFA a.e :: ledA l m1 m2 a.s a.d) [LnF a.d.lns] w' := fun pf w' e h =>
      ⟨⟨.fault pf k.loan 12, s, d⟩, rfl, ⟨by unfold addOk; rw [e]; exact ⟨⟨pf, rfl⟩, rfl, rfl⟩, FrL.refl⟩, h⟩
    refine loop_rule tok (σ := Nat × List (Pr × Int)) 9223372028264855616 (fun s => [(33, .int .i64 s.1)])
      (fun t w' => ((t.1 = 0 ∧ t.2 = nx) ∨ (t.1 = 1 ∧ t.2 = putL ⟨k.loan, u'.acct, false⟩ (getS d.sums ⟨k.loan, u'.acct, false⟩ + u'.amt) nx ∧ in64 (getS d.sums ⟨k.loan, u'.acct, false⟩ + u'.amt) = true) ∨ (t.1 = 2 ∧ t.2 = putL ⟨0, u'.acct, true⟩ (getS d.sums ⟨0, u'.acct, true⟩ + u'.amt) (putL ⟨k.loan, u'.acct, false⟩ (getS d.sums ⟨k.loan, u'.acct, false⟩ + u'.amt) nx) ∧ in64 (getS d.sums ⟨k.loan, u'.acct, false⟩ + u'.amt) = true ∧ in64 (getS d.sums ⟨0, u'.acct, true⟩ + u'.amt) = true)) ∧
        Hp ⟨w, M, I⟩ [mapO m3 prV iV t.2, blk g [.int .u32 k.loan, .int .u8 u'.acct, .bool false, .int .u32 0, .int .u8 u'.acct, .bool true] 94, blk y [.int .u8 u'.acct, .int .i64 u'.amt] 43, blk x (entC k A n c) 39, blk l [.slice s.A s.n s.c, .map (some m1), .map (some m2)] 85, row 69 6 (.slice s.A s.n s.c) s.n (lnsC d.lns), mapO m1 keyV iV d.live, mapO m2 prV iV d.sums] [Sl legR (.slice A n c) ls, LnF d.lns] w') (fun s => 2 - s.1) (0, nx) rfl rfl ⟨rfl, trivial⟩ ⟨.inl ⟨rfl, rfl⟩, H8⟩ ?_
    rintro ⟨t, mm⟩ j2 w7 ⟨ht, H9⟩
    simp only at ht H9
    rcases ht with ⟨rfl, rfl⟩ | ⟨rfl, rfl, en0⟩ | ⟨rfl, rfl, en0, en1⟩
    · skip
      refine idx_own tok rfl rfl (show (0 : Int) ≤ ((0 : Nat) : Int) by omega) (show ((0 : Nat) : Int) < ((2 : Nat) : Int) by omega) ?_
      refine load_rule tok H9 (v := prV ⟨k.loan, u'.acct, false⟩) rfl ?_
      refine alloc_as tok H9 [.int .u32 0, .int .u8 0, .bool false] rfl rfl rfl fun pa w8 Ha => ?_
      refine store_as tok Ha [.int .u32 k.loan, .int .u8 u'.acct, .bool false] rfl rfl rfl rfl rfl fun w9 Hb => ?_
      refine draw_rule (A := []) tok tdr Hb [0, 1, 2, 3, 4, 5, 6, 7, 8, 9, 10, 11, 12, 13] [0, 1, 3, 7, 0, 31, 0, 64, 255, 511, 1023, 1023, 2047, 8191] rfl ?_
      refine pass_rule _ (fun w h => load_rule tok h (v := .map (some m2)) rfl ⟨rfl, rfl⟩) ?_
      refine pass_rule _ (fun w h => load_rule tok h (v := prV ⟨k.loan, u'.acct, false⟩) rfl ⟨rfl, rfl⟩) ?_
      refine pass_rule (.int .i64 (getS d.sums ⟨k.loan, u'.acct, false⟩)) (fun w h => lookup_rule (n := m2) tok h rfl rfl rfl prKeys rfl (getV d.sums ⟨k.loan, u'.acct, false⟩) ⟨rfl, rfl⟩) ?_
      refine pass_rule _ (fun w h => load_rule tok h (v := .int .i64 u'.amt) rfl ⟨rfl, rfl⟩) ?_
      refine Or.elim (show in64 (getS d.sums ⟨k.loan, u'.acct, false⟩ + u'.amt) = true ∨ in64 (getS d.sums ⟨k.loan, u'.acct, false⟩ + u'.amt) = false by cases in64 (getS d.sums ⟨k.loan, u'.acct, false⟩ + u'.amt) <;> simp) (fun en => ?_) (fun en => ?_)
      · refine imp_rule (fun X wx h => call_rule h (fun M I _ h => (addV_ok en).symm ▸ add (getS d.sums ⟨k.loan, u'.acct, false⟩) u'.amt (hs ⟨k.loan, u'.acct, false⟩) hu3 _ M I h) fun _ w1 _ H1 => imp_done H1 ?_)
        refine done_rule fun wa Hc => ?_
        refine load_rule tok Hc (v := prV ⟨k.loan, u'.acct, false⟩) rfl ?_
        refine mapUpd_rule (n := m3) (k := ⟨k.loan, u'.acct, false⟩) (v := getS d.sums ⟨k.loan, u'.acct, false⟩ + u'.amt) tok Hc rfl prKeys rfl rfl fun wb Hd => ?_
        exact Exists.intro (0 + 1, putL ⟨k.loan, u'.acct, false⟩ (getS d.sums ⟨k.loan, u'.acct, false⟩ + u'.amt) mm) (And.intro ⟨rfl, trivial⟩ (And.intro (by show 2 - (0 + 1) < 2 - 0; omega) ⟨(.inr (.inl ⟨rfl, rfl, en⟩)), Hp.keep Hd⟩))
      · refine imp_rule (fun X wx h => call_rule h (fun M I _ h => (addV_no en).symm ▸ add (getS d.sums ⟨k.loan, u'.acct, false⟩) u'.amt (hs ⟨k.loan, u'.acct, false⟩) hu3 _ M I h) fun _ w1 _ H1 => imp_done H1 ?_)
        refine done_rule fun wa Hc => ?_
        refine load_rule tok Hc (v := .int .u32 k.loan) rfl ?_
        refine box_as Hc [.int .u64 (IntKind.u64.wrap k.loan), .iface 47 (.int .i64 12)] rfl fun pf wb Hd => ?_
        rw [ew] at Hd
        exact over pf wb (by rw [hg, nextGo, if_neg (fun h => by rw [eu] at en; rw [h.1] at en; cases en)]) (Hp.keep Hd)
    · skip
      refine idx_own tok rfl rfl (show (0 : Int) ≤ ((1 : Nat) : Int) by omega) (show ((1 : Nat) : Int) < ((2 : Nat) : Int) by omega) ?_
      refine load_rule tok H9 (v := prV ⟨0, u'.acct, true⟩) rfl ?_
      refine alloc_as tok H9 [.int .u32 0, .int .u8 0, .bool false] rfl rfl rfl fun pa w8 Ha => ?_
      refine store_as tok Ha [.int .u32 0, .int .u8 u'.acct, .bool true] rfl rfl rfl rfl rfl fun w9 Hb => ?_
      refine draw_rule (A := []) tok tdr Hb [0, 1, 2, 3, 4, 5, 6, 7, 8, 9, 10, 11, 12, 13] [0, 1, 3, 7, 0, 31, 0, 64, 255, 511, 1023, 1023, 2047, 8191] rfl ?_
      refine pass_rule _ (fun w h => load_rule tok h (v := .map (some m2)) rfl ⟨rfl, rfl⟩) ?_
      refine pass_rule _ (fun w h => load_rule tok h (v := prV ⟨0, u'.acct, true⟩) rfl ⟨rfl, rfl⟩) ?_
      refine pass_rule (.int .i64 (getS d.sums ⟨0, u'.acct, true⟩)) (fun w h => lookup_rule (n := m2) tok h rfl rfl rfl prKeys rfl (getV d.sums ⟨0, u'.acct, true⟩) ⟨rfl, rfl⟩) ?_
      refine pass_rule _ (fun w h => load_rule tok h (v := .int .i64 u'.amt) rfl ⟨rfl, rfl⟩) ?_
      refine Or.elim (show in64 (getS d.sums ⟨0, u'.acct, true⟩ + u'.amt) = true ∨ in64 (getS d.sums ⟨0, u'.acct, true⟩ + u'.amt) = false by cases in64 (getS d.sums ⟨0, u'.acct, true⟩ + u'.amt) <;> simp) (fun en => ?_) (fun en => ?_)
      · refine imp_rule (fun X wx h => call_rule h (fun M I _ h => (addV_ok en).symm ▸ add (getS d.sums ⟨0, u'.acct, true⟩) u'.amt (hs ⟨0, u'.acct, true⟩) hu3 _ M I h) fun _ w1 _ H1 => imp_done H1 ?_)
        refine done_rule fun wa Hc => ?_
        refine load_rule tok Hc (v := prV ⟨0, u'.acct, true⟩) rfl ?_
        refine mapUpd_rule (n := m3) (k := ⟨0, u'.acct, true⟩) (v := getS d.sums ⟨0, u'.acct, true⟩ + u'.amt) tok Hc rfl prKeys rfl rfl fun wb Hd => ?_
        exact Exists.intro (1 + 1, putL ⟨0, u'.acct, true⟩ (getS d.sums ⟨0, u'.acct, true⟩ + u'.amt) (putL ⟨k.loan, u'.acct, false⟩ (getS d.sums ⟨k.loan, u'.acct, false⟩ + u'.amt) nx)) (And.intro ⟨rfl, trivial⟩ (And.intro (by show 2 - (1 + 1) < 2 - 1; omega) ⟨(.inr (.inr ⟨rfl, rfl, en0, en⟩)), Hp.keep Hd⟩))
      · refine imp_rule (fun X wx h => call_rule h (fun M I _ h => (addV_no en).symm ▸ add (getS d.sums ⟨0, u'.acct, true⟩) u'.amt (hs ⟨0, u'.acct, true⟩) hu3 _ M I h) fun _ w1 _ H1 => imp_done H1 ?_)
        refine done_rule fun wa Hc => ?_
        refine load_rule tok Hc (v := .int .u32 k.loan) rfl ?_
        refine box_as Hc [.int .u64 (IntKind.u64.wrap k.loan), .iface 47 (.int .i64 12)] rfl fun pf wb Hd => ?_
        rw [ew] at Hd
        exact over pf wb (by rw [hg, nextGo, if_neg (fun h => by rw [eu] at en; rw [h.2] at en; cases en)]) (Hp.keep Hd)
    · refine Exists.intro (i + 1, putL ⟨0, u'.acct, true⟩ (getS d.sums ⟨0, u'.acct, true⟩ + u'.amt) (putL ⟨k.loan, u'.acct, false⟩ (getS d.sums ⟨k.loan, u'.acct, false⟩ + u'.amt) nx)) (And.intro ⟨?_, trivial⟩ (And.intro ?_ ⟨?_, ?_, ?_, Hp.keep H9⟩))
      · show Value.int .i64 (IntKind.i64.wrap (i + 1)) = _
        rw [w64 (by omega) (by omega)]; rfl
      · simp only; omega
      · simp only; omega
      · simp only
        rw [hg, nextGo, if_pos ⟨by rw [← eu]; exact en0, by rw [← eu]; exact en1⟩, eu]
      · exact nodup_put (nodup_put hnd)
  · have q : ¬ (i : Int) < n := q
    have hdn : ls.drop i = [] := List.drop_eq_nil_of_le (by omega)
    rw [hdn] at hg
    have hg : nextGo d.sums k.loan ls [] = some nx := hg
    refine load_rule tok H3 (v := .map (some m2)) rfl ?_
    refine call_rule H3 (fun M I _ h => copyMap m2 m3 d.sums nx hnd _ M I h) fun sums2 w4 hsm H4 => ?_
    have H4 : Hp ⟨w, M, I⟩ [blk x (entC k A n c) 39, blk l [.slice s.A s.n s.c, .map (some m1), .map (some m2)] 85, row 69 6 (.slice s.A s.n s.c) s.n (lnsC d.lns), mapO m1 keyV iV d.live, mapO m2 prV iV sums2] [Sl legR (.slice A n c) ls, LnF d.lns] w4 := Hp.keep H4
    refine draw_rule (A := [blk l [.slice s.A s.n s.c, .map (some m1), .map (some m2)] 85, row 69 6 (.slice s.A s.n s.c) s.n (lnsC d.lns)]) tok tdr H4 [7, 8, 9, 1, 2, 3, 4, 5, 6, 10, 11, 12, 13, 14, 0, 15, 16, 17] [0, 0, 2, 6, 14, 0, 32, 0, 128, 384, 992, 0, 4064, 8160, 16382, 32767, 65535, 131071] rfl ?_
    refine pass_rule _ (fun w h => load_rule tok h (v := .slice A n c) rfl ⟨rfl, rfl⟩) ?_
    refine imp_rule (fun X wx hX => call_rule hX (fun M I h0 h => cloneLegsF A n c ls (by omega) _ M I (h0 rfl) h) fun sv w1 hsv H1 => imp_done H1 ?_)
    refine pass_kept [blk l [.slice s.A s.n s.c, .map (some m1), .map (some m2)] 85] _ (fun X w h => load_rule tok h (v := .slice s.A s.n s.c) rfl ⟨rfl, rfl⟩) ?_
    refine pass_rule _ (fun w h => load_rule tok h (v := keyV k) rfl ⟨rfl, rfl⟩) ?_
    refine fresh_slice tok [.int .u32 k.loan, .int .i32 k.day, .int .u8 k.kind, .int .u32 k.seq, .slice sv.A sv.n sv.c, .int .i64 of] rfl rfl rfl rfl rfl rfl rfl fun g => ?_
    refine imp_rule (fun X wx h => append_rule (v := .slice s.A s.n s.c) (b := g) (m := 1) (c := 1) tok h rfl rfl rfl rfl rfl rfl rfl rfl (by show (s.n + 1) * 48 ≤ _; omega) (by omega) fun A2 c2 w1 H1 => imp_done H1 ?_)
    refine imp_rule (fun X wx h => store_as tok h [.slice A2 (s.n + 1) c2, .map (some m1), .map (some m2)] rfl rfl rfl rfl rfl fun w1 H1 => imp_done H1 ?_)
    refine done_rule fun w5 H5 => ?_
    have H6 : Hp ⟨w, M, I⟩ [blk l [.slice A2 (s.n + 1) c2, .map (some m1), .map (some m2)] 85, row 69 6 (.slice A2 (s.n + 1) c2) (s.n + 1) (lnsC d.lns ++ [.int .u32 k.loan, .int .i32 k.day, .int .u8 k.kind, .int .u32 k.seq, .slice sv.A sv.n sv.c, .int .i64 of]), mapO m1 keyV iV d.live, mapO m2 prV iV sums2] [Sl legR (.slice sv.A sv.n sv.c) ls, LnF d.lns] w5 := Hp.keep H5
    have el : lnsC d.lns ++ [.int .u32 k.loan, .int .i32 k.day, .int .u8 k.kind, .int .u32 k.seq, .slice sv.A sv.n sv.c, .int .i64 of] = lnsC (d.lns ++ [⟨k, sv, of, ls⟩]) := by
      rw [lnsC_app]; simp [lnsC]
    rw [el] at H6
    have H7 : Hp ⟨w, M, I⟩ [blk l [.slice A2 (s.n + 1) c2, .map (some m1), .map (some m2)] 85, row 69 6 (.slice A2 (s.n + 1) c2) (s.n + 1) (lnsC (d.lns ++ [⟨k, sv, of, ls⟩])), mapO m1 keyV iV d.live, mapO m2 prV iV sums2] [LnF (d.lns ++ [⟨k, sv, of, ls⟩])] w5 := H6.facts fun I ha f hf => by
      rw [List.mem_singleton] at hf
      subst hf
      intro z hz
      rcases List.mem_append.1 hz with hz | hz
      · exact ha (LnF d.lns) (List.mem_cons_of_mem _ List.mem_cons_self) z hz
      · rw [List.mem_singleton] at hz
        subst hz
        exact ha _ List.mem_cons_self
    have hfr : Fr w.heap.size sv := fun b o q e => Nat.le_trans hX.size (hsv b o q e)
    have okk : addOk s d k ls of ⟨.none, ⟨A2, s.n + 1, c2⟩, ⟨d.lns ++ [⟨k, sv, of, ls⟩], d.live, sums2⟩⟩ := by
      unfold addOk
      rw [hg]
      exact ⟨rfl, rfl, rfl, ⟨sv, rfl⟩, hsm⟩
    exact Exists.intro ⟨.none, ⟨A2, s.n + 1, c2⟩, ⟨d.lns ++ [⟨k, sv, of, ls⟩], d.live, sums2⟩⟩ (And.intro rfl (And.intro ⟨okk, fun z hz => by
      rcases List.mem_append.1 hz with hz | hz
      · exact .inl hz
      · rw [List.mem_singleton] at hz
        subst hz
        exact .inr hfr⟩ (Hp.addEmp H7)))
set_option maxRecDepth 20000 in
set_option maxHeartbeats 2000000 in
theorem postF_ (l m1 m2 : Nat) (s : SV) (d : Led) (hd : d.lns.length ≤ 100000) (hsn : s.n = d.lns.length) (hs : ∀ p, inK .i64 (getS d.sums p)) (k : Key) (hk : keyIn k) (A : Option Addr) (n c : Nat) (ls : List Leg) (hls : ls.length ≤ 1000) (w : World) (M I : BS)
    (H : Hp ⟨w, M, I⟩ (ledA l m1 m2 s d) [Sl legR (.slice A n c) ls, LnF d.lns] w) :
    Ctr Tryz.prog 12 [.pointer (some ⟨l, 0, none⟩), .agg #[.int .u32 k.loan, .int .i32 k.day, .int .u8 k.kind, .int .u32 k.seq, .slice A n c]] w M I (fun a : AR => errFV a.e) (fun a => postOk s d k ls a ∧ FrL w.heap.size d a.d) (fun a => errFA a.e :: ledA l m1 m2 a.s a.d) (fun a => [LnF a.d.lns]) := by
  obtain ⟨hk1, hk2⟩ := hk.1
  simp only [kLo, kHi] at hk1 hk2
  have ew : IntKind.u64.wrap k.loan = k.loan := wrap_id ⟨hk1, by show _ ≤ (18446744073709551615 : Int); omega⟩
  refine Exe.of_ev tok Tryz.call12 Tryz.func12 rfl rfl rfl ?_
  refine box_as H (entC k A n c) rfl fun x w1 H1 => ?_
  refine load_rule tok H1 (v := .agg #[.int .u32 k.loan, .int .i32 k.day, .int .u8 k.kind, .int .u32 k.seq, .slice A n c]) rfl ?_
  refine call_rule H1 (fun M I _ h => right k hk.2.2.1 A n c ls _ M I h) fun _ w2 _ H2 => ?_
  refine br (fun q => ?_) (fun q => ?_)
  · have q : rightB k ls = false := by simpa using q
    have okk : postOk s d k ls ⟨.code 1, s, d⟩ := by unfold postOk; rw [if_pos q]
    have H3 : Hp ⟨w, M, I⟩ (ledA l m1 m2 s d) [LnF d.lns] w2 := Hp.keep H2
    exact Exists.intro ⟨.code 1, s, d⟩ (And.intro rfl (And.intro ⟨okk, FrL.refl⟩ (Hp.addEmp H3)))
  have q : rightB k ls = true := by simpa using q
  have q' : ¬ rightB k ls = false := by rw [q]; simp
  refine draw_rule (A := []) tok tdr H2 [0, 1, 2, 3, 4, 5, 6, 7, 8, 9, 10, 11] [0, 1, 3, 7, 0, 16, 63, 127, 255, 255, 511, 2047] rfl ?_
  refine pass_rule _ (fun w h => load_rule tok h (v := .map (some m1)) rfl ⟨rfl, rfl⟩) ?_
  refine pass_rule _ (fun w h => load_rule tok h (v := keyV k) rfl ⟨rfl, rfl⟩) ?_
  refine pass_rule (.tuple #[.int .i64 ((lk k d.live).getD 0), .bool (lk k d.live).isSome]) (fun w h => lookup_ok_rule (n := m1) tok h rfl rfl rfl keyKeys rfl (liveV d.live k) ⟨rfl, rfl⟩) ?_
  refine done_rule fun w3 H3 => ?_
  refine br (fun q2 => ?_) (fun q2 => ?_)
  · have q2 : (lk k d.live).isSome = true := q2
    refine load_rule tok H3 (v := .int .u32 k.loan) rfl ?_
    refine box_as H3 [.int .u64 (IntKind.u64.wrap k.loan), .iface 47 (.int .i64 10)] rfl fun pf w4 H4 => ?_
    rw [ew] at H4
    have okk : postOk s d k ls ⟨.fault pf k.loan 10, s, d⟩ := by unfold postOk; rw [if_neg q', if_pos q2]; exact ⟨pf, rfl⟩
    have H5 : Hp ⟨w, M, I⟩ (blk pf [.int .u64 k.loan, .iface 47 (.int .i64 10)] 104 :: ledA l m1 m2 s d) [LnF d.lns] w4 := Hp.keep H4
    exact Exists.intro ⟨.fault pf k.loan 10, s, d⟩ (And.intro rfl (And.intro ⟨okk, FrL.refl⟩ H5))
  have q2' : ¬ (lk k d.live).isSome = true := by
    have q2 : (lk k d.live).isSome = false := q2
    rw [q2]; simp
  refine load_rule tok H3 (v := .agg #[.int .u32 k.loan, .int .i32 k.day, .int .u8 k.kind, .int .u32 k.seq, .slice A n c]) rfl ?_
  refine call_rule H3 (fun M I _ h => addF_ l m1 m2 s d hd hsn hs k hk A n c ls hls 0 _ M I h) fun a => ?_
  rcases a with ⟨e, s2, d2⟩
  cases e with
  | code c0 =>
    intro w4 ha H4
    have hf := ha.2
    have ha := ha.1
    have hf : FrL w.heap.size d d2 := fun x hx => (hf x hx).imp id fun h b o q e => Nat.le_trans H3.size (h b o q e)
    exfalso
    unfold addOk at ha
    cases hg : nextGo d.sums k.loan ls [] with
    | none => rw [hg] at ha; obtain ⟨⟨p, hp⟩, _⟩ := ha; cases hp
    | some nx => rw [hg] at ha; cases ha.1
  | fault pf a0 c0 =>
    intro w4 ha H4
    have hf := ha.2
    have ha := ha.1
    have hf : FrL w.heap.size d d2 := fun x hx => (hf x hx).imp id fun h b o q e => Nat.le_trans H3.size (h b o q e)
    have H4 : Hp ⟨w, M, I⟩ [blk pf [.int .u64 a0, .iface 47 (.int .i64 c0)] 104, blk l [.slice s2.A s2.n s2.c, .map (some m1), .map (some m2)] 85, row 69 6 (.slice s2.A s2.n s2.c) s2.n (lnsC d2.lns), mapO m1 keyV iV d2.live, mapO m2 prV iV d2.sums, blk x (entC k A n c) 39] [LnF d2.lns, Sl legR (.slice A n c) ls, LnF d.lns] w4 := H4
    have okk : postOk s d k ls ⟨.fault pf a0 c0, s2, d2⟩ := by
      unfold postOk
      rw [if_neg q', if_neg q2']
      unfold addOk at ha
      cases hg : nextGo d.sums k.loan ls [] with
      | none =>
        rw [hg] at ha
        obtain ⟨⟨p, hp⟩, h1, h2⟩ := ha
        simp only at hp h1 h2
        injection hp with e1 e2 e3
        subst e1 e2 e3 h1 h2
        exact ⟨pf, rfl⟩
      | some nx => rw [hg] at ha; cases ha.1
    have H5 : Hp ⟨w, M, I⟩ (blk pf [.int .u64 a0, .iface 47 (.int .i64 c0)] 104 :: ledA l m1 m2 s2 d2) [LnF d2.lns] w4 := Hp.keep H4
    exact Exists.intro ⟨.fault pf a0 c0, s2, d2⟩ (And.intro rfl (And.intro ⟨okk, hf⟩ H5))
  | none =>
    intro w4 ha H4
    have hf := ha.2
    have ha := ha.1
    have hf : FrL w.heap.size d d2 := fun x hx => (hf x hx).imp id fun h b o q e => Nat.le_trans H3.size (h b o q e)
    have H4 : Hp ⟨w, M, I⟩ [empA, blk l [.slice s2.A s2.n s2.c, .map (some m1), .map (some m2)] 85, row 69 6 (.slice s2.A s2.n s2.c) s2.n (lnsC d2.lns), mapO m1 keyV iV d2.live, mapO m2 prV iV d2.sums, blk x (entC k A n c) 39] [LnF d2.lns, Sl legR (.slice A n c) ls, LnF d.lns] w4 := H4
    unfold addOk at ha
    cases hg : nextGo d.sums k.loan ls [] with
    | none => rw [hg] at ha; obtain ⟨⟨p, hp⟩, _⟩ := ha; cases hp
    | some nx =>
      rw [hg] at ha
      obtain ⟨_, h2, h3, h4, h5⟩ := ha
      simp only at h2 h3 h4 h5
      have el : IntKind.i64.wrap ((s2.n : Int) - 1) = ((d.lns.length : Nat) : Int) := by
        rw [w64 (by omega) (by omega)]; omega
      refine draw_rule (A := [mapO m1 keyV iV d2.live]) tok tdr H4 [0, 1, 2, 3, 4, 5, 6, 7, 8, 9, 10, 11, 12] [0, 1, 3, 7, 0, 16, 0, 64, 192, 448, 960, 1984, 4095] rfl ?_
      refine pass_rule _ (fun w h => load_rule tok h (v := .map (some m1)) rfl ⟨rfl, rfl⟩) ?_
      refine pass_rule _ (fun w h => load_rule tok h (v := keyV k) rfl ⟨rfl, rfl⟩) ?_
      refine pass_rule _ (fun w h => load_rule tok h (v := .slice s2.A s2.n s2.c) rfl ⟨rfl, rfl⟩) ?_
      refine imp_rule (fun X wx h => mapUpd_rule (n := m1) (k := k) (v := ((d.lns.length : Nat) : Int)) tok h rfl keyKeys rfl (congrArg (Value.int .i64) el) fun w1 H1 => imp_done H1 ?_)
      refine done_rule fun w5 H5 => ?_
      have H6 : Hp ⟨w, M, I⟩ (ledA l m1 m2 s2 ⟨d2.lns, putL k ((d.lns.length : Nat) : Int) d2.live, d2.sums⟩) [LnF d2.lns] w5 := Hp.keep H5
      have okk : postOk s d k ls ⟨.none, s2, ⟨d2.lns, putL k ((d.lns.length : Nat) : Int) d2.live, d2.sums⟩⟩ := by
        unfold postOk
        rw [if_neg q', if_neg q2', hg]
        exact ⟨rfl, h2, by rw [h3], h4, h5⟩
      exact Exists.intro ⟨.none, s2, ⟨d2.lns, putL k ((d.lns.length : Nat) : Int) d2.live, d2.sums⟩⟩ (And.intro rfl (And.intro ⟨okk, hf⟩ (Hp.addEmp H6)))
end Go.Proofs.YtfemfomgmopibaaGreatDoor
