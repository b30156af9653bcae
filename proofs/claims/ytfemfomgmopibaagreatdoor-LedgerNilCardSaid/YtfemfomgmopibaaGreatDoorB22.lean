/- What is told is nobody else's; a ledger that there isn't; of which loan an error tells: LedgerNil walked. -/
import Derived.Test.YtfemfomgmopibaaGreatDoorB21
import Derived.Test.YtfemfomgmopibaaGreatDoorAsA
set_option linter.unusedVariables false
namespace Go.Proofs.YtfemfomgmopibaaGreatDoor
open Go Go.Proofs Go.Wk
@[reducible] def k1 (n : Int) : Key := ⟨n, 0, 1, 0⟩
theorem right1 (n : Int) : rightB (k1 n) l0 = true := (rfl : rightB (k1 n) l0 = rightB k0 l0).trans right0
theorem next1 (n : Int) : (nextGo [] n l0 []).isSome = true := by simp [nextGo, l0, getS, lk, in64]
theorem key1 {n : Int} (hn : inK .u32 n) : keyIn (k1 n) := ⟨hn, key0.2.1, key0.2.2.1, key0.2.2.2⟩
structure PC where
  s : SV
  m : List (Pr × Int)
  b : Nat
  o : Nat
  c : Nat
@[reducible] def ln1 (n : Int) (b o c : Nat) : Ln := ⟨k1 n, ⟨some ⟨b, o, none⟩, 2, c⟩, 0, l0⟩
theorem postC (n : Int) (hn : inK .u32 n) (l m1 m2 g : Nat) (w : World) (M I : BS) (H : Hp ⟨w, M, I⟩ (ledA l m1 m2 ⟨none, 0, 0⟩ ⟨[], [], []⟩) [Sl legR (.slice (some ⟨g, 0, none⟩) 2 2) l0, LnF []] w) :
    Ctr Tryz.prog 12 [.pointer (some ⟨l, 0, none⟩), .agg #[.int .u32 n, .int .i32 0, .int .u8 1, .int .u32 0, .slice (some ⟨g, 0, none⟩) 2 2]] w M I (fun _ : PC => .nilIface) (fun a => a.s.n = 1 ∧ w.heap.size ≤ a.b ∧ ∀ p, inK .i64 (getS a.m p))
      (fun a => ledA l m1 m2 a.s ⟨[ln1 n a.b a.o a.c], [(k1 n, 0)], a.m⟩) (fun a => [LnF [ln1 n a.b a.o a.c]]) := by
  refine (postF_ l m1 m2 ⟨none, 0, 0⟩ ⟨[], [], []⟩ (by decide) rfl (fun p => by rw [show getS [] p = 0 from rfl]; exact ⟨by decide, by decide⟩) (k1 n) (key1 hn) (some ⟨g, 0, none⟩) 2 2 l0 (by decide) w M I H).imp fun a w' hφ h => ?_
  obtain ⟨e, s', lns, live, sums⟩ := a
  obtain ⟨hp, hf⟩ := hφ
  have hin := (post_after inv_nil rfl (key1 hn) leg0 hp).1.inv.in_
  obtain ⟨nx, hnx⟩ := Option.isSome_iff_exists.1 (next1 n)
  unfold postOk at hp
  rw [if_neg (by rw [right1]; simp), if_neg (by simp [lk])] at hp
  simp only [hnx] at hp
  obtain ⟨h1, h2, h3, ⟨sv, h4⟩, _⟩ := hp
  subst h1
  simp only [List.nil_append] at h4
  subst h4
  have h3 : live = [(k1 n, 0)] := h3
  subst h3
  have hln := Hp.lnAt h (xs := [⟨k1 n, sv, 0, l0⟩]) (x := ⟨k1 n, sv, 0, l0⟩) List.mem_cons_self
  obtain ⟨A, sn, c⟩ := sv
  have hsn : sn = 2 := (hln.sll (A := A) (n := sn) (c := c)).1
  subst hsn
  obtain ⟨b, o, hb⟩ := hln.slAt (A := A) (n := 2) (c := c) (by decide)
  subst hb
  have hfr := (hf _ List.mem_cons_self).resolve_left (fun h => by cases h)
  exact ⟨⟨s', sums, b, o, c⟩, rfl, ⟨h2, hfr b o none rfl, hin⟩, Hp.keep h⟩
theorem postT (n : Int) (hn : inK .u32 n) (l m1 m2 g : Nat) (s : SV) (m : List (Pr × Int)) (ln : Ln) (hs : s.n = 1) (hm : ∀ p, inK .i64 (getS m p)) (w : World) (M I : BS) (H : Hp ⟨w, M, I⟩ (ledA l m1 m2 s ⟨[ln], [(k1 n, 0)], m⟩) [Sl legR (.slice (some ⟨g, 0, none⟩) 2 2) l0, LnF [ln]] w) :
    Ctr Tryz.prog 12 [.pointer (some ⟨l, 0, none⟩), .agg #[.int .u32 n, .int .i32 0, .int .u8 1, .int .u32 0, .slice (some ⟨g, 0, none⟩) 2 2]] w M I (fun p : Nat => .iface 102 (.pointer (some ⟨p, 0, none⟩))) (fun _ => True)
      (fun p => errFA (.fault p n 10) :: ledA l m1 m2 s ⟨[ln], [(k1 n, 0)], m⟩) (fun _ => []) := by
  refine (post_ l m1 m2 s ⟨[ln], [(k1 n, 0)], m⟩ (by simp) hs hm (k1 n) (key1 hn) (some ⟨g, 0, none⟩) 2 2 l0 (by decide) w M I H).imp fun a w' hp h => ?_
  unfold postOk at hp
  rw [if_neg (by rw [right1]; simp), if_pos (by simp [lk])] at hp
  obtain ⟨p, rfl⟩ := hp
  exact ⟨p, rfl, trivial, Hp.keep h⟩
theorem atE (p : Nat) (a c : Int) (w : World) (M I : BS) (H : Hp ⟨w, M, I⟩ [errFA (.fault p a c)] [Glob 0 errTy] w) :
    Ctr Tryz.prog 25 [errFV (.fault p a c)] w M I (fun _ : Unit => .int .u64 a) (fun _ => True) (fun _ => [errFA (.fault p a c)]) (fun _ => []) := atF p a c w M I H
theorem legs_at {ls : List Leg} {i : Nat} {x : Leg} (hx : ls[i]? = some x) : ((legsC ls).drop (i * 2)).take 2 = [.int .u8 x.acct, .int .i64 x.amt] := by
  obtain ⟨hj, _⟩ := List.getElem?_eq_some_iff.1 hx
  rw [legsC_drop, List.drop_eq_getElem_cons hj]
  rw [List.getElem?_eq_getElem hj] at hx
  rw [Option.some.inj hx]
  rfl
/-- Legs that are lent. -/
theorem lentLegs {g : Nat} {ls : List Leg} {w : World} {I fd : BS} (hl : ∀ x, x ∈ ls → legIn x) (hn : ls.length ≤ 1000) (hD : (blk g (legsC ls) 43).at_ w fd) (hI : ∀ b, fd b → I b) : (Sl legR (.slice (some ⟨g, 0, none⟩) ls.length ls.length) ls).holds w I := by
  refine ⟨_, _, rfl, Nat.le_refl _, by omega, (fun h => by cases h), fun i x hxi => ?_⟩
  refine ⟨g, 0, rfl, hI g ((hD.1 g).2 rfl), (), hl x (List.mem_of_getElem? hxi), fun j u hj => ?_, fun f h => by cases h⟩
  have hj : ([.int .u8 x.acct, .int .i64 x.amt] : List Value)[j]? = some u := hj
  rw [← legs_at hxi, List.getElem?_take] at hj
  split at hj
  · rw [List.getElem?_drop] at hj
    have := blk_cells hD _ _ hj
    rwa [Nat.zero_add] at this ⊢
  · cases hj
theorem hold1 {n : Int} {b o c : Nat} {w : World} {I I' : BS} (h : (LnF [ln1 n b o c]).holds w I) (hb : I b → I' b) : (LnF [ln1 n b o c]).holds w I' := by
  intro x hx
  have h := h x hx
  rw [List.mem_singleton] at hx
  subst hx
  obtain ⟨A', c', e1, h1, h2, h3, h4⟩ := h
  refine ⟨A', c', e1, h1, h2, h3, fun i y hy => ?_⟩
  obtain ⟨b', o', e2, hb', p, ok, hc, hf⟩ := h4 i y hy
  injection e1 with e1 e3 e4
  have : b' = b := by rw [← e1] at e2; injection e2 with e2; injection e2 with e2; exact e2.symm
  subst this
  exact ⟨b', o', e2, hb hb', p, ok, hc, fun f h => by cases h⟩
set_option maxRecDepth 20000 in
set_option maxHeartbeats 4000000 in
theorem nilW (k : Key) (hk : keyIn k) (i acct : Int) (w : World) (M I : BS) (hM : ∀ b, ¬ M b) (H : Hp ⟨w, M, I⟩ [] [Glob 0 errTy] w) :
    Ctr Tryz.prog 6 [keyV k, .int .i64 i, .int .u8 acct] w M I (fun _ : Unit => .bool true) (fun _ => True) (fun _ => []) (fun _ => []) := by
  have hk0 := hk.1
  have hA : (1 : Nat) ≤ 100000 := by decide
  have hB : (2 : Nat) ≤ 1000 := by decide
  have hC : (1 : Nat) ≤ 2 := by decide
  have hD : (2 : Nat) ≤ 4 := by decide
  refine Exe.of_ev tok Tryz.call6 Tryz.func6 rfl rfl rfl ?_
  refine box_as H (keyC k) rfl fun kb w1 H1 => ?_
  refine call_rule H1 (fun M I h0 h => awake_ _ M I (h0 rfl) h) fun _ w2 _ H2 => ?_
  refine load_rule tok H2 (v := .int .u32 k.loan) rfl ?_
  refine slice_as tok H2 [.int .u8 1, .int .i64 (-5), .int .u8 2, .int .i64 5] rfl rfl rfl rfl rfl rfl fun g w3 H3 => ?_
  refine alloc_as tok H3 zeroC rfl rfl rfl fun e w4 H4 => ?_
  refine store_as tok H4 (entC (k1 k.loan) (some ⟨g, 0, none⟩) 2 2) rfl rfl rfl rfl rfl fun w5 H5 => ?_
  refine call_rule H5 (fun M I _ h => lineNil i _ M I h) fun _ w6 _ H6 => ?_
  refine alloc_as tok H6 lnZC rfl rfl rfl fun d1 w7 H7 => ?_
  refine store_as tok H7 lnZC rfl rfl rfl rfl rfl fun w8 H8 => ?_
  refine load_rule tok H8 (v := keyV k) rfl ?_
  refine call_rule H8 (fun M I _ h => liveNil k _ M I h) fun _ w9 _ H9 => ?_
  refine alloc_as tok H9 zeroC rfl rfl rfl fun d2 wa Ha => ?_
  refine store_as tok Ha zeroC rfl rfl rfl rfl rfl fun wb Hb => ?_
  refine call_rule Hb (fun M I _ h => new_ _ M I h) fun l wc _ Hc => ?_
  have Hc : Hp ⟨w, M, I⟩ [blk l.1 [.slice none 0 0, .map (some l.2.1), .map (some l.2.2)] 85, row 69 6 (.slice none 0 0) 0 (lnsC []), mapO l.2.1 keyV iV [], mapO l.2.2 prV iV [], blk e (entC (k1 k.loan) (some ⟨g, 0, none⟩) 2 2) 39, blk g [.int .u8 1, .int .i64 (-5), .int .u8 2, .int .i64 5] 43, blk kb (keyC k) 26] [LnF [], Glob 0 errTy] wc := Hp.keep (LnF_nil Hc)
  refine load_rule tok Hc (v := .agg #[.int .u32 k.loan, .int .i32 0, .int .u8 1, .int .u32 0, .slice (some ⟨g, 0, none⟩) 2 2]) rfl ?_
  refine lend_rule (blk g [.int .u8 1, .int .i64 (-5), .int .u8 2, .int .i64 5] 43) Hc (fun M I _ h => postC k.loan hk0 l.1 l.2.1 l.2.2 g _ M I h)
    (fun I fd hD hI ha f hf => by
      rcases List.mem_cons.1 hf with rfl | hf
      · exact lentLegs (ls := l0) leg0 (by decide) hD hI
      · rw [List.mem_singleton] at hf
        subst hf
        exact ha _ List.mem_cons_self)
    (N := fun a => [LnF [ln1 k.loan a.b a.o a.c], Glob 0 errTy])
    (fun a w' I' fd hφ hfd hG hF f hf => by
      rcases List.mem_cons.1 hf with rfl | hf
      · exact hold1 (hG _ List.mem_cons_self) fun hb => ⟨hb, fun h => by have := hfd _ h; have := hφ.2.1; omega⟩
      · rw [List.mem_singleton] at hf
        subst hf
        exact hF _ (List.mem_cons_of_mem _ List.mem_cons_self))
    fun a wd ha Hd => ?_
  have hs1 := ha.1
  have hm1 := ha.2.2
  have Hd : Hp ⟨w, M, I⟩ [blk l.1 [.slice a.s.A a.s.n a.s.c, .map (some l.2.1), .map (some l.2.2)] 85, row 69 6 (.slice a.s.A a.s.n a.s.c) a.s.n (lnsC [ln1 k.loan a.b a.o a.c]), mapO l.2.1 keyV iV [(k1 k.loan, 0)], mapO l.2.2 prV iV a.m, blk g [.int .u8 1, .int .i64 (-5), .int .u8 2, .int .i64 5] 43, blk e (entC (k1 k.loan) (some ⟨g, 0, none⟩) 2 2) 39, blk kb (keyC k) 26] [LnF [ln1 k.loan a.b a.o a.c], Glob 0 errTy] wd := Hp.keep Hd
  refine load_rule tok Hd (v := .slice (some ⟨g, 0, none⟩) 2 2) rfl ?_
  refine idx_own tok rfl rfl (by decide) (by decide) ?_
  refine store_as tok Hd [.int .u8 1, .int .i64 9, .int .u8 2, .int .i64 5] rfl rfl rfl rfl rfl fun we He => ?_
  refine call_rule He (fun M I _ h => lineO l.1 l.2.1 l.2.2 a.s [ln1 k.loan a.b a.o a.c] hA hs1 0 (ln1 k.loan a.b a.o a.c) a.b a.o 2 a.c rfl rfl hB hC _ M I h) fun x wf _ Hf => ?_
  refine alloc_as tok Hf lnZC rfl rfl rfl fun d3 wg Hg => ?_
  refine store_as tok Hg [.int .u32 k.loan, .int .i32 0, .int .u8 1, .int .u32 0, .slice (some ⟨x.1, 0, none⟩) 2 x.2, .int .i64 0] rfl rfl rfl rfl rfl fun wh Hh => ?_
  refine load_rule tok Hh (v := .slice (some ⟨x.1, 0, none⟩) 2 x.2) rfl ?_
  refine idx_own tok rfl rfl (by decide) (by decide) ?_
  refine row_st (b := x.1) (n := 2) (c := x.2) tok Hh rfl rfl hD rfl fun wi Hi => ?_
  have Hi : Hp ⟨w, M, I⟩ [blk l.1 [.slice a.s.A a.s.n a.s.c, .map (some l.2.1), .map (some l.2.2)] 85, row 69 6 (.slice a.s.A a.s.n a.s.c) a.s.n (lnsC [ln1 k.loan a.b a.o a.c]), mapO l.2.1 keyV iV [(k1 k.loan, 0)], mapO l.2.2 prV iV a.m, blk g [.int .u8 1, .int .i64 9, .int .u8 2, .int .i64 5] 43, blk e (entC (k1 k.loan) (some ⟨g, 0, none⟩) 2 2) 39, blk kb (keyC k) 26] [LnF [ln1 k.loan a.b a.o a.c], Glob 0 errTy] wi := Hp.keep Hi
  refine load_rule tok Hi (v := keyV (k1 k.loan)) rfl ?_
  refine call_rule Hi (fun M I _ h => liveO l.1 l.2.1 l.2.2 a.s ⟨[ln1 k.loan a.b a.o a.c], [(k1 k.loan, 0)], a.m⟩ hA hs1 (k1 k.loan) 0 (ln1 k.loan a.b a.o a.c) a.b a.o 2 a.c rfl (by simp [lk]) rfl hB hC _ M I h) fun y wj _ Hj => ?_
  refine alloc_as tok Hj zeroC rfl rfl rfl fun d4 wk Hk => ?_
  refine store_as tok Hk (entC (k1 k.loan) (some ⟨y.1, 0, none⟩) 2 y.2) rfl rfl rfl rfl rfl fun wl Hl => ?_
  refine load_rule tok Hl (v := .slice (some ⟨y.1, 0, none⟩) 2 y.2) rfl ?_
  refine idx_own tok rfl rfl (by decide) (by decide) ?_
  refine row_st (b := y.1) (n := 2) (c := y.2) tok Hl rfl rfl hD rfl fun wm Hm => ?_
  have Hm : Hp ⟨w, M, I⟩ [blk l.1 [.slice a.s.A a.s.n a.s.c, .map (some l.2.1), .map (some l.2.2)] 85, row 69 6 (.slice a.s.A a.s.n a.s.c) a.s.n (lnsC [ln1 k.loan a.b a.o a.c]), mapO l.2.1 keyV iV [(k1 k.loan, 0)], mapO l.2.2 prV iV a.m, blk g [.int .u8 1, .int .i64 9, .int .u8 2, .int .i64 5] 43, blk e (entC (k1 k.loan) (some ⟨g, 0, none⟩) 2 2) 39, blk kb (keyC k) 26] [LnF [ln1 k.loan a.b a.o a.c], Glob 0 errTy] wm := Hp.keep Hm
  refine load_rule tok Hm (v := keyV (k1 k.loan)) rfl ?_
  refine call_rule Hm (fun M I _ h => liveO l.1 l.2.1 l.2.2 a.s ⟨[ln1 k.loan a.b a.o a.c], [(k1 k.loan, 0)], a.m⟩ hA hs1 (k1 k.loan) 0 (ln1 k.loan a.b a.o a.c) a.b a.o 2 a.c rfl (by simp [lk]) rfl hB hC _ M I h) fun z wn _ Hn => ?_
  refine alloc_as tok Hn zeroC rfl rfl rfl fun d5 wo Ho => ?_
  refine store_as tok Ho (entC (k1 k.loan) (some ⟨z.1, 0, none⟩) 2 z.2) rfl rfl rfl rfl rfl fun wp Hq => ?_
  refine load_rule tok Hq (v := .slice (some ⟨g, 0, none⟩) 2 2) rfl ?_
  refine idx_own tok rfl rfl (by decide) (by decide) ?_
  refine store_as tok Hq [.int .u8 1, .int .i64 (-5), .int .u8 2, .int .i64 5] rfl rfl rfl rfl rfl fun wr Hr => ?_
  have Hr : Hp ⟨w, M, I⟩ [blk l.1 [.slice a.s.A a.s.n a.s.c, .map (some l.2.1), .map (some l.2.2)] 85, row 69 6 (.slice a.s.A a.s.n a.s.c) a.s.n (lnsC [ln1 k.loan a.b a.o a.c]), mapO l.2.1 keyV iV [(k1 k.loan, 0)], mapO l.2.2 prV iV a.m, blk g [.int .u8 1, .int .i64 (-5), .int .u8 2, .int .i64 5] 43, blk d5 (entC (k1 k.loan) (some ⟨z.1, 0, none⟩) 2 z.2) 39, row 43 2 (.slice (some ⟨z.1, 0, none⟩) 2 z.2) 2 (legsC l0), blk e (entC (k1 k.loan) (some ⟨g, 0, none⟩) 2 2) 39, blk kb (keyC k) 26] [LnF [ln1 k.loan a.b a.o a.c], Glob 0 errTy] wr := Hp.keep Hr
  refine load_rule tok Hr (v := .agg #[.int .u32 k.loan, .int .i32 0, .int .u8 1, .int .u32 0, .slice (some ⟨g, 0, none⟩) 2 2]) rfl ?_
  refine lend_rule (blk g [.int .u8 1, .int .i64 (-5), .int .u8 2, .int .i64 5] 43) Hr (fun M I _ h => postT k.loan hk0 l.1 l.2.1 l.2.2 g a.s a.m (ln1 k.loan a.b a.o a.c) hs1 hm1 _ M I h)
    (fun I fd hD hI ha f hf => by
      rcases List.mem_cons.1 hf with rfl | hf
      · exact lentLegs (ls := l0) leg0 (by decide) hD hI
      · rw [List.mem_singleton] at hf
        subst hf
        exact ha _ List.mem_cons_self)
    (N := fun a' => [LnF [ln1 k.loan a.b a.o a.c], Glob 0 errTy])
    (fun a w' I' fd hφ hfd hG hF => hF)
    fun p ws _ Hs => ?_
  have Hs : Hp ⟨w, M, I⟩ [errFA (.fault p k.loan 10), blk l.1 [.slice a.s.A a.s.n a.s.c, .map (some l.2.1), .map (some l.2.2)] 85, blk g [.int .u8 1, .int .i64 (-5), .int .u8 2, .int .i64 5] 43, blk d5 (entC (k1 k.loan) (some ⟨z.1, 0, none⟩) 2 z.2) 39, row 43 2 (.slice (some ⟨z.1, 0, none⟩) 2 z.2) 2 (legsC l0), blk e (entC (k1 k.loan) (some ⟨g, 0, none⟩) 2 2) 39, blk kb (keyC k) 26] [Glob 0 errTy] ws := Hp.keep Hs
  refine call_rule Hs (fun M I _ h => lineNo l.1 l.2.1 l.2.2 a.s 1 (by rw [hs1]; decide) _ M I h) fun _ wt _ Ht => ?_
  refine alloc_as tok Ht lnZC rfl rfl rfl fun d6 wu Hu => ?_
  refine store_as tok Hu lnZC rfl rfl rfl rfl rfl fun wv Hv => ?_
  have Hv : Hp ⟨w, M, I⟩ [errFA (.fault p k.loan 10), blk d5 (entC (k1 k.loan) (some ⟨z.1, 0, none⟩) 2 z.2) 39, row 43 2 (.slice (some ⟨z.1, 0, none⟩) 2 z.2) 2 (legsC l0), blk e (entC (k1 k.loan) (some ⟨g, 0, none⟩) 2 2) 39, blk kb (keyC k) 26] [Glob 0 errTy] wv := Hp.keep Hv
  refine draw_rule (A := [errFA (.fault p k.loan 10)]) tok tdr Hv [0, 1, 2, 3, 4, 5, 6, 7, 8, 9, 10, 11, 12, 13, 14, 15, 16, 17, 18, 19, 20, 21, 22, 23, 24, 25, 26, 28, 29, 32, 33, 36, 37, 27, 30, 31, 34, 35, 38, 39, 40, 41, 42, 43, 44, 45, 46, 47, 48, 49, 50, 51, 52, 53, 54, 55, 56, 57, 58, 59, 60, 61, 62, 63, 64, 65, 66, 67, 68, 69, 70, 71, 72, 73, 74, 75, 76, 77, 78, 79, 80, 81, 82, 83, 84, 85, 86, 87, 88, 89] [0, 0, 3, 7, 15, 31, 63, 63, 255, 511, 1023, 2047, 4095, 8191, 16383, 32767, 65535, 131071, 262143, 524287, 1048575, 2097151, 4194303, 8388607, 16777215, 33554431, 67108863, 134217727, 33554431, 402653183, 939524095, 2147483647, 33554431, 5234491391, 13824425983, 34359738367, 33554431, 82543902719, 274877906943, 549755813887, 1099511627775, 2199023255551, 4398046511103, 4398046511103, 13194139533311, 4398046511103, 70368744177663, 140737488355327, 281474976710655, 562949953421311, 1125899906842623, 1125899906842623, 4503599627370495, 9007199254740991, 18014398509481983, 36028797018963967, 72057594037927935, 144115188075855871, 288230376151711743, 576460752303423487, 1152921504606846975, 2305843009213693951, 4611686018427387903, 9223372036854775807, 18446744073709551615, 36893488147419103231, 73786976294838206463, 147573952589676412927, 295147905179352825855, 590295810358705651711, 1180591620717411303423, 2361183241434822606847, 4722366482869645213695, 9444732965739290427391, 18889465931478580854783, 37778931862957161709567, 75557863725914323419135, 151115727451828646838271, 302231454903657293676543, 604462909807314587353087, 1208925819614629174706175, 2417851639229258349412351, 4835703278458516698824703, 9671406556917033397649407, 4835703278458516698824703, 24178516392292583494123519, 62864142619960717084721151, 154742504910672534362390527, 309485009821345068724781055, 618970019642690137449562111] rfl ?_
  refine pass_rule _ (fun w h => load_rule tok h (v := .agg #[.int .u32 k.loan, .int .i32 0, .int .u8 1, .int .u32 0, .slice (some ⟨g, 0, none⟩) 2 2]) rfl ⟨rfl, rfl⟩) ?_
  refine imp_rule (fun X wx h => call_rule h (fun M I _ h => postNil (k1 k.loan) (some ⟨g, 0, none⟩) 2 2 _ M I h) fun _ w1 _ H1 => imp_done H1 ?_)
  refine imp_rule (fun X wx h => call_rule h (fun M I _ h => code_ (.code 3) _ M I h) fun _ w1 _ H1 => imp_done H1 ?_)
  refine pass_rule _ (fun w h => load_rule tok h (v := keyV k) rfl ⟨rfl, rfl⟩) ?_
  refine imp_rule (fun X wx h => call_rule h (fun M I _ h => revNil k _ M I h) fun _ w1 _ H1 => imp_done H1 ?_)
  refine imp_rule (fun X wx h => call_rule h (fun M I _ h => code_ (.code 3) _ M I h) fun _ w1 _ H1 => imp_done H1 ?_)
  refine imp_rule (fun X wx h => call_rule h (fun M I _ h => loanNil 1 _ M I h) fun _ w1 _ H1 => imp_done H1 ?_)
  refine imp_rule (fun X wx h => call_rule h (fun M I _ h => loansNil _ M I h) fun _ w1 _ H1 => imp_done H1 ?_)
  refine imp_rule (fun X wx h => call_rule h (fun M I _ h => bytesNil _ M I h) fun _ w1 _ H1 => imp_done H1 ?_)
  refine imp_rule (fun X wx h => call_rule h (fun M I _ h => lenNil _ M I h) fun _ w1 _ H1 => imp_done H1 ?_)
  refine pass_rule _ (fun w h => load_rule tok h (v := .int .u32 k.loan) rfl ⟨rfl, rfl⟩) ?_
  refine imp_rule (fun X wx h => call_rule h (fun M I _ h => balNil k.loan acct _ M I h) fun _ w1 _ H1 => imp_done H1 ?_)
  refine imp_rule (fun X wx h => call_rule h (fun M I _ h => ctlNil acct _ M I h) fun _ w1 _ H1 => imp_done H1 ?_)
  refine imp_rule (fun X wx h => call_rule h (fun M I _ h => copyNil _ M I h) fun _ w1 _ H1 => imp_done H1 ?_)
  refine imp_rule (fun X wx h => call_rule h (fun M I _ h => sameNils _ M I h) fun _ w1 _ H1 => imp_done H1 ?_)
  refine imp_rule (fun X wx h => call_rule h (fun M I _ h => sameNil l.1 _ M I h) fun _ w1 _ H1 => imp_done H1 ?_)
  refine pass_rule _ (fun w h => load_rule tok h (v := .slice (some ⟨z.1, 0, none⟩) 2 z.2) rfl ⟨rfl, rfl⟩) ?_
  refine pass_rule _ (fun w h => idx_own tok rfl rfl (by decide) (by decide) ⟨rfl, rfl⟩) ?_
  refine pass_rule _ (fun w h => row_ld (n := 2) (c := z.2) tok h (v := .int .i64 (-5)) rfl ⟨rfl, rfl⟩) ?_
  refine imp_rule (fun X wx h => call_rule h (fun M I _ h => codeF (.fault p k.loan 10) _ M I h) fun _ w1 _ H1 => imp_done H1 ?_)
  refine imp_rule (fun X wx h => call_rule h (fun M I _ h => atE p k.loan 10 _ M I h) fun _ w1 _ H1 => imp_done H1 ?_)
  refine pass_rule _ (fun w h => load_rule tok h (v := .int .u32 k.loan) rfl ⟨rfl, rfl⟩) ?_
  refine done_rule fun wz Hz => ?_
  refine Exists.intro () (And.intro ?_ (And.intro trivial (Hp.keep Hz)))
  have ew : IntKind.u64.wrap k.loan = k.loan := by
    obtain ⟨h1, h2⟩ := hk0
    simp only [kLo, kHi] at h1 h2
    exact wrap_id ⟨h1, by show _ ≤ (18446744073709551615 : Int); omega⟩
  show Value.bool (k.loan == IntKind.u64.wrap k.loan) = Value.bool true
  rw [ew]; simp
end Go.Proofs.YtfemfomgmopibaaGreatDoor
