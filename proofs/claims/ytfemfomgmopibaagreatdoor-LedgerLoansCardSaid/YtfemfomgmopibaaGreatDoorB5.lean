/- The ledger: how many lines, balances, a copy: the walks. -/
import Derived.Test.YtfemfomgmopibaaGreatDoorB4
namespace Go.Wk
/-- append(v, l..): both rows of one's own. -/
theorem append_row {P : Program} {T : Tab} {K : Value → World → Prop} {w : World} {B : Base} {S : List Asn} {F : List Fact} (hT : T.Ok P) (H : Hp B S F w) {e sz n m c : Nat} {A : Option Addr} {v : Value} {cs news : List Value} {S1 S2 : List Asn} {t ty e2 : TypeId} {it : TypeInfo} {de : TD} {z : Value} [h1 : TakeR S v e sz n cs S1] [h2 : TakeR S1 (.slice A m c) e2 sz m news S2]
    {cst : List Bool} (ht : T t = some ⟨.slice e, it⟩) (he : T e = some de) (hz : de.info.zero = some z) (hzs : Nat.beq z.cells.size sz = true) (hsz : Nat.beq de.info.size sz = true) (hp : Nat.ble 1 sz = true) (ho : ∀ u ∈ news, u.oneCell' = true)
    (hb : (n + m) * de.info.bytes ≤ 140737488355328) (hm : n + m ≤ 140737488355328)
    (k : ∀ A' c' w', Hp B (row e sz (.slice A' (n + m) c') (n + m) (cs ++ news) :: S1) F w' → K (.slice A' (n + m) c') w') : BuiltinK P K w .append [t, t] ty cst [v, .slice A m c] := by
  have H1 := H.perm h1.perm
  obtain ⟨fa, hfa⟩ := Hp.own (A := row e sz v n cs) (S' := S1) (hp := ⟨.refl _⟩) H1
  obtain ⟨fb, hfb⟩ := Hp.own (A := row e2 sz (.slice A m c) m news) (S' := row e sz v n cs :: S2) (hp := ⟨(h2.perm.cons _).trans (.swap _ _ _)⟩) H1
  have hsz' := Nat.eq_of_beq_eq_true hsz
  have fin : ∀ v' w', w'.ownsRow 0 e sz v' (n + m) (cs ++ news) → w.grownBy w' v.ownBlock → (v'.ownBlock = v.ownBlock ∨ v'.ownBlock = some w.heap.size) → (Builtin.append_ #[t, t] ty #[v, .slice A m c]).run P w = .ok v' w' → BuiltinK P K w .append [t, t] ty cst [v, .slice A m c] := by
    intro v' w' hown hg hat hr
    have H3 : Hp B (row e sz v' (n + m) (cs ++ news) :: S1) F w' := by
      refine Hp.step (A := row e sz v n cs) (hp := ⟨.refl _⟩) H1 hg.os hg.tape hg.output hg.size fun fa ha => ⟨fun k hk hn => hg.block k hk fun e => hn ((ha.2 k).2 e.symm), fun k => v'.ownBlock = some k, ⟨hown, fun _ => Iff.rfl⟩, fun k hk => ?_⟩
      rcases hat with h | h
      · exact .inl ((ha.2 k).2 (h ▸ hk))
      · rw [h] at hk
        injection hk with hk
        subst hk
        exact .inr (Nat.le_refl _)
    obtain ⟨A', c', rfl, _⟩ := row_shape (w := w') (fp := fun k => v'.ownBlock = some k) ⟨hown, fun _ => Iff.rfl⟩
    refine BuiltinK.of (v := .slice A' (n + m) c') (w' := w') ?_ (k A' c' w' H3)
    simp only [builtin]
    rw [Sem.run_bind]
    have hr' : (Builtin.append_ [t, t].toArray ty [v, .slice A m c].toArray).run P w = .ok (.slice A' (n + m) c') w' := hr
    rw [hr']; rfl
  have hlen := hfb.1.1
  cases A with
  | none =>
    obtain ⟨A2, c2, e1, _, _, hne⟩ := row_shape hfb
    have hm0 : m = 0 ∧ c = 0 := by
      rcases hfb.1.2 with ⟨h, _⟩ | ⟨g, cap, cur, h, _⟩
      · injection h with _ h2 h3; exact ⟨h2, h3⟩
      · cases h
    obtain ⟨rfl, rfl⟩ := hm0
    obtain rfl : news = [] := List.length_eq_zero_iff.1 (by rw [hlen]; omega)
    refine fin v w (by simpa using hfa.1) ⟨rfl, rfl, rfl, Nat.le_refl _, fun _ _ _ => rfl⟩ (.inl rfl) ?_
    exact run_append_owned_none (P := P) w 0 t ty e de.info sz (hT t _ ht).1 (hT e _ he).2 v n cs hfa.1
  | some a =>
    have ha : a = ⟨a.block, 0, none⟩ := by
      rcases hfb.1.2 with ⟨h, _⟩ | ⟨g, cap, cur, h, _⟩
      · cases h
      · injection h with h1 _ _
        injection h1 with h1
        rw [h1]
    obtain ⟨_, _, hcs, _, _⟩ := row_cells hfb (b := a.block) (o := 0) (m := m) (c := c) (by rw [← ha])
    obtain ⟨v', w', hrun, hown, hg, _, hat⟩ := run_append_own_at (P := P) w 0 t ty e de.info z sz de.info.bytes (hT t _ ht).1 (hT e _ he).2 hz hsz' rfl (Nat.eq_of_beq_eq_true hzs) (Nat.le_of_ble_eq_true hp) v n cs hfa.1 a m c news hlen
      (fun j u hj => by rw [ha, add_plain]; exact hcs j u hj) ho (by unfold maxLen; omega) hb (Nat.zero_le _)
    exact fin v' w' hown hg hat hrun
theorem mapClone_rule {P : Program} {K : Value → World → Prop} {w : World} {B : Base} {S S' : List Asn} {F : List Fact} {κ ν : Type} {kf : κ → Value} {vf : ν → Value} {n g : Nat} {l : List (κ × ν)} {fn : Func} {t : TypeId} (H : Hp B S F w) [hp : TakeM S n kf vf l S'] (hf : P.funcs[g]? = some fn) (hname : (fn.name == "runtime.NumGoroutine") = false)
    (hb : fn.body.isNone = true) (hn : Extern.findNext fn = none) (he : Extern.find fn = some Extern.MapsClone.clone) (k : ∀ m w', Hp B (mapO m kf vf l :: S) F w' → K (.iface t (.map (some m))) w') : CallK P K w (.func (.func g) #[] #[]) [.iface t (.map (some n))] := by
  obtain ⟨fa, _, es, clock, h1, h2, h3, h4⟩ := H.own (A := mapO n kf vf l) (hp := ⟨hp.perm⟩)
  refine CallK_ext (v := .iface t (.map (some w.heap.size))) (w' := w.alloc (.map es clock)) hf hname hb hn he ?_ (k _ _ ?_)
  · have hg : (getObj n).run P w = .ok (.map es clock) w := by simp [getObj, Sem.run, h1]
    have e : Extern.MapsClone.clone #[.iface t (.map (some n))] = (getObj n >>= fun o => match o with
        | .map entries clock => (newObj (.map entries clock) >>= fun n => pure (.iface t (.map (some n))))
        | _ => stuck "maps.clone: a map expected") := rfl
    show (Extern.MapsClone.clone #[.iface t (.map (some n))]).run P w = _
    rw [e]
    simp [hg, Result.andThen]
  · have h := H.alloc (.map es clock)
    have hp : Take (blkO w.heap.size (.map es clock) :: S) (blkO w.heap.size (.map es clock)) S := ⟨.refl _⟩
    exact h.step (A := blkO w.heap.size (.map es clock)) rfl rfl rfl (Nat.le_refl _) fun fa ha => ⟨fun _ _ _ => rfl, fa, ⟨ha.1, es, clock, ha.2, h2, h3, h4⟩, fun b hb => .inl hb⟩
theorem fresh_box_as {P : Program} {B : Base} {S A : List Asn} {GF : List Fact} {o : Oper} {ρ : Operand → Value} {K : Nat → List Asn → Prop} {t : TypeId} {x : Operand} (cs : List Value) (ho : o.op = .box t x) (hc : (ρ x).cells.toList = cs) (k : ∀ n, K n (blk n cs t :: A)) : FreshK P B S A GF o ρ K := by
  subst hc
  exact fresh_box ho k
end Go.Wk
namespace Go.Proofs.YtfemfomgmopibaaGreatDoor
open Go Go.Proofs Go.Wk
theorem as81 (x : Value) (w : World) : (Instr.typeAssert (.iface 81 x) 20 81 false).run Tryz.prog w = .ok x w := by kernel_rfl
theorem as82 (x : Value) (w : World) : (Instr.typeAssert (.iface 82 x) 20 82 false).run Tryz.prog w = .ok x w := by kernel_rfl
theorem lnsC_one : ∀ (xs : List Ln), ∀ u ∈ lnsC xs, u.oneCell' = true
  | [], u, h => by cases h
  | x :: r, u, h => by
    rcases List.mem_append.1 h with h | h
    · simp only [List.mem_cons, List.not_mem_nil, or_false] at h
      rcases h with rfl | rfl | rfl | rfl | rfl | rfl <;> rfl
    · exact lnsC_one r u h
theorem len__ (l m1 m2 : Nat) (s : SV) (w : World) (M I : BS) (H : Hp ⟨w, M, I⟩ [blk l [.slice s.A s.n s.c, .map (some m1), .map (some m2)] 85] [] w) :
    Ctr Tryz.prog 18 [.pointer (some ⟨l, 0, none⟩)] w M I (fun _ : Unit => .int .i64 (s.n : Int)) (fun _ => True) (fun _ => [blk l [.slice s.A s.n s.c, .map (some m1), .map (some m2)] 85]) (fun _ => []) := by
  refine Exe.of_ev tok Tryz.call18 Tryz.func18 rfl rfl rfl ?_
  refine load_rule tok H (v := .slice s.A s.n s.c) rfl ?_
  exact Exists.intro () (And.intro rfl (And.intro trivial H.keep))
theorem balance (l m1 m2 : Nat) (s : SV) (m : List (Pr × Int)) (loan acct : Int) (w : World) (M I : BS) (H : Hp ⟨w, M, I⟩ [blk l [.slice s.A s.n s.c, .map (some m1), .map (some m2)] 85, mapO m2 prV iV m] [] w) :
    Ctr Tryz.prog 15 [.pointer (some ⟨l, 0, none⟩), .int .u32 loan, .int .u8 acct] w M I (fun _ : Unit => .int .i64 (getS m ⟨loan, acct, false⟩)) (fun _ => True) (fun _ => [blk l [.slice s.A s.n s.c, .map (some m1), .map (some m2)] 85, mapO m2 prV iV m]) (fun _ => []) := by
  refine Exe.of_ev tok Tryz.call15 Tryz.func15 rfl rfl rfl ?_
  refine load_rule tok H (v := .map (some m2)) rfl ?_
  refine lookup_rule (n := m2) (k := ⟨loan, acct, false⟩) tok H rfl rfl rfl prKeys rfl (getV m ⟨loan, acct, false⟩) ?_
  exact Exists.intro () (And.intro rfl (And.intro trivial H.keep))
theorem control (l m1 m2 : Nat) (s : SV) (m : List (Pr × Int)) (acct : Int) (w : World) (M I : BS) (H : Hp ⟨w, M, I⟩ [blk l [.slice s.A s.n s.c, .map (some m1), .map (some m2)] 85, mapO m2 prV iV m] [] w) :
    Ctr Tryz.prog 17 [.pointer (some ⟨l, 0, none⟩), .int .u8 acct] w M I (fun _ : Unit => .int .i64 (getS m ⟨0, acct, true⟩)) (fun _ => True) (fun _ => [blk l [.slice s.A s.n s.c, .map (some m1), .map (some m2)] 85, mapO m2 prV iV m]) (fun _ => []) := by
  refine Exe.of_ev tok Tryz.call17 Tryz.func17 rfl rfl rfl ?_
  refine load_rule tok H (v := .map (some m2)) rfl ?_
  refine lookup_rule (n := m2) (k := ⟨0, acct, true⟩) tok H rfl rfl rfl prKeys rfl (getV m ⟨0, acct, true⟩) ?_
  exact Exists.intro () (And.intro rfl (And.intro trivial H.keep))
theorem cloneLns (s : SV) (xs : List Ln) (hn : xs.length ≤ 100000) (hs : s.n = xs.length) (w : World) (M I : BS) (H : Hp ⟨w, M, I⟩ [row 69 6 (.slice s.A s.n s.c) s.n (lnsC xs)] [] w) :
    Ctr Tryz.prog 30 [.slice s.A s.n s.c] w M I (fun a : SV => .slice a.A a.n a.c) (fun a => a.n = s.n) (fun a => [row 69 6 (.slice a.A a.n a.c) a.n (lnsC xs), row 69 6 (.slice s.A s.n s.c) s.n (lnsC xs)]) (fun _ => []) := by
  obtain ⟨A, n, c⟩ := s
  simp only at hs H ⊢
  cases A with
  | none =>
    have h0 : n = 0 ∧ c = 0 := by
      obtain ⟨fa, hfa⟩ := H.own (A := row 69 6 (.slice none n c) n (lnsC xs)) (hp := ⟨.refl _⟩)
      rcases hfa.1.2 with ⟨h, _⟩ | ⟨g, cap, cur, h, _⟩
      · injection h with _ h2 h3; exact ⟨h2, h3⟩
      · cases h
    obtain ⟨rfl, rfl⟩ := h0
    obtain rfl : xs = [] := List.length_eq_zero_iff.1 hs.symm
    refine Exe.of_ev tok Tryz.call30 Tryz.func30 rfl rfl rfl ?_
    have H2 : Hp ⟨w, M, I⟩ [row 69 6 (.slice none 0 0) 0 (lnsC []), row 69 6 (.slice none 0 0) 0 (lnsC [])] [] w := Hp.nil H 69 6
    exact Exists.intro ⟨none, 0, 0⟩ (And.intro rfl (And.intro rfl H2))
  | some ad =>
    refine Exe.of_ev tok Tryz.call30 Tryz.func30 rfl rfl rfl ?_
    refine slice_as tok H [] rfl rfl rfl rfl rfl rfl fun g w1 H1 => ?_
    have H2 : Hp ⟨w, M, I⟩ [row 69 6 (.slice (some ⟨g, 0, none⟩) 0 0) 0 [], row 69 6 (.slice (some ad) n c) n (lnsC xs)] [] w1 := H1.toRow 6 0 rfl (by decide)
    refine append_row (v := .slice (some ⟨g, 0, none⟩) 0 0) (A := some ad) (m := n) (c := c) tok H2 rfl rfl rfl rfl rfl rfl (lnsC_one xs) (by show (0 + n) * 48 ≤ _; omega) (by omega) fun A2 c2 w4 H4 => ?_
    have hz : 0 + n = n := Nat.zero_add n
    exact Exists.intro ⟨A2, 0 + n, c2⟩ (And.intro rfl (And.intro hz H4))
theorem cloneLive (m1 : Nat) (m : List (Key × Int)) (w : World) (M I : BS) (H : Hp ⟨w, M, I⟩ [mapO m1 keyV iV m] [] w) :
    Ctr Tryz.prog 31 [.map (some m1)] w M I (fun a : Nat => .map (some a)) (fun _ => True) (fun a => [mapO a keyV iV m, mapO m1 keyV iV m]) (fun _ => []) := by
  refine Exe.of_ev tok Tryz.call31 Tryz.func31 rfl rfl rfl ?_
  refine mapClone_rule (n := m1) H Tryz.func58 (by kernel_rfl) (by kernel_rfl) (by kernel_rfl) (by kernel_rfl) fun a w1 H1 => ?_
  refine AssertK.run (v := .map (some a)) (as81 _ _) ?_
  exact Exists.intro a (And.intro rfl (And.intro trivial H1))
theorem cloneSums (m1 : Nat) (m : List (Pr × Int)) (w : World) (M I : BS) (H : Hp ⟨w, M, I⟩ [mapO m1 prV iV m] [] w) :
    Ctr Tryz.prog 32 [.map (some m1)] w M I (fun a : Nat => .map (some a)) (fun _ => True) (fun a => [mapO a prV iV m, mapO m1 prV iV m]) (fun _ => []) := by
  refine Exe.of_ev tok Tryz.call32 Tryz.func32 rfl rfl rfl ?_
  refine mapClone_rule (n := m1) H Tryz.func58 (by kernel_rfl) (by kernel_rfl) (by kernel_rfl) (by kernel_rfl) fun a w1 H1 => ?_
  refine AssertK.run (v := .map (some a)) (as82 _ _) ?_
  exact Exists.intro a (And.intro rfl (And.intro trivial H1))
structure CpR where
  l : Nat
  m1 : Nat
  m2 : Nat
  s : SV
set_option maxHeartbeats 1000000 in
theorem copy_ (l m1 m2 : Nat) (s : SV) (d : Led) (hn : d.lns.length ≤ 100000) (hs : s.n = d.lns.length) (w : World) (M I : BS) (H : Hp ⟨w, M, I⟩ (ledA l m1 m2 s d) [] w) :
    Ctr Tryz.prog 10 [.pointer (some ⟨l, 0, none⟩)] w M I (fun a : CpR => .pointer (some ⟨a.l, 0, none⟩)) (fun a => a.s.n = s.n)
      (fun a => [blk a.l [.slice a.s.A a.s.n a.s.c, .map (some a.m1), .map (some a.m2)] 85, row 69 6 (.slice a.s.A a.s.n a.s.c) a.s.n (lnsC d.lns), mapO a.m1 keyV iV d.live, mapO a.m2 prV iV d.sums, blk l [.slice s.A s.n s.c, .map (some m1), .map (some m2)] 85, row 69 6 (.slice s.A s.n s.c) s.n (lnsC d.lns), mapO m1 keyV iV d.live, mapO m2 prV iV d.sums]) (fun _ => []) := by
  refine Exe.of_ev tok Tryz.call10 Tryz.func10 rfl rfl rfl ?_
  refine draw_rule (A := []) tok tdr H [0, 1, 2, 3, 4, 5, 6, 7, 8, 9, 10, 11, 12, 13, 14, 15, 16, 17] [0, 1, 3, 7, 15, 0, 32, 96, 224, 511, 0, 1024, 3072, 7168, 16383, 32767, 65535, 131071] rfl ?_
  refine pass_rule _ (fun w h => load_rule tok h (v := .slice s.A s.n s.c) rfl ⟨rfl, rfl⟩) ?_
  refine imp_rule (fun X wx h => call_rule h (fun M I _ h => cloneLns s d.lns hn hs _ M I h) fun s2 w1 hs2 H1 => imp_done H1 ?_)
  refine pass_rule _ (fun w h => load_rule tok h (v := .map (some m1)) rfl ⟨rfl, rfl⟩) ?_
  refine imp_rule (fun X wx h => call_rule h (fun M I _ h => cloneLive m1 d.live _ M I h) fun n1 w1 _ H1 => imp_done H1 ?_)
  refine pass_rule _ (fun w h => load_rule tok h (v := .map (some m2)) rfl ⟨rfl, rfl⟩) ?_
  refine imp_rule (fun X wx h => call_rule h (fun M I _ h => cloneSums m2 d.sums _ M I h) fun n2 w1 _ H1 => imp_done H1 ?_)
  refine fresh_box_as [.slice s2.A s2.n s2.c, .map (some n1), .map (some n2)] rfl rfl fun l2 => ?_
  refine done_rule fun w5 H5 => ?_
  exact Exists.intro ⟨l2, n1, n2, s2⟩ (And.intro rfl (And.intro hs2 (Hp.keep H5)))
end Go.Proofs.YtfemfomgmopibaaGreatDoor
