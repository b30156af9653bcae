/- The ledger: Reverse: the walk. -/
import Derived.Test.YtfemfomgmopibaaGreatDoorLk8
namespace Go.Proofs.YtfemfomgmopibaaGreatDoor
open Go Go.Proofs Go.Wk
theorem lnsC_drop : ∀ (xs : List Ln) (j : Nat), (lnsC xs).drop (j * 6) = lnsC (xs.drop j)
  | xs, 0 => by simp
  | [], j + 1 => by simp [lnsC]
  | x :: r, j + 1 => by
    rw [show (j + 1) * 6 = j * 6 + 6 by omega, lnsC]
    rw [show (lnC x ++ lnsC r).drop (j * 6 + 6) = (lnsC r).drop (j * 6) by
      rw [Nat.add_comm, ← List.drop_drop]; rfl]
    exact lnsC_drop r j
theorem lns_get {xs : List Ln} {j : Nat} {x : Ln} (h : xs[j]? = some x) : ldV (tb 39) (lnsC xs) (0 + j * 6 + 0) = some (.agg #[.int .u32 x.k.loan, .int .i32 x.k.day, .int .u8 x.k.kind, .int .u32 x.k.seq, .slice x.s.A x.s.n x.s.c]) := by
  obtain ⟨hj, _⟩ := List.getElem?_eq_some_iff.1 h
  have hd : xs.drop j = x :: xs.drop (j + 1) := by
    rw [List.drop_eq_getElem_cons hj]
    rw [List.getElem?_eq_getElem hj] at h
    rw [Option.some.inj h]
  show (bif Nat.ble (0 + j * 6 + 0 + 5) (lnsC xs).length then some (Value.agg (((lnsC xs).drop (0 + j * 6 + 0)).take 5).toArray) else none) = _
  rw [show 0 + j * 6 + 0 = j * 6 by omega, lnsC_drop, hd]
  have : Nat.ble (j * 6 + 5) (lnsC xs).length = true := by rw [Nat.ble_eq, lnsC_len]; omega
  rw [this]
  rfl
theorem lns_of {xs : List Ln} {j : Nat} {x : Ln} (h : xs[j]? = some x) : ldV (tb 3) (lnsC xs) (0 + j * 6 + 5) = some (.int .i64 x.of) := by
  obtain ⟨hj, _⟩ := List.getElem?_eq_some_iff.1 h
  have hd : xs.drop j = x :: xs.drop (j + 1) := by
    rw [List.drop_eq_getElem_cons hj]
    rw [List.getElem?_eq_getElem hj] at h
    rw [Option.some.inj h]
  show (lnsC xs)[0 + j * 6 + 5]? = _
  have : (lnsC xs)[0 + j * 6 + 5]? = ((lnsC xs).drop (j * 6))[5]? := by rw [List.getElem?_drop]; congr 1; omega
  rw [this, lnsC_drop, hd]
  rfl
/-- One line's legs read. -/
theorem Hp.lnAt {w : World} {B : Base} {S : List Asn} {F : List Fact} (H : Hp B S F w) {xs : List Ln} [hp : InF F (LnF xs)] {x : Ln} (hx : x ∈ xs) : Hp B S (Sl legR (.slice x.s.A x.s.n x.s.c) x.ls :: F) w :=
  H.facts fun I ha f hf => by
    rcases List.mem_cons.1 hf with rfl | hf
    · exact ha _ hp.mem x hx
    · exact ha f hf
def revOk (s : SV) (d : Led) (k : Key) (a : AR) : Prop := match lk k d.live with
  | none => ∃ p, a = ⟨.fault p k.loan 3, s, d⟩
  | some i => ∃ x, d.lns[i.toNat]? = some x ∧ (if rightB x.k x.ls = false then a = ⟨.code 1, s, d⟩ else if turnGo 0 x.ls = false then a = ⟨.code 12, s, d⟩
      else match nextGo d.sums x.k.loan (x.ls.map negL) [] with
      | none => ∃ p, a = ⟨.fault p x.k.loan 12, s, d⟩
      | some nx => a.e = .none ∧ a.s.n = s.n + 1 ∧ a.d.live = delL k d.live ∧ (∃ sv, a.d.lns = d.lns ++ [⟨x.k, sv, i + 1, x.ls.map negL⟩]) ∧ ∀ p, lk p a.d.sums = (lk p nx).or (lk p d.sums))
set_option maxRecDepth 20000 in
set_option maxHeartbeats 2000000 in
theorem reverse_ (l m1 m2 : Nat) (s : SV) (d : Led) (hd : d.lns.length ≤ 100000) (hsn : s.n = d.lns.length) (hs : ∀ p, inK .i64 (getS d.sums p)) (k : Key) (hk : keyIn k) (hinv : ∀ i, lk k d.live = some i → 0 ≤ i ∧ ∃ x, d.lns[i.toNat]? = some x ∧ keyIn x.k ∧ x.ls.length ≤ 1000) (w : World) (M I : BS)
    (H : Hp ⟨w, M, I⟩ (ledA l m1 m2 s d) [LnF d.lns] w) :
    Ctr Tryz.prog 16 [.pointer (some ⟨l, 0, none⟩), keyV k] w M I (fun a : AR => errFV a.e) (revOk s d k) (fun a => errFA a.e :: ledA l m1 m2 a.s a.d) (fun a => [LnF a.d.lns]) := by
  obtain ⟨hk1, hk2⟩ := hk.1
  simp only [kLo, kHi] at hk1 hk2
  have ew : IntKind.u64.wrap k.loan = k.loan := wrap_id ⟨hk1, by show _ ≤ (18446744073709551615 : Int); omega⟩
  cases hlk : lk k d.live with
  | none =>
    have q2 : (lk k d.live).isSome = false := by rw [hlk]; rfl
    refine Exe.of_ev tok Tryz.call16 Tryz.func16 rfl rfl rfl ?_
    refine box_as H (keyC k) rfl fun x w1 H1 => ?_
    refine draw_rule (A := []) tok tdr H1 [0, 1, 2, 3, 4, 5, 6, 7, 8, 9, 10] [0, 1, 3, 7, 0, 31, 63, 127, 127, 255, 1023] rfl ?_
    refine pass_rule _ (fun w h => load_rule tok h (v := .map (some m1)) rfl ⟨rfl, rfl⟩) ?_
    refine pass_rule _ (fun w h => load_rule tok h (v := keyV k) rfl ⟨rfl, rfl⟩) ?_
    refine pass_rule (.tuple #[.int .i64 ((lk k d.live).getD 0), .bool (lk k d.live).isSome]) (fun w h => lookup_ok_rule (n := m1) tok h rfl rfl rfl keyKeys rfl (liveV d.live k) ⟨rfl, rfl⟩) ?_
    refine done_rule fun w3 H3 => ?_
    refine br (fun _ => ?_) (fun q => ?_)
    · refine load_rule tok H3 (v := .int .u32 k.loan) rfl ?_
      refine box_as H3 [.int .u64 (IntKind.u64.wrap k.loan), .iface 47 (.int .i64 3)] rfl fun pf w4 H4 => ?_
      rw [ew] at H4
      have okk : revOk s d k ⟨.fault pf k.loan 3, s, d⟩ := by unfold revOk; rw [hlk]; exact ⟨pf, rfl⟩
      have H5 : Hp ⟨w, M, I⟩ (blk pf [.int .u64 k.loan, .iface 47 (.int .i64 3)] 104 :: ledA l m1 m2 s d) [LnF d.lns] w4 := Hp.keep H4
      exact Exists.intro ⟨.fault pf k.loan 3, s, d⟩ (And.intro rfl (And.intro okk H5))
    · exfalso
      have q : (lk k d.live).isSome = true := by simpa using q
      rw [q2] at q; cases q
  | some i =>
    have q2 : (lk k d.live).isSome = true := by rw [hlk]; rfl
    obtain ⟨hi0, y, hy1, hyk, hyl⟩ := hinv i hlk
    obtain ⟨sA, sn, sc⟩ := s
    simp only at hsn
    have hil : i.toNat < d.lns.length := (List.getElem?_eq_some_iff.1 hy1).1
    obtain ⟨b, hb⟩ := H.rowSome (A := sA) (n := sn) (c := sc) (by omega)
    subst hb
    have hgd : (lk k d.live).getD 0 = i := by rw [hlk]; rfl
    have hym : y ∈ d.lns := List.mem_of_getElem? hy1
    have hio : IntKind.i64.wrap (i + 1) = i + 1 := w64 (by omega) (by omega)
    refine Exe.of_ev tok Tryz.call16 Tryz.func16 rfl rfl rfl ?_
    refine box_as H (keyC k) rfl fun x w1 H1 => ?_
    refine draw_rule (A := []) tok tdr H1 [0, 1, 2, 3, 4, 5, 6, 7, 8, 9, 10] [0, 1, 3, 7, 0, 31, 63, 127, 127, 255, 1023] rfl ?_
    refine pass_rule _ (fun w h => load_rule tok h (v := .map (some m1)) rfl ⟨rfl, rfl⟩) ?_
    refine pass_rule _ (fun w h => load_rule tok h (v := keyV k) rfl ⟨rfl, rfl⟩) ?_
    refine pass_rule (.tuple #[.int .i64 i, .bool true]) (fun w h => lookup_ok_rule (n := m1) tok h rfl rfl rfl keyKeys rfl (by rw [hlk]; rfl) ⟨rfl, rfl⟩) ?_
    refine done_rule fun w3 H3 => ?_
    refine load_rule tok H3 (v := .slice (some ⟨b, 0, none⟩) sn sc) rfl ?_
    refine idx_own tok rfl rfl hi0 (by omega) ?_
    refine row_ld tok H3 (v := .agg #[.int .u32 y.k.loan, .int .i32 y.k.day, .int .u8 y.k.kind, .int .u32 y.k.seq, .slice y.s.A y.s.n y.s.c]) (lns_get hy1) ?_
    have H3' := Hp.lnAt H3 (xs := d.lns) hym
    refine call_rule H3' (fun M I h0 h => turned y.k hyk.2.2.1 y.s.A y.s.n y.s.c y.ls _ M I (h0 rfl) h) fun t => ?_
    cases t with
    | bad c =>
      intro w4 ht H4
      have okk : revOk ⟨some ⟨b, 0, none⟩, sn, sc⟩ d k ⟨.code c, ⟨some ⟨b, 0, none⟩, sn, sc⟩, d⟩ := by
        unfold revOk
        rw [hlk]
        refine ⟨y, hy1, ?_⟩
        rcases ht with ⟨e1, e2⟩ | ⟨e1, e2, e3⟩
        · rw [if_pos e1, e2]
        · rw [if_neg (by rw [e1]; simp), if_pos e2, e3]
      refine alloc_as tok H4 [.int .u32 0, .int .i32 0, .int .u8 0, .int .u32 0, .slice none 0 0] rfl rfl rfl fun t7 w5 H5 => ?_
      refine store_as tok H5 [.int .u32 0, .int .i32 0, .int .u8 0, .int .u32 0, .slice none 0 0] rfl rfl rfl rfl rfl fun w6 H6 => ?_
      have H7 : Hp ⟨w, M, I⟩ (ledA l m1 m2 ⟨some ⟨b, 0, none⟩, sn, sc⟩ d) [LnF d.lns] w6 := Hp.keep H6
      exact Exists.intro ⟨.code c, ⟨some ⟨b, 0, none⟩, sn, sc⟩, d⟩ (And.intro rfl (And.intro okk (Hp.addEmp H7)))
    | ok ts =>
      intro w4 ht H4
      obtain ⟨hr1, hr2, hr3⟩ := ht
      have hr1' : ¬ rightB y.k y.ls = false := by rw [hr1]; simp
      have hr2' : ¬ turnGo 0 y.ls = false := by rw [hr2]; simp
      refine alloc_as tok H4 [.int .u32 0, .int .i32 0, .int .u8 0, .int .u32 0, .slice none 0 0] rfl rfl rfl fun t7 w5 H5 => ?_
      refine store_as tok H5 (entC y.k ts.A ts.n ts.c) rfl rfl rfl rfl rfl fun w6 H6 => ?_
      refine load_rule tok H6 (v := .agg #[.int .u32 y.k.loan, .int .i32 y.k.day, .int .u8 y.k.kind, .int .u32 y.k.seq, .slice ts.A ts.n ts.c]) rfl ?_
      have H6 : Hp ⟨w, M, I⟩ [blk l [.slice (some ⟨b, 0, none⟩) sn sc, .map (some m1), .map (some m2)] 85, row 69 6 (.slice (some ⟨b, 0, none⟩) sn sc) sn (lnsC d.lns), mapO m1 keyV iV d.live, mapO m2 prV iV d.sums, blk x (keyC k) 26, blk t7 (entC y.k ts.A ts.n ts.c) 39] [Sl legR (.slice ts.A ts.n ts.c) (y.ls.map negL), LnF d.lns] w6 := Hp.keep H6
      refine call_rule H6 (fun M I _ h => add_ l m1 m2 ⟨some ⟨b, 0, none⟩, sn, sc⟩ d hd hsn hs y.k hyk ts.A ts.n ts.c (y.ls.map negL) (by rw [List.length_map]; exact hyl) (IntKind.i64.wrap (i + 1)) _ M I h) fun a => ?_
      rcases a with ⟨e, s2, d2⟩
      cases e with
      | code c0 =>
        intro w7 ha H7
        exfalso
        unfold addOk at ha
        cases hg : nextGo d.sums y.k.loan (y.ls.map negL) [] with
        | none => rw [hg] at ha; obtain ⟨⟨p, hp⟩, _⟩ := ha; cases hp
        | some nx => rw [hg] at ha; cases ha.1
      | fault pf a0 c0 =>
        intro w7 ha H7
        have H7 : Hp ⟨w, M, I⟩ [blk pf [.int .u64 a0, .iface 47 (.int .i64 c0)] 104, blk l [.slice s2.A s2.n s2.c, .map (some m1), .map (some m2)] 85, row 69 6 (.slice s2.A s2.n s2.c) s2.n (lnsC d2.lns), mapO m1 keyV iV d2.live, mapO m2 prV iV d2.sums, blk x (keyC k) 26, blk t7 (entC y.k ts.A ts.n ts.c) 39] [LnF d2.lns, Sl legR (.slice ts.A ts.n ts.c) (y.ls.map negL), LnF d.lns] w7 := H7
        have H7 : Hp ⟨w, M, I⟩ [blk pf [.int .u64 a0, .iface 47 (.int .i64 c0)] 104, blk l [.slice s2.A s2.n s2.c, .map (some m1), .map (some m2)] 85, row 69 6 (.slice s2.A s2.n s2.c) s2.n (lnsC d2.lns), mapO m1 keyV iV d2.live, mapO m2 prV iV d2.sums] [LnF d2.lns] w7 := Hp.keep H7
        have okk : revOk ⟨some ⟨b, 0, none⟩, sn, sc⟩ d k ⟨.fault pf a0 c0, s2, d2⟩ := by
          unfold revOk
          rw [hlk]
          refine ⟨y, hy1, ?_⟩
          rw [if_neg hr1', if_neg hr2']
          unfold addOk at ha
          cases hg : nextGo d.sums y.k.loan (y.ls.map negL) [] with
          | none =>
            rw [hg] at ha
            obtain ⟨⟨p, hp⟩, h1, h2⟩ := ha
            simp only at hp h1 h2
            injection hp with e1 e2 e3
            subst e1 e2 e3 h1 h2
            exact ⟨pf, rfl⟩
          | some nx => rw [hg] at ha; cases ha.1
        exact Exists.intro ⟨.fault pf a0 c0, s2, d2⟩ (And.intro rfl (And.intro okk H7))
      | none =>
        intro w7 ha H7
        unfold addOk at ha
        cases hg : nextGo d.sums y.k.loan (y.ls.map negL) [] with
        | none => rw [hg] at ha; obtain ⟨⟨p, hp⟩, _⟩ := ha; cases hp
        | some nx =>
          rw [hg] at ha
          obtain ⟨_, h2, h3, h4, h5⟩ := ha
          simp only at h2 h3 h4 h5
          have H7 : Hp ⟨w, M, I⟩ [empA, blk l [.slice s2.A s2.n s2.c, .map (some m1), .map (some m2)] 85, row 69 6 (.slice s2.A s2.n s2.c) s2.n (lnsC d2.lns), mapO m1 keyV iV d2.live, mapO m2 prV iV d2.sums, blk x (keyC k) 26, blk t7 (entC y.k ts.A ts.n ts.c) 39] [LnF d2.lns, Sl legR (.slice ts.A ts.n ts.c) (y.ls.map negL), LnF d.lns] w7 := H7
          have H8 : Hp ⟨w, M, I⟩ [blk l [.slice s2.A s2.n s2.c, .map (some m1), .map (some m2)] 85, row 69 6 (.slice s2.A s2.n s2.c) s2.n (lnsC d2.lns), mapO m1 keyV iV d2.live, mapO m2 prV iV d2.sums, blk x (keyC k) 26] [LnF d2.lns] w7 := Hp.keep H7
          refine draw_rule (A := [mapO m1 keyV iV d2.live]) tok tdr H8 [0, 1, 2, 3, 4, 5] [0, 1, 3, 7, 0, 31] rfl ?_
          refine pass_rule _ (fun w h => load_rule tok h (v := .map (some m1)) rfl ⟨rfl, rfl⟩) ?_
          refine pass_rule _ (fun w h => load_rule tok h (v := keyV k) rfl ⟨rfl, rfl⟩) ?_
          refine imp_rule (fun X wx h => delete_rule (n := m1) (k := k) tok h rfl keyKeys rfl fun w1 H1 => imp_done H1 ?_)
          refine done_rule fun w9 H9 => ?_
          have H10 : Hp ⟨w, M, I⟩ (ledA l m1 m2 s2 ⟨d2.lns, delL k d2.live, d2.sums⟩) [LnF d2.lns] w9 := Hp.keep H9
          have okk : revOk ⟨some ⟨b, 0, none⟩, sn, sc⟩ d k ⟨.none, s2, ⟨d2.lns, delL k d2.live, d2.sums⟩⟩ := by
            unfold revOk
            rw [hlk]
            refine ⟨y, hy1, ?_⟩
            rw [if_neg hr1', if_neg hr2', hg]
            rw [hio] at h4
            exact ⟨rfl, h2, by rw [h3], h4, h5⟩
          exact Exists.intro ⟨.none, s2, ⟨d2.lns, delL k d2.live, d2.sums⟩⟩ (And.intro rfl (And.intro okk (Hp.addEmp H10)))
end Go.Proofs.YtfemfomgmopibaaGreatDoor
namespace Go.Wk
/-- append(v, l..): both rows of one's own. -/
theorem append_row {P : Program} {T : Tab} {K : Value → World → Prop} {w : World} {B : Base} {S : List Asn} {F : List Fact} (hT : T.Ok P) (H : Hp B S F w) {e sz n m c : Nat} {A : Option Addr} {v : Value} {cs news : List Value} {S1 S2 : List Asn} {t ty e2 : TypeId} {it : TypeInfo} {de : TD} {z : Value} [h1 : TakeR S v e sz n cs S1] [h2 : TakeR S1 (.slice A m c) e2 sz m news S2]
    {cst : List Bool} (ht : T t = some ⟨.slice e, it⟩) (he : T e = some de) (hz : de.info.zero = some z) (hzs : Nat.beq z.cells.size sz = true) (hsz : Nat.beq de.info.size sz = true) (hp : Nat.ble 1 sz = true) (ho : ∀ u ∈ news, u.oneCell' = true)
    (hb : (n + m) * de.info.bytes ≤ 140737488355328) (hm : n + m ≤ 140737488355328)
    (k : ∀ A' c' w', Hp B (row e sz (.slice A' (n + m) c') (n + m) (cs ++ news) :: S1) F w' → K (.slice A' (n + m) c') w') : BuiltinK P K w .append [t, t] ty cst [v, .slice A m c] := by
  have H1 := H.perm h1.perm
  obtain ⟨fa, hfa⟩ := Hp.own (A := row e sz v n cs) (S' := S1) (hp := ⟨.refl _⟩) H1
  obtain ⟨fb, hfb⟩ := Hp.own (A := row e2 sz (.slice A m c) m news) (S' := row e sz v n cs :: S2) (hp := ⟨(h2.perm.cons _).trans (.swap _ _ _)⟩) H1
  have hsz' := Nat.eq_of_beq_eq_true hsz
  have fin : ∀ v' w', w'.ownsRow 0 e sz v' (n + m) (cs ++ news) → w.grownBy w' v.ownBlock → (v'.ownBlock = v.ownBlock ∨ v'.ownBlock = some w.heap.size) → (Builtin.append_ #[t, t] ty #[v, .slice A m c]).run P w = .ok v' w' → BuiltinK P K w .append [t, t] ty cst [v, .slice A m c] := by
    intro v' w' hown hg hat hr
    have H3 : Hp B (row e sz v' (n + m) (cs ++ news) :: S1) F w' := by
      refine Hp.step (A := row e sz v n cs) (hp := ⟨.refl _⟩) H1 hg.os hg.tape hg.output hg.size fun fa ha => ⟨fun k hk hn => hg.block k hk fun e => hn ((ha.2 k).2 e.symm), fun k => v'.ownBlock = some k, ⟨hown, fun _ => Iff.rfl⟩, fun k hk => ?_⟩
      rcases hat with h | h
      · exact .inl ((ha.2 k).2 (h ▸ hk))
      · rw [h] at hk
        injection hk with hk
        subst hk
        exact .inr (Nat.le_refl _)
    obtain ⟨A', c', rfl, _⟩ := row_shape (w := w') (fp := fun k => v'.ownBlock = some k) ⟨hown, fun _ => Iff.rfl⟩
    refine BuiltinK.of (v := .slice A' (n + m) c') (w' := w') ?_ (k A' c' w' H3)
    simp only [builtin]
    rw [Sem.run_bind]
    have hr' : (Builtin.append_ [t, t].toArray ty [v, .slice A m c].toArray).run P w = .ok (.slice A' (n + m) c') w' := hr
    rw [hr']; rfl
  have hlen := hfb.1.1
  cases A with
  | none =>
    obtain ⟨A2, c2, e1, _, _, hne⟩ := row_shape hfb
    have hm0 : m = 0 ∧ c = 0 := by
      rcases hfb.1.2 with ⟨h, _⟩ | ⟨g, cap, cur, h, _⟩
      · injection h with _ h2 h3; exact ⟨h2, h3⟩
      · cases h
    obtain ⟨rfl, rfl⟩ := hm0
    obtain rfl : news = [] := List.length_eq_zero_iff.1 (by rw [hlen]; omega)
    refine fin v w (by simpa using hfa.1) ⟨rfl, rfl, rfl, Nat.le_refl _, fun _ _ _ => rfl⟩ (.inl rfl) ?_
    exact run_append_owned_none (P := P) w 0 t ty e de.info sz (hT t _ ht).1 (hT e _ he).2 v n cs hfa.1
  | some a =>
    have ha : a = ⟨a.block, 0, none⟩ := by
      rcases hfb.1.2 with ⟨h, _⟩ | ⟨g, cap, cur, h, _⟩
      · cases h
      · injection h with h1 _ _
        injection h1 with h1
        rw [h1]
    obtain ⟨_, _, hcs, _, _⟩ := row_cells hfb (b := a.block) (o := 0) (m := m) (c := c) (by rw [← ha])
    obtain ⟨v', w', hrun, hown, hg, _, hat⟩ := run_append_own_at (P := P) w 0 t ty e de.info z sz de.info.bytes (hT t _ ht).1 (hT e _ he).2 hz hsz' rfl (Nat.eq_of_beq_eq_true hzs) (Nat.le_of_ble_eq_true hp) v n cs hfa.1 a m c news hlen
      (fun j u hj => by rw [ha, add_plain]; exact hcs j u hj) ho (by unfold maxLen; omega) hb (Nat.zero_le _)
    exact fin v' w' hown hg hat hrun
theorem mapClone_rule {P : Program} {K : Value → World → Prop} {w : World} {B : Base} {S S' : List Asn} {F : List Fact} {κ ν : Type} {kf : κ → Value} {vf : ν → Value} {n g : Nat} {l : List (κ × ν)} {fn : Func} {t : TypeId} (H : Hp B S F w) [hp : TakeM S n kf vf l S'] (hf : P.funcs[g]? = some fn) (hname : (fn.name == "runtime.NumGoroutine") = false)
    (hb : fn.body.isNone = true) (hn : Extern.findNext fn = none) (he : Extern.find fn = some Extern.MapsClone.clone) (k : ∀ m w', Hp B (mapO m kf vf l :: S) F w' → K (.iface t (.map (some m))) w') : CallK P K w (.func (.func g) #[] #[]) [.iface t (.map (some n))] := by
  obtain ⟨fa, _, es, clock, h1, h2, h3, h4⟩ := H.own (A := mapO n kf vf l) (hp := ⟨hp.perm⟩)
  refine CallK_ext (v := .iface t (.map (some w.heap.size))) (w' := w.alloc (.map es clock)) hf hname hb hn he ?_ (k _ _ ?_)
  · have hg : (getObj n).run P w = .ok (.map es clock) w := by simp [getObj, Sem.run, h1]
    have e : Extern.MapsClone.clone #[.iface t (.map (some n))] = (getObj n >>= fun o => match o with
        | .map entries clock => (newObj (.map entries clock) >>= fun n => pure (.iface t (.map (some n))))
        | _ => stuck "maps.clone: a map expected") := rfl
    show (Extern.MapsClone.clone #[.iface t (.map (some n))]).run P w = _
    rw [e]
    simp [hg, Result.andThen]
  · have h := H.alloc (.map es clock)
    have hp : Take (blkO w.heap.size (.map es clock) :: S) (blkO w.heap.size (.map es clock)) S := ⟨.refl _⟩
    exact h.step (A := blkO w.heap.size (.map es clock)) rfl rfl rfl (Nat.le_refl _) fun fa ha => ⟨fun _ _ _ => rfl, fa, ⟨ha.1, es, clock, ha.2, h2, h3, h4⟩, fun b hb => .inl hb⟩
theorem fresh_box_as {P : Program} {B : Base} {S A : List Asn} {GF : List Fact} {o : Oper} {ρ : Operand → Value} {K : Nat → List Asn → Prop} {t : TypeId} {x : Operand} (cs : List Value) (ho : o.op = .box t x) (hc : (ρ x).cells.toList = cs) (k : ∀ n, K n (blk n cs t :: A)) : FreshK P B S A GF o ρ K := by
  subst hc
  exact fresh_box ho k
end Go.Wk
namespace Go.Proofs.YtfemfomgmopibaaGreatDoor
open Go Go.Proofs Go.Wk
theorem as81 (x : Value) (w : World) : (Instr.typeAssert (.iface 81 x) 20 81 false).run Tryz.prog w = .ok x w := by kernel_rfl
theorem as82 (x : Value) (w : World) : (Instr.typeAssert (.iface 82 x) 20 82 false).run Tryz.prog w = .ok x w := by kernel_rfl
theorem lnsC_one : ∀ (xs : List Ln), ∀ u ∈ lnsC xs, u.oneCell' = true
  | [], u, h => by cases h
  | x :: r, u, h => by
    rcases List.mem_append.1 h with h | h
    · simp only [List.mem_cons, List.not_mem_nil, or_false] at h
      rcases h with rfl | rfl | rfl | rfl | rfl | rfl <;> rfl
    · exact lnsC_one r u h
theorem len__ (l m1 m2 : Nat) (s : SV) (w : World) (M I : BS) (H : Hp ⟨w, M, I⟩ [blk l [.slice s.A s.n s.c, .map (some m1), .map (some m2)] 85] [] w) :
    Ctr Tryz.prog 18 [.pointer (some ⟨l, 0, none⟩)] w M I (fun _ : Unit => .int .i64 (s.n : Int)) (fun _ => True) (fun _ => [blk l [.slice s.A s.n s.c, .map (some m1), .map (some m2)] 85]) (fun _ => []) := by
  refine Exe.of_ev tok Tryz.call18 Tryz.func18 rfl rfl rfl ?_
  refine load_rule tok H (v := .slice s.A s.n s.c) rfl ?_
  exact Exists.intro () (And.intro rfl (And.intro trivial H.keep))
theorem balance (l m1 m2 : Nat) (s : SV) (m : List (Pr × Int)) (loan acct : Int) (w : World) (M I : BS) (H : Hp ⟨w, M, I⟩ [blk l [.slice s.A s.n s.c, .map (some m1), .map (some m2)] 85, mapO m2 prV iV m] [] w) :
    Ctr Tryz.prog 15 [.pointer (some ⟨l, 0, none⟩), .int .u32 loan, .int .u8 acct] w M I (fun _ : Unit => .int .i64 (getS m ⟨loan, acct, false⟩)) (fun _ => True) (fun _ => [blk l [.slice s.A s.n s.c, .map (some m1), .map (some m2)] 85, mapO m2 prV iV m]) (fun _ => []) := by
  refine Exe.of_ev tok Tryz.call15 Tryz.func15 rfl rfl rfl ?_
  refine load_rule tok H (v := .map (some m2)) rfl ?_
  refine lookup_rule (n := m2) (k := ⟨loan, acct, false⟩) tok H rfl rfl rfl prKeys rfl (getV m ⟨loan, acct, false⟩) ?_
  exact Exists.intro () (And.intro rfl (And.intro trivial H.keep))
theorem control (l m1 m2 : Nat) (s : SV) (m : List (Pr × Int)) (acct : Int) (w : World) (M I : BS) (H : Hp ⟨w, M, I⟩ [blk l [.slice s.A s.n s.c, .map (some m1), .map (some m2)] 85, mapO m2 prV iV m] [] w) :
    Ctr Tryz.prog 17 [.pointer (some ⟨l, 0, none⟩), .int .u8 acct] w M I (fun _ : Unit => .int .i64 (getS m ⟨0, acct, true⟩)) (fun _ => True) (fun _ => [blk l [.slice s.A s.n s.c, .map (some m1), .map (some m2)] 85, mapO m2 prV iV m]) (fun _ => []) := by
  refine Exe.of_ev tok Tryz.call17 Tryz.func17 rfl rfl rfl ?_
  refine load_rule tok H (v := .map (some m2)) rfl ?_
  refine lookup_rule (n := m2) (k := ⟨0, acct, true⟩) tok H rfl rfl rfl prKeys rfl (getV m ⟨0, acct, true⟩) ?_
  exact Exists.intro () (And.intro rfl (And.intro trivial H.keep))
theorem cloneLns (s : SV) (xs : List Ln) (hn : xs.length ≤ 100000) (hs : s.n = xs.length) (w : World) (M I : BS) (H : Hp ⟨w, M, I⟩ [row 69 6 (.slice s.A s.n s.c) s.n (lnsC xs)] [] w) :
    Ctr Tryz.prog 30 [.slice s.A s.n s.c] w M I (fun a : SV => .slice a.A a.n a.c) (fun a => a.n = s.n) (fun a => [row 69 6 (.slice a.A a.n a.c) a.n (lnsC xs), row 69 6 (.slice s.A s.n s.c) s.n (lnsC xs)]) (fun _ => []) := by
  obtain ⟨A, n, c⟩ := s
  simp only at hs H ⊢
  cases A with
  | none =>
    have h0 : n = 0 ∧ c = 0 := by
      obtain ⟨fa, hfa⟩ := H.own (A := row 69 6 (.slice none n c) n (lnsC xs)) (hp := ⟨.refl _⟩)
      rcases hfa.1.2 with ⟨h, _⟩ | ⟨g, cap, cur, h, _⟩
      · injection h with _ h2 h3; exact ⟨h2, h3⟩
      · cases h
    obtain ⟨rfl, rfl⟩ := h0
    obtain rfl : xs = [] := List.length_eq_zero_iff.1 hs.symm
    refine Exe.of_ev tok Tryz.call30 Tryz.func30 rfl rfl rfl ?_
    have H2 : Hp ⟨w, M, I⟩ [row 69 6 (.slice none 0 0) 0 (lnsC []), row 69 6 (.slice none 0 0) 0 (lnsC [])] [] w := Hp.nil H 69 6
    exact Exists.intro ⟨none, 0, 0⟩ (And.intro rfl (And.intro rfl H2))
  | some ad =>
    refine Exe.of_ev tok Tryz.call30 Tryz.func30 rfl rfl rfl ?_
    refine slice_as tok H [] rfl rfl rfl rfl rfl rfl fun g w1 H1 => ?_
    have H2 : Hp ⟨w, M, I⟩ [row 69 6 (.slice (some ⟨g, 0, none⟩) 0 0) 0 [], row 69 6 (.slice (some ad) n c) n (lnsC xs)] [] w1 := H1.toRow 6 0 rfl (by decide)
    refine append_row (v := .slice (some ⟨g, 0, none⟩) 0 0) (A := some ad) (m := n) (c := c) tok H2 rfl rfl rfl rfl rfl rfl (lnsC_one xs) (by show (0 + n) * 48 ≤ _; omega) (by omega) fun A2 c2 w4 H4 => ?_
    have hz : 0 + n = n := Nat.zero_add n
    exact Exists.intro ⟨A2, 0 + n, c2⟩ (And.intro rfl (And.intro hz H4))
theorem cloneLive (m1 : Nat) (m : List (Key × Int)) (w : World) (M I : BS) (H : Hp ⟨w, M, I⟩ [mapO m1 keyV iV m] [] w) :
    Ctr Tryz.prog 31 [.map (some m1)] w M I (fun a : Nat => .map (some a)) (fun _ => True) (fun a => [mapO a keyV iV m, mapO m1 keyV iV m]) (fun _ => []) := by
  refine Exe.of_ev tok Tryz.call31 Tryz.func31 rfl rfl rfl ?_
  refine mapClone_rule (n := m1) H Tryz.func58 (by kernel_rfl) (by kernel_rfl) (by kernel_rfl) (by kernel_rfl) fun a w1 H1 => ?_
  refine AssertK.run (v := .map (some a)) (as81 _ _) ?_
  exact Exists.intro a (And.intro rfl (And.intro trivial H1))
theorem cloneSums (m1 : Nat) (m : List (Pr × Int)) (w : World) (M I : BS) (H : Hp ⟨w, M, I⟩ [mapO m1 prV iV m] [] w) :
    Ctr Tryz.prog 32 [.map (some m1)] w M I (fun a : Nat => .map (some a)) (fun _ => True) (fun a => [mapO a prV iV m, mapO m1 prV iV m]) (fun _ => []) := by
  refine Exe.of_ev tok Tryz.call32 Tryz.func32 rfl rfl rfl ?_
  refine mapClone_rule (n := m1) H Tryz.func58 (by kernel_rfl) (by kernel_rfl) (by kernel_rfl) (by kernel_rfl) fun a w1 H1 => ?_
  refine AssertK.run (v := .map (some a)) (as82 _ _) ?_
  exact Exists.intro a (And.intro rfl (And.intro trivial H1))
structure CpR where
  l : Nat
  m1 : Nat
  m2 : Nat
  s : SV
set_option maxHeartbeats 1000000 in
theorem copy_ (l m1 m2 : Nat) (s : SV) (d : Led) (hn : d.lns.length ≤ 100000) (hs : s.n = d.lns.length) (w : World) (M I : BS) (H : Hp ⟨w, M, I⟩ (ledA l m1 m2 s d) [] w) :
    Ctr Tryz.prog 10 [.pointer (some ⟨l, 0, none⟩)] w M I (fun a : CpR => .pointer (some ⟨a.l, 0, none⟩)) (fun a => a.s.n = s.n)
      (fun a => [blk a.l [.slice a.s.A a.s.n a.s.c, .map (some a.m1), .map (some a.m2)] 85, row 69 6 (.slice a.s.A a.s.n a.s.c) a.s.n (lnsC d.lns), mapO a.m1 keyV iV d.live, mapO a.m2 prV iV d.sums, blk l [.slice s.A s.n s.c, .map (some m1), .map (some m2)] 85, row 69 6 (.slice s.A s.n s.c) s.n (lnsC d.lns), mapO m1 keyV iV d.live, mapO m2 prV iV d.sums]) (fun _ => []) := by
  refine Exe.of_ev tok Tryz.call10 Tryz.func10 rfl rfl rfl ?_
  refine draw_rule (A := []) tok tdr H [0, 1, 2, 3, 4, 5, 6, 7, 8, 9, 10, 11, 12, 13, 14, 15, 16, 17] [0, 1, 3, 7, 15, 0, 32, 96, 224, 511, 0, 1024, 3072, 7168, 16383, 32767, 65535, 131071] rfl ?_
  refine pass_rule _ (fun w h => load_rule tok h (v := .slice s.A s.n s.c) rfl ⟨rfl, rfl⟩) ?_
  refine imp_rule (fun X wx h => call_rule h (fun M I _ h => cloneLns s d.lns hn hs _ M I h) fun s2 w1 hs2 H1 => imp_done H1 ?_)
  refine pass_rule _ (fun w h => load_rule tok h (v := .map (some m1)) rfl ⟨rfl, rfl⟩) ?_
  refine imp_rule (fun X wx h => call_rule h (fun M I _ h => cloneLive m1 d.live _ M I h) fun n1 w1 _ H1 => imp_done H1 ?_)
  refine pass_rule _ (fun w h => load_rule tok h (v := .map (some m2)) rfl ⟨rfl, rfl⟩) ?_
  refine imp_rule (fun X wx h => call_rule h (fun M I _ h => cloneSums m2 d.sums _ M I h) fun n2 w1 _ H1 => imp_done H1 ?_)
  refine fresh_box_as [.slice s2.A s2.n s2.c, .map (some n1), .map (some n2)] rfl rfl fun l2 => ?_
  refine done_rule fun w5 H5 => ?_
  exact Exists.intro ⟨l2, n1, n2, s2⟩ (And.intro rfl (And.intro hs2 (Hp.keep H5)))
end Go.Proofs.YtfemfomgmopibaaGreatDoor
namespace Go.Proofs.YtfemfomgmopibaaGreatDoor
open Go Go.Proofs Go.Wk
@[reducible] def lnV (x : Ln) : Value := .agg #[.int .u32 x.k.loan, .int .i32 x.k.day, .int .u8 x.k.kind, .int .u32 x.k.seq, .slice x.s.A x.s.n x.s.c, .int .i64 x.of]
theorem ln_get {xs : List Ln} {j : Nat} {x : Ln} (h : xs[j]? = some x) : ldV (tb 69) (lnsC xs) (0 + j * 6) = some (lnV x) := by
  obtain ⟨hj, _⟩ := List.getElem?_eq_some_iff.1 h
  have hd : xs.drop j = x :: xs.drop (j + 1) := by
    rw [List.drop_eq_getElem_cons hj]
    rw [List.getElem?_eq_getElem hj] at h
    rw [Option.some.inj h]
  show (bif Nat.ble (0 + j * 6 + 6) (lnsC xs).length then some (Value.agg (((lnsC xs).drop (0 + j * 6)).take 6).toArray) else none) = _
  rw [show 0 + j * 6 = j * 6 by omega, lnsC_drop, hd]
  have : Nat.ble (j * 6 + 6) (lnsC xs).length = true := by rw [Nat.ble_eq, lnsC_len]; omega
  rw [this]
  rfl
theorem copied (k : Key) (A : Option Addr) (n c : Nat) (ls : List Leg) (hn : ls.length ≤ 1000000) (w : World) (M I : BS) (hM : ∀ b, ¬ M b) (H : Hp ⟨w, M, I⟩ [] [Sl legR (.slice A n c) ls] w) :
    Ctr Tryz.prog 43 [.agg #[.int .u32 k.loan, .int .i32 k.day, .int .u8 k.kind, .int .u32 k.seq, .slice A n c]] w M I (fun a : SV => .agg #[.int .u32 k.loan, .int .i32 k.day, .int .u8 k.kind, .int .u32 k.seq, .slice a.A a.n a.c]) (fun _ => True) (fun _ => []) (fun a => [Sl legR (.slice a.A a.n a.c) ls]) := by
  refine Exe.of_ev tok Tryz.call43 Tryz.func43 rfl rfl rfl ?_
  refine box_as H (entC k A n c) rfl fun x w1 H1 => ?_
  refine alloc_as tok H1 zeroC rfl rfl rfl fun r w2 H2 => ?_
  refine load_rule tok H2 (v := .slice A n c) rfl ?_
  refine call_rule H2 (fun M I h0 h => cloneLegs A n c ls hn _ M I (h0 rfl) h) fun a w3 _ H3 => ?_
  refine store_as tok H3 (entC k a.A a.n a.c) rfl rfl rfl rfl rfl fun w4 H4 => ?_
  refine load_rule tok H4 (v := .agg #[.int .u32 k.loan, .int .i32 k.day, .int .u8 k.kind, .int .u32 k.seq, .slice a.A a.n a.c]) rfl ?_
  refine store_as tok H4 (entC k a.A a.n a.c) rfl rfl rfl rfl rfl fun w5 H5 => ?_
  refine Exists.intro ⟨r, 0, none⟩ (Exists.intro (.agg #[.int .u32 k.loan, .int .i32 k.day, .int .u8 k.kind, .int .u32 k.seq, .slice a.A a.n a.c]) (And.intro rfl (And.intro (Hp.ld (T := tb) tok H5 rfl) ?_)))
  exact Exists.intro a (And.intro rfl (And.intro trivial (Hp.keep H5)))
end Go.Proofs.YtfemfomgmopibaaGreatDoor
namespace Go.Wk
theorem Hp.rngBack {B : Base} {S S' : List Asn} {F : List Fact} {w : World} {κ ν : Type} {kf : κ → Value} {vf : ν → Value} {n g : Nat} {l left : List (κ × ν)} {cur : Option (κ × ν)} (H : Hp B S F w) [hp : TakeI S g n kf vf l left cur S'] : Hp B (mapO n kf vf l :: S') F w := by
  refine H.step (A := rngO n g kf vf l left cur) (hp := ⟨hp.perm⟩) rfl rfl rfl (Nat.le_refl _) fun fa ha => ⟨fun _ _ _ => rfl, fun b => b = n, ?_, fun b hb => .inl ((ha.1 b).2 (.inl hb))⟩
  obtain ⟨h1, h0, es, clock, seen, h2, h3, h4, h5, h6, _⟩ := ha
  exact ⟨fun _ => Iff.rfl, es, clock, h2, h4, h5, h6⟩
end Go.Wk
namespace Go.Proofs.YtfemfomgmopibaaGreatDoor
open Go Go.Proofs Go.Wk
def lnZ : List Value := [.int .u32 0, .int .i32 0, .int .u8 0, .int .u32 0, .slice none 0 0, .int .i64 0]
set_option maxRecDepth 20000 in
theorem line_ (l m1 m2 : Nat) (s : SV) (xs : List Ln) (hx : xs.length ≤ 100000) (hsn : s.n = xs.length) (i : Nat) (x : Ln) (hi : xs[i]? = some x) (hl : x.ls.length ≤ 1000) (w : World) (M I : BS) (H : Hp ⟨w, M, I⟩ [blk l [.slice s.A s.n s.c, .map (some m1), .map (some m2)] 85, row 69 6 (.slice s.A s.n s.c) s.n (lnsC xs)] [LnF xs] w) :
    Ctr Tryz.prog 21 [.pointer (some ⟨l, 0, none⟩), .int .i64 (i : Int)] w M I (fun a : SV => .tuple #[.agg #[.int .u32 x.k.loan, .int .i32 x.k.day, .int .u8 x.k.kind, .int .u32 x.k.seq, .slice a.A a.n a.c, .int .i64 x.of], .bool true]) (fun _ => True) (fun _ => [blk l [.slice s.A s.n s.c, .map (some m1), .map (some m2)] 85, row 69 6 (.slice s.A s.n s.c) s.n (lnsC xs)]) (fun a => [Sl legR (.slice a.A a.n a.c) x.ls]) := by
  obtain ⟨hil, _⟩ := List.getElem?_eq_some_iff.1 hi
  obtain ⟨A, n, c⟩ := s
  simp only at hsn H ⊢
  obtain ⟨b, rfl⟩ := H.rowSome (A := A) (n := n) (c := c) (by omega)
  have H' := Hp.lnAt H (xs := xs) (List.mem_of_getElem? hi)
  have i0 : (0 : Int) ≤ (i : Int) := by omega
  have i1 : (i : Int) < n := by omega
  refine Exe.of_ev tok Tryz.call21 Tryz.func21 rfl rfl rfl ?_
  refine alloc_as tok H' [.int .u32 0, .int .i32 0, .int .u8 0, .int .u32 0, .slice none 0 0, .int .i64 0] rfl rfl rfl fun r w1 H1 => ?_
  refine call_rule H1 (fun M I _ h => len__ l m1 m2 ⟨some ⟨b, 0, none⟩, n, c⟩ _ M I h) fun _ w2 _ H2 => ?_
  refine br (fun q => ?_) (fun q => ?_)
  · exfalso; have q : decide ((n : Int) ≤ (i : Int)) = true := q; simp at q; omega
  have H3 : Hp ⟨w, M, I⟩ [blk l [.slice (some ⟨b, 0, none⟩) n c, .map (some m1), .map (some m2)] 85, blk r [.int .u32 0, .int .i32 0, .int .u8 0, .int .u32 0, .slice none 0 0, .int .i64 0] 69, row 69 6 (.slice (some ⟨b, 0, none⟩) n c) n (lnsC xs)] [Sl legR (.slice x.s.A x.s.n x.s.c) x.ls, LnF xs] w2 := H2
  refine draw_rule (A := [blk r [.int .u32 0, .int .i32 0, .int .u8 0, .int .u32 0, .slice none 0 0, .int .i64 0] 69]) tok tdr H3 [0, 1, 2, 3, 4, 5, 6, 7, 8, 9, 10, 11, 12, 13, 14, 15, 16, 17, 18, 19] [0, 1, 3, 7, 0, 31, 63, 127, 255, 0, 512, 1536, 3584, 0, 15872, 32256, 65024, 131071, 262143, 524287] rfl ?_
  refine pass_rule _ (fun w h => load_rule tok h (v := .slice (some ⟨b, 0, none⟩) n c) rfl ⟨rfl, rfl⟩) ?_
  refine pass_rule _ (fun w h => idx_own tok rfl rfl i0 i1 ⟨rfl, rfl⟩) ?_
  refine pass_rule _ (fun w h => row_ld (n := n) (c := c) tok h (v := .agg #[.int .u32 x.k.loan, .int .i32 x.k.day, .int .u8 x.k.kind, .int .u32 x.k.seq, .slice x.s.A x.s.n x.s.c]) (lns_get hi) ⟨rfl, rfl⟩) ?_
  refine imp_rule (fun X wx h => call_rule h (fun M I h0 h => copied x.k x.s.A x.s.n x.s.c x.ls (by omega) _ M I (h0 rfl) h) fun sv w1 _ H1 => imp_done H1 ?_)
  refine pass_rule _ (fun w h => load_rule tok h (v := .slice (some ⟨b, 0, none⟩) n c) rfl ⟨rfl, rfl⟩) ?_
  refine pass_rule _ (fun w h => idx_own tok rfl rfl i0 i1 ⟨rfl, rfl⟩) ?_
  refine pass_rule _ (fun w h => row_ld (n := n) (c := c) tok h (v := .int .i64 x.of) (lns_of hi) ⟨rfl, rfl⟩) ?_
  refine imp_rule (fun X wx h => store_as tok h [.int .u32 x.k.loan, .int .i32 x.k.day, .int .u8 x.k.kind, .int .u32 x.k.seq, .slice sv.A sv.n sv.c, .int .i64 x.of] rfl rfl rfl rfl rfl fun w1 H1 => imp_done H1 ?_)
  refine done_rule fun w5 H5 => ?_
  refine Exists.intro ⟨r, 0, none⟩ (Exists.intro (.agg #[.int .u32 x.k.loan, .int .i32 x.k.day, .int .u8 x.k.kind, .int .u32 x.k.seq, .slice sv.A sv.n sv.c, .int .i64 x.of]) (And.intro rfl (And.intro (Hp.ld (T := tb) tok H5 rfl) ?_)))
  exact Exists.intro sv (And.intro rfl (And.intro trivial (Hp.keep H5)))
set_option maxRecDepth 20000 in
theorem live_ (l m1 m2 : Nat) (s : SV) (d : Led) (hx : d.lns.length ≤ 100000) (hsn : s.n = d.lns.length) (k : Key) (i : Nat) (x : Ln) (hlk : lk k d.live = some (i : Int)) (hi : d.lns[i]? = some x) (hl : x.ls.length ≤ 1000) (w : World) (M I : BS)
    (H : Hp ⟨w, M, I⟩ [blk l [.slice s.A s.n s.c, .map (some m1), .map (some m2)] 85, row 69 6 (.slice s.A s.n s.c) s.n (lnsC d.lns), mapO m1 keyV iV d.live] [LnF d.lns] w) :
    Ctr Tryz.prog 23 [.pointer (some ⟨l, 0, none⟩), keyV k] w M I (fun a : SV => .tuple #[.agg #[.int .u32 x.k.loan, .int .i32 x.k.day, .int .u8 x.k.kind, .int .u32 x.k.seq, .slice a.A a.n a.c], .bool true]) (fun _ => True)
      (fun _ => [blk l [.slice s.A s.n s.c, .map (some m1), .map (some m2)] 85, row 69 6 (.slice s.A s.n s.c) s.n (lnsC d.lns), mapO m1 keyV iV d.live]) (fun a => [Sl legR (.slice a.A a.n a.c) x.ls]) := by
  obtain ⟨hil, _⟩ := List.getElem?_eq_some_iff.1 hi
  obtain ⟨A, n, c⟩ := s
  simp only at hsn H ⊢
  obtain ⟨b, rfl⟩ := H.rowSome (A := A) (n := n) (c := c) (by omega)
  have H' := Hp.lnAt H (xs := d.lns) (List.mem_of_getElem? hi)
  have i0 : (0 : Int) ≤ (i : Int) := by omega
  have i1 : (i : Int) < n := by omega
  refine Exe.of_ev tok Tryz.call23 Tryz.func23 rfl rfl rfl ?_
  refine box_as H' (keyC k) rfl fun p w1 H1 => ?_
  refine alloc_as tok H1 zeroC rfl rfl rfl fun r w2 H2 => ?_
  refine draw_rule (A := []) tok tdr H2 [0, 1, 2, 3, 4, 5, 6, 7, 8, 9, 10] [0, 1, 3, 7, 0, 31, 63, 127, 127, 255, 1023] rfl ?_
  refine pass_rule _ (fun w h => load_rule tok h (v := .map (some m1)) rfl ⟨rfl, rfl⟩) ?_
  refine pass_rule _ (fun w h => load_rule tok h (v := keyV k) rfl ⟨rfl, rfl⟩) ?_
  refine pass_rule (.tuple #[.int .i64 (i : Int), .bool true]) (fun w h => lookup_ok_rule (n := m1) tok h rfl rfl rfl keyKeys rfl (by rw [hlk]; rfl) ⟨rfl, rfl⟩) ?_
  refine done_rule fun w3 H3 => ?_
  refine load_rule tok H3 (v := .slice (some ⟨b, 0, none⟩) n c) rfl ?_
  refine idx_own tok rfl rfl i0 i1 ?_
  refine row_ld (n := n) (c := c) tok H3 (v := .agg #[.int .u32 x.k.loan, .int .i32 x.k.day, .int .u8 x.k.kind, .int .u32 x.k.seq, .slice x.s.A x.s.n x.s.c]) (lns_get hi) ?_
  refine call_rule H3 (fun M I h0 h => copied x.k x.s.A x.s.n x.s.c x.ls (by omega) _ M I (h0 rfl) h) fun sv w4 _ H4 => ?_
  refine store_as tok H4 (entC x.k sv.A sv.n sv.c) rfl rfl rfl rfl rfl fun w5 H5 => ?_
  refine Exists.intro ⟨r, 0, none⟩ (Exists.intro (.agg #[.int .u32 x.k.loan, .int .i32 x.k.day, .int .u8 x.k.kind, .int .u32 x.k.seq, .slice sv.A sv.n sv.c]) (And.intro rfl (And.intro (Hp.ld (T := tb) tok H5 rfl) ?_)))
  exact Exists.intro sv (And.intro rfl (And.intro trivial (Hp.keep H5)))
/-! A loan that has no live entry -/
end Go.Proofs.YtfemfomgmopibaaGreatDoor
namespace Go.Proofs.YtfemfomgmopibaaGreatDoor
open Go Go.Proofs Go.Wk
theorem lnR_get {xs : List Ln} {j : Nat} {x : Ln} (h : xs[j]? = some x) : ldV (tb 66) (lnsC xs) (0 + j * 6) = some (lnV x) := ln_get h
def liveSt (k : Key) (x : Ln) (i out : Int) : Int := if x.of = 0 then (if x.k = k then i else out) else (if x.of - 1 = out then -1 else out)
def liveGo (k : Key) : List Ln → Int → Int → Int
  | [], _, out => out
  | x :: r, i, out => liveGo k r (i + 1) (liveSt k x i out)
def LnsOk (xs : List Ln) : Prop := xs.length ≤ 1000 ∧ ∀ x, x ∈ xs → (0 ≤ x.of ∧ x.of ≤ 1000000) ∧ keyIn x.k ∧ x.ls.length ≤ 1000
set_option maxRecDepth 20000 in
theorem liveRef (p : Nat) (s : SV) (xs : List Ln) (hok : LnsOk xs) (hsn : s.n = xs.length) (k : Key) (w : World) (M I : BS)
    (H : Hp ⟨w, M, I⟩ [blk p [.slice s.A s.n s.c] 33, row 66 6 (.slice s.A s.n s.c) s.n (lnsC xs)] [] w) :
    Ctr Tryz.prog 54 [.pointer (some ⟨p, 0, none⟩), keyV k] w M I (fun _ : Unit => .int .i64 (liveGo k xs 0 (-1))) (fun _ => True) (fun _ => [blk p [.slice s.A s.n s.c] 33, row 66 6 (.slice s.A s.n s.c) s.n (lnsC xs)]) (fun _ => []) := by
  obtain ⟨A, n, c⟩ := s
  simp only at hsn H ⊢
  obtain ⟨hlen, hall⟩ := hok
  refine Exe.of_ev tok Tryz.call54 Tryz.func54 rfl rfl rfl ?_
  refine box_as H (keyC k) rfl fun kb w1 H1 => ?_
  refine load_rule tok H1 (v := .slice A n c) rfl ?_
  refine loop_rule tok (σ := Nat × Int) 1099511619808 (fun t => [(5, .int .i64 t.2), (13, .int .i64 t.1)])
    (fun t w' => t.1 ≤ xs.length ∧ liveGo k xs 0 (-1) = liveGo k (xs.drop t.1) t.1 t.2 ∧ Hp ⟨w, M, I⟩ [blk kb (keyC k) 61, blk p [.slice A n c] 33, row 66 6 (.slice A n c) n (lnsC xs)] [] w') (fun t => xs.length - t.1) (0, -1) rfl rfl ⟨rfl, rfl, trivial⟩
    ⟨Nat.zero_le _, rfl, H1⟩ ?_
  rintro ⟨i, out⟩ j w3 ⟨hi, hg, H3⟩
  simp only at hi hg H3
  refine brd (fun h5 => ?_) (fun h5 => ?_)
  · have h5 : (i : Int) < n := h5
    have hil : i < xs.length := by omega
    obtain ⟨u, hu⟩ : ∃ u, xs[i]? = some u := ⟨_, List.getElem?_eq_getElem hil⟩
    have hdu : xs.drop i = u :: xs.drop (i + 1) := by
      rw [List.drop_eq_getElem_cons hil]
      rw [List.getElem?_eq_getElem hil] at hu
      rw [Option.some.inj hu]
    obtain ⟨⟨ho1, ho2⟩, _, _⟩ := hall u (List.mem_of_getElem? hu)
    obtain ⟨b1, rfl⟩ := H3.rowSome (A := A) (n := n) (c := c) (by omega)
    have i1 : (0 : Int) ≤ (i : Int) := by omega
    have ew : IntKind.i64.wrap (u.of - 1) = u.of - 1 := w64 (by omega) (by omega)
    have fin : ∀ w', Hp ⟨w, M, I⟩ [blk kb (keyC k) 61, blk p [.slice (some ⟨b1, 0, none⟩) n c] 33, row 66 6 (.slice (some ⟨b1, 0, none⟩) n c) n (lnsC xs)] [] w' → ((i + 1, liveSt k u i out) : Nat × Int).1 ≤ xs.length ∧ liveGo k xs 0 (-1) = liveGo k (xs.drop (i + 1)) ((i + 1 : Nat) : Int) (liveSt k u i out) ∧ Hp ⟨w, M, I⟩ [blk kb (keyC k) 61, blk p [.slice (some ⟨b1, 0, none⟩) n c] 33, row 66 6 (.slice (some ⟨b1, 0, none⟩) n c) n (lnsC xs)] [] w' := fun w' h => by
      refine ⟨by simp only; omega, ?_, h⟩
      rw [hg, hdu, liveGo]; simp
    have hi64 : Value.int .i64 (IntKind.i64.wrap (i + 1)) = .int .i64 ((i + 1 : Nat) : Int) := by rw [w64 (by omega) (by omega)]; rfl
    have hmu : xs.length - (i + 1) < xs.length - i := by omega
    refine idx_own tok rfl rfl i1 h5 ?_
    refine row_ld (n := n) (c := c) tok H3 (v := lnV u) (lnR_get hu) ?_
    refine alloc_as tok H3 lnZ rfl rfl rfl fun t w4 H4 => ?_
    refine store_as tok H4 (lnC u) rfl rfl rfl rfl rfl fun w5 H5 => ?_
    refine load_rule tok H5 (v := .int .i64 u.of) rfl ?_
    refine br (fun q1 => ?_) (fun q1 => ?_)
    · have q1 : 0 < u.of := by simpa using q1
      have hne : ¬ u.of = 0 := by omega
      refine load_rule tok H5 (v := .int .i64 u.of) rfl ?_
      refine br (fun q2 => ?_) (fun q2 => ?_)
      · have q2 : (IntKind.i64.wrap (u.of - 1) == out) = true := q2
        have q2 : u.of - 1 = out := by rw [ew] at q2; simpa using q2
        have e : liveSt k u i out = -1 := by rw [liveSt, if_neg hne, if_pos q2]
        refine load_rule tok H5 (v := .int .i64 u.of) rfl ?_
        refine br (fun q3 => ?_) (fun q3 => ?_)
        · exfalso; have q3 : (u.of == 0) = true := q3; exact hne (by simpa using q3)
        · exact Exists.intro (i + 1, liveSt k u i out) (And.intro ⟨congrArg (Value.int .i64) e.symm, hi64, trivial⟩ (And.intro hmu (fin _ (Hp.keep H5))))
      · have q2 : (IntKind.i64.wrap (u.of - 1) == out) = false := q2
        have q2 : ¬ u.of - 1 = out := by rw [ew] at q2; simpa using q2
        have e : liveSt k u i out = out := by rw [liveSt, if_neg hne, if_neg q2]
        refine load_rule tok H5 (v := .int .i64 u.of) rfl ?_
        refine br (fun q3 => ?_) (fun q3 => ?_)
        · exfalso; have q3 : (u.of == 0) = true := q3; exact hne (by simpa using q3)
        · exact Exists.intro (i + 1, liveSt k u i out) (And.intro ⟨congrArg (Value.int .i64) e.symm, hi64, trivial⟩ (And.intro hmu (fin _ (Hp.keep H5))))
    · have q1 : ¬ 0 < u.of := by simpa using q1
      have he : u.of = 0 := by omega
      refine load_rule tok H5 (v := .int .i64 u.of) rfl ?_
      refine br (fun q3 => ?_) (fun q3 => ?_)
      · refine load_rule tok H5 (v := keyV u.k) rfl ?_
        refine load_rule tok H5 (v := keyV k) rfl ?_
        refine eq_struct tok (r := eqK u.k k) rfl Tryz.eqGuardType61 Tryz.stoodInHeld61 rfl ?_
        refine br (fun q4 => ?_) (fun q4 => ?_)
        · have q4 : eqK u.k k = true := q4
          have e : liveSt k u i out = i := by rw [liveSt, if_pos he, if_pos (eqK_iff.1 q4)]
          exact Exists.intro (i + 1, liveSt k u i out) (And.intro ⟨congrArg (Value.int .i64) e.symm, hi64, trivial⟩ (And.intro hmu (fin _ (Hp.keep H5))))
        · have q4 : eqK u.k k = false := q4
          have e : liveSt k u i out = out := by rw [liveSt, if_pos he, if_neg (fun h => by rw [eqK_iff.2 h] at q4; cases q4)]
          exact Exists.intro (i + 1, liveSt k u i out) (And.intro ⟨congrArg (Value.int .i64) e.symm, hi64, trivial⟩ (And.intro hmu (fin _ (Hp.keep H5))))
      · exfalso; have q3 : (u.of == 0) = false := q3; rw [he] at q3; simp at q3
  · have h5 : ¬ (i : Int) < n := h5
    refine Exists.intro () (And.intro (congrArg (Value.int .i64) ?_) (And.intro trivial (Hp.keep H3)))
    rw [hg, List.drop_eq_nil_of_le (by omega)]; rfl
end Go.Proofs.YtfemfomgmopibaaGreatDoor
namespace Go.Proofs.YtfemfomgmopibaaGreatDoor
open Go Go.Proofs Go.Wk
def legSum (a : Int) : List Leg → Int → Option Int
  | [], s => some s
  | g :: r, s => if g.acct = a then (if in64 (s + g.amt) = true then legSum a r (s + g.amt) else none) else legSum a r s
def linSum (loan : Int) (all : Bool) (a : Int) : List Ln → Int → Option Int
  | [], s => some s
  | x :: r, s => if all = false ∧ x.k.loan ≠ loan then linSum loan all a r s else (match legSum a x.ls s with
    | none => none
    | some t => linSum loan all a r t)
def sumV : Option Int → Value
  | none => .tuple #[.int .i64 0, .bool false]
  | some s => .tuple #[.int .i64 s, .bool true]
set_option maxRecDepth 20000 in
set_option maxHeartbeats 1000000 in
theorem sumRef_false (p : Nat) (s : SV) (xs : List Ln) (hok : LnsOk xs) (hsn : s.n = xs.length) (loan a : Int) (w : World) (M I : BS)
    (H : Hp ⟨w, M, I⟩ [blk p [.slice s.A s.n s.c] 33, row 66 6 (.slice s.A s.n s.c) s.n (lnsC xs)] [LnF xs] w) :
    Ctr Tryz.prog 82 [.pointer (some ⟨p, 0, none⟩), .int .u32 loan, .bool false, .int .u8 a] w M I (fun _ : Unit => sumV (linSum loan false a xs 0)) (fun _ => True) (fun _ => [blk p [.slice s.A s.n s.c] 33, row 66 6 (.slice s.A s.n s.c) s.n (lnsC xs)]) (fun _ => []) := by
  obtain ⟨A, n, c⟩ := s
  simp only at hsn H ⊢
  obtain ⟨hlen, hall⟩ := hok
  refine Exe.of_ev tok Tryz.call82 Tryz.func82 rfl rfl rfl ?_
  refine load_rule tok H (v := .slice A n c) rfl ?_
  refine loop_rule tok (σ := Nat × Int) 1152921504602773248 (fun t => [(10, .int .i64 t.2), (22, .int .i64 t.1)])
    (fun t w' => t.1 ≤ xs.length ∧ inK .i64 t.2 ∧ linSum loan false a xs 0 = linSum loan false a (xs.drop t.1) t.2 ∧ Hp ⟨w, M, I⟩ [blk p [.slice A n c] 33, row 66 6 (.slice A n c) n (lnsC xs)] [LnF xs] w') (fun t => xs.length - t.1) (0, 0) rfl rfl ⟨rfl, rfl, trivial⟩
    ⟨Nat.zero_le _, ⟨by simp [kLo], by simp [kHi]⟩, rfl, H⟩ ?_
  rintro ⟨i, sm⟩ j w3 ⟨hi, hin, hg, H3⟩
  simp only at hi hin hg H3
  refine brd (fun h5 => ?_) (fun h5 => ?_)
  · have h5 : (i : Int) < n := h5
    have hil : i < xs.length := by omega
    obtain ⟨u, hu⟩ : ∃ u, xs[i]? = some u := ⟨_, List.getElem?_eq_getElem hil⟩
    have hdu : xs.drop i = u :: xs.drop (i + 1) := by
      rw [List.drop_eq_getElem_cons hil]
      rw [List.getElem?_eq_getElem hil] at hu
      rw [Option.some.inj hu]
    have hum := List.mem_of_getElem? hu
    have hul := (hall u hum).2.2
    obtain ⟨b1, rfl⟩ := H3.rowSome (A := A) (n := n) (c := c) (by omega)
    have i1 : (0 : Int) ≤ (i : Int) := by omega
    have hi64 : Value.int .i64 (IntKind.i64.wrap (i + 1)) = .int .i64 ((i + 1 : Nat) : Int) := by rw [w64 (by omega) (by omega)]; rfl
    have hmu : xs.length - (i + 1) < xs.length - i := by omega
    rw [hdu] at hg
    have H3' := Hp.lnAt H3 (xs := xs) hum
    obtain ⟨hn2, hc2, hc3⟩ := H3'.sll (A := u.s.A) (n := u.s.n) (c := u.s.c)
    have hlok := legs_ok (A := u.s.A) (n := u.s.n) (c := u.s.c) H3'
    refine idx_own tok rfl rfl i1 h5 ?_
    refine row_ld (n := n) (c := c) tok H3' (v := lnV u) (lnR_get hu) ?_
    refine alloc_as tok H3' lnZ rfl rfl rfl fun t w4 H4 => ?_
    refine store_as tok H4 (lnC u) rfl rfl rfl rfl rfl fun w5 H5 => ?_
    refine load_rule tok H5 (v := .int .u32 u.k.loan) rfl ?_
    refine br (fun qm => ?_) (fun qm => ?_)
    · have qm : (u.k.loan != loan) = true := qm
      have qm : u.k.loan ≠ loan := by simpa using qm
      refine Exists.intro (i + 1, sm) (And.intro ⟨rfl, hi64, trivial⟩ (And.intro hmu ⟨by simp only; omega, hin, ?_, Hp.keep H5⟩))
      rw [hg, linSum, if_pos ⟨rfl, qm⟩]
    have qm : (u.k.loan != loan) = false := qm
    have qm : u.k.loan = loan := by simpa using qm
    refine load_rule tok H5 (v := .slice u.s.A u.s.n u.s.c) rfl ?_
    have H5 : Hp ⟨w, M, I⟩ [blk t (lnC u) 66, blk p [.slice (some ⟨b1, 0, none⟩) n c] 33, row 66 6 (.slice (some ⟨b1, 0, none⟩) n c) n (lnsC xs)] [Sl legR (.slice u.s.A u.s.n u.s.c) u.ls, LnF xs] w5 := Hp.keep H5
    refine loop_rule tok (σ := Nat × Int) 576459652791912192 (fun t => [(10, .int .i64 t.2), (40, .int .i64 t.1)])
      (fun t' w' => t'.1 ≤ u.ls.length ∧ inK .i64 t'.2 ∧ legSum a u.ls sm = legSum a (u.ls.drop t'.1) t'.2 ∧ Hp ⟨w, M, I⟩ [blk t (lnC u) 66, blk p [.slice (some ⟨b1, 0, none⟩) n c] 33, row 66 6 (.slice (some ⟨b1, 0, none⟩) n c) n (lnsC xs)] [Sl legR (.slice u.s.A u.s.n u.s.c) u.ls, LnF xs] w') (fun t' => u.ls.length - t'.1) (0, sm) rfl rfl ⟨rfl, rfl, trivial⟩
      ⟨Nat.zero_le _, hin, rfl, H5⟩ ?_
    rintro ⟨i2, s2⟩ j2 w6 ⟨hi2, hin2, hg2, H6⟩
    simp only at hi2 hin2 hg2 H6
    refine brd (fun h7 => ?_) (fun h7 => ?_)
    · have h7 : (i2 : Int) < u.s.n := h7
      have hil2 : i2 < u.ls.length := by omega
      obtain ⟨g, hgg⟩ : ∃ g, u.ls[i2]? = some g := ⟨_, List.getElem?_eq_getElem hil2⟩
      have hdg : u.ls.drop i2 = g :: u.ls.drop (i2 + 1) := by
        rw [List.drop_eq_getElem_cons hil2]
        rw [List.getElem?_eq_getElem hil2] at hgg
        rw [Option.some.inj hgg]
      have hg3 := (hlok g (List.mem_of_getElem? hgg)).2
      have hj64 : Value.int .i64 (IntKind.i64.wrap (i2 + 1)) = .int .i64 ((i2 + 1 : Nat) : Int) := by rw [w64 (by omega) (by omega)]; rfl
      have hmu2 : u.ls.length - (i2 + 1) < u.ls.length - i2 := by omega
      rw [hdg] at hg2
      have i2p : (0 : Int) ≤ (i2 : Int) := by omega
      refine idx_rule tok H6 (r := legR) (A := u.s.A) (n := u.s.n) (c := u.s.c) rfl rfl rfl i2p h7 fun pb po g' hg' H7 => ?_
      have eg : g' = g := Option.some.inj ((show u.ls[i2]? = some g' by simpa using hg').symm.trans hgg)
      subst eg
      refine ldp_rule tok H7 rfl rfl rfl fun _ _ H8 => ?_
      refine alloc_as tok H8 [.int .u8 0, .int .i64 0] rfl rfl rfl fun y w8 H9 => ?_
      refine store_as tok H9 [.int .u8 g'.acct, .int .i64 g'.amt] rfl rfl rfl rfl rfl fun w9 H10 => ?_
      refine load_rule tok H10 (v := .int .u8 g'.acct) rfl ?_
      refine br (fun q => ?_) (fun q => ?_)
      · have q : (g'.acct == a) = true := q
        have q : g'.acct = a := by simpa using q
        refine load_rule tok H10 (v := .int .i64 g'.amt) rfl ?_
        rcases (show in64 (s2 + g'.amt) = true ∨ in64 (s2 + g'.amt) = false by cases in64 (s2 + g'.amt) <;> simp) with en | en
        · have en' := en
          simp only [in64, Bool.and_eq_true, decide_eq_true_eq] at en'
          refine call_rule H10 (fun M I _ h => (addR_ok en).symm ▸ addRef s2 g'.amt hin2 hg3 _ M I h) fun _ w11 _ H11 => ?_
          refine Exists.intro (i2 + 1, s2 + g'.amt) (And.intro ⟨rfl, hj64, trivial⟩ (And.intro hmu2 ⟨by simp only; omega, ⟨en'.1, en'.2⟩, ?_, Hp.keep H11⟩))
          rw [hg2, legSum, if_pos q, if_pos en]
        · refine call_rule H10 (fun M I _ h => (addR_no en).symm ▸ addRef s2 g'.amt hin2 hg3 _ M I h) fun _ w11 _ H11 => ?_
          have e0 : linSum loan false a xs 0 = none := by
            rw [hg, linSum, if_neg (fun h => h.2 qm), hg2, legSum, if_pos q, if_neg (by rw [en]; simp)]
          refine Exists.intro () (And.intro ?_ (And.intro trivial (Hp.keep H11)))
          rw [e0]; rfl
      · have q : (g'.acct == a) = false := q
        have q : ¬ g'.acct = a := by simpa using q
        refine Exists.intro (i2 + 1, s2) (And.intro ⟨rfl, hj64, trivial⟩ (And.intro hmu2 ⟨by simp only; omega, hin2, ?_, Hp.keep H10⟩))
        rw [hg2, legSum, if_neg q]
    · have h7 : ¬ (i2 : Int) < u.s.n := h7
      have e2 : legSum a u.ls sm = some s2 := by rw [hg2, List.drop_eq_nil_of_le (by omega)]; rfl
      refine Exists.intro (i + 1, s2) (And.intro ⟨rfl, hi64, trivial⟩ (And.intro hmu ⟨by simp only; omega, hin2, ?_, Hp.keep H6⟩))
      rw [hg, linSum, if_neg (fun h => h.2 qm), e2]
  · have h5 : ¬ (i : Int) < n := h5
    have e0 : linSum loan false a xs 0 = some sm := by rw [hg, List.drop_eq_nil_of_le (by omega)]; rfl
    refine Exists.intro () (And.intro ?_ (And.intro trivial (Hp.keep H3)))
    rw [e0]; rfl
set_option maxRecDepth 20000 in
set_option maxHeartbeats 1000000 in
theorem sumRef_true (p : Nat) (s : SV) (xs : List Ln) (hok : LnsOk xs) (hsn : s.n = xs.length) (loan a : Int) (w : World) (M I : BS)
    (H : Hp ⟨w, M, I⟩ [blk p [.slice s.A s.n s.c] 33, row 66 6 (.slice s.A s.n s.c) s.n (lnsC xs)] [LnF xs] w) :
    Ctr Tryz.prog 82 [.pointer (some ⟨p, 0, none⟩), .int .u32 loan, .bool true, .int .u8 a] w M I (fun _ : Unit => sumV (linSum loan true a xs 0)) (fun _ => True) (fun _ => [blk p [.slice s.A s.n s.c] 33, row 66 6 (.slice s.A s.n s.c) s.n (lnsC xs)]) (fun _ => []) := by
  obtain ⟨A, n, c⟩ := s
  simp only at hsn H ⊢
  obtain ⟨hlen, hall⟩ := hok
  refine Exe.of_ev tok Tryz.call82 Tryz.func82 rfl rfl rfl ?_
  refine load_rule tok H (v := .slice A n c) rfl ?_
  refine loop_rule tok (σ := Nat × Int) 1152921504602773248 (fun t => [(10, .int .i64 t.2), (22, .int .i64 t.1)])
    (fun t w' => t.1 ≤ xs.length ∧ inK .i64 t.2 ∧ linSum loan true a xs 0 = linSum loan true a (xs.drop t.1) t.2 ∧ Hp ⟨w, M, I⟩ [blk p [.slice A n c] 33, row 66 6 (.slice A n c) n (lnsC xs)] [LnF xs] w') (fun t => xs.length - t.1) (0, 0) rfl rfl ⟨rfl, rfl, trivial⟩
    ⟨Nat.zero_le _, ⟨by simp [kLo], by simp [kHi]⟩, rfl, H⟩ ?_
  rintro ⟨i, sm⟩ j w3 ⟨hi, hin, hg, H3⟩
  simp only at hi hin hg H3
  refine brd (fun h5 => ?_) (fun h5 => ?_)
  · have h5 : (i : Int) < n := h5
    have hil : i < xs.length := by omega
    obtain ⟨u, hu⟩ : ∃ u, xs[i]? = some u := ⟨_, List.getElem?_eq_getElem hil⟩
    have hdu : xs.drop i = u :: xs.drop (i + 1) := by
      rw [List.drop_eq_getElem_cons hil]
      rw [List.getElem?_eq_getElem hil] at hu
      rw [Option.some.inj hu]
    have hum := List.mem_of_getElem? hu
    have hul := (hall u hum).2.2
    obtain ⟨b1, rfl⟩ := H3.rowSome (A := A) (n := n) (c := c) (by omega)
    have i1 : (0 : Int) ≤ (i : Int) := by omega
    have hi64 : Value.int .i64 (IntKind.i64.wrap (i + 1)) = .int .i64 ((i + 1 : Nat) : Int) := by rw [w64 (by omega) (by omega)]; rfl
    have hmu : xs.length - (i + 1) < xs.length - i := by omega
    rw [hdu] at hg
    have H3' := Hp.lnAt H3 (xs := xs) hum
    obtain ⟨hn2, hc2, hc3⟩ := H3'.sll (A := u.s.A) (n := u.s.n) (c := u.s.c)
    have hlok := legs_ok (A := u.s.A) (n := u.s.n) (c := u.s.c) H3'
    refine idx_own tok rfl rfl i1 h5 ?_
    refine row_ld (n := n) (c := c) tok H3' (v := lnV u) (lnR_get hu) ?_
    refine alloc_as tok H3' lnZ rfl rfl rfl fun t w4 H4 => ?_
    refine store_as tok H4 (lnC u) rfl rfl rfl rfl rfl fun w5 H5 => ?_
    refine load_rule tok H5 (v := .slice u.s.A u.s.n u.s.c) rfl ?_
    have H5 : Hp ⟨w, M, I⟩ [blk t (lnC u) 66, blk p [.slice (some ⟨b1, 0, none⟩) n c] 33, row 66 6 (.slice (some ⟨b1, 0, none⟩) n c) n (lnsC xs)] [Sl legR (.slice u.s.A u.s.n u.s.c) u.ls, LnF xs] w5 := Hp.keep H5
    refine loop_rule tok (σ := Nat × Int) 576459652791912192 (fun t => [(10, .int .i64 t.2), (40, .int .i64 t.1)])
      (fun t' w' => t'.1 ≤ u.ls.length ∧ inK .i64 t'.2 ∧ legSum a u.ls sm = legSum a (u.ls.drop t'.1) t'.2 ∧ Hp ⟨w, M, I⟩ [blk t (lnC u) 66, blk p [.slice (some ⟨b1, 0, none⟩) n c] 33, row 66 6 (.slice (some ⟨b1, 0, none⟩) n c) n (lnsC xs)] [Sl legR (.slice u.s.A u.s.n u.s.c) u.ls, LnF xs] w') (fun t' => u.ls.length - t'.1) (0, sm) rfl rfl ⟨rfl, rfl, trivial⟩
      ⟨Nat.zero_le _, hin, rfl, H5⟩ ?_
    rintro ⟨i2, s2⟩ j2 w6 ⟨hi2, hin2, hg2, H6⟩
    simp only at hi2 hin2 hg2 H6
    refine brd (fun h7 => ?_) (fun h7 => ?_)
    · have h7 : (i2 : Int) < u.s.n := h7
      have hil2 : i2 < u.ls.length := by omega
      obtain ⟨g, hgg⟩ : ∃ g, u.ls[i2]? = some g := ⟨_, List.getElem?_eq_getElem hil2⟩
      have hdg : u.ls.drop i2 = g :: u.ls.drop (i2 + 1) := by
        rw [List.drop_eq_getElem_cons hil2]
        rw [List.getElem?_eq_getElem hil2] at hgg
        rw [Option.some.inj hgg]
      have hg3 := (hlok g (List.mem_of_getElem? hgg)).2
      have hj64 : Value.int .i64 (IntKind.i64.wrap (i2 + 1)) = .int .i64 ((i2 + 1 : Nat) : Int) := by rw [w64 (by omega) (by omega)]; rfl
      have hmu2 : u.ls.length - (i2 + 1) < u.ls.length - i2 := by omega
      rw [hdg] at hg2
      have i2p : (0 : Int) ≤ (i2 : Int) := by omega
      refine idx_rule tok H6 (r := legR) (A := u.s.A) (n := u.s.n) (c := u.s.c) rfl rfl rfl i2p h7 fun pb po g' hg' H7 => ?_
      have eg : g' = g := Option.some.inj ((show u.ls[i2]? = some g' by simpa using hg').symm.trans hgg)
      subst eg
      refine ldp_rule tok H7 rfl rfl rfl fun _ _ H8 => ?_
      refine alloc_as tok H8 [.int .u8 0, .int .i64 0] rfl rfl rfl fun y w8 H9 => ?_
      refine store_as tok H9 [.int .u8 g'.acct, .int .i64 g'.amt] rfl rfl rfl rfl rfl fun w9 H10 => ?_
      refine load_rule tok H10 (v := .int .u8 g'.acct) rfl ?_
      refine br (fun q => ?_) (fun q => ?_)
      · have q : (g'.acct == a) = true := q
        have q : g'.acct = a := by simpa using q
        refine load_rule tok H10 (v := .int .i64 g'.amt) rfl ?_
        rcases (show in64 (s2 + g'.amt) = true ∨ in64 (s2 + g'.amt) = false by cases in64 (s2 + g'.amt) <;> simp) with en | en
        · have en' := en
          simp only [in64, Bool.and_eq_true, decide_eq_true_eq] at en'
          refine call_rule H10 (fun M I _ h => (addR_ok en).symm ▸ addRef s2 g'.amt hin2 hg3 _ M I h) fun _ w11 _ H11 => ?_
          refine Exists.intro (i2 + 1, s2 + g'.amt) (And.intro ⟨rfl, hj64, trivial⟩ (And.intro hmu2 ⟨by simp only; omega, ⟨en'.1, en'.2⟩, ?_, Hp.keep H11⟩))
          rw [hg2, legSum, if_pos q, if_pos en]
        · refine call_rule H10 (fun M I _ h => (addR_no en).symm ▸ addRef s2 g'.amt hin2 hg3 _ M I h) fun _ w11 _ H11 => ?_
          have e0 : linSum loan true a xs 0 = none := by
            rw [hg, linSum, if_neg (fun h => by cases h.1), hg2, legSum, if_pos q, if_neg (by rw [en]; simp)]
          refine Exists.intro () (And.intro ?_ (And.intro trivial (Hp.keep H11)))
          rw [e0]; rfl
      · have q : (g'.acct == a) = false := q
        have q : ¬ g'.acct = a := by simpa using q
        refine Exists.intro (i2 + 1, s2) (And.intro ⟨rfl, hj64, trivial⟩ (And.intro hmu2 ⟨by simp only; omega, hin2, ?_, Hp.keep H10⟩))
        rw [hg2, legSum, if_neg q]
    · have h7 : ¬ (i2 : Int) < u.s.n := h7
      have e2 : legSum a u.ls sm = some s2 := by rw [hg2, List.drop_eq_nil_of_le (by omega)]; rfl
      refine Exists.intro (i + 1, s2) (And.intro ⟨rfl, hi64, trivial⟩ (And.intro hmu ⟨by simp only; omega, hin2, ?_, Hp.keep H6⟩))
      rw [hg, linSum, if_neg (fun h => by cases h.1), e2]
  · have h5 : ¬ (i : Int) < n := h5
    have e0 : linSum loan true a xs 0 = some sm := by rw [hg, List.drop_eq_nil_of_le (by omega)]; rfl
    refine Exists.intro () (And.intro ?_ (And.intro trivial (Hp.keep H3)))
    rw [e0]; rfl
end Go.Proofs.YtfemfomgmopibaaGreatDoor
