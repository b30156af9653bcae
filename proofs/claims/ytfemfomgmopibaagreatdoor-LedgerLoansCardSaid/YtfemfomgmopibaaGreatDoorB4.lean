/- The ledger: Reverse: the walk. -/
import Derived.Test.YtfemfomgmopibaaGreatDoorB3
namespace Go.Proofs.YtfemfomgmopibaaGreatDoor
open Go Go.Proofs Go.Wk
theorem lnsC_drop : ∀ (xs : List Ln) (j : Nat), (lnsC xs).drop (j * 6) = lnsC (xs.drop j)
  | xs, 0 => by simp
  | [], j + 1 => by simp [lnsC]
  | x :: r, j + 1 => by
    rw [show (j + 1) * 6 = j * 6 + 6 by omega, lnsC]
    rw [show (lnC x ++ lnsC r).drop (j * 6 + 6) = (lnsC r).drop (j * 6) by
      rw [Nat.add_comm, ← List.drop_drop]; rfl]
    exact lnsC_drop r j
theorem lns_get {xs : List Ln} {j : Nat} {x : Ln} (h : xs[j]? = some x) : ldV (tb 39) (lnsC xs) (0 + j * 6 + 0) = some (.agg #[.int .u32 x.k.loan, .int .i32 x.k.day, .int .u8 x.k.kind, .int .u32 x.k.seq, .slice x.s.A x.s.n x.s.c]) := by
  obtain ⟨hj, _⟩ := List.getElem?_eq_some_iff.1 h
  have hd : xs.drop j = x :: xs.drop (j + 1) := by
    rw [List.drop_eq_getElem_cons hj]
    rw [List.getElem?_eq_getElem hj] at h
    rw [Option.some.inj h]
  show (bif Nat.ble (0 + j * 6 + 0 + 5) (lnsC xs).length then some (Value.agg (((lnsC xs).drop (0 + j * 6 + 0)).take 5).toArray) else none) = _
  rw [show 0 + j * 6 + 0 = j * 6 by omega, lnsC_drop, hd]
  have : Nat.ble (j * 6 + 5) (lnsC xs).length = true := by rw [Nat.ble_eq, lnsC_len]; omega
  rw [this]
  rfl
theorem lns_of {xs : List Ln} {j : Nat} {x : Ln} (h : xs[j]? = some x) : ldV (tb 3) (lnsC xs) (0 + j * 6 + 5) = some (.int .i64 x.of) := by
  obtain ⟨hj, _⟩ := List.getElem?_eq_some_iff.1 h
  have hd : xs.drop j = x :: xs.drop (j + 1) := by
    rw [List.drop_eq_getElem_cons hj]
    rw [List.getElem?_eq_getElem hj] at h
    rw [Option.some.inj h]
  show (lnsC xs)[0 + j * 6 + 5]? = _
  have : (lnsC xs)[0 + j * 6 + 5]? = ((lnsC xs).drop (j * 6))[5]? := by rw [List.getElem?_drop]; congr 1; omega
  rw [this, lnsC_drop, hd]
  rfl
/-- One line's legs read. -/
theorem Hp.lnAt {w : World} {B : Base} {S : List Asn} {F : List Fact} (H : Hp B S F w) {xs : List Ln} [hp : InF F (LnF xs)] {x : Ln} (hx : x ∈ xs) : Hp B S (Sl legR (.slice x.s.A x.s.n x.s.c) x.ls :: F) w :=
  H.facts fun I ha f hf => by
    rcases List.mem_cons.1 hf with rfl | hf
    · exact ha _ hp.mem x hx
    · exact ha f hf
def revOk (s : SV) (d : Led) (k : Key) (a : AR) : Prop := match lk k d.live with
  | none => ∃ p, a = ⟨.fault p k.loan 3, s, d⟩
  | some i => ∃ x, d.lns[i.toNat]? = some x ∧ (if rightB x.k x.ls = false then a = ⟨.code 1, s, d⟩ else if turnGo 0 x.ls = false then a = ⟨.code 12, s, d⟩
      else match nextGo d.sums x.k.loan (x.ls.map negL) [] with
      | none => ∃ p, a = ⟨.fault p x.k.loan 12, s, d⟩
      | some nx => a.e = .none ∧ a.s.n = s.n + 1 ∧ a.d.live = delL k d.live ∧ (∃ sv, a.d.lns = d.lns ++ [⟨x.k, sv, i + 1, x.ls.map negL⟩]) ∧ ∀ p, lk p a.d.sums = (lk p nx).or (lk p d.sums))
set_option maxRecDepth 20000 in
set_option maxHeartbeats 2000000 in
theorem reverse_ (l m1 m2 : Nat) (s : SV) (d : Led) (hd : d.lns.length ≤ 100000) (hsn : s.n = d.lns.length) (hs : ∀ p, inK .i64 (getS d.sums p)) (k : Key) (hk : keyIn k) (hinv : ∀ i, lk k d.live = some i → 0 ≤ i ∧ ∃ x, d.lns[i.toNat]? = some x ∧ keyIn x.k ∧ x.ls.length ≤ 1000) (w : World) (M I : BS)
    (H : Hp ⟨w, M, I⟩ (ledA l m1 m2 s d) [LnF d.lns] w) :
    Ctr Tryz.prog 16 [.pointer (some ⟨l, 0, none⟩), keyV k] w M I (fun a : AR => errFV a.e) (revOk s d k) (fun a => errFA a.e :: ledA l m1 m2 a.s a.d) (fun a => [LnF a.d.lns]) := by
  obtain ⟨hk1, hk2⟩ := hk.1
  simp only [kLo, kHi] at hk1 hk2
  have ew : IntKind.u64.wrap k.loan = k.loan := wrap_id ⟨hk1, by show _ ≤ (18446744073709551615 : Int); omega⟩
  cases hlk : lk k d.live with
  | none =>
    have q2 : (lk k d.live).isSome = false := by rw [hlk]; rfl
    refine Exe.of_ev tok Tryz.call16 Tryz.func16 rfl rfl rfl ?_
    refine box_as H (keyC k) rfl fun x w1 H1 => ?_
    refine draw_rule (A := []) tok tdr H1 [0, 1, 2, 3, 4, 5, 6, 7, 8, 9, 10] [0, 1, 3, 7, 0, 31, 63, 127, 127, 255, 1023] rfl ?_
    refine pass_rule _ (fun w h => load_rule tok h (v := .map (some m1)) rfl ⟨rfl, rfl⟩) ?_
    refine pass_rule _ (fun w h => load_rule tok h (v := keyV k) rfl ⟨rfl, rfl⟩) ?_
    refine pass_rule (.tuple #[.int .i64 ((lk k d.live).getD 0), .bool (lk k d.live).isSome]) (fun w h => lookup_ok_rule (n := m1) tok h rfl rfl rfl keyKeys rfl (liveV d.live k) ⟨rfl, rfl⟩) ?_
    refine done_rule fun w3 H3 => ?_
    refine br (fun _ => ?_) (fun q => ?_)
    · refine load_rule tok H3 (v := .int .u32 k.loan) rfl ?_
      refine box_as H3 [.int .u64 (IntKind.u64.wrap k.loan), .iface 47 (.int .i64 3)] rfl fun pf w4 H4 => ?_
      rw [ew] at H4
      have okk : revOk s d k ⟨.fault pf k.loan 3, s, d⟩ := by unfold revOk; rw [hlk]; exact ⟨pf, rfl⟩
      have H5 : Hp ⟨w, M, I⟩ (blk pf [.int .u64 k.loan, .iface 47 (.int .i64 3)] 104 :: ledA l m1 m2 s d) [LnF d.lns] w4 := Hp.keep H4
      exact Exists.intro ⟨.fault pf k.loan 3, s, d⟩ (And.intro rfl (And.intro okk H5))
    · exfalso
      have q : (lk k d.live).isSome = true := by simpa using q
      rw [q2] at q; cases q
  | some i =>
    have q2 : (lk k d.live).isSome = true := by rw [hlk]; rfl
    obtain ⟨hi0, y, hy1, hyk, hyl⟩ := hinv i hlk
    obtain ⟨sA, sn, sc⟩ := s
    simp only at hsn
    have hil : i.toNat < d.lns.length := (List.getElem?_eq_some_iff.1 hy1).1
    obtain ⟨b, hb⟩ := H.rowSome (A := sA) (n := sn) (c := sc) (by omega)
    subst hb
    have hgd : (lk k d.live).getD 0 = i := by rw [hlk]; rfl
    have hym : y ∈ d.lns := List.mem_of_getElem? hy1
    have hio : IntKind.i64.wrap (i + 1) = i + 1 := w64 (by omega) (by omega)
    refine Exe.of_ev tok Tryz.call16 Tryz.func16 rfl rfl rfl ?_
    refine box_as H (keyC k) rfl fun x w1 H1 => ?_
    refine draw_rule (A := []) tok tdr H1 [0, 1, 2, 3, 4, 5, 6, 7, 8, 9, 10] [0, 1, 3, 7, 0, 31, 63, 127, 127, 255, 1023] rfl ?_
    refine pass_rule _ (fun w h => load_rule tok h (v := .map (some m1)) rfl ⟨rfl, rfl⟩) ?_
    refine pass_rule _ (fun w h => load_rule tok h (v := keyV k) rfl ⟨rfl, rfl⟩) ?_
    refine pass_rule (.tuple #[.int .i64 i, .bool true]) (fun w h => lookup_ok_rule (n := m1) tok h rfl rfl rfl keyKeys rfl (by rw [hlk]; rfl) ⟨rfl, rfl⟩) ?_
    refine done_rule fun w3 H3 => ?_
    refine load_rule tok H3 (v := .slice (some ⟨b, 0, none⟩) sn sc) rfl ?_
    refine idx_own tok rfl rfl hi0 (by omega) ?_
    refine row_ld tok H3 (v := .agg #[.int .u32 y.k.loan, .int .i32 y.k.day, .int .u8 y.k.kind, .int .u32 y.k.seq, .slice y.s.A y.s.n y.s.c]) (lns_get hy1) ?_
    have H3' := Hp.lnAt H3 (xs := d.lns) hym
    refine call_rule H3' (fun M I h0 h => turned y.k hyk.2.2.1 y.s.A y.s.n y.s.c y.ls _ M I (h0 rfl) h) fun t => ?_
    cases t with
    | bad c =>
      intro w4 ht H4
      have okk : revOk ⟨some ⟨b, 0, none⟩, sn, sc⟩ d k ⟨.code c, ⟨some ⟨b, 0, none⟩, sn, sc⟩, d⟩ := by
        unfold revOk
        rw [hlk]
        refine ⟨y, hy1, ?_⟩
        rcases ht with ⟨e1, e2⟩ | ⟨e1, e2, e3⟩
        · rw [if_pos e1, e2]
        · rw [if_neg (by rw [e1]; simp), if_pos e2, e3]
      refine alloc_as tok H4 [.int .u32 0, .int .i32 0, .int .u8 0, .int .u32 0, .slice none 0 0] rfl rfl rfl fun t7 w5 H5 => ?_
      refine store_as tok H5 [.int .u32 0, .int .i32 0, .int .u8 0, .int .u32 0, .slice none 0 0] rfl rfl rfl rfl rfl fun w6 H6 => ?_
      have H7 : Hp ⟨w, M, I⟩ (ledA l m1 m2 ⟨some ⟨b, 0, none⟩, sn, sc⟩ d) [LnF d.lns] w6 := Hp.keep H6
      exact Exists.intro ⟨.code c, ⟨some ⟨b, 0, none⟩, sn, sc⟩, d⟩ (And.intro rfl (And.intro okk (Hp.addEmp H7)))
    | ok ts =>
      intro w4 ht H4
      obtain ⟨hr1, hr2, hr3⟩ := ht
      have hr1' : ¬ rightB y.k y.ls = false := by rw [hr1]; simp
      have hr2' : ¬ turnGo 0 y.ls = false := by rw [hr2]; simp
      refine alloc_as tok H4 [.int .u32 0, .int .i32 0, .int .u8 0, .int .u32 0, .slice none 0 0] rfl rfl rfl fun t7 w5 H5 => ?_
      refine store_as tok H5 (entC y.k ts.A ts.n ts.c) rfl rfl rfl rfl rfl fun w6 H6 => ?_
      refine load_rule tok H6 (v := .agg #[.int .u32 y.k.loan, .int .i32 y.k.day, .int .u8 y.k.kind, .int .u32 y.k.seq, .slice ts.A ts.n ts.c]) rfl ?_
      have H6 : Hp ⟨w, M, I⟩ [blk l [.slice (some ⟨b, 0, none⟩) sn sc, .map (some m1), .map (some m2)] 85, row 69 6 (.slice (some ⟨b, 0, none⟩) sn sc) sn (lnsC d.lns), mapO m1 keyV iV d.live, mapO m2 prV iV d.sums, blk x (keyC k) 26, blk t7 (entC y.k ts.A ts.n ts.c) 39] [Sl legR (.slice ts.A ts.n ts.c) (y.ls.map negL), LnF d.lns] w6 := Hp.keep H6
      refine call_rule H6 (fun M I _ h => add_ l m1 m2 ⟨some ⟨b, 0, none⟩, sn, sc⟩ d hd hsn hs y.k hyk ts.A ts.n ts.c (y.ls.map negL) (by rw [List.length_map]; exact hyl) (IntKind.i64.wrap (i + 1)) _ M I h) fun a => ?_
      rcases a with ⟨e, s2, d2⟩
      cases e with
      | code c0 =>
        intro w7 ha H7
        exfalso
        unfold addOk at ha
        cases hg : nextGo d.sums y.k.loan (y.ls.map negL) [] with
        | none => rw [hg] at ha; obtain ⟨⟨p, hp⟩, _⟩ := ha; cases hp
        | some nx => rw [hg] at ha; cases ha.1
      | fault pf a0 c0 =>
        intro w7 ha H7
        have H7 : Hp ⟨w, M, I⟩ [blk pf [.int .u64 a0, .iface 47 (.int .i64 c0)] 104, blk l [.slice s2.A s2.n s2.c, .map (some m1), .map (some m2)] 85, row 69 6 (.slice s2.A s2.n s2.c) s2.n (lnsC d2.lns), mapO m1 keyV iV d2.live, mapO m2 prV iV d2.sums, blk x (keyC k) 26, blk t7 (entC y.k ts.A ts.n ts.c) 39] [LnF d2.lns, Sl legR (.slice ts.A ts.n ts.c) (y.ls.map negL), LnF d.lns] w7 := H7
        have H7 : Hp ⟨w, M, I⟩ [blk pf [.int .u64 a0, .iface 47 (.int .i64 c0)] 104, blk l [.slice s2.A s2.n s2.c, .map (some m1), .map (some m2)] 85, row 69 6 (.slice s2.A s2.n s2.c) s2.n (lnsC d2.lns), mapO m1 keyV iV d2.live, mapO m2 prV iV d2.sums] [LnF d2.lns] w7 := Hp.keep H7
        have okk : revOk ⟨some ⟨b, 0, none⟩, sn, sc⟩ d k ⟨.fault pf a0 c0, s2, d2⟩ := by
          unfold revOk
          rw [hlk]
          refine ⟨y, hy1, ?_⟩
          rw [if_neg hr1', if_neg hr2']
          unfold addOk at ha
          cases hg : nextGo d.sums y.k.loan (y.ls.map negL) [] with
          | none =>
            rw [hg] at ha
            obtain ⟨⟨p, hp⟩, h1, h2⟩ := ha
            simp only at hp h1 h2
            injection hp with e1 e2 e3
            subst e1 e2 e3 h1 h2
            exact ⟨pf, rfl⟩
          | some nx => rw [hg] at ha; cases ha.1
        exact Exists.intro ⟨.fault pf a0 c0, s2, d2⟩ (And.intro rfl (And.intro okk H7))
      | none =>
        intro w7 ha H7
        unfold addOk at ha
        cases hg : nextGo d.sums y.k.loan (y.ls.map negL) [] with
        | none => rw [hg] at ha; obtain ⟨⟨p, hp⟩, _⟩ := ha; cases hp
        | some nx =>
          rw [hg] at ha
          obtain ⟨_, h2, h3, h4, h5⟩ := ha
          simp only at h2 h3 h4 h5
          have H7 : Hp ⟨w, M, I⟩ [empA, blk l [.slice s2.A s2.n s2.c, .map (some m1), .map (some m2)] 85, row 69 6 (.slice s2.A s2.n s2.c) s2.n (lnsC d2.lns), mapO m1 keyV iV d2.live, mapO m2 prV iV d2.sums, blk x (keyC k) 26, blk t7 (entC y.k ts.A ts.n ts.c) 39] [LnF d2.lns, Sl legR (.slice ts.A ts.n ts.c) (y.ls.map negL), LnF d.lns] w7 := H7
          have H8 : Hp ⟨w, M, I⟩ [blk l [.slice s2.A s2.n s2.c, .map (some m1), .map (some m2)] 85, row 69 6 (.slice s2.A s2.n s2.c) s2.n (lnsC d2.lns), mapO m1 keyV iV d2.live, mapO m2 prV iV d2.sums, blk x (keyC k) 26] [LnF d2.lns] w7 := Hp.keep H7
          refine draw_rule (A := [mapO m1 keyV iV d2.live]) tok tdr H8 [0, 1, 2, 3, 4, 5] [0, 1, 3, 7, 0, 31] rfl ?_
          refine pass_rule _ (fun w h => load_rule tok h (v := .map (some m1)) rfl ⟨rfl, rfl⟩) ?_
          refine pass_rule _ (fun w h => load_rule tok h (v := keyV k) rfl ⟨rfl, rfl⟩) ?_
          refine imp_rule (fun X wx h => delete_rule (n := m1) (k := k) tok h rfl keyKeys rfl fun w1 H1 => imp_done H1 ?_)
          refine done_rule fun w9 H9 => ?_
          have H10 : Hp ⟨w, M, I⟩ (ledA l m1 m2 s2 ⟨d2.lns, delL k d2.live, d2.sums⟩) [LnF d2.lns] w9 := Hp.keep H9
          have okk : revOk ⟨some ⟨b, 0, none⟩, sn, sc⟩ d k ⟨.none, s2, ⟨d2.lns, delL k d2.live, d2.sums⟩⟩ := by
            unfold revOk
            rw [hlk]
            refine ⟨y, hy1, ?_⟩
            rw [if_neg hr1', if_neg hr2', hg]
            rw [hio] at h4
            exact ⟨rfl, h2, by rw [h3], h4, h5⟩
          exact Exists.intro ⟨.none, s2, ⟨d2.lns, delL k d2.live, d2.sums⟩⟩ (And.intro rfl (And.intro okk (Hp.addEmp H10)))
end Go.Proofs.YtfemfomgmopibaaGreatDoor
