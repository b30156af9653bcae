/- The ledger: one more line: the walk. -/
import Derived.Test.YtfemfomgmopibaaGreatDoorB1
namespace Go.Proofs.YtfemfomgmopibaaGreatDoor
open Go Go.Proofs Go.Wk
@[reducible] def getS (m : List (Pr × Int)) (p : Pr) : Int := (lk p m).getD 0
theorem getV (m : List (Pr × Int)) (p : Pr) : Value.int .i64 (getS m p) = ((lk p m).map iV).getD (.int .i64 0) := by
  unfold getS
  cases lk p m <;> rfl
def nextGo (sums : List (Pr × Int)) (loan : Int) : List Leg → List (Pr × Int) → Option (List (Pr × Int))
  | [], nx => some nx
  | x :: r, nx => if in64 (getS sums ⟨loan, x.acct, false⟩ + x.amt) = true ∧ in64 (getS sums ⟨0, x.acct, true⟩ + x.amt) = true
      then nextGo sums loan r (putL ⟨0, x.acct, true⟩ (getS sums ⟨0, x.acct, true⟩ + x.amt) (putL ⟨loan, x.acct, false⟩ (getS sums ⟨loan, x.acct, false⟩ + x.amt) nx)) else none
theorem put_keys {κ ν : Type} [DecidableEq κ] {k p : κ} {v : ν} : ∀ {l : List (κ × ν)}, p ∈ (putL k v l).map (·.1) ↔ p = k ∨ p ∈ l.map (·.1)
  | [] => by simp [putL]
  | q :: l => by
    unfold putL
    split
    · rename_i h
      simp [h]
    · simp only [List.map_cons, List.mem_cons, put_keys (l := l)]
      constructor
      · rintro (h | h | h)
        · exact .inr (.inl h)
        · exact .inl h
        · exact .inr (.inr h)
      · rintro (h | h | h)
        · exact .inr (.inl h)
        · exact .inl h
        · exact .inr (.inr h)
theorem nodup_put {κ ν : Type} [DecidableEq κ] {k : κ} {v : ν} : ∀ {l : List (κ × ν)}, (l.map (·.1)).Nodup → ((putL k v l).map (·.1)).Nodup
  | [], _ => by simp [putL]
  | q :: l, h => by
    simp only [List.map_cons, List.nodup_cons] at h
    unfold putL
    split
    · rename_i hq
      simp only [List.map_cons, List.nodup_cons]
      exact ⟨by rw [← hq]; exact h.1, h.2⟩
    · rename_i hq
      simp only [List.map_cons, List.nodup_cons]
      refine ⟨fun hm => ?_, nodup_put h.2⟩
      rcases put_keys.1 hm with e | e
      · exact hq e
      · exact h.1 e
theorem nextGo_nodup {sums : List (Pr × Int)} {loan : Int} : ∀ {ls : List Leg} {nx out : List (Pr × Int)}, (nx.map (·.1)).Nodup → nextGo sums loan ls nx = some out → (out.map (·.1)).Nodup
  | [], nx, out, h, e => by simp only [nextGo, Option.some.injEq] at e; rw [← e]; exact h
  | x :: r, nx, out, h, e => by
    unfold nextGo at e
    split at e
    · exact nextGo_nodup (nodup_put (nodup_put h)) e
    · cases e
structure AR where
  e : ErrF
  s : SV
  d : Led
def addOk (s : SV) (d : Led) (k : Key) (ls : List Leg) (of : Int) (a : AR) : Prop := match nextGo d.sums k.loan ls [] with
  | none => (∃ p, a.e = .fault p k.loan 12) ∧ a.s = s ∧ a.d = d
  | some nx => a.e = .none ∧ a.s.n = s.n + 1 ∧ a.d.live = d.live ∧ (∃ sv, a.d.lns = d.lns ++ [⟨k, sv, of, ls⟩]) ∧ ∀ p, lk p a.d.sums = (lk p nx).or (lk p d.sums)
set_option maxRecDepth 20000 in
set_option maxHeartbeats 2000000 in
theorem add_ (l m1 m2 : Nat) (s : SV) (d : Led) (hd : d.lns.length ≤ 100000) (hsn : s.n = d.lns.length) (hs : ∀ p, inK .i64 (getS d.sums p)) (k : Key) (hk : keyIn k) (A : Option Addr) (n c : Nat) (ls : List Leg) (hls : ls.length ≤ 1000) (of : Int) (w : World) (M I : BS)
    (H : Hp ⟨w, M, I⟩ (ledA l m1 m2 s d) [Sl legR (.slice A n c) ls, LnF d.lns] w) :
    Ctr Tryz.prog 38 [.pointer (some ⟨l, 0, none⟩), .agg #[.int .u32 k.loan, .int .i32 k.day, .int .u8 k.kind, .int .u32 k.seq, .slice A n c], .int .i64 of] w M I (fun a : AR => errFV a.e) (addOk s d k ls of) (fun a => errFA a.e :: ledA l m1 m2 a.s a.d) (fun a => [LnF a.d.lns]) := by
  obtain ⟨hn, hc, hc2⟩ := H.sll (A := A) (n := n) (c := c)
  have hok := legs_ok (A := A) (n := n) (c := c) H
  obtain ⟨hk1, hk2⟩ := hk.1
  simp only [kLo, kHi] at hk1 hk2
  refine Exe.of_ev tok Tryz.call38 Tryz.func38 rfl rfl rfl ?_
  refine box_as H (entC k A n c) rfl fun x w1 H1 => ?_
  refine makeMap_rule H1 prV iV fun m3 w2 H2 => ?_
  refine load_rule tok H2 (v := .slice A n c) rfl ?_
  have H2 : Hp ⟨w, M, I⟩ [mapO m3 prV iV [], blk x (entC k A n c) 39, blk l [.slice s.A s.n s.c, .map (some m1), .map (some m2)] 85, row 69 6 (.slice s.A s.n s.c) s.n (lnsC d.lns), mapO m1 keyV iV d.live, mapO m2 prV iV d.sums] [Sl legR (.slice A n c) ls, LnF d.lns] w2 := H2
  refine loop_rule tok (σ := Nat × List (Pr × Int)) 18446744073709304384 (fun s => [(18, .int .i64 s.1)])
    (fun t w' => t.1 ≤ n ∧ nextGo d.sums k.loan ls [] = nextGo d.sums k.loan (ls.drop t.1) t.2 ∧ (t.2.map (·.1)).Nodup ∧ Hp ⟨w, M, I⟩ [mapO m3 prV iV t.2, blk x (entC k A n c) 39, blk l [.slice s.A s.n s.c, .map (some m1), .map (some m2)] 85, row 69 6 (.slice s.A s.n s.c) s.n (lnsC d.lns), mapO m1 keyV iV d.live, mapO m2 prV iV d.sums] [Sl legR (.slice A n c) ls, LnF d.lns] w') (fun s => n - s.1) (0, []) rfl rfl ⟨rfl, trivial⟩ ⟨Nat.zero_le _, rfl, List.nodup_nil, H2⟩ ?_
  rintro ⟨i, nx⟩ j w3 ⟨hi, hg, hnd, H3⟩
  simp only at hi hg hnd H3
  refine brd (fun q => ?_) (fun q => ?_)
  · have q : (i : Int) < n := q
    obtain ⟨u, hu⟩ : ∃ u, ls[i]? = some u := ⟨_, List.getElem?_eq_getElem (by omega)⟩
    have hdu : ls.drop i = u :: ls.drop (i + 1) := by
      rw [List.drop_eq_getElem_cons (by omega)]
      rw [List.getElem?_eq_getElem (by omega)] at hu
      rw [Option.some.inj hu]
    have hu2 := (hok u (List.mem_of_getElem? hu)).2
    rw [hdu] at hg
    refine idx_rule tok H3 (r := legR) (A := A) (n := n) (c := c) rfl rfl rfl (by omega) q fun pb po u' hu' H4 => ?_
    have eu : u' = u := Option.some.inj ((show ls[i]? = some u' by simpa using hu').symm.trans hu)
    refine ldp_rule tok H4 rfl rfl rfl fun _ _ H5 => ?_
    refine alloc_as tok H5 [.int .u8 0, .int .i64 0] rfl rfl rfl fun y w4 H6 => ?_
    refine store_as tok H6 [.int .u8 u'.acct, .int .i64 u'.amt] rfl rfl rfl rfl rfl fun w5 H7 => ?_
    refine load_rule tok H7 (v := .int .u32 k.loan) rfl ?_
    refine load_rule tok H7 (v := .int .u8 u'.acct) rfl ?_
    refine load_rule tok H7 (v := .int .u8 u'.acct) rfl ?_
    refine slice_as tok H7 [.int .u32 k.loan, .int .u8 u'.acct, .bool false, .int .u32 0, .int .u8 u'.acct, .bool true] rfl rfl rfl rfl rfl rfl fun g w6 H8 => ?_
    have H8 : Hp ⟨w, M, I⟩ [mapO m3 prV iV nx, blk g [.int .u32 k.loan, .int .u8 u'.acct, .bool false, .int .u32 0, .int .u8 u'.acct, .bool true] 94, blk y [.int .u8 u'.acct, .int .i64 u'.amt] 43, blk x (entC k A n c) 39, blk l [.slice s.A s.n s.c, .map (some m1), .map (some m2)] 85, row 69 6 (.slice s.A s.n s.c) s.n (lnsC d.lns), mapO m1 keyV iV d.live, mapO m2 prV iV d.sums] [Sl legR (.slice A n c) ls, LnF d.lns] w6 := Hp.keep H8
    have hu3 : inK .i64 u'.amt := by rw [eu]; exact hu2
    have ew : IntKind.u64.wrap k.loan = k.loan := wrap_id ⟨hk1, by show _ ≤ (18446744073709551615 : Int); omega⟩
    have over : ∀ pf w', nextGo d.sums k.loan ls [] = none → Hp ⟨w, M, I⟩ [blk pf [.int .u64 k.loan, .iface 47 (.int .i64 12)] 104, blk l [.slice s.A s.n s.c, .map (some m1), .map (some m2)] 85, row 69 6 (.slice s.A s.n s.c) s.n (lnsC d.lns), mapO m1 keyV iV d.live, mapO m2 prV iV d.sums] [LnF d.lns] w' →
        ∃ a : AR, Value.iface 102 (.pointer (some ⟨pf, 0, none⟩)) = errFV a.e ∧ addOk s d k ls of a ∧ Hp ⟨w, M, I⟩ (errFA a.e :: ledA l m1 m2 a.s a.d) [LnF a.d.lns] w' := fun pf w' e h =>
      ⟨⟨.fault pf k.loan 12, s, d⟩, rfl, by unfold addOk; rw [e]; exact ⟨⟨pf, rfl⟩, rfl, rfl⟩, h⟩
    refine loop_rule tok (σ := Nat × List (Pr × Int)) 9223372028264855616 (fun s => [(33, .int .i64 s.1)])
      (fun t w' => ((t.1 = 0 ∧ t.2 = nx) ∨ (t.1 = 1 ∧ t.2 = putL ⟨k.loan, u'.acct, false⟩ (getS d.sums ⟨k.loan, u'.acct, false⟩ + u'.amt) nx ∧ in64 (getS d.sums ⟨k.loan, u'.acct, false⟩ + u'.amt) = true) ∨ (t.1 = 2 ∧ t.2 = putL ⟨0, u'.acct, true⟩ (getS d.sums ⟨0, u'.acct, true⟩ + u'.amt) (putL ⟨k.loan, u'.acct, false⟩ (getS d.sums ⟨k.loan, u'.acct, false⟩ + u'.amt) nx) ∧ in64 (getS d.sums ⟨k.loan, u'.acct, false⟩ + u'.amt) = true ∧ in64 (getS d.sums ⟨0, u'.acct, true⟩ + u'.amt) = true)) ∧
        Hp ⟨w, M, I⟩ [mapO m3 prV iV t.2, blk g [.int .u32 k.loan, .int .u8 u'.acct, .bool false, .int .u32 0, .int .u8 u'.acct, .bool true] 94, blk y [.int .u8 u'.acct, .int .i64 u'.amt] 43, blk x (entC k A n c) 39, blk l [.slice s.A s.n s.c, .map (some m1), .map (some m2)] 85, row 69 6 (.slice s.A s.n s.c) s.n (lnsC d.lns), mapO m1 keyV iV d.live, mapO m2 prV iV d.sums] [Sl legR (.slice A n c) ls, LnF d.lns] w') (fun s => 2 - s.1) (0, nx) rfl rfl ⟨rfl, trivial⟩ ⟨.inl ⟨rfl, rfl⟩, H8⟩ ?_
    rintro ⟨t, mm⟩ j2 w7 ⟨ht, H9⟩
    simp only at ht H9
    rcases ht with ⟨rfl, rfl⟩ | ⟨rfl, rfl, en0⟩ | ⟨rfl, rfl, en0, en1⟩
    · skip
      refine idx_own tok rfl rfl (show (0 : Int) ≤ ((0 : Nat) : Int) by omega) (show ((0 : Nat) : Int) < ((2 : Nat) : Int) by omega) ?_
      refine load_rule tok H9 (v := prV ⟨k.loan, u'.acct, false⟩) rfl ?_
      refine alloc_as tok H9 [.int .u32 0, .int .u8 0, .bool false] rfl rfl rfl fun pa w8 Ha => ?_
      refine store_as tok Ha [.int .u32 k.loan, .int .u8 u'.acct, .bool false] rfl rfl rfl rfl rfl fun w9 Hb => ?_
      refine draw_rule (A := []) tok tdr Hb [0, 1, 2, 3, 4, 5, 6, 7, 8, 9, 10, 11, 12, 13] [0, 1, 3, 7, 0, 31, 0, 64, 255, 511, 1023, 1023, 2047, 8191] rfl ?_
      refine pass_rule _ (fun w h => load_rule tok h (v := .map (some m2)) rfl ⟨rfl, rfl⟩) ?_
      refine pass_rule _ (fun w h => load_rule tok h (v := prV ⟨k.loan, u'.acct, false⟩) rfl ⟨rfl, rfl⟩) ?_
      refine pass_rule (.int .i64 (getS d.sums ⟨k.loan, u'.acct, false⟩)) (fun w h => lookup_rule (n := m2) tok h rfl rfl rfl prKeys rfl (getV d.sums ⟨k.loan, u'.acct, false⟩) ⟨rfl, rfl⟩) ?_
      refine pass_rule _ (fun w h => load_rule tok h (v := .int .i64 u'.amt) rfl ⟨rfl, rfl⟩) ?_
      refine Or.elim (show in64 (getS d.sums ⟨k.loan, u'.acct, false⟩ + u'.amt) = true ∨ in64 (getS d.sums ⟨k.loan, u'.acct, false⟩ + u'.amt) = false by cases in64 (getS d.sums ⟨k.loan, u'.acct, false⟩ + u'.amt) <;> simp) (fun en => ?_) (fun en => ?_)
      · refine imp_rule (fun X wx h => call_rule h (fun M I _ h => (addV_ok en).symm ▸ add (getS d.sums ⟨k.loan, u'.acct, false⟩) u'.amt (hs ⟨k.loan, u'.acct, false⟩) hu3 _ M I h) fun _ w1 _ H1 => imp_done H1 ?_)
        refine done_rule fun wa Hc => ?_
        refine load_rule tok Hc (v := prV ⟨k.loan, u'.acct, false⟩) rfl ?_
        refine mapUpd_rule (n := m3) (k := ⟨k.loan, u'.acct, false⟩) (v := getS d.sums ⟨k.loan, u'.acct, false⟩ + u'.amt) tok Hc rfl prKeys rfl rfl fun wb Hd => ?_
        exact Exists.intro (0 + 1, putL ⟨k.loan, u'.acct, false⟩ (getS d.sums ⟨k.loan, u'.acct, false⟩ + u'.amt) mm) (And.intro ⟨rfl, trivial⟩ (And.intro (by show 2 - (0 + 1) < 2 - 0; omega) ⟨(.inr (.inl ⟨rfl, rfl, en⟩)), Hp.keep Hd⟩))
      · refine imp_rule (fun X wx h => call_rule h (fun M I _ h => (addV_no en).symm ▸ add (getS d.sums ⟨k.loan, u'.acct, false⟩) u'.amt (hs ⟨k.loan, u'.acct, false⟩) hu3 _ M I h) fun _ w1 _ H1 => imp_done H1 ?_)
        refine done_rule fun wa Hc => ?_
        refine load_rule tok Hc (v := .int .u32 k.loan) rfl ?_
        refine box_as Hc [.int .u64 (IntKind.u64.wrap k.loan), .iface 47 (.int .i64 12)] rfl fun pf wb Hd => ?_
        rw [ew] at Hd
        exact over pf wb (by rw [hg, nextGo, if_neg (fun h => by rw [eu] at en; rw [h.1] at en; cases en)]) (Hp.keep Hd)
    · skip
      refine idx_own tok rfl rfl (show (0 : Int) ≤ ((1 : Nat) : Int) by omega) (show ((1 : Nat) : Int) < ((2 : Nat) : Int) by omega) ?_
      refine load_rule tok H9 (v := prV ⟨0, u'.acct, true⟩) rfl ?_
      refine alloc_as tok H9 [.int .u32 0, .int .u8 0, .bool false] rfl rfl rfl fun pa w8 Ha => ?_
      refine store_as tok Ha [.int .u32 0, .int .u8 u'.acct, .bool true] rfl rfl rfl rfl rfl fun w9 Hb => ?_
      refine draw_rule (A := []) tok tdr Hb [0, 1, 2, 3, 4, 5, 6, 7, 8, 9, 10, 11, 12, 13] [0, 1, 3, 7, 0, 31, 0, 64, 255, 511, 1023, 1023, 2047, 8191] rfl ?_
      refine pass_rule _ (fun w h => load_rule tok h (v := .map (some m2)) rfl ⟨rfl, rfl⟩) ?_
      refine pass_rule _ (fun w h => load_rule tok h (v := prV ⟨0, u'.acct, true⟩) rfl ⟨rfl, rfl⟩) ?_
      refine pass_rule (.int .i64 (getS d.sums ⟨0, u'.acct, true⟩)) (fun w h => lookup_rule (n := m2) tok h rfl rfl rfl prKeys rfl (getV d.sums ⟨0, u'.acct, true⟩) ⟨rfl, rfl⟩) ?_
      refine pass_rule _ (fun w h => load_rule tok h (v := .int .i64 u'.amt) rfl ⟨rfl, rfl⟩) ?_
      refine Or.elim (show in64 (getS d.sums ⟨0, u'.acct, true⟩ + u'.amt) = true ∨ in64 (getS d.sums ⟨0, u'.acct, true⟩ + u'.amt) = false by cases in64 (getS d.sums ⟨0, u'.acct, true⟩ + u'.amt) <;> simp) (fun en => ?_) (fun en => ?_)
      · refine imp_rule (fun X wx h => call_rule h (fun M I _ h => (addV_ok en).symm ▸ add (getS d.sums ⟨0, u'.acct, true⟩) u'.amt (hs ⟨0, u'.acct, true⟩) hu3 _ M I h) fun _ w1 _ H1 => imp_done H1 ?_)
        refine done_rule fun wa Hc => ?_
        refine load_rule tok Hc (v := prV ⟨0, u'.acct, true⟩) rfl ?_
        refine mapUpd_rule (n := m3) (k := ⟨0, u'.acct, true⟩) (v := getS d.sums ⟨0, u'.acct, true⟩ + u'.amt) tok Hc rfl prKeys rfl rfl fun wb Hd => ?_
        exact Exists.intro (1 + 1, putL ⟨0, u'.acct, true⟩ (getS d.sums ⟨0, u'.acct, true⟩ + u'.amt) (putL ⟨k.loan, u'.acct, false⟩ (getS d.sums ⟨k.loan, u'.acct, false⟩ + u'.amt) nx)) (And.intro ⟨rfl, trivial⟩ (And.intro (by show 2 - (1 + 1) < 2 - 1; omega) ⟨(.inr (.inr ⟨rfl, rfl, en0, en⟩)), Hp.keep Hd⟩))
      · refine imp_rule (fun X wx h => call_rule h (fun M I _ h => (addV_no en).symm ▸ add (getS d.sums ⟨0, u'.acct, true⟩) u'.amt (hs ⟨0, u'.acct, true⟩) hu3 _ M I h) fun _ w1 _ H1 => imp_done H1 ?_)
        refine done_rule fun wa Hc => ?_
        refine load_rule tok Hc (v := .int .u32 k.loan) rfl ?_
        refine box_as Hc [.int .u64 (IntKind.u64.wrap k.loan), .iface 47 (.int .i64 12)] rfl fun pf wb Hd => ?_
        rw [ew] at Hd
        exact over pf wb (by rw [hg, nextGo, if_neg (fun h => by rw [eu] at en; rw [h.2] at en; cases en)]) (Hp.keep Hd)
    · refine Exists.intro (i + 1, putL ⟨0, u'.acct, true⟩ (getS d.sums ⟨0, u'.acct, true⟩ + u'.amt) (putL ⟨k.loan, u'.acct, false⟩ (getS d.sums ⟨k.loan, u'.acct, false⟩ + u'.amt) nx)) (And.intro ⟨?_, trivial⟩ (And.intro ?_ ⟨?_, ?_, ?_, Hp.keep H9⟩))
      · show Value.int .i64 (IntKind.i64.wrap (i + 1)) = _
        rw [w64 (by omega) (by omega)]; rfl
      · simp only; omega
      · simp only; omega
      · simp only
        rw [hg, nextGo, if_pos ⟨by rw [← eu]; exact en0, by rw [← eu]; exact en1⟩, eu]
      · exact nodup_put (nodup_put hnd)
  · have q : ¬ (i : Int) < n := q
    have hdn : ls.drop i = [] := List.drop_eq_nil_of_le (by omega)
    rw [hdn] at hg
    have hg : nextGo d.sums k.loan ls [] = some nx := hg
    refine load_rule tok H3 (v := .map (some m2)) rfl ?_
    refine call_rule H3 (fun M I _ h => copyMap m2 m3 d.sums nx hnd _ M I h) fun sums2 w4 hsm H4 => ?_
    have H4 : Hp ⟨w, M, I⟩ [blk x (entC k A n c) 39, blk l [.slice s.A s.n s.c, .map (some m1), .map (some m2)] 85, row 69 6 (.slice s.A s.n s.c) s.n (lnsC d.lns), mapO m1 keyV iV d.live, mapO m2 prV iV sums2] [Sl legR (.slice A n c) ls, LnF d.lns] w4 := Hp.keep H4
    refine draw_rule (A := [blk l [.slice s.A s.n s.c, .map (some m1), .map (some m2)] 85, row 69 6 (.slice s.A s.n s.c) s.n (lnsC d.lns)]) tok tdr H4 [7, 8, 9, 1, 2, 3, 4, 5, 6, 10, 11, 12, 13, 14, 0, 15, 16, 17] [0, 0, 2, 6, 14, 0, 32, 0, 128, 384, 992, 0, 4064, 8160, 16382, 32767, 65535, 131071] rfl ?_
    refine pass_rule _ (fun w h => load_rule tok h (v := .slice A n c) rfl ⟨rfl, rfl⟩) ?_
    refine imp_rule (fun X wx h => call_rule h (fun M I h0 h => cloneLegs A n c ls (by omega) _ M I (h0 rfl) h) fun sv w1 _ H1 => imp_done H1 ?_)
    refine pass_kept [blk l [.slice s.A s.n s.c, .map (some m1), .map (some m2)] 85] _ (fun X w h => load_rule tok h (v := .slice s.A s.n s.c) rfl ⟨rfl, rfl⟩) ?_
    refine pass_rule _ (fun w h => load_rule tok h (v := keyV k) rfl ⟨rfl, rfl⟩) ?_
    refine fresh_slice tok [.int .u32 k.loan, .int .i32 k.day, .int .u8 k.kind, .int .u32 k.seq, .slice sv.A sv.n sv.c, .int .i64 of] rfl rfl rfl rfl rfl rfl rfl fun g => ?_
    refine imp_rule (fun X wx h => append_rule (v := .slice s.A s.n s.c) (b := g) (m := 1) (c := 1) tok h rfl rfl rfl rfl rfl rfl rfl rfl (by show (s.n + 1) * 48 ≤ _; omega) (by omega) fun A2 c2 w1 H1 => imp_done H1 ?_)
    refine imp_rule (fun X wx h => store_as tok h [.slice A2 (s.n + 1) c2, .map (some m1), .map (some m2)] rfl rfl rfl rfl rfl fun w1 H1 => imp_done H1 ?_)
    refine done_rule fun w5 H5 => ?_
    have H6 : Hp ⟨w, M, I⟩ [blk l [.slice A2 (s.n + 1) c2, .map (some m1), .map (some m2)] 85, row 69 6 (.slice A2 (s.n + 1) c2) (s.n + 1) (lnsC d.lns ++ [.int .u32 k.loan, .int .i32 k.day, .int .u8 k.kind, .int .u32 k.seq, .slice sv.A sv.n sv.c, .int .i64 of]), mapO m1 keyV iV d.live, mapO m2 prV iV sums2] [Sl legR (.slice sv.A sv.n sv.c) ls, LnF d.lns] w5 := Hp.keep H5
    have el : lnsC d.lns ++ [.int .u32 k.loan, .int .i32 k.day, .int .u8 k.kind, .int .u32 k.seq, .slice sv.A sv.n sv.c, .int .i64 of] = lnsC (d.lns ++ [⟨k, sv, of, ls⟩]) := by
      rw [lnsC_app]; simp [lnsC]
    rw [el] at H6
    have H7 : Hp ⟨w, M, I⟩ [blk l [.slice A2 (s.n + 1) c2, .map (some m1), .map (some m2)] 85, row 69 6 (.slice A2 (s.n + 1) c2) (s.n + 1) (lnsC (d.lns ++ [⟨k, sv, of, ls⟩])), mapO m1 keyV iV d.live, mapO m2 prV iV sums2] [LnF (d.lns ++ [⟨k, sv, of, ls⟩])] w5 := H6.facts fun I ha f hf => by
      rw [List.mem_singleton] at hf
      subst hf
      intro z hz
      rcases List.mem_append.1 hz with hz | hz
      · exact ha (LnF d.lns) (List.mem_cons_of_mem _ List.mem_cons_self) z hz
      · rw [List.mem_singleton] at hz
        subst hz
        exact ha _ List.mem_cons_self
    have okk : addOk s d k ls of ⟨.none, ⟨A2, s.n + 1, c2⟩, ⟨d.lns ++ [⟨k, sv, of, ls⟩], d.live, sums2⟩⟩ := by
      unfold addOk
      rw [hg]
      exact ⟨rfl, rfl, rfl, ⟨sv, rfl⟩, hsm⟩
    exact Exists.intro ⟨.none, ⟨A2, s.n + 1, c2⟩, ⟨d.lns ++ [⟨k, sv, of, ls⟩], d.live, sums2⟩⟩ (And.intro rfl (And.intro okk (Hp.addEmp H7)))
end Go.Proofs.YtfemfomgmopibaaGreatDoor
