/- The ledger: one more line: the walk. -/
import Derived.Test.YtjlfjjgjghdokaaGreatDoorLy19
namespace Go.Proofs.YtjlfjjgjghdokaaGreatDoor
open Go Go.Proofs Go.Wk
@[reducible] def getS (m : List (Pr × Int)) (p : Pr) : Int := (lk p m).getD 0
theorem getV (m : List (Pr × Int)) (p : Pr) : Value.int .i64 (getS m p) = ((lk p m).map iV).getD (.int .i64 0) := by
  unfold getS
  cases lk p m <;> rfl
def nextGo (sums : List (Pr × Int)) (loan : Int) : List Leg → List (Pr × Int) → Option (List (Pr × Int))
  | [], nx => some nx
  | x :: r, nx => if in64 (getS sums ⟨loan, x.acct, false⟩ + x.amt) = true ∧ in64 (getS sums ⟨0, x.acct, true⟩ + x.amt) = true
      then nextGo sums loan r (putL ⟨0, x.acct, true⟩ (getS sums ⟨0, x.acct, true⟩ + x.amt) (putL ⟨loan, x.acct, false⟩ (getS sums ⟨loan, x.acct, false⟩ + x.amt) nx)) else none
theorem put_keys {κ ν : Type} [DecidableEq κ] {k p : κ} {v : ν} : ∀ {l : List (κ × ν)}, p ∈ (putL k v l).map (·.1) ↔ p = k ∨ p ∈ l.map (·.1)
  | [] => by simp [putL]
  | q :: l => by
    unfold putL
    split
    · rename_i h
      simp [h]
    · simp only [List.map_cons, List.mem_cons, put_keys (l := l)]
      constructor
      · rintro (h | h | h)
        · exact .inr (.inl h)
        · exact .inl h
        · exact .inr (.inr h)
      · rintro (h | h | h)
        · exact .inr (.inl h)
        · exact .inl h
        · exact .inr (.inr h)
theorem nodup_put {κ ν : Type} [DecidableEq κ] {k : κ} {v : ν} : ∀ {l : List (κ × ν)}, (l.map (·.1)).Nodup → ((putL k v l).map (·.1)).Nodup
  | [], _ => by simp [putL]
  | q :: l, h => by
    simp only [List.map_cons, List.nodup_cons] at h
    unfold putL
    split
    · rename_i hq
      simp only [List.map_cons, List.nodup_cons]
      exact ⟨by rw [← hq]; exact h.1, h.2⟩
    · rename_i hq
      simp only [List.map_cons, List.nodup_cons]
      refine ⟨fun hm => ?_, nodup_put h.2⟩
      rcases put_keys.1 hm with e | e
      · exact hq e
      · exact h.1 e
structure AR where
  e : ErrF
  s : SV
  d : Led
def addOk (s : SV) (d : Led) (k : Key) (ls : List Leg) (of : Int) (a : AR) : Prop := match nextGo d.sums k.loan ls [] with
  | none => (∃ p, a.e = .fault p k.loan 12) ∧ a.s = s ∧ a.d = d
  | some nx => a.e = .none ∧ a.s.n = s.n + 1 ∧ a.d.live = d.live ∧ (∃ sv, a.d.lns = d.lns ++ [⟨k, sv, of, ls⟩]) ∧ ∀ p, lk p a.d.sums = (lk p nx).or (lk p d.sums)
set_option maxRecDepth 20000 in
set_option maxHeartbeats 2000000 in
theorem add_ (l m1 m2 : Nat) (s : SV) (d : Led) (hd : d.lns.length ≤ 100000) (hsn : s.n = d.lns.length) (hs : ∀ p, inK .i64 (getS d.sums p)) (k : Key) (hk : keyIn k) (A : Option Addr) (n c : Nat) (ls : List Leg) (hls : ls.length ≤ 1000) (of : Int) (w : World) (M I : BS)
    (H : Hp ⟨w, M, I⟩ (ledA l m1 m2 s d) [Sl legR (.slice A n c) ls, LnF d.lns] w) :
    Ctr Tryz.prog 114 [.pointer (some ⟨l, 0, none⟩), .agg #[.int .u32 k.loan, .int .i32 k.day, .int .u8 k.kind, .int .u32 k.seq, .slice A n c], .int .i64 of] w M I (fun a : AR => errFV a.e) (addOk s d k ls of) (fun a => errFA a.e :: ledA l m1 m2 a.s a.d) (fun a => [LnF a.d.lns]) := by
  obtain ⟨hn, hc, hc2⟩ := H.sll (A := A) (n := n) (c := c)
  have hok := legs_ok (A := A) (n := n) (c := c) H
  obtain ⟨hk1, hk2⟩ := hk.1
  simp only [kLo, kHi] at hk1 hk2
  refine Exe.of_ev tok Tryz.call114 Tryz.func114 rfl rfl rfl ?_
  refine box_as H (entC k A n c) rfl fun x w1 H1 => ?_
  refine makeMap_rule H1 prV iV fun m3 w2 H2 => ?_
  refine load_rule tok H2 (v := .slice A n c) rfl ?_
  have H2 : Hp ⟨w, M, I⟩ [mapO m3 prV iV [], blk x (entC k A n c) 71, blk l [.slice s.A s.n s.c, .map (some m1), .map (some m2)] 146, row 158 6 (.slice s.A s.n s.c) s.n (lnsC d.lns), mapO m1 keyV iV d.live, mapO m2 prV iV d.sums] [Sl legR (.slice A n c) ls, LnF d.lns] w2 := H2
  refine loop_rule tok (σ := Nat × List (Pr × Int)) 18446744073709304384 (fun s => [(18, .int .i64 s.1)])
    (fun t w' => t.1 ≤ n ∧ nextGo d.sums k.loan ls [] = nextGo d.sums k.loan (ls.drop t.1) t.2 ∧ (t.2.map (·.1)).Nodup ∧ Hp ⟨w, M, I⟩ [mapO m3 prV iV t.2, blk x (entC k A n c) 71, blk l [.slice s.A s.n s.c, .map (some m1), .map (some m2)] 146, row 158 6 (.slice s.A s.n s.c) s.n (lnsC d.lns), mapO m1 keyV iV d.live, mapO m2 prV iV d.sums] [Sl legR (.slice A n c) ls, LnF d.lns] w') (fun s => n - s.1) (0, []) rfl rfl ⟨rfl, trivial⟩ ⟨Nat.zero_le _, rfl, List.nodup_nil, H2⟩ ?_
  rintro ⟨i, nx⟩ j w3 ⟨hi, hg, hnd, H3⟩
  simp only at hi hg hnd H3
  refine brd (fun q => ?_) (fun q => ?_)
  · have q : (i : Int) < n := q
    obtain ⟨u, hu⟩ : ∃ u, ls[i]? = some u := ⟨_, List.getElem?_eq_getElem (by omega)⟩
    have hdu : ls.drop i = u :: ls.drop (i + 1) := by
      rw [List.drop_eq_getElem_cons (by omega)]
      rw [List.getElem?_eq_getElem (by omega)] at hu
      rw [Option.some.inj hu]
    have hu2 := (hok u (List.mem_of_getElem? hu)).2
    rw [hdu] at hg
    refine idx_rule tok H3 (r := legR) (A := A) (n := n) (c := c) rfl rfl rfl (by omega) q fun pb po u' hu' H4 => ?_
    have eu : u' = u := Option.some.inj ((show ls[i]? = some u' by simpa using hu').symm.trans hu)
    refine ldp_rule tok H4 rfl rfl rfl fun _ _ H5 => ?_
    refine alloc_as tok H5 [.int .u8 0, .int .i64 0] rfl rfl rfl fun y w4 H6 => ?_
    refine store_as tok H6 [.int .u8 u'.acct, .int .i64 u'.amt] rfl rfl rfl rfl rfl fun w5 H7 => ?_
    refine load_rule tok H7 (v := .int .u32 k.loan) rfl ?_
    refine load_rule tok H7 (v := .int .u8 u'.acct) rfl ?_
    refine load_rule tok H7 (v := .int .u8 u'.acct) rfl ?_
    refine slice_as tok H7 [.int .u32 k.loan, .int .u8 u'.acct, .bool false, .int .u32 0, .int .u8 u'.acct, .bool true] rfl rfl rfl rfl rfl rfl fun g w6 H8 => ?_
    have H8 : Hp ⟨w, M, I⟩ [mapO m3 prV iV nx, blk g [.int .u32 k.loan, .int .u8 u'.acct, .bool false, .int .u32 0, .int .u8 u'.acct, .bool true] 289, blk y [.int .u8 u'.acct, .int .i64 u'.amt] 135, blk x (entC k A n c) 71, blk l [.slice s.A s.n s.c, .map (some m1), .map (some m2)] 146, row 158 6 (.slice s.A s.n s.c) s.n (lnsC d.lns), mapO m1 keyV iV d.live, mapO m2 prV iV d.sums] [Sl legR (.slice A n c) ls, LnF d.lns] w6 := Hp.keep H8
    have hu3 : inK .i64 u'.amt := by rw [eu]; exact hu2
    have ew : IntKind.u64.wrap k.loan = k.loan := wrap_id ⟨hk1, by show _ ≤ (18446744073709551615 : Int); omega⟩
    have over : ∀ pf w', nextGo d.sums k.loan ls [] = none → Hp ⟨w, M, I⟩ [blk pf [.int .u64 k.loan, .iface 100 (.int .i64 12)] 118, blk l [.slice s.A s.n s.c, .map (some m1), .map (some m2)] 146, row 158 6 (.slice s.A s.n s.c) s.n (lnsC d.lns), mapO m1 keyV iV d.live, mapO m2 prV iV d.sums] [LnF d.lns] w' →
        ∃ a : AR, Value.iface 116 (.pointer (some ⟨pf, 0, none⟩)) = errFV a.e ∧ addOk s d k ls of a ∧ Hp ⟨w, M, I⟩ (errFA a.e :: ledA l m1 m2 a.s a.d) [LnF a.d.lns] w' := fun pf w' e h =>
      ⟨⟨.fault pf k.loan 12, s, d⟩, rfl, by unfold addOk; rw [e]; exact ⟨⟨pf, rfl⟩, rfl, rfl⟩, h⟩
    refine loop_rule tok (σ := Nat × List (Pr × Int)) 9223372028264855616 (fun s => [(33, .int .i64 s.1)])
      (fun t w' => ((t.1 = 0 ∧ t.2 = nx) ∨ (t.1 = 1 ∧ t.2 = putL ⟨k.loan, u'.acct, false⟩ (getS d.sums ⟨k.loan, u'.acct, false⟩ + u'.amt) nx ∧ in64 (getS d.sums ⟨k.loan, u'.acct, false⟩ + u'.amt) = true) ∨ (t.1 = 2 ∧ t.2 = putL ⟨0, u'.acct, true⟩ (getS d.sums ⟨0, u'.acct, true⟩ + u'.amt) (putL ⟨k.loan, u'.acct, false⟩ (getS d.sums ⟨k.loan, u'.acct, false⟩ + u'.amt) nx) ∧ in64 (getS d.sums ⟨k.loan, u'.acct, false⟩ + u'.amt) = true ∧ in64 (getS d.sums ⟨0, u'.acct, true⟩ + u'.amt) = true)) ∧
        Hp ⟨w, M, I⟩ [mapO m3 prV iV t.2, blk g [.int .u32 k.loan, .int .u8 u'.acct, .bool false, .int .u32 0, .int .u8 u'.acct, .bool true] 289, blk y [.int .u8 u'.acct, .int .i64 u'.amt] 135, blk x (entC k A n c) 71, blk l [.slice s.A s.n s.c, .map (some m1), .map (some m2)] 146, row 158 6 (.slice s.A s.n s.c) s.n (lnsC d.lns), mapO m1 keyV iV d.live, mapO m2 prV iV d.sums] [Sl legR (.slice A n c) ls, LnF d.lns] w') (fun s => 2 - s.1) (0, nx) rfl rfl ⟨rfl, trivial⟩ ⟨.inl ⟨rfl, rfl⟩, H8⟩ ?_
    rintro ⟨t, mm⟩ j2 w7 ⟨ht, H9⟩
    simp only at ht H9
    rcases ht with ⟨rfl, rfl⟩ | ⟨rfl, rfl, en0⟩ | ⟨rfl, rfl, en0, en1⟩
    · skip
      refine idx_own tok rfl rfl (show (0 : Int) ≤ ((0 : Nat) : Int) by omega) (show ((0 : Nat) : Int) < ((2 : Nat) : Int) by omega) ?_
      refine load_rule tok H9 (v := prV ⟨k.loan, u'.acct, false⟩) rfl ?_
      refine alloc_as tok H9 [.int .u32 0, .int .u8 0, .bool false] rfl rfl rfl fun pa w8 Ha => ?_
      refine store_as tok Ha [.int .u32 k.loan, .int .u8 u'.acct, .bool false] rfl rfl rfl rfl rfl fun w9 Hb => ?_
      refine draw_rule (A := []) tok tdr Hb [0, 1, 2, 3, 4, 5, 6, 7, 8, 9, 10, 11, 12, 13] [0, 1, 3, 7, 0, 31, 0, 64, 255, 511, 1023, 1023, 2047, 8191] rfl ?_
      refine pass_rule _ (fun w h => load_rule tok h (v := .map (some m2)) rfl ⟨rfl, rfl⟩) ?_
      refine pass_rule _ (fun w h => load_rule tok h (v := prV ⟨k.loan, u'.acct, false⟩) rfl ⟨rfl, rfl⟩) ?_
      refine pass_rule (.int .i64 (getS d.sums ⟨k.loan, u'.acct, false⟩)) (fun w h => lookup_rule (n := m2) tok h rfl rfl rfl prKeys rfl (getV d.sums ⟨k.loan, u'.acct, false⟩) ⟨rfl, rfl⟩) ?_
      refine pass_rule _ (fun w h => load_rule tok h (v := .int .i64 u'.amt) rfl ⟨rfl, rfl⟩) ?_
      refine Or.elim (show in64 (getS d.sums ⟨k.loan, u'.acct, false⟩ + u'.amt) = true ∨ in64 (getS d.sums ⟨k.loan, u'.acct, false⟩ + u'.amt) = false by cases in64 (getS d.sums ⟨k.loan, u'.acct, false⟩ + u'.amt) <;> simp) (fun en => ?_) (fun en => ?_)
      · refine imp_rule (fun X wx h => call_rule h (fun M I _ h => (addV_ok en).symm ▸ add (getS d.sums ⟨k.loan, u'.acct, false⟩) u'.amt (hs ⟨k.loan, u'.acct, false⟩) hu3 _ M I h) fun _ w1 _ H1 => imp_done H1 ?_)
        refine done_rule fun wa Hc => ?_
        refine load_rule tok Hc (v := prV ⟨k.loan, u'.acct, false⟩) rfl ?_
        refine mapUpd_rule (n := m3) (k := ⟨k.loan, u'.acct, false⟩) (v := getS d.sums ⟨k.loan, u'.acct, false⟩ + u'.amt) tok Hc rfl prKeys rfl rfl fun wb Hd => ?_
        exact Exists.intro (0 + 1, putL ⟨k.loan, u'.acct, false⟩ (getS d.sums ⟨k.loan, u'.acct, false⟩ + u'.amt) mm) (And.intro ⟨rfl, trivial⟩ (And.intro (by show 2 - (0 + 1) < 2 - 0; omega) ⟨(.inr (.inl ⟨rfl, rfl, en⟩)), Hp.keep Hd⟩))
      · refine imp_rule (fun X wx h => call_rule h (fun M I _ h => (addV_no en).symm ▸ add (getS d.sums ⟨k.loan, u'.acct, false⟩) u'.amt (hs ⟨k.loan, u'.acct, false⟩) hu3 _ M I h) fun _ w1 _ H1 => imp_done H1 ?_)
        refine done_rule fun wa Hc => ?_
        refine load_rule tok Hc (v := .int .u32 k.loan) rfl ?_
        refine box_as Hc [.int .u64 (IntKind.u64.wrap k.loan), .iface 100 (.int .i64 12)] rfl fun pf wb Hd => ?_
        rw [ew] at Hd
        exact over pf wb (by rw [hg, nextGo, if_neg (fun h => by rw [eu] at en; rw [h.1] at en; cases en)]) (Hp.keep Hd)
    · skip
      refine idx_own tok rfl rfl (show (0 : Int) ≤ ((1 : Nat) : Int) by omega) (show ((1 : Nat) : Int) < ((2 : Nat) : Int) by omega) ?_
      refine load_rule tok H9 (v := prV ⟨0, u'.acct, true⟩) rfl ?_
      refine alloc_as tok H9 [.int .u32 0, .int .u8 0, .bool false] rfl rfl rfl fun pa w8 Ha => ?_
      refine store_as tok Ha [.int .u32 0, .int .u8 u'.acct, .bool true] rfl rfl rfl rfl rfl fun w9 Hb => ?_
      refine draw_rule (A := []) tok tdr Hb [0, 1, 2, 3, 4, 5, 6, 7, 8, 9, 10, 11, 12, 13] [0, 1, 3, 7, 0, 31, 0, 64, 255, 511, 1023, 1023, 2047, 8191] rfl ?_
      refine pass_rule _ (fun w h => load_rule tok h (v := .map (some m2)) rfl ⟨rfl, rfl⟩) ?_
      refine pass_rule _ (fun w h => load_rule tok h (v := prV ⟨0, u'.acct, true⟩) rfl ⟨rfl, rfl⟩) ?_
      refine pass_rule (.int .i64 (getS d.sums ⟨0, u'.acct, true⟩)) (fun w h => lookup_rule (n := m2) tok h rfl rfl rfl prKeys rfl (getV d.sums ⟨0, u'.acct, true⟩) ⟨rfl, rfl⟩) ?_
      refine pass_rule _ (fun w h => load_rule tok h (v := .int .i64 u'.amt) rfl ⟨rfl, rfl⟩) ?_
      refine Or.elim (show in64 (getS d.sums ⟨0, u'.acct, true⟩ + u'.amt) = true ∨ in64 (getS d.sums ⟨0, u'.acct, true⟩ + u'.amt) = false by cases in64 (getS d.sums ⟨0, u'.acct, true⟩ + u'.amt) <;> simp) (fun en => ?_) (fun en => ?_)
      · refine imp_rule (fun X wx h => call_rule h (fun M I _ h => (addV_ok en).symm ▸ add (getS d.sums ⟨0, u'.acct, true⟩) u'.amt (hs ⟨0, u'.acct, true⟩) hu3 _ M I h) fun _ w1 _ H1 => imp_done H1 ?_)
        refine done_rule fun wa Hc => ?_
        refine load_rule tok Hc (v := prV ⟨0, u'.acct, true⟩) rfl ?_
        refine mapUpd_rule (n := m3) (k := ⟨0, u'.acct, true⟩) (v := getS d.sums ⟨0, u'.acct, true⟩ + u'.amt) tok Hc rfl prKeys rfl rfl fun wb Hd => ?_
        exact Exists.intro (1 + 1, putL ⟨0, u'.acct, true⟩ (getS d.sums ⟨0, u'.acct, true⟩ + u'.amt) (putL ⟨k.loan, u'.acct, false⟩ (getS d.sums ⟨k.loan, u'.acct, false⟩ + u'.amt) nx)) (And.intro ⟨rfl, trivial⟩ (And.intro (by show 2 - (1 + 1) < 2 - 1; omega) ⟨(.inr (.inr ⟨rfl, rfl, en0, en⟩)), Hp.keep Hd⟩))
      · refine imp_rule (fun X wx h => call_rule h (fun M I _ h => (addV_no en).symm ▸ add (getS d.sums ⟨0, u'.acct, true⟩) u'.amt (hs ⟨0, u'.acct, true⟩) hu3 _ M I h) fun _ w1 _ H1 => imp_done H1 ?_)
        refine done_rule fun wa Hc => ?_
        refine load_rule tok Hc (v := .int .u32 k.loan) rfl ?_
        refine box_as Hc [.int .u64 (IntKind.u64.wrap k.loan), .iface 100 (.int .i64 12)] rfl fun pf wb Hd => ?_
        rw [ew] at Hd
        exact over pf wb (by rw [hg, nextGo, if_neg (fun h => by rw [eu] at en; rw [h.2] at en; cases en)]) (Hp.keep Hd)
    · refine Exists.intro (i + 1, putL ⟨0, u'.acct, true⟩ (getS d.sums ⟨0, u'.acct, true⟩ + u'.amt) (putL ⟨k.loan, u'.acct, false⟩ (getS d.sums ⟨k.loan, u'.acct, false⟩ + u'.amt) nx)) (And.intro ⟨?_, trivial⟩ (And.intro ?_ ⟨?_, ?_, ?_, Hp.keep H9⟩))
      · show Value.int .i64 (IntKind.i64.wrap (i + 1)) = _
        rw [w64 (by omega) (by omega)]; rfl
      · simp only; omega
      · simp only; omega
      · simp only
        rw [hg, nextGo, if_pos ⟨by rw [← eu]; exact en0, by rw [← eu]; exact en1⟩, eu]
      · exact nodup_put (nodup_put hnd)
  · have q : ¬ (i : Int) < n := q
    have hdn : ls.drop i = [] := List.drop_eq_nil_of_le (by omega)
    rw [hdn] at hg
    have hg : nextGo d.sums k.loan ls [] = some nx := hg
    refine load_rule tok H3 (v := .map (some m2)) rfl ?_
    refine call_rule H3 (fun M I _ h => copyMap m2 m3 d.sums nx hnd _ M I h) fun sums2 w4 hsm H4 => ?_
    have H4 : Hp ⟨w, M, I⟩ [blk x (entC k A n c) 71, blk l [.slice s.A s.n s.c, .map (some m1), .map (some m2)] 146, row 158 6 (.slice s.A s.n s.c) s.n (lnsC d.lns), mapO m1 keyV iV d.live, mapO m2 prV iV sums2] [Sl legR (.slice A n c) ls, LnF d.lns] w4 := Hp.keep H4
    refine draw_rule (A := [blk l [.slice s.A s.n s.c, .map (some m1), .map (some m2)] 146, row 158 6 (.slice s.A s.n s.c) s.n (lnsC d.lns)]) tok tdr H4 [7, 8, 9, 1, 2, 3, 4, 5, 6, 10, 11, 12, 13, 14, 0, 15, 16, 17] [0, 0, 2, 6, 14, 0, 32, 0, 128, 384, 992, 0, 4064, 8160, 16382, 32767, 65535, 131071] rfl ?_
    refine pass_rule _ (fun w h => load_rule tok h (v := .slice A n c) rfl ⟨rfl, rfl⟩) ?_
    refine imp_rule (fun X wx h => call_rule h (fun M I h0 h => cloneLegs A n c ls (by omega) _ M I (h0 rfl) h) fun sv w1 _ H1 => imp_done H1 ?_)
    refine pass_kept [blk l [.slice s.A s.n s.c, .map (some m1), .map (some m2)] 146] _ (fun X w h => load_rule tok h (v := .slice s.A s.n s.c) rfl ⟨rfl, rfl⟩) ?_
    refine pass_rule _ (fun w h => load_rule tok h (v := keyV k) rfl ⟨rfl, rfl⟩) ?_
    refine fresh_slice tok [.int .u32 k.loan, .int .i32 k.day, .int .u8 k.kind, .int .u32 k.seq, .slice sv.A sv.n sv.c, .int .i64 of] rfl rfl rfl rfl rfl rfl rfl fun g => ?_
    refine imp_rule (fun X wx h => append_rule (v := .slice s.A s.n s.c) (b := g) (m := 1) (c := 1) tok h rfl rfl rfl rfl rfl rfl rfl rfl (by show (s.n + 1) * 48 ≤ _; omega) (by omega) fun A2 c2 w1 H1 => imp_done H1 ?_)
    refine imp_rule (fun X wx h => store_as tok h [.slice A2 (s.n + 1) c2, .map (some m1), .map (some m2)] rfl rfl rfl rfl rfl fun w1 H1 => imp_done H1 ?_)
    refine done_rule fun w5 H5 => ?_
    have H6 : Hp ⟨w, M, I⟩ [blk l [.slice A2 (s.n + 1) c2, .map (some m1), .map (some m2)] 146, row 158 6 (.slice A2 (s.n + 1) c2) (s.n + 1) (lnsC d.lns ++ [.int .u32 k.loan, .int .i32 k.day, .int .u8 k.kind, .int .u32 k.seq, .slice sv.A sv.n sv.c, .int .i64 of]), mapO m1 keyV iV d.live, mapO m2 prV iV sums2] [Sl legR (.slice sv.A sv.n sv.c) ls, LnF d.lns] w5 := Hp.keep H5
    have el : lnsC d.lns ++ [.int .u32 k.loan, .int .i32 k.day, .int .u8 k.kind, .int .u32 k.seq, .slice sv.A sv.n sv.c, .int .i64 of] = lnsC (d.lns ++ [⟨k, sv, of, ls⟩]) := by
      rw [lnsC_app]; simp [lnsC]
    rw [el] at H6
    have H7 : Hp ⟨w, M, I⟩ [blk l [.slice A2 (s.n + 1) c2, .map (some m1), .map (some m2)] 146, row 158 6 (.slice A2 (s.n + 1) c2) (s.n + 1) (lnsC (d.lns ++ [⟨k, sv, of, ls⟩])), mapO m1 keyV iV d.live, mapO m2 prV iV sums2] [LnF (d.lns ++ [⟨k, sv, of, ls⟩])] w5 := H6.facts fun I ha f hf => by
      rw [List.mem_singleton] at hf
      subst hf
      intro z hz
      rcases List.mem_append.1 hz with hz | hz
      · exact ha (LnF d.lns) (List.mem_cons_of_mem _ List.mem_cons_self) z hz
      · rw [List.mem_singleton] at hz
        subst hz
        exact ha _ List.mem_cons_self
    have okk : addOk s d k ls of ⟨.none, ⟨A2, s.n + 1, c2⟩, ⟨d.lns ++ [⟨k, sv, of, ls⟩], d.live, sums2⟩⟩ := by
      unfold addOk
      rw [hg]
      exact ⟨rfl, rfl, rfl, ⟨sv, rfl⟩, hsm⟩
    exact Exists.intro ⟨.none, ⟨A2, s.n + 1, c2⟩, ⟨d.lns ++ [⟨k, sv, of, ls⟩], d.live, sums2⟩⟩ (And.intro rfl (And.intro okk (Hp.addEmp H7)))
end Go.Proofs.YtjlfjjgjghdokaaGreatDoor
namespace Go.Proofs.YtjlfjjgjghdokaaGreatDoor
open Go Go.Proofs Go.Wk
def postOk (s : SV) (d : Led) (k : Key) (ls : List Leg) (a : AR) : Prop :=
  if rightB k ls = false then a = ⟨.code 1, s, d⟩
  else if (lk k d.live).isSome = true then ∃ p, a = ⟨.fault p k.loan 10, s, d⟩
  else match nextGo d.sums k.loan ls [] with
    | none => ∃ p, a = ⟨.fault p k.loan 12, s, d⟩
    | some nx => a.e = .none ∧ a.s.n = s.n + 1 ∧ a.d.live = putL k (d.lns.length : Int) d.live ∧ (∃ sv, a.d.lns = d.lns ++ [⟨k, sv, 0, ls⟩]) ∧ ∀ p, lk p a.d.sums = (lk p nx).or (lk p d.sums)
theorem liveV (m : List (Key × Int)) (k : Key) : Value.tuple #[.int .i64 ((lk k m).getD 0), .bool (lk k m).isSome] = .tuple #[((lk k m).map iV).getD (.int .i64 0), .bool (lk k m).isSome] := by
  cases lk k m <;> rfl
set_option maxRecDepth 20000 in
set_option maxHeartbeats 2000000 in
theorem post_ (l m1 m2 : Nat) (s : SV) (d : Led) (hd : d.lns.length ≤ 100000) (hsn : s.n = d.lns.length) (hs : ∀ p, inK .i64 (getS d.sums p)) (k : Key) (hk : keyIn k) (A : Option Addr) (n c : Nat) (ls : List Leg) (hls : ls.length ≤ 1000) (w : World) (M I : BS)
    (H : Hp ⟨w, M, I⟩ (ledA l m1 m2 s d) [Sl legR (.slice A n c) ls, LnF d.lns] w) :
    Ctr Tryz.prog 62 [.pointer (some ⟨l, 0, none⟩), .agg #[.int .u32 k.loan, .int .i32 k.day, .int .u8 k.kind, .int .u32 k.seq, .slice A n c]] w M I (fun a : AR => errFV a.e) (postOk s d k ls) (fun a => errFA a.e :: ledA l m1 m2 a.s a.d) (fun a => [LnF a.d.lns]) := by
  obtain ⟨hk1, hk2⟩ := hk.1
  simp only [kLo, kHi] at hk1 hk2
  have ew : IntKind.u64.wrap k.loan = k.loan := wrap_id ⟨hk1, by show _ ≤ (18446744073709551615 : Int); omega⟩
  refine Exe.of_ev tok Tryz.call62 Tryz.func62 rfl rfl rfl ?_
  refine box_as H (entC k A n c) rfl fun x w1 H1 => ?_
  refine load_rule tok H1 (v := .agg #[.int .u32 k.loan, .int .i32 k.day, .int .u8 k.kind, .int .u32 k.seq, .slice A n c]) rfl ?_
  refine call_rule H1 (fun M I _ h => right k hk.2.2.1 A n c ls _ M I h) fun _ w2 _ H2 => ?_
  refine br (fun q => ?_) (fun q => ?_)
  · have q : rightB k ls = false := by simpa using q
    have okk : postOk s d k ls ⟨.code 1, s, d⟩ := by unfold postOk; rw [if_pos q]
    have H3 : Hp ⟨w, M, I⟩ (ledA l m1 m2 s d) [LnF d.lns] w2 := Hp.keep H2
    exact Exists.intro ⟨.code 1, s, d⟩ (And.intro rfl (And.intro okk (Hp.addEmp H3)))
  have q : rightB k ls = true := by simpa using q
  have q' : ¬ rightB k ls = false := by rw [q]; simp
  refine draw_rule (A := []) tok tdr H2 [0, 1, 2, 3, 4, 5, 6, 7, 8, 9, 10, 11] [0, 1, 3, 7, 0, 16, 63, 127, 255, 255, 511, 2047] rfl ?_
  refine pass_rule _ (fun w h => load_rule tok h (v := .map (some m1)) rfl ⟨rfl, rfl⟩) ?_
  refine pass_rule _ (fun w h => load_rule tok h (v := keyV k) rfl ⟨rfl, rfl⟩) ?_
  refine pass_rule (.tuple #[.int .i64 ((lk k d.live).getD 0), .bool (lk k d.live).isSome]) (fun w h => lookup_ok_rule (n := m1) tok h rfl rfl rfl keyKeys rfl (liveV d.live k) ⟨rfl, rfl⟩) ?_
  refine done_rule fun w3 H3 => ?_
  refine br (fun q2 => ?_) (fun q2 => ?_)
  · have q2 : (lk k d.live).isSome = true := q2
    refine load_rule tok H3 (v := .int .u32 k.loan) rfl ?_
    refine box_as H3 [.int .u64 (IntKind.u64.wrap k.loan), .iface 100 (.int .i64 10)] rfl fun pf w4 H4 => ?_
    rw [ew] at H4
    have okk : postOk s d k ls ⟨.fault pf k.loan 10, s, d⟩ := by unfold postOk; rw [if_neg q', if_pos q2]; exact ⟨pf, rfl⟩
    have H5 : Hp ⟨w, M, I⟩ (blk pf [.int .u64 k.loan, .iface 100 (.int .i64 10)] 118 :: ledA l m1 m2 s d) [LnF d.lns] w4 := Hp.keep H4
    exact Exists.intro ⟨.fault pf k.loan 10, s, d⟩ (And.intro rfl (And.intro okk H5))
  have q2' : ¬ (lk k d.live).isSome = true := by
    have q2 : (lk k d.live).isSome = false := q2
    rw [q2]; simp
  refine load_rule tok H3 (v := .agg #[.int .u32 k.loan, .int .i32 k.day, .int .u8 k.kind, .int .u32 k.seq, .slice A n c]) rfl ?_
  refine call_rule H3 (fun M I _ h => add_ l m1 m2 s d hd hsn hs k hk A n c ls hls 0 _ M I h) fun a => ?_
  rcases a with ⟨e, s2, d2⟩
  cases e with
  | code c0 =>
    intro w4 ha H4
    exfalso
    unfold addOk at ha
    cases hg : nextGo d.sums k.loan ls [] with
    | none => rw [hg] at ha; obtain ⟨⟨p, hp⟩, _⟩ := ha; cases hp
    | some nx => rw [hg] at ha; cases ha.1
  | fault pf a0 c0 =>
    intro w4 ha H4
    have H4 : Hp ⟨w, M, I⟩ [blk pf [.int .u64 a0, .iface 100 (.int .i64 c0)] 118, blk l [.slice s2.A s2.n s2.c, .map (some m1), .map (some m2)] 146, row 158 6 (.slice s2.A s2.n s2.c) s2.n (lnsC d2.lns), mapO m1 keyV iV d2.live, mapO m2 prV iV d2.sums, blk x (entC k A n c) 71] [LnF d2.lns, Sl legR (.slice A n c) ls, LnF d.lns] w4 := H4
    have okk : postOk s d k ls ⟨.fault pf a0 c0, s2, d2⟩ := by
      unfold postOk
      rw [if_neg q', if_neg q2']
      unfold addOk at ha
      cases hg : nextGo d.sums k.loan ls [] with
      | none =>
        rw [hg] at ha
        obtain ⟨⟨p, hp⟩, h1, h2⟩ := ha
        simp only at hp h1 h2
        injection hp with e1 e2 e3
        subst e1 e2 e3 h1 h2
        exact ⟨pf, rfl⟩
      | some nx => rw [hg] at ha; cases ha.1
    have H5 : Hp ⟨w, M, I⟩ (blk pf [.int .u64 a0, .iface 100 (.int .i64 c0)] 118 :: ledA l m1 m2 s2 d2) [LnF d2.lns] w4 := Hp.keep H4
    exact Exists.intro ⟨.fault pf a0 c0, s2, d2⟩ (And.intro rfl (And.intro okk H5))
  | none =>
    intro w4 ha H4
    have H4 : Hp ⟨w, M, I⟩ [empA, blk l [.slice s2.A s2.n s2.c, .map (some m1), .map (some m2)] 146, row 158 6 (.slice s2.A s2.n s2.c) s2.n (lnsC d2.lns), mapO m1 keyV iV d2.live, mapO m2 prV iV d2.sums, blk x (entC k A n c) 71] [LnF d2.lns, Sl legR (.slice A n c) ls, LnF d.lns] w4 := H4
    unfold addOk at ha
    cases hg : nextGo d.sums k.loan ls [] with
    | none => rw [hg] at ha; obtain ⟨⟨p, hp⟩, _⟩ := ha; cases hp
    | some nx =>
      rw [hg] at ha
      obtain ⟨_, h2, h3, h4, h5⟩ := ha
      simp only at h2 h3 h4 h5
      have el : IntKind.i64.wrap ((s2.n : Int) - 1) = ((d.lns.length : Nat) : Int) := by
        rw [w64 (by omega) (by omega)]; omega
      refine draw_rule (A := [mapO m1 keyV iV d2.live]) tok tdr H4 [0, 1, 2, 3, 4, 5, 6, 7, 8, 9, 10, 11, 12] [0, 1, 3, 7, 0, 16, 0, 64, 192, 448, 960, 1984, 4095] rfl ?_
      refine pass_rule _ (fun w h => load_rule tok h (v := .map (some m1)) rfl ⟨rfl, rfl⟩) ?_
      refine pass_rule _ (fun w h => load_rule tok h (v := keyV k) rfl ⟨rfl, rfl⟩) ?_
      refine pass_rule _ (fun w h => load_rule tok h (v := .slice s2.A s2.n s2.c) rfl ⟨rfl, rfl⟩) ?_
      refine imp_rule (fun X wx h => mapUpd_rule (n := m1) (k := k) (v := ((d.lns.length : Nat) : Int)) tok h rfl keyKeys rfl (congrArg (Value.int .i64) el) fun w1 H1 => imp_done H1 ?_)
      refine done_rule fun w5 H5 => ?_
      have H6 : Hp ⟨w, M, I⟩ (ledA l m1 m2 s2 ⟨d2.lns, putL k ((d.lns.length : Nat) : Int) d2.live, d2.sums⟩) [LnF d2.lns] w5 := Hp.keep H5
      have okk : postOk s d k ls ⟨.none, s2, ⟨d2.lns, putL k ((d.lns.length : Nat) : Int) d2.live, d2.sums⟩⟩ := by
        unfold postOk
        rw [if_neg q', if_neg q2', hg]
        exact ⟨rfl, h2, by rw [h3], h4, h5⟩
      exact Exists.intro ⟨.none, s2, ⟨d2.lns, putL k ((d.lns.length : Nat) : Int) d2.live, d2.sums⟩⟩ (And.intro rfl (And.intro okk (Hp.addEmp H6)))
end Go.Proofs.YtjlfjjgjghdokaaGreatDoor
namespace Go.Proofs.YtjlfjjgjghdokaaGreatDoor
open Go Go.Proofs Go.Wk
theorem lnsC_drop : ∀ (xs : List Ln) (j : Nat), (lnsC xs).drop (j * 6) = lnsC (xs.drop j)
  | xs, 0 => by simp
  | [], j + 1 => by simp [lnsC]
  | x :: r, j + 1 => by
    rw [show (j + 1) * 6 = j * 6 + 6 by omega, lnsC]
    rw [show (lnC x ++ lnsC r).drop (j * 6 + 6) = (lnsC r).drop (j * 6) by
      rw [Nat.add_comm, ← List.drop_drop]; rfl]
    exact lnsC_drop r j
theorem lns_get {xs : List Ln} {j : Nat} {x : Ln} (h : xs[j]? = some x) : ldV (tb 71) (lnsC xs) (0 + j * 6 + 0) = some (.agg #[.int .u32 x.k.loan, .int .i32 x.k.day, .int .u8 x.k.kind, .int .u32 x.k.seq, .slice x.s.A x.s.n x.s.c]) := by
  obtain ⟨hj, _⟩ := List.getElem?_eq_some_iff.1 h
  have hd : xs.drop j = x :: xs.drop (j + 1) := by
    rw [List.drop_eq_getElem_cons hj]
    rw [List.getElem?_eq_getElem hj] at h
    rw [Option.some.inj h]
  show (bif Nat.ble (0 + j * 6 + 0 + 5) (lnsC xs).length then some (Value.agg (((lnsC xs).drop (0 + j * 6 + 0)).take 5).toArray) else none) = _
  rw [show 0 + j * 6 + 0 = j * 6 by omega, lnsC_drop, hd]
  have : Nat.ble (j * 6 + 5) (lnsC xs).length = true := by rw [Nat.ble_eq, lnsC_len]; omega
  rw [this]
  rfl
/-- One line's legs read. -/
theorem Hp.lnAt {w : World} {B : Base} {S : List Asn} {F : List Fact} (H : Hp B S F w) {xs : List Ln} [hp : InF F (LnF xs)] {x : Ln} (hx : x ∈ xs) : Hp B S (Sl legR (.slice x.s.A x.s.n x.s.c) x.ls :: F) w :=
  H.facts fun I ha f hf => by
    rcases List.mem_cons.1 hf with rfl | hf
    · exact ha _ hp.mem x hx
    · exact ha f hf
def revOk (s : SV) (d : Led) (k : Key) (a : AR) : Prop := match lk k d.live with
  | none => ∃ p, a = ⟨.fault p k.loan 3, s, d⟩
  | some i => ∃ x, d.lns[i.toNat]? = some x ∧ (if rightB x.k x.ls = false then a = ⟨.code 1, s, d⟩ else if turnGo 0 x.ls = false then a = ⟨.code 12, s, d⟩
      else match nextGo d.sums x.k.loan (x.ls.map negL) [] with
      | none => ∃ p, a = ⟨.fault p x.k.loan 12, s, d⟩
      | some nx => a.e = .none ∧ a.s.n = s.n + 1 ∧ a.d.live = delL k d.live ∧ (∃ sv, a.d.lns = d.lns ++ [⟨x.k, sv, i + 1, x.ls.map negL⟩]) ∧ ∀ p, lk p a.d.sums = (lk p nx).or (lk p d.sums))
set_option maxRecDepth 20000 in
set_option maxHeartbeats 2000000 in
theorem reverse_ (l m1 m2 : Nat) (s : SV) (d : Led) (hd : d.lns.length ≤ 100000) (hsn : s.n = d.lns.length) (hs : ∀ p, inK .i64 (getS d.sums p)) (k : Key) (hk : keyIn k) (hinv : ∀ i, lk k d.live = some i → 0 ≤ i ∧ ∃ x, d.lns[i.toNat]? = some x ∧ keyIn x.k ∧ x.ls.length ≤ 1000) (w : World) (M I : BS)
    (H : Hp ⟨w, M, I⟩ (ledA l m1 m2 s d) [LnF d.lns] w) :
    Ctr Tryz.prog 60 [.pointer (some ⟨l, 0, none⟩), keyV k] w M I (fun a : AR => errFV a.e) (revOk s d k) (fun a => errFA a.e :: ledA l m1 m2 a.s a.d) (fun a => [LnF a.d.lns]) := by
  obtain ⟨hk1, hk2⟩ := hk.1
  simp only [kLo, kHi] at hk1 hk2
  have ew : IntKind.u64.wrap k.loan = k.loan := wrap_id ⟨hk1, by show _ ≤ (18446744073709551615 : Int); omega⟩
  cases hlk : lk k d.live with
  | none =>
    have q2 : (lk k d.live).isSome = false := by rw [hlk]; rfl
    refine Exe.of_ev tok Tryz.call60 Tryz.func60 rfl rfl rfl ?_
    refine box_as H (keyC k) rfl fun x w1 H1 => ?_
    refine draw_rule (A := []) tok tdr H1 [0, 1, 2, 3, 4, 5, 6, 7, 8, 9, 10] [0, 1, 3, 7, 0, 31, 63, 127, 127, 255, 1023] rfl ?_
    refine pass_rule _ (fun w h => load_rule tok h (v := .map (some m1)) rfl ⟨rfl, rfl⟩) ?_
    refine pass_rule _ (fun w h => load_rule tok h (v := keyV k) rfl ⟨rfl, rfl⟩) ?_
    refine pass_rule (.tuple #[.int .i64 ((lk k d.live).getD 0), .bool (lk k d.live).isSome]) (fun w h => lookup_ok_rule (n := m1) tok h rfl rfl rfl keyKeys rfl (liveV d.live k) ⟨rfl, rfl⟩) ?_
    refine done_rule fun w3 H3 => ?_
    refine br (fun _ => ?_) (fun q => ?_)
    · refine load_rule tok H3 (v := .int .u32 k.loan) rfl ?_
      refine box_as H3 [.int .u64 (IntKind.u64.wrap k.loan), .iface 100 (.int .i64 3)] rfl fun pf w4 H4 => ?_
      rw [ew] at H4
      have okk : revOk s d k ⟨.fault pf k.loan 3, s, d⟩ := by unfold revOk; rw [hlk]; exact ⟨pf, rfl⟩
      have H5 : Hp ⟨w, M, I⟩ (blk pf [.int .u64 k.loan, .iface 100 (.int .i64 3)] 118 :: ledA l m1 m2 s d) [LnF d.lns] w4 := Hp.keep H4
      exact Exists.intro ⟨.fault pf k.loan 3, s, d⟩ (And.intro rfl (And.intro okk H5))
    · exfalso
      have q : (lk k d.live).isSome = true := by simpa using q
      rw [q2] at q; cases q
  | some i =>
    have q2 : (lk k d.live).isSome = true := by rw [hlk]; rfl
    obtain ⟨hi0, y, hy1, hyk, hyl⟩ := hinv i hlk
    obtain ⟨sA, sn, sc⟩ := s
    simp only at hsn
    have hil : i.toNat < d.lns.length := (List.getElem?_eq_some_iff.1 hy1).1
    obtain ⟨b, hb⟩ := H.rowSome (A := sA) (n := sn) (c := sc) (by omega)
    subst hb
    have hgd : (lk k d.live).getD 0 = i := by rw [hlk]; rfl
    have hym : y ∈ d.lns := List.mem_of_getElem? hy1
    have hio : IntKind.i64.wrap (i + 1) = i + 1 := w64 (by omega) (by omega)
    refine Exe.of_ev tok Tryz.call60 Tryz.func60 rfl rfl rfl ?_
    refine box_as H (keyC k) rfl fun x w1 H1 => ?_
    refine draw_rule (A := []) tok tdr H1 [0, 1, 2, 3, 4, 5, 6, 7, 8, 9, 10] [0, 1, 3, 7, 0, 31, 63, 127, 127, 255, 1023] rfl ?_
    refine pass_rule _ (fun w h => load_rule tok h (v := .map (some m1)) rfl ⟨rfl, rfl⟩) ?_
    refine pass_rule _ (fun w h => load_rule tok h (v := keyV k) rfl ⟨rfl, rfl⟩) ?_
    refine pass_rule (.tuple #[.int .i64 i, .bool true]) (fun w h => lookup_ok_rule (n := m1) tok h rfl rfl rfl keyKeys rfl (by rw [hlk]; rfl) ⟨rfl, rfl⟩) ?_
    refine done_rule fun w3 H3 => ?_
    refine load_rule tok H3 (v := .slice (some ⟨b, 0, none⟩) sn sc) rfl ?_
    refine idx_own tok rfl rfl hi0 (by omega) ?_
    refine row_ld tok H3 (v := .agg #[.int .u32 y.k.loan, .int .i32 y.k.day, .int .u8 y.k.kind, .int .u32 y.k.seq, .slice y.s.A y.s.n y.s.c]) (lns_get hy1) ?_
    have H3' := Hp.lnAt H3 (xs := d.lns) hym
    refine call_rule H3' (fun M I h0 h => turned y.k hyk.2.2.1 y.s.A y.s.n y.s.c y.ls _ M I (h0 rfl) h) fun t => ?_
    cases t with
    | bad c =>
      intro w4 ht H4
      have okk : revOk ⟨some ⟨b, 0, none⟩, sn, sc⟩ d k ⟨.code c, ⟨some ⟨b, 0, none⟩, sn, sc⟩, d⟩ := by
        unfold revOk
        rw [hlk]
        refine ⟨y, hy1, ?_⟩
        rcases ht with ⟨e1, e2⟩ | ⟨e1, e2, e3⟩
        · rw [if_pos e1, e2]
        · rw [if_neg (by rw [e1]; simp), if_pos e2, e3]
      refine alloc_as tok H4 [.int .u32 0, .int .i32 0, .int .u8 0, .int .u32 0, .slice none 0 0] rfl rfl rfl fun t7 w5 H5 => ?_
      refine store_as tok H5 [.int .u32 0, .int .i32 0, .int .u8 0, .int .u32 0, .slice none 0 0] rfl rfl rfl rfl rfl fun w6 H6 => ?_
      have H7 : Hp ⟨w, M, I⟩ (ledA l m1 m2 ⟨some ⟨b, 0, none⟩, sn, sc⟩ d) [LnF d.lns] w6 := Hp.keep H6
      exact Exists.intro ⟨.code c, ⟨some ⟨b, 0, none⟩, sn, sc⟩, d⟩ (And.intro rfl (And.intro okk (Hp.addEmp H7)))
    | ok ts =>
      intro w4 ht H4
      obtain ⟨hr1, hr2, hr3⟩ := ht
      have hr1' : ¬ rightB y.k y.ls = false := by rw [hr1]; simp
      have hr2' : ¬ turnGo 0 y.ls = false := by rw [hr2]; simp
      refine alloc_as tok H4 [.int .u32 0, .int .i32 0, .int .u8 0, .int .u32 0, .slice none 0 0] rfl rfl rfl fun t7 w5 H5 => ?_
      refine store_as tok H5 (entC y.k ts.A ts.n ts.c) rfl rfl rfl rfl rfl fun w6 H6 => ?_
      refine load_rule tok H6 (v := .agg #[.int .u32 y.k.loan, .int .i32 y.k.day, .int .u8 y.k.kind, .int .u32 y.k.seq, .slice ts.A ts.n ts.c]) rfl ?_
      have H6 : Hp ⟨w, M, I⟩ [blk l [.slice (some ⟨b, 0, none⟩) sn sc, .map (some m1), .map (some m2)] 146, row 158 6 (.slice (some ⟨b, 0, none⟩) sn sc) sn (lnsC d.lns), mapO m1 keyV iV d.live, mapO m2 prV iV d.sums, blk x (keyC k) 68, blk t7 (entC y.k ts.A ts.n ts.c) 71] [Sl legR (.slice ts.A ts.n ts.c) (y.ls.map negL), LnF d.lns] w6 := Hp.keep H6
      refine call_rule H6 (fun M I _ h => add_ l m1 m2 ⟨some ⟨b, 0, none⟩, sn, sc⟩ d hd hsn hs y.k hyk ts.A ts.n ts.c (y.ls.map negL) (by rw [List.length_map]; exact hyl) (IntKind.i64.wrap (i + 1)) _ M I h) fun a => ?_
      rcases a with ⟨e, s2, d2⟩
      cases e with
      | code c0 =>
        intro w7 ha H7
        exfalso
        unfold addOk at ha
        cases hg : nextGo d.sums y.k.loan (y.ls.map negL) [] with
        | none => rw [hg] at ha; obtain ⟨⟨p, hp⟩, _⟩ := ha; cases hp
        | some nx => rw [hg] at ha; cases ha.1
      | fault pf a0 c0 =>
        intro w7 ha H7
        have H7 : Hp ⟨w, M, I⟩ [blk pf [.int .u64 a0, .iface 100 (.int .i64 c0)] 118, blk l [.slice s2.A s2.n s2.c, .map (some m1), .map (some m2)] 146, row 158 6 (.slice s2.A s2.n s2.c) s2.n (lnsC d2.lns), mapO m1 keyV iV d2.live, mapO m2 prV iV d2.sums, blk x (keyC k) 68, blk t7 (entC y.k ts.A ts.n ts.c) 71] [LnF d2.lns, Sl legR (.slice ts.A ts.n ts.c) (y.ls.map negL), LnF d.lns] w7 := H7
        have H7 : Hp ⟨w, M, I⟩ [blk pf [.int .u64 a0, .iface 100 (.int .i64 c0)] 118, blk l [.slice s2.A s2.n s2.c, .map (some m1), .map (some m2)] 146, row 158 6 (.slice s2.A s2.n s2.c) s2.n (lnsC d2.lns), mapO m1 keyV iV d2.live, mapO m2 prV iV d2.sums] [LnF d2.lns] w7 := Hp.keep H7
        have okk : revOk ⟨some ⟨b, 0, none⟩, sn, sc⟩ d k ⟨.fault pf a0 c0, s2, d2⟩ := by
          unfold revOk
          rw [hlk]
          refine ⟨y, hy1, ?_⟩
          rw [if_neg hr1', if_neg hr2']
          unfold addOk at ha
          cases hg : nextGo d.sums y.k.loan (y.ls.map negL) [] with
          | none =>
            rw [hg] at ha
            obtain ⟨⟨p, hp⟩, h1, h2⟩ := ha
            simp only at hp h1 h2
            injection hp with e1 e2 e3
            subst e1 e2 e3 h1 h2
            exact ⟨pf, rfl⟩
          | some nx => rw [hg] at ha; cases ha.1
        exact Exists.intro ⟨.fault pf a0 c0, s2, d2⟩ (And.intro rfl (And.intro okk H7))
      | none =>
        intro w7 ha H7
        unfold addOk at ha
        cases hg : nextGo d.sums y.k.loan (y.ls.map negL) [] with
        | none => rw [hg] at ha; obtain ⟨⟨p, hp⟩, _⟩ := ha; cases hp
        | some nx =>
          rw [hg] at ha
          obtain ⟨_, h2, h3, h4, h5⟩ := ha
          simp only at h2 h3 h4 h5
          have H7 : Hp ⟨w, M, I⟩ [empA, blk l [.slice s2.A s2.n s2.c, .map (some m1), .map (some m2)] 146, row 158 6 (.slice s2.A s2.n s2.c) s2.n (lnsC d2.lns), mapO m1 keyV iV d2.live, mapO m2 prV iV d2.sums, blk x (keyC k) 68, blk t7 (entC y.k ts.A ts.n ts.c) 71] [LnF d2.lns, Sl legR (.slice ts.A ts.n ts.c) (y.ls.map negL), LnF d.lns] w7 := H7
          have H8 : Hp ⟨w, M, I⟩ [blk l [.slice s2.A s2.n s2.c, .map (some m1), .map (some m2)] 146, row 158 6 (.slice s2.A s2.n s2.c) s2.n (lnsC d2.lns), mapO m1 keyV iV d2.live, mapO m2 prV iV d2.sums, blk x (keyC k) 68] [LnF d2.lns] w7 := Hp.keep H7
          refine draw_rule (A := [mapO m1 keyV iV d2.live]) tok tdr H8 [0, 1, 2, 3, 4, 5] [0, 1, 3, 7, 0, 31] rfl ?_
          refine pass_rule _ (fun w h => load_rule tok h (v := .map (some m1)) rfl ⟨rfl, rfl⟩) ?_
          refine pass_rule _ (fun w h => load_rule tok h (v := keyV k) rfl ⟨rfl, rfl⟩) ?_
          refine imp_rule (fun X wx h => delete_rule (n := m1) (k := k) tok h rfl keyKeys rfl fun w1 H1 => imp_done H1 ?_)
          refine done_rule fun w9 H9 => ?_
          have H10 : Hp ⟨w, M, I⟩ (ledA l m1 m2 s2 ⟨d2.lns, delL k d2.live, d2.sums⟩) [LnF d2.lns] w9 := Hp.keep H9
          have okk : revOk ⟨some ⟨b, 0, none⟩, sn, sc⟩ d k ⟨.none, s2, ⟨d2.lns, delL k d2.live, d2.sums⟩⟩ := by
            unfold revOk
            rw [hlk]
            refine ⟨y, hy1, ?_⟩
            rw [if_neg hr1', if_neg hr2', hg]
            rw [hio] at h4
            exact ⟨rfl, h2, by rw [h3], h4, h5⟩
          exact Exists.intro ⟨.none, s2, ⟨d2.lns, delL k d2.live, d2.sums⟩⟩ (And.intro rfl (And.intro okk (Hp.addEmp H10)))
end Go.Proofs.YtjlfjjgjghdokaaGreatDoor
namespace Go.Wk
/-- append(v, l..): both rows of one's own. -/
theorem append_row {P : Program} {T : Tab} {K : Value → World → Prop} {w : World} {B : Base} {S : List Asn} {F : List Fact} (hT : T.Ok P) (H : Hp B S F w) {e sz n m c : Nat} {A : Option Addr} {v : Value} {cs news : List Value} {S1 S2 : List Asn} {t ty e2 : TypeId} {it : TypeInfo} {de : TD} {z : Value} [h1 : TakeR S v e sz n cs S1] [h2 : TakeR S1 (.slice A m c) e2 sz m news S2]
    {cst : List Bool} (ht : T t = some ⟨.slice e, it⟩) (he : T e = some de) (hz : de.info.zero = some z) (hzs : Nat.beq z.cells.size sz = true) (hsz : Nat.beq de.info.size sz = true) (hp : Nat.ble 1 sz = true) (ho : ∀ u ∈ news, u.oneCell' = true)
    (hb : (n + m) * de.info.bytes ≤ 140737488355328) (hm : n + m ≤ 140737488355328)
    (k : ∀ A' c' w', Hp B (row e sz (.slice A' (n + m) c') (n + m) (cs ++ news) :: S1) F w' → K (.slice A' (n + m) c') w') : BuiltinK P K w .append [t, t] ty cst [v, .slice A m c] := by
  have H1 := H.perm h1.perm
  obtain ⟨fa, hfa⟩ := Hp.own (A := row e sz v n cs) (S' := S1) (hp := ⟨.refl _⟩) H1
  obtain ⟨fb, hfb⟩ := Hp.own (A := row e2 sz (.slice A m c) m news) (S' := row e sz v n cs :: S2) (hp := ⟨(h2.perm.cons _).trans (.swap _ _ _)⟩) H1
  have hsz' := Nat.eq_of_beq_eq_true hsz
  have fin : ∀ v' w', w'.ownsRow 0 e sz v' (n + m) (cs ++ news) → w.grownBy w' v.ownBlock → (v'.ownBlock = v.ownBlock ∨ v'.ownBlock = some w.heap.size) → (Builtin.append_ #[t, t] ty #[v, .slice A m c]).run P w = .ok v' w' → BuiltinK P K w .append [t, t] ty cst [v, .slice A m c] := by
    intro v' w' hown hg hat hr
    have H3 : Hp B (row e sz v' (n + m) (cs ++ news) :: S1) F w' := by
      refine Hp.step (A := row e sz v n cs) (hp := ⟨.refl _⟩) H1 hg.os hg.tape hg.output hg.size fun fa ha => ⟨fun k hk hn => hg.block k hk fun e => hn ((ha.2 k).2 e.symm), fun k => v'.ownBlock = some k, ⟨hown, fun _ => Iff.rfl⟩, fun k hk => ?_⟩
      rcases hat with h | h
      · exact .inl ((ha.2 k).2 (h ▸ hk))
      · rw [h] at hk
        injection hk with hk
        subst hk
        exact .inr (Nat.le_refl _)
    obtain ⟨A', c', rfl, _⟩ := row_shape (w := w') (fp := fun k => v'.ownBlock = some k) ⟨hown, fun _ => Iff.rfl⟩
    refine BuiltinK.of (v := .slice A' (n + m) c') (w' := w') ?_ (k A' c' w' H3)
    simp only [builtin]
    rw [Sem.run_bind]
    have hr' : (Builtin.append_ [t, t].toArray ty [v, .slice A m c].toArray).run P w = .ok (.slice A' (n + m) c') w' := hr
    rw [hr']; rfl
  have hlen := hfb.1.1
  cases A with
  | none =>
    obtain ⟨A2, c2, e1, _, _, hne⟩ := row_shape hfb
    have hm0 : m = 0 ∧ c = 0 := by
      rcases hfb.1.2 with ⟨h, _⟩ | ⟨g, cap, cur, h, _⟩
      · injection h with _ h2 h3; exact ⟨h2, h3⟩
      · cases h
    obtain ⟨rfl, rfl⟩ := hm0
    obtain rfl : news = [] := List.length_eq_zero_iff.1 (by rw [hlen]; omega)
    refine fin v w (by simpa using hfa.1) ⟨rfl, rfl, rfl, Nat.le_refl _, fun _ _ _ => rfl⟩ (.inl rfl) ?_
    exact run_append_owned_none (P := P) w 0 t ty e de.info sz (hT t _ ht).1 (hT e _ he).2 v n cs hfa.1
  | some a =>
    have ha : a = ⟨a.block, 0, none⟩ := by
      rcases hfb.1.2 with ⟨h, _⟩ | ⟨g, cap, cur, h, _⟩
      · cases h
      · injection h with h1 _ _
        injection h1 with h1
        rw [h1]
    obtain ⟨_, _, hcs, _, _⟩ := row_cells hfb (b := a.block) (o := 0) (m := m) (c := c) (by rw [← ha])
    obtain ⟨v', w', hrun, hown, hg, _, hat⟩ := run_append_own_at (P := P) w 0 t ty e de.info z sz de.info.bytes (hT t _ ht).1 (hT e _ he).2 hz hsz' rfl (Nat.eq_of_beq_eq_true hzs) (Nat.le_of_ble_eq_true hp) v n cs hfa.1 a m c news hlen
      (fun j u hj => by rw [ha, add_plain]; exact hcs j u hj) ho (by unfold maxLen; omega) hb (Nat.zero_le _)
    exact fin v' w' hown hg hat hrun
end Go.Wk
namespace Go.Proofs.YtjlfjjgjghdokaaGreatDoor
open Go Go.Proofs Go.Wk
theorem len__ (l m1 m2 : Nat) (s : SV) (w : World) (M I : BS) (H : Hp ⟨w, M, I⟩ [blk l [.slice s.A s.n s.c, .map (some m1), .map (some m2)] 146] [] w) :
    Ctr Tryz.prog 54 [.pointer (some ⟨l, 0, none⟩)] w M I (fun _ : Unit => .int .i64 (s.n : Int)) (fun _ => True) (fun _ => [blk l [.slice s.A s.n s.c, .map (some m1), .map (some m2)] 146]) (fun _ => []) := by
  refine Exe.of_ev tok Tryz.call54 Tryz.func54 rfl rfl rfl ?_
  refine load_rule tok H (v := .slice s.A s.n s.c) rfl ?_
  exact Exists.intro () (And.intro rfl (And.intro trivial H.keep))
end Go.Proofs.YtjlfjjgjghdokaaGreatDoor
namespace Go.Proofs.YtjlfjjgjghdokaaGreatDoor
open Go Go.Proofs Go.Wk
theorem copied (k : Key) (A : Option Addr) (n c : Nat) (ls : List Leg) (hn : ls.length ≤ 1000000) (w : World) (M I : BS) (hM : ∀ b, ¬ M b) (H : Hp ⟨w, M, I⟩ [] [Sl legR (.slice A n c) ls] w) :
    Ctr Tryz.prog 65 [.agg #[.int .u32 k.loan, .int .i32 k.day, .int .u8 k.kind, .int .u32 k.seq, .slice A n c]] w M I (fun a : SV => .agg #[.int .u32 k.loan, .int .i32 k.day, .int .u8 k.kind, .int .u32 k.seq, .slice a.A a.n a.c]) (fun _ => True) (fun _ => []) (fun a => [Sl legR (.slice a.A a.n a.c) ls]) := by
  refine Exe.of_ev tok Tryz.call65 Tryz.func65 rfl rfl rfl ?_
  refine box_as H (entC k A n c) rfl fun x w1 H1 => ?_
  refine alloc_as tok H1 zeroC rfl rfl rfl fun r w2 H2 => ?_
  refine load_rule tok H2 (v := .slice A n c) rfl ?_
  refine call_rule H2 (fun M I h0 h => cloneLegs A n c ls hn _ M I (h0 rfl) h) fun a w3 _ H3 => ?_
  refine store_as tok H3 (entC k a.A a.n a.c) rfl rfl rfl rfl rfl fun w4 H4 => ?_
  refine load_rule tok H4 (v := .agg #[.int .u32 k.loan, .int .i32 k.day, .int .u8 k.kind, .int .u32 k.seq, .slice a.A a.n a.c]) rfl ?_
  refine store_as tok H4 (entC k a.A a.n a.c) rfl rfl rfl rfl rfl fun w5 H5 => ?_
  refine Exists.intro ⟨r, 0, none⟩ (Exists.intro (.agg #[.int .u32 k.loan, .int .i32 k.day, .int .u8 k.kind, .int .u32 k.seq, .slice a.A a.n a.c]) (And.intro rfl (And.intro (Hp.ld (T := tb) tok H5 rfl) ?_)))
  exact Exists.intro a (And.intro rfl (And.intro trivial (Hp.keep H5)))
end Go.Proofs.YtjlfjjgjghdokaaGreatDoor
namespace Go.Wk
theorem Hp.rngBack {B : Base} {S S' : List Asn} {F : List Fact} {w : World} {κ ν : Type} {kf : κ → Value} {vf : ν → Value} {n g : Nat} {l left : List (κ × ν)} {cur : Option (κ × ν)} (H : Hp B S F w) [hp : TakeI S g n kf vf l left cur S'] : Hp B (mapO n kf vf l :: S') F w := by
  refine H.step (A := rngO n g kf vf l left cur) (hp := ⟨hp.perm⟩) rfl rfl rfl (Nat.le_refl _) fun fa ha => ⟨fun _ _ _ => rfl, fun b => b = n, ?_, fun b hb => .inl ((ha.1 b).2 (.inl hb))⟩
  obtain ⟨h1, h0, es, clock, seen, h2, h3, h4, h5, h6, _⟩ := ha
  exact ⟨fun _ => Iff.rfl, es, clock, h2, h4, h5, h6⟩
end Go.Wk
namespace Go.Proofs.YtjlfjjgjghdokaaGreatDoor
open Go Go.Proofs Go.Wk
set_option maxRecDepth 20000 in
theorem live_ (l m1 m2 : Nat) (s : SV) (d : Led) (hx : d.lns.length ≤ 100000) (hsn : s.n = d.lns.length) (k : Key) (i : Nat) (x : Ln) (hlk : lk k d.live = some (i : Int)) (hi : d.lns[i]? = some x) (hl : x.ls.length ≤ 1000) (w : World) (M I : BS)
    (H : Hp ⟨w, M, I⟩ [blk l [.slice s.A s.n s.c, .map (some m1), .map (some m2)] 146, row 158 6 (.slice s.A s.n s.c) s.n (lnsC d.lns), mapO m1 keyV iV d.live] [LnF d.lns] w) :
    Ctr Tryz.prog 63 [.pointer (some ⟨l, 0, none⟩), keyV k] w M I (fun a : SV => .tuple #[.agg #[.int .u32 x.k.loan, .int .i32 x.k.day, .int .u8 x.k.kind, .int .u32 x.k.seq, .slice a.A a.n a.c], .bool true]) (fun _ => True)
      (fun _ => [blk l [.slice s.A s.n s.c, .map (some m1), .map (some m2)] 146, row 158 6 (.slice s.A s.n s.c) s.n (lnsC d.lns), mapO m1 keyV iV d.live]) (fun a => [Sl legR (.slice a.A a.n a.c) x.ls]) := by
  obtain ⟨hil, _⟩ := List.getElem?_eq_some_iff.1 hi
  obtain ⟨A, n, c⟩ := s
  simp only at hsn H ⊢
  obtain ⟨b, rfl⟩ := H.rowSome (A := A) (n := n) (c := c) (by omega)
  have H' := Hp.lnAt H (xs := d.lns) (List.mem_of_getElem? hi)
  have i0 : (0 : Int) ≤ (i : Int) := by omega
  have i1 : (i : Int) < n := by omega
  refine Exe.of_ev tok Tryz.call63 Tryz.func63 rfl rfl rfl ?_
  refine box_as H' (keyC k) rfl fun p w1 H1 => ?_
  refine alloc_as tok H1 zeroC rfl rfl rfl fun r w2 H2 => ?_
  refine draw_rule (A := []) tok tdr H2 [0, 1, 2, 3, 4, 5, 6, 7, 8, 9, 10] [0, 1, 3, 7, 0, 31, 63, 127, 127, 255, 1023] rfl ?_
  refine pass_rule _ (fun w h => load_rule tok h (v := .map (some m1)) rfl ⟨rfl, rfl⟩) ?_
  refine pass_rule _ (fun w h => load_rule tok h (v := keyV k) rfl ⟨rfl, rfl⟩) ?_
  refine pass_rule (.tuple #[.int .i64 (i : Int), .bool true]) (fun w h => lookup_ok_rule (n := m1) tok h rfl rfl rfl keyKeys rfl (by rw [hlk]; rfl) ⟨rfl, rfl⟩) ?_
  refine done_rule fun w3 H3 => ?_
  refine load_rule tok H3 (v := .slice (some ⟨b, 0, none⟩) n c) rfl ?_
  refine idx_own tok rfl rfl i0 i1 ?_
  refine row_ld (n := n) (c := c) tok H3 (v := .agg #[.int .u32 x.k.loan, .int .i32 x.k.day, .int .u8 x.k.kind, .int .u32 x.k.seq, .slice x.s.A x.s.n x.s.c]) (lns_get hi) ?_
  refine call_rule H3 (fun M I h0 h => copied x.k x.s.A x.s.n x.s.c x.ls (by omega) _ M I (h0 rfl) h) fun sv w4 _ H4 => ?_
  refine store_as tok H4 (entC x.k sv.A sv.n sv.c) rfl rfl rfl rfl rfl fun w5 H5 => ?_
  refine Exists.intro ⟨r, 0, none⟩ (Exists.intro (.agg #[.int .u32 x.k.loan, .int .i32 x.k.day, .int .u8 x.k.kind, .int .u32 x.k.seq, .slice sv.A sv.n sv.c]) (And.intro rfl (And.intro (Hp.ld (T := tb) tok H5 rfl) ?_)))
  exact Exists.intro sv (And.intro rfl (And.intro trivial (Hp.keep H5)))
/-! A loan that has no live entry -/
end Go.Proofs.YtjlfjjgjghdokaaGreatDoor
namespace Go.Proofs.YtjlfjjgjghdokaaGreatDoor
open Go Go.Proofs Go.Wk
def liveSt (k : Key) (x : Ln) (i out : Int) : Int := if x.of = 0 then (if x.k = k then i else out) else (if x.of - 1 = out then -1 else out)
def liveGo (k : Key) : List Ln → Int → Int → Int
  | [], _, out => out
  | x :: r, i, out => liveGo k r (i + 1) (liveSt k x i out)
end Go.Proofs.YtjlfjjgjghdokaaGreatDoor
namespace Go.Proofs.YtjlfjjgjghdokaaGreatDoor
open Go Go.Proofs Go.Wk
def legSum (a : Int) : List Leg → Int → Option Int
  | [], s => some s
  | g :: r, s => if g.acct = a then (if in64 (s + g.amt) = true then legSum a r (s + g.amt) else none) else legSum a r s
def linSum (loan : Int) (all : Bool) (a : Int) : List Ln → Int → Option Int
  | [], s => some s
  | x :: r, s => if all = false ∧ x.k.loan ≠ loan then linSum loan all a r s else (match legSum a x.ls s with
    | none => none
    | some t => linSum loan all a r t)
end Go.Proofs.YtjlfjjgjghdokaaGreatDoor
namespace Go.Proofs.YtjlfjjgjghdokaaGreatDoor
open Go Go.Proofs Go.Wk
theorem rightGo_rise : ∀ {ls : List Leg} {s last : Int}, rightGo s last ls = true → (∀ x, x ∈ ls → last < x.acct) ∧ rise ls
  | [], _, _, _ => ⟨(fun x h => by cases h), List.Pairwise.nil⟩
  | x :: r, s, last, h => by
    obtain ⟨_, h2, h3⟩ := go_step h
    obtain ⟨h4, h5⟩ := rightGo_rise h3
    refine ⟨fun y hy => ?_, List.pairwise_cons.2 ⟨fun y hy => h4 y hy, h5⟩⟩
    rcases List.mem_cons.1 hy with rfl | hy
    · exact h2
    · have := h4 y hy; omega
theorem rightB_rise {k : Key} {ls : List Leg} (h : rightB k ls = true) : rise ls := (rightGo_rise (rightB_go h)).2
/-- How much a list has of an account: the first. -/
def amtOf (a : Int) : List Leg → Option Int
  | [] => none
  | g :: r => if g.acct = a then some g.amt else amtOf a r
theorem amtOf_none {a : Int} : ∀ {ls : List Leg}, (∀ x, x ∈ ls → x.acct ≠ a) → amtOf a ls = none
  | [], _ => rfl
  | g :: r, h => by rw [amtOf, if_neg (h g List.mem_cons_self), amtOf_none fun x hx => h x (List.mem_cons_of_mem _ hx)]
theorem amtOf_mem {g : Leg} : ∀ {ls : List Leg}, rise ls → g ∈ ls → amtOf g.acct ls = some g.amt
  | [], _, h => by cases h
  | x :: r, hr, h => by
    have hr' := List.pairwise_cons.1 hr
    rcases List.mem_cons.1 h with rfl | h
    · rw [amtOf, if_pos rfl]
    · rw [amtOf, if_neg (by have := hr'.1 g h; omega), amtOf_mem hr'.2 h]
theorem amtOf_some {a v : Int} : ∀ {ls : List Leg}, amtOf a ls = some v → ∃ g, g ∈ ls ∧ g.acct = a ∧ g.amt = v
  | [], h => by cases h
  | g :: r, h => by
    unfold amtOf at h
    split at h
    · rename_i hg
      exact ⟨g, List.mem_cons_self, hg, Option.some.inj h⟩
    · obtain ⟨x, hx, h1, h2⟩ := amtOf_some h
      exact ⟨x, List.mem_cons_of_mem _ hx, h1, h2⟩
theorem legSum_amt {a : Int} : ∀ {ls : List Leg} {s : Int}, rise ls → legSum a ls s = (match amtOf a ls with
    | none => some s
    | some v => if in64 (s + v) = true then some (s + v) else none)
  | [], s, _ => rfl
  | g :: r, s, hr => by
    have hr' := List.pairwise_cons.1 hr
    unfold legSum amtOf
    by_cases hg : g.acct = a
    · rw [if_pos hg, if_pos hg]
      have hn : amtOf a r = none := amtOf_none fun x hx => by have := hr'.1 x hx; omega
      simp only
      rw [legSum_amt hr'.2, hn]
    · rw [if_neg hg, if_neg hg, legSum_amt hr'.2]
def updP (sums : List (Pr × Int)) (loan : Int) (ls : List Leg) (p : Pr) : Option Int :=
  if p.loan = (if p.ctl = true then 0 else loan) then (amtOf p.acct ls).map (getS sums p + ·) else none
theorem nextGo_some {sums : List (Pr × Int)} {loan : Int} : ∀ {ls : List Leg} {nx out : List (Pr × Int)}, rise ls → nextGo sums loan ls nx = some out →
    (∀ g, g ∈ ls → in64 (getS sums ⟨loan, g.acct, false⟩ + g.amt) = true ∧ in64 (getS sums ⟨0, g.acct, true⟩ + g.amt) = true) ∧ ∀ p, lk p out = (updP sums loan ls p).or (lk p nx)
  | [], nx, out, _, h => by
    simp only [nextGo, Option.some.injEq] at h
    subst h
    refine ⟨(fun g h => by cases h), fun p => ?_⟩
    have e : updP sums loan [] p = none := by unfold updP; simp [amtOf]
    rw [e]; rfl
  | g :: r, nx, out, hr, h => by
    have hr' := List.pairwise_cons.1 hr
    unfold nextGo at h
    split at h
    · rename_i hin
      obtain ⟨h1, h2⟩ := nextGo_some hr'.2 h
      refine ⟨fun x hx => ?_, fun p => ?_⟩
      · rcases List.mem_cons.1 hx with rfl | hx
        · exact hin
        · exact h1 x hx
      · rw [h2 p]
        obtain ⟨pl, pa, pc⟩ := p
        have hgr : amtOf g.acct r = none := amtOf_none fun x hx => by have := hr'.1 x hx; omega
        have e : amtOf pa (g :: r) = if g.acct = pa then some g.amt else amtOf pa r := rfl
        unfold updP
        simp only [e]
        by_cases hpa : g.acct = pa
        · subst hpa
          rw [if_pos rfl, hgr]
          cases pc with
          | false =>
            simp only [Bool.false_eq_true, if_false]
            by_cases hl : pl = loan
            · subst hl
              rw [if_pos rfl, if_pos rfl, lk_put_ne (by simp), lk_put_eq]; rfl
            · rw [if_neg hl, if_neg hl, lk_put_ne (by simp), lk_put_ne (by simp [hl])]
          | true =>
            simp only [if_true]
            by_cases hl : pl = 0
            · subst hl
              rw [if_pos rfl, if_pos rfl, lk_put_eq]; rfl
            · rw [if_neg hl, if_neg hl, lk_put_ne (by simp [hl]), lk_put_ne (by simp)]
        · rw [if_neg hpa, lk_put_ne (by simp [Ne.symm hpa]), lk_put_ne (by simp [Ne.symm hpa])]
    · cases h
theorem nextGo_none {sums : List (Pr × Int)} {loan : Int} : ∀ {ls : List Leg} {nx : List (Pr × Int)}, nextGo sums loan ls nx = none →
    ∃ g, g ∈ ls ∧ ¬ (in64 (getS sums ⟨loan, g.acct, false⟩ + g.amt) = true ∧ in64 (getS sums ⟨0, g.acct, true⟩ + g.amt) = true)
  | [], nx, h => by cases h
  | g :: r, nx, h => by
    unfold nextGo at h
    split at h
    · obtain ⟨x, hx, hn⟩ := nextGo_none h
      exact ⟨x, List.mem_cons_of_mem _ hx, hn⟩
    · rename_i hn
      exact ⟨g, List.mem_cons_self, hn⟩
theorem linSum_app {loan a : Int} {all : Bool} {x : Ln} : ∀ {xs : List Ln} {s : Int}, linSum loan all a (xs ++ [x]) s = (match linSum loan all a xs s with
    | none => none
    | some t => if all = false ∧ x.k.loan ≠ loan then some t else legSum a x.ls t)
  | [], s => by
    simp only [List.nil_append, linSum]
    split
    · rfl
    · cases legSum a x.ls s <;> rfl
  | y :: r, s => by
    simp only [List.cons_append, linSum]
    split
    · exact linSum_app
    · cases legSum a y.ls s with
      | none => rfl
      | some t => exact linSum_app
theorem liveGo_app {k : Key} {x : Ln} : ∀ {xs : List Ln} {i o : Int}, liveGo k (xs ++ [x]) i o = liveSt k x (i + xs.length) (liveGo k xs i o)
  | [], i, o => by simp [liveGo]
  | y :: r, i, o => by
    simp only [List.cons_append, liveGo, List.length_cons]
    rw [liveGo_app]
    congr 1
    omega
@[reducible] def stp (x : Ln) : Key × Int × List Leg := (x.k, x.of, x.ls)
def revs : List Ln → Nat
  | [] => 0
  | x :: r => (if x.of = 0 then 0 else 1) + revs r
theorem revs_app : ∀ {xs ys : List Ln}, revs (xs ++ ys) = revs xs + revs ys
  | [], ys => by simp [revs]
  | x :: xs, ys => by rw [List.cons_append, revs, revs, revs_app]; omega
structure Inv (d : Led) : Prop where
  ok : ∀ x, x ∈ d.lns → (0 ≤ x.of ∧ x.of ≤ d.lns.length) ∧ keyIn x.k ∧ rightB x.k x.ls = true ∧ ∀ g, g ∈ x.ls → legIn g
  nd : (d.live.map (·.1)).Nodup
  live : ∀ k, lk k d.live = if 0 ≤ liveGo k d.lns 0 (-1) then some (liveGo k d.lns 0 (-1)) else none
  at_ : ∀ k, 0 ≤ liveGo k d.lns 0 (-1) → ∃ x, d.lns[(liveGo k d.lns 0 (-1)).toNat]? = some x ∧ x.k = k ∧ x.of = 0
  sumF : ∀ loan a, linSum loan false a d.lns 0 = some (getS d.sums ⟨loan, a, false⟩)
  sumT : ∀ a, linSum 0 true a d.lns 0 = some (getS d.sums ⟨0, a, true⟩)
  in_ : ∀ p, inK .i64 (getS d.sums p)
  back : ∀ (j : Nat) x, d.lns[j]? = some x → x.of ≠ 0 → x.of ≤ j ∧ ∃ y, d.lns[(x.of - 1).toNat]? = some y ∧ y.of = 0 ∧ y.k = x.k
  cnt : d.live.length + 2 * revs d.lns = d.lns.length
theorem inv_nil : Inv ⟨[], [], []⟩ where
  ok := fun x h => by cases h
  nd := List.nodup_nil
  live := fun k => rfl
  at_ := fun k h => absurd h (by show ¬ (0 : Int) ≤ -1; omega)
  sumF := fun _ _ => rfl
  sumT := fun _ => rfl
  in_ := fun p => ⟨by show (-9223372036854775808 : Int) ≤ 0; omega, by show (0 : Int) ≤ 9223372036854775807; omega⟩
  back := fun j x h => by simp at h
  cnt := rfl
/-- The sums behind one more line. -/
theorem add_sums {d : Led} (hI : Inv d) {x : Ln} (hr : rise x.ls) {nx m : List (Pr × Int)} (hn : nextGo d.sums x.k.loan x.ls [] = some nx) (hm : ∀ p, lk p m = (lk p nx).or (lk p d.sums)) :
    (∀ loan a, linSum loan false a (d.lns ++ [x]) 0 = some (getS m ⟨loan, a, false⟩)) ∧ (∀ a, linSum 0 true a (d.lns ++ [x]) 0 = some (getS m ⟨0, a, true⟩)) ∧ ∀ p, inK .i64 (getS m p) := by
  obtain ⟨h1, h2⟩ := nextGo_some hr hn
  have hg : ∀ p, getS m p = ((updP d.sums x.k.loan x.ls p).or (lk p d.sums)).getD 0 := fun p => by
    show (lk p m).getD 0 = _
    rw [hm p, h2 p]
    show (((updP d.sums x.k.loan x.ls p).or none).or (lk p d.sums)).getD 0 = _
    rw [Option.or_none]
  refine ⟨fun loan a => ?_, fun a => ?_, fun p => ?_⟩
  · rw [linSum_app, hI.sumF loan a, hg]
    simp only
    by_cases hl : x.k.loan = loan
    · rw [if_neg (fun h => h.2 hl), legSum_amt hr]
      unfold updP
      simp only [Bool.false_eq_true, if_false]
      rw [if_pos hl.symm]
      cases ha : amtOf a x.ls with
      | none => rfl
      | some v =>
        obtain ⟨g, hg1, hg2, hg3⟩ := amtOf_some ha
        have := (h1 g hg1).1
        rw [hg2, hg3, hl] at this
        simp only [this, if_true]; rfl
    · rw [if_pos ⟨trivial, hl⟩]
      unfold updP
      simp only [Bool.false_eq_true, if_false]
      rw [if_neg (Ne.symm hl)]; rfl
  · rw [linSum_app, hI.sumT a, hg]
    simp only
    rw [if_neg (fun h => by cases h.1), legSum_amt hr]
    unfold updP
    simp only [if_true]
    cases ha : amtOf a x.ls with
    | none => rfl
    | some v =>
      obtain ⟨g, hg1, hg2, hg3⟩ := amtOf_some ha
      have := (h1 g hg1).2
      rw [hg2, hg3] at this
      simp only [this, if_true]; rfl
  · rw [hg]
    cases hu : updP d.sums x.k.loan x.ls p with
    | none => exact hI.in_ p
    | some v =>
      obtain ⟨pl, pa, pc⟩ := p
      have fin : ∀ q : Pr, q.acct = pa → pl = (if pc = true then 0 else x.k.loan) → (∀ g, g ∈ x.ls → g.acct = pa → in64 (getS d.sums ⟨pl, pa, pc⟩ + g.amt) = true) → inK .i64 v := fun q _ hl hq => by
        unfold updP at hu
        simp only at hu
        rw [if_pos hl] at hu
        cases ha : amtOf pa x.ls with
        | none => rw [ha] at hu; cases hu
        | some u =>
          rw [ha] at hu
          simp only [Option.map_some, Option.some.injEq] at hu
          obtain ⟨g, hg1, hg2, hg3⟩ := amtOf_some ha
          have hq := hq g hg1 hg2
          simp only [in64, Bool.and_eq_true, decide_eq_true_eq] at hq
          rw [← hu, ← hg3]
          exact ⟨hq.1, hq.2⟩
      by_cases hl : pl = (if pc = true then 0 else x.k.loan)
      · refine fin ⟨pl, pa, pc⟩ rfl hl fun g hg hga => ?_
        have hq := h1 g hg
        cases pc with
        | false =>
          simp only [Bool.false_eq_true, if_false] at hl
          rw [hl, ← hga]; exact hq.1
        | true =>
          simp only [if_true] at hl
          rw [hl, ← hga]; exact hq.2
      · exfalso
        unfold updP at hu
        simp only at hu
        rw [if_neg hl] at hu
        cases hu
end Go.Proofs.YtjlfjjgjghdokaaGreatDoor
