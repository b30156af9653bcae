/- The ledger: Post: the walk. -/
import Derived.Test.YtfemfomgmopibaaGreatDoorB2
namespace Go.Proofs.YtfemfomgmopibaaGreatDoor
open Go Go.Proofs Go.Wk
def postOk (s : SV) (d : Led) (k : Key) (ls : List Leg) (a : AR) : Prop :=
  if rightB k ls = false then a = ⟨.code 1, s, d⟩
  else if (lk k d.live).isSome = true then ∃ p, a = ⟨.fault p k.loan 10, s, d⟩
  else match nextGo d.sums k.loan ls [] with
    | none => ∃ p, a = ⟨.fault p k.loan 12, s, d⟩
    | some nx => a.e = .none ∧ a.s.n = s.n + 1 ∧ a.d.live = putL k (d.lns.length : Int) d.live ∧ (∃ sv, a.d.lns = d.lns ++ [⟨k, sv, 0, ls⟩]) ∧ ∀ p, lk p a.d.sums = (lk p nx).or (lk p d.sums)
theorem liveV (m : List (Key × Int)) (k : Key) : Value.tuple #[.int .i64 ((lk k m).getD 0), .bool (lk k m).isSome] = .tuple #[((lk k m).map iV).getD (.int .i64 0), .bool (lk k m).isSome] := by
  cases lk k m <;> rfl
set_option maxRecDepth 20000 in
set_option maxHeartbeats 2000000 in
theorem post_ (l m1 m2 : Nat) (s : SV) (d : Led) (hd : d.lns.length ≤ 100000) (hsn : s.n = d.lns.length) (hs : ∀ p, inK .i64 (getS d.sums p)) (k : Key) (hk : keyIn k) (A : Option Addr) (n c : Nat) (ls : List Leg) (hls : ls.length ≤ 1000) (w : World) (M I : BS)
    (H : Hp ⟨w, M, I⟩ (ledA l m1 m2 s d) [Sl legR (.slice A n c) ls, LnF d.lns] w) :
    Ctr Tryz.prog 12 [.pointer (some ⟨l, 0, none⟩), .agg #[.int .u32 k.loan, .int .i32 k.day, .int .u8 k.kind, .int .u32 k.seq, .slice A n c]] w M I (fun a : AR => errFV a.e) (postOk s d k ls) (fun a => errFA a.e :: ledA l m1 m2 a.s a.d) (fun a => [LnF a.d.lns]) := by
  obtain ⟨hk1, hk2⟩ := hk.1
  simp only [kLo, kHi] at hk1 hk2
  have ew : IntKind.u64.wrap k.loan = k.loan := wrap_id ⟨hk1, by show _ ≤ (18446744073709551615 : Int); omega⟩
  refine Exe.of_ev tok Tryz.call12 Tryz.func12 rfl rfl rfl ?_
  refine box_as H (entC k A n c) rfl fun x w1 H1 => ?_
  refine load_rule tok H1 (v := .agg #[.int .u32 k.loan, .int .i32 k.day, .int .u8 k.kind, .int .u32 k.seq, .slice A n c]) rfl ?_
  refine call_rule H1 (fun M I _ h => right k hk.2.2.1 A n c ls _ M I h) fun _ w2 _ H2 => ?_
  refine br (fun q => ?_) (fun q => ?_)
  · have q : rightB k ls = false := by simpa using q
    have okk : postOk s d k ls ⟨.code 1, s, d⟩ := by unfold postOk; rw [if_pos q]
    have H3 : Hp ⟨w, M, I⟩ (ledA l m1 m2 s d) [LnF d.lns] w2 := Hp.keep H2
    exact Exists.intro ⟨.code 1, s, d⟩ (And.intro rfl (And.intro okk (Hp.addEmp H3)))
  have q : rightB k ls = true := by simpa using q
  have q' : ¬ rightB k ls = false := by rw [q]; simp
  refine draw_rule (A := []) tok tdr H2 [0, 1, 2, 3, 4, 5, 6, 7, 8, 9, 10, 11] [0, 1, 3, 7, 0, 16, 63, 127, 255, 255, 511, 2047] rfl ?_
  refine pass_rule _ (fun w h => load_rule tok h (v := .map (some m1)) rfl ⟨rfl, rfl⟩) ?_
  refine pass_rule _ (fun w h => load_rule tok h (v := keyV k) rfl ⟨rfl, rfl⟩) ?_
  refine pass_rule (.tuple #[.int .i64 ((lk k d.live).getD 0), .bool (lk k d.live).isSome]) (fun w h => lookup_ok_rule (n := m1) tok h rfl rfl rfl keyKeys rfl (liveV d.live k) ⟨rfl, rfl⟩) ?_
  refine done_rule fun w3 H3 => ?_
  refine br (fun q2 => ?_) (fun q2 => ?_)
  · have q2 : (lk k d.live).isSome = true := q2
    refine load_rule tok H3 (v := .int .u32 k.loan) rfl ?_
    refine box_as H3 [.int .u64 (IntKind.u64.wrap k.loan), .iface 47 (.int .i64 10)] rfl fun pf w4 H4 => ?_
    rw [ew] at H4
    have okk : postOk s d k ls ⟨.fault pf k.loan 10, s, d⟩ := by unfold postOk; rw [if_neg q', if_pos q2]; exact ⟨pf, rfl⟩
    have H5 : Hp ⟨w, M, I⟩ (blk pf [.int .u64 k.loan, .iface 47 (.int .i64 10)] 104 :: ledA l m1 m2 s d) [LnF d.lns] w4 := Hp.keep H4
    exact Exists.intro ⟨.fault pf k.loan 10, s, d⟩ (And.intro rfl (And.intro okk H5))
  have q2' : ¬ (lk k d.live).isSome = true := by
    have q2 : (lk k d.live).isSome = false := q2
    rw [q2]; simp
  refine load_rule tok H3 (v := .agg #[.int .u32 k.loan, .int .i32 k.day, .int .u8 k.kind, .int .u32 k.seq, .slice A n c]) rfl ?_
  refine call_rule H3 (fun M I _ h => add_ l m1 m2 s d hd hsn hs k hk A n c ls hls 0 _ M I h) fun a => ?_
  rcases a with ⟨e, s2, d2⟩
  cases e with
  | code c0 =>
    intro w4 ha H4
    exfalso
    unfold addOk at ha
    cases hg : nextGo d.sums k.loan ls [] with
    | none => rw [hg] at ha; obtain ⟨⟨p, hp⟩, _⟩ := ha; cases hp
    | some nx => rw [hg] at ha; cases ha.1
  | fault pf a0 c0 =>
    intro w4 ha H4
    have H4 : Hp ⟨w, M, I⟩ [blk pf [.int .u64 a0, .iface 47 (.int .i64 c0)] 104, blk l [.slice s2.A s2.n s2.c, .map (some m1), .map (some m2)] 85, row 69 6 (.slice s2.A s2.n s2.c) s2.n (lnsC d2.lns), mapO m1 keyV iV d2.live, mapO m2 prV iV d2.sums, blk x (entC k A n c) 39] [LnF d2.lns, Sl legR (.slice A n c) ls, LnF d.lns] w4 := H4
    have okk : postOk s d k ls ⟨.fault pf a0 c0, s2, d2⟩ := by
      unfold postOk
      rw [if_neg q', if_neg q2']
      unfold addOk at ha
      cases hg : nextGo d.sums k.loan ls [] with
      | none =>
        rw [hg] at ha
        obtain ⟨⟨p, hp⟩, h1, h2⟩ := ha
        simp only at hp h1 h2
        injection hp with e1 e2 e3
        subst e1 e2 e3 h1 h2
        exact ⟨pf, rfl⟩
      | some nx => rw [hg] at ha; cases ha.1
    have H5 : Hp ⟨w, M, I⟩ (blk pf [.int .u64 a0, .iface 47 (.int .i64 c0)] 104 :: ledA l m1 m2 s2 d2) [LnF d2.lns] w4 := Hp.keep H4
    exact Exists.intro ⟨.fault pf a0 c0, s2, d2⟩ (And.intro rfl (And.intro okk H5))
  | none =>
    intro w4 ha H4
    have H4 : Hp ⟨w, M, I⟩ [empA, blk l [.slice s2.A s2.n s2.c, .map (some m1), .map (some m2)] 85, row 69 6 (.slice s2.A s2.n s2.c) s2.n (lnsC d2.lns), mapO m1 keyV iV d2.live, mapO m2 prV iV d2.sums, blk x (entC k A n c) 39] [LnF d2.lns, Sl legR (.slice A n c) ls, LnF d.lns] w4 := H4
    unfold addOk at ha
    cases hg : nextGo d.sums k.loan ls [] with
    | none => rw [hg] at ha; obtain ⟨⟨p, hp⟩, _⟩ := ha; cases hp
    | some nx =>
      rw [hg] at ha
      obtain ⟨_, h2, h3, h4, h5⟩ := ha
      simp only at h2 h3 h4 h5
      have el : IntKind.i64.wrap ((s2.n : Int) - 1) = ((d.lns.length : Nat) : Int) := by
        rw [w64 (by omega) (by omega)]; omega
      refine draw_rule (A := [mapO m1 keyV iV d2.live]) tok tdr H4 [0, 1, 2, 3, 4, 5, 6, 7, 8, 9, 10, 11, 12] [0, 1, 3, 7, 0, 16, 0, 64, 192, 448, 960, 1984, 4095] rfl ?_
      refine pass_rule _ (fun w h => load_rule tok h (v := .map (some m1)) rfl ⟨rfl, rfl⟩) ?_
      refine pass_rule _ (fun w h => load_rule tok h (v := keyV k) rfl ⟨rfl, rfl⟩) ?_
      refine pass_rule _ (fun w h => load_rule tok h (v := .slice s2.A s2.n s2.c) rfl ⟨rfl, rfl⟩) ?_
      refine imp_rule (fun X wx h => mapUpd_rule (n := m1) (k := k) (v := ((d.lns.length : Nat) : Int)) tok h rfl keyKeys rfl (congrArg (Value.int .i64) el) fun w1 H1 => imp_done H1 ?_)
      refine done_rule fun w5 H5 => ?_
      have H6 : Hp ⟨w, M, I⟩ (ledA l m1 m2 s2 ⟨d2.lns, putL k ((d.lns.length : Nat) : Int) d2.live, d2.sums⟩) [LnF d2.lns] w5 := Hp.keep H5
      have okk : postOk s d k ls ⟨.none, s2, ⟨d2.lns, putL k ((d.lns.length : Nat) : Int) d2.live, d2.sums⟩⟩ := by
        unfold postOk
        rw [if_neg q', if_neg q2', hg]
        exact ⟨rfl, h2, by rw [h3], h4, h5⟩
      exact Exists.intro ⟨.none, s2, ⟨d2.lns, putL k ((d.lns.length : Nat) : Int) d2.live, d2.sums⟩⟩ (And.intro rfl (And.intro okk (Hp.addEmp H6)))
end Go.Proofs.YtfemfomgmopibaaGreatDoor
