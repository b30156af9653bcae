/- The document's example of a ledger: the walk. -/
import Derived.Test.YtfemfomgmopibaaGreatDoorLk10
import Derived.ProofKit
import Derived.OpenShut
import Derived.Lib.SmallJoins
import Derived.Test.YtfemfomgmopibaaGreatDoorRows
import Derived.Test.YtfemfomgmopibaaGreatDoorCards
import Derived.Test.YtfemfomgmopibaaGreatDoorTie
import Derived.LaidLaws
import Derived.LaidHandle
import Derived.Stop.Joined
import Derived.SevenTiedAt
namespace Go.Proofs.YtfemfomgmopibaaGreatDoor
open Go Go.Proofs Go.Wk
theorem rev_pre {d : Led} (hI : Inv d) {k : Key} : ∀ i, lk k d.live = some i → 0 ≤ i ∧ ∃ x, d.lns[i.toNat]? = some x ∧ keyIn x.k ∧ x.ls.length ≤ 1000 := fun i hi => by
  have h := hI.live k
  rw [hi] at h
  split at h
  · rename_i h0
    obtain rfl := Option.some.inj h
    obtain ⟨x, h1, _, _⟩ := hI.at_ k h0
    obtain ⟨_, h3, h4, _⟩ := hI.ok x (List.mem_of_getElem? h1)
    have := (right_day h4).2.1
    exact ⟨h0, x, h1, h3, by omega⟩
  · cases h
theorem nextGo_congr {m m' : List (Pr × Int)} (h : ∀ p, lk p m = lk p m') {loan : Int} : ∀ {ls : List Leg} {nx : List (Pr × Int)}, nextGo m loan ls nx = nextGo m' loan ls nx
  | [], _ => rfl
  | g :: r, nx => by
    have e : ∀ p, getS m p = getS m' p := fun p => by unfold getS; rw [h p]
    unfold nextGo
    rw [e, e, nextGo_congr h]
theorem lk_append {κ ν : Type} [DecidableEq κ] {p : κ} : ∀ {a b : List (κ × ν)}, lk p (a ++ b) = (lk p a).or (lk p b)
  | [], _ => rfl
  | q :: a, b => by
    simp only [List.cons_append, lk]
    split
    · rfl
    · exact lk_append
def k0 : Key := ⟨1, 0, 1, 0⟩
def l0 : List Leg := [⟨1, -5⟩, ⟨2, 5⟩]
def nx1 : List (Pr × Int) := [(⟨1, 1, false⟩, -5), (⟨0, 1, true⟩, -5), (⟨1, 2, false⟩, 5), (⟨0, 2, true⟩, 5)]
def nx2 : List (Pr × Int) := [(⟨1, 1, false⟩, 0), (⟨0, 1, true⟩, 0), (⟨1, 2, false⟩, 0), (⟨0, 2, true⟩, 0)]
theorem key0 : keyIn k0 := ⟨⟨by decide, by decide⟩, ⟨by decide, by decide⟩, ⟨by decide, by decide⟩, ⟨by decide, by decide⟩⟩
theorem leg0 : ∀ g, g ∈ l0 → legIn g := fun g hg => by
  simp only [l0, List.mem_cons, List.not_mem_nil, or_false] at hg
  rcases hg with rfl | rfl <;> exact ⟨⟨by decide, by decide⟩, ⟨by decide, by decide⟩⟩
theorem right0 : rightB k0 l0 = true := by rw [rights k0 key0.2.2.1 l0 (fun x hx => (leg0 x hx).1)]; decide
theorem aw1 {s : SV} {a : AR} (h : postOk s ⟨[], [], []⟩ k0 l0 a) : a.e = .none ∧ a.s.n = s.n + 1 ∧ a.d.live = [(k0, 0)] ∧ (∃ sv, a.d.lns = [⟨k0, sv, 0, l0⟩]) ∧ ∀ p, lk p a.d.sums = lk p nx1 := by
  have hn : nextGo [] 1 l0 [] = some nx1 := by decide
  have e1 : rightB k0 l0 = true := right0
  have e2 : lk k0 ([] : List (Key × Int)) = none := rfl
  unfold postOk at h
  rw [if_neg (by rw [e1]; simp), if_neg (by simp [e2])] at h
  simp only [show k0.loan = 1 from rfl, hn] at h
  obtain ⟨h1, h2, h3, ⟨sv, h4⟩, h5⟩ := h
  refine ⟨h1, h2, h3, ⟨sv, h4⟩, fun p => ?_⟩
  rw [h5 p]; simp [lk]
theorem aw2 {s : SV} {d : Led} {sv : SV} (hv : d.live = [(k0, 0)]) (hl : d.lns = [⟨k0, sv, 0, l0⟩]) (hs : ∀ p, lk p d.sums = lk p nx1) {a : AR} (h : revOk s d k0 a) :
    a.e = .none ∧ a.s.n = s.n + 1 ∧ a.d.live = [] ∧ (∃ sv', a.d.lns = [⟨k0, sv, 0, l0⟩, ⟨k0, sv', 1, l0.map negL⟩]) ∧ ∀ p, lk p a.d.sums = lk p (nx2 ++ nx1) := by
  have e1 : rightB k0 l0 = true := right0
  have e2 : turnGo 0 l0 = true := by decide
  have hn : nextGo d.sums 1 (l0.map negL) [] = some nx2 := by rw [nextGo_congr hs]; decide
  unfold revOk at h
  rw [hv] at h
  have e3 : lk k0 [(k0, (0 : Int))] = some 0 := rfl
  rw [e3, hl] at h
  simp only at h
  obtain ⟨x, hx, h⟩ := h
  have hx : x = ⟨k0, sv, 0, l0⟩ := by simpa using hx.symm
  subst hx
  simp only [e1, e2, show k0.loan = 1 from rfl, hn] at h
  obtain ⟨h1, h2, h3, ⟨sv', h4⟩, h5⟩ := h
  refine ⟨h1, h2, h3, ⟨sv', h4⟩, fun p => ?_⟩
  rw [h5 p, hs p, lk_append]
theorem aw3 {s : SV} {d : Led} {u v : Ln} (hv : d.live = []) (hl : d.lns = [u, v]) (hs : ∀ p, lk p d.sums = lk p (nx2 ++ nx1)) {a : AR} (h : postOk s d k0 l0 a) :
    a.e = .none ∧ a.s.n = s.n + 1 ∧ lk k0 a.d.live = some ((2 : Nat) : Int) ∧ (∃ sv, a.d.lns[2]? = some ⟨k0, sv, 0, l0⟩) ∧ getS a.d.sums ⟨1, 2, false⟩ = 5 ∧ getS a.d.sums ⟨0, 1, true⟩ = -5 := by
  have hn : nextGo d.sums 1 l0 [] = some nx1 := by rw [nextGo_congr hs]; decide
  have e1 : rightB k0 l0 = true := right0
  have e2 : lk k0 ([] : List (Key × Int)) = none := rfl
  unfold postOk at h
  rw [if_neg (by rw [e1]; simp), hv, if_neg (by simp [e2])] at h
  simp only [show k0.loan = 1 from rfl, hn] at h
  obtain ⟨h1, h2, h3, ⟨sv, h4⟩, h5⟩ := h
  refine ⟨h1, h2, ?_, ⟨sv, ?_⟩, ?_, ?_⟩
  · rw [h3, hl]; rfl
  · rw [h4, hl]; rfl
  · unfold getS; rw [h5]; rfl
  · unfold getS; rw [h5]; rfl
theorem LnF_nil {w : World} {B : Base} {S : List Asn} {F : List Fact} (H : Hp B S F w) : Hp B S (LnF [] :: F) w := H.facts fun I ha f hf => by
  rcases List.mem_cons.1 hf with rfl | hf
  · intro x hx; cases hx
  · exact ha f hf
set_option maxRecDepth 20000 in
set_option maxHeartbeats 2000000 in
theorem awake0 (L : List Leg) (hL : L = l0) (w : World) (M I : BS) (hM : ∀ b, ¬ M b) (H : Hp ⟨w, M, I⟩ [] [] w) :
    Ctr Tryz.prog 7 [] w M I (fun _ : Unit => .bool true) (fun _ => True) (fun _ => []) (fun _ => []) := by
  refine Exe.of_ev tok Tryz.call7 Tryz.func7 rfl rfl rfl ?_
  refine slice_as tok H [.int .u8 1, .int .i64 (-5), .int .u8 2, .int .i64 5] rfl rfl rfl rfl rfl rfl fun g w1 H1 => ?_
  have H1 : Hp ⟨w, M, I⟩ [] [Sl legR (.slice (some ⟨g, 0, none⟩) 2 2) L] w1 := by
    subst hL
    exact frzLegs H1 (n := g) l0 hM rfl (by decide) (fun x hx => leg0 x hx)
  have hl1 : L.length = 2 := by rw [hL]; rfl
  have leg1 : ∀ g, g ∈ L → legIn g := by rw [hL]; exact leg0
  refine alloc_as tok H1 zeroC rfl rfl rfl fun e w2 H2 => ?_
  refine store_as tok H2 (entC k0 (some ⟨g, 0, none⟩) 2 2) rfl rfl rfl rfl rfl fun w3 H3 => ?_
  refine call_rule H3 (fun M I _ h => new_ _ M I h) fun p w4 _ H4 => ?_
  obtain ⟨l, m1, m2⟩ := p
  have H4 : Hp ⟨w, M, I⟩ [blk l [.slice none 0 0, .map (some m1), .map (some m2)] 85, row 69 6 (.slice none 0 0) 0 (lnsC []), mapO m1 keyV iV [], mapO m2 prV iV [], blk e (entC k0 (some ⟨g, 0, none⟩) 2 2) 39] [LnF [], Sl legR (.slice (some ⟨g, 0, none⟩) 2 2) L] w4 := LnF_nil H4
  refine load_rule tok H4 (v := .agg #[.int .u32 k0.loan, .int .i32 k0.day, .int .u8 k0.kind, .int .u32 k0.seq, .slice (some ⟨g, 0, none⟩) 2 2]) rfl ?_
  refine call_rule H4 (fun M I _ h => post_ l m1 m2 ⟨none, 0, 0⟩ ⟨[], [], []⟩ (by decide) rfl inv_nil.in_ k0 key0 (some ⟨g, 0, none⟩) 2 2 L (by omega) _ M I h) fun a => ?_
  rcases a with ⟨er, s1, d1⟩
  intro w5 ha H5
  obtain ⟨haf, hs1⟩ := post_after inv_nil rfl key0 leg1 ha
  obtain ⟨i1, y1, z1, z2, z3⟩ := haf
  obtain ⟨rfl, q2, q3, ⟨sv1, q4⟩, q5⟩ := aw1 (hL ▸ ha)
  simp only at q2 q3 q4 q5 hs1 i1
  have H5 : Hp ⟨w, M, I⟩ [blk l [.slice s1.A s1.n s1.c, .map (some m1), .map (some m2)] 85, row 69 6 (.slice s1.A s1.n s1.c) s1.n (lnsC d1.lns), mapO m1 keyV iV d1.live, mapO m2 prV iV d1.sums, blk e (entC k0 (some ⟨g, 0, none⟩) 2 2) 39] [LnF d1.lns, Sl legR (.slice (some ⟨g, 0, none⟩) 2 2) L] w5 := Hp.keep (show Hp ⟨w, M, I⟩ [empA, blk l [.slice s1.A s1.n s1.c, .map (some m1), .map (some m2)] 85, row 69 6 (.slice s1.A s1.n s1.c) s1.n (lnsC d1.lns), mapO m1 keyV iV d1.live, mapO m2 prV iV d1.sums, blk e (entC k0 (some ⟨g, 0, none⟩) 2 2) 39] [LnF d1.lns, LnF [], Sl legR (.slice (some ⟨g, 0, none⟩) 2 2) L] w5 from H5)
  have n1 : d1.lns.length = 1 := by rw [q4]; rfl
  refine load_rule tok H5 (v := keyV k0) rfl ?_
  refine call_rule H5 (fun M I _ h => reverse_ l m1 m2 s1 d1 (by omega) hs1 i1.in_ k0 key0 (rev_pre i1) _ M I h) fun a => ?_
  rcases a with ⟨er, s2, d2⟩
  intro w6 hb H6
  obtain ⟨haf, hs2⟩ := rev_after i1 hs1 hb
  obtain ⟨i2, y2, z1, z2, z3⟩ := haf
  obtain ⟨rfl, r2, r3, ⟨sv2, r4⟩, r5⟩ := aw2 q3 q4 q5 hb
  simp only at r2 r3 r4 r5 hs2 i2
  have H6 : Hp ⟨w, M, I⟩ [blk l [.slice s2.A s2.n s2.c, .map (some m1), .map (some m2)] 85, row 69 6 (.slice s2.A s2.n s2.c) s2.n (lnsC d2.lns), mapO m1 keyV iV d2.live, mapO m2 prV iV d2.sums, blk e (entC k0 (some ⟨g, 0, none⟩) 2 2) 39] [LnF d2.lns, Sl legR (.slice (some ⟨g, 0, none⟩) 2 2) L] w6 := Hp.keep (show Hp ⟨w, M, I⟩ [empA, blk l [.slice s2.A s2.n s2.c, .map (some m1), .map (some m2)] 85, row 69 6 (.slice s2.A s2.n s2.c) s2.n (lnsC d2.lns), mapO m1 keyV iV d2.live, mapO m2 prV iV d2.sums, blk e (entC k0 (some ⟨g, 0, none⟩) 2 2) 39] [LnF d2.lns, LnF d1.lns, Sl legR (.slice (some ⟨g, 0, none⟩) 2 2) L] w6 from H6)
  have n2 : d2.lns.length = 2 := by rw [r4]; rfl
  refine load_rule tok H6 (v := .agg #[.int .u32 k0.loan, .int .i32 k0.day, .int .u8 k0.kind, .int .u32 k0.seq, .slice (some ⟨g, 0, none⟩) 2 2]) rfl ?_
  refine call_rule H6 (fun M I _ h => post_ l m1 m2 s2 d2 (by omega) hs2 i2.in_ k0 key0 (some ⟨g, 0, none⟩) 2 2 L (by omega) _ M I h) fun a => ?_
  rcases a with ⟨er, s3, d3⟩
  intro w7 hc H7
  obtain ⟨haf, hs3⟩ := post_after i2 hs2 key0 leg1 hc
  obtain ⟨i3, y3, z1, z2, z3⟩ := haf
  obtain ⟨rfl, t2, t3, ⟨sv3, t4⟩, t5, t6⟩ := aw3 r3 r4 r5 (hL ▸ hc)
  simp only at t2 t3 t4 t5 t6 hs3 i3
  have H7 : Hp ⟨w, M, I⟩ [blk l [.slice s3.A s3.n s3.c, .map (some m1), .map (some m2)] 85, row 69 6 (.slice s3.A s3.n s3.c) s3.n (lnsC d3.lns), mapO m1 keyV iV d3.live, mapO m2 prV iV d3.sums, blk e (entC k0 (some ⟨g, 0, none⟩) 2 2) 39] [LnF d3.lns, Sl legR (.slice (some ⟨g, 0, none⟩) 2 2) L] w7 := Hp.keep (show Hp ⟨w, M, I⟩ [empA, blk l [.slice s3.A s3.n s3.c, .map (some m1), .map (some m2)] 85, row 69 6 (.slice s3.A s3.n s3.c) s3.n (lnsC d3.lns), mapO m1 keyV iV d3.live, mapO m2 prV iV d3.sums, blk e (entC k0 (some ⟨g, 0, none⟩) 2 2) 39] [LnF d3.lns, LnF d2.lns, Sl legR (.slice (some ⟨g, 0, none⟩) 2 2) L] w7 from H7)
  have t4 : d3.lns[2]? = some ⟨k0, sv3, 0, L⟩ := by rw [hL]; exact t4
  have n3 : s3.n = 3 := by rw [t2, hs2, n2]
  have n3' : d3.lns.length = 3 := by omega
  refine call_rule H7 (fun M I _ h => len__ l m1 m2 s3 _ M I h) fun _ w8 _ H8 => ?_
  refine br (fun q => ?_) (fun _ => ?_)
  · exfalso
    have q : ((s3.n : Int) != 3) = true := q
    rw [n3] at q
    exact absurd q (by decide)
  refine load_rule tok H8 (v := keyV k0) rfl ?_
  refine call_rule H8 (fun M I _ h => live_ l m1 m2 s3 d3 (by omega) hs3 k0 2 _ t3 t4 (by show L.length ≤ 1000; omega) _ M I h) fun v w9 _ H9 => ?_
  refine alloc_as tok H9 zeroC rfl rfl rfl fun x w10 H10 => ?_
  refine store_as tok H10 (entC k0 v.A v.n v.c) rfl rfl rfl rfl rfl fun w11 H11 => ?_
  have H11 : Hp ⟨w, M, I⟩ [blk x (entC k0 v.A v.n v.c) 39, blk l [.slice s3.A s3.n s3.c, .map (some m1), .map (some m2)] 85, row 69 6 (.slice s3.A s3.n s3.c) s3.n (lnsC d3.lns), mapO m1 keyV iV d3.live, mapO m2 prV iV d3.sums, blk e (entC k0 (some ⟨g, 0, none⟩) 2 2) 39] [Sl legR (.slice v.A v.n v.c) L, LnF d3.lns, Sl legR (.slice (some ⟨g, 0, none⟩) 2 2) L] w11 := Hp.keep H11
  have hv1 := (H11.sll (A := v.A) (n := v.n) (c := v.c)).1
  refine load_rule tok H11 (v := .agg #[.int .u32 k0.loan, .int .i32 k0.day, .int .u8 k0.kind, .int .u32 k0.seq, .slice v.A v.n v.c]) rfl ?_
  refine load_rule tok H11 (v := .agg #[.int .u32 k0.loan, .int .i32 k0.day, .int .u8 k0.kind, .int .u32 k0.seq, .slice (some ⟨g, 0, none⟩) 2 2]) rfl ?_
  have es : sameB k0 k0 L L = true := by rw [hL]; decide
  refine call_rule H11 (fun M I _ h => es ▸ same_ k0 k0 v.A (some ⟨g, 0, none⟩) v.n v.c 2 2 L L _ M I h ⟨hv1, by omega⟩ hl1.symm) fun _ w12 _ H12 => ?_
  refine call_rule H12 (fun M I _ h => balance l m1 m2 s3 d3.sums 1 2 _ M I h) fun _ w13 _ H13 => ?_
  refine br (fun _ => ?_) (fun q => ?_)
  · refine call_rule H13 (fun M I _ h => control l m1 m2 s3 d3.sums 1 _ M I h) fun _ w14 _ H14 => ?_
    refine Exists.intro () (And.intro (congrArg Value.bool ?_) (And.intro trivial (Hp.keep H14)))
    show (getS d3.sums ⟨0, 1, true⟩ == -5) = true
    rw [t6]; decide
  · exfalso
    have q : (getS d3.sums ⟨1, 2, false⟩ == 5) = false := q
    rw [t5] at q
    exact absurd q (by decide)
theorem awake_ (w : World) (M I : BS) (hM : ∀ b, ¬ M b) (H : Hp ⟨w, M, I⟩ [] [] w) :
    Ctr Tryz.prog 7 [] w M I (fun _ : Unit => .bool true) (fun _ => True) (fun _ => []) (fun _ => []) := awake0 l0 rfl w M I hM H
end Go.Proofs.YtfemfomgmopibaaGreatDoor
namespace Go.Proofs.YtfemfomgmopibaaGreatDoor
open Go Go.Proofs Go.Wk
structure DR where
  s : SV
  d : Led
  rs : SV
  xs : List Ln
@[reducible] def kM (k : Key) : Key := ⟨k.loan.tmod 5, k.day, k.kind, k.seq⟩
theorem kM_in {k : Key} (h : keyIn k) : keyIn (kM k) ∧ (kM k).loan < 5 := by
  obtain ⟨⟨h1, h2⟩, h3⟩ := h
  simp only [kLo, kHi] at h1 h2
  have e : k.loan.tmod 5 = k.loan % 5 := Int.tmod_eq_emod_of_nonneg h1
  refine ⟨⟨⟨?_, ?_⟩, h3⟩, ?_⟩
  · show (0 : Int) ≤ k.loan.tmod 5; omega
  · show k.loan.tmod 5 ≤ (4294967295 : Int); omega
  · show k.loan.tmod 5 < 5; omega
@[reducible] def actC (dv : Int) (k : Key) (A : Option Addr) (n c : Nat) (raw : Bool) (bn : Nat) : List Value := [.int .u8 dv, .int .u32 k.loan, .int .i32 k.day, .int .u8 k.kind, .int .u32 k.seq, .slice A n c, .bool raw, .int .u8 (bn : Int)]
/-- The same ledger, the program's and the document's. -/
structure Both (s : SV) (d : Led) (rs : SV) (xs : List Ln) : Prop where
  inv : Inv d
  sn : s.n = d.lns.length
  rn : rs.n = xs.length
  sim : xs.map stp = d.lns.map stp
structure DoOk (d : Led) (a : DR) : Prop where
  both : Both a.s a.d a.rs a.xs
  more : ∃ ys, a.d.lns = d.lns ++ ys ∧ ys.length ≤ 1 ∧ ∀ y, y ∈ ys → y.k.loan < 5 ∨ ∃ x, x ∈ d.lns ∧ y.k = x.k
theorem sim_len {d : Led} {xs : List Ln} (h : xs.map stp = d.lns.map stp) : xs.length = d.lns.length := by
  have := congrArg List.length h
  simpa using this
theorem sim_ok {d : Led} (hI : Inv d) {xs : List Ln} (h : xs.map stp = d.lns.map stp) (hl : d.lns.length ≤ 900) : LnsOk xs := by
  refine ⟨by have := sim_len h; omega, fun x hx => ?_⟩
  have hm : stp x ∈ d.lns.map stp := by rw [← h]; exact List.mem_map_of_mem hx
  obtain ⟨y, hy, e⟩ := List.mem_map.1 hm
  simp only [stp, Prod.mk.injEq] at e
  obtain ⟨e1, e2, e3⟩ := e
  obtain ⟨⟨h1, h2⟩, h3, h4, _⟩ := hI.ok y hy
  have := (right_day h4).2.1
  rw [← e1, ← e2, ← e3]
  exact ⟨⟨h1, by omega⟩, h3, by omega⟩
theorem sim_ok1 {d : Led} (hI : Inv d) {xs : List Ln} (h : xs.map stp = d.lns.map stp) (hl : d.lns.length ≤ 900) {k : Key} (hk : keyIn k) {sv : SV} {ls : List Leg} (hls : ls.length ≤ 1000) : LnsOk (xs ++ [Ln.mk k sv 0 ls]) := by
  obtain ⟨h1, h2⟩ := sim_ok hI h hl
  have := sim_len h
  refine ⟨by rw [List.length_append]; simp; omega, fun x hx => ?_⟩
  rcases List.mem_append.1 hx with hx | hx
  · exact h2 x hx
  · rw [List.mem_singleton] at hx
    subst hx
    exact ⟨⟨by simp, by simp⟩, hk, hls⟩
theorem sim_live {d : Led} (hI : Inv d) {xs : List Ln} (h : xs.map stp = d.lns.map stp) (k : Key) : liveGo k xs 0 (-1) < xs.length := by
  rw [liveGo_sim h, sim_len h]
  by_cases h0 : 0 ≤ liveGo k d.lns 0 (-1)
  · obtain ⟨x, h1, _⟩ := hI.at_ k h0
    have := (List.getElem?_eq_some_iff.1 h1).1
    omega
  · omega
theorem made_len {ls out : List Leg} (h : made ls out) : out.length ≤ ls.length := by
  unfold made at h
  split at h
  · subst h; simp
  · rename_i m hm
    have h1 := sumGo_len hm
    have h2 := h.1.length_eq
    rw [List.length_map] at h2
    simp only [List.length_nil] at h1
    omega
theorem do_post {s : SV} {d : Led} {rs : SV} {xs : List Ln} (hB : Both s d rs xs) {k : Key} (hk : keyIn (kM k)) (h5 : (kM k).loan < 5) {ls : List Leg} (hl : ∀ g, g ∈ ls → legIn g) {a : AR} (ha : postOk s d (kM k) ls a) {sv : SV} {b : RR} (hb : postROk rs xs (Ln.mk (kM k) sv 0 ls) b) :
    (codeOfF a.e == b.c) = true ∧ DoOk d ⟨a.s, a.d, b.s, b.xs⟩ := by
  obtain ⟨⟨i1, ys, y1, y2, y3⟩, hs⟩ := post_after hB.inv hB.sn hk hl ha
  obtain ⟨e1, e2, e3⟩ := post_sim hB.inv hk hl ha hB.rn hB.sim hb
  refine ⟨by rw [e1]; simp, ⟨⟨i1, hs, e2, e3⟩, ys, y1, y2, fun y hy => .inl (by rw [y3 y hy]; exact h5)⟩⟩
theorem do_rev {s : SV} {d : Led} {rs : SV} {xs : List Ln} (hB : Both s d rs xs) {k : Key} (hlo : k.loan < 5 ∨ ∃ x, x ∈ d.lns ∧ k = x.k) {a : AR} (ha : revOk s d k a) {b : RR} (hb : revROk rs xs k b) :
    (codeOfF a.e == b.c) = true ∧ DoOk d ⟨a.s, a.d, b.s, b.xs⟩ := by
  obtain ⟨⟨i1, ys, y1, y2, y3⟩, hs⟩ := rev_after hB.inv hB.sn ha
  obtain ⟨e1, e2, e3⟩ := rev_sim hB.inv ha hB.rn hB.sim hb
  refine ⟨by rw [e1]; simp, ⟨⟨i1, hs, e2, e3⟩, ys, y1, y2, fun y hy => ?_⟩⟩
  rw [y3 y hy]; exact hlo
set_option maxRecDepth 20000 in
set_option maxHeartbeats 4000000 in
theorem do_ (l m1 m2 : Nat) (s : SV) (d : Led) (p : Nat) (rs : SV) (xs : List Ln) (hB : Both s d rs xs) (hd : d.lns.length ≤ 900) (dv : Int) (k : Key) (hk : keyIn k) (A : Option Addr) (n c : Nat) (ls : List Leg) (raw : Bool) (bn : Nat) (hbn : bn ≤ 255) (w : World) (M I : BS)
    (H : Hp ⟨w, M, I⟩ [blk l [.slice s.A s.n s.c, .map (some m1), .map (some m2)] 85, row 69 6 (.slice s.A s.n s.c) s.n (lnsC d.lns), mapO m1 keyV iV d.live, mapO m2 prV iV d.sums, blk p [.slice rs.A rs.n rs.c] 33, row 66 6 (.slice rs.A rs.n rs.c) rs.n (lnsC xs)] [Sl legR (.slice A n c) ls, LnF d.lns, LnF xs, Glob 0 errTy] w) :
    Ctr Tryz.prog 9 [.pointer (some ⟨l, 0, none⟩), .pointer (some ⟨p, 0, none⟩), .agg #[.int .u8 dv, .int .u32 k.loan, .int .i32 k.day, .int .u8 k.kind, .int .u32 k.seq, .slice A n c, .bool raw, .int .u8 (bn : Int)]] w M I (fun _ : DR => .bool true) (DoOk d)
      (fun a => [blk l [.slice a.s.A a.s.n a.s.c, .map (some m1), .map (some m2)] 85, row 69 6 (.slice a.s.A a.s.n a.s.c) a.s.n (lnsC a.d.lns), mapO m1 keyV iV a.d.live, mapO m2 prV iV a.d.sums, blk p [.slice a.rs.A a.rs.n a.rs.c] 33, row 66 6 (.slice a.rs.A a.rs.n a.rs.c) a.rs.n (lnsC a.xs)]) (fun a => [LnF a.d.lns, LnF a.xs]) := by
  have hxl := sim_len hB.sim
  have hok := sim_ok hB.inv hB.sim hd
  obtain ⟨hkM, hk5⟩ := kM_in hk
  obtain ⟨hn, hc, hc2⟩ := H.sll (A := A) (n := n) (c := c)
  have hlok := legs_ok (A := A) (n := n) (c := c) H
  have hk1 : (0 : Int) ≤ k.loan ∧ k.loan ≤ 4294967295 := hk.1
  obtain ⟨M', I', h0, hm', hk'⟩ := Hp.call (A := []) (S := [blk l [.slice s.A s.n s.c, .map (some m1), .map (some m2)] 85, row 69 6 (.slice s.A s.n s.c) s.n (lnsC d.lns), mapO m1 keyV iV d.live, mapO m2 prV iV d.sums, blk p [.slice rs.A rs.n rs.c] 33, row 66 6 (.slice rs.A rs.n rs.c) rs.n (lnsC xs)]) (G := [Sl legR (.slice A n c) ls, LnF d.lns, LnF xs, Glob 0 errTy]) H fun I ha => ha
  have hM := hm' rfl
  refine Exe.of_ev tok Tryz.call9 Tryz.func9 rfl rfl rfl ?_
  refine box_as h0 (actC dv k A n c raw bn) rfl fun b w1 H1 => ?_
  refine slice_as tok H1 [] rfl rfl rfl rfl rfl rfl fun g w2 H2 => ?_
  have H2 : Hp ⟨w, M', I'⟩ [row 43 2 (.slice (some ⟨g, 0, none⟩) 0 0) 0 [], blk b (actC dv k A n c raw bn) 36] [Sl legR (.slice A n c) ls, LnF d.lns, LnF xs, Glob 0 errTy] w2 := H2.toRow 2 0 rfl (by decide)
  refine load_rule tok H2 (v := .slice A n c) rfl ?_
  refine load_rule tok H2 (v := .slice A n c) rfl ?_
  refine slice_sl (A := A) (n := n) (c := c) (r := legR) tok H2 (k := min n 12) rfl rfl (min_v n) (Nat.min_le_left _ _) fun H3 => ?_
  refine append_sl (v := .slice (some ⟨g, 0, none⟩) 0 0) (A := A) (m := min n 12) (c := c) tok H3 rfl rfl rfl rfl rfl rfl rfl (fun x _ _ => legs_one x) (by show (0 + min n 12) * 16 ≤ _; omega) (by omega) fun A2 c2 news w4 H4 => ?_
  have H4 : Hp ⟨w, M', I'⟩ [row 43 2 (.slice A2 (0 + min n 12) c2) (0 + min n 12) news, blk b (actC dv k A n c raw bn) 36] [Cl legR news (ls.take (min n 12)), Sl legR (.slice A (min n 12) c) (ls.take (min n 12)), Sl legR (.slice A n c) ls, LnF d.lns, LnF xs, Glob 0 errTy] w4 := H4
  have H5 := H4.frzRow (v := .slice A2 (0 + min n 12) c2) (xs := ls.take (min n 12)) legR hM rfl (by decide)
  have hlk : ∀ g, g ∈ ls.take (min n 12) → legIn g := fun g hg => hlok g (List.mem_of_mem_take hg)
  have hl12 : (ls.take (min n 12)).length ≤ 12 := by rw [List.length_take]; omega
  refine load_rule tok H5 (v := .int .u32 k.loan) rfl ?_
  refine rem_as (kM k).loan (by decide) rfl ?_
  refine store_as tok H5 (actC dv (kM k) A n c raw bn) rfl rfl rfl rfl rfl fun w5 H6 => ?_
  refine load_rule tok H6 (v := .int .u8 dv) rfl ?_
  refine rem_as (dv.tmod 5) (by decide) rfl ?_
  have F6 : Hp ⟨w, M, I⟩ [blk b (actC dv (kM k) A n c raw bn) 36, blk l [.slice s.A s.n s.c, .map (some m1), .map (some m2)] 85, row 69 6 (.slice s.A s.n s.c) s.n (lnsC d.lns), mapO m1 keyV iV d.live, mapO m2 prV iV d.sums, blk p [.slice rs.A rs.n rs.c] 33, row 66 6 (.slice rs.A rs.n rs.c) rs.n (lnsC xs)] [Sl legR (.slice A2 (0 + min n 12) c2) (ls.take (min n 12)), Cl legR news (ls.take (min n 12)), Sl legR (.slice A (min n 12) c) (ls.take (min n 12)), Sl legR (.slice A n c) ls, LnF d.lns, LnF xs, Glob 0 errTy, Sl legR (.slice A n c) ls, LnF d.lns, LnF xs, Glob 0 errTy] w5 := hk' _ _ w5 H6
  have F6 : Hp ⟨w, M, I⟩ [blk b (actC dv (kM k) A n c raw bn) 36, blk l [.slice s.A s.n s.c, .map (some m1), .map (some m2)] 85, row 69 6 (.slice s.A s.n s.c) s.n (lnsC d.lns), mapO m1 keyV iV d.live, mapO m2 prV iV d.sums, blk p [.slice rs.A rs.n rs.c] 33, row 66 6 (.slice rs.A rs.n rs.c) rs.n (lnsC xs)] [Sl legR (.slice A2 (0 + min n 12) c2) (ls.take (min n 12)), LnF d.lns, LnF xs, Glob 0 errTy] w5 := F6.keep
  refine br (fun q3 => ?_) (fun q3 => ?_)
  · refine draw_rule (A := [blk l [.slice s.A s.n s.c, .map (some m1), .map (some m2)] 85, row 69 6 (.slice s.A s.n s.c) s.n (lnsC d.lns), mapO m1 keyV iV d.live, mapO m2 prV iV d.sums, blk p [.slice rs.A rs.n rs.c] 33, row 66 6 (.slice rs.A rs.n rs.c) rs.n (lnsC xs)]) tok tdr F6 [0, 1, 2, 3, 4, 6, 7, 8, 5, 9, 10, 11] [0, 0, 2, 7, 15, 0, 0, 64, 223, 511, 1023, 2047] rfl ?_
    refine pass_rule _ (fun w h => load_rule tok h (v := keyV (kM k)) rfl ⟨rfl, rfl⟩) ?_
    refine imp_rule (fun X wx h => call_rule h (fun M I _ h => reverse_ l m1 m2 s d (by omega) hB.sn hB.inv.in_ (kM k) hkM (rev_pre hB.inv) _ M I h) fun a w1 ha H1 => imp_done H1 ?_)
    refine imp_rule (fun X wx h => call_rule h (fun M I _ h => codeF a.e _ M I h) fun _ w1 _ H1 => imp_done H1 ?_)
    refine pass_rule _ (fun w h => load_rule tok h (v := keyV (kM k)) rfl ⟨rfl, rfl⟩) ?_
    refine imp_rule (fun X wx h => call_rule h (fun M I _ h => key_ (kM k) _ M I h) fun _ w1 _ H1 => imp_done H1 ?_)
    refine imp_rule (fun X wx h => call_rule h (fun M I _ h => reverseRef p rs xs hB.rn hok (by omega) (kM k) hkM (sim_live hB.inv hB.sim (kM k)) _ M I h) fun r w1 hr H1 => imp_done H1 ?_)
    refine done_rule fun w7 H7 => ?_
    have hfin := do_rev hB (.inl hk5) ha hr
    exact Exists.intro ⟨a.s, a.d, r.s, r.xs⟩ (And.intro (congrArg Value.bool hfin.1) (And.intro hfin.2 (Hp.keep H7)))
  refine br (fun q4 => ?_) (fun q4 => ?_)
  · refine load_rule tok F6 (v := .slice rs.A rs.n rs.c) rfl ?_
    refine br (fun q => ?_) (fun q => ?_)
    · exact Exists.intro ⟨s, d, rs, xs⟩ (And.intro rfl (And.intro ⟨hB, [], by simp, by simp, (fun y hy => by cases hy)⟩ (Hp.keep F6)))
    have q : ((rs.n : Int) == 0) = false := q
    have q0 : rs.n ≠ 0 := fun e => by rw [e] at q; exact absurd q (by decide)
    have hpos : 0 < d.lns.length := by rw [← hxl, ← hB.rn]; omega
    have hj : bn % rs.n < d.lns.length := by
      have := Nat.mod_lt bn (show 0 < rs.n by omega)
      have := hB.rn
      omega
    have hx : ∃ x, d.lns[bn % rs.n]? = some x := ⟨_, List.getElem?_eq_getElem hj⟩
    refine Exists.elim hx fun x hx => ?_
    have hxm := List.mem_of_getElem? hx
    have hxk := (hB.inv.ok x hxm).2.1
    have hxl8 := (right_day (hB.inv.ok x hxm).2.2.1).2.1
    have ew : IntKind.i64.wrap (bn : Int) = (bn : Int) := w64 (by omega) (by omega)
    have er : (IntKind.i64.wrap (bn : Int)).tmod (rs.n : Int) = ((bn % rs.n : Nat) : Int) := by rw [ew]; rfl
    have en : (rs.n : Int) ≠ 0 := by omega
    refine draw_rule (A := []) tok tdr F6 [0, 1, 2, 3, 4, 5, 6, 7, 8, 9, 10, 11, 12, 14, 15, 13, 16] [0, 0, 2, 6, 0, 16, 48, 112, 240, 510, 1023, 2047, 4095, 4095, 0, 24575, 65535] rfl ?_
    refine pass_rule _ (fun w h => load_rule tok h (v := .int .u8 (bn : Int)) rfl ⟨rfl, rfl⟩) ?_
    refine pass_rule _ (fun w h => load_rule tok h (v := .slice rs.A rs.n rs.c) rfl ⟨rfl, rfl⟩) ?_
    refine pass_rule _ (fun w h => rem_as ((bn % rs.n : Nat) : Int) en er ⟨rfl, rfl⟩) ?_
    refine imp_rule (fun X wx h => call_rule h (fun M I _ h => line_ l m1 m2 s d.lns (by omega) hB.sn (bn % rs.n) x hx (by omega) _ M I h) fun sv w1 _ H1 => imp_done H1 ?_)
    refine fresh_alloc tok rfl rfl rfl fun t => ?_
    refine imp_rule (fun X wx h => store_as tok h [.int .u32 x.k.loan, .int .i32 x.k.day, .int .u8 x.k.kind, .int .u32 x.k.seq, .slice sv.A sv.n sv.c, .int .i64 x.of] rfl rfl rfl rfl rfl fun w1 H1 => imp_done H1 ?_)
    refine done_rule fun w7 H7 => ?_
    have H8 : Hp ⟨w, M, I⟩ [blk t [.int .u32 x.k.loan, .int .i32 x.k.day, .int .u8 x.k.kind, .int .u32 x.k.seq, .slice sv.A sv.n sv.c, .int .i64 x.of] 69, blk l [.slice s.A s.n s.c, .map (some m1), .map (some m2)] 85, row 69 6 (.slice s.A s.n s.c) s.n (lnsC d.lns), mapO m1 keyV iV d.live, mapO m2 prV iV d.sums, blk p [.slice rs.A rs.n rs.c] 33, row 66 6 (.slice rs.A rs.n rs.c) rs.n (lnsC xs)] [LnF d.lns, LnF xs, Glob 0 errTy] w7 := Hp.keep H7
    refine draw_rule (A := [blk l [.slice s.A s.n s.c, .map (some m1), .map (some m2)] 85, row 69 6 (.slice s.A s.n s.c) s.n (lnsC d.lns), mapO m1 keyV iV d.live, mapO m2 prV iV d.sums, blk p [.slice rs.A rs.n rs.c] 33, row 66 6 (.slice rs.A rs.n rs.c) rs.n (lnsC xs)]) tok tdr H8 [0, 1, 2, 3, 4, 5, 7, 8, 9, 10, 6, 11, 12, 13] [0, 0, 2, 6, 15, 31, 0, 0, 128, 384, 959, 2047, 4095, 8191] rfl ?_
    refine pass_rule _ (fun w h => load_rule tok h (v := keyV x.k) rfl ⟨rfl, rfl⟩) ?_
    refine imp_rule (fun X wx h => call_rule h (fun M I _ h => reverse_ l m1 m2 s d (by omega) hB.sn hB.inv.in_ x.k hxk (rev_pre hB.inv) _ M I h) fun a w1 ha H1 => imp_done H1 ?_)
    refine imp_rule (fun X wx h => call_rule h (fun M I _ h => codeF a.e _ M I h) fun _ w1 _ H1 => imp_done H1 ?_)
    refine pass_rule _ (fun w h => load_rule tok h (v := keyV x.k) rfl ⟨rfl, rfl⟩) ?_
    refine imp_rule (fun X wx h => call_rule h (fun M I _ h => key_ x.k _ M I h) fun _ w1 _ H1 => imp_done H1 ?_)
    refine imp_rule (fun X wx h => call_rule h (fun M I _ h => reverseRef p rs xs hB.rn hok (by omega) x.k hxk (sim_live hB.inv hB.sim x.k) _ M I h) fun r w1 hr H1 => imp_done H1 ?_)
    refine done_rule fun w9 H9 => ?_
    have hfin := do_rev hB (.inr ⟨x, hxm, rfl⟩) ha hr
    exact Exists.intro ⟨a.s, a.d, r.s, r.xs⟩ (And.intro (congrArg Value.bool hfin.1) (And.intro hfin.2 (Hp.keep H9)))
  refine load_rule tok F6 (v := keyV (kM k)) rfl ?_
  refine call_rule F6 (fun M I h0 h => make (kM k) A2 (0 + min n 12) c2 (ls.take (min n 12)) hl12 _ M I (h0 rfl) h) fun mo w7 hmo H7 => ?_
  refine alloc_as tok H7 zeroC rfl rfl rfl fun t w8 H8 => ?_
  refine store_as tok H8 (entC (kM k) mo.1.A mo.1.n mo.1.c) rfl rfl rfl rfl rfl fun w9 H9 => ?_
  refine load_rule tok H9 (v := .bool raw) rfl ?_
  refine br (fun _ => ?_) (fun _ => ?_)
  · refine load_rule tok H9 (v := keyV (kM k)) rfl ?_
    refine store_as tok H9 (entC (kM k) A2 (0 + min n 12) c2) rfl rfl rfl rfl rfl fun w10 H10 => ?_
    have H11 : Hp ⟨w, M, I⟩ [blk t (entC (kM k) A2 (0 + min n 12) c2) 39, blk l [.slice s.A s.n s.c, .map (some m1), .map (some m2)] 85, row 69 6 (.slice s.A s.n s.c) s.n (lnsC d.lns), mapO m1 keyV iV d.live, mapO m2 prV iV d.sums, blk p [.slice rs.A rs.n rs.c] 33, row 66 6 (.slice rs.A rs.n rs.c) rs.n (lnsC xs)] [Sl legR (.slice A2 (0 + min n 12) c2) (ls.take (min n 12)), LnF d.lns, LnF xs, Glob 0 errTy] w10 := Hp.keep H10
    have hll : (ls.take (min n 12)).length ≤ 1000 := by omega
    have hlg := hlk
    refine draw_rule (A := [blk l [.slice s.A s.n s.c, .map (some m1), .map (some m2)] 85, row 69 6 (.slice s.A s.n s.c) s.n (lnsC d.lns), mapO m1 keyV iV d.live, mapO m2 prV iV d.sums, blk p [.slice rs.A rs.n rs.c] 33, row 66 6 (.slice rs.A rs.n rs.c) rs.n (lnsC xs)]) tok tdr H11 [0, 1, 2, 3, 5, 6, 4, 7, 8, 9] [0, 0, 3, 7, 0, 0, 47, 127, 255, 511] rfl ?_
    refine pass_rule _ (fun w h => load_rule tok h (v := .agg #[.int .u32 (kM k).loan, .int .i32 (kM k).day, .int .u8 (kM k).kind, .int .u32 (kM k).seq, .slice A2 (0 + min n 12) c2]) rfl ⟨rfl, rfl⟩) ?_
    refine imp_rule (fun X wx h => call_rule h (fun M I _ h => post_ l m1 m2 s d (by omega) hB.sn hB.inv.in_ (kM k) hkM A2 (0 + min n 12) c2 (ls.take (min n 12)) hll _ M I h) fun a w1 ha H1 => imp_done H1 ?_)
    refine imp_rule (fun X wx h => call_rule h (fun M I _ h => codeF a.e _ M I h) fun _ w1 _ H1 => imp_done H1 ?_)
    refine pass_rule _ (fun w h => load_rule tok h (v := .agg #[.int .u32 (kM k).loan, .int .i32 (kM k).day, .int .u8 (kM k).kind, .int .u32 (kM k).seq, .slice A2 (0 + min n 12) c2]) rfl ⟨rfl, rfl⟩) ?_
    refine imp_rule (fun X wx h => call_rule h (fun M I h0 h => own_ (kM k) A2 (0 + min n 12) c2 (ls.take (min n 12)) hll _ M I (h0 rfl) h) fun ow w1 _ H1 => imp_done H1 ?_)
    refine imp_rule (fun X wx h => call_rule h (fun M I _ h => postRef p rs xs hB.rn (kM k) ow.A ow.n ow.c (ls.take (min n 12)) (sim_ok1 hB.inv hB.sim hd hkM hll) _ M I h) fun r w1 hr H1 => imp_done H1 ?_)
    refine done_rule fun w12 H12 => ?_
    have hfin := do_post hB hkM hk5 hlg ha hr
    exact Exists.intro ⟨a.s, a.d, r.s, r.xs⟩ (And.intro (congrArg Value.bool hfin.1) (And.intro hfin.2 (Hp.keep H12)))
  · have H11 : Hp ⟨w, M, I⟩ [blk t (entC (kM k) mo.1.A mo.1.n mo.1.c) 39, blk l [.slice s.A s.n s.c, .map (some m1), .map (some m2)] 85, row 69 6 (.slice s.A s.n s.c) s.n (lnsC d.lns), mapO m1 keyV iV d.live, mapO m2 prV iV d.sums, blk p [.slice rs.A rs.n rs.c] 33, row 66 6 (.slice rs.A rs.n rs.c) rs.n (lnsC xs)] [Sl legR (.slice mo.1.A mo.1.n mo.1.c) mo.2, LnF d.lns, LnF xs, Glob 0 errTy] w9 := Hp.keep H9
    have hll : mo.2.length ≤ 1000 := by have := made_len hmo; omega
    have hlg : ∀ g, g ∈ mo.2 → legIn g := legs_ok (A := mo.1.A) (n := mo.1.n) (c := mo.1.c) H11
    refine draw_rule (A := [blk l [.slice s.A s.n s.c, .map (some m1), .map (some m2)] 85, row 69 6 (.slice s.A s.n s.c) s.n (lnsC d.lns), mapO m1 keyV iV d.live, mapO m2 prV iV d.sums, blk p [.slice rs.A rs.n rs.c] 33, row 66 6 (.slice rs.A rs.n rs.c) rs.n (lnsC xs)]) tok tdr H11 [0, 1, 2, 3, 5, 6, 4, 7, 8, 9] [0, 0, 3, 7, 0, 0, 47, 127, 255, 511] rfl ?_
    refine pass_rule _ (fun w h => load_rule tok h (v := .agg #[.int .u32 (kM k).loan, .int .i32 (kM k).day, .int .u8 (kM k).kind, .int .u32 (kM k).seq, .slice mo.1.A mo.1.n mo.1.c]) rfl ⟨rfl, rfl⟩) ?_
    refine imp_rule (fun X wx h => call_rule h (fun M I _ h => post_ l m1 m2 s d (by omega) hB.sn hB.inv.in_ (kM k) hkM mo.1.A mo.1.n mo.1.c mo.2 hll _ M I h) fun a w1 ha H1 => imp_done H1 ?_)
    refine imp_rule (fun X wx h => call_rule h (fun M I _ h => codeF a.e _ M I h) fun _ w1 _ H1 => imp_done H1 ?_)
    refine pass_rule _ (fun w h => load_rule tok h (v := .agg #[.int .u32 (kM k).loan, .int .i32 (kM k).day, .int .u8 (kM k).kind, .int .u32 (kM k).seq, .slice mo.1.A mo.1.n mo.1.c]) rfl ⟨rfl, rfl⟩) ?_
    refine imp_rule (fun X wx h => call_rule h (fun M I h0 h => own_ (kM k) mo.1.A mo.1.n mo.1.c mo.2 hll _ M I (h0 rfl) h) fun ow w1 _ H1 => imp_done H1 ?_)
    refine imp_rule (fun X wx h => call_rule h (fun M I _ h => postRef p rs xs hB.rn (kM k) ow.A ow.n ow.c mo.2 (sim_ok1 hB.inv hB.sim hd hkM hll) _ M I h) fun r w1 hr H1 => imp_done H1 ?_)
    refine done_rule fun w12 H12 => ?_
    have hfin := do_post hB hkM hk5 hlg ha hr
    exact Exists.intro ⟨a.s, a.d, r.s, r.xs⟩ (And.intro (congrArg Value.bool hfin.1) (And.intro hfin.2 (Hp.keep H12)))
end Go.Proofs.YtfemfomgmopibaaGreatDoor
set_option linter.unusedVariables false
namespace Go.Wk
open Go.ChangeShapes Go.WideShapes Go.ChangeAt Go.RowKit Go.Joins
section
variable {H : Type} {enc : TypeId × Value → H} {P : Program} {w w' : World} {base : Nat} {spare : Nat → Bool} {held : Bool}
theorem trod_carry {t : TypeId} {v : Value} {d : DataW H} {ps : List MemPlace} (h : DataW.Trod enc P w base spare held t v d ps) (hs : ∀ p ∈ ps, w.sameAt w' p) : DataW.Trod enc P w' base spare held t v d ps := by
  obtain ⟨n, hn⟩ := h
  exact ⟨n, DataW.trod_carry n _ _ _ hn hs⟩
theorem trodAll_carry : ∀ {ts : List TypeId} {vs : List Value} {ds : List (DataW H)} {ps : List MemPlace}, DataW.TrodAll enc P w base spare held ts vs ds ps → (∀ p ∈ ps, w.sameAt w' p) → DataW.TrodAll enc P w' base spare held ts vs ds ps
  | [], [], [], _, h, _ => h
  | _ :: _, _ :: _, _ :: _, _, ⟨p, q, h1, h2, e⟩, hs => ⟨p, q, trod_carry h1 (fun x hx => hs x (by rw [e]; exact List.mem_append_left _ hx)), trodAll_carry h2 (fun x hx => hs x (by rw [e]; exact List.mem_append_right _ hx)), e⟩
end
theorem sameAt_of {W W' : World} {p : MemPlace} (h : W'.heap[p.block]? = W.heap[p.block]?) : W.sameAt W' p := by
  cases p with
  | cell b off => show W'.cell? _ = W.cell? _; unfold World.cell?; simp only [MemPlace.block] at h; simp only [h]
  | map b => exact h
theorem hp_kept {W W' : World} {I : BS} {S : List Asn} {F : List Fact} (h : Hp ⟨W, fun _ => False, I⟩ S F W') (may : MemPlace → Prop) : W.keptBut W' may := by
  refine ⟨h.os, h.output.1, fun i hi => ?_⟩
  have hf : W'.heap[i]? = W.heap[i]? := h.frame i hi id
  rw [hf]
  cases hq : W.heap[i]? with
  | none => rfl
  | some o => cases o <;> first | exact ⟨rfl, rfl, rfl, fun _ _ => rfl⟩ | exact Or.inr ⟨rfl, rfl⟩ | rfl
theorem post_true {H : Type} {enc : TypeId × Value → H} {P : Program} {f : Func} {s : ChangeSpec} {apart fresh handsOn : Bool} {W W' : World} {args : Array Value} {ds gs : List (DataW H)} {before : List MemPlace} {I : BS} {S : List Asn} {F : List Fact}
    (K : Kids P (· < P.types.size)) (hz : ∀ t e, t < P.types.size → P.underlying t = some (.slice e) → 0 < P.cellsOf e) (hv : s.vars = []) (hp : ∀ t ∈ f.params.toList, t < P.types.size) {tb : TypeId} (htb : P.underlying tb = some .bool) (hr : f.resultTypes = #[tb])
    (hW : DataW.Whole enc P f.params.toList s.vars apart W args.toList ds gs before) (hfn : gs = [] → s.fn H ds = { results := [.lit (.bool true)], args := ds }) (h : Hp ⟨W, fun _ => False, I⟩ S F W') : s.post enc P f apart fresh handsOn false W args (.bool true) W' := by
  have hlt := hW.lt
  have hW0 := hW
  obtain ⟨p, q, hA, hV, rfl, _, _⟩ := hW
  rw [hv] at hV
  obtain ⟨rfl, rfl⟩ := trodVars_none hV
  have e : s.fn H (ds ++ []) = { results := [.lit (.bool true)], args := ds } := by rw [List.append_nil]; exact hfn rfl
  refine ⟨ds, [], _, [], p, [], hW0, ?_, ?_, ?_, hp_kept h _, fun h => by cases h⟩
  · rw [e, hr]
    exact trodAll_mk1 ⟨1, by simp [DataW.trod, Value.cells, htb]⟩
  · rw [e]
    refine DataW.TrodAll.respare K hz hp (trodAll_carry hA fun x hx => ?_) fun x hx => ?_
    · exact sameAt_of (h.frame _ (hlt x (List.mem_append_left _ hx)) id)
    · have := hlt x (List.mem_append_left _ hx)
      exact decide_eq_true this
  · rw [e, hv]; exact rfl
@[reducible] def oldB (w : World) : BS := fun b => b < w.heap.size
theorem cell_lt {w : World} {a : Addr} {v : Value} (h : w.cell? a = some v) : a.block < w.heap.size ∧ a.spot = none := by
  unfold World.cell? at h
  cases hb : w.heap[a.block]? with
  | none => rw [hb] at h; cases h
  | some o =>
    refine ⟨(Array.getElem?_eq_some_iff.1 hb).1, ?_⟩
    rw [hb] at h
    cases o <;> simp only at h
    · cases hs : a.spot with
      | none => rfl
      | some x => rw [hs] at h; simp at h
    all_goals cases h
section
variable {H : Type} {enc : TypeId × Value → H} {P : Program} {w : World} {base : Nat} {spare : Nat → Bool} {held : Bool} {α : Type}
theorem sl_of_cells [Inhabited α] {r : Rp α} {t e : TypeId} (ht : P.underlying t = some (.slice e)) (hc : P.cellsOf e = r.sz) (h1 : 1 ≤ r.sz)
    (hel : ∀ n cs x, DataW.trod enc P w base spare held n e cs = some x → ∃ y p, r.ok y p ∧ cs = r.cells y p ∧ All (r.facts y p) w (oldB w)) {n : Nat} {cs : List Value} {x : DataW H × List MemPlace} (h : DataW.trod enc P w base spare held n t cs = some x) :
    ∃ A n c ls, cs = [.slice A n c] ∧ (Sl r (.slice A n c) ls).holds w (oldB w) := by
  rcases Deep.open_slice ht h with ⟨rfl, _⟩ | ⟨a, len, cap, m, n, D, Pl, rfl, hb, hl, hm, hmm, _, hx⟩
  · exact ⟨none, 0, 0, [], rfl, none, 0, rfl, Nat.le_refl _, by decide, fun _ => rfl, fun i x h => by simp at h⟩
  · have hle : len ≤ m := by rw [hmm]; split <;> omega
    obtain ⟨f, hf⟩ := Deep.choose_lt (α := α) (n := len) (p := fun i y => ∃ b o, a = ⟨b, o, none⟩ ∧ oldB w b ∧ r.At w (oldB w) b (o + i * r.sz) y) fun i hi => by
      obtain ⟨cs', g1, g2⟩ := hx i (by omega)
      obtain ⟨y, p, ok, rfl, hfa⟩ := hel _ _ _ g2
      obtain ⟨_, hlen, hcell⟩ := World.cells?_some g1
      rw [hc] at hcell hlen
      have c0 : w.cell? (a.add (0 * P.cellsOf e)) ≠ none := by
        obtain ⟨cs0, g0, _⟩ := hx 0 (by omega)
        obtain ⟨_, hl0, hc0⟩ := World.cells?_some g0
        have := hc0 0 (by omega)
        rw [show (a.add (0 * P.cellsOf e)).add 0 = a.add (0 * P.cellsOf e) from rfl] at this
        rw [this, List.getElem?_eq_getElem (by omega)]
        simp
      obtain ⟨v0, hv0⟩ := Option.ne_none_iff_exists'.1 c0
      rw [Nat.zero_mul] at hv0
      have := cell_lt (show w.cell? a = some v0 from hv0)
      obtain ⟨ab, ao, asx⟩ := a
      obtain ⟨this, rfl⟩ : ab < w.heap.size ∧ asx = none := this
      refine ⟨y, ab, ao, rfl, this, p, ok, fun j v hj => ?_, hfa⟩
      have hjl : j < r.sz := by have := (List.getElem?_eq_some_iff.1 hj).1; omega
      have := hcell j hjl
      rw [add_plain, add_plain] at this
      rw [this, hj]
    refine ⟨some a, len, cap, (List.range len).map f, rfl, some a, cap, (by simp), (by simpa using hl), hm, (fun h => by cases h), fun i x hi => ?_⟩
    simp only [List.getElem?_map, Option.map_eq_some_iff] at hi
    obtain ⟨j, hj, rfl⟩ := hi
    obtain ⟨hj1, rfl⟩ := List.getElem?_eq_some_iff.1 hj
    rw [List.length_range] at hj1
    obtain ⟨b, o, rfl, hb, hat⟩ := hf i hj1
    simp only [List.getElem_range]
    exact ⟨b, o, rfl, hb, hat⟩
theorem sl_of_trod [Inhabited α] {r : Rp α} {t e : TypeId} (ht : P.underlying t = some (.slice e)) (hc : P.cellsOf e = r.sz) (h1 : 1 ≤ r.sz)
    (hel : ∀ n cs x, DataW.trod enc P w base spare held n e cs = some x → ∃ y p, r.ok y p ∧ cs = r.cells y p ∧ All (r.facts y p) w (oldB w)) {v : Value} {d : DataW H} {ps : List MemPlace} (h : DataW.Trod enc P w base spare held t v d ps) (hv : ∀ cs, v ≠ .agg cs) :
    ∃ A n c ls, v = .slice A n c ∧ (Sl r (.slice A n c) ls).holds w (oldB w) := by
  obtain ⟨n, hn⟩ := h
  obtain ⟨A, m, c, ls, e, h⟩ := sl_of_cells ht hc h1 hel hn
  refine ⟨A, m, c, ls, ?_, h⟩
  have : Value.cells v = #[v] := by cases v <;> first | rfl | exact absurd rfl (hv _)
  rw [this] at e
  simpa using e
theorem hp_old (w : World) (F : List Fact) (hF : All F w (oldB w)) : Hp ⟨w, fun _ => False, oldB w⟩ [] F w :=
  ⟨rfl, rfl, ⟨rfl, fun _ => Nat.le_refl _⟩, Nat.le_refl _, fun _ _ _ => rfl, oldB w, fun _ => False, fun _ h => h, hF, fun b hb => .inl hb, fun b hb => hb, fun b hb => hb, fun b hb => hb.elim, fun b hb => hb.elim⟩
end
theorem not_agg {P : Program} {w : World} {r : Reach} {b : Nat} {t e : TypeId} {v : Value} (ht : P.underlying t = some (.slice e)) (hv : Value.okWide P w r b t v) : ∀ cs, v ≠ .agg cs := by
  intro cs h
  subst h
  unfold Value.okWide at hv
  simp only [ht] at hv
  unfold Cell.okWide Cell.ok at hv
  simp [ht] at hv
theorem inK_of_wf {k : IntKind} {n : Int} (h : (Lit.int k n).wf = true) : inK k n := by
  have h1 : k.min ≤ n ∧ n ≤ k.max := by
    simp only [Lit.wf, Bool.and_eq_true, decide_eq_true_eq] at h
    exact h
  have e : k.min = kLo k ∧ k.max = kHi k := by cases k <;> exact ⟨rfl, rfl⟩
  rw [e.1, e.2] at h1
  exact h1
end Go.Wk
/- Readings of many arguments. -/
namespace Go.Wk
open Go.ChangeShapes
section
variable {H : Type} {enc : TypeId × Value → H} {P : Program} {w : World} {base : Nat} {spare : Nat → Bool} {held : Bool}
end
end Go.Wk
set_option linter.unusedVariables false
set_option linter.unusedSimpArgs false
namespace Go.Wk
/-- Resources asx one, of something that is hidden, of which something is so. -/
def packA {ι : Type} (p : ι → Prop) (f : ι → List Asn) : Asn where
  at_ w fp := ∃ i, p i ∧ Sep w (fun _ => False) (f i) fp
  loc := fun ⟨i, hp, h⟩ k => ⟨i, hp, h.keep k fun _ _ h => h⟩
  lt := fun ⟨_, _, h⟩ hb => h.lt _ hb
section
variable {B : Base} {S S' L : List Asn} {F : List Fact} {w : World} {ι : Type} {p : ι → Prop} {f : ι → List Asn}
theorem Hp.unpack (H : Hp B (packA p f :: S) F w) : ∃ i, p i ∧ Hp B (f i ++ S) F w := by
  obtain ⟨h1, h2, h3, h4, h5, I, fp, ⟨fa, fs, ⟨i, hp, ha⟩, hi, hd, hu, hs⟩, r1, r2, r3, r4, r5, r6⟩ := H
  refine ⟨i, hp, h1, h2, h3, h4, h5, I, fp, ?_, r1, r2, r3, r4, r5, r6⟩
  have := Sep.app (ha.keep (w' := w) (I' := I) (fun _ _ => rfl) hi) hs hd
  have e : (fun b => fa b ∨ fs b) = fp := by funext b; exact propext (hu b).symm
  rwa [e] at this
theorem Hp.pack (i : ι) (hp : p i) (H : Hp B (f i ++ S) F w) : Hp B (packA p f :: S) F w := by
  obtain ⟨h1, h2, h3, h4, h5, I, fp, hs, r⟩ := H
  obtain ⟨f1, f2, s1, s2, hd, hu⟩ := hs.split
  exact ⟨h1, h2, h3, h4, h5, I, fp, ⟨f1, f2, ⟨i, hp, s1.keep (fun _ _ => rfl) fun _ _ h => h⟩, s1.off, hd, hu, s2⟩, r⟩
/-- One of several is opened. -/
theorem Hp.open_ (H : Hp B L F w) [k : Take L (packA p f) S] : ∃ i, p i ∧ Hp B (f i ++ S) F w := Hp.unpack (H.perm k.perm)
/-- What is picked out is closed. -/
theorem Hp.close (i : ι) (hp : p i) (H : Hp B L F w) [k : Pick L (f i) S] : Hp B (packA p f :: S) F w := Hp.pack i hp (H.perm k.perm)
theorem Ctr.imp {P : Program} {g : Nat} {args : List Value} {M I : BS} {α β : Type} {V : α → Value} {φ : α → Prop} {A : α → List Asn} {G : α → List Fact} {V' : β → Value} {φ' : β → Prop} {A' : β → List Asn} {G' : β → List Fact}
    (h : Ctr P g args w M I V φ A G) (k : ∀ a w', φ a → Hp ⟨w, M, I⟩ (A a) (G a) w' → ∃ b, V a = V' b ∧ φ' b ∧ Hp ⟨w, M, I⟩ (A' b) (G' b) w') : Ctr P g args w M I V' φ' A' G' := by
  refine Exe.mono h ?_
  rintro v w' ⟨a, rfl, hφ, hh⟩
  obtain ⟨b, e, h1, h2⟩ := k a w' hφ hh
  exact ⟨b, e, h1, h2⟩
/-- A contract on a part of what is owned. -/
theorem Ctr.frame {P : Program} {g : Nat} {args : List Value} {M I : BS} {α : Type} {V : α → Value} {φ : α → Prop} {A : α → List Asn} {G : α → List Fact} {A0 : List Asn} {G0 : List Fact} {R : α → List Asn} {N : α → List Fact} (H : Hp ⟨w, M, I⟩ L F w)
    (h : ∀ M I, (A0 = [] → ∀ b, ¬ M b) → Hp ⟨w, M, I⟩ A0 G0 w → Ctr P g args w M I V φ A G) [hp : Pick L A0 S'] [hs : SubF F G0] [hr : ∀ a, AppL (A a) S' (R a)] [hn : ∀ a, AppL (G a) F (N a)] : Ctr P g args w M I V φ R N := by
  obtain ⟨M', I', h0, hm, hk⟩ := (H.perm hp.perm).call (A := A0) (S := S') (G := G0) fun I ha => hs.all ha
  refine Exe.mono (h M' I' hm h0) ?_
  rintro v w' ⟨a, rfl, hφ, hh⟩
  refine ⟨a, rfl, hφ, ?_⟩
  rw [(hr a).eq, (hn a).eq]
  exact hk _ _ _ hh
end
end Go.Wk
set_option linter.unusedVariables false
namespace Go.Proofs.YtfemfomgmopibaaGreatDoor
open Go Go.Proofs Go.Wk
def ledO (l : Nat) (d : Led) : Asn := packA (fun i : Nat × Nat × SV => i.2.2.n = d.lns.length) fun i => [blk l [.slice i.2.2.A i.2.2.n i.2.2.c, .map (some i.1), .map (some i.2.1)] 85, row 69 6 (.slice i.2.2.A i.2.2.n i.2.2.c) i.2.2.n (lnsC d.lns), mapO i.1 keyV iV d.live, mapO i.2.1 prV iV d.sums]
def refO (p : Nat) (xs : List Ln) : Asn := packA (fun s : SV => s.n = xs.length) fun s => [blk p [.slice s.A s.n s.c] 33, row 66 6 (.slice s.A s.n s.c) s.n (lnsC xs)]
section
variable {B : Base} {S L : List Asn} {F : List Fact} {w : World} {l p : Nat} {d : Led} {xs : List Ln}
theorem ledOpen (H : Hp B L F w) [k : Take L (ledO l d) S] : ∃ (m1 m2 : Nat) (s : SV), s.n = d.lns.length ∧ Hp B (blk l [.slice s.A s.n s.c, .map (some m1), .map (some m2)] 85 :: row 69 6 (.slice s.A s.n s.c) s.n (lnsC d.lns) :: mapO m1 keyV iV d.live :: mapO m2 prV iV d.sums :: S) F w := by
  obtain ⟨⟨m1, m2, s⟩, hs, h⟩ := Hp.open_ (L := L) (S := S) (p := fun i : Nat × Nat × SV => i.2.2.n = d.lns.length) H (k := k)
  exact ⟨m1, m2, s, hs, h⟩
theorem ledClose {m1 m2 : Nat} {s : SV} (H : Hp B L F w) (hs : s.n = d.lns.length) [k : Pick L [blk l [.slice s.A s.n s.c, .map (some m1), .map (some m2)] 85, row 69 6 (.slice s.A s.n s.c) s.n (lnsC d.lns), mapO m1 keyV iV d.live, mapO m2 prV iV d.sums] S] : Hp B (ledO l d :: S) F w :=
  Hp.close (p := fun i : Nat × Nat × SV => i.2.2.n = d.lns.length) (m1, m2, s) hs H (k := k)
theorem refOpen (H : Hp B L F w) [k : Take L (refO p xs) S] : ∃ s : SV, s.n = xs.length ∧ Hp B (blk p [.slice s.A s.n s.c] 33 :: row 66 6 (.slice s.A s.n s.c) s.n (lnsC xs) :: S) F w := by
  obtain ⟨s, hs, h⟩ := Hp.open_ (L := L) (S := S) (p := fun s : SV => s.n = xs.length) H (k := k)
  exact ⟨s, hs, h⟩
theorem refClose {s : SV} (H : Hp B L F w) (hs : s.n = xs.length) [k : Pick L [blk p [.slice s.A s.n s.c] 33, row 66 6 (.slice s.A s.n s.c) s.n (lnsC xs)] S] : Hp B (refO p xs :: S) F w :=
  Hp.close (p := fun s : SV => s.n = xs.length) s hs H (k := k)
end
/-- The same ledger, the program's and the document's. -/
structure Bo (d : Led) (xs : List Ln) : Prop where
  inv : Inv d
  sim : xs.map stp = d.lns.map stp
theorem newX (w : World) (M I : BS) (H : Hp ⟨w, M, I⟩ [] [] w) :
    Ctr Tryz.prog 8 [] w M I (fun l : Nat => .pointer (some ⟨l, 0, none⟩)) (fun _ => True) (fun l => [ledO l ⟨[], [], []⟩]) (fun _ => []) :=
  (new_ w M I H).imp fun ⟨l, m1, m2⟩ w' _ h => ⟨l, rfl, trivial, ledClose (l := l) (m1 := m1) (m2 := m2) (s := ⟨none, 0, 0⟩) (d := ⟨[], [], []⟩) (show Hp ⟨w, M, I⟩ [blk l [.slice none 0 0, .map (some m1), .map (some m2)] 85, row 69 6 (.slice none 0 0) 0 (lnsC []), mapO m1 keyV iV [], mapO m2 prV iV []] [] w' from h) rfl⟩
def postS (d : Led) (k : Key) (ls : List Leg) (e : ErrF) (d' : Led) : Prop :=
  if rightB k ls = false then e = .code 1 ∧ d' = d
  else if (lk k d.live).isSome = true then (∃ p, e = .fault p k.loan 10) ∧ d' = d
  else match nextGo d.sums k.loan ls [] with
    | none => (∃ p, e = .fault p k.loan 12) ∧ d' = d
    | some nx => e = .none ∧ d'.live = putL k (d.lns.length : Int) d.live ∧ (∃ sv, d'.lns = d.lns ++ [⟨k, sv, 0, ls⟩]) ∧ ∀ p, lk p d'.sums = (lk p nx).or (lk p d.sums)
theorem copyX (l : Nat) (d : Led) (hd : d.lns.length ≤ 100000) (w : World) (M I : BS) (H : Hp ⟨w, M, I⟩ [ledO l d] [] w) :
    Ctr Tryz.prog 10 [.pointer (some ⟨l, 0, none⟩)] w M I (fun a : Nat => .pointer (some ⟨a, 0, none⟩)) (fun _ => True) (fun a => [ledO a d, ledO l d]) (fun _ => []) := by
  obtain ⟨m1, m2, s, hs, H1⟩ := ledOpen (l := l) (d := d) H
  refine (copy_ l m1 m2 s d hd hs w M I H1).imp fun ⟨a, n1, n2, t⟩ w' hφ h => ?_
  have h1 := ledClose (l := l) (m1 := m1) (m2 := m2) (s := s) (d := d) h hs
  exact ⟨a, rfl, trivial, ledClose (l := a) (m1 := n1) (m2 := n2) (s := t) (d := d) h1 (by simp only at hφ; omega)⟩
theorem lenX (l : Nat) (d : Led) (w : World) (M I : BS) (H : Hp ⟨w, M, I⟩ [ledO l d] [] w) :
    Ctr Tryz.prog 18 [.pointer (some ⟨l, 0, none⟩)] w M I (fun _ : Unit => .int .i64 (d.lns.length : Int)) (fun _ => True) (fun _ => [ledO l d]) (fun _ => []) := by
  obtain ⟨m1, m2, s, hs, H1⟩ := ledOpen (l := l) (d := d) H
  refine (Ctr.frame H1 fun M I _ h => len__ l m1 m2 s _ M I h).imp fun _ w' _ h => ?_
  exact ⟨(), by simp only [hs], trivial, ledClose (l := l) (m1 := m1) (m2 := m2) (s := s) h hs⟩
structure DoX (d : Led) (a : Led × List Ln) : Prop where
  bo : Bo a.1 a.2
  more : ∃ ys, a.1.lns = d.lns ++ ys ∧ ys.length ≤ 1 ∧ ∀ y, y ∈ ys → y.k.loan < 5 ∨ ∃ x, x ∈ d.lns ∧ y.k = x.k
theorem doX (l p : Nat) (d : Led) (xs : List Ln) (hB : Bo d xs) (hd : d.lns.length ≤ 900) (dv : Int) (k : Key) (hk : keyIn k) (A : Option Addr) (n c : Nat) (ls : List Leg) (raw : Bool) (bn : Nat) (hbn : bn ≤ 255) (w : World) (M I : BS)
    (H : Hp ⟨w, M, I⟩ [ledO l d, refO p xs] [Sl legR (.slice A n c) ls, LnF d.lns, LnF xs, Glob 0 errTy] w) :
    Ctr Tryz.prog 9 [.pointer (some ⟨l, 0, none⟩), .pointer (some ⟨p, 0, none⟩), .agg #[.int .u8 dv, .int .u32 k.loan, .int .i32 k.day, .int .u8 k.kind, .int .u32 k.seq, .slice A n c, .bool raw, .int .u8 (bn : Int)]] w M I (fun _ : Led × List Ln => .bool true) (DoX d)
      (fun a => [ledO l a.1, refO p a.2]) (fun a => [LnF a.1.lns, LnF a.2]) := by
  obtain ⟨m1, m2, s, hs, H1⟩ := ledOpen (l := l) (d := d) H
  obtain ⟨rs, hr, H2⟩ := refOpen (p := p) (xs := xs) H1
  have H2 : Hp ⟨w, M, I⟩ [blk l [.slice s.A s.n s.c, .map (some m1), .map (some m2)] 85, row 69 6 (.slice s.A s.n s.c) s.n (lnsC d.lns), mapO m1 keyV iV d.live, mapO m2 prV iV d.sums, blk p [.slice rs.A rs.n rs.c] 33, row 66 6 (.slice rs.A rs.n rs.c) rs.n (lnsC xs)] [Sl legR (.slice A n c) ls, LnF d.lns, LnF xs, Glob 0 errTy] w := Hp.keep H2
  refine (do_ l m1 m2 s d p rs xs ⟨hB.inv, hs, hr, hB.sim⟩ hd dv k hk A n c ls raw bn hbn w M I H2).imp fun ⟨s', d', rs', xs'⟩ w' hφ h => ?_
  obtain ⟨⟨i1, i2, i3, i4⟩, hm⟩ := hφ
  have h1 := ledClose (l := l) (m1 := m1) (m2 := m2) (s := s') (d := d') h i2
  have h2 := refClose (p := p) (s := rs') (xs := xs') h1 i3
  exact ⟨(d', xs'), rfl, ⟨⟨i1, i4⟩, hm⟩, Hp.keep h2⟩
end Go.Proofs.YtfemfomgmopibaaGreatDoor
set_option linter.unusedVariables false
namespace Go.Proofs.YtfemfomgmopibaaGreatDoor
open Go Go.Proofs Go.Wk
theorem live_off {d : Led} (hI : Inv d) {k : Key} (h : ∀ x, x ∈ d.lns → x.k ≠ k) : lk k d.live = none := by
  have h1 := hI.live k
  split at h1
  · rename_i h0
    obtain ⟨x, hx, e, _⟩ := hI.at_ k h0
    exact absurd e (h x (List.mem_of_getElem? hx))
  · exact h1
/-- The sums behind a line: those of its accounts have its amounts more. -/
theorem sums_more {sums m nx : List (Pr × Int)} {loan : Int} {ls : List Leg} (hr : rise ls) (hn : nextGo sums loan ls [] = some nx) (hm : ∀ p, lk p m = (lk p nx).or (lk p sums)) (p : Pr) :
    getS m p = getS sums p + if p.loan = (if p.ctl = true then 0 else loan) then (amtOf p.acct ls).getD 0 else 0 := by
  obtain ⟨_, h2⟩ := nextGo_some hr hn
  have : getS m p = ((updP sums loan ls p).or (lk p sums)).getD 0 := by
    show (lk p m).getD 0 = _
    rw [hm p, h2 p]; simp [lk]
  rw [this]
  unfold updP
  by_cases e : p.loan = if p.ctl = true then 0 else loan
  · rw [if_pos e, if_pos e]
    cases amtOf p.acct ls with
    | none => show (lk p sums).getD 0 = (lk p sums).getD 0 + 0; omega
    | some v => rfl
  · rw [if_neg e, if_neg e]
    show (lk p sums).getD 0 = (lk p sums).getD 0 + 0; omega
section
variable {d d1 d2 d3 : Led} {k : Key} {ls : List Leg}
structure Nine (d : Led) (k : Key) (ls : List Leg) : Prop where
  inv : Inv d
  off : ∀ x, x ∈ d.lns → x.k.loan ≠ k.loan
  kin : keyIn k
  lin : ∀ g, g ∈ ls → legIn g
  right : rightB k ls = true
  turn : turnGo 0 ls = true
theorem Nine.post {e : ErrF} (hN : Nine d k ls) (h : postS d k ls e d1) : ((∃ p, e = .fault p k.loan 12) ∧ d1 = d) ∨
    (e = .none ∧ (nextGo d.sums k.loan ls []).isSome = true ∧ lk k d1.live = some (d.lns.length : Int) ∧ (∃ sv, d1.lns = d.lns ++ [⟨k, sv, 0, ls⟩]) ∧ ∀ p, getS d1.sums p = getS d.sums p + if p.loan = (if p.ctl = true then 0 else k.loan) then (amtOf p.acct ls).getD 0 else 0) := by
  unfold postS at h
  rw [if_neg (by rw [hN.right]; simp), live_off hN.inv (fun x hx e => hN.off x hx (by rw [e])), if_neg (by simp)] at h
  cases hn : nextGo d.sums k.loan ls [] with
  | none => rw [hn] at h; exact .inl h
  | some nx =>
    rw [hn] at h
    obtain ⟨h1, h2, h3, h4⟩ := h
    exact .inr ⟨h1, rfl, by rw [h2, lk_put_eq], h3, sums_more (rightB_rise hN.right) hn h4⟩
end
end Go.Proofs.YtfemfomgmopibaaGreatDoor
set_option linter.unusedVariables false
namespace Go.Proofs.YtfemfomgmopibaaGreatDoor
open Go Go.Proofs Go.Wk
structure Act where
  dv : Int
  k : Key
  ls : List Leg
  raw : Bool
  bn : Nat
@[reducible] def actR : Rp Act := ⟨8, Option Addr × Nat × Nat, fun x p => [.int .u8 x.dv, .int .u32 x.k.loan, .int .i32 x.k.day, .int .u8 x.k.kind, .int .u32 x.k.seq, .slice p.1 p.2.1 p.2.2, .bool x.raw, .int .u8 (x.bn : Int)], fun x _ => keyIn x.k ∧ x.bn ≤ 255, fun x p => [Sl legR (.slice p.1 p.2.1 p.2.2) x.ls], fun _ _ => rfl⟩
@[reducible] def actZ : List Value := [.int .u8 0, .int .u32 0, .int .i32 0, .int .u8 0, .int .u32 0, .slice none 0 0, .bool false, .int .u8 0]
/-- A script, so far. -/
structure St (d : Led) (xs : List Ln) (i N : Nat) : Prop where
  bo : Bo d xs
  len : d.lns.length ≤ i
  few : d.lns.length ≤ N
  low : ∀ x, x ∈ d.lns → x.k.loan < 5
theorem St.zero (N : Nat) : St ⟨[], [], []⟩ [] 0 N := ⟨⟨inv_nil, rfl⟩, Nat.le_refl _, Nat.zero_le _, fun x h => by cases h⟩
theorem St.step {d : Led} {xs : List Ln} {i N : Nat} (h : St d xs i N) (hi : i < N) {a : Led × List Ln} (ha : DoX d a) : St a.1 a.2 (i + 1) N := by
  obtain ⟨hb, ys, e, h1, h2⟩ := ha
  refine ⟨hb, ?_, ?_, fun x hx => ?_⟩
  · rw [e, List.length_append]; have := h.len; omega
  · rw [e, List.length_append]; have := h.len; omega
  · rw [e] at hx
    rcases List.mem_append.1 hx with hx | hx
    · exact h.low x hx
    · rcases h2 x hx with h2 | ⟨y, hy, e2⟩
      · exact h2
      · rw [e2]; exact h.low y hy
theorem St.skip {d : Led} {xs : List Ln} {i N : Nat} (h : St d xs i N) : St d xs (i + 1) N := ⟨h.bo, by have := h.len; omega, h.few, h.low⟩
theorem refNew {B : Base} {S : List Asn} {F : List Fact} {w : World} {p : Nat} (H : Hp B (blk p [.slice none 0 0] 33 :: S) F w) : Hp B (refO p [] :: S) F w :=
  refClose (p := p) (xs := []) (s := ⟨none, 0, 0⟩) (show Hp B (row 66 6 (.slice none 0 0) 0 (lnsC []) :: blk p [.slice none 0 0] 33 :: S) F w from Hp.nil H 66 6) rfl
end Go.Proofs.YtfemfomgmopibaaGreatDoor
namespace Go.Wk
open Go.ChangeShapes
section
variable {H : Type} {enc : TypeId × Value → H} {P : Program} {w : World} {base : Nat} {spare : Nat → Bool} {held : Bool}
theorem trod_struct5 {t : TypeId} {f0 f1 f2 f3 f4 : Field} {fuel : Nat} {cs : List Value} {x : DataW H × List MemPlace} (ht : P.underlying t = some (.struct #[f0, f1, f2, f3, f4])) (h : DataW.trod enc P w base spare held fuel t cs = some x) :
    ∃ y0 y1 y2 y3 y4 n, cs.length = P.cellsOf t ∧ DataW.trod enc P w base spare held n f0.type ((cs.drop f0.offset).take (P.cellsOf f0.type)) = some y0 ∧ DataW.trod enc P w base spare held n f1.type ((cs.drop f1.offset).take (P.cellsOf f1.type)) = some y1 ∧
      DataW.trod enc P w base spare held n f2.type ((cs.drop f2.offset).take (P.cellsOf f2.type)) = some y2 ∧ DataW.trod enc P w base spare held n f3.type ((cs.drop f3.offset).take (P.cellsOf f3.type)) = some y3 ∧ DataW.trod enc P w base spare held n f4.type ((cs.drop f4.offset).take (P.cellsOf f4.type)) = some y4 := by
  obtain ⟨xs, n, _, rfl, hl, hlen, hf⟩ := DataW.trod_struct ht h
  match xs, hlen with
  | [y0, y1, y2, y3, y4], _ => exact ⟨y0, y1, y2, y3, y4, n, hl, by simpa using hf 0 f0 rfl, by simpa using hf 1 f1 rfl, by simpa using hf 2 f2 rfl, by simpa using hf 3 f3 rfl, by simpa using hf 4 f4 rfl⟩
end
end Go.Wk
namespace Go.Proofs.YtfemfomgmopibaaGreatDoor
open Go.ChangeShapes Go.WideShapes Go.ChangeAt Go.RowKit Go.Joins Go.Wk
theorem ownK : ownKnob Tryz.prog.godebug = none := by kernel_rfl
theorem kids : Kids Tryz.prog (· < Tryz.prog.types.size) := kids_rows (by kernel_rfl) (by kernel_rfl)
theorem full : ∀ t e, t < Tryz.prog.types.size → Tryz.prog.underlying t = some (.slice e) → 0 < Tryz.prog.cellsOf e := slices_full_of _ (by kernel_rfl)
theorem errVar : Tryz.prog.globalNamed "errors.errorType" = some 0 := by kernel_rfl
theorem rtypeNo : (Tryz.prog.cutTypes.find? (·.1 == "internal/reflectlite.rtype")).map (·.2) = some 176 := by kernel_rfl
theorem errRow : ((List.range 247).filter fun t => Tryz.prog.rowNamed t [101, 114, 114, 111, 114]) = [45] := by kernel_rfl
theorem typesNo : Tryz.prog.types.size = 247 := by kernel_rfl
@[reducible] noncomputable def laidL {H : Type} : List (String × DataW H) := [("errors.errorType", Rows.laid_errors_errorType)]
/-- What the condition gives a walk: the variable's one cell. -/
theorem handle_of_laid {W : World} (h : laidMetH Tryz.prog laidL W) : W.cell? ⟨0, 0, none⟩ = some errTy := by
  have h' : laidMet Tryz.prog [] W ∧ handlesMet Tryz.prog laidL W := h
  obtain ⟨name, u, ty, e1, e2, e3, e4, e5⟩ := h'.2 _ (List.mem_singleton.2 rfl)
  have en : name = [101, 114, 114, 111, 114] := (Option.some.inj e1).symm
  subst en
  obtain rfl := Option.some.inj (rtypeNo.symm.trans e2)
  have hm : ty ∈ (List.range 247).filter fun t => Tryz.prog.rowNamed t [101, 114, 114, 111, 114] := List.mem_filter.2 ⟨List.mem_range.2 (by rw [← typesNo]; exact e3), e4⟩
  rw [errRow] at hm
  obtain rfl := List.mem_singleton.1 hm
  have hh : typeHandle Tryz.prog 45 = .pointer (some ⟨1, 45, none⟩) := by kernel_rfl
  rw [hh] at e5
  simpa using World.var?_cell errVar e5 0
/-- A world that meets the condition. -/
noncomputable def laidWorld (os : Os) : World :=
  let w0 := World.holding Tryz.prog os ⟨#[], #[], []⟩
  { w0 with heap := w0.heap.modify 0 fun
      | .cells _ t frozen => .cells #[errTy] t frozen
      | o => o }
theorem laidWorld_met (os : Os) (args : Array Value) : laidMetH Tryz.prog laidL ((laidWorld os).forCall (fun _ _ => 0) ⟨#[], args, []⟩).memory :=
  laidMetH_of_parts (laidMet_nil _ _) (by kernel_rfl)
theorem glob_of {W : World} (h : W.cell? ⟨0, 0, none⟩ = some errTy) : (Glob 0 errTy).holds W (oldB W) := ⟨(cell_lt h).1, h⟩
end Go.Proofs.YtfemfomgmopibaaGreatDoor
