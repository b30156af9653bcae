/- The document's example of a ledger: the walk. -/
import Derived.Test.YtfemfomgmopibaaGreatDoorB13
namespace Go.Proofs.YtfemfomgmopibaaGreatDoor
open Go Go.Proofs Go.Wk
theorem rev_pre {d : Led} (hI : Inv d) {k : Key} : ∀ i, lk k d.live = some i → 0 ≤ i ∧ ∃ x, d.lns[i.toNat]? = some x ∧ keyIn x.k ∧ x.ls.length ≤ 1000 := fun i hi => by
  have h := hI.live k
  rw [hi] at h
  split at h
  · rename_i h0
    obtain rfl := Option.some.inj h
    obtain ⟨x, h1, _, _⟩ := hI.at_ k h0
    obtain ⟨_, h3, h4, _⟩ := hI.ok x (List.mem_of_getElem? h1)
    have := (right_day h4).2.1
    exact ⟨h0, x, h1, h3, by omega⟩
  · cases h
theorem nextGo_congr {m m' : List (Pr × Int)} (h : ∀ p, lk p m = lk p m') {loan : Int} : ∀ {ls : List Leg} {nx : List (Pr × Int)}, nextGo m loan ls nx = nextGo m' loan ls nx
  | [], _ => rfl
  | g :: r, nx => by
    have e : ∀ p, getS m p = getS m' p := fun p => by unfold getS; rw [h p]
    unfold nextGo
    rw [e, e, nextGo_congr h]
theorem lk_append {κ ν : Type} [DecidableEq κ] {p : κ} : ∀ {a b : List (κ × ν)}, lk p (a ++ b) = (lk p a).or (lk p b)
  | [], _ => rfl
  | q :: a, b => by
    simp only [List.cons_append, lk]
    split
    · rfl
    · exact lk_append
def k0 : Key := ⟨1, 0, 1, 0⟩
def l0 : List Leg := [⟨1, -5⟩, ⟨2, 5⟩]
def nx1 : List (Pr × Int) := [(⟨1, 1, false⟩, -5), (⟨0, 1, true⟩, -5), (⟨1, 2, false⟩, 5), (⟨0, 2, true⟩, 5)]
def nx2 : List (Pr × Int) := [(⟨1, 1, false⟩, 0), (⟨0, 1, true⟩, 0), (⟨1, 2, false⟩, 0), (⟨0, 2, true⟩, 0)]
theorem key0 : keyIn k0 := ⟨⟨by decide, by decide⟩, ⟨by decide, by decide⟩, ⟨by decide, by decide⟩, ⟨by decide, by decide⟩⟩
theorem leg0 : ∀ g, g ∈ l0 → legIn g := fun g hg => by
  simp only [l0, List.mem_cons, List.not_mem_nil, or_false] at hg
  rcases hg with rfl | rfl <;> exact ⟨⟨by decide, by decide⟩, ⟨by decide, by decide⟩⟩
theorem right0 : rightB k0 l0 = true := by rw [rights k0 key0.2.2.1 l0 (fun x hx => (leg0 x hx).1)]; decide
theorem aw1 {s : SV} {a : AR} (h : postOk s ⟨[], [], []⟩ k0 l0 a) : a.e = .none ∧ a.s.n = s.n + 1 ∧ a.d.live = [(k0, 0)] ∧ (∃ sv, a.d.lns = [⟨k0, sv, 0, l0⟩]) ∧ ∀ p, lk p a.d.sums = lk p nx1 := by
  have hn : nextGo [] 1 l0 [] = some nx1 := by decide
  have e1 : rightB k0 l0 = true := right0
  have e2 : lk k0 ([] : List (Key × Int)) = none := rfl
  unfold postOk at h
  rw [if_neg (by rw [e1]; simp), if_neg (by simp [e2])] at h
  simp only [show k0.loan = 1 from rfl, hn] at h
  obtain ⟨h1, h2, h3, ⟨sv, h4⟩, h5⟩ := h
  refine ⟨h1, h2, h3, ⟨sv, h4⟩, fun p => ?_⟩
  rw [h5 p]; simp [lk]
theorem aw2 {s : SV} {d : Led} {sv : SV} (hv : d.live = [(k0, 0)]) (hl : d.lns = [⟨k0, sv, 0, l0⟩]) (hs : ∀ p, lk p d.sums = lk p nx1) {a : AR} (h : revOk s d k0 a) :
    a.e = .none ∧ a.s.n = s.n + 1 ∧ a.d.live = [] ∧ (∃ sv', a.d.lns = [⟨k0, sv, 0, l0⟩, ⟨k0, sv', 1, l0.map negL⟩]) ∧ ∀ p, lk p a.d.sums = lk p (nx2 ++ nx1) := by
  have e1 : rightB k0 l0 = true := right0
  have e2 : turnGo 0 l0 = true := by decide
  have hn : nextGo d.sums 1 (l0.map negL) [] = some nx2 := by rw [nextGo_congr hs]; decide
  unfold revOk at h
  rw [hv] at h
  have e3 : lk k0 [(k0, (0 : Int))] = some 0 := rfl
  rw [e3, hl] at h
  simp only at h
  obtain ⟨x, hx, h⟩ := h
  have hx : x = ⟨k0, sv, 0, l0⟩ := by simpa using hx.symm
  subst hx
  simp only [e1, e2, show k0.loan = 1 from rfl, hn] at h
  obtain ⟨h1, h2, h3, ⟨sv', h4⟩, h5⟩ := h
  refine ⟨h1, h2, h3, ⟨sv', h4⟩, fun p => ?_⟩
  rw [h5 p, hs p, lk_append]
theorem aw3 {s : SV} {d : Led} {u v : Ln} (hv : d.live = []) (hl : d.lns = [u, v]) (hs : ∀ p, lk p d.sums = lk p (nx2 ++ nx1)) {a : AR} (h : postOk s d k0 l0 a) :
    a.e = .none ∧ a.s.n = s.n + 1 ∧ lk k0 a.d.live = some ((2 : Nat) : Int) ∧ (∃ sv, a.d.lns[2]? = some ⟨k0, sv, 0, l0⟩) ∧ getS a.d.sums ⟨1, 2, false⟩ = 5 ∧ getS a.d.sums ⟨0, 1, true⟩ = -5 := by
  have hn : nextGo d.sums 1 l0 [] = some nx1 := by rw [nextGo_congr hs]; decide
  have e1 : rightB k0 l0 = true := right0
  have e2 : lk k0 ([] : List (Key × Int)) = none := rfl
  unfold postOk at h
  rw [if_neg (by rw [e1]; simp), hv, if_neg (by simp [e2])] at h
  simp only [show k0.loan = 1 from rfl, hn] at h
  obtain ⟨h1, h2, h3, ⟨sv, h4⟩, h5⟩ := h
  refine ⟨h1, h2, ?_, ⟨sv, ?_⟩, ?_, ?_⟩
  · rw [h3, hl]; rfl
  · rw [h4, hl]; rfl
  · unfold getS; rw [h5]; rfl
  · unfold getS; rw [h5]; rfl
theorem LnF_nil {w : World} {B : Base} {S : List Asn} {F : List Fact} (H : Hp B S F w) : Hp B S (LnF [] :: F) w := H.facts fun I ha f hf => by
  rcases List.mem_cons.1 hf with rfl | hf
  · intro x hx; cases hx
  · exact ha f hf
set_option maxRecDepth 20000 in
set_option maxHeartbeats 2000000 in
theorem awake0 (L : List Leg) (hL : L = l0) (w : World) (M I : BS) (hM : ∀ b, ¬ M b) (H : Hp ⟨w, M, I⟩ [] [] w) :
    Ctr Tryz.prog 7 [] w M I (fun _ : Unit => .bool true) (fun _ => True) (fun _ => []) (fun _ => []) := by
  refine Exe.of_ev tok Tryz.call7 Tryz.func7 rfl rfl rfl ?_
  refine slice_as tok H [.int .u8 1, .int .i64 (-5), .int .u8 2, .int .i64 5] rfl rfl rfl rfl rfl rfl fun g w1 H1 => ?_
  have H1 : Hp ⟨w, M, I⟩ [] [Sl legR (.slice (some ⟨g, 0, none⟩) 2 2) L] w1 := by
    subst hL
    exact frzLegs H1 (n := g) l0 hM rfl (by decide) (fun x hx => leg0 x hx)
  have hl1 : L.length = 2 := by rw [hL]; rfl
  have leg1 : ∀ g, g ∈ L → legIn g := by rw [hL]; exact leg0
  refine alloc_as tok H1 zeroC rfl rfl rfl fun e w2 H2 => ?_
  refine store_as tok H2 (entC k0 (some ⟨g, 0, none⟩) 2 2) rfl rfl rfl rfl rfl fun w3 H3 => ?_
  refine call_rule H3 (fun M I _ h => new_ _ M I h) fun p w4 _ H4 => ?_
  obtain ⟨l, m1, m2⟩ := p
  have H4 : Hp ⟨w, M, I⟩ [blk l [.slice none 0 0, .map (some m1), .map (some m2)] 85, row 69 6 (.slice none 0 0) 0 (lnsC []), mapO m1 keyV iV [], mapO m2 prV iV [], blk e (entC k0 (some ⟨g, 0, none⟩) 2 2) 39] [LnF [], Sl legR (.slice (some ⟨g, 0, none⟩) 2 2) L] w4 := LnF_nil H4
  refine load_rule tok H4 (v := .agg #[.int .u32 k0.loan, .int .i32 k0.day, .int .u8 k0.kind, .int .u32 k0.seq, .slice (some ⟨g, 0, none⟩) 2 2]) rfl ?_
  refine call_rule H4 (fun M I _ h => post_ l m1 m2 ⟨none, 0, 0⟩ ⟨[], [], []⟩ (by decide) rfl inv_nil.in_ k0 key0 (some ⟨g, 0, none⟩) 2 2 L (by omega) _ M I h) fun a => ?_
  rcases a with ⟨er, s1, d1⟩
  intro w5 ha H5
  obtain ⟨haf, hs1⟩ := post_after inv_nil rfl key0 leg1 ha
  obtain ⟨i1, y1, z1, z2, z3⟩ := haf
  obtain ⟨rfl, q2, q3, ⟨sv1, q4⟩, q5⟩ := aw1 (hL ▸ ha)
  simp only at q2 q3 q4 q5 hs1 i1
  have H5 : Hp ⟨w, M, I⟩ [blk l [.slice s1.A s1.n s1.c, .map (some m1), .map (some m2)] 85, row 69 6 (.slice s1.A s1.n s1.c) s1.n (lnsC d1.lns), mapO m1 keyV iV d1.live, mapO m2 prV iV d1.sums, blk e (entC k0 (some ⟨g, 0, none⟩) 2 2) 39] [LnF d1.lns, Sl legR (.slice (some ⟨g, 0, none⟩) 2 2) L] w5 := Hp.keep (show Hp ⟨w, M, I⟩ [empA, blk l [.slice s1.A s1.n s1.c, .map (some m1), .map (some m2)] 85, row 69 6 (.slice s1.A s1.n s1.c) s1.n (lnsC d1.lns), mapO m1 keyV iV d1.live, mapO m2 prV iV d1.sums, blk e (entC k0 (some ⟨g, 0, none⟩) 2 2) 39] [LnF d1.lns, LnF [], Sl legR (.slice (some ⟨g, 0, none⟩) 2 2) L] w5 from H5)
  have n1 : d1.lns.length = 1 := by rw [q4]; rfl
  refine load_rule tok H5 (v := keyV k0) rfl ?_
  refine call_rule H5 (fun M I _ h => reverse_ l m1 m2 s1 d1 (by omega) hs1 i1.in_ k0 key0 (rev_pre i1) _ M I h) fun a => ?_
  rcases a with ⟨er, s2, d2⟩
  intro w6 hb H6
  obtain ⟨haf, hs2⟩ := rev_after i1 hs1 hb
  obtain ⟨i2, y2, z1, z2, z3⟩ := haf
  obtain ⟨rfl, r2, r3, ⟨sv2, r4⟩, r5⟩ := aw2 q3 q4 q5 hb
  simp only at r2 r3 r4 r5 hs2 i2
  have H6 : Hp ⟨w, M, I⟩ [blk l [.slice s2.A s2.n s2.c, .map (some m1), .map (some m2)] 85, row 69 6 (.slice s2.A s2.n s2.c) s2.n (lnsC d2.lns), mapO m1 keyV iV d2.live, mapO m2 prV iV d2.sums, blk e (entC k0 (some ⟨g, 0, none⟩) 2 2) 39] [LnF d2.lns, Sl legR (.slice (some ⟨g, 0, none⟩) 2 2) L] w6 := Hp.keep (show Hp ⟨w, M, I⟩ [empA, blk l [.slice s2.A s2.n s2.c, .map (some m1), .map (some m2)] 85, row 69 6 (.slice s2.A s2.n s2.c) s2.n (lnsC d2.lns), mapO m1 keyV iV d2.live, mapO m2 prV iV d2.sums, blk e (entC k0 (some ⟨g, 0, none⟩) 2 2) 39] [LnF d2.lns, LnF d1.lns, Sl legR (.slice (some ⟨g, 0, none⟩) 2 2) L] w6 from H6)
  have n2 : d2.lns.length = 2 := by rw [r4]; rfl
  refine load_rule tok H6 (v := .agg #[.int .u32 k0.loan, .int .i32 k0.day, .int .u8 k0.kind, .int .u32 k0.seq, .slice (some ⟨g, 0, none⟩) 2 2]) rfl ?_
  refine call_rule H6 (fun M I _ h => post_ l m1 m2 s2 d2 (by omega) hs2 i2.in_ k0 key0 (some ⟨g, 0, none⟩) 2 2 L (by omega) _ M I h) fun a => ?_
  rcases a with ⟨er, s3, d3⟩
  intro w7 hc H7
  obtain ⟨haf, hs3⟩ := post_after i2 hs2 key0 leg1 hc
  obtain ⟨i3, y3, z1, z2, z3⟩ := haf
  obtain ⟨rfl, t2, t3, ⟨sv3, t4⟩, t5, t6⟩ := aw3 r3 r4 r5 (hL ▸ hc)
  simp only at t2 t3 t4 t5 t6 hs3 i3
  have H7 : Hp ⟨w, M, I⟩ [blk l [.slice s3.A s3.n s3.c, .map (some m1), .map (some m2)] 85, row 69 6 (.slice s3.A s3.n s3.c) s3.n (lnsC d3.lns), mapO m1 keyV iV d3.live, mapO m2 prV iV d3.sums, blk e (entC k0 (some ⟨g, 0, none⟩) 2 2) 39] [LnF d3.lns, Sl legR (.slice (some ⟨g, 0, none⟩) 2 2) L] w7 := Hp.keep (show Hp ⟨w, M, I⟩ [empA, blk l [.slice s3.A s3.n s3.c, .map (some m1), .map (some m2)] 85, row 69 6 (.slice s3.A s3.n s3.c) s3.n (lnsC d3.lns), mapO m1 keyV iV d3.live, mapO m2 prV iV d3.sums, blk e (entC k0 (some ⟨g, 0, none⟩) 2 2) 39] [LnF d3.lns, LnF d2.lns, Sl legR (.slice (some ⟨g, 0, none⟩) 2 2) L] w7 from H7)
  have t4 : d3.lns[2]? = some ⟨k0, sv3, 0, L⟩ := by rw [hL]; exact t4
  have n3 : s3.n = 3 := by rw [t2, hs2, n2]
  have n3' : d3.lns.length = 3 := by omega
  refine call_rule H7 (fun M I _ h => len__ l m1 m2 s3 _ M I h) fun _ w8 _ H8 => ?_
  refine br (fun q => ?_) (fun _ => ?_)
  · exfalso
    have q : ((s3.n : Int) != 3) = true := q
    rw [n3] at q
    exact absurd q (by decide)
  refine load_rule tok H8 (v := keyV k0) rfl ?_
  refine call_rule H8 (fun M I _ h => live_ l m1 m2 s3 d3 (by omega) hs3 k0 2 _ t3 t4 (by show L.length ≤ 1000; omega) _ M I h) fun v w9 _ H9 => ?_
  refine alloc_as tok H9 zeroC rfl rfl rfl fun x w10 H10 => ?_
  refine store_as tok H10 (entC k0 v.A v.n v.c) rfl rfl rfl rfl rfl fun w11 H11 => ?_
  have H11 : Hp ⟨w, M, I⟩ [blk x (entC k0 v.A v.n v.c) 39, blk l [.slice s3.A s3.n s3.c, .map (some m1), .map (some m2)] 85, row 69 6 (.slice s3.A s3.n s3.c) s3.n (lnsC d3.lns), mapO m1 keyV iV d3.live, mapO m2 prV iV d3.sums, blk e (entC k0 (some ⟨g, 0, none⟩) 2 2) 39] [Sl legR (.slice v.A v.n v.c) L, LnF d3.lns, Sl legR (.slice (some ⟨g, 0, none⟩) 2 2) L] w11 := Hp.keep H11
  have hv1 := (H11.sll (A := v.A) (n := v.n) (c := v.c)).1
  refine load_rule tok H11 (v := .agg #[.int .u32 k0.loan, .int .i32 k0.day, .int .u8 k0.kind, .int .u32 k0.seq, .slice v.A v.n v.c]) rfl ?_
  refine load_rule tok H11 (v := .agg #[.int .u32 k0.loan, .int .i32 k0.day, .int .u8 k0.kind, .int .u32 k0.seq, .slice (some ⟨g, 0, none⟩) 2 2]) rfl ?_
  have es : sameB k0 k0 L L = true := by rw [hL]; decide
  refine call_rule H11 (fun M I _ h => es ▸ same_ k0 k0 v.A (some ⟨g, 0, none⟩) v.n v.c 2 2 L L _ M I h ⟨hv1, by omega⟩ hl1.symm) fun _ w12 _ H12 => ?_
  refine call_rule H12 (fun M I _ h => balance l m1 m2 s3 d3.sums 1 2 _ M I h) fun _ w13 _ H13 => ?_
  refine br (fun _ => ?_) (fun q => ?_)
  · refine call_rule H13 (fun M I _ h => control l m1 m2 s3 d3.sums 1 _ M I h) fun _ w14 _ H14 => ?_
    refine Exists.intro () (And.intro (congrArg Value.bool ?_) (And.intro trivial (Hp.keep H14)))
    show (getS d3.sums ⟨0, 1, true⟩ == -5) = true
    rw [t6]; decide
  · exfalso
    have q : (getS d3.sums ⟨1, 2, false⟩ == 5) = false := q
    rw [t5] at q
    exact absurd q (by decide)
theorem awake_ (w : World) (M I : BS) (hM : ∀ b, ¬ M b) (H : Hp ⟨w, M, I⟩ [] [] w) :
    Ctr Tryz.prog 7 [] w M I (fun _ : Unit => .bool true) (fun _ => True) (fun _ => []) (fun _ => []) := awake0 l0 rfl w M I hM H
end Go.Proofs.YtfemfomgmopibaaGreatDoor
