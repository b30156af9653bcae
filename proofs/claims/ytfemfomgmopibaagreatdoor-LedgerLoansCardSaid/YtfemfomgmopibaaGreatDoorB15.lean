/- An act on a ledger and on the document's: they answer alike: the walk. -/
import Derived.Test.YtfemfomgmopibaaGreatDoorB14
namespace Go.Proofs.YtfemfomgmopibaaGreatDoor
open Go Go.Proofs Go.Wk
structure DR where
  s : SV
  d : Led
  rs : SV
  xs : List Ln
@[reducible] def kM (k : Key) : Key := ⟨k.loan.tmod 5, k.day, k.kind, k.seq⟩
theorem kM_in {k : Key} (h : keyIn k) : keyIn (kM k) ∧ (kM k).loan < 5 := by
  obtain ⟨⟨h1, h2⟩, h3⟩ := h
  simp only [kLo, kHi] at h1 h2
  have e : k.loan.tmod 5 = k.loan % 5 := Int.tmod_eq_emod_of_nonneg h1
  refine ⟨⟨⟨?_, ?_⟩, h3⟩, ?_⟩
  · show (0 : Int) ≤ k.loan.tmod 5; omega
  · show k.loan.tmod 5 ≤ (4294967295 : Int); omega
  · show k.loan.tmod 5 < 5; omega
@[reducible] def actC (dv : Int) (k : Key) (A : Option Addr) (n c : Nat) (raw : Bool) (bn : Nat) : List Value := [.int .u8 dv, .int .u32 k.loan, .int .i32 k.day, .int .u8 k.kind, .int .u32 k.seq, .slice A n c, .bool raw, .int .u8 (bn : Int)]
/-- The same ledger, the program's and the document's. -/
structure Both (s : SV) (d : Led) (rs : SV) (xs : List Ln) : Prop where
  inv : Inv d
  sn : s.n = d.lns.length
  rn : rs.n = xs.length
  sim : xs.map stp = d.lns.map stp
structure DoOk (d : Led) (a : DR) : Prop where
  both : Both a.s a.d a.rs a.xs
  more : ∃ ys, a.d.lns = d.lns ++ ys ∧ ys.length ≤ 1 ∧ ∀ y, y ∈ ys → y.k.loan < 5 ∨ ∃ x, x ∈ d.lns ∧ y.k = x.k
theorem sim_len {d : Led} {xs : List Ln} (h : xs.map stp = d.lns.map stp) : xs.length = d.lns.length := by
  have := congrArg List.length h
  simpa using this
theorem sim_ok {d : Led} (hI : Inv d) {xs : List Ln} (h : xs.map stp = d.lns.map stp) (hl : d.lns.length ≤ 900) : LnsOk xs := by
  refine ⟨by have := sim_len h; omega, fun x hx => ?_⟩
  have hm : stp x ∈ d.lns.map stp := by rw [← h]; exact List.mem_map_of_mem hx
  obtain ⟨y, hy, e⟩ := List.mem_map.1 hm
  simp only [stp, Prod.mk.injEq] at e
  obtain ⟨e1, e2, e3⟩ := e
  obtain ⟨⟨h1, h2⟩, h3, h4, _⟩ := hI.ok y hy
  have := (right_day h4).2.1
  rw [← e1, ← e2, ← e3]
  exact ⟨⟨h1, by omega⟩, h3, by omega⟩
theorem sim_ok1 {d : Led} (hI : Inv d) {xs : List Ln} (h : xs.map stp = d.lns.map stp) (hl : d.lns.length ≤ 900) {k : Key} (hk : keyIn k) {sv : SV} {ls : List Leg} (hls : ls.length ≤ 1000) : LnsOk (xs ++ [Ln.mk k sv 0 ls]) := by
  obtain ⟨h1, h2⟩ := sim_ok hI h hl
  have := sim_len h
  refine ⟨by rw [List.length_append]; simp; omega, fun x hx => ?_⟩
  rcases List.mem_append.1 hx with hx | hx
  · exact h2 x hx
  · rw [List.mem_singleton] at hx
    subst hx
    exact ⟨⟨by simp, by simp⟩, hk, hls⟩
theorem sim_live {d : Led} (hI : Inv d) {xs : List Ln} (h : xs.map stp = d.lns.map stp) (k : Key) : liveGo k xs 0 (-1) < xs.length := by
  rw [liveGo_sim h, sim_len h]
  by_cases h0 : 0 ≤ liveGo k d.lns 0 (-1)
  · obtain ⟨x, h1, _⟩ := hI.at_ k h0
    have := (List.getElem?_eq_some_iff.1 h1).1
    omega
  · omega
theorem made_len {ls out : List Leg} (h : made ls out) : out.length ≤ ls.length := by
  unfold made at h
  split at h
  · subst h; simp
  · rename_i m hm
    have h1 := sumGo_len hm
    have h2 := h.1.length_eq
    rw [List.length_map] at h2
    simp only [List.length_nil] at h1
    omega
theorem do_post {s : SV} {d : Led} {rs : SV} {xs : List Ln} (hB : Both s d rs xs) {k : Key} (hk : keyIn (kM k)) (h5 : (kM k).loan < 5) {ls : List Leg} (hl : ∀ g, g ∈ ls → legIn g) {a : AR} (ha : postOk s d (kM k) ls a) {sv : SV} {b : RR} (hb : postROk rs xs (Ln.mk (kM k) sv 0 ls) b) :
    (codeOfF a.e == b.c) = true ∧ DoOk d ⟨a.s, a.d, b.s, b.xs⟩ := by
  obtain ⟨⟨i1, ys, y1, y2, y3⟩, hs⟩ := post_after hB.inv hB.sn hk hl ha
  obtain ⟨e1, e2, e3⟩ := post_sim hB.inv hk hl ha hB.rn hB.sim hb
  refine ⟨by rw [e1]; simp, ⟨⟨i1, hs, e2, e3⟩, ys, y1, y2, fun y hy => .inl (by rw [y3 y hy]; exact h5)⟩⟩
theorem do_rev {s : SV} {d : Led} {rs : SV} {xs : List Ln} (hB : Both s d rs xs) {k : Key} (hlo : k.loan < 5 ∨ ∃ x, x ∈ d.lns ∧ k = x.k) {a : AR} (ha : revOk s d k a) {b : RR} (hb : revROk rs xs k b) :
    (codeOfF a.e == b.c) = true ∧ DoOk d ⟨a.s, a.d, b.s, b.xs⟩ := by
  obtain ⟨⟨i1, ys, y1, y2, y3⟩, hs⟩ := rev_after hB.inv hB.sn ha
  obtain ⟨e1, e2, e3⟩ := rev_sim hB.inv ha hB.rn hB.sim hb
  refine ⟨by rw [e1]; simp, ⟨⟨i1, hs, e2, e3⟩, ys, y1, y2, fun y hy => ?_⟩⟩
  rw [y3 y hy]; exact hlo
set_option maxRecDepth 20000 in
set_option maxHeartbeats 4000000 in
theorem do_ (l m1 m2 : Nat) (s : SV) (d : Led) (p : Nat) (rs : SV) (xs : List Ln) (hB : Both s d rs xs) (hd : d.lns.length ≤ 900) (dv : Int) (k : Key) (hk : keyIn k) (A : Option Addr) (n c : Nat) (ls : List Leg) (raw : Bool) (bn : Nat) (hbn : bn ≤ 255) (w : World) (M I : BS)
    (H : Hp ⟨w, M, I⟩ [blk l [.slice s.A s.n s.c, .map (some m1), .map (some m2)] 85, row 69 6 (.slice s.A s.n s.c) s.n (lnsC d.lns), mapO m1 keyV iV d.live, mapO m2 prV iV d.sums, blk p [.slice rs.A rs.n rs.c] 33, row 66 6 (.slice rs.A rs.n rs.c) rs.n (lnsC xs)] [Sl legR (.slice A n c) ls, LnF d.lns, LnF xs, Glob 0 errTy] w) :
    Ctr Tryz.prog 9 [.pointer (some ⟨l, 0, none⟩), .pointer (some ⟨p, 0, none⟩), .agg #[.int .u8 dv, .int .u32 k.loan, .int .i32 k.day, .int .u8 k.kind, .int .u32 k.seq, .slice A n c, .bool raw, .int .u8 (bn : Int)]] w M I (fun _ : DR => .bool true) (DoOk d)
      (fun a => [blk l [.slice a.s.A a.s.n a.s.c, .map (some m1), .map (some m2)] 85, row 69 6 (.slice a.s.A a.s.n a.s.c) a.s.n (lnsC a.d.lns), mapO m1 keyV iV a.d.live, mapO m2 prV iV a.d.sums, blk p [.slice a.rs.A a.rs.n a.rs.c] 33, row 66 6 (.slice a.rs.A a.rs.n a.rs.c) a.rs.n (lnsC a.xs)]) (fun a => [LnF a.d.lns, LnF a.xs]) := by
  have hxl := sim_len hB.sim
  have hok := sim_ok hB.inv hB.sim hd
  obtain ⟨hkM, hk5⟩ := kM_in hk
  obtain ⟨hn, hc, hc2⟩ := H.sll (A := A) (n := n) (c := c)
  have hlok := legs_ok (A := A) (n := n) (c := c) H
  have hk1 : (0 : Int) ≤ k.loan ∧ k.loan ≤ 4294967295 := hk.1
  obtain ⟨M', I', h0, hm', hk'⟩ := Hp.call (A := []) (S := [blk l [.slice s.A s.n s.c, .map (some m1), .map (some m2)] 85, row 69 6 (.slice s.A s.n s.c) s.n (lnsC d.lns), mapO m1 keyV iV d.live, mapO m2 prV iV d.sums, blk p [.slice rs.A rs.n rs.c] 33, row 66 6 (.slice rs.A rs.n rs.c) rs.n (lnsC xs)]) (G := [Sl legR (.slice A n c) ls, LnF d.lns, LnF xs, Glob 0 errTy]) H fun I ha => ha
  have hM := hm' rfl
  refine Exe.of_ev tok Tryz.call9 Tryz.func9 rfl rfl rfl ?_
  refine box_as h0 (actC dv k A n c raw bn) rfl fun b w1 H1 => ?_
  refine slice_as tok H1 [] rfl rfl rfl rfl rfl rfl fun g w2 H2 => ?_
  have H2 : Hp ⟨w, M', I'⟩ [row 43 2 (.slice (some ⟨g, 0, none⟩) 0 0) 0 [], blk b (actC dv k A n c raw bn) 36] [Sl legR (.slice A n c) ls, LnF d.lns, LnF xs, Glob 0 errTy] w2 := H2.toRow 2 0 rfl (by decide)
  refine load_rule tok H2 (v := .slice A n c) rfl ?_
  refine load_rule tok H2 (v := .slice A n c) rfl ?_
  refine slice_sl (A := A) (n := n) (c := c) (r := legR) tok H2 (k := min n 12) rfl rfl (min_v n) (Nat.min_le_left _ _) fun H3 => ?_
  refine append_sl (v := .slice (some ⟨g, 0, none⟩) 0 0) (A := A) (m := min n 12) (c := c) tok H3 rfl rfl rfl rfl rfl rfl rfl (fun x _ _ => legs_one x) (by show (0 + min n 12) * 16 ≤ _; omega) (by omega) fun A2 c2 news w4 H4 => ?_
  have H4 : Hp ⟨w, M', I'⟩ [row 43 2 (.slice A2 (0 + min n 12) c2) (0 + min n 12) news, blk b (actC dv k A n c raw bn) 36] [Cl legR news (ls.take (min n 12)), Sl legR (.slice A (min n 12) c) (ls.take (min n 12)), Sl legR (.slice A n c) ls, LnF d.lns, LnF xs, Glob 0 errTy] w4 := H4
  have H5 := H4.frzRow (v := .slice A2 (0 + min n 12) c2) (xs := ls.take (min n 12)) legR hM rfl (by decide)
  have hlk : ∀ g, g ∈ ls.take (min n 12) → legIn g := fun g hg => hlok g (List.mem_of_mem_take hg)
  have hl12 : (ls.take (min n 12)).length ≤ 12 := by rw [List.length_take]; omega
  refine load_rule tok H5 (v := .int .u32 k.loan) rfl ?_
  refine rem_as (kM k).loan (by decide) rfl ?_
  refine store_as tok H5 (actC dv (kM k) A n c raw bn) rfl rfl rfl rfl rfl fun w5 H6 => ?_
  refine load_rule tok H6 (v := .int .u8 dv) rfl ?_
  refine rem_as (dv.tmod 5) (by decide) rfl ?_
  have F6 : Hp ⟨w, M, I⟩ [blk b (actC dv (kM k) A n c raw bn) 36, blk l [.slice s.A s.n s.c, .map (some m1), .map (some m2)] 85, row 69 6 (.slice s.A s.n s.c) s.n (lnsC d.lns), mapO m1 keyV iV d.live, mapO m2 prV iV d.sums, blk p [.slice rs.A rs.n rs.c] 33, row 66 6 (.slice rs.A rs.n rs.c) rs.n (lnsC xs)] [Sl legR (.slice A2 (0 + min n 12) c2) (ls.take (min n 12)), Cl legR news (ls.take (min n 12)), Sl legR (.slice A (min n 12) c) (ls.take (min n 12)), Sl legR (.slice A n c) ls, LnF d.lns, LnF xs, Glob 0 errTy, Sl legR (.slice A n c) ls, LnF d.lns, LnF xs, Glob 0 errTy] w5 := hk' _ _ w5 H6
  have F6 : Hp ⟨w, M, I⟩ [blk b (actC dv (kM k) A n c raw bn) 36, blk l [.slice s.A s.n s.c, .map (some m1), .map (some m2)] 85, row 69 6 (.slice s.A s.n s.c) s.n (lnsC d.lns), mapO m1 keyV iV d.live, mapO m2 prV iV d.sums, blk p [.slice rs.A rs.n rs.c] 33, row 66 6 (.slice rs.A rs.n rs.c) rs.n (lnsC xs)] [Sl legR (.slice A2 (0 + min n 12) c2) (ls.take (min n 12)), LnF d.lns, LnF xs, Glob 0 errTy] w5 := F6.keep
  refine br (fun q3 => ?_) (fun q3 => ?_)
  · refine draw_rule (A := [blk l [.slice s.A s.n s.c, .map (some m1), .map (some m2)] 85, row 69 6 (.slice s.A s.n s.c) s.n (lnsC d.lns), mapO m1 keyV iV d.live, mapO m2 prV iV d.sums, blk p [.slice rs.A rs.n rs.c] 33, row 66 6 (.slice rs.A rs.n rs.c) rs.n (lnsC xs)]) tok tdr F6 [0, 1, 2, 3, 4, 6, 7, 8, 5, 9, 10, 11] [0, 0, 2, 7, 15, 0, 0, 64, 223, 511, 1023, 2047] rfl ?_
    refine pass_rule _ (fun w h => load_rule tok h (v := keyV (kM k)) rfl ⟨rfl, rfl⟩) ?_
    refine imp_rule (fun X wx h => call_rule h (fun M I _ h => reverse_ l m1 m2 s d (by omega) hB.sn hB.inv.in_ (kM k) hkM (rev_pre hB.inv) _ M I h) fun a w1 ha H1 => imp_done H1 ?_)
    refine imp_rule (fun X wx h => call_rule h (fun M I _ h => codeF a.e _ M I h) fun _ w1 _ H1 => imp_done H1 ?_)
    refine pass_rule _ (fun w h => load_rule tok h (v := keyV (kM k)) rfl ⟨rfl, rfl⟩) ?_
    refine imp_rule (fun X wx h => call_rule h (fun M I _ h => key_ (kM k) _ M I h) fun _ w1 _ H1 => imp_done H1 ?_)
    refine imp_rule (fun X wx h => call_rule h (fun M I _ h => reverseRef p rs xs hB.rn hok (by omega) (kM k) hkM (sim_live hB.inv hB.sim (kM k)) _ M I h) fun r w1 hr H1 => imp_done H1 ?_)
    refine done_rule fun w7 H7 => ?_
    have hfin := do_rev hB (.inl hk5) ha hr
    exact Exists.intro ⟨a.s, a.d, r.s, r.xs⟩ (And.intro (congrArg Value.bool hfin.1) (And.intro hfin.2 (Hp.keep H7)))
  refine br (fun q4 => ?_) (fun q4 => ?_)
  · refine load_rule tok F6 (v := .slice rs.A rs.n rs.c) rfl ?_
    refine br (fun q => ?_) (fun q => ?_)
    · exact Exists.intro ⟨s, d, rs, xs⟩ (And.intro rfl (And.intro ⟨hB, [], by simp, by simp, (fun y hy => by cases hy)⟩ (Hp.keep F6)))
    have q : ((rs.n : Int) == 0) = false := q
    have q0 : rs.n ≠ 0 := fun e => by rw [e] at q; exact absurd q (by decide)
    have hpos : 0 < d.lns.length := by rw [← hxl, ← hB.rn]; omega
    have hj : bn % rs.n < d.lns.length := by
      have := Nat.mod_lt bn (show 0 < rs.n by omega)
      have := hB.rn
      omega
    have hx : ∃ x, d.lns[bn % rs.n]? = some x := ⟨_, List.getElem?_eq_getElem hj⟩
    refine Exists.elim hx fun x hx => ?_
    have hxm := List.mem_of_getElem? hx
    have hxk := (hB.inv.ok x hxm).2.1
    have hxl8 := (right_day (hB.inv.ok x hxm).2.2.1).2.1
    have ew : IntKind.i64.wrap (bn : Int) = (bn : Int) := w64 (by omega) (by omega)
    have er : (IntKind.i64.wrap (bn : Int)).tmod (rs.n : Int) = ((bn % rs.n : Nat) : Int) := by rw [ew]; rfl
    have en : (rs.n : Int) ≠ 0 := by omega
    refine draw_rule (A := []) tok tdr F6 [0, 1, 2, 3, 4, 5, 6, 7, 8, 9, 10, 11, 12, 14, 15, 13, 16] [0, 0, 2, 6, 0, 16, 48, 112, 240, 510, 1023, 2047, 4095, 4095, 0, 24575, 65535] rfl ?_
    refine pass_rule _ (fun w h => load_rule tok h (v := .int .u8 (bn : Int)) rfl ⟨rfl, rfl⟩) ?_
    refine pass_rule _ (fun w h => load_rule tok h (v := .slice rs.A rs.n rs.c) rfl ⟨rfl, rfl⟩) ?_
    refine pass_rule _ (fun w h => rem_as ((bn % rs.n : Nat) : Int) en er ⟨rfl, rfl⟩) ?_
    refine imp_rule (fun X wx h => call_rule h (fun M I _ h => line_ l m1 m2 s d.lns (by omega) hB.sn (bn % rs.n) x hx (by omega) _ M I h) fun sv w1 _ H1 => imp_done H1 ?_)
    refine fresh_alloc tok rfl rfl rfl fun t => ?_
    refine imp_rule (fun X wx h => store_as tok h [.int .u32 x.k.loan, .int .i32 x.k.day, .int .u8 x.k.kind, .int .u32 x.k.seq, .slice sv.A sv.n sv.c, .int .i64 x.of] rfl rfl rfl rfl rfl fun w1 H1 => imp_done H1 ?_)
    refine done_rule fun w7 H7 => ?_
    have H8 : Hp ⟨w, M, I⟩ [blk t [.int .u32 x.k.loan, .int .i32 x.k.day, .int .u8 x.k.kind, .int .u32 x.k.seq, .slice sv.A sv.n sv.c, .int .i64 x.of] 69, blk l [.slice s.A s.n s.c, .map (some m1), .map (some m2)] 85, row 69 6 (.slice s.A s.n s.c) s.n (lnsC d.lns), mapO m1 keyV iV d.live, mapO m2 prV iV d.sums, blk p [.slice rs.A rs.n rs.c] 33, row 66 6 (.slice rs.A rs.n rs.c) rs.n (lnsC xs)] [LnF d.lns, LnF xs, Glob 0 errTy] w7 := Hp.keep H7
    refine draw_rule (A := [blk l [.slice s.A s.n s.c, .map (some m1), .map (some m2)] 85, row 69 6 (.slice s.A s.n s.c) s.n (lnsC d.lns), mapO m1 keyV iV d.live, mapO m2 prV iV d.sums, blk p [.slice rs.A rs.n rs.c] 33, row 66 6 (.slice rs.A rs.n rs.c) rs.n (lnsC xs)]) tok tdr H8 [0, 1, 2, 3, 4, 5, 7, 8, 9, 10, 6, 11, 12, 13] [0, 0, 2, 6, 15, 31, 0, 0, 128, 384, 959, 2047, 4095, 8191] rfl ?_
    refine pass_rule _ (fun w h => load_rule tok h (v := keyV x.k) rfl ⟨rfl, rfl⟩) ?_
    refine imp_rule (fun X wx h => call_rule h (fun M I _ h => reverse_ l m1 m2 s d (by omega) hB.sn hB.inv.in_ x.k hxk (rev_pre hB.inv) _ M I h) fun a w1 ha H1 => imp_done H1 ?_)
    refine imp_rule (fun X wx h => call_rule h (fun M I _ h => codeF a.e _ M I h) fun _ w1 _ H1 => imp_done H1 ?_)
    refine pass_rule _ (fun w h => load_rule tok h (v := keyV x.k) rfl ⟨rfl, rfl⟩) ?_
    refine imp_rule (fun X wx h => call_rule h (fun M I _ h => key_ x.k _ M I h) fun _ w1 _ H1 => imp_done H1 ?_)
    refine imp_rule (fun X wx h => call_rule h (fun M I _ h => reverseRef p rs xs hB.rn hok (by omega) x.k hxk (sim_live hB.inv hB.sim x.k) _ M I h) fun r w1 hr H1 => imp_done H1 ?_)
    refine done_rule fun w9 H9 => ?_
    have hfin := do_rev hB (.inr ⟨x, hxm, rfl⟩) ha hr
    exact Exists.intro ⟨a.s, a.d, r.s, r.xs⟩ (And.intro (congrArg Value.bool hfin.1) (And.intro hfin.2 (Hp.keep H9)))
  refine load_rule tok F6 (v := keyV (kM k)) rfl ?_
  refine call_rule F6 (fun M I h0 h => make (kM k) A2 (0 + min n 12) c2 (ls.take (min n 12)) hl12 _ M I (h0 rfl) h) fun mo w7 hmo H7 => ?_
  refine alloc_as tok H7 zeroC rfl rfl rfl fun t w8 H8 => ?_
  refine store_as tok H8 (entC (kM k) mo.1.A mo.1.n mo.1.c) rfl rfl rfl rfl rfl fun w9 H9 => ?_
  refine load_rule tok H9 (v := .bool raw) rfl ?_
  refine br (fun _ => ?_) (fun _ => ?_)
  · refine load_rule tok H9 (v := keyV (kM k)) rfl ?_
    refine store_as tok H9 (entC (kM k) A2 (0 + min n 12) c2) rfl rfl rfl rfl rfl fun w10 H10 => ?_
    have H11 : Hp ⟨w, M, I⟩ [blk t (entC (kM k) A2 (0 + min n 12) c2) 39, blk l [.slice s.A s.n s.c, .map (some m1), .map (some m2)] 85, row 69 6 (.slice s.A s.n s.c) s.n (lnsC d.lns), mapO m1 keyV iV d.live, mapO m2 prV iV d.sums, blk p [.slice rs.A rs.n rs.c] 33, row 66 6 (.slice rs.A rs.n rs.c) rs.n (lnsC xs)] [Sl legR (.slice A2 (0 + min n 12) c2) (ls.take (min n 12)), LnF d.lns, LnF xs, Glob 0 errTy] w10 := Hp.keep H10
    have hll : (ls.take (min n 12)).length ≤ 1000 := by omega
    have hlg := hlk
    refine draw_rule (A := [blk l [.slice s.A s.n s.c, .map (some m1), .map (some m2)] 85, row 69 6 (.slice s.A s.n s.c) s.n (lnsC d.lns), mapO m1 keyV iV d.live, mapO m2 prV iV d.sums, blk p [.slice rs.A rs.n rs.c] 33, row 66 6 (.slice rs.A rs.n rs.c) rs.n (lnsC xs)]) tok tdr H11 [0, 1, 2, 3, 5, 6, 4, 7, 8, 9] [0, 0, 3, 7, 0, 0, 47, 127, 255, 511] rfl ?_
    refine pass_rule _ (fun w h => load_rule tok h (v := .agg #[.int .u32 (kM k).loan, .int .i32 (kM k).day, .int .u8 (kM k).kind, .int .u32 (kM k).seq, .slice A2 (0 + min n 12) c2]) rfl ⟨rfl, rfl⟩) ?_
    refine imp_rule (fun X wx h => call_rule h (fun M I _ h => post_ l m1 m2 s d (by omega) hB.sn hB.inv.in_ (kM k) hkM A2 (0 + min n 12) c2 (ls.take (min n 12)) hll _ M I h) fun a w1 ha H1 => imp_done H1 ?_)
    refine imp_rule (fun X wx h => call_rule h (fun M I _ h => codeF a.e _ M I h) fun _ w1 _ H1 => imp_done H1 ?_)
    refine pass_rule _ (fun w h => load_rule tok h (v := .agg #[.int .u32 (kM k).loan, .int .i32 (kM k).day, .int .u8 (kM k).kind, .int .u32 (kM k).seq, .slice A2 (0 + min n 12) c2]) rfl ⟨rfl, rfl⟩) ?_
    refine imp_rule (fun X wx h => call_rule h (fun M I h0 h => own_ (kM k) A2 (0 + min n 12) c2 (ls.take (min n 12)) hll _ M I (h0 rfl) h) fun ow w1 _ H1 => imp_done H1 ?_)
    refine imp_rule (fun X wx h => call_rule h (fun M I _ h => postRef p rs xs hB.rn (kM k) ow.A ow.n ow.c (ls.take (min n 12)) (sim_ok1 hB.inv hB.sim hd hkM hll) _ M I h) fun r w1 hr H1 => imp_done H1 ?_)
    refine done_rule fun w12 H12 => ?_
    have hfin := do_post hB hkM hk5 hlg ha hr
    exact Exists.intro ⟨a.s, a.d, r.s, r.xs⟩ (And.intro (congrArg Value.bool hfin.1) (And.intro hfin.2 (Hp.keep H12)))
  · have H11 : Hp ⟨w, M, I⟩ [blk t (entC (kM k) mo.1.A mo.1.n mo.1.c) 39, blk l [.slice s.A s.n s.c, .map (some m1), .map (some m2)] 85, row 69 6 (.slice s.A s.n s.c) s.n (lnsC d.lns), mapO m1 keyV iV d.live, mapO m2 prV iV d.sums, blk p [.slice rs.A rs.n rs.c] 33, row 66 6 (.slice rs.A rs.n rs.c) rs.n (lnsC xs)] [Sl legR (.slice mo.1.A mo.1.n mo.1.c) mo.2, LnF d.lns, LnF xs, Glob 0 errTy] w9 := Hp.keep H9
    have hll : mo.2.length ≤ 1000 := by have := made_len hmo; omega
    have hlg : ∀ g, g ∈ mo.2 → legIn g := legs_ok (A := mo.1.A) (n := mo.1.n) (c := mo.1.c) H11
    refine draw_rule (A := [blk l [.slice s.A s.n s.c, .map (some m1), .map (some m2)] 85, row 69 6 (.slice s.A s.n s.c) s.n (lnsC d.lns), mapO m1 keyV iV d.live, mapO m2 prV iV d.sums, blk p [.slice rs.A rs.n rs.c] 33, row 66 6 (.slice rs.A rs.n rs.c) rs.n (lnsC xs)]) tok tdr H11 [0, 1, 2, 3, 5, 6, 4, 7, 8, 9] [0, 0, 3, 7, 0, 0, 47, 127, 255, 511] rfl ?_
    refine pass_rule _ (fun w h => load_rule tok h (v := .agg #[.int .u32 (kM k).loan, .int .i32 (kM k).day, .int .u8 (kM k).kind, .int .u32 (kM k).seq, .slice mo.1.A mo.1.n mo.1.c]) rfl ⟨rfl, rfl⟩) ?_
    refine imp_rule (fun X wx h => call_rule h (fun M I _ h => post_ l m1 m2 s d (by omega) hB.sn hB.inv.in_ (kM k) hkM mo.1.A mo.1.n mo.1.c mo.2 hll _ M I h) fun a w1 ha H1 => imp_done H1 ?_)
    refine imp_rule (fun X wx h => call_rule h (fun M I _ h => codeF a.e _ M I h) fun _ w1 _ H1 => imp_done H1 ?_)
    refine pass_rule _ (fun w h => load_rule tok h (v := .agg #[.int .u32 (kM k).loan, .int .i32 (kM k).day, .int .u8 (kM k).kind, .int .u32 (kM k).seq, .slice mo.1.A mo.1.n mo.1.c]) rfl ⟨rfl, rfl⟩) ?_
    refine imp_rule (fun X wx h => call_rule h (fun M I h0 h => own_ (kM k) mo.1.A mo.1.n mo.1.c mo.2 hll _ M I (h0 rfl) h) fun ow w1 _ H1 => imp_done H1 ?_)
    refine imp_rule (fun X wx h => call_rule h (fun M I _ h => postRef p rs xs hB.rn (kM k) ow.A ow.n ow.c mo.2 (sim_ok1 hB.inv hB.sim hd hkM hll) _ M I h) fun r w1 hr H1 => imp_done H1 ?_)
    refine done_rule fun w12 H12 => ?_
    have hfin := do_post hB hkM hk5 hlg ha hr
    exact Exists.intro ⟨a.s, a.d, r.s, r.xs⟩ (And.intro (congrArg Value.bool hfin.1) (And.intro hfin.2 (Hp.keep H12)))
end Go.Proofs.YtfemfomgmopibaaGreatDoor
