/- Bytes joined, cut; the document's numbers as bytes: the walks. -/
import Derived.Test.YtenpgmnknmnofaaDoorT28
import Derived.Test.YtenpgmnknmnofaaDoorWkSub
namespace Go.Proofs.YtenpgmnknmnofaaDoor
open Go Go.Proofs Go.Wk
@[reducible] def svV (p : SV) : Value := .slice p.A p.n p.c
@[reducible] def bytesR : Rp (List Nat) := ⟨1, SV, fun _ p => [.slice p.A p.n p.c], fun _ _ => True, fun x p => [Sl byteR (.slice p.A p.n p.c) x], fun _ _ => rfl⟩
/-- Slices that read, in a row of one's own, once given up. -/
theorem frzSl {w : World} {B : Base} {S S' : List Asn} {F : List Fact} (H : Hp B S F w) {g : Nat} {cs : List Value} {t : TypeId} (ps : List (SV × List Nat)) (n : Nat) (xss : List (List Nat)) [h1 : TakeB S g cs t S'] (hcs : cs = ps.map fun q => svV q.1) (hn : n = ps.length) (hxs : xss = ps.map (·.2)) (hM : ∀ b, ¬ B.M b) (hm : Nat.ble n 1000 = true)
    (hf : ∀ q, q ∈ ps → Sl byteR (svV q.1) q.2 ∈ F) : Hp B S' (Sl bytesR (.slice (some ⟨g, 0, none⟩) n n) xss :: F) w := by
  have hm := Nat.le_of_ble_eq_true hm
  subst hcs hn hxs
  refine ((H.perm h1.perm).freeze hM).facts fun I ha f hf' => ?_
  rcases List.mem_cons.1 hf' with rfl | hf'
  · obtain ⟨fp, hb, hi⟩ := ha _ List.mem_cons_self
    refine ⟨_, _, by rw [List.length_map], by rw [List.length_map]; exact Nat.le_refl _, by omega, (fun h => by cases h), fun i x hxi => ?_⟩
    rw [List.getElem?_map] at hxi
    cases hq : ps[i]? with
    | none => rw [hq] at hxi; cases hxi
    | some q =>
      rw [hq] at hxi
      injection hxi with hxi
      subst hxi
      refine ⟨g, 0, rfl, hi g ((hb.1 g).2 rfl), q.1, trivial, fun j u hj => ?_, fun f hf2 => ?_⟩
      · have h0 : j = 0 := by
          have := (List.getElem?_eq_some_iff.1 hj).1
          simp at this; exact this
        subst h0
        have hj : svV q.1 = u := by simpa using hj
        subst hj
        have := blk_cells hb i (svV q.1) (by rw [List.getElem?_map, hq]; rfl)
        show w.cell? ⟨g, 0 + i * 1 + 0, none⟩ = _
        rw [Nat.mul_one, Nat.add_zero]; exact this
      · rw [List.mem_singleton] at hf2
        subst hf2
        exact ha _ (List.mem_cons_of_mem _ (hf q (List.mem_of_getElem? hq)))
  · exact ha f (List.mem_cons_of_mem _ hf')
theorem byC_app (a b : List Nat) : byC (a ++ b) = byC a ++ byC b := by simp [byC]
theorem cl_bytes {cs : List Value} : ∀ {bs : List Nat} {w : World} {I : BS}, (Cl byteR cs bs).holds w I → cs = byC bs
  | bs, w, I, ⟨h, hx⟩ => by
    have hl : cs.length = bs.length := by simpa using h
    apply List.ext_getElem?
    intro i
    by_cases hi : i < bs.length
    · obtain ⟨p, _, e, _⟩ := hx i bs[i] (List.getElem?_eq_getElem hi)
      have e : (cs.drop (i * 1)).take 1 = [.int .u8 ((bs[i] : Nat) : Int)] := e
      rw [Nat.mul_one, List.drop_eq_getElem_cons (by omega)] at e
      simp only [List.take_succ_cons, List.take_zero, List.cons.injEq, and_true] at e
      rw [List.getElem?_eq_getElem (by omega), e]
      simp [byC, hi]
    · rw [List.getElem?_eq_none (by omega), List.getElem?_eq_none (by simp [byC]; omega)]
theorem byte_one (x : Nat) (p : Unit) (_ : byteR.ok x p) (u : Value) (hu : u ∈ byteR.cells x p) : u.oneCell' = true := by
  rw [List.mem_singleton] at hu
  subst hu; rfl
theorem flat_take {xss : List (List Nat)} {i : Nat} {x : List Nat} (h : xss[i]? = some x) : (xss.take (i + 1)).flatten = (xss.take i).flatten ++ x := by
  rw [List.take_add_one, h, List.flatten_append]; simp
theorem flat_le : ∀ (xss : List (List Nat)) (i : Nat), (xss.take i).flatten.length ≤ xss.flatten.length
  | [], i => by simp
  | x :: r, 0 => by simp
  | x :: r, i + 1 => by
    have := flat_le r i
    simp only [List.take_succ_cons, List.flatten_cons, List.length_append]; omega
theorem join (A : Option Addr) (n c : Nat) (xss : List (List Nat)) (hl : xss.flatten.length ≤ 1000000) (w : World) (M I : BS) (H : Hp ⟨w, M, I⟩ [] [Sl bytesR (.slice A n c) xss] w) :
    Ctr Tryd.prog 19 [.slice A n c] w M I (fun a : SV => .slice a.A a.n a.c) (fun a => a.n = xss.flatten.length) (fun a => [row 5 1 (.slice a.A a.n a.c) a.n (byC xss.flatten)]) (fun _ => []) := by
  obtain ⟨hn, hc, hc2⟩ := H.sll (A := A) (n := n) (c := c)
  refine Exe.of_ev tok Tryd.call19 Tryd.func19 rfl rfl rfl ?_
  have H0 : Hp ⟨w, M, I⟩ [row 5 1 (.slice none 0 0) 0 []] [Sl bytesR (.slice A n c) xss] w := Hp.nil H 5 1
  have H0 : Hp ⟨w, M, I⟩ [row 5 1 (.slice none 0 0) 0 (byC (xss.take 0).flatten)] [Sl bytesR (.slice A n c) xss] w := H0
  refine loop_rule tok (σ := Nat × SV) 65320 (fun s => [(8, .int .i64 s.1), (3, .slice s.2.A s.2.n s.2.c)])
    (fun s w' => s.1 ≤ n ∧ s.2.n = (xss.take s.1).flatten.length ∧ Hp ⟨w, M, I⟩ [row 5 1 (.slice s.2.A s.2.n s.2.c) s.2.n (byC (xss.take s.1).flatten)] [Sl bytesR (.slice A n c) xss] w') (fun s => n - s.1) (0, ⟨none, 0, 0⟩) rfl rfl ⟨rfl, rfl, trivial⟩ ⟨Nat.zero_le _, rfl, H0⟩ ?_
  rintro ⟨i, A1, n1, c1⟩ j w1 ⟨hi, hn1, H1⟩
  simp only at hi hn1 H1
  refine brd (fun q => ?_) (fun q => ?_)
  · have q : (i : Int) < n := q
    refine idx_rule tok H1 rfl rfl rfl (by omega) q fun pb po y hy H2 => ?_
    refine ld1_rule tok H2 (v := svV) rfl rfl (fun _ => rfl) fun p _ H3 => ?_
    have hy : xss[i]? = some y := by simpa using hy
    have hfl := flat_take hy
    have hle := flat_le xss (i + 1)
    rw [hfl, List.length_append] at hle
    obtain ⟨hp, _, _⟩ := H3.sll (A := p.A) (n := p.n) (c := p.c)
    refine append_sl (v := .slice A1 n1 c1) (A := p.A) (m := p.n) (c := p.c) tok H3 rfl rfl rfl rfl rfl rfl rfl byte_one (by show (n1 + p.n) * 1 ≤ _; omega) (by omega) fun A2 c2 news w4 H4 => ?_
    have ec : news = byC y := by
      obtain ⟨I', _, _, ha, _⟩ := H4.ex
      exact cl_bytes (ha _ List.mem_cons_self)
    subst ec
    refine Exists.intro (i + 1, ⟨A2, n1 + p.n, c2⟩) (And.intro ⟨?_, rfl, trivial⟩ (And.intro ?_ ⟨?_, ?_, ?_⟩))
    · show Value.int .i64 (IntKind.i64.wrap (i + 1)) = _
      rw [w64 (by omega) (by omega)]; rfl
    · simp only; omega
    · simp only; omega
    · simp only
      rw [hfl, List.length_append]; omega
    · have e : byC (xss.take (i + 1)).flatten = byC (xss.take i).flatten ++ byC y := by rw [hfl, byC_app]
      simp only
      rw [e]
      exact Hp.keep H4
  · have q : ¬ (i : Int) < n := q
    have e : xss.take i = xss := List.take_of_length_le (by omega)
    rw [e] at H1 hn1
    exact Exists.intro ⟨A1, n1, c1⟩ (And.intro rfl (And.intro hn1 (Hp.keep H1)))
theorem cut (A : Option Addr) (n c : Nat) (bs : List Nat) (w : World) (M I : BS) (hM : ∀ b, ¬ M b) (H : Hp ⟨w, M, I⟩ [] [Sl byteR (.slice A n c) bs] w) (hb : ∀ x, x ∈ bs → x < 256) :
    Ctr Tryd.prog 12 [.slice A n c, .int .i64 60] w M I (fun a : SV => .slice a.A a.n a.c) (fun _ => True) (fun _ => []) (fun a => [Sl byteR (.slice a.A a.n a.c) (bs.take 60)]) := by
  obtain ⟨hn, hc, hc2⟩ := H.sll (A := A) (n := n) (c := c)
  refine Exe.of_ev tok Tryd.call12 Tryd.func12 rfl rfl rfl ?_
  have H0 : Hp ⟨w, M, I⟩ [row 5 1 (.slice none 0 0) 0 []] [Sl byteR (.slice A n c) bs] w := Hp.nil H 5 1
  have H0 : Hp ⟨w, M, I⟩ [row 5 1 (.slice none 0 0) 0 (byC ((bs.take 60).take 0))] [Sl byteR (.slice A n c) bs] w := H0
  refine loop_rule tok (σ := Nat × SV) 8387808 (fun s => [(10, .int .i64 s.1), (5, .slice s.2.A s.2.n s.2.c)])
    (fun s w' => s.1 ≤ n ∧ s.2.n = ((bs.take 60).take s.1).length ∧ Hp ⟨w, M, I⟩ [row 5 1 (.slice s.2.A s.2.n s.2.c) s.2.n (byC ((bs.take 60).take s.1))] [Sl byteR (.slice A n c) bs] w') (fun s => n - s.1) (0, ⟨none, 0, 0⟩) rfl rfl ⟨rfl, rfl, trivial⟩ ⟨Nat.zero_le _, rfl, H0⟩ ?_
  rintro ⟨i, A1, n1, c1⟩ j w1 ⟨hi, hn1, H1⟩
  simp only at hi hn1 H1
  have hn60 : n1 ≤ 60 := by rw [hn1]; simp; omega
  refine brd (fun q => ?_) (fun q => ?_)
  · have q : (i : Int) < n := q
    obtain ⟨u, hu⟩ : ∃ u, bs[i]? = some u := ⟨_, List.getElem?_eq_getElem (by omega)⟩
    obtain ⟨b1, o1, rfl⟩ := H1.slAt (A := A) (n := n) (c := c) (r := byteR) (by omega)
    have nxt : Value.int .i64 (IntKind.i64.wrap (i + 1)) = .int .i64 ((i + 1 : Nat) : Int) := by rw [w64 (by omega) (by omega)]; rfl
    refine idx_own tok rfl rfl (show (0 : Int) ≤ (i : Int) by omega) q ?_
    refine sl_ld (n := n) (c := c) (j := i) (f := 0) (r := byteR) tok H1 (.int .u8 u) hu rfl (fun _ _ => rfl) ?_
    refine brd (fun q2 => ?_) (fun q2 => ?_)
    · have q2 : (i : Int) < 60 := q2
      refine slice_as tok H1 [.int .u8 u] rfl rfl rfl rfl rfl rfl fun g w2 H2 => ?_
      refine append_rule (v := .slice A1 n1 c1) (b := g) (m := 1) (c := 1) tok H2 rfl rfl rfl rfl rfl rfl rfl rfl (by show (n1 + 1) * 1 ≤ _; omega) (by omega) fun A2 c2 w3 H3 => ?_
      have e : (bs.take 60).take (i + 1) = (bs.take 60).take i ++ [u] := by
        rw [List.take_add_one, List.getElem?_take, if_pos (by omega), hu]; rfl
      refine Exists.intro (i + 1, ⟨A2, n1 + 1, c2⟩) (And.intro ⟨nxt, rfl, trivial⟩ (And.intro ?_ ⟨?_, ?_, ?_⟩))
      · simp only; omega
      · simp only; omega
      · simp only
        rw [e, List.length_append, ← hn1]; rfl
      · simp only
        rw [e, byC_app]
        have H4 : Hp ⟨w, M, I⟩ [row 5 1 (.slice A2 (n1 + 1) c2) (n1 + 1) (byC ((bs.take 60).take i) ++ [.int .u8 u])] [Sl byteR (.slice (some ⟨b1, o1, none⟩) n c) bs] w3 := Hp.keep H3
        exact H4
    · have q2 : ¬ (i : Int) < 60 := q2
      have e : (bs.take 60).take (i + 1) = (bs.take 60).take i := by
        have l60 : (bs.take 60).length ≤ 60 := by simp; omega
        rw [List.take_of_length_le (l := bs.take 60) (by omega), List.take_of_length_le (l := bs.take 60) (by omega)]
      refine Exists.intro (i + 1, ⟨A1, n1, c1⟩) (And.intro ⟨nxt, rfl, trivial⟩ (And.intro ?_ ⟨?_, ?_, ?_⟩))
      · simp only; omega
      · simp only; omega
      · simp only
        rw [e]; exact hn1
      · simp only
        rw [e]; exact H1
  · have q : ¬ (i : Int) < n := q
    have e : (bs.take 60).take i = bs.take 60 := List.take_of_length_le (by simp; omega)
    rw [e] at H1
    have H2 := frzBytes H1 (v := .slice A1 n1 c1) (bs.take 60) hM fun x hx => hb x (List.mem_of_mem_take hx)
    exact Exists.intro ⟨A1, n1, c1⟩ (And.intro rfl (And.intro trivial (Hp.keep H2)))
theorem bigE_snoc (x : Nat) : ∀ k, bigE x (k + 1) = bigE (x / 256) k ++ [x % 256]
  | 0 => by simp [bigE]
  | k + 1 => by
    rw [bigE, bigE_snoc x k, bigE, List.cons_append, Nat.div_div_eq_div_mul, ← Nat.pow_succ']
theorem u8_of {x : Nat} (h : x < 256) : IntKind.u8.wrap (x : Int) = x := by rw [wrap_u8, Nat.mod_eq_of_lt h]
/-- A byte of one's own reads, once given up. -/
theorem frzByte {w : World} {B : Base} {S S' : List Asn} {F : List Fact} (H : Hp B S F w) {g : Nat} {x : Nat} {v : Int} {t : TypeId} [h1 : TakeB S g [.int .u8 v] t S'] (hv : v = x) (hx : x < 256) (hM : ∀ b, ¬ B.M b) : Hp B S' (Sl byteR (.slice (some ⟨g, 0, none⟩) 1 1) [x] :: F) w := by
  subst hv
  refine H.frzBlk byteR [x] hM (by simp) rfl fun i y hy => ?_
  have hi : i = 0 := by
    have := (List.getElem?_eq_some_iff.1 hy).1
    simp at this; exact this
  subst hi
  simp only [List.getElem?_cons_zero, Option.some.injEq] at hy
  subst hy
  exact ⟨(), hx, rfl, rfl⟩
theorem digits (x : Nat) : x < 18446744073709551616 → ∀ (w : World) (M I : BS), (∀ b, ¬ M b) → Hp ⟨w, M, I⟩ [] [] w →
    Ctr Tryd.prog 51 [.int .u64 x] w M I (fun a : SV => .slice a.A a.n a.c) (fun _ => True) (fun _ => []) (fun a => [Sl byteR (.slice a.A a.n a.c) (bigE x (sizeB x))]) := by
  induction x using Nat.strongRecOn with
  | ind x ih =>
  intro hx w M I hM H
  refine Exe.of_ev tok Tryd.call51 Tryd.func51 rfl rfl rfl ?_
  refine brd (fun q => ?_) (fun q => ?_)
  · have q : (x : Int) = 0 := q
    have q : x = 0 := by omega
    subst q
    have e : bigE 0 (sizeB 0) = [] := by rw [sizeB_zero]; rfl
    rw [e]
    exact Exists.intro ⟨none, 0, 0⟩ (And.intro rfl (And.intro trivial (Hp.keep (Hp.slNil byteR H))))
  · have q : ¬ (x : Int) = 0 := q
    have q : x ≠ 0 := by omega
    have h8 := sizeB_le8 (x := x / 256) (by omega)
    refine quo_as ((x / 256 : Nat) : Int) (by decide) (by
      show IntKind.u64.wrap ((x : Int).tdiv 256) = _
      rw [show (x : Int).tdiv 256 = ((x / 256 : Nat) : Int) from (Int.ofNat_tdiv x 256).symm]
      exact wrap_id (k := .u64) ⟨by show (0 : Int) ≤ _; omega, by show _ ≤ (18446744073709551615 : Int); omega⟩) ?_
    refine call_rule H (fun M I h0 h => ih (x / 256) (by omega) (by omega) _ M I (h0 rfl) h) fun a w1 _ H1 => ?_
    refine rem_as ((x % 256 : Nat) : Int) (by decide) (by
      show (x : Int).tmod 256 = _
      exact (Int.ofNat_tmod x 256).symm) ?_
    refine slice_as tok H1 [.int .u8 (IntKind.u8.wrap ((x % 256 : Nat) : Int))] rfl rfl rfl rfl rfl rfl fun g w2 H2 => ?_
    have H3 := frzByte H2 (g := g) (x := x % 256) (u8_of (by omega)) (by omega) hM
    refine slice_as tok H3 [.slice a.A a.n a.c, .slice (some ⟨g, 0, none⟩) 1 1] rfl rfl rfl rfl rfl rfl fun g2 w3 H4 => ?_
    have H5 := frzSl H4 (g := g2) [(a, bigE (x / 256) (sizeB (x / 256))), (⟨some ⟨g, 0, none⟩, 1, 1⟩, [x % 256])] 2 [bigE (x / 256) (sizeB (x / 256)), [x % 256]] rfl rfl rfl hM rfl (by
      intro q hq
      simp only [List.mem_cons, List.not_mem_nil, or_false] at hq
      rcases hq with rfl | rfl
      · simp
      · simp)
    have ef : [bigE (x / 256) (sizeB (x / 256)), [x % 256]].flatten = bigE x (sizeB x) := by
      rw [sizeB_pos q, Nat.add_comm, bigE_snoc]; simp
    refine call_rule H5 (fun M I _ h => join (some ⟨g2, 0, none⟩) 2 2 [bigE (x / 256) (sizeB (x / 256)), [x % 256]] (by simp [bigE_len]; omega) _ M I h) fun b w4 hb H6 => ?_
    rw [ef] at H6
    have H7 := frzBytes H6 (v := .slice b.A b.n b.c) (bigE x (sizeB x)) hM fun y hy => bigE_lt x _ y hy
    exact Exists.intro b (And.intro rfl (And.intro trivial (Hp.keep H7)))
theorem uintRef (x : Nat) (hx : x < 18446744073709551616) (w : World) (M I : BS) (hM : ∀ b, ¬ M b) (H : Hp ⟨w, M, I⟩ [] [] w) :
    Ctr Tryd.prog 36 [.int .u64 x] w M I (fun a : SV => .slice a.A a.n a.c) (fun a => a.n = (numB x 0).length) (fun a => [row 5 1 (.slice a.A a.n a.c) a.n (byC (numB x 0))]) (fun _ => []) := by
  have h8 := sizeB_le8 hx
  refine Exe.of_ev tok Tryd.call36 Tryd.func36 rfl rfl rfl ?_
  refine call_rule H (fun M I h0 h => digits x hx _ M I (h0 rfl) h) fun a w1 _ H1 => ?_
  obtain ⟨ha, _, _⟩ := H1.sll (A := a.A) (n := a.n) (c := a.c)
  rw [bigE_len] at ha
  refine slice_as tok H1 [.int .u8 (IntKind.u8.wrap (a.n : Int))] rfl rfl rfl rfl rfl rfl fun g w2 H2 => ?_
  have H3 := frzByte H2 (g := g) (x := sizeB x) (by rw [u8_of (by omega), ha]) (by omega) hM
  refine slice_as tok H3 [.slice (some ⟨g, 0, none⟩) 1 1, .slice a.A a.n a.c] rfl rfl rfl rfl rfl rfl fun g2 w3 H4 => ?_
  have H5 := frzSl H4 (g := g2) [(⟨some ⟨g, 0, none⟩, 1, 1⟩, [sizeB x]), (a, bigE x (sizeB x))] 2 [[sizeB x], bigE x (sizeB x)] rfl rfl rfl hM rfl (by
    intro q hq
    simp only [List.mem_cons, List.not_mem_nil, or_false] at hq
    rcases hq with rfl | rfl
    · simp
    · simp)
  have ef : [[sizeB x], bigE x (sizeB x)].flatten = numB x 0 := by simp [numB]
  refine call_rule H5 (fun M I _ h => join (some ⟨g2, 0, none⟩) 2 2 [[sizeB x], bigE x (sizeB x)] (by simp [bigE_len]; omega) _ M I h) fun b w4 hb H6 => ?_
  rw [ef] at H6 hb
  exact Exists.intro b (And.intro rfl (And.intro hb (Hp.keep H6)))
theorem uintRef_as (x : Nat) (v : Int) (hv : v = (x : Int)) (hx : x < 18446744073709551616) (w : World) (M I : BS) (hM : ∀ b, ¬ M b) (H : Hp ⟨w, M, I⟩ [] [] w) :
    Ctr Tryd.prog 36 [.int .u64 v] w M I (fun a : SV => .slice a.A a.n a.c) (fun a => a.n = (numB x 0).length) (fun a => [row 5 1 (.slice a.A a.n a.c) a.n (byC (numB x 0))]) (fun _ => []) := by
  subst hv; exact uintRef x hx w M I hM H
end Go.Proofs.YtenpgmnknmnofaaDoor
