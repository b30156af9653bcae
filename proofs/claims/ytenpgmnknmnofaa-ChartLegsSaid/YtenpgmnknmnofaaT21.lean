/- Legs in whatever order: the walk. -/
import Derived.Test.YtenpgmnknmnofaaT20
import Derived.Test.YtenpgmnknmnofaaT17
namespace Go.Proofs.Ytenpgmnknmnofaa
open Go Go.Proofs Go.Wk
theorem fewR (A : Option Addr) (n c : Nat) (ls : List Leg) (w : World) (M I : BS) (H : Hp ⟨w, M, I⟩ [] [Sl legR (.slice A n c) ls] w) :
    Ctr Try.prog 8 [.slice A n c] w M I (fun a : SV => .slice a.A a.n a.c) (fun a => a.n = (ls.take 12).length) (fun a => [row 50 2 (.slice a.A a.n a.c) a.n (legsC (ls.take 12))]) (fun _ => []) := by
  obtain ⟨hn, hc, hc2⟩ := H.sll (A := A) (n := n) (c := c)
  refine Exe.of_ev tok Try.call8 Try.func8 rfl rfl rfl ?_
  refine slice_as tok H [] rfl rfl rfl rfl rfl rfl fun g w1 H1 => ?_
  have H2 : Hp ⟨w, M, I⟩ [row 50 2 (.slice (some ⟨g, 0, none⟩) 0 0) 0 []] [Sl legR (.slice A n c) ls] w1 := H1.toRow 2 0 rfl (by decide)
  refine slice_sl tok H2 (k := min n 12) rfl rfl (min_v n) (Nat.min_le_left _ _) fun H3 => ?_
  refine append_sl (v := .slice (some ⟨g, 0, none⟩) 0 0) (A := A) (m := min n 12) (c := c) tok H3 rfl rfl rfl rfl rfl rfl rfl (fun x _ _ => legs_one x) ?_ (by omega) fun A2 c2 news w4 H4 => ?_
  · show (0 + min n 12) * 16 ≤ _
    omega
  have e12 : ls.take (min n 12) = ls.take 12 := by
    rw [hn]
    rcases Nat.le_total ls.length 12 with h | h
    · rw [Nat.min_eq_left h, List.take_of_length_le (Nat.le_refl _), List.take_of_length_le h]
    · rw [Nat.min_eq_right h]
  have H4' : Hp ⟨w, M, I⟩ [row 50 2 (.slice A2 (0 + min n 12) c2) (0 + min n 12) news] [Cl legR news (ls.take (min n 12)), Sl legR (.slice A (min n 12) c) (ls.take (min n 12)), Sl legR (.slice A n c) ls] w4 := H4
  have ec : news = legsC (ls.take 12) := by
    obtain ⟨I', _, _, ha, _⟩ := H4'.ex
    rw [← e12]
    exact cl_legs (ha _ List.mem_cons_self)
  subst ec
  exact Exists.intro ⟨A2, 0 + min n 12, c2⟩ (And.intro rfl (And.intro (by show 0 + min n 12 = _; simp; omega) (Hp.keep H4')))
theorem legs_amt {ls : List Leg} {j : Nat} {x : Leg} (h : ls[j]? = some x) : ldV (tb 48) (legsC ls) (0 + j * 2 + 1) = some (.int .i64 x.amt) := by
  obtain ⟨hj, _⟩ := List.getElem?_eq_some_iff.1 h
  have hd : ls.drop j = x :: ls.drop (j + 1) := by
    rw [List.drop_eq_getElem_cons hj]
    rw [List.getElem?_eq_getElem hj] at h
    rw [Option.some.inj h]
  show (legsC ls)[0 + j * 2 + 1]? = _
  have : (legsC ls)[0 + j * 2 + 1]? = ((legsC ls).drop (j * 2))[1]? := by rw [List.getElem?_drop]; congr 1; omega
  rw [this, legsC_drop, hd]
  rfl
theorem legs_setAmt : ∀ (ls : List Leg) (j : Nat) (x : Leg) (v : Int), ls[j]? = some x → setL (legsC ls) (0 + j * 2 + 1) [.int .i64 v] = legsC (ls.set j ⟨x.acct, v⟩)
  | [], j, x, v, h => by simp at h
  | y :: r, 0, x, v, h => by
    simp only [List.getElem?_cons_zero, Option.some.injEq] at h
    subst h
    rfl
  | y :: r, j + 1, x, v, h => by
    have ih := legs_setAmt r j x v (by simpa using h)
    rw [show 0 + (j + 1) * 2 + 1 = (0 + j * 2 + 1) + 1 + 1 by omega]
    show Value.int .u8 y.acct :: Value.int .i64 y.amt :: setL (legsC r) (0 + j * 2 + 1) [.int .i64 v] = _
    rw [ih]; rfl
/-- An amount's rest. -/
def modL (x : Leg) : Leg := ⟨x.acct, x.amt.tmod 1000000⟩
def sumA (a : Int) : List Leg → Int
  | [] => 0
  | x :: r => (if x.acct = a then x.amt else 0) + sumA a r
structure LegsOk (ls : List Leg) : Prop where
  sum : ∀ out, made ls out → ∀ a : Nat, a < 12 → ofV a out = sumA a ls
  len : ∀ out, made ls out → out.length ≤ 1000
  perm : ∀ t a b, t.Perm ls → made ls a → made t b → legsEq a b = true
theorem modL_in {x : Leg} : -999999 ≤ (modL x).amt ∧ (modL x).amt ≤ 999999 := by
  have h1 : (modL x).amt = x.amt.tmod 1000000 := rfl
  have h2 := Int.tmod_lt_of_pos x.amt (b := 1000000) (by decide)
  have h3 := Int.lt_tmod_of_pos x.amt (b := 1000000) (by decide)
  omega
/-- A number modulo few, as a place. -/
theorem rem_at {i a n : Nat} : ((i : Int) + a).tmod n = (((i + a) % n : Nat) : Int) := by
  rw [show (i : Int) + a = ((i + a : Nat) : Int) by omega]
  exact (Int.ofNat_tmod (i + a) n).symm
theorem sumA_take {a : Int} : ∀ (ls : List Leg) (i : Nat) (u : Leg), ls[i]? = some u → sumA a (ls.take (i + 1)) = sumA a (ls.take i) + (if u.acct = a then u.amt else 0)
  | [], i, u, h => by simp at h
  | x :: r, 0, u, h => by
    simp only [List.getElem?_cons_zero, Option.some.injEq] at h
    subst h
    simp [sumA]
  | x :: r, i + 1, u, h => by
    have := sumA_take (a := a) r i u (by simpa using h)
    rw [List.take_succ_cons, List.take_succ_cons, sumA, sumA, this]
    omega
theorem sumA_in {a : Int} : ∀ (ls : List Leg), (∀ x, x ∈ ls → -999999 ≤ x.amt ∧ x.amt ≤ 999999) → -999999 * (ls.length : Int) ≤ sumA a ls ∧ sumA a ls ≤ 999999 * (ls.length : Int)
  | [], _ => by simp [sumA]
  | x :: r, h => by
    have h1 := h x List.mem_cons_self
    have h2 := sumA_in (a := a) r fun y hy => h y (List.mem_cons_of_mem _ hy)
    simp only [sumA, List.length_cons]
    split <;> omega
/-- Two places of a list change places. -/
def swapL (l : List Leg) (i j : Nat) (x y : Leg) : List Leg := (l.set i y).set j x
theorem swap_perm {l : List Leg} {i j : Nat} {x y : Leg} (hx : l[i]? = some x) (hy : l[j]? = some y) : (swapL l i j x y).Perm l := by
  obtain ⟨hi, rfl⟩ := List.getElem?_eq_some_iff.1 hx
  obtain ⟨hj, rfl⟩ := List.getElem?_eq_some_iff.1 hy
  exact List.set_set_perm hi hj
set_option maxRecDepth 20000 in
set_option maxHeartbeats 2000000 in
theorem legsWalk (k : Key) (A : Option Addr) (n c : Nat) (ls : List Leg) (at_ : Int) (ha : inK .u8 at_) (law : LegsOk ((ls.take 12).map modL)) (w : World) (M I : BS) (hM : ∀ b, ¬ M b) (H : Hp ⟨w, M, I⟩ [] [Sl legR (.slice A n c) ls] w) :
    Ctr Try.prog 5 [keyV k, .slice A n c, .int .u8 at_] w M I (fun _ : Unit => .bool true) (fun _ => True) (fun _ => []) (fun _ => []) := by
  have hok := legs_ok (A := A) (n := n) (c := c) H
  refine Exe.of_ev tok Try.call5 Try.func5 rfl rfl rfl ?_
  refine box_as H (keyC k) rfl fun x w1 H1 => ?_
  refine call_rule H1 (fun M I h0 h => awake _ M I (h0 rfl) h) fun _ w2 _ H2 => ?_
  refine call_rule H2 (fun M I _ h => fewR A n c ls _ M I h) fun s1 => ?_
  rcases s1 with ⟨A1, n1, c1⟩
  intro w3 hn1 H3
  have hn1 : n1 = (ls.take 12).length := hn1
  have h12 : n1 ≤ 12 := by rw [hn1]; simp; omega
  have H3 : Hp ⟨w, M, I⟩ [row 50 2 (.slice A1 n1 c1) n1 (legsC (ls.take 12)), blk x (keyC k) 25] [] w3 := H3.keep
  have hok12 : ∀ y, y ∈ ls.take 12 → inK .u8 y.acct ∧ inK .i64 y.amt := fun y hy => hok y (List.mem_of_mem_take hy)
  generalize hL : ls.take 12 = L at hn1 H3 hok12 law
  refine loop_rule tok (σ := Nat) 34351349888 (fun i => [(23, .int .i64 i)])
    (fun i w' => i ≤ n1 ∧ Hp ⟨w, M, I⟩ [row 50 2 (.slice A1 n1 c1) n1 (legsC ((L.take i).map modL ++ L.drop i)), blk x (keyC k) 25] [] w') (fun i => n1 - i) 0 rfl rfl ⟨rfl, trivial⟩ ⟨Nat.zero_le _, H3⟩ ?_
  rintro i j w4 ⟨hi, H4⟩
  refine brd (fun q => ?_) (fun q => ?_)
  · have q : (i : Int) < n1 := q
    have hil : i < n1 := by omega
    obtain ⟨b1, rfl⟩ := H4.rowSome (A := A1) (n := n1) (c := c1) (by omega)
    obtain ⟨u, hu⟩ : ∃ u, L[i]? = some u := ⟨_, List.getElem?_eq_getElem (by omega)⟩
    have i1 : (0 : Int) ≤ (i : Int) := by omega
    have hlen : ((L.take i).map modL).length = i := by simp; omega
    have hu2 : ((L.take i).map modL ++ L.drop i)[i]? = some u := by
      rw [List.getElem?_append_right (by omega), hlen, List.getElem?_drop]; simpa using hu
    have hl2 : (legsC ((L.take i).map modL ++ L.drop i)).length = n1 * 2 := by rw [legsC_len]; simp; omega
    refine idx_own tok rfl rfl i1 q ?_
    refine row_ld tok H4 (.int .i64 u.amt) (legs_amt hu2) ?_
    refine rem_rule (by decide) ?_
    refine idx_own tok rfl rfl i1 q ?_
    refine row_st tok H4 rfl rfl (by rw [hl2]; show 0 + i * 2 + 1 + 1 ≤ _; omega) rfl fun w5 H5 => ?_
    refine Exists.intro (i + 1) (And.intro ⟨?_, trivial⟩ (And.intro ?_ ⟨?_, ?_⟩))
    · show Value.int .i64 (IntKind.i64.wrap (i + 1)) = _
      rw [w64 (by omega) (by omega)]; rfl
    · omega
    · omega
    · have e : setL (legsC ((L.take i).map modL ++ L.drop i)) (0 + i * 2 + 1) [.int .i64 (u.amt.tmod 1000000)] = legsC ((L.take (i + 1)).map modL ++ L.drop (i + 1)) := by
        rw [legs_setAmt _ _ _ _ hu2]
        congr 1
        have hd : L.drop i = u :: L.drop (i + 1) := by
          rw [List.drop_eq_getElem_cons (by omega)]
          rw [List.getElem?_eq_getElem (by omega)] at hu
          rw [Option.some.inj hu]
        rw [List.set_append_right _ _ (by omega), hlen, Nat.sub_self, hd, List.set_cons_zero, List.take_add_one, hu]
        simp [modL]
      rw [← e]
      exact H5
  have q : ¬ (i : Int) < n1 := q
  have hii : i = n1 := by omega
  subst hii
  have H4 : Hp ⟨w, M, I⟩ [row 50 2 (.slice A1 i c1) i (legsC (L.map modL)), blk x (keyC k) 25] [] w4 := by
    have e : (L.take i).map modL ++ L.drop i = L.map modL := by rw [hn1]; simp
    rw [e] at H4
    exact H4
  have hm : ∀ y, y ∈ L.map modL → inK .u8 y.acct ∧ inK .i64 y.amt := fun y hy => by
    obtain ⟨z, hz, rfl⟩ := List.mem_map.1 hy
    refine ⟨(hok12 z hz).1, ?_⟩
    have := modL_in (x := z)
    simp only [inK, kLo, kHi]; omega
  have hM' : ∀ y, y ∈ L.map modL → -999999 ≤ y.amt ∧ y.amt ≤ 999999 := fun y hy => by
    obtain ⟨z, hz, rfl⟩ := List.mem_map.1 hy
    exact modL_in
  have hml : (L.map modL).length = i := by rw [List.length_map, hn1]
  generalize L.map modL = N at H4 hm hM' hml law
  have H5 := frzLegsRow H4 (v := .slice A1 i c1) N hM hm
  refine load_rule tok H5 (v := keyV k) rfl ?_
  refine call_rule H5 (fun M I h0 h => make k A1 i c1 N (by omega) _ M I (h0 rfl) h) fun a w6 hφ H6 => ?_
  refine alloc_as tok H6 zeroC rfl rfl rfl fun e w7 H7 => ?_
  refine store_as tok H7 (entC k a.1.A a.1.n a.1.c) rfl rfl rfl rfl rfl fun w8 H8 => ?_
  refine slice_as tok H8 [] rfl rfl rfl rfl rfl rfl fun g w9 H9 => ?_
  have H10 : Hp ⟨w, M, I⟩ [row 50 2 (.slice (some ⟨g, 0, none⟩) 0 0) 0 [], blk e (entC k a.1.A a.1.n a.1.c) 30, blk x (keyC k) 25] [Sl legR (.slice a.1.A a.1.n a.1.c) a.2, Sl legR (.slice A1 i c1) N] w9 := (H9.toRow (g := g) 2 0 rfl (by decide)).keep
  refine append_sl (v := .slice (some ⟨g, 0, none⟩) 0 0) (A := A1) (m := i) (c := c1) tok H10 rfl rfl rfl rfl rfl rfl rfl (fun x _ _ => legs_one x) (by show (0 + i) * 16 ≤ _; omega) (by omega) fun A2 c2 news w11 H11 => ?_
  have ec : news = legsC N := by
    obtain ⟨I', _, _, ha, _⟩ := H11.ex
    exact cl_legs (ha _ List.mem_cons_self)
  subst ec
  have H11' : Hp ⟨w, M, I⟩ [row 50 2 (.slice A2 (0 + i) c2) (0 + i) ([] ++ legsC N), blk e (entC k a.1.A a.1.n a.1.c) 30, blk x (keyC k) 25] [Sl legR (.slice a.1.A a.1.n a.1.c) a.2, Sl legR (.slice A1 i c1) N] w11 := H11.keep
  have H11 : Hp ⟨w, M, I⟩ [row 50 2 (.slice A2 (0 + i) c2) (0 + i) (legsC N), blk e (entC k a.1.A a.1.n a.1.c) 30, blk x (keyC k) 25] [Sl legR (.slice a.1.A a.1.n a.1.c) a.2, Sl legR (.slice A1 i c1) N] w11 := H11'
  refine loop_rule tok (σ := Nat × List Leg) 295147896383259806720 (fun s => [(43, .int .i64 s.1)])
    (fun s w' => s.1 ≤ i ∧ s.2.Perm N ∧ Hp ⟨w, M, I⟩ [row 50 2 (.slice A2 (0 + i) c2) (0 + i) (legsC s.2), blk e (entC k a.1.A a.1.n a.1.c) 30, blk x (keyC k) 25] [Sl legR (.slice a.1.A a.1.n a.1.c) a.2, Sl legR (.slice A1 i c1) N] w') (fun s => i - s.1) (0, N) rfl rfl ⟨rfl, trivial⟩ ⟨Nat.zero_le _, .refl _, H11⟩ ?_
  rintro ⟨m, l⟩ j2 w12 ⟨hmi, hp, H12⟩
  simp only at hmi hp H12
  have ha2 : 0 ≤ at_ ∧ at_ ≤ 255 := ha
  have hll : l.length = i := by rw [hp.length_eq, hml]
  refine brd (fun q => ?_) (fun q => ?_)
  · have q : (m : Int) < ((0 + i : Nat) : Int) := q
    have hmi : m < i := by omega
    obtain ⟨b2, rfl⟩ := H12.rowSome (A := A2) (n := 0 + i) (c := c2) (by omega)
    obtain ⟨at2, rfl⟩ : ∃ a : Nat, at_ = a := ⟨at_.toNat, by omega⟩
    have hjn : (m + at2) % i < i := Nat.mod_lt _ (by omega)
    generalize hjj : (m + at2) % i = jn at hjn
    refine rem_as (jn : Int) (by show ((0 + i : Nat) : Int) ≠ 0; omega) (by
      show (IntKind.i64.wrap ((m : Int) + IntKind.i64.wrap at2)).tmod ((0 + i : Nat) : Int) = _
      rw [w64 (n := (at2 : Int)) (by omega) (by omega), w64 (n := (m : Int) + at2) (by omega) (by omega), rem_at, Nat.zero_add, hjj]) ?_
    obtain ⟨u, hu⟩ : ∃ u, l[m]? = some u := ⟨_, List.getElem?_eq_getElem (by omega)⟩
    obtain ⟨v, hv⟩ : ∃ v, l[jn]? = some v := ⟨_, List.getElem?_eq_getElem (by omega)⟩
    have i1 : (0 : Int) ≤ (m : Int) := by omega
    have i2 : (m : Int) < ((0 + i : Nat) : Int) := by omega
    have i3 : (0 : Int) ≤ (jn : Int) := by omega
    have i4 : (jn : Int) < ((0 + i : Nat) : Int) := by omega
    have hln : (legsC l).length = i * 2 := by rw [legsC_len, hll]
    have hb1 : 0 + m * 2 + 2 ≤ (legsC l).length := by rw [hln]; omega
    have hb2 : 0 + jn * 2 + 2 ≤ (setL (legsC l) (0 + m * 2) [.int .u8 v.acct, .int .i64 v.amt]).length := by rw [length_setL, hln]; omega
    refine draw_rule (A := [row 50 2 (.slice (some ⟨b2, 0, none⟩) (0 + i) c2) (0 + i) (legsC l)]) tok tdr H12 [0, 1, 4, 5, 6, 7, 8, 9, 10, 11, 12, 13, 2, 3, 14, 15] [0, 0, 0, 0, 0, 0, 48, 112, 0, 0, 768, 1792, 4083, 8179, 16383, 32767] rfl ?_
    refine pass_rule _ (fun w h => idx_own tok rfl rfl i3 i4 ⟨rfl, rfl⟩) ?_
    refine pass_last _ rfl (fun X w h => row_ld tok h (legV v) (legs_get hv) ⟨rfl, rfl⟩) ?_
    refine pass_rule _ (fun w h => idx_own tok rfl rfl i1 i2 ⟨rfl, rfl⟩) ?_
    refine pass_last _ rfl (fun X w h => row_ld tok h (legV u) (legs_get hu) ⟨rfl, rfl⟩) ?_
    refine pass_rule _ (fun w h => idx_own tok rfl rfl i1 i2 ⟨rfl, rfl⟩) ?_
    refine imp_rule (fun X w h => row_st tok h rfl rfl hb1 rfl fun w' H' => imp_done H' ?_)
    refine pass_rule _ (fun w h => idx_own tok rfl rfl i3 i4 ⟨rfl, rfl⟩) ?_
    refine imp_rule (fun X w h => row_st tok h rfl rfl hb2 rfl fun w' H' => imp_done H' ?_)
    refine done_rule fun w13 H13 => ?_
    refine Exists.intro (m + 1, swapL l m jn u v) (And.intro ⟨?_, trivial⟩ (And.intro ?_ ⟨?_, ?_, ?_⟩))
    · show Value.int .i64 (IntKind.i64.wrap (m + 1)) = _
      rw [w64 (by omega) (by omega)]; rfl
    · simp only; omega
    · simp only; omega
    · exact (swap_perm hu hv).trans hp
    · have e1 : setL (setL (legsC l) (0 + m * 2) [.int .u8 v.acct, .int .i64 v.amt]) (0 + jn * 2) [.int .u8 u.acct, .int .i64 u.amt] = legsC (swapL l m jn u v) := by
        rw [legs_set, legs_set]; rfl
      rw [← e1]
      exact H13
  have H13 := frzLegsRow H12 (v := .slice A2 (0 + i) c2) l hM fun y hy => hm y (hp.mem_iff.1 hy)
  refine load_rule tok H13 (v := keyV k) rfl ?_
  refine call_rule H13 (fun M I h0 h => make k A2 (0 + i) c2 l (by omega) _ M I (h0 rfl) h) fun b w14 hφ2 H14 => ?_
  refine alloc_as tok H14 zeroC rfl rfl rfl fun f w15 H15 => ?_
  refine store_as tok H15 (entC k b.1.A b.1.n b.1.c) rfl rfl rfl rfl rfl fun w16 H16 => ?_
  have H16 : Hp ⟨w, M, I⟩ [blk f (entC k b.1.A b.1.n b.1.c) 30, blk e (entC k a.1.A a.1.n a.1.c) 30, blk x (keyC k) 25] [Sl legR (.slice b.1.A b.1.n b.1.c) b.2, Sl legR (.slice a.1.A a.1.n a.1.c) a.2, Sl legR (.slice A1 i c1) N] w16 := H16.keep
  refine loop_rule tok (σ := Nat) 158456322667345433752265384000 (fun s => [(71, .int .i64 s)])
    (fun s w' => s ≤ 12 ∧ Hp ⟨w, M, I⟩ [blk f (entC k b.1.A b.1.n b.1.c) 30, blk e (entC k a.1.A a.1.n a.1.c) 30, blk x (keyC k) 25] [Sl legR (.slice b.1.A b.1.n b.1.c) b.2, Sl legR (.slice a.1.A a.1.n a.1.c) a.2, Sl legR (.slice A1 i c1) N] w') (fun s => 12 - s) 0 rfl rfl ⟨rfl, trivial⟩ ⟨Nat.zero_le _, H16⟩ ?_
  rintro ac j3 w17 ⟨hac, H17⟩
  refine brd (fun q => ?_) (fun q => ?_)
  · have q : (ac : Int) < 12 := q
    refine loop_rule tok (σ := Nat) 1237864481421654360575787008 (fun s => [(76, .int .i64 s), (14, .int .i64 (sumA ac (N.take s)))])
      (fun s w' => s ≤ i ∧ Hp ⟨w, M, I⟩ [blk f (entC k b.1.A b.1.n b.1.c) 30, blk e (entC k a.1.A a.1.n a.1.c) 30, blk x (keyC k) 25] [Sl legR (.slice b.1.A b.1.n b.1.c) b.2, Sl legR (.slice a.1.A a.1.n a.1.c) a.2, Sl legR (.slice A1 i c1) N] w') (fun s => i - s) 0 rfl rfl ⟨rfl, rfl, trivial⟩ ⟨Nat.zero_le _, H17⟩ ?_
    rintro d j4 w18 ⟨hd, H18⟩
    refine brd (fun q2 => ?_) (fun q2 => ?_)
    · have q2 : (d : Int) < i := q2
      obtain ⟨u, hu⟩ : ∃ u, N[d]? = some u := ⟨_, List.getElem?_eq_getElem (by omega)⟩
      obtain ⟨b3, o3, rfl⟩ := H18.slAt (A := A1) (n := i) (c := c1) (r := legR) (by omega)
      refine idx_own tok rfl rfl (show (0 : Int) ≤ (d : Int) by omega) q2 ?_
      refine sl_ld (n := i) (c := c1) (j := d) (f := 0) (r := legR) tok H18 (legV u) hu rfl (fun _ _ => rfl) ?_
      refine alloc_as tok H18 [.int .u8 0, .int .i64 0] rfl rfl rfl fun z w19 H19 => ?_
      refine store_as tok H19 [.int .u8 u.acct, .int .i64 u.amt] rfl rfl rfl rfl rfl fun w20 H20 => ?_
      refine load_rule tok H20 (v := .int .u8 u.acct) rfl ?_
      have hum : u ∈ N := List.mem_of_getElem? hu
      have hu8 : 0 ≤ u.acct ∧ u.acct ≤ 255 := (hm u hum).1
      have hua := hM' u hum
      have htk := sumA_take (a := ac) N d u hu
      have hs := sumA_in (a := ac) (N.take d) fun y hy => hM' y (List.mem_of_mem_take hy)
      have htl : (N.take d).length ≤ 12 := by simp; omega
      refine brd (fun q3 => ?_) (fun q3 => ?_)
      · have q3 : IntKind.i64.wrap u.acct = ac := q3
        rw [w64 (by omega) (by omega)] at q3
        refine load_rule tok H20 (v := .int .i64 u.amt) rfl ?_
        refine Exists.intro (d + 1) (And.intro ⟨?_, ?_, trivial⟩ (And.intro ?_ ⟨?_, H20.keep⟩))
        · show Value.int .i64 (IntKind.i64.wrap (d + 1)) = _
          rw [w64 (by omega) (by omega)]; rfl
        · show Value.int .i64 (IntKind.i64.wrap (sumA ac (N.take d) + u.amt)) = _
          rw [w64 (by omega) (by omega), htk, if_pos q3]
        · omega
        · omega
      · have q3 : ¬ IntKind.i64.wrap u.acct = ac := q3
        rw [w64 (by omega) (by omega)] at q3
        refine Exists.intro (d + 1) (And.intro ⟨?_, ?_, trivial⟩ (And.intro ?_ ⟨?_, H20.keep⟩))
        · show Value.int .i64 (IntKind.i64.wrap (d + 1)) = _
          rw [w64 (by omega) (by omega)]; rfl
        · show Value.int .i64 (sumA ac (N.take d)) = _
          rw [htk, if_neg q3, Int.add_zero]
        · omega
        · omega
    · have q2 : ¬ (d : Int) < i := q2
      refine load_rule tok H18 (v := .agg #[.int .u32 k.loan, .int .i32 k.day, .int .u8 k.kind, .int .u32 k.seq, .slice a.1.A a.1.n a.1.c]) rfl ?_
      refine call_rule H18 (fun M I _ h => of_ k a.1.A a.1.n a.1.c a.2 (IntKind.u8.wrap ac) _ M I h) fun _ w19 _ H19 => ?_
      have hsum : ofV (IntKind.u8.wrap ac) a.2 = sumA ac (N.take d) := by
        rw [wrap_id (k := .u8) ⟨by show (0 : Int) ≤ _; omega, by show _ ≤ (255 : Int); omega⟩, law.sum _ hφ ac (by omega), List.take_of_length_le (by omega)]
      refine br (fun q3 => ?_) (fun q3 => ?_)
      · have q3 : (ofV (IntKind.u8.wrap ac) a.2 != sumA ac (N.take d)) = true := q3
        rw [hsum] at q3
        simp at q3
      · refine Exists.intro (ac + 1) (And.intro ⟨?_, trivial⟩ (And.intro ?_ ⟨?_, H19.keep⟩))
        · show Value.int .i64 (IntKind.i64.wrap (ac + 1)) = _
          rw [w64 (by omega) (by omega)]; rfl
        · omega
        · omega
  · refine load_rule tok H17 (v := .agg #[.int .u32 k.loan, .int .i32 k.day, .int .u8 k.kind, .int .u32 k.seq, .slice a.1.A a.1.n a.1.c]) rfl ?_
    refine load_rule tok H17 (v := .agg #[.int .u32 k.loan, .int .i32 k.day, .int .u8 k.kind, .int .u32 k.seq, .slice b.1.A b.1.n b.1.c]) rfl ?_
    have s1 := H17.sll (A := a.1.A) (n := a.1.n) (c := a.1.c)
    have s2 := H17.sll (A := b.1.A) (n := b.1.n) (c := b.1.c)
    refine call_rule H17 (fun M I _ h => same_ k k a.1.A b.1.A a.1.n a.1.c b.1.n b.1.c a.2 b.2 _ M I h ⟨s1.1, by omega⟩ s2.1) fun _ w19 _ H19 => ?_
    refine Exists.intro () (And.intro (congrArg Value.bool ?_) (And.intro trivial (Hp.keep H19)))
    rw [sameB, law.perm l a.2 b.2 hp hφ hφ2]
    simp [eqK]
end Go.Proofs.Ytenpgmnknmnofaa
