/- The document's ledger: Post, Reverse: the walks. -/
import Derived.Test.YtfemfomgmopibaaGreatDoorB10
namespace Go.Proofs.YtfemfomgmopibaaGreatDoor
open Go Go.Proofs Go.Wk
def postROk (s : SV) (xs : List Ln) (x : Ln) (a : RR) : Prop :=
  if rightR x.k x.ls = false then a = ⟨1, s, xs⟩ else if 0 ≤ liveGo x.k xs 0 (-1) then a = ⟨10, s, xs⟩ else addROk s xs x a
set_option maxRecDepth 20000 in
theorem postRef (p : Nat) (s : SV) (xs : List Ln) (hsn : s.n = xs.length) (k : Key) (A : Option Addr) (n c : Nat) (ls : List Leg) (hok : LnsOk (xs ++ [Ln.mk k ⟨A, n, c⟩ 0 ls])) (w : World) (M I : BS)
    (H : Hp ⟨w, M, I⟩ (refA p s xs) [Sl legR (.slice A n c) ls, LnF xs] w) :
    Ctr Tryz.prog 28 [.pointer (some ⟨p, 0, none⟩), .agg #[.int .u32 k.loan, .int .i32 k.day, .int .u8 k.kind, .int .u32 k.seq, .slice A n c]] w M I (fun a : RR => .int .i64 a.c) (postROk s xs (Ln.mk k ⟨A, n, c⟩ 0 ls)) (fun a => refA p a.s a.xs) (fun a => [LnF a.xs]) := by
  obtain ⟨hn, hc, hc2⟩ := H.sll (A := A) (n := n) (c := c)
  have hokx : LnsOk xs := ⟨by have := hok.1; rw [List.length_append] at this; omega, fun x hx => hok.2 x (List.mem_append_left _ hx)⟩
  refine Exe.of_ev tok Tryz.call28 Tryz.func28 rfl rfl rfl ?_
  refine box_as H (entC k A n c) rfl fun eb w1 H1 => ?_
  refine load_rule tok H1 (v := .agg #[.int .u32 k.loan, .int .i32 k.day, .int .u8 k.kind, .int .u32 k.seq, .slice A n c]) rfl ?_
  refine call_rule H1 (fun M I _ h => rightRef k A n c ls hn _ M I h) fun _ w2 _ H2 => ?_
  refine br (fun q => ?_) (fun q => ?_)
  · have q : rightR k ls = false := by simpa using q
    have okk : postROk s xs (Ln.mk k ⟨A, n, c⟩ 0 ls) ⟨1, s, xs⟩ := by unfold postROk; rw [if_pos q]
    exact Exists.intro ⟨1, s, xs⟩ (And.intro rfl (And.intro okk (Hp.keep H2)))
  have q : rightR k ls = true := by simpa using q
  have q' : ¬ rightR (Ln.mk k ⟨A, n, c⟩ 0 ls).k (Ln.mk k ⟨A, n, c⟩ 0 ls).ls = false := by show ¬ rightR k ls = false; rw [q]; simp
  refine load_rule tok H2 (v := keyV k) rfl ?_
  refine call_rule H2 (fun M I _ h => liveRef p s xs hokx hsn k _ M I h) fun _ w3 _ H3 => ?_
  refine brd (fun q2 => ?_) (fun q2 => ?_)
  · have okk : postROk s xs (Ln.mk k ⟨A, n, c⟩ 0 ls) ⟨10, s, xs⟩ := by unfold postROk; rw [if_neg q', if_pos q2]
    exact Exists.intro ⟨10, s, xs⟩ (And.intro rfl (And.intro okk (Hp.keep H3)))
  refine load_rule tok H3 (v := .agg #[.int .u32 k.loan, .int .i32 k.day, .int .u8 k.kind, .int .u32 k.seq, .slice A n c]) rfl ?_
  refine call_rule H3 (fun M I _ h => addRefL p s xs hsn k A n c ls 0 hok _ M I h) fun a w4 ha H4 => ?_
  have okk : postROk s xs (Ln.mk k ⟨A, n, c⟩ 0 ls) a := by unfold postROk; rw [if_neg q', if_neg q2]; exact ha
  exact Exists.intro a (And.intro rfl (And.intro okk (Hp.keep H4)))
/-- Do all amounts and all sums have an other way? As the document asks. -/
def negGo (s : Int) : List Leg → Bool
  | [] => true
  | x :: r => !decide (x.amt = -9223372036854775808) && (in64 (s + -x.amt) && negGo (s + -x.amt) r)
def revROk (s : SV) (xs : List Ln) (k : Key) (a : RR) : Prop :=
  if liveGo k xs 0 (-1) < 0 then a = ⟨3, s, xs⟩ else ∃ x, xs[(liveGo k xs 0 (-1)).toNat]? = some x ∧
    (if negGo 0 x.ls = false then a = ⟨12, s, xs⟩ else ∃ sv, addROk s xs ⟨k, sv, liveGo k xs 0 (-1) + 1, x.ls.map negL⟩ a)
theorem lnsR_legs {xs : List Ln} {j : Nat} {x : Ln} (h : xs[j]? = some x) : ldV (tb 62) (lnsC xs) (0 + j * 6 + 0 + 4) = some (.slice x.s.A x.s.n x.s.c) := by
  obtain ⟨hj, _⟩ := List.getElem?_eq_some_iff.1 h
  have hd : xs.drop j = x :: xs.drop (j + 1) := by
    rw [List.drop_eq_getElem_cons hj]
    rw [List.getElem?_eq_getElem hj] at h
    rw [Option.some.inj h]
  show (lnsC xs)[0 + j * 6 + 0 + 4]? = _
  have : (lnsC xs)[0 + j * 6 + 0 + 4]? = ((lnsC xs).drop (j * 6))[4]? := by rw [List.getElem?_drop]; congr 1; omega
  rw [this, lnsC_drop, hd]
  rfl
set_option maxRecDepth 20000 in
set_option maxHeartbeats 1000000 in
theorem reverseRef (p : Nat) (s : SV) (xs : List Ln) (hsn : s.n = xs.length) (hok : LnsOk xs) (hl9 : xs.length < 1000) (k : Key) (hk : keyIn k) (hlv : liveGo k xs 0 (-1) < xs.length) (w : World) (M I : BS)
    (H : Hp ⟨w, M, I⟩ (refA p s xs) [LnF xs] w) :
    Ctr Tryz.prog 26 [.pointer (some ⟨p, 0, none⟩), keyV k] w M I (fun a : RR => .int .i64 a.c) (revROk s xs k) (fun a => refA p a.s a.xs) (fun a => [LnF a.xs]) := by
  refine Exe.of_ev tok Tryz.call26 Tryz.func26 rfl rfl rfl ?_
  refine box_as H (keyC k) rfl fun kb w1 H1 => ?_
  refine load_rule tok H1 (v := keyV k) rfl ?_
  refine call_rule H1 (fun M I _ h => liveRef p s xs hok hsn k _ M I h) fun _ w2 _ H2 => ?_
  refine brd (fun q => ?_) (fun q => ?_)
  · have okk : revROk s xs k ⟨3, s, xs⟩ := by unfold revROk; rw [if_pos q]
    exact Exists.intro ⟨3, s, xs⟩ (And.intro rfl (And.intro okk (Hp.keep H2)))
  have q0 : 0 ≤ liveGo k xs 0 (-1) := by omega
  obtain ⟨B, m, d⟩ := s
  simp only at hsn H1 H2
  obtain ⟨b, rfl⟩ := H2.rowSome (A := B) (n := m) (c := d) (by omega)
  obtain ⟨u, hu⟩ : ∃ u, xs[(liveGo k xs 0 (-1)).toNat]? = some u := ⟨_, List.getElem?_eq_getElem (by omega)⟩
  have hum := List.mem_of_getElem? hu
  have hul := (hok.2 u hum).2.2
  have H2 : Hp ⟨w, M, I⟩ [blk p [.slice (some ⟨b, 0, none⟩) m d] 33, row 66 6 (.slice (some ⟨b, 0, none⟩) m d) m (lnsC xs), blk kb (keyC k) 61] [Sl legR (.slice u.s.A u.s.n u.s.c) u.ls, LnF xs] w2 := Hp.lnAt H2 (xs := xs) hum
  obtain ⟨hn, hc, hc2⟩ := H2.sll (A := u.s.A) (n := u.s.n) (c := u.s.c)
  have hlok := legs_ok (A := u.s.A) (n := u.s.n) (c := u.s.c) H2
  obtain ⟨M', I', h0, hm', hk'⟩ := Hp.call (A := []) (S := [blk p [.slice (some ⟨b, 0, none⟩) m d] 33, row 66 6 (.slice (some ⟨b, 0, none⟩) m d) m (lnsC xs), blk kb (keyC k) 61]) (G := [Sl legR (.slice u.s.A u.s.n u.s.c) u.ls, LnF xs]) H2 fun I ha => ha
  have hM := hm' rfl
  have over : ∀ w', negGo 0 u.ls = false → Hp ⟨w2, M', I'⟩ [] [] w' →
      ∃ a : RR, Value.int .i64 12 = .int .i64 a.c ∧ revROk ⟨some ⟨b, 0, none⟩, m, d⟩ xs k a ∧ Hp ⟨w, M, I⟩ (refA p a.s a.xs) [LnF a.xs] w' := fun w' e hw => by
    have hz : Hp ⟨w, M, I⟩ [blk p [.slice (some ⟨b, 0, none⟩) m d] 33, row 66 6 (.slice (some ⟨b, 0, none⟩) m d) m (lnsC xs), blk kb (keyC k) 61] [Sl legR (.slice u.s.A u.s.n u.s.c) u.ls, LnF xs] w' := hk' [] [] w' hw
    refine ⟨⟨12, ⟨some ⟨b, 0, none⟩, m, d⟩, xs⟩, rfl, ?_, Hp.keep hz⟩
    unfold revROk
    rw [if_neg q]
    refine ⟨u, hu, ?_⟩
    rw [if_pos e]
  refine load_rule tok H2 (v := keyV k) rfl ?_
  refine alloc_as tok h0 zeroC rfl rfl rfl fun o w3 H3 => ?_
  refine store_as tok H3 (entC k none 0 0) rfl rfl rfl rfl rfl fun w4 H4 => ?_
  have F4 : Hp ⟨w, M, I⟩ [blk o (entC k none 0 0) 64, blk p [.slice (some ⟨b, 0, none⟩) m d] 33, row 66 6 (.slice (some ⟨b, 0, none⟩) m d) m (lnsC xs), blk kb (keyC k) 61] [Sl legR (.slice u.s.A u.s.n u.s.c) u.ls, LnF xs, Sl legR (.slice u.s.A u.s.n u.s.c) u.ls, LnF xs] w4 := hk' _ _ w4 H4
  refine load_rule tok F4 (v := .slice (some ⟨b, 0, none⟩) m d) rfl ?_
  refine idx_own tok rfl rfl q0 (by omega) ?_
  refine row_ld (n := m) (c := d) tok F4 (v := .slice u.s.A u.s.n u.s.c) (lnsR_legs hu) ?_
  have H4' : Hp ⟨w2, M', I'⟩ [row 128 2 (.slice none 0 0) 0 (legsC ((u.ls.take 0).map negL)), blk o (entC k none 0 0) 64] [Sl legR (.slice u.s.A u.s.n u.s.c) u.ls, LnF xs] w4 := (Hp.nil H4 128 2)
  refine loop_rule tok (σ := Nat × Int × SV) 576460751766556304 (fun t => [(7, .int .i64 t.2.1), (29, .int .i64 t.1)])
    (fun t w' => t.1 ≤ u.ls.length ∧ t.2.2.n = t.1 ∧ inK .i64 t.2.1 ∧ negGo 0 u.ls = negGo t.2.1 (u.ls.drop t.1) ∧ (∀ y, y ∈ u.ls.take t.1 → y.amt ≠ -9223372036854775808) ∧ Hp ⟨w2, M', I'⟩ [row 128 2 (.slice t.2.2.A t.2.2.n t.2.2.c) t.2.2.n (legsC ((u.ls.take t.1).map negL)), blk o (entC k t.2.2.A t.2.2.n t.2.2.c) 64] [Sl legR (.slice u.s.A u.s.n u.s.c) u.ls, LnF xs] w') (fun t => u.ls.length - t.1) (0, 0, ⟨none, 0, 0⟩) rfl rfl ⟨rfl, rfl, trivial⟩
    ⟨Nat.zero_le _, rfl, ⟨by simp [kLo], by simp [kHi]⟩, rfl, (fun y hy => by cases hy), H4'⟩ ?_
  rintro ⟨i, sm, A1, n1, c1⟩ j w5 ⟨hi, hn1, hin, hg, hmn, H5⟩
  simp only at hi hn1 hin hg hmn H5
  subst hn1
  refine brd (fun h => ?_) (fun h => ?_)
  · have h : (n1 : Int) < u.s.n := h
    have hil : n1 < u.ls.length := by omega
    obtain ⟨g, hgg⟩ : ∃ g, u.ls[n1]? = some g := ⟨_, List.getElem?_eq_getElem hil⟩
    have hdg : u.ls.drop n1 = g :: u.ls.drop (n1 + 1) := by
      rw [List.drop_eq_getElem_cons hil]
      rw [List.getElem?_eq_getElem hil] at hgg
      rw [Option.some.inj hgg]
    have hg3 := (hlok g (List.mem_of_getElem? hgg)).2
    have hg4 : -9223372036854775808 ≤ g.amt ∧ g.amt ≤ 9223372036854775807 := hg3
    have hj64 : Value.int .i64 (IntKind.i64.wrap (n1 + 1)) = .int .i64 ((n1 + 1 : Nat) : Int) := by rw [w64 (by omega) (by omega)]; rfl
    rw [hdg, negGo] at hg
    refine idx_rule tok H5 (r := legR) (A := u.s.A) (n := u.s.n) (c := u.s.c) rfl rfl rfl (show (0 : Int) ≤ (n1 : Int) by omega) h fun pb po g' hg' H6 => ?_
    have eg : g' = g := Option.some.inj ((show u.ls[n1]? = some g' by simpa using hg').symm.trans hgg)
    subst eg
    refine ldp_rule tok H6 rfl rfl rfl fun _ _ H7 => ?_
    refine alloc_as tok H7 [.int .u8 0, .int .i64 0] rfl rfl rfl fun y w8 H8 => ?_
    refine store_as tok H8 [.int .u8 g'.acct, .int .i64 g'.amt] rfl rfl rfl rfl rfl fun w9 H9 => ?_
    refine load_rule tok H9 (v := .int .i64 g'.amt) rfl ?_
    refine br (fun q1 => ?_) (fun q1 => ?_)
    · have q1 : (g'.amt == -9223372036854775808) = true := q1
      have q1 : g'.amt = -9223372036854775808 := by simpa using q1
      exact over _ (by rw [hg, decide_eq_true q1]; rfl) (Hp.keep H9)
    have q1 : (g'.amt == -9223372036854775808) = false := q1
    have q1 : ¬ g'.amt = -9223372036854775808 := by simpa using q1
    have ew : IntKind.i64.wrap (0 - g'.amt) = -g'.amt := by rw [w64 (by omega) (by omega)]; omega
    have hn3 : inK .i64 (-g'.amt) := ⟨by show -9223372036854775808 ≤ -g'.amt; omega, by show -g'.amt ≤ 9223372036854775807; omega⟩
    refine load_rule tok H9 (v := .int .i64 g'.amt) rfl ?_
    rcases (show in64 (sm + -g'.amt) = true ∨ in64 (sm + -g'.amt) = false by cases in64 (sm + -g'.amt) <;> simp) with en | en
    · have en' := en
      simp only [in64, Bool.and_eq_true, decide_eq_true_eq] at en'
      have hadd : ∀ w M I, Hp ⟨w, M, I⟩ [] [] w → Ctr Tryz.prog 55 [.int .i64 sm, .int .i64 (IntKind.i64.wrap (0 - g'.amt))] w M I (fun _ : Unit => .tuple #[.int .i64 (sm + -g'.amt), .bool true]) (fun _ => True) (fun _ => []) (fun _ => []) := fun w M I h => by
        rw [ew]; exact (addR_ok en).symm ▸ addRef sm (-g'.amt) hin hn3 w M I h
      refine call_rule H9 (fun M I _ h => hadd _ M I h) fun _ w11 _ H11 => ?_
      refine load_rule tok H11 (v := .slice A1 n1 c1) rfl ?_
      refine load_rule tok H11 (v := .int .u8 g'.acct) rfl ?_
      refine load_rule tok H11 (v := .int .i64 g'.amt) rfl ?_
      refine slice_as tok H11 [.int .u8 g'.acct, .int .i64 (IntKind.i64.wrap (0 - g'.amt))] rfl rfl rfl rfl rfl rfl fun gb w12 H12 => ?_
      refine append_rule (v := .slice A1 n1 c1) (b := gb) (m := 1) (c := 1) tok H12 rfl rfl rfl rfl rfl rfl rfl rfl (by show (n1 + 1) * 16 ≤ _; omega) (by omega) fun A2 c2 w13 H13 => ?_
      refine store_as tok H13 (entC k A2 (n1 + 1) c2) rfl rfl rfl rfl rfl fun w14 H14 => ?_
      have e : legsC ((u.ls.take (n1 + 1)).map negL) = legsC ((u.ls.take n1).map negL) ++ [.int .u8 g'.acct, .int .i64 (IntKind.i64.wrap (0 - g'.amt))] := by
        rw [List.take_add_one, hgg, List.map_append, legsC_app, ew]; rfl
      have H15 : Hp ⟨w2, M', I'⟩ [row 128 2 (.slice A2 (n1 + 1) c2) (n1 + 1) (legsC ((u.ls.take n1).map negL) ++ [.int .u8 g'.acct, .int .i64 (IntKind.i64.wrap (0 - g'.amt))]), blk o (entC k A2 (n1 + 1) c2) 64] [Sl legR (.slice u.s.A u.s.n u.s.c) u.ls, LnF xs] w14 := H14.keep
      rw [← e] at H15
      refine Exists.intro (n1 + 1, sm + -g'.amt, ⟨A2, n1 + 1, c2⟩) (And.intro ⟨rfl, hj64, trivial⟩ (And.intro ?_ ⟨?_, rfl, ⟨en'.1, en'.2⟩, ?_, ?_, H15⟩))
      · simp only; omega
      · simp only; omega
      · rw [hg, decide_eq_false q1, en]; rfl
      · intro y hy
        simp only at hy
        rw [List.take_add_one, hgg] at hy
        rcases List.mem_append.1 hy with hy | hy
        · exact hmn y hy
        · simp only [Option.toList_some, List.mem_singleton] at hy
          rw [hy]; exact q1
    · have hadd : ∀ w M I, Hp ⟨w, M, I⟩ [] [] w → Ctr Tryz.prog 55 [.int .i64 sm, .int .i64 (IntKind.i64.wrap (0 - g'.amt))] w M I (fun _ : Unit => .tuple #[.int .i64 0, .bool false]) (fun _ => True) (fun _ => []) (fun _ => []) := fun w M I h => by
        rw [ew]; exact (addR_no en).symm ▸ addRef sm (-g'.amt) hin hn3 w M I h
      refine call_rule H9 (fun M I _ h => hadd _ M I h) fun _ w11 _ H11 => ?_
      exact over _ (by rw [hg, decide_eq_false q1, en]; rfl) (Hp.keep H11)
  · have h : ¬ (n1 : Int) < u.s.n := h
    have e1 : u.ls.take n1 = u.ls := List.take_of_length_le (by omega)
    have e2 : negGo 0 u.ls = true := by rw [hg, List.drop_eq_nil_of_le (by omega)]; rfl
    rw [e1] at H5 hmn
    have H6 := frzLegsRow H5 (v := .slice A1 n1 c1) (u.ls.map negL) hM fun y hy => by
      obtain ⟨z, hz, rfl⟩ := List.mem_map.1 hy
      have h1 := (hlok z hz).1
      have h2 : -9223372036854775808 ≤ z.amt ∧ z.amt ≤ 9223372036854775807 := (hlok z hz).2
      have h3 := hmn z hz
      exact ⟨h1, by show -9223372036854775808 ≤ -z.amt; omega, by show -z.amt ≤ 9223372036854775807; omega⟩
    have H7 : Hp ⟨w2, M', I'⟩ [blk o (entC k A1 n1 c1) 64] [Sl legR (.slice A1 n1 c1) (u.ls.map negL), LnF xs] w5 := H6.keep
    have F7 : Hp ⟨w, M, I⟩ [blk o (entC k A1 n1 c1) 64, blk p [.slice (some ⟨b, 0, none⟩) m d] 33, row 66 6 (.slice (some ⟨b, 0, none⟩) m d) m (lnsC xs), blk kb (keyC k) 61] [Sl legR (.slice A1 n1 c1) (u.ls.map negL), LnF xs, Sl legR (.slice u.s.A u.s.n u.s.c) u.ls, LnF xs] w5 := hk' _ _ w5 H7
    have hof : IntKind.i64.wrap (liveGo k xs 0 (-1) + 1) = liveGo k xs 0 (-1) + 1 := w64 (by omega) (by omega)
    have hok2 : LnsOk (xs ++ [Ln.mk k ⟨A1, n1, c1⟩ (IntKind.i64.wrap (liveGo k xs 0 (-1) + 1)) (u.ls.map negL)]) := by
      refine ⟨by rw [List.length_append]; simp; omega, fun y hy => ?_⟩
      rcases List.mem_append.1 hy with hy | hy
      · exact hok.2 y hy
      · rw [List.mem_singleton] at hy
        subst hy
        have := hok.1
        exact ⟨⟨by simp only [hof]; omega, by simp only [hof]; omega⟩, hk, by simp only [List.length_map]; exact hul⟩
    refine load_rule tok F7 (v := .agg #[.int .u32 k.loan, .int .i32 k.day, .int .u8 k.kind, .int .u32 k.seq, .slice A1 n1 c1]) rfl ?_
    refine call_rule F7 (fun M I _ h => addRefL p ⟨some ⟨b, 0, none⟩, m, d⟩ xs hsn k A1 n1 c1 (u.ls.map negL) (IntKind.i64.wrap (liveGo k xs 0 (-1) + 1)) hok2 _ M I h) fun a w8 ha H8 => ?_
    have okk : revROk ⟨some ⟨b, 0, none⟩, m, d⟩ xs k a := by
      unfold revROk
      rw [if_neg q]
      refine ⟨u, hu, ?_⟩
      rw [if_neg (by rw [e2]; simp)]
      refine ⟨⟨A1, n1, c1⟩, ?_⟩
      rw [← hof]; exact ha
    exact Exists.intro a (And.intro rfl (And.intro okk (Hp.keep H8)))
end Go.Proofs.YtfemfomgmopibaaGreatDoor
