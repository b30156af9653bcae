/- What the chart laws are made of: a few legs, the document's own entry. -/
import Derived.Test.YtenpgmnknmnofaaDoorT9
namespace Go.Proofs.YtenpgmnknmnofaaDoor
open Go Go.Proofs Go.Wk
theorem cl_legs {cs : List Value} : ∀ {ls : List Leg} {w : World} {I : BS}, (Cl legR cs ls).holds w I → cs = legsC ls
  | [], w, I, ⟨h, _⟩ => by simpa [legsC] using h
  | x :: r, w, I, ⟨h, hx⟩ => by
    obtain ⟨p, _, h0, _⟩ := hx 0 x rfl
    have h0 : cs.take 2 = [.int .u8 x.acct, .int .i64 x.amt] := by simpa using h0
    have ih := cl_legs (cs := cs.drop 2) (ls := r) (w := w) (I := I) ⟨by rw [List.length_drop, h]; simp; omega, fun i y hy => by
      obtain ⟨q, h1, h2, h3⟩ := hx (i + 1) y (by simpa using hy)
      refine ⟨q, h1, ?_, h3⟩
      rw [← h2, List.drop_drop]
      show ((cs.drop (2 + i * 2)).take 2) = (cs.drop ((i + 1) * 2)).take 2
      rw [show 2 + i * 2 = (i + 1) * 2 by omega]⟩
    rw [← List.take_append_drop 2 cs, h0, ih]
    rfl
theorem min_v (n : Nat) : Value.int .i64 (if (12 : Int) < (n : Int) then 12 else (n : Int)) = .int .i64 ((min n 12 : Nat) : Int) := by
  congr 1
  split <;> omega
theorem legs_one (x : Leg) : ∀ u, u ∈ ([.int .u8 x.acct, .int .i64 x.amt] : List Value) → u.oneCell' = true := by
  intro u hu
  simp only [List.mem_cons, List.not_mem_nil, or_false] at hu
  rcases hu with rfl | rfl <;> rfl
theorem few (A : Option Addr) (n c : Nat) (ls : List Leg) (w : World) (M I : BS) (hM : ∀ b, ¬ M b) (H : Hp ⟨w, M, I⟩ [] [Sl legR (.slice A n c) ls] w) :
    Ctr Tryd.prog 7 [.slice A n c] w M I (fun a : SV => .slice a.A a.n a.c) (fun _ => True) (fun _ => []) (fun a => [Sl legR (.slice a.A a.n a.c) (ls.take 12)]) := by
  obtain ⟨hn, hc, hc2⟩ := H.sll (A := A) (n := n) (c := c)
  refine Exe.of_ev tok Tryd.call7 Tryd.func7 rfl rfl rfl ?_
  refine slice_as tok H [] rfl rfl rfl rfl rfl rfl fun g w1 H1 => ?_
  have H2 : Hp ⟨w, M, I⟩ [row 40 2 (.slice (some ⟨g, 0, none⟩) 0 0) 0 []] [Sl legR (.slice A n c) ls] w1 := H1.toRow 2 0 rfl (by decide)
  refine slice_sl tok H2 (k := min n 12) rfl rfl (min_v n) (Nat.min_le_left _ _) fun H3 => ?_
  refine append_sl (v := .slice (some ⟨g, 0, none⟩) 0 0) (A := A) (m := min n 12) (c := c) tok H3 rfl rfl rfl rfl rfl rfl rfl (fun x _ _ => legs_one x) ?_ (by omega) fun A2 c2 news w4 H4 => ?_
  · show (0 + min n 12) * 16 ≤ _
    omega
  have e12 : ls.take (min n 12) = ls.take 12 := by
    rw [hn]
    rcases Nat.le_total ls.length 12 with h | h
    · rw [Nat.min_eq_left h, List.take_of_length_le (Nat.le_refl _), List.take_of_length_le h]
    · rw [Nat.min_eq_right h]
  have H4' : Hp ⟨w, M, I⟩ [row 40 2 (.slice A2 (0 + min n 12) c2) (0 + min n 12) news] [Cl legR news (ls.take (min n 12)), Sl legR (.slice A (min n 12) c) (ls.take (min n 12)), Sl legR (.slice A n c) ls] w4 := H4
  have H5 := H4'.frzRow (v := .slice A2 (0 + min n 12) c2) (xs := ls.take (min n 12)) legR hM rfl (by decide)
  rw [e12] at H5
  exact Exists.intro ⟨A2, 0 + min n 12, c2⟩ (And.intro rfl (And.intro trivial (Hp.keep H5)))
theorem legs_ok {w : World} {B : Base} {S : List Asn} {F : List Fact} (H : Hp B S F w) {A : Option Addr} {n c : Nat} {ls : List Leg} [hp : InSl F A n c legR ls] : ∀ x, x ∈ ls → inK .u8 x.acct ∧ inK .i64 x.amt := fun x hx => by
  obtain ⟨I, fp, _, ha, _⟩ := H.ex
  obtain ⟨A', c', _, _, _, _, hel⟩ := ha _ hp.mem
  obtain ⟨i, hi⟩ := List.mem_iff_getElem?.1 hx
  obtain ⟨b, o, _, _, p, hok, _⟩ := hel i x hi
  exact hok
theorem frzLegsRow {w : World} {B : Base} {S S' : List Asn} {F : List Fact} (H : Hp B S F w) {v : Value} {e n : Nat} (ls : List Leg) (hM : ∀ b, ¬ B.M b) [h1 : TakeR S v e 2 n (legsC ls) S'] (hok : ∀ x, x ∈ ls → inK .u8 x.acct ∧ inK .i64 x.amt) : Hp B S' (Sl legR v ls :: F) w := by
  have hcl : ∀ i x, ls[i]? = some x → ∃ p : Unit, (inK .u8 x.acct ∧ inK .i64 x.amt) ∧ ((legsC ls).drop (i * 2)).take 2 = [.int .u8 x.acct, .int .i64 x.amt] ∧ ([] : List Fact) = [] := fun i x hx => by
    obtain ⟨hj, _⟩ := List.getElem?_eq_some_iff.1 hx
    refine ⟨(), hok x (List.mem_of_getElem? hx), ?_, rfl⟩
    rw [legsC_drop, List.drop_eq_getElem_cons hj]
    rw [List.getElem?_eq_getElem hj] at hx
    rw [Option.some.inj hx]
    rfl
  have H2 := (H.addCl legR (cs := legsC ls) (xs := ls) (legsC_len ls) hcl).frzRow (v := v) (xs := ls) legR hM rfl (by decide)
  refine H2.facts fun I ha f hf => ha f ?_
  rcases List.mem_cons.1 hf with rfl | hf
  · exact List.mem_cons_self
  · exact List.mem_cons_of_mem _ (List.mem_cons_of_mem _ hf)
/-- A leg of the document's lies as the program's. -/
theorem own_ (k : Key) (A : Option Addr) (n c : Nat) (ls : List Leg) (hl : ls.length ≤ 1000) (w : World) (M I : BS) (hM : ∀ b, ¬ M b) (H : Hp ⟨w, M, I⟩ [] [Sl legR (.slice A n c) ls] w) :
    Ctr Tryd.prog 17 [.agg #[.int .u32 k.loan, .int .i32 k.day, .int .u8 k.kind, .int .u32 k.seq, .slice A n c]] w M I (fun a : SV => .agg #[.int .u32 k.loan, .int .i32 k.day, .int .u8 k.kind, .int .u32 k.seq, .slice a.A a.n a.c]) (fun _ => True) (fun _ => []) (fun a => [Sl legR (.slice a.A a.n a.c) ls]) := by
  obtain ⟨hn, hc, hc2⟩ := H.sll (A := A) (n := n) (c := c)
  refine Exe.of_ev tok Tryd.call17 Tryd.func17 rfl rfl rfl ?_
  refine box_as H (entC k A n c) rfl fun x w1 H1 => ?_
  refine alloc_as tok H1 zeroC rfl rfl rfl fun r w2 H2 => ?_
  refine load_rule tok H2 (v := keyV k) rfl ?_
  refine call_rule H2 (fun M I _ h => key_ k _ M I h) fun _ w3 _ H3 => ?_
  refine alloc_as tok H3 zeroC rfl rfl rfl fun o w4 H4 => ?_
  refine store_as tok H4 (entC k none 0 0) rfl rfl rfl rfl rfl fun w5 H5 => ?_
  refine load_rule tok H5 (v := .slice A n c) rfl ?_
  have H5' : Hp ⟨w, M, I⟩ [row 83 2 (.slice none 0 0) 0 [], blk o (entC k none 0 0) 54, blk r zeroC 54, blk x (entC k A n c) 29] [Sl legR (.slice A n c) ls] w5 := (Hp.nil H5 83 2).keep
  refine loop_rule tok (σ := Nat × SV) 268427296 (fun s => [(13, .int .i64 s.1)])
    (fun s w' => s.1 ≤ ls.length ∧ s.2.n = s.1 ∧ Hp ⟨w, M, I⟩ [row 83 2 (.slice s.2.A s.2.n s.2.c) s.2.n (legsC (ls.take s.1)), blk o (entC k s.2.A s.2.n s.2.c) 54, blk r zeroC 54, blk x (entC k A n c) 29] [Sl legR (.slice A n c) ls] w') (fun s => ls.length - s.1) (0, ⟨none, 0, 0⟩) rfl rfl ⟨rfl, trivial⟩
    ⟨Nat.zero_le _, rfl, H5'⟩ ?_
  rintro ⟨i, A1, n1, c1⟩ j w6 ⟨hi, hni, H6⟩
  simp only at hi hni H6
  subst hni
  refine brd (fun h5 => ?_) (fun h5 => ?_)
  · refine idx_rule tok H6 rfl rfl rfl (by omega) h5 fun eb eo y hy H7 => ?_
    refine ldp_rule tok H7 rfl rfl rfl fun _ hok H8 => ?_
    refine alloc_rule tok H8 rfl rfl fun lb w7 H9 => ?_
    refine store_as tok H9 [.int .u8 y.acct, .int .i64 y.amt] rfl rfl rfl rfl rfl fun w8 H10 => ?_
    refine load_rule tok H10 (v := .slice A1 n1 c1) rfl ?_
    refine load_rule tok H10 rfl ?_
    refine load_rule tok H10 rfl ?_
    refine slice_as tok H10 [.int .u8 y.acct, .int .i64 y.amt] rfl rfl rfl rfl rfl rfl fun g w9 H11 => ?_
    refine append_rule (v := .slice A1 n1 c1) (b := g) (m := 1) (c := 1) tok H11 rfl rfl rfl rfl rfl rfl rfl rfl ?_ (by omega) fun A2 c2 w10 H12 => ?_
    · show (n1 + 1) * 16 ≤ _
      omega
    refine store_as tok H12 (entC k A2 (n1 + 1) c2) rfl rfl rfl rfl rfl fun w11 H13 => ?_
    have hy' : ls[n1]? = some y := by simpa using hy
    have e : legsC (ls.take (n1 + 1)) = legsC (ls.take n1) ++ [.int .u8 y.acct, .int .i64 y.amt] := by
      rw [List.take_add_one, hy', legsC_app]; rfl
    refine Exists.intro (n1 + 1, ⟨A2, n1 + 1, c2⟩) (And.intro ⟨?_, trivial⟩ (And.intro ?_ ⟨?_, rfl, ?_⟩))
    · show Value.int .i64 (IntKind.i64.wrap (n1 + 1)) = _
      rw [w64 (by omega) (by omega)]; rfl
    · simp only; omega
    · simp only; omega
    · simp only [e]
      exact H13.keep
  · obtain rfl : n1 = ls.length := by omega
    rw [List.take_of_length_le (Nat.le_refl _)] at H6
    refine load_rule tok H6 (v := .agg #[.int .u32 k.loan, .int .i32 k.day, .int .u8 k.kind, .int .u32 k.seq, .slice A1 ls.length c1]) rfl ?_
    refine store_as tok H6 (entC k A1 ls.length c1) rfl rfl rfl rfl rfl fun w7 H7 => ?_
    refine Exists.intro ⟨r, 0, none⟩ (Exists.intro (.agg #[.int .u32 k.loan, .int .i32 k.day, .int .u8 k.kind, .int .u32 k.seq, .slice A1 ls.length c1]) (And.intro rfl (And.intro (Hp.ld (T := tb) tok H7 rfl) ?_)))
    have H8 := frzLegsRow (v := .slice A1 ls.length c1) H7 ls hM (legs_ok H (A := A) (n := n) (c := c))
    exact Exists.intro ⟨A1, ls.length, c1⟩ (And.intro rfl (And.intro trivial (Hp.keep H8)))
end Go.Proofs.YtenpgmnknmnofaaDoor
