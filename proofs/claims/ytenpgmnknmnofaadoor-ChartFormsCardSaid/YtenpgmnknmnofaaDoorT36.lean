/- Bytes as numbers again: the walks. -/
import Derived.Test.YtenpgmnknmnofaaDoorT34
import Derived.Test.YtenpgmnknmnofaaDoorAsE
namespace Go.Proofs.YtenpgmnknmnofaaDoor
open Go Go.Proofs Go.Wk
/-- Bytes apart: of any slice. -/
theorem cloneAny (A : Option Addr) (n c : Nat) (bs : List Nat) (hn : bs.length ≤ 1000000) (w : World) (M I : BS) (hM : ∀ b, ¬ M b) (H : Hp ⟨w, M, I⟩ [] [Sl byteR (.slice A n c) bs] w) :
    Ctr Tryd.prog 48 [.slice A n c] w M I (fun a : SV => .slice a.A a.n a.c) (fun _ => True) (fun _ => []) (fun a => [Sl byteR (.slice a.A a.n a.c) bs]) := by
  obtain ⟨hl, _, _⟩ := H.sll (A := A) (n := n) (c := c)
  cases A with
  | some ad => exact clone ad n c bs (by omega) w M I hM H
  | none =>
    have h0 : n = 0 ∧ c = 0 := by
      obtain ⟨I', _, _, ha, _⟩ := H.ex
      obtain ⟨A', c', e1, _, q2, q3, _⟩ := ha _ List.mem_cons_self
      injection e1 with e1 e2 e3
      have := q3 e1.symm
      omega
    obtain ⟨rfl, rfl⟩ := h0
    refine Exe.of_ev tok Tryd.call48 Tryd.func48 rfl rfl rfl ?_
    exact Exists.intro ⟨none, 0, 0⟩ (And.intro rfl (And.intro trivial (Hp.keep H)))
@[reducible] def lensA (l : Nat) (s : SV) (bad : Bool) : List Asn := [blk l [.slice s.A s.n s.c, .bool bad] 107]
theorem look (A : Option Addr) (n c : Nat) (bs : List Nat) (hn : bs.length ≤ 1000000) (w : World) (M I : BS) (H : Hp ⟨w, M, I⟩ [] [Sl byteR (.slice A n c) bs] w) :
    Ctr Tryd.prog 32 [.slice A n c] w M I (fun a : Nat × SV => .pointer (some ⟨a.1, 0, none⟩)) (fun _ => True) (fun a => lensA a.1 a.2 false) (fun a => [Sl byteR (svV a.2) bs]) := by
  refine Exe.of_ev tok Tryd.call32 Tryd.func32 rfl rfl rfl ?_
  refine call_rule H (fun M I h0 h => cloneAny A n c bs hn _ M I (h0 rfl) h) fun a w1 _ H1 => ?_
  refine box_as H1 [.slice a.A a.n a.c, .bool false] rfl fun l w2 H2 => ?_
  exact Exists.intro (l, a) (And.intro rfl (And.intro trivial (Hp.keep H2)))
theorem fail (l : Nat) (s : SV) (bad : Bool) (w : World) (M I : BS) (H : Hp ⟨w, M, I⟩ (lensA l s bad) [] w) :
    Ctr Tryd.prog 50 [.pointer (some ⟨l, 0, none⟩)] w M I (fun _ : Unit => .tuple #[]) (fun _ => True) (fun _ => lensA l ⟨none, 0, 0⟩ true) (fun _ => []) := by
  refine Exe.of_ev tok Tryd.call50 Tryd.func50 rfl rfl rfl ?_
  refine store_as tok H [.slice none 0 0, .bool bad] rfl rfl rfl rfl rfl fun w1 H1 => ?_
  refine store_as tok H1 [.slice none 0 0, .bool true] rfl rfl rfl rfl rfl fun w2 H2 => ?_
  exact Exists.intro () (And.intro rfl (And.intro trivial H2))
def takeOk (p : List Nat) (bad : Bool) (k : Nat) : Bool := !bad && Nat.ble k p.length
theorem take_ (l : Nat) (s : SV) (bad : Bool) (p : List Nat) (k : Nat) (w : World) (M I : BS) (H : Hp ⟨w, M, I⟩ (lensA l s bad) [Sl byteR (svV s) p] w) :
    Ctr Tryd.prog 65 [.pointer (some ⟨l, 0, none⟩), .int .i64 k] w M I (fun a : SV × SV => .tuple #[svV a.2, .bool (takeOk p bad k)]) (fun _ => True) (fun a => lensA l a.1 (!takeOk p bad k)) (fun a => [Sl byteR (svV a.1) (if takeOk p bad k = true then p.drop k else []), Sl byteR (svV a.2) (if takeOk p bad k = true then p.take k else [])]) := by
  obtain ⟨A, n, c⟩ := s
  obtain ⟨hl, hc, hc2⟩ := H.sll (A := A) (n := n) (c := c)
  have no : ∀ w', takeOk p bad k = false → Hp ⟨w, M, I⟩ (lensA l ⟨none, 0, 0⟩ true) [Sl byteR (.slice A n c) p] w' → ∃ a : SV × SV, Value.tuple #[.slice none 0 0, .bool false] = .tuple #[svV a.2, .bool (takeOk p bad k)] ∧ True ∧ Hp ⟨w, M, I⟩ (lensA l a.1 (!takeOk p bad k)) [Sl byteR (svV a.1) (if takeOk p bad k = true then p.drop k else []), Sl byteR (svV a.2) (if takeOk p bad k = true then p.take k else [])] w' := fun w' e h => by
    rw [e]
    have h2 : Hp ⟨w, M, I⟩ (lensA l ⟨none, 0, 0⟩ true) [Sl byteR (.slice none 0 0) [], Sl byteR (.slice none 0 0) []] w' := Hp.keep (h.slNil byteR)
    exact ⟨(⟨none, 0, 0⟩, ⟨none, 0, 0⟩), rfl, trivial, h2⟩
  refine Exe.of_ev tok Tryd.call65 Tryd.func65 rfl rfl rfl ?_
  refine load_rule tok H (v := .bool bad) rfl ?_
  cases bad with
  | true =>
    refine call_rule H (fun M I _ h => fail l ⟨A, n, c⟩ true _ M I h) fun _ w1 _ H1 => ?_
    exact no w1 rfl (Hp.keep H1)
  | false =>
    refine load_rule tok H (v := .slice A n c) rfl ?_
    refine brd (fun q => ?_) (fun q => ?_)
    · have q : (n : Int) < k := q
      have e : takeOk p false k = false := by
        unfold takeOk
        cases hb : Nat.ble k p.length with
        | false => rfl
        | true => have := Nat.le_of_ble_eq_true hb; omega
      refine call_rule H (fun M I _ h => fail l ⟨A, n, c⟩ false _ M I h) fun _ w1 _ H1 => ?_
      exact no w1 e (Hp.keep H1)
    · have q : ¬ (n : Int) < k := q
      have e : takeOk p false k = true := by
        unfold takeOk
        rw [Nat.ble_eq_true_of_le (show k ≤ p.length by omega)]; rfl
      rw [e]
      refine load_rule tok H (v := .slice A n c) rfl ?_
      refine slice_hm tok H (k := k) rfl rfl rfl rfl (by omega) fun H1 => ?_
      refine load_rule tok H1 (v := .slice A n c) rfl ?_
      refine slice_lo tok H1 (k := k) (A := A) (n := n) (c := c) rfl rfl rfl (by omega) rfl fun A2 H2 => ?_
      refine store_as tok H2 [.slice A2 (n - k) (c - k), .bool false] rfl rfl rfl rfl rfl fun w3 H3 => ?_
      have H4 : Hp ⟨w, M, I⟩ (lensA l ⟨A2, n - k, c - k⟩ false) [Sl byteR (.slice A2 (n - k) (c - k)) (p.drop k), Sl byteR (.slice A k k) (p.take k)] w3 := Hp.keep H3
      exact Exists.intro (⟨A2, n - k, c - k⟩, ⟨A, k, k⟩) (And.intro rfl (And.intro trivial H4))
def valB : List Nat → Nat → Nat
  | [], n => n
  | b :: r, n => valB r (n * 256 + b)
structure NR where
  n : Nat
  mark : Bool
  rest : List Nat
  bad : Bool
@[reducible] def badNR : NR := ⟨0, false, [], true⟩
def sizeOf_ (h : Nat) : Nat := if 128 ≤ h then h - 128 else h
/-- A number read. -/
def numR (p : List Nat) (bad : Bool) : NR := match p with
  | [] => badNR
  | h :: r => if bad = true ∨ r.length < sizeOf_ h ∨ 8 < sizeOf_ h ∨ (0 < sizeOf_ h ∧ r.head? = some 0) then badNR else ⟨valB (r.take (sizeOf_ h)) 0, decide (128 ≤ h), r.drop (sizeOf_ h), false⟩
theorem andNot128 (h : Nat) (hh : h < 256) : IntKind.u8.wrap (BitVec.ofInt IntKind.u8.bits (h : Int) &&& ~~~BitVec.ofInt IntKind.u8.bits (128 : Int)).toNat = (sizeOf_ h : Nat) := by
  have : ∀ h : Fin 256, IntKind.u8.wrap (BitVec.ofInt IntKind.u8.bits ((h.val : Nat) : Int) &&& ~~~BitVec.ofInt IntKind.u8.bits (128 : Int)).toNat = ((sizeOf_ h.val : Nat) : Int) := by decide +kernel
  exact this ⟨h, hh⟩
theorem valB_lt : ∀ (l : List Nat) (n k : Nat), (∀ x, x ∈ l → x < 256) → n < 256 ^ k → valB l n < 256 ^ (k + l.length)
  | [], n, k, _, h => h
  | b :: r, n, k, hl, h => by
    have hb := hl b List.mem_cons_self
    have := valB_lt r (n * 256 + b) (k + 1) (fun x hx => hl x (List.mem_cons_of_mem _ hx)) (by rw [Nat.pow_succ]; omega)
    rw [valB, List.length_cons, show k + (r.length + 1) = k + 1 + r.length by omega]
    exact this
theorem p256_7 {i : Nat} (h : i ≤ 7) : 256 ^ i ≤ 72057594037927936 := by
  have h1 := Nat.pow_le_pow_right (n := 256) (by decide) h
  have h2 : (256 : Nat) ^ 7 = 72057594037927936 := by decide
  omega
theorem valB_snoc (b : Nat) : ∀ (l : List Nat) (n : Nat), valB (l ++ [b]) n = valB l n * 256 + b
  | [], n => rfl
  | x :: r, n => by rw [List.cons_append, valB, valB, valB_snoc b r]
set_option maxRecDepth 20000 in
theorem shl_or (n b : Nat) (hn : n * 256 + b < 18446744073709551616) (hb : b < 256) : IntKind.u64.wrap (BitVec.ofInt IntKind.u64.bits (((n * 256 : Nat)) : Int) ||| BitVec.ofInt IntKind.u64.bits ((b : Nat) : Int)).toNat = ((n * 256 + b : Nat) : Int) := by
  have hh : (BitVec.ofNat 64 (n * 256) ||| BitVec.ofNat 64 b).toNat = n * 256 + b := by
    rw [BitVec.toNat_or, BitVec.toNat_ofNat, BitVec.toNat_ofNat, Nat.mod_eq_of_lt (by omega), Nat.mod_eq_of_lt (by omega)]
    have := Nat.shiftLeft_add_eq_or_of_lt (i := 8) (b := b) (by omega) n
    rw [Nat.shiftLeft_eq, show 2 ^ 8 = 256 from rfl] at this
    exact this.symm
  show IntKind.u64.wrap (((BitVec.ofNat 64 (n * 256) ||| BitVec.ofNat 64 b).toNat : Nat) : Int) = _
  rw [hh]
  exact wrap_id (k := .u64) ⟨by show (0 : Int) ≤ _; omega, by show _ ≤ (18446744073709551615 : Int); omega⟩
set_option maxRecDepth 20000 in
set_option maxHeartbeats 1000000 in
theorem numberL (l : Nat) (s : SV) (bad : Bool) (p : List Nat) (hp : ∀ x, x ∈ p → x < 256) (w : World) (M I : BS) (H : Hp ⟨w, M, I⟩ (lensA l s bad) [Sl byteR (svV s) p] w) :
    Ctr Tryd.prog 49 [.pointer (some ⟨l, 0, none⟩)] w M I (fun _ : SV => .tuple #[.int .u64 ((numR p bad).n : Nat), .bool (numR p bad).mark]) (fun _ => True) (fun a => lensA l a (numR p bad).bad) (fun a => [Sl byteR (svV a) (numR p bad).rest]) := by
  have no : ∀ w' (s' : SV), numR p bad = badNR → Hp ⟨w, M, I⟩ (lensA l s' true) [Sl byteR (svV s') []] w' → ∃ a : SV, Value.tuple #[.int .u64 0, .bool false] = .tuple #[.int .u64 ((numR p bad).n : Nat), .bool (numR p bad).mark] ∧ True ∧ Hp ⟨w, M, I⟩ (lensA l a (numR p bad).bad) [Sl byteR (svV a) (numR p bad).rest] w' := fun w' s' e h => by
    rw [e]
    exact ⟨s', rfl, trivial, h⟩
  refine Exe.of_ev tok Tryd.call49 Tryd.func49 rfl rfl rfl ?_
  refine call_rule H (fun M I _ h => take_ l s bad p 1 _ M I h) fun a => ?_
  rcases a with ⟨⟨A1, n1, c1⟩, ⟨A2, n2, c2⟩⟩
  intro w1 _ H1
  rcases (show (takeOk p bad 1 = false ∧ numR p bad = badNR) ∨ (takeOk p bad 1 = true ∧ bad = false ∧ ∃ h r, p = h :: r) by
    unfold takeOk
    cases bad with
    | true => left; cases p <;> simp [numR]
    | false =>
      cases p with
      | nil => left; exact ⟨rfl, rfl⟩
      | cons h r => right; exact ⟨rfl, rfl, h, r, rfl⟩) with ⟨e1, e2⟩ | ⟨e1, rfl, hd, r, rfl⟩
  · rw [e1] at H1
    have H1 : Hp ⟨w, M, I⟩ (lensA l ⟨A1, n1, c1⟩ true) [Sl byteR (.slice A1 n1 c1) [], Sl byteR (.slice A2 n2 c2) [], Sl byteR (svV s) p] w1 := H1
    refine br (fun q => ?_) (fun q => ?_)
    · exact no w1 ⟨A1, n1, c1⟩ e2 (Hp.keep H1)
    · exact absurd q (by rw [e1]; simp)
  · have H1 : Hp ⟨w, M, I⟩ (lensA l ⟨A1, n1, c1⟩ false) [Sl byteR (.slice A1 n1 c1) r, Sl byteR (.slice A2 n2 c2) [hd], Sl byteR (svV s) (hd :: r)] w1 := H1
    have H1 : Hp ⟨w, M, I⟩ (lensA l ⟨A1, n1, c1⟩ false) [Sl byteR (.slice A1 n1 c1) r, Sl byteR (.slice A2 n2 c2) [hd]] w1 := Hp.keep H1
    obtain ⟨h2, _, _⟩ := H1.sll (A := A2) (n := n2) (c := c2)
    have h2 : n2 = 1 := h2
    obtain ⟨b2, o2, rfl⟩ := H1.slAt (A := A2) (n := n2) (c := c2) (r := byteR) (by omega)
    have hd8 : hd < 256 := hp hd List.mem_cons_self
    refine idx_own tok rfl rfl (by decide) (show (0 : Int) < (n2 : Int) by omega) ?_
    refine sl_ld (n := n2) (c := c2) (j := 0) (f := 0) (r := byteR) tok H1 (.int .u8 hd) (xs := [hd]) rfl rfl (fun _ _ => rfl) ?_
    obtain ⟨sz, hsz⟩ : ∃ sz, sizeOf_ hd = sz := ⟨_, rfl⟩
    have hsz8 : sz < 256 := by rw [← hsz]; unfold sizeOf_; split <;> omega
    refine andNot_as ((sz : Nat) : Int) (by rw [← hsz]; exact andNot128 hd hd8) ?_
    have esz : IntKind.i64.wrap (sz : Int) = sz := w64 (by omega) (by omega)
    refine call_rule H1 (fun M I _ h => esz ▸ take_ l ⟨A1, n1, c1⟩ false r sz _ M I h) fun a => ?_
    rcases a with ⟨⟨A3, n3, c3⟩, ⟨A4, n4, c4⟩⟩
    intro w2 _ H2
    have bad' : r.length < sz ∨ 8 < sz ∨ (0 < sz ∧ r.head? = some 0) → numR (hd :: r) false = badNR := fun h => by
      unfold numR
      simp only [hsz]
      rw [if_pos (.inr h)]
    refine br (fun q1 => ?_) (fun q1 => ?_)
    · have q1 : takeOk r false sz = false := by simpa using q1
      rw [q1] at H2
      have H2 : Hp ⟨w, M, I⟩ (lensA l ⟨A3, n3, c3⟩ true) [Sl byteR (.slice A3 n3 c3) [], Sl byteR (.slice A4 n4 c4) [], Sl byteR (.slice A1 n1 c1) r, Sl byteR (.slice (some ⟨b2, o2, none⟩) n2 c2) [hd]] w2 := H2
      have hlt : r.length < sz := by
        rcases Nat.lt_or_ge r.length sz with h | h
        · exact h
        · rw [takeOk, Nat.ble_eq_true_of_le h] at q1; cases q1
      refine call_rule H2 (fun M I _ h => fail l ⟨A3, n3, c3⟩ true _ M I h) fun _ w3 _ H3 => ?_
      exact no w3 ⟨none, 0, 0⟩ (bad' (.inl hlt)) (Hp.keep (H3.slNil byteR))
    have q1 : takeOk r false sz = true := by simpa using q1
    rw [q1] at H2
    have H3 : Hp ⟨w, M, I⟩ (lensA l ⟨A3, n3, c3⟩ false) [Sl byteR (.slice A3 n3 c3) (r.drop sz), Sl byteR (.slice A4 n4 c4) (r.take sz), Sl byteR (.slice A1 n1 c1) r, Sl byteR (.slice (some ⟨b2, o2, none⟩) n2 c2) [hd]] w2 := H2
    have H3 : Hp ⟨w, M, I⟩ (lensA l ⟨A3, n3, c3⟩ false) [Sl byteR (.slice A3 n3 c3) (r.drop sz), Sl byteR (.slice A4 n4 c4) (r.take sz), Sl byteR (.slice (some ⟨b2, o2, none⟩) n2 c2) [hd]] w2 := Hp.keep H3
    have hle : sz ≤ r.length := by
      unfold takeOk at q1
      simpa using q1
    obtain ⟨h4, _, _⟩ := H3.sll (A := A4) (n := n4) (c := c4)
    have h4 : n4 = sz := by rw [h4, List.length_take]; omega
    refine brd (fun q2 => ?_) (fun q2 => ?_)
    · have q2 : (8 : Int) < sz := q2
      refine call_rule H3 (fun M I _ h => fail l ⟨A3, n3, c3⟩ false _ M I h) fun _ w3 _ H4 => ?_
      exact no w3 ⟨none, 0, 0⟩ (bad' (.inr (.inl (by omega)))) (Hp.keep (H4.slNil byteR))
    have q2 : ¬ (8 : Int) < sz := q2
    refine brd (fun q3 => ?_) (fun q3 => ?_)
    · have q3 : (0 : Int) < sz := q3
      refine idx_rule tok H3 (r := byteR) (A := A4) (n := n4) (c := c4) rfl rfl rfl (by decide) (show (0 : Int) < (n4 : Int) by omega) fun pb po b0 hb0' H3a => ?_
      refine ld1_rule tok H3a (v := fun _ => .int .u8 ((b0 : Nat) : Int)) rfl rfl (fun _ => rfl) fun _ _ H3b => ?_
      have hh0 : r.head? = some b0 := by
        have hb0' : (r.take sz)[0]? = some b0 := by simpa using hb0'
        rw [List.getElem?_take, if_pos (by omega)] at hb0'
        rw [← hb0', List.head?_eq_getElem?]
      refine brd (fun q4 => ?_) (fun q4 => ?_)
      · have q4 : (b0 : Int) = 0 := q4
        refine call_rule H3 (fun M I _ h => fail l ⟨A3, n3, c3⟩ false _ M I h) fun _ w3 _ H4 => ?_
        exact no w3 ⟨none, 0, 0⟩ (bad' (.inr (.inr ⟨by omega, by rw [hh0]; congr 1; omega⟩))) (Hp.keep (H4.slNil byteR))
      · have q4 : ¬ (b0 : Int) = 0 := q4
        have hst : numR (hd :: r) false = ⟨valB (r.take sz) 0, decide (128 ≤ hd), r.drop sz, false⟩ := by
          unfold numR
          simp only [hsz]
          rw [if_neg (fun hx => hx.elim (fun h => by cases h) fun hx => hx.elim (fun h => by omega) fun hx => hx.elim (fun h => by omega) fun h => (by rw [hh0] at h; have := Option.some.inj h.2; omega))]
        have hts : (r.take sz).length = sz := by rw [List.length_take]; omega
        refine loop_rule tok (σ := Nat) 575897802350003456 (fun i => [(49, .int .i64 i), (8, .int .u64 ((valB ((r.take sz).take i) 0 : Nat) : Int))])
          (fun i w' => i ≤ sz ∧ Hp ⟨w, M, I⟩ (lensA l ⟨A3, n3, c3⟩ false) [Sl byteR (.slice A3 n3 c3) (r.drop sz), Sl byteR (.slice A4 n4 c4) (r.take sz), Sl byteR (.slice (some ⟨b2, o2, none⟩) n2 c2) [hd]] w') (fun i => sz - i) 0 rfl rfl ⟨rfl, rfl, trivial⟩ ⟨Nat.zero_le _, H3⟩ ?_
        rintro i j w4 ⟨hi, H4⟩
        refine brd (fun hq => ?_) (fun hq => ?_)
        · have hq : (i : Int) < n4 := hq
          refine idx_rule tok H4 (r := byteR) (A := A4) (n := n4) (c := c4) rfl rfl rfl (by omega) hq fun pb po b hb0 H4a => ?_
          have hb : (r.take sz)[i]? = some b := by simpa using hb0
          have hb8 : b < 256 := hp b (List.mem_cons_of_mem _ (List.mem_of_mem_take (List.mem_of_getElem? hb)))
          have hv := valB_lt ((r.take sz).take i) 0 0 (fun x hx => hp x (List.mem_cons_of_mem _ (List.mem_of_mem_take (List.mem_of_mem_take hx)))) (by decide)
          have hti : ((r.take sz).take i).length = i := by rw [List.length_take]; omega
          rw [hti, Nat.zero_add] at hv
          have hv2 : valB ((r.take sz).take i) 0 < 72057594037927936 := Nat.lt_of_lt_of_le hv (by
            exact p256_7 (by omega))
          have hsn : valB ((r.take sz).take (i + 1)) 0 = valB ((r.take sz).take i) 0 * 256 + b := by
            rw [List.take_add_one, hb]
            exact valB_snoc b _ 0
          refine ld1_rule tok H4a (v := fun _ => .int .u8 ((b : Nat) : Int)) rfl rfl (fun _ => rfl) fun _ _ H4b => ?_
          refine shl_as ((valB ((r.take sz).take i) 0 * 256 : Nat) : Int) (by decide) (by
            show IntKind.u64.wrap (((valB ((r.take sz).take i) 0 : Nat) : Int) * 256) = _
            rw [wrap_id (k := .u64) ⟨by show (0 : Int) ≤ _; omega, by show _ ≤ (18446744073709551615 : Int); omega⟩]; omega) ?_
          refine or_as ((valB ((r.take sz).take i) 0 * 256 + b : Nat) : Int) (by
            have eb : IntKind.u64.wrap (b : Int) = b := wrap_id ⟨by show (0 : Int) ≤ _; omega, by show _ ≤ (18446744073709551615 : Int); omega⟩
            rw [eb]
            exact shl_or _ b (by omega) hb8) ?_
          refine Exists.intro (i + 1) (And.intro ⟨?_, ?_, trivial⟩ (And.intro ?_ ⟨?_, Hp.keep H4b⟩))
          · show Value.int .i64 (IntKind.i64.wrap (i + 1)) = _
            rw [w64 (by omega) (by omega)]; rfl
          · show Value.int .u64 ((valB ((r.take sz).take i) 0 * 256 + b : Nat) : Int) = Value.int .u64 ((valB ((r.take sz).take (i + 1)) 0 : Nat) : Int)
            rw [hsn]
          · omega
          · omega
        · have hq : ¬ (i : Int) < n4 := hq
          refine draw_rule (A := []) tok tdr H4 [0, 1, 2, 3, 4, 5, 6] [0, 0, 2, 6, 14, 1, 63] rfl ?_
          refine pass_rule _ (fun w h => idx_own tok rfl rfl (by decide) (show (0 : Int) < (n2 : Int) by omega) ⟨rfl, rfl⟩) ?_
          refine pass_rule _ (fun w h => sl_ld (n := n2) (c := c2) (j := 0) (f := 0) (r := byteR) tok h (.int .u8 hd) (xs := [hd]) rfl rfl (fun _ _ => rfl) ⟨rfl, rfl⟩) ?_
          refine done_rule fun w5 H5 => ?_
          have et : (r.take sz).take i = r.take sz := List.take_of_length_le (by omega)
          refine Exists.intro ⟨A3, n3, c3⟩ (And.intro ?_ (And.intro trivial ?_))
          · show Value.tuple #[.int .u64 ((valB ((r.take sz).take i) 0 : Nat) : Int), .bool (decide ((128 : Int) ≤ (hd : Int)))] = _
            rw [et, hst]
            have : decide ((128 : Int) ≤ (hd : Int)) = decide (128 ≤ hd) := by
              rw [Bool.eq_iff_iff, decide_eq_true_eq, decide_eq_true_eq]; omega
            rw [this]
          · have H6 : Hp ⟨w, M, I⟩ (lensA l ⟨A3, n3, c3⟩ false) [Sl byteR (.slice A3 n3 c3) (r.drop sz)] w5 := Hp.keep H5
            rw [hst]
            exact H6
    · have q3 : ¬ (0 : Int) < sz := q3
      have hst : numR (hd :: r) false = ⟨valB (r.take sz) 0, decide (128 ≤ hd), r.drop sz, false⟩ := by
        unfold numR
        simp only [hsz]
        rw [if_neg (fun hx => hx.elim (fun h => by cases h) fun hx => hx.elim (fun h => by omega) fun hx => hx.elim (fun h => by omega) fun h => (by omega))]
      have hts : (r.take sz).length = sz := by rw [List.length_take]; omega
      refine loop_rule tok (σ := Nat) 575897802350003456 (fun i => [(49, .int .i64 i), (8, .int .u64 ((valB ((r.take sz).take i) 0 : Nat) : Int))])
        (fun i w' => i ≤ sz ∧ Hp ⟨w, M, I⟩ (lensA l ⟨A3, n3, c3⟩ false) [Sl byteR (.slice A3 n3 c3) (r.drop sz), Sl byteR (.slice A4 n4 c4) (r.take sz), Sl byteR (.slice (some ⟨b2, o2, none⟩) n2 c2) [hd]] w') (fun i => sz - i) 0 rfl rfl ⟨rfl, rfl, trivial⟩ ⟨Nat.zero_le _, H3⟩ ?_
      rintro i j w4 ⟨hi, H4⟩
      refine brd (fun hq => ?_) (fun hq => ?_)
      · have hq : (i : Int) < n4 := hq
        refine idx_rule tok H4 (r := byteR) (A := A4) (n := n4) (c := c4) rfl rfl rfl (by omega) hq fun pb po b hb0 H4a => ?_
        have hb : (r.take sz)[i]? = some b := by simpa using hb0
        have hb8 : b < 256 := hp b (List.mem_cons_of_mem _ (List.mem_of_mem_take (List.mem_of_getElem? hb)))
        have hv := valB_lt ((r.take sz).take i) 0 0 (fun x hx => hp x (List.mem_cons_of_mem _ (List.mem_of_mem_take (List.mem_of_mem_take hx)))) (by decide)
        have hti : ((r.take sz).take i).length = i := by rw [List.length_take]; omega
        rw [hti, Nat.zero_add] at hv
        have hv2 : valB ((r.take sz).take i) 0 < 72057594037927936 := Nat.lt_of_lt_of_le hv (by
          exact p256_7 (by omega))
        have hsn : valB ((r.take sz).take (i + 1)) 0 = valB ((r.take sz).take i) 0 * 256 + b := by
          rw [List.take_add_one, hb]
          exact valB_snoc b _ 0
        refine ld1_rule tok H4a (v := fun _ => .int .u8 ((b : Nat) : Int)) rfl rfl (fun _ => rfl) fun _ _ H4b => ?_
        refine shl_as ((valB ((r.take sz).take i) 0 * 256 : Nat) : Int) (by decide) (by
          show IntKind.u64.wrap (((valB ((r.take sz).take i) 0 : Nat) : Int) * 256) = _
          rw [wrap_id (k := .u64) ⟨by show (0 : Int) ≤ _; omega, by show _ ≤ (18446744073709551615 : Int); omega⟩]; omega) ?_
        refine or_as ((valB ((r.take sz).take i) 0 * 256 + b : Nat) : Int) (by
          have eb : IntKind.u64.wrap (b : Int) = b := wrap_id ⟨by show (0 : Int) ≤ _; omega, by show _ ≤ (18446744073709551615 : Int); omega⟩
          rw [eb]
          exact shl_or _ b (by omega) hb8) ?_
        refine Exists.intro (i + 1) (And.intro ⟨?_, ?_, trivial⟩ (And.intro ?_ ⟨?_, Hp.keep H4b⟩))
        · show Value.int .i64 (IntKind.i64.wrap (i + 1)) = _
          rw [w64 (by omega) (by omega)]; rfl
        · show Value.int .u64 ((valB ((r.take sz).take i) 0 * 256 + b : Nat) : Int) = Value.int .u64 ((valB ((r.take sz).take (i + 1)) 0 : Nat) : Int)
          rw [hsn]
        · omega
        · omega
      · have hq : ¬ (i : Int) < n4 := hq
        refine draw_rule (A := []) tok tdr H4 [0, 1, 2, 3, 4, 5, 6] [0, 0, 2, 6, 14, 1, 63] rfl ?_
        refine pass_rule _ (fun w h => idx_own tok rfl rfl (by decide) (show (0 : Int) < (n2 : Int) by omega) ⟨rfl, rfl⟩) ?_
        refine pass_rule _ (fun w h => sl_ld (n := n2) (c := c2) (j := 0) (f := 0) (r := byteR) tok h (.int .u8 hd) (xs := [hd]) rfl rfl (fun _ _ => rfl) ⟨rfl, rfl⟩) ?_
        refine done_rule fun w5 H5 => ?_
        have et : (r.take sz).take i = r.take sz := List.take_of_length_le (by omega)
        refine Exists.intro ⟨A3, n3, c3⟩ (And.intro ?_ (And.intro trivial ?_))
        · show Value.tuple #[.int .u64 ((valB ((r.take sz).take i) 0 : Nat) : Int), .bool (decide ((128 : Int) ≤ (hd : Int)))] = _
          rw [et, hst]
          have : decide ((128 : Int) ≤ (hd : Int)) = decide (128 ≤ hd) := by
            rw [Bool.eq_iff_iff, decide_eq_true_eq, decide_eq_true_eq]; omega
          rw [this]
        · have H6 : Hp ⟨w, M, I⟩ (lensA l ⟨A3, n3, c3⟩ false) [Sl byteR (.slice A3 n3 c3) (r.drop sz)] w5 := Hp.keep H5
          rw [hst]
          exact H6
end Go.Proofs.YtenpgmnknmnofaaDoor
