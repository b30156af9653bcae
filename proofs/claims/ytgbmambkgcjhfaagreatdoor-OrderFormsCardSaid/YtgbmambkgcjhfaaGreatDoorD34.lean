/- The document's bytes of terms: the walk. Printed by gen34.py. -/
import Derived.Test.YtgbmambkgcjhfaaGreatDoorD33
set_option linter.unusedVariables false
namespace Go.Proofs.YtgbmambkgcjhfaaGreatDoor
open Go Go.Proofs Go.Wk Go.Pl
theorem cutN (m : Nat) (hm : m ≤ 1000) (A : Option Addr) (n c : Nat) (bs : List Nat) (w : World) (M I : BS) (hM : ∀ b, ¬ M b) (H : Hp ⟨w, M, I⟩ [] [Sl byteR (.slice A n c) bs] w) (hb : ∀ x, x ∈ bs → x < 256) :
    Ctr Tryz.prog 31 [.slice A n c, .int .i64 (m : Int)] w M I (fun a : SV => .slice a.A a.n a.c) (fun _ => True) (fun _ => []) (fun a => [Sl byteR (.slice a.A a.n a.c) (bs.take m)]) := by
  obtain ⟨hn, hc, hc2⟩ := H.sll (A := A) (n := n) (c := c)
  refine Exe.of_ev tok Tryz.call31 Tryz.func31 rfl rfl rfl ?_
  have H0 : Hp ⟨w, M, I⟩ [row 5 1 (.slice none 0 0) 0 []] [Sl byteR (.slice A n c) bs] w := Hp.nil H 5 1
  have H0 : Hp ⟨w, M, I⟩ [row 5 1 (.slice none 0 0) 0 (byC ((bs.take m).take 0))] [Sl byteR (.slice A n c) bs] w := H0
  refine loop_rule tok (σ := Nat × SV) 8387808 (fun s => [(10, .int .i64 s.1), (5, .slice s.2.A s.2.n s.2.c)])
    (fun s w' => s.1 ≤ n ∧ s.2.n = ((bs.take m).take s.1).length ∧ Hp ⟨w, M, I⟩ [row 5 1 (.slice s.2.A s.2.n s.2.c) s.2.n (byC ((bs.take m).take s.1))] [Sl byteR (.slice A n c) bs] w') (fun s => n - s.1) (0, ⟨none, 0, 0⟩) rfl rfl ⟨rfl, rfl, trivial⟩ ⟨Nat.zero_le _, rfl, H0⟩ ?_
  rintro ⟨i, A1, n1, c1⟩ j w1 ⟨hi, hn1, H1⟩
  simp only at hi hn1 H1
  have hn60 : n1 ≤ m := by rw [hn1]; simp; omega
  refine brd (fun q => ?_) (fun q => ?_)
  · have q : (i : Int) < n := q
    obtain ⟨u, hu⟩ : ∃ u, bs[i]? = some u := ⟨_, List.getElem?_eq_getElem (by omega)⟩
    obtain ⟨b1, o1, rfl⟩ := H1.slAt (A := A) (n := n) (c := c) (r := byteR) (by omega)
    have nxt : Value.int .i64 (IntKind.i64.wrap (i + 1)) = .int .i64 ((i + 1 : Nat) : Int) := by rw [w64 (by omega) (by omega)]; rfl
    refine idx_own tok rfl rfl (show (0 : Int) ≤ (i : Int) by omega) q ?_
    refine sl_ld (n := n) (c := c) (j := i) (f := 0) (r := byteR) tok H1 (.int .u8 u) hu rfl (fun _ _ => rfl) ?_
    refine brd (fun q2 => ?_) (fun q2 => ?_)
    · have q2 : (i : Int) < m := q2
      refine slice_as tok H1 [.int .u8 u] rfl rfl rfl rfl rfl rfl fun g w2 H2 => ?_
      refine append_rule (v := .slice A1 n1 c1) (b := g) (m := 1) (c := 1) tok H2 rfl rfl rfl rfl rfl rfl rfl rfl (by show (n1 + 1) * 1 ≤ _; omega) (by omega) fun A2 c2 w3 H3 => ?_
      have e : (bs.take m).take (i + 1) = (bs.take m).take i ++ [u] := by
        rw [List.take_add_one, List.getElem?_take, if_pos (by omega), hu]; rfl
      refine Exists.intro (i + 1, ⟨A2, n1 + 1, c2⟩) (And.intro ⟨nxt, rfl, trivial⟩ (And.intro ?_ ⟨?_, ?_, ?_⟩))
      · simp only; omega
      · simp only; omega
      · simp only
        rw [e, List.length_append, ← hn1]; rfl
      · simp only
        rw [e, byC_app]
        have H4 : Hp ⟨w, M, I⟩ [row 5 1 (.slice A2 (n1 + 1) c2) (n1 + 1) (byC ((bs.take m).take i) ++ [.int .u8 u])] [Sl byteR (.slice (some ⟨b1, o1, none⟩) n c) bs] w3 := Hp.keep H3
        exact H4
    · have q2 : ¬ (i : Int) < m := q2
      have e : (bs.take m).take (i + 1) = (bs.take m).take i := by
        have l60 : (bs.take m).length ≤ m := by simp; omega
        rw [List.take_of_length_le (l := bs.take m) (by omega), List.take_of_length_le (l := bs.take m) (by omega)]
      refine Exists.intro (i + 1, ⟨A1, n1, c1⟩) (And.intro ⟨nxt, rfl, trivial⟩ (And.intro ?_ ⟨?_, ?_, ?_⟩))
      · simp only; omega
      · simp only; omega
      · simp only
        rw [e]; exact hn1
      · simp only
        rw [e]; exact H1
  · have q : ¬ (i : Int) < n := q
    have e : (bs.take m).take i = bs.take m := List.take_of_length_le (by simp; omega)
    rw [e] at H1
    have H2 := frzBytes H1 (v := .slice A1 n1 c1) (bs.take m) hM fun x hx => hb x (List.mem_of_mem_take hx)
    exact Exists.intro ⟨A1, n1, c1⟩ (And.intro rfl (And.intro trivial (Hp.keep H2)))
/-- Numbers one behind the other. -/
def numsB : List Int → List Nat
  | [] => []
  | x :: r => numB x.toNat 0 ++ numsB r
theorem numsB_app : ∀ a b : List Int, numsB (a ++ b) = numsB a ++ numsB b
  | [], _ => rfl
  | x :: a, b => by rw [List.cons_append, numsB, numsB, numsB_app a b, List.append_assoc]
theorem numsB_lt : ∀ {l : List Int}, (∀ x, x ∈ l → 0 ≤ x ∧ x < 18446744073709551616) → (∀ y, y ∈ numsB l → y < 256) ∧ (numsB l).length ≤ 9 * l.length
  | [], _ => ⟨fun y h => (by cases h), by simp [numsB]⟩
  | x :: r, h => by
    have h0 := h x List.mem_cons_self
    obtain ⟨h1, h2⟩ := numsB_lt (l := r) fun y hy => h y (List.mem_cons_of_mem _ hy)
    have n1 := numB_len (n := x.toNat) (m := 0) (by omega)
    refine ⟨fun y hy => ?_, ?_⟩
    · rw [numsB] at hy
      rcases List.mem_append.1 hy with hy | hy
      · exact numB_lt (by omega) (by omega) y hy
      · exact h1 y hy
    · rw [numsB, List.length_append, List.length_cons]; omega
def tmInts (t : Tm) : List Int := [t.kind, t.prin, t.parts, t.basis, t.months, t.start, t.fee, t.grace]
theorem tm_nums (t : Tm) : numsB (tmInts t) = tmBytes t := by
  unfold tmInts tmBytes
  simp only [numsB, List.append_assoc, List.append_nil]
set_option maxHeartbeats 4000000 in
set_option maxRecDepth 20000 in
theorem refBytes (t : Tm) (hf : TmFit t) (w : World) (M I : BS) (hM : ∀ b, ¬ M b) (H : Hp ⟨w, M, I⟩ [] [] w) :
    Ctr Tryz.prog 40 [rtV t] w M I (fun a : SV => .slice a.A a.n a.c) (fun _ => True) (fun _ => []) (fun a => [Sl byteR (.slice a.A a.n a.c) (tmBytes t)]) := by
  have hin : ∀ x, x ∈ tmInts t → 0 ≤ x ∧ x < 18446744073709551616 := by
    intro x hx
    unfold tmInts at hx
    simp only [List.mem_cons, List.not_mem_nil, or_false] at hx
    rcases hx with h | h | h | h | h | h | h | h <;> rw [h]
    · exact hf.kind
    · exact hf.prin
    · exact hf.parts
    · exact hf.basis
    · exact hf.months
    · exact hf.start
    · exact hf.fee
    · exact hf.grace
  have hu : ∀ x, x ∈ tmInts t → inK .u64 x := fun x hx => ⟨(hin x hx).1, by show x ≤ (18446744073709551615 : Int); have := (hin x hx).2; omega⟩
  have hlen : (tmInts t).length = 8 := rfl
  have hall := numsB_lt hin
  refine Exe.of_ev tok Tryz.call40 Tryz.func40 rfl rfl rfl ?_
  refine box_as H (rtC t) rfl fun x w1 H1 => ?_
  refine load_rule tok H1 (v := .int .u8 t.kind) rfl ?_
  refine load_rule tok H1 (v := .int .i64 t.prin) rfl ?_
  refine load_rule tok H1 (v := .int .u32 t.parts) rfl ?_
  refine load_rule tok H1 (v := .int .u8 t.basis) rfl ?_
  refine load_rule tok H1 (v := .int .i64 t.months) rfl ?_
  refine load_rule tok H1 (v := .int .i64 t.start) rfl ?_
  refine load_rule tok H1 (v := .int .i64 t.fee) rfl ?_
  refine load_rule tok H1 (v := .int .i64 t.grace) rfl ?_
  refine slice_as tok H1 [.int .u64 (IntKind.u64.wrap t.kind), .int .u64 (IntKind.u64.wrap t.prin), .int .u64 (IntKind.u64.wrap t.parts), .int .u64 (IntKind.u64.wrap t.basis), .int .u64 (IntKind.u64.wrap t.months), .int .u64 (IntKind.u64.wrap t.start), .int .u64 (IntKind.u64.wrap t.fee), .int .u64 (IntKind.u64.wrap t.grace)] rfl rfl rfl rfl rfl rfl fun g w2 H2 => ?_
  have ek : ([.int .u64 (IntKind.u64.wrap t.kind), .int .u64 (IntKind.u64.wrap t.prin), .int .u64 (IntKind.u64.wrap t.parts), .int .u64 (IntKind.u64.wrap t.basis), .int .u64 (IntKind.u64.wrap t.months), .int .u64 (IntKind.u64.wrap t.start), .int .u64 (IntKind.u64.wrap t.fee), .int .u64 (IntKind.u64.wrap t.grace)] : List Value) = [.int .u64 t.kind, .int .u64 t.prin, .int .u64 t.parts, .int .u64 t.basis, .int .u64 t.months, .int .u64 t.start, .int .u64 t.fee, .int .u64 t.grace] := by
    rw [wrap_id (hu t.kind (by unfold tmInts; simp)), wrap_id (hu t.prin (by unfold tmInts; simp)), wrap_id (hu t.parts (by unfold tmInts; simp)), wrap_id (hu t.basis (by unfold tmInts; simp)), wrap_id (hu t.months (by unfold tmInts; simp)), wrap_id (hu t.start (by unfold tmInts; simp)), wrap_id (hu t.fee (by unfold tmInts; simp)), wrap_id (hu t.grace (by unfold tmInts; simp))]
  rw [ek] at H2
  have H3 := H2.frzBlk (n := g) (Go.Wk.intR .u64) (tmInts t) hM (by rw [hlen]; decide) rfl (fun i y hy => ⟨(), hu y (List.mem_of_getElem? hy), by
    rcases i with _ | _ | _ | _ | _ | _ | _ | _ | i
    · injection hy with hy; rw [← hy]; rfl
    · injection hy with hy; rw [← hy]; rfl
    · injection hy with hy; rw [← hy]; rfl
    · injection hy with hy; rw [← hy]; rfl
    · injection hy with hy; rw [← hy]; rfl
    · injection hy with hy; rw [← hy]; rfl
    · injection hy with hy; rw [← hy]; rfl
    · injection hy with hy; rw [← hy]; rfl
    · unfold tmInts at hy; simp at hy, rfl⟩)
  have H4 : Hp ⟨w, M, I⟩ [blk x (rtC t) 36] [Sl byteR (.slice none 0 0) [], Sl (Go.Wk.intR .u64) (.slice (some ⟨g, 0, none⟩) 8 8) (tmInts t)] w2 := Hp.keep (Hp.slNil byteR (show Hp ⟨w, M, I⟩ [blk x (rtC t) 36] [Sl (Go.Wk.intR .u64) (.slice (some ⟨g, 0, none⟩) 8 8) (tmInts t)] w2 from H3))
  refine loop_rule tok (σ := Nat × SV) 4393751543848 (fun s => [(32, .int .i64 (s.1 : Int)), (3, .slice s.2.A s.2.n s.2.c)]) (fun s w' => s.1 ≤ 8 ∧ Hp ⟨w, M, I⟩ [blk x (rtC t) 36] [Sl byteR (.slice s.2.A s.2.n s.2.c) (numsB ((tmInts t).take s.1)), Sl (Go.Wk.intR .u64) (.slice (some ⟨g, 0, none⟩) 8 8) (tmInts t)] w') (fun s => 8 - s.1) (0, ⟨none, 0, 0⟩) rfl rfl ⟨rfl, rfl, trivial⟩ ⟨Nat.zero_le _, H4⟩ ?_
  intro s j w3 hW
  have hi := hW.1
  have H5 := hW.2
  refine brd (fun hlt => ?_) (fun hge => ?_)
  · have hlt : (s.1 : Int) < 8 := hlt
    have ew : IntKind.i64.wrap ((s.1 : Int) + 1) = ((s.1 + 1 : Nat) : Int) := w64 (by omega) (by omega)
    refine idx_rule tok H5 rfl rfl rfl (by omega) hlt fun eb eo y hy H6 => ?_
    have hy' : (tmInts t)[s.1]? = some y := by simpa using hy
    have hyi := hin y (List.mem_of_getElem? hy')
    have ly := numB_lt (n := y.toNat) (m := 0) (by omega) (by omega)
    have ny := numB_len (n := y.toNat) (m := 0) (by omega)
    have htk : (tmInts t).take (s.1 + 1) = (tmInts t).take s.1 ++ [y] := by rw [List.take_add_one, hy']; rfl
    have hpre := numsB_lt (l := (tmInts t).take s.1) fun z hz => hin z (List.mem_of_mem_take hz)
    have hpl : ((tmInts t).take s.1).length ≤ 8 := by rw [List.length_take]; omega
    have efl : [numsB ((tmInts t).take s.1), numB y.toNat 0].flatten = numsB ((tmInts t).take (s.1 + 1)) := by
      rw [htk, numsB_app]; simp [numsB]
    refine ld1_rule tok H6 (v := fun _ => .int .u64 y) rfl rfl (fun _ => rfl) fun _ _ H7 => ?_
    refine call_rule H7 (fun M I h0 h => uintRef_as y.toNat y (by omega) (by omega) _ M I (h0 rfl) h) fun s7 w4 _ H8 => ?_
    have H9 := frzBytes H8 (v := .slice s7.A s7.n s7.c) (numB y.toNat 0) hM ly
    refine slice_as tok H9 [.slice s.2.A s.2.n s.2.c, .slice s7.A s7.n s7.c] rfl rfl rfl rfl rfl rfl fun g2 w5 H10 => ?_
    have H11 := frzSl H10 (g := g2) [(s.2, numsB ((tmInts t).take s.1)), (s7, numB y.toNat 0)] 2 [numsB ((tmInts t).take s.1), numB y.toNat 0] rfl rfl rfl hM rfl (fun q hq => by
      simp only [List.mem_cons, List.not_mem_nil, or_false] at hq
      rcases hq with rfl | rfl
      · simp
      · simp)
    refine call_rule H11 (fun M I _ h => join (some ⟨g2, 0, none⟩) 2 2 [numsB ((tmInts t).take s.1), numB y.toNat 0] (by simp only [List.flatten_cons, List.flatten_nil, List.append_nil, List.length_append]; omega) _ M I h) fun s8 w6 _ H12 => ?_
    rw [efl] at H12
    have hnx := numsB_lt (l := (tmInts t).take (s.1 + 1)) fun z hz => hin z (List.mem_of_mem_take hz)
    have H13 := frzBytes H12 (v := .slice s8.A s8.n s8.c) (numsB ((tmInts t).take (s.1 + 1))) hM hnx.1
    exact Exists.intro (s.1 + 1, s8) (And.intro ⟨congrArg (Value.int .i64) ew, rfl, trivial⟩ (And.intro (by show 8 - (s.1 + 1) < 8 - s.1; omega) ⟨by show s.1 + 1 ≤ 8; omega, Hp.keep H13⟩))
  · have hge : ¬ (s.1 : Int) < 8 := hge
    have e8 : (tmInts t).take s.1 = tmInts t := List.take_of_length_le (by rw [hlen]; omega)
    rw [e8, tm_nums] at H5
    exact Exists.intro s.2 (And.intro rfl (And.intro trivial (Hp.keep H5)))
end Go.Proofs.YtgbmambkgcjhfaaGreatDoor
