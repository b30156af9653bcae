/- Errors joined: one of them is, or none: the walk. -/
import Derived.Test.YtgbmambkgcjhfaaGreatDoorD20
set_option linter.unusedVariables false
namespace Go.Wk
section
variable {P : Program} {T : Tab} {K : Value → World → Prop} {w : World} {B : Base} {S S' : List Asn} {F : List Fact}
/-- A literal's block as a row of which nothing is used. -/
theorem Hp.toRow0 (H : Hp B S F w) {g : Nat} {cs : List Value} {e : TypeId} [h1 : TakeB S g cs e S'] (sz n : Nat) (hl : cs.length = n * sz) (hm : n ≤ 9223372036854775807) : Hp B (row e sz (.slice (some ⟨g, 0, none⟩) 0 n) 0 [] :: S') F w := by
  have hp' : Take S (blk g cs e) S' := ⟨h1.perm⟩
  refine H.step (A := blk g cs e) rfl rfl rfl (Nat.le_refl _) fun fa ha => ⟨fun _ _ _ => rfl, fa, ⟨⟨by simp, .inr ⟨g, n, cs.toArray, rfl, Nat.zero_le _, ha.2, Nat.zero_le _, hm, by simpa using hl, by simp⟩⟩, fun b => ?_⟩, fun b hb => .inl hb⟩
  rw [ha.1 b]; simp [Value.ownBlock, eq_comm]
/-- make of a slice of no length. -/
theorem make0_rule (hT : T.Ok P) (H : Hp B S F w) {t e : TypeId} {it : TypeInfo} {de : TD} {z : Value} {sz : Nat} {kl kc : IntKind} (c : Nat) (ht : T t = some ⟨.slice e, it⟩) (he : T e = some de) (hz : de.info.zero = some z) (hsz : Nat.beq de.info.size sz = true)
    (hb : de.info.bytes * c ≤ 281474976710656) (hc : c ≤ 9223372036854775807) (k : ∀ g w', Hp B (row e sz (.slice (some ⟨g, 0, none⟩) 0 c) 0 [] :: S) F w' → K (.slice (some ⟨g, 0, none⟩) 0 c) w') : MakeSliceK P K w t (.int kl 0) (.int kc (c : Int)) := by
  have hs := Nat.eq_of_beq_eq_true hsz
  have hbi : (de.info.bytes : Int) * (c : Int) ≤ 281474976710656 := by rw [← Int.natCast_mul]; omega
  refine MakeSliceK.of (run_make (P := P) w t e de.info z (hT t _ ht).1 (hT e _ he).2 hz kl kc 0 (c : Int) (Int.le_refl _) (by omega) hbi (by omega)) ?_
  rw [Int.toNat_natCast, Int.toNat_zero]
  have H1 := H.alloc (.cells (madeCells z.cells (c * de.info.size)) e)
  have H2 : Hp B (blk w.heap.size (madeCells z.cells (c * de.info.size)).toList e :: S) F (w.alloc (.cells (madeCells z.cells (c * de.info.size)) e)) := H1
  exact k _ _ (Hp.toRow0 H2 sz c (by rw [Array.length_toList, size_madeCells, hs]) hc)
end
end Go.Wk
namespace Go.Proofs.YtgbmambkgcjhfaaGreatDoor
open Go Go.Proofs Go.Wk
/-- An error, or none. -/
abbrev Er := Option (TypeId × Value)
def erV : Er → Value
  | none => .nilIface
  | some p => .iface p.1 p.2
theorem erV_one (x : Er) : allOne [erV x] = true := by cases x <;> rfl
theorem erV_or (x : Er) : (erV x = .nilIface ∧ x.isSome = false) ∨ ((∃ p : TypeId × Value, erV x = .iface p.1 p.2) ∧ x.isSome = true) := by
  cases x with
  | none => exact .inl ⟨rfl, rfl⟩
  | some p => exact .inr ⟨⟨p, rfl⟩, rfl⟩
@[reducible] def errR : Rp Er := ⟨1, Unit, fun x _ => [erV x], fun _ _ => True, fun _ _ => [], fun _ _ => rfl⟩
def cntE : List Er → Nat
  | [] => 0
  | x :: r => (if x.isSome = true then 1 else 0) + cntE r
theorem cntE_snoc : ∀ (l : List Er) (x : Er), cntE (l ++ [x]) = cntE l + (if x.isSome = true then 1 else 0)
  | [], x => by simp [cntE]
  | y :: l, x => by
    rw [List.cons_append, cntE, cntE, cntE_snoc l x, Nat.add_assoc]
theorem cntE_le : ∀ (l : List Er), cntE l ≤ l.length
  | [] => Nat.le_refl _
  | y :: l => by
    have := cntE_le l
    rw [cntE, List.length_cons]
    split <;> omega
theorem cntE_zero : ∀ (l : List Er), cntE l = 0 ↔ ∀ x, x ∈ l → x = none
  | [] => by simp [cntE]
  | y :: l => by
    rw [cntE]
    cases y with
    | none => simp [cntE_zero l]
    | some p => simp
theorem take_snoc {α : Type} (l : List α) (i : Nat) (x : α) (h : l[i]? = some x) : l.take (i + 1) = l.take i ++ [x] := by
  rw [List.take_add_one, h]; rfl
set_option maxHeartbeats 1000000 in
theorem joinAny (A : Option Addr) (n c : Nat) (xs : List Er) (hxn : xs.length ≤ 100) (w : World) (M I : BS) (H : Hp ⟨w, M, I⟩ [] [Sl errR (.slice A n c) xs] w) :
    Ctr Tryz.prog 67 [.slice A n c] w M I (fun a : Option Nat => erV (a.map fun b => (197, .pointer (some ⟨b, 0, none⟩)))) (fun a => a = none ↔ cntE xs = 0) (fun _ => []) (fun _ => []) := by
  obtain ⟨hnl, hc, hc2⟩ := H.sll (A := A) (n := n) (c := c)
  refine Exe.of_ev tok Tryz.call67 Tryz.func67 rfl rfl rfl ?_
  refine loop_rule tok (σ := Nat) 1046568 (fun i => [(3, .int .i64 ((cntE (xs.take i) : Nat) : Int)), (11, .int .i64 (i : Int))]) (fun i w' => i ≤ n ∧ Hp ⟨w, M, I⟩ [] [Sl errR (.slice A n c) xs] w') (fun i => n - i) 0 rfl rfl ⟨rfl, rfl, trivial⟩ ⟨Nat.zero_le _, H⟩ ?_
  intro i j w1 hW
  have hi := hW.1
  have H1 := hW.2
  refine brd (fun hlt => ?_) (fun hge => ?_)
  · have ew : IntKind.i64.wrap ((i : Int) + 1) = ((i + 1 : Nat) : Int) := w64 (by omega) (by omega)
    refine idx_rule tok H1 rfl rfl rfl (by omega) hlt fun eb eo x hx H2 => ?_
    have hx' : xs[i]? = some x := by simpa using hx
    have hcl := cntE_le (xs.take i)
    rw [List.length_take] at hcl
    have ec : cntE (xs.take (i + 1)) = cntE (xs.take i) + (if x.isSome = true then 1 else 0) := by rw [take_snoc xs i x hx', cntE_snoc]
    refine Or.elim (erV_or x) (fun hq => ?_) (fun hq => ?_)
    · have q := hq.2
      rw [if_neg (by rw [q]; simp), Nat.add_zero] at ec
      refine ld1_rule tok H2 (v := fun _ => .nilIface) rfl rfl (fun _ => congrArg (fun z => [z]) hq.1) fun _ _ H3 => ?_
      exact Exists.intro (i + 1) (And.intro ⟨congrArg (fun k : Nat => Value.int .i64 (k : Int)) ec.symm, congrArg (Value.int .i64) ew, trivial⟩ (And.intro (by show n - (i + 1) < n - i; omega) ⟨by omega, Hp.keep H3⟩))
    · have q := hq.2
      rw [if_pos q] at ec
      have e3 : IntKind.i64.wrap (((cntE (xs.take i) : Nat) : Int) + 1) = ((cntE (xs.take (i + 1)) : Nat) : Int) := by rw [ec]; exact w64 (by omega) (by omega)
      refine Exists.elim hq.1 fun p hp => ?_
      refine ld1_rule tok H2 (v := fun _ => .iface p.1 p.2) rfl rfl (fun _ => congrArg (fun z => [z]) hp) fun _ _ H3 => ?_
      exact Exists.intro (i + 1) (And.intro ⟨congrArg (Value.int .i64) e3, congrArg (Value.int .i64) ew, trivial⟩ (And.intro (by show n - (i + 1) < n - i; omega) ⟨by omega, Hp.keep H3⟩))
  have ei : i = xs.length := by omega
  have et : xs.take i = xs := by rw [ei, List.take_length]
  have hcl := cntE_le (xs.take i)
  have hcl3 : (xs.take i).length ≤ 100 := by rw [List.length_take]; omega
  refine brd (fun hz => ?_) (fun hnz => ?_)
  · exact Exists.intro none (And.intro rfl (And.intro ⟨fun _ => by rw [et] at hz; omega, fun _ => rfl⟩ (Hp.keep H1)))
  refine make0_rule tok H1 (sz := 1) (cntE (xs.take i)) rfl rfl rfl rfl (by show 16 * cntE (xs.take i) ≤ _; omega) (by omega) fun g w2 H2 => ?_
  refine box_as H2 [.slice (some ⟨g, 0, none⟩) 0 (cntE (xs.take i))] rfl fun b w3 H3 => ?_
  refine loop_rule tok (σ := Nat × Nat × Option Addr × Nat × List Value) 35184103653632 (fun s => [(28, .int .i64 (s.1 : Int))]) (fun s w' => s.1 ≤ n ∧ s.2.1 ≤ s.1 ∧ Hp ⟨w, M, I⟩ [blk b [.slice s.2.2.1 s.2.1 s.2.2.2.1] 199, row 51 1 (.slice s.2.2.1 s.2.1 s.2.2.2.1) s.2.1 s.2.2.2.2] [Sl errR (.slice A n c) xs] w') (fun s => n - s.1) (0, 0, some ⟨g, 0, none⟩, cntE (xs.take i), []) rfl rfl ⟨rfl, trivial⟩ ⟨Nat.zero_le _, Nat.le_refl _, Hp.keep H3⟩ ?_
  intro s j2 w4 hW
  have hs1 := hW.1
  have hs2 := hW.2.1
  have H4 := hW.2.2
  refine brd (fun hlt => ?_) (fun hge => ?_)
  · have ew : IntKind.i64.wrap ((s.1 : Int) + 1) = ((s.1 + 1 : Nat) : Int) := w64 (by omega) (by omega)
    refine idx_rule tok H4 rfl rfl rfl (by omega) hlt fun eb eo x hx H5 => ?_
    refine Or.elim (erV_or x) (fun hq => ?_) (fun hq => ?_)
    · refine ld1_rule tok H5 (v := fun _ => .nilIface) rfl rfl (fun _ => congrArg (fun z => [z]) hq.1) fun _ _ H6 => ?_
      exact Exists.intro (s.1 + 1, s.2) (And.intro ⟨congrArg (Value.int .i64) ew, trivial⟩ (And.intro (by show n - (s.1 + 1) < n - s.1; omega) ⟨by show s.1 + 1 ≤ n; omega, by show s.2.1 ≤ s.1 + 1; omega, Hp.keep H6⟩))
    · refine Exists.elim hq.1 fun p hp => ?_
      refine ld1_rule tok H5 (v := fun _ => .iface p.1 p.2) rfl rfl (fun _ => congrArg (fun z => [z]) hp) fun _ _ H6 => ?_
      refine load_rule tok H6 (v := .slice s.2.2.1 s.2.1 s.2.2.2.1) rfl ?_
      refine slice_as tok H6 [.iface p.1 p.2] rfl rfl rfl rfl rfl rfl fun g2 w5 H7 => ?_
      refine append_rule (v := .slice s.2.2.1 s.2.1 s.2.2.2.1) (b := g2) (m := 1) (c := 1) tok H7 rfl rfl rfl rfl rfl rfl rfl rfl (by show (s.2.1 + 1) * 16 ≤ _; omega) (by omega) fun A2 c2 w6 H8 => ?_
      refine store_as tok H8 [.slice A2 (s.2.1 + 1) c2] rfl rfl rfl rfl rfl fun w7 H9 => ?_
      exact Exists.intro (s.1 + 1, s.2.1 + 1, A2, c2, s.2.2.2.2 ++ [.iface p.1 p.2]) (And.intro ⟨congrArg (Value.int .i64) ew, trivial⟩ (And.intro (by show n - (s.1 + 1) < n - s.1; omega) ⟨by show s.1 + 1 ≤ n; omega, by show s.2.1 + 1 ≤ s.1 + 1; omega, Hp.keep H9⟩))
  · exact Exists.intro (some b) (And.intro rfl (And.intro ⟨fun h => (by cases h), fun h => absurd (by rw [et, h]; rfl) hnz⟩ (Hp.keep H4)))
end Go.Proofs.YtgbmambkgcjhfaaGreatDoor
