/- A ledger that there isn't: the walks. -/
import Derived.Test.YtfemfomgmopibaaGreatDoorB20
set_option linter.unusedVariables false
namespace Go.Proofs.YtfemfomgmopibaaGreatDoor
open Go Go.Proofs Go.Wk
@[reducible] def lnZC : List Value := [.int .u32 0, .int .i32 0, .int .u8 0, .int .u32 0, .slice none 0 0, .int .i64 0]
@[reducible] def lnZV : Value := .agg #[.int .u32 0, .int .i32 0, .int .u8 0, .int .u32 0, .slice none 0 0, .int .i64 0]
@[reducible] def entZV : Value := .agg #[.int .u32 0, .int .i32 0, .int .u8 0, .int .u32 0, .slice none 0 0]
theorem lenNil : CB 18 [.pointer none] (.int .i64 0) := by
  intro w M I H
  refine Exe.of_ev tok Tryz.call18 Tryz.func18 rfl rfl rfl ?_
  exact Exists.intro () (And.intro rfl (And.intro trivial (Hp.keep H)))
theorem lineNil (i : Int) : CB 21 [.pointer none, .int .i64 i] (.tuple #[lnZV, .bool false]) := by
  intro w M I H
  refine Exe.of_ev tok Tryz.call21 Tryz.func21 rfl rfl rfl ?_
  refine alloc_as tok H lnZC rfl rfl rfl fun r w1 H1 => ?_
  refine brd (fun q => ?_) (fun q => ?_)
  · refine store_as tok H1 lnZC rfl rfl rfl rfl rfl fun w2 H2 => ?_
    refine Exists.intro ⟨r, 0, none⟩ (Exists.intro lnZV (And.intro rfl (And.intro (Hp.ld (T := tb) tok H2 rfl) ?_)))
    exact Exists.intro () (And.intro rfl (And.intro trivial (Hp.keep H2)))
  refine call_rule H1 (fun M I _ h => lenNil _ M I h) fun _ w2 _ H2 => ?_
  refine brd (fun q2 => ?_) (fun q2 => absurd q2 (by omega))
  refine store_as tok H2 lnZC rfl rfl rfl rfl rfl fun w3 H3 => ?_
  refine Exists.intro ⟨r, 0, none⟩ (Exists.intro lnZV (And.intro rfl (And.intro (Hp.ld (T := tb) tok H3 rfl) ?_)))
  exact Exists.intro () (And.intro rfl (And.intro trivial (Hp.keep H3)))
theorem lineNo (l m1 m2 : Nat) (s : SV) (i : Int) (hi : (s.n : Int) ≤ i) (w : World) (M I : BS) (H : Hp ⟨w, M, I⟩ [blk l [.slice s.A s.n s.c, .map (some m1), .map (some m2)] 85] [] w) :
    Ctr Tryz.prog 21 [.pointer (some ⟨l, 0, none⟩), .int .i64 i] w M I (fun _ : Unit => .tuple #[lnZV, .bool false]) (fun _ => True) (fun _ => [blk l [.slice s.A s.n s.c, .map (some m1), .map (some m2)] 85]) (fun _ => []) := by
  refine Exe.of_ev tok Tryz.call21 Tryz.func21 rfl rfl rfl ?_
  refine alloc_as tok H lnZC rfl rfl rfl fun r w1 H1 => ?_
  refine brd (fun q => absurd q (by omega)) (fun q => ?_)
  refine call_rule H1 (fun M I _ h => len__ l m1 m2 s _ M I h) fun _ w2 _ H2 => ?_
  refine brd (fun q2 => ?_) (fun q2 => absurd q2 (by omega))
  refine store_as tok H2 lnZC rfl rfl rfl rfl rfl fun w3 H3 => ?_
  refine Exists.intro ⟨r, 0, none⟩ (Exists.intro lnZV (And.intro rfl (And.intro (Hp.ld (T := tb) tok H3 rfl) ?_)))
  exact Exists.intro () (And.intro rfl (And.intro trivial (Hp.keep H3)))
theorem liveNil (k : Key) : CB 23 [.pointer none, keyV k] (.tuple #[entZV, .bool false]) := by
  intro w M I H
  refine Exe.of_ev tok Tryz.call23 Tryz.func23 rfl rfl rfl ?_
  refine box_as H (keyC k) rfl fun p w1 H1 => ?_
  refine alloc_as tok H1 zeroC rfl rfl rfl fun r w2 H2 => ?_
  refine store_as tok H2 zeroC rfl rfl rfl rfl rfl fun w3 H3 => ?_
  refine Exists.intro ⟨r, 0, none⟩ (Exists.intro entZV (And.intro rfl (And.intro (Hp.ld (T := tb) tok H3 rfl) ?_)))
  exact Exists.intro () (And.intro rfl (And.intro trivial (Hp.keep H3)))
theorem postNil (k : Key) (A : Option Addr) (n c : Nat) : CB 12 [.pointer none, .agg #[.int .u32 k.loan, .int .i32 k.day, .int .u8 k.kind, .int .u32 k.seq, .slice A n c]] (.iface 47 (.int .i64 3)) := by
  intro w M I H
  refine Exe.of_ev tok Tryz.call12 Tryz.func12 rfl rfl rfl ?_
  refine box_as H (entC k A n c) rfl fun x w1 H1 => ?_
  exact Exists.intro () (And.intro rfl (And.intro trivial (Hp.keep H1)))
theorem revNil (k : Key) : CB 16 [.pointer none, keyV k] (.iface 47 (.int .i64 3)) := by
  intro w M I H
  refine Exe.of_ev tok Tryz.call16 Tryz.func16 rfl rfl rfl ?_
  refine box_as H (keyC k) rfl fun p w1 H1 => ?_
  exact Exists.intro () (And.intro rfl (And.intro trivial (Hp.keep H1)))
theorem balNil (loan acct : Int) : CB 15 [.pointer none, .int .u32 loan, .int .u8 acct] (.int .i64 0) := by
  intro w M I H
  refine Exe.of_ev tok Tryz.call15 Tryz.func15 rfl rfl rfl ?_
  exact Exists.intro () (And.intro rfl (And.intro trivial (Hp.keep H)))
theorem ctlNil (acct : Int) : CB 17 [.pointer none, .int .u8 acct] (.int .i64 0) := by
  intro w M I H
  refine Exe.of_ev tok Tryz.call17 Tryz.func17 rfl rfl rfl ?_
  exact Exists.intro () (And.intro rfl (And.intro trivial (Hp.keep H)))
theorem copyNil : CB 10 [.pointer none] (.pointer none) := by
  intro w M I H
  refine Exe.of_ev tok Tryz.call10 Tryz.func10 rfl rfl rfl ?_
  exact Exists.intro () (And.intro rfl (And.intro trivial (Hp.keep H)))
theorem sameNils : CB 14 [.pointer none, .pointer none] (.bool true) := by
  intro w M I H
  refine Exe.of_ev tok Tryz.call14 Tryz.func14 rfl rfl rfl ?_
  exact Exists.intro () (And.intro rfl (And.intro trivial (Hp.keep H)))
theorem sameNil (l : Nat) : CB 14 [.pointer none, .pointer (some ⟨l, 0, none⟩)] (.bool false) := by
  intro w M I H
  refine Exe.of_ev tok Tryz.call14 Tryz.func14 rfl rfl rfl ?_
  exact Exists.intro () (And.intro rfl (And.intro trivial (Hp.keep H)))
theorem loanNil (loan : Int) : CB 19 [.pointer none, .int .u32 loan] (.slice none 0 0) := by
  intro w M I H
  refine Exe.of_ev tok Tryz.call19 Tryz.func19 rfl rfl rfl ?_
  exact Exists.intro () (And.intro rfl (And.intro trivial (Hp.keep H)))
theorem loansNil : CB 20 [.pointer none] (.slice none 0 0) := by
  intro w M I H
  refine Exe.of_ev tok Tryz.call20 Tryz.func20 rfl rfl rfl ?_
  exact Exists.intro () (And.intro rfl (And.intro trivial (Hp.keep H)))
theorem bytesNil : CB 24 [.pointer none] (.slice none 0 0) := by
  intro w M I H
  refine Exe.of_ev tok Tryz.call24 Tryz.func24 rfl rfl rfl ?_
  exact Exists.intro () (And.intro rfl (And.intro trivial (Hp.keep H)))
end Go.Proofs.YtfemfomgmopibaaGreatDoor
