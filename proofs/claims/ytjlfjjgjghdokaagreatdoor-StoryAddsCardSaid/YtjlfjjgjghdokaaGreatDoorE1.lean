/- A day's interest: spans, wide sums, the rate's days: the walks. -/
import Derived.Test.YtjlfjjgjghdokaaGreatDoorG6
set_option linter.unusedVariables false
namespace Go.Proofs.YtjlfjjgjghdokaaGreatDoor
open Go Go.Proofs Go.Wk
theorem widePlus (hi lo c : Nat) (h1 : hi < 9223372036854775808) (h2 : lo < 18446744073709551616) (h3 : c < 18446744073709551616) :
    CB 248 [wideV hi lo, wideV 0 c] (.tuple #[wideV (hi + (lo + c) / 18446744073709551616) ((lo + c) % 18446744073709551616), .nilIface]) := by
  intro w M I H
  have e1 : ((lo : Int) + (c : Int) + 0) % 18446744073709551616 = (((lo + c) % 18446744073709551616 : Nat) : Int) := by omega
  have e2 : ((lo : Int) + (c : Int) + 0) / 18446744073709551616 = (((lo + c) / 18446744073709551616 : Nat) : Int) := by omega
  have hq : (lo + c) / 18446744073709551616 ≤ 1 := by omega
  have e3 : ((hi : Int) + 0 + (((lo + c) / 18446744073709551616 : Nat) : Int)) % 18446744073709551616 = ((hi + (lo + c) / 18446744073709551616 : Nat) : Int) := by omega
  have e4 : ((hi : Int) + 0 + (((lo + c) / 18446744073709551616 : Nat) : Int)) / 18446744073709551616 = 0 := by omega
  refine Exe.of_ev tok Tryz.call248 Tryz.func248 rfl rfl rfl ?_
  refine box_as H (wideC hi lo) rfl fun a w1 H1 => ?_
  refine box_as H1 (wideC 0 c) rfl fun b w2 H2 => ?_
  refine alloc_as tok H2 (wideC 0 0) rfl rfl rfl fun r w3 H3 => ?_
  refine load_rule tok H3 (v := .int .u64 (lo : Int)) rfl ?_
  refine load_rule tok H3 (v := .int .u64 (c : Int)) rfl ?_
  refine CallK_ext (e := add64Entry) Tryz.func273 (by kernel_rfl) (by kernel_rfl) (by kernel_rfl) (by kernel_rfl) (run_add64 (lo : Int) (c : Int) 0 (by omega) (by omega) (by omega) (by omega) w3) ?_
  rw [e1, e2]
  refine load_rule tok H3 (v := .int .u64 (hi : Int)) rfl ?_
  refine load_rule tok H3 (v := .int .u64 0) rfl ?_
  refine CallK_ext (e := add64Entry) Tryz.func273 (by kernel_rfl) (by kernel_rfl) (by kernel_rfl) (by kernel_rfl) (run_add64 (hi : Int) 0 (((lo + c) / 18446744073709551616 : Nat) : Int) (by omega) (by omega) (by omega) (by omega) w3) ?_
  rw [e3, e4]
  refine store_as tok H3 (wideC (hi + (lo + c) / 18446744073709551616) ((lo + c) % 18446744073709551616)) rfl rfl rfl rfl rfl fun w4 H4 => ?_
  refine Exists.intro ⟨r, 0, none⟩ (Exists.intro (wideV (hi + (lo + c) / 18446744073709551616) ((lo + c) % 18446744073709551616)) (And.intro rfl (And.intro (Hp.ld (T := tb) tok H4 rfl) ?_)))
  exact Exists.intro () (And.intro rfl (And.intro trivial (Hp.keep H4)))
theorem wideAdd (hi lo c : Nat) (h1 : hi < 9223372036854775808) (h2 : lo < 18446744073709551616) (h3 : c < 18446744073709551616) :
    CB 220 [wideV hi lo, .int .u64 (c : Int)] (.tuple #[wideV (hi + (lo + c) / 18446744073709551616) ((lo + c) % 18446744073709551616), .nilIface]) := by
  intro w M I H
  refine Exe.of_ev tok Tryz.call220 Tryz.func220 rfl rfl rfl ?_
  refine box_as H (wideC hi lo) rfl fun a w1 H1 => ?_
  refine alloc_as tok H1 (wideC 0 0) rfl rfl rfl fun r w2 H2 => ?_
  refine load_rule tok H2 (v := wideV hi lo) rfl ?_
  refine call_rule H2 (fun M I _ h => widePlus hi lo c h1 h2 h3 _ M I h) fun _ w3 _ H3 => ?_
  refine store_as tok H3 (wideC (hi + (lo + c) / 18446744073709551616) ((lo + c) % 18446744073709551616)) rfl rfl rfl rfl rfl fun w4 H4 => ?_
  refine Exists.intro ⟨r, 0, none⟩ (Exists.intro (wideV (hi + (lo + c) / 18446744073709551616) ((lo + c) % 18446744073709551616)) (And.intro rfl (And.intro (Hp.ld (T := tb) tok H4 rfl) ?_)))
  exact Exists.intro () (And.intro rfl (And.intro trivial (Hp.keep H4)))
/-! Spans. -/
def th (y m d y' m' d' : Int) : Int := 360 * (y' - y) + 30 * (m' - m) + (if min d 30 = 30 then min d' 30 else d') - min d 30
end Go.Proofs.YtjlfjjgjghdokaaGreatDoor
