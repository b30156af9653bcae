/- An error's number: the walks of errors.As and of Code. -/
import Derived.Test.YtjlfjjgjghdokaaGreatDoorAs
namespace Go.Proofs.YtjlfjjgjghdokaaGreatDoor
open Go Go.Proofs Go.Wk Go.Extern
set_option maxHeartbeats 1000000 in
theorem asE (t : Nat) (c : Int) (w : World) (M I : BS) (H : Hp ⟨w, M, I⟩ [blk t [.int .i64 0] 100] [Glob 0 errTy] w) :
    Ctr Tryz.prog 74 [.iface 100 (.int .i64 c), .iface 173 (.pointer (some ⟨t, 0, none⟩))] w M I (fun _ : Unit => .bool true) (fun _ => True) (fun _ => [blk t [.int .i64 c] 100]) (fun _ => []) := by
  refine Exe.of_ev tok Tryz.call74 Tryz.func74 rfl rfl rfl ?_
  refine CallK_ext (e := fun args => ReflectliteValue.unpack (args.getD 0 (.tuple #[]))) Tryz.func129 (by kernel_rfl) (by kernel_rfl) (by kernel_rfl) (by kernel_rfl) (X.valueOfP ⟨t, 0, none⟩ w) ?_
  have H0 : Hp ⟨w, M, I⟩ [blkO w.heap.size (.cells #[.pointer (some ⟨t, 0, none⟩)] 173), blk t [.int .i64 0] 100] [Glob 0 errTy] (w.alloc (.cells #[.pointer (some ⟨t, 0, none⟩)] 173)) := H.alloc _
  have H1 : Hp ⟨w, M, I⟩ [blk w.heap.size [.pointer (some ⟨t, 0, none⟩)] 173, blk t [.int .i64 0] 100] [Glob 0 errTy] (w.alloc (.cells #[.pointer (some ⟨t, 0, none⟩)] 173)) := H0
  refine alloc_as tok H1 [.pointer none, .pointer none, .int .u64 0] rfl rfl rfl fun x w2 H2 => ?_
  refine store_as tok H2 [hdl 173, .pointer (some ⟨w.heap.size, 0, none⟩), .int .u64 150] rfl rfl rfl rfl rfl fun w3 H3 => ?_
  refine load_rule tok H3 (v := .agg #[hdl 173, .pointer (some ⟨w.heap.size, 0, none⟩), .int .u64 150]) rfl ?_
  refine CallK_ext Tryz.func130 (by kernel_rfl) (by kernel_rfl) (by kernel_rfl) (by kernel_rfl) (X.typeP ⟨w.heap.size, 0, none⟩ w3) ?_
  refine InvokeK_ext (X.mKind (hdl 173) w3) Tryz.func301 (by kernel_rfl) (by kernel_rfl) (by kernel_rfl) (by kernel_rfl) (X.kindP w3) ?_
  refine load_rule tok H3 (v := .agg #[hdl 173, .pointer (some ⟨w.heap.size, 0, none⟩), .int .u64 150]) rfl ?_
  have hv : w3.cell? ⟨w.heap.size, 0, none⟩ = some (.pointer (some ⟨t, 0, none⟩)) := by
    obtain ⟨fa, ha⟩ := H3.own (A := blk w.heap.size [.pointer (some ⟨t, 0, none⟩)] 173) (hp := ⟨TakeB.perm⟩)
    exact blk_cells ha 0 _ rfl
  refine CallK_ext Tryz.func131 (by kernel_rfl) (by kernel_rfl) (by kernel_rfl) (by kernel_rfl) (X.isNilP ⟨w.heap.size, 0, none⟩ ⟨t, 0, none⟩ w3 hv) ?_
  refine InvokeK_ext (X.mElem (hdl 173) w3) Tryz.func315 (by kernel_rfl) (by kernel_rfl) (by kernel_rfl) (by kernel_rfl) (X.elemP w3) ?_
  refine InvokeK_ext (X.mKind (hdl 100) w3) Tryz.func301 (by kernel_rfl) (by kernel_rfl) (by kernel_rfl) (by kernel_rfl) (X.kindE w3) ?_
  refine glob_rule tok H3 (g := 0) errTy rfl rfl ?_
  refine InvokeK_ext (X.mImpl (hdl 100) w3) Tryz.func316 (by kernel_rfl) (by kernel_rfl) (by kernel_rfl) (by kernel_rfl) (X.implE w3) ?_
  refine load_rule tok H3 (v := .agg #[hdl 173, .pointer (some ⟨w.heap.size, 0, none⟩), .int .u64 150]) rfl ?_
  refine call_rule H3 (fun M I _ h => asIn t w.heap.size c _ M I h) fun _ w4 _ H4 => ?_
  exact Exists.intro () (And.intro rfl (And.intro trivial (Hp.keep H4)))
/-- An error's number. -/
inductive Err where
  | none
  | code (c : Int)
@[reducible] def errV : Err → Value
  | .none => .nilIface
  | .code c => .iface 100 (.int .i64 c)
def codeOf : Err → Int
  | .none => 0
  | .code c => c
theorem code_ (e : Err) (w : World) (M I : BS) (H : Hp ⟨w, M, I⟩ [] [Glob 0 errTy] w) :
    Ctr Tryz.prog 36 [errV e] w M I (fun _ : Unit => .int .i64 (codeOf e)) (fun _ => True) (fun _ => []) (fun _ => []) := by
  cases e with
  | none =>
    refine Exe.of_ev tok Tryz.call36 Tryz.func36 rfl rfl rfl ?_
    exact Exists.intro () (And.intro rfl (And.intro trivial (Hp.keep H)))
  | code c =>
    refine Exe.of_ev tok Tryz.call36 Tryz.func36 rfl rfl rfl ?_
    refine alloc_as tok H [.int .i64 0] rfl rfl rfl fun t w1 H1 => ?_
    refine call_rule H1 (fun M I _ h => asE t c _ M I h) fun _ w2 _ H2 => ?_
    refine load_rule tok H2 (v := .int .i64 c) rfl ?_
    exact Exists.intro () (And.intro rfl (And.intro trivial (Hp.keep H2)))
end Go.Proofs.YtjlfjjgjghdokaaGreatDoor
