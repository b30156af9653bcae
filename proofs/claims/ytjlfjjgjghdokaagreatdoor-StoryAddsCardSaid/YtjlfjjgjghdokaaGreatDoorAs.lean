/- An error's number: errors.As at a number's variable. -/
import Derived.Test.YtjlfjjgjghdokaaGreatDoorA2
import Derived.Test.YtjlfjjgjghdokaaGreatDoorK5
import Derived.KernelRfl
namespace Go.Proofs.YtjlfjjgjghdokaaGreatDoor
open Go Go.Proofs Go.Wk Go.Extern
/-- What errors.errorType holds. -/
@[reducible] def errTy : Value := .iface 293 (.agg #[.pointer (some ⟨11, 37, none⟩)])
@[reducible] def hdl (t : Nat) : Value := .pointer (some ⟨11, t, none⟩)
namespace X
theorem valueOfP (t : Addr) (w : World) : (ReflectliteValue.unpack (.iface 173 (.pointer (some t)))).run Tryz.prog w
    = .ok (.agg #[hdl 173, .pointer (some ⟨w.heap.size, 0, none⟩), .int .u64 150]) (w.alloc (.cells #[.pointer (some t)] 173)) := by kernel_rfl
theorem valueOfE (c : Int) (w : World) : (ReflectliteValue.unpack (.iface 100 (.int .i64 c))).run Tryz.prog w
    = .ok (.agg #[hdl 100, .pointer (some ⟨w.heap.size, 0, none⟩), .int .u64 130]) (w.alloc (.cells #[.int .i64 c] 100)) := by kernel_rfl
theorem typeP (a : Addr) (w : World) : (ReflectliteValue.methodAny (ReflectliteValue.valueError "reflectlite.Value.Type" 0) (fun t _ _ _ => ReflectliteType.toType t) #[.agg #[hdl 173, .pointer (some a), .int .u64 150]]).run Tryz.prog w
    = .ok (.iface 293 (.agg #[hdl 173])) w := by kernel_rfl
theorem mKind (h : Value) (w : World) : (Go.method (Tryz.prog.types.size + Made.depth) 293 (.agg #[h]) "Kind").run Tryz.prog w = .ok (301, h) w := by kernel_rfl
theorem mElem (h : Value) (w : World) : (Go.method (Tryz.prog.types.size + Made.depth) 293 (.agg #[h]) "Elem").run Tryz.prog w = .ok (315, .agg #[h]) w := by kernel_rfl
theorem mImpl (h : Value) (w : World) : (Go.method (Tryz.prog.types.size + Made.depth) 293 (.agg #[h]) "Implements").run Tryz.prog w = .ok (316, .agg #[h]) w := by kernel_rfl
theorem mAssign (h : Value) (w : World) : (Go.method (Tryz.prog.types.size + Made.depth) 293 (.agg #[h]) "AssignableTo").run Tryz.prog w = .ok (313, .agg #[h]) w := by kernel_rfl
theorem kindP (w : World) : ((ReflectliteType.abiMethod fun t => (fun a : Nat => Value.int IntKind.u8 (a : Int)) <$> Rtype.kind t) #[hdl 173]).run Tryz.prog w = .ok (.int .u8 22) w := by kernel_rfl
theorem kindE (w : World) : ((ReflectliteType.abiMethod fun t => (fun a : Nat => Value.int IntKind.u8 (a : Int)) <$> Rtype.kind t) #[hdl 100]).run Tryz.prog w = .ok (.int .u8 2) w := by kernel_rfl
theorem rlm (z : Sem Value) (f : TypeId → Addr → Nat → Nat → Sem Value) (v : Value) :
    ReflectliteValue.method z f #[v] = (do match ← ReflectliteValue.parts v with | none => z | some (t, a, fl) => f t a fl (fl % 32)) := rfl
theorem partsP (a : Addr) (w : World) : (ReflectliteValue.parts (.agg #[hdl 173, .pointer (some a), .int .u64 150])).run Tryz.prog w = .ok (some (173, a, 150)) w := by kernel_rfl
theorem isNilP (a p : Addr) (W : World) (ha : W.cell? a = some (.pointer (some p))) :
    (ReflectliteValue.method (ReflectliteValue.valueError "reflectlite.Value.IsNil" 0) ReflectliteValue.isNil #[.agg #[hdl 173, .pointer (some a), .int .u64 150]]).run Tryz.prog W = .ok (.bool false) W := by
  rw [rlm]
  simp only [Sem.run_bind, partsP, Result.andThen]
  simp [ReflectliteValue.isNil, loadVar, isAgg, underlying, Tryz.underlying173, ha, Result.andThen]
theorem elemP (w : World) : (ReflectliteType.method ReflectliteType.elem #[.agg #[hdl 173]]).run Tryz.prog w = .ok (.iface 293 (.agg #[hdl 100])) w := by kernel_rfl
theorem implE (w : World) : (ReflectliteType.relation "Implements" ReflectliteType.implements_ #[.agg #[hdl 100], errTy]).run Tryz.prog w = .ok (.bool true) w := by kernel_rfl
theorem typeOfE (v : Value) (w : World) : (ReflectliteType.typeOf #[.iface 100 v]).run Tryz.prog w = .ok (.iface 293 (.agg #[hdl 100])) w := by kernel_rfl
theorem assignE (w : World) : (ReflectliteType.relation "AssignableTo" ReflectliteType.assignableTo #[.agg #[hdl 100], .iface 293 (.agg #[hdl 100])]).run Tryz.prog w = .ok (.bool true) w := by kernel_rfl
theorem elemOfP (w : World) : (Rtype.elem? 173).run Tryz.prog w = .ok (some 100) w := by kernel_rfl
theorem mkE (p : Addr) (w : World) : (ReflectliteValue.mk 100 p ReflectliteValue.flagAddr).run Tryz.prog w = .ok (.agg #[hdl 100, .pointer (some p), .int .u64 386]) w := by kernel_rfl
theorem elemVP (a p : Addr) (W : World) (ha : W.cell? a = some (.pointer (some p))) :
    (ReflectliteValue.method (ReflectliteValue.valueError "reflectlite.Value.Elem" 0) ReflectliteValue.elem #[.agg #[hdl 173, .pointer (some a), .int .u64 150]]).run Tryz.prog W
      = .ok (.agg #[hdl 100, .pointer (some p), .int .u64 386]) W := by
  rw [rlm]
  simp only [Sem.run_bind, partsP, Result.andThen]
  simp [ReflectliteValue.elem, loadVar, isAgg, underlying, Tryz.underlying173, ha, Result.andThen, elemOfP, mkE]
theorem rls (v x : Value) : ReflectliteValue.set #[v, x] = (do
    let (some (dst, a, fl), some (src, b, _)) := (← ReflectliteValue.parts v, ← ReflectliteValue.parts x)
      | unsupported (.noEntry "extern/(internal/reflectlite.Value).Set.zeroValue")
    if fl / ReflectliteValue.flagAddr % 2 == 0 then unsupported (.noEntry "extern/(internal/reflectlite.Value).Set.unaddressable")
    let val ← loadVar src b
    if ← Rtype.directlyAssignable dst src then storeVar dst a val
    else if ← Rtype.implements dst src then
      if (← Rtype.kind src) == 20 then
        match val with
        | .nilIface => unsupported (.noEntry "extern/reflectlite: a nil value of one interface type handed on as a value of another")
        | _ => storeVar dst a val
      else storeVar dst a (.iface src val)
    else panicString ("reflectlite.Set: value of type " ++ (← Rtype.spelt src) ++ " is not assignable to type " ++ (← Rtype.spelt dst))
    pure (.tuple #[])) := rfl
theorem partsEa (a : Addr) (w : World) : (ReflectliteValue.parts (.agg #[hdl 100, .pointer (some a), .int .u64 386])).run Tryz.prog w = .ok (some (100, a, 386)) w := by kernel_rfl
theorem partsE (a : Addr) (w : World) : (ReflectliteValue.parts (.agg #[hdl 100, .pointer (some a), .int .u64 130])).run Tryz.prog w = .ok (some (100, a, 130)) w := by kernel_rfl
theorem directE (w : World) : (Rtype.directlyAssignable 100 100).run Tryz.prog w = .ok true w := by kernel_rfl
theorem setE (t n : Nat) (c : Int) (W : World) (old : Value) (hb : W.cell? ⟨n, 0, none⟩ = some (.int .i64 c)) (ht : W.heap[t]? = some (.cells #[old] 100 (0, 0))) :
    (ReflectliteValue.set #[.agg #[hdl 100, .pointer (some ⟨t, 0, none⟩), .int .u64 386], .agg #[hdl 100, .pointer (some ⟨n, 0, none⟩), .int .u64 130]]).run Tryz.prog W
      = .ok (.tuple #[]) (World.setBlk W t (.cells #[.int .i64 c] 100 (0, 0))) := by
  have hs := run_storeCells_blk (P := Tryz.prog) (n := t) (t := 100) [.int .i64 c] [old] 0 0 W ht (by simp) rfl
  rw [rls]
  simp only [Sem.run_bind, partsEa, partsE, Result.andThen]
  simp [ReflectliteValue.flagAddr, loadVar, isAgg, underlying, Tryz.underlying100, hb, Result.andThen, directE, storeVar, Value.cells]
  rw [hs]
  rfl
end X
set_option maxRecDepth 20000 in
set_option maxHeartbeats 1000000 in
theorem asIn (t v : Nat) (c : Int) (w : World) (M I : BS) (H : Hp ⟨w, M, I⟩ [blk t [.int .i64 0] 100, blk v [.pointer (some ⟨t, 0, none⟩)] 173] [] w) :
    Ctr Tryz.prog 132 [.iface 100 (.int .i64 c), .iface 173 (.pointer (some ⟨t, 0, none⟩)), .agg #[hdl 173, .pointer (some ⟨v, 0, none⟩), .int .u64 150], .iface 293 (.agg #[hdl 100])] w M I (fun _ : Unit => .bool true) (fun _ => True) (fun _ => [blk t [.int .i64 c] 100]) (fun _ => []) := by
  refine Exe.of_ev tok Tryz.call132 Tryz.func132 rfl rfl rfl ?_
  refine box_as H [hdl 173, .pointer (some ⟨v, 0, none⟩), .int .u64 150] rfl fun x w1 H1 => ?_
  have H1 : Hp ⟨w, M, I⟩ [blk x [hdl 173, .pointer (some ⟨v, 0, none⟩), .int .u64 150] 240, blk t [.int .i64 0] 100, blk v [.pointer (some ⟨t, 0, none⟩)] 173] [] w1 := H1
  refine loop_rule tok (σ := Unit) 4611686018427379457 (fun _ => [(0, .iface 100 (.int .i64 c))]) (fun _ w' => Hp ⟨w, M, I⟩ [blk x [hdl 173, .pointer (some ⟨v, 0, none⟩), .int .u64 150] 240, blk t [.int .i64 0] 100, blk v [.pointer (some ⟨t, 0, none⟩)] 173] [] w') (fun _ => 0) () rfl rfl ⟨rfl, trivial⟩ H1 ?_
  rintro _ j w2 H2
  refine CallK_ext Tryz.func117 (by kernel_rfl) (by kernel_rfl) (by kernel_rfl) (by kernel_rfl) (X.typeOfE (.int .i64 c) w2) ?_
  refine InvokeK_ext (X.mAssign (hdl 100) w2) Tryz.func313 (by kernel_rfl) (by kernel_rfl) (by kernel_rfl) (by kernel_rfl) (X.assignE w2) ?_
  refine load_rule tok H2 (v := .agg #[hdl 173, .pointer (some ⟨v, 0, none⟩), .int .u64 150]) rfl ?_
  have hv : w2.cell? ⟨v, 0, none⟩ = some (.pointer (some ⟨t, 0, none⟩)) := by
    obtain ⟨fa, ha⟩ := H2.own (A := blk v [.pointer (some ⟨t, 0, none⟩)] 173) (hp := ⟨TakeB.perm⟩)
    exact blk_cells ha 0 _ rfl
  refine CallK_ext Tryz.func182 (by kernel_rfl) (by kernel_rfl) (by kernel_rfl) (by kernel_rfl) (X.elemVP ⟨v, 0, none⟩ ⟨t, 0, none⟩ w2 hv) ?_
  refine CallK_ext (e := fun args => ReflectliteValue.unpack (args.getD 0 (.tuple #[]))) Tryz.func129 (by kernel_rfl) (by kernel_rfl) (by kernel_rfl) (by kernel_rfl) (X.valueOfE c w2) ?_
  have H3 : Hp ⟨w, M, I⟩ [blkO w2.heap.size (.cells #[.int .i64 c] 100), blk x [hdl 173, .pointer (some ⟨v, 0, none⟩), .int .u64 150] 240, blk t [.int .i64 0] 100, blk v [.pointer (some ⟨t, 0, none⟩)] 173] [] (w2.alloc (.cells #[.int .i64 c] 100)) := H2.alloc _
  have hn : (w2.alloc (.cells #[.int .i64 c] 100)).cell? ⟨w2.heap.size, 0, none⟩ = some (.int .i64 c) := by simp
  obtain ⟨ft, ht⟩ := H3.own (A := blk t [.int .i64 0] 100) (hp := ⟨TakeB.perm⟩)
  refine CallK_ext Tryz.func183 (by kernel_rfl) (by kernel_rfl) (by kernel_rfl) (by kernel_rfl) (X.setE t w2.heap.size c _ (.int .i64 0) hn ht.2) ?_
  have H4 := Hp.setBlk H3 (S' := [blkO w2.heap.size (.cells #[.int .i64 c] 100), blk x [hdl 173, .pointer (some ⟨v, 0, none⟩), .int .u64 150] 240, blk v [.pointer (some ⟨t, 0, none⟩)] 173]) (n := t) (o := .cells #[.int .i64 0] 100 (0, 0)) (o' := .cells #[.int .i64 c] 100 (0, 0))
  refine Exists.intro () (And.intro rfl (And.intro trivial ?_))
  exact Hp.keep H4
end Go.Proofs.YtjlfjjgjghdokaaGreatDoor
