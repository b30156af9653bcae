/- Where an error of a fault happened: errors.As at a pointer's variable, api.At: the walks. -/
import Derived.Test.YtfemfomgmopibaaGreatDoorAsF
set_option linter.unusedVariables false
namespace Go.Proofs.YtfemfomgmopibaaGreatDoor
open Go Go.Proofs Go.Wk Go.Extern
namespace XA
theorem valueOfP (t : Addr) (w : World) : (ReflectliteValue.unpack (.iface 126 (.pointer (some t)))).run Tryz.prog w
    = .ok (.agg #[hdl 126, .pointer (some ⟨w.heap.size, 0, none⟩), .int .u64 150]) (w.alloc (.cells #[.pointer (some t)] 126)) := by kernel_rfl
theorem valueOfE (c : Nat) (w : World) : (ReflectliteValue.unpack (.iface 102 (.pointer (some ⟨c, 0, none⟩)))).run Tryz.prog w
    = .ok (.agg #[hdl 102, .pointer (some ⟨w.heap.size, 0, none⟩), .int .u64 150]) (w.alloc (.cells #[.pointer (some ⟨c, 0, none⟩)] 102)) := by kernel_rfl
theorem typeP (a : Addr) (w : World) : (ReflectliteValue.methodAny (ReflectliteValue.valueError "reflectlite.Value.Type" 0) (fun t _ _ _ => ReflectliteType.toType t) #[.agg #[hdl 126, .pointer (some a), .int .u64 150]]).run Tryz.prog w
    = .ok (.iface 176 (.agg #[hdl 126])) w := by kernel_rfl
theorem mKind (h : Value) (w : World) : (Go.method (Tryz.prog.types.size + Made.depth) 176 (.agg #[h]) "Kind").run Tryz.prog w = .ok (145, h) w := by kernel_rfl
theorem mElem (h : Value) (w : World) : (Go.method (Tryz.prog.types.size + Made.depth) 176 (.agg #[h]) "Elem").run Tryz.prog w = .ok (158, .agg #[h]) w := by kernel_rfl
theorem mImpl (h : Value) (w : World) : (Go.method (Tryz.prog.types.size + Made.depth) 176 (.agg #[h]) "Implements").run Tryz.prog w = .ok (159, .agg #[h]) w := by kernel_rfl
theorem mAssign (h : Value) (w : World) : (Go.method (Tryz.prog.types.size + Made.depth) 176 (.agg #[h]) "AssignableTo").run Tryz.prog w = .ok (156, .agg #[h]) w := by kernel_rfl
theorem kindP (w : World) : ((ReflectliteType.abiMethod fun t => (fun a : Nat => Value.int IntKind.u8 (a : Int)) <$> Rtype.kind t) #[hdl 126]).run Tryz.prog w = .ok (.int .u8 22) w := by kernel_rfl
theorem kindE (w : World) : ((ReflectliteType.abiMethod fun t => (fun a : Nat => Value.int IntKind.u8 (a : Int)) <$> Rtype.kind t) #[hdl 102]).run Tryz.prog w = .ok (.int .u8 22) w := by kernel_rfl
theorem rlm (z : Sem Value) (f : TypeId → Addr → Nat → Nat → Sem Value) (v : Value) :
    ReflectliteValue.method z f #[v] = (do match ← ReflectliteValue.parts v with | none => z | some (t, a, fl) => f t a fl (fl % 32)) := rfl
theorem partsP (a : Addr) (w : World) : (ReflectliteValue.parts (.agg #[hdl 126, .pointer (some a), .int .u64 150])).run Tryz.prog w = .ok (some (126, a, 150)) w := by kernel_rfl
theorem isNilP (a p : Addr) (W : World) (ha : W.cell? a = some (.pointer (some p))) :
    (ReflectliteValue.method (ReflectliteValue.valueError "reflectlite.Value.IsNil" 0) ReflectliteValue.isNil #[.agg #[hdl 126, .pointer (some a), .int .u64 150]]).run Tryz.prog W = .ok (.bool false) W := by
  rw [rlm]
  simp only [Sem.run_bind, partsP, Result.andThen]
  simp [ReflectliteValue.isNil, loadVar, isAgg, underlying, Tryz.underlying126, ha, Result.andThen]
theorem elemP (w : World) : (ReflectliteType.method ReflectliteType.elem #[.agg #[hdl 126]]).run Tryz.prog w = .ok (.iface 176 (.agg #[hdl 102])) w := by kernel_rfl
theorem implE (w : World) : (ReflectliteType.relation "Implements" ReflectliteType.implements_ #[.agg #[hdl 102], errTy]).run Tryz.prog w = .ok (.bool true) w := by kernel_rfl
theorem typeOfE (v : Value) (w : World) : (ReflectliteType.typeOf #[.iface 102 v]).run Tryz.prog w = .ok (.iface 176 (.agg #[hdl 102])) w := by kernel_rfl
theorem assignE (w : World) : (ReflectliteType.relation "AssignableTo" ReflectliteType.assignableTo #[.agg #[hdl 102], .iface 176 (.agg #[hdl 102])]).run Tryz.prog w = .ok (.bool true) w := by kernel_rfl
theorem elemOfP (w : World) : (Rtype.elem? 126).run Tryz.prog w = .ok (some 102) w := by kernel_rfl
theorem mkE (p : Addr) (w : World) : (ReflectliteValue.mk 102 p ReflectliteValue.flagAddr).run Tryz.prog w = .ok (.agg #[hdl 102, .pointer (some p), .int .u64 406]) w := by kernel_rfl
theorem elemVP (a p : Addr) (W : World) (ha : W.cell? a = some (.pointer (some p))) :
    (ReflectliteValue.method (ReflectliteValue.valueError "reflectlite.Value.Elem" 0) ReflectliteValue.elem #[.agg #[hdl 126, .pointer (some a), .int .u64 150]]).run Tryz.prog W
      = .ok (.agg #[hdl 102, .pointer (some p), .int .u64 406]) W := by
  rw [rlm]
  simp only [Sem.run_bind, partsP, Result.andThen]
  simp [ReflectliteValue.elem, loadVar, isAgg, underlying, Tryz.underlying126, ha, Result.andThen, elemOfP, mkE]
theorem rls (v x : Value) : ReflectliteValue.set #[v, x] = (do
    let (some (dst, a, fl), some (src, b, _)) := (← ReflectliteValue.parts v, ← ReflectliteValue.parts x)
      | unsupported (.noEntry "extern/(internal/reflectlite.Value).Set.zeroValue")
    if fl / ReflectliteValue.flagAddr % 2 == 0 then unsupported (.noEntry "extern/(internal/reflectlite.Value).Set.unaddressable")
    let val ← loadVar src b
    if ← Rtype.directlyAssignable dst src then storeVar dst a val
    else if ← Rtype.implements dst src then
      if (← Rtype.kind src) == 20 then
        match val with
        | .nilIface => unsupported (.noEntry "extern/reflectlite: a nil value of one interface type handed on as a value of another")
        | _ => storeVar dst a val
      else storeVar dst a (.iface src val)
    else panicString ("reflectlite.Set: value of type " ++ (← Rtype.spelt src) ++ " is not assignable to type " ++ (← Rtype.spelt dst))
    pure (.tuple #[])) := rfl
theorem partsEa (a : Addr) (w : World) : (ReflectliteValue.parts (.agg #[hdl 102, .pointer (some a), .int .u64 406])).run Tryz.prog w = .ok (some (102, a, 406)) w := by kernel_rfl
theorem partsE (a : Addr) (w : World) : (ReflectliteValue.parts (.agg #[hdl 102, .pointer (some a), .int .u64 150])).run Tryz.prog w = .ok (some (102, a, 150)) w := by kernel_rfl
theorem directE (w : World) : (Rtype.directlyAssignable 102 102).run Tryz.prog w = .ok true w := by kernel_rfl
theorem setE (t n : Nat) (c : Nat) (W : World) (old : Value) (hb : W.cell? ⟨n, 0, none⟩ = some (.pointer (some ⟨c, 0, none⟩))) (ht : W.heap[t]? = some (.cells #[old] 102 (0, 0))) :
    (ReflectliteValue.set #[.agg #[hdl 102, .pointer (some ⟨t, 0, none⟩), .int .u64 406], .agg #[hdl 102, .pointer (some ⟨n, 0, none⟩), .int .u64 150]]).run Tryz.prog W
      = .ok (.tuple #[]) (World.setBlk W t (.cells #[.pointer (some ⟨c, 0, none⟩)] 102 (0, 0))) := by
  have hs := run_storeCells_blk (P := Tryz.prog) (n := t) (t := 102) [.pointer (some ⟨c, 0, none⟩)] [old] 0 0 W ht (by simp) rfl
  rw [rls]
  simp only [Sem.run_bind, partsEa, partsE, Result.andThen]
  simp [ReflectliteValue.flagAddr, loadVar, isAgg, underlying, Tryz.underlying102, hb, Result.andThen, directE, storeVar, Value.cells]
  rw [hs]
  rfl
end XA
set_option maxRecDepth 20000 in
set_option maxHeartbeats 1000000 in
theorem asInA (t v : Nat) (c : Nat) (w : World) (M I : BS) (H : Hp ⟨w, M, I⟩ [blk t [.pointer none] 102, blk v [.pointer (some ⟨t, 0, none⟩)] 126] [] w) :
    Ctr Tryz.prog 70 [.iface 102 (.pointer (some ⟨c, 0, none⟩)), .iface 126 (.pointer (some ⟨t, 0, none⟩)), .agg #[hdl 126, .pointer (some ⟨v, 0, none⟩), .int .u64 150], .iface 176 (.agg #[hdl 102])] w M I (fun _ : Unit => .bool true) (fun _ => True) (fun _ => [blk t [.pointer (some ⟨c, 0, none⟩)] 102]) (fun _ => []) := by
  refine Exe.of_ev tok Tryz.call70 Tryz.func70 rfl rfl rfl ?_
  refine box_as H [hdl 126, .pointer (some ⟨v, 0, none⟩), .int .u64 150] rfl fun x w1 H1 => ?_
  have H1 : Hp ⟨w, M, I⟩ [blk x [hdl 126, .pointer (some ⟨v, 0, none⟩), .int .u64 150] 145, blk t [.pointer none] 102, blk v [.pointer (some ⟨t, 0, none⟩)] 126] [] w1 := H1
  refine loop_rule tok (σ := Unit) 4611686018427379457 (fun _ => [(0, .iface 102 (.pointer (some ⟨c, 0, none⟩)))]) (fun _ w' => Hp ⟨w, M, I⟩ [blk x [hdl 126, .pointer (some ⟨v, 0, none⟩), .int .u64 150] 145, blk t [.pointer none] 102, blk v [.pointer (some ⟨t, 0, none⟩)] 126] [] w') (fun _ => 0) () rfl rfl ⟨rfl, trivial⟩ H1 ?_
  rintro _ j w2 H2
  refine CallK_ext Tryz.func93 (by kernel_rfl) (by kernel_rfl) (by kernel_rfl) (by kernel_rfl) (XA.typeOfE (.pointer (some ⟨c, 0, none⟩)) w2) ?_
  refine InvokeK_ext (XA.mAssign (hdl 102) w2) Tryz.func156 (by kernel_rfl) (by kernel_rfl) (by kernel_rfl) (by kernel_rfl) (XA.assignE w2) ?_
  refine load_rule tok H2 (v := .agg #[hdl 126, .pointer (some ⟨v, 0, none⟩), .int .u64 150]) rfl ?_
  have hv : w2.cell? ⟨v, 0, none⟩ = some (.pointer (some ⟨t, 0, none⟩)) := by
    obtain ⟨fa, ha⟩ := H2.own (A := blk v [.pointer (some ⟨t, 0, none⟩)] 126) (hp := ⟨TakeB.perm⟩)
    exact blk_cells ha 0 _ rfl
  refine CallK_ext Tryz.func94 (by kernel_rfl) (by kernel_rfl) (by kernel_rfl) (by kernel_rfl) (XA.elemVP ⟨v, 0, none⟩ ⟨t, 0, none⟩ w2 hv) ?_
  refine CallK_ext (e := fun args => ReflectliteValue.unpack (args.getD 0 (.tuple #[]))) Tryz.func67 (by kernel_rfl) (by kernel_rfl) (by kernel_rfl) (by kernel_rfl) (XA.valueOfE c w2) ?_
  have H3 : Hp ⟨w, M, I⟩ [blkO w2.heap.size (.cells #[.pointer (some ⟨c, 0, none⟩)] 102), blk x [hdl 126, .pointer (some ⟨v, 0, none⟩), .int .u64 150] 145, blk t [.pointer none] 102, blk v [.pointer (some ⟨t, 0, none⟩)] 126] [] (w2.alloc (.cells #[.pointer (some ⟨c, 0, none⟩)] 102)) := H2.alloc _
  have hn : (w2.alloc (.cells #[.pointer (some ⟨c, 0, none⟩)] 102)).cell? ⟨w2.heap.size, 0, none⟩ = some (.pointer (some ⟨c, 0, none⟩)) := by simp
  obtain ⟨ft, ht⟩ := H3.own (A := blk t [.pointer none] 102) (hp := ⟨TakeB.perm⟩)
  refine CallK_ext Tryz.func95 (by kernel_rfl) (by kernel_rfl) (by kernel_rfl) (by kernel_rfl) (XA.setE t w2.heap.size c _ (.pointer none) hn ht.2) ?_
  have H4 := Hp.setBlk H3 (S' := [blkO w2.heap.size (.cells #[.pointer (some ⟨c, 0, none⟩)] 102), blk x [hdl 126, .pointer (some ⟨v, 0, none⟩), .int .u64 150] 145, blk v [.pointer (some ⟨t, 0, none⟩)] 126]) (n := t) (o := .cells #[.pointer none] 102 (0, 0)) (o' := .cells #[.pointer (some ⟨c, 0, none⟩)] 102 (0, 0))
  refine Exists.intro () (And.intro rfl (And.intro trivial ?_))
  exact Hp.keep H4
set_option maxHeartbeats 1000000 in
theorem asA (t : Nat) (c : Nat) (w : World) (M I : BS) (H : Hp ⟨w, M, I⟩ [blk t [.pointer none] 102] [Glob 0 errTy] w) :
    Ctr Tryz.prog 39 [.iface 102 (.pointer (some ⟨c, 0, none⟩)), .iface 126 (.pointer (some ⟨t, 0, none⟩))] w M I (fun _ : Unit => .bool true) (fun _ => True) (fun _ => [blk t [.pointer (some ⟨c, 0, none⟩)] 102]) (fun _ => []) := by
  refine Exe.of_ev tok Tryz.call39 Tryz.func39 rfl rfl rfl ?_
  refine CallK_ext (e := fun args => ReflectliteValue.unpack (args.getD 0 (.tuple #[]))) Tryz.func67 (by kernel_rfl) (by kernel_rfl) (by kernel_rfl) (by kernel_rfl) (XA.valueOfP ⟨t, 0, none⟩ w) ?_
  have H0 : Hp ⟨w, M, I⟩ [blkO w.heap.size (.cells #[.pointer (some ⟨t, 0, none⟩)] 126), blk t [.pointer none] 102] [Glob 0 errTy] (w.alloc (.cells #[.pointer (some ⟨t, 0, none⟩)] 126)) := H.alloc _
  have H1 : Hp ⟨w, M, I⟩ [blk w.heap.size [.pointer (some ⟨t, 0, none⟩)] 126, blk t [.pointer none] 102] [Glob 0 errTy] (w.alloc (.cells #[.pointer (some ⟨t, 0, none⟩)] 126)) := H0
  refine alloc_as tok H1 [.pointer none, .pointer none, .int .u64 0] rfl rfl rfl fun x w2 H2 => ?_
  refine store_as tok H2 [hdl 126, .pointer (some ⟨w.heap.size, 0, none⟩), .int .u64 150] rfl rfl rfl rfl rfl fun w3 H3 => ?_
  refine load_rule tok H3 (v := .agg #[hdl 126, .pointer (some ⟨w.heap.size, 0, none⟩), .int .u64 150]) rfl ?_
  refine CallK_ext Tryz.func68 (by kernel_rfl) (by kernel_rfl) (by kernel_rfl) (by kernel_rfl) (XA.typeP ⟨w.heap.size, 0, none⟩ w3) ?_
  refine InvokeK_ext (XA.mKind (hdl 126) w3) Tryz.func145 (by kernel_rfl) (by kernel_rfl) (by kernel_rfl) (by kernel_rfl) (XA.kindP w3) ?_
  refine load_rule tok H3 (v := .agg #[hdl 126, .pointer (some ⟨w.heap.size, 0, none⟩), .int .u64 150]) rfl ?_
  have hv : w3.cell? ⟨w.heap.size, 0, none⟩ = some (.pointer (some ⟨t, 0, none⟩)) := by
    obtain ⟨fa, ha⟩ := H3.own (A := blk w.heap.size [.pointer (some ⟨t, 0, none⟩)] 126) (hp := ⟨TakeB.perm⟩)
    exact blk_cells ha 0 _ rfl
  refine CallK_ext Tryz.func69 (by kernel_rfl) (by kernel_rfl) (by kernel_rfl) (by kernel_rfl) (XA.isNilP ⟨w.heap.size, 0, none⟩ ⟨t, 0, none⟩ w3 hv) ?_
  refine InvokeK_ext (XA.mElem (hdl 126) w3) Tryz.func158 (by kernel_rfl) (by kernel_rfl) (by kernel_rfl) (by kernel_rfl) (XA.elemP w3) ?_
  refine InvokeK_ext (XA.mKind (hdl 102) w3) Tryz.func145 (by kernel_rfl) (by kernel_rfl) (by kernel_rfl) (by kernel_rfl) (XA.kindE w3) ?_
  refine glob_rule tok H3 (g := 0) errTy rfl rfl ?_
  refine InvokeK_ext (XA.mImpl (hdl 102) w3) Tryz.func159 (by kernel_rfl) (by kernel_rfl) (by kernel_rfl) (by kernel_rfl) (XA.implE w3) ?_
  refine load_rule tok H3 (v := .agg #[hdl 126, .pointer (some ⟨w.heap.size, 0, none⟩), .int .u64 150]) rfl ?_
  refine call_rule H3 (fun M I _ h => asInA t w.heap.size c _ M I h) fun _ w4 _ H4 => ?_
  exact Exists.intro () (And.intro rfl (And.intro trivial (Hp.keep H4)))
/-- An error's number. -/
theorem atF (p : Nat) (a c : Int) (w : World) (M I : BS) (H : Hp ⟨w, M, I⟩ [blk p [.int .u64 a, .iface 47 (.int .i64 c)] 104] [Glob 0 errTy] w) :
    Ctr Tryz.prog 25 [.iface 102 (.pointer (some ⟨p, 0, none⟩))] w M I (fun _ : Unit => .int .u64 a) (fun _ => True) (fun _ => [blk p [.int .u64 a, .iface 47 (.int .i64 c)] 104]) (fun _ => []) := by
  refine Exe.of_ev tok Tryz.call25 Tryz.func25 rfl rfl rfl ?_
  refine alloc_as tok H [.pointer none] rfl rfl rfl fun t w1 H1 => ?_
  refine call_rule H1 (fun M I _ h => asA t p _ M I h) fun _ w2 _ H2 => ?_
  refine load_rule tok H2 (v := .pointer (some ⟨p, 0, none⟩)) rfl ?_
  refine load_rule tok H2 (v := .pointer (some ⟨p, 0, none⟩)) rfl ?_
  refine load_rule tok H2 (v := .int .u64 a) rfl ?_
  exact Exists.intro () (And.intro rfl (And.intro trivial (Hp.keep H2)))
end Go.Proofs.YtfemfomgmopibaaGreatDoor
