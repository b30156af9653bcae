/- An error's number: errors.As at a number's variable. -/
import Derived.Test.YtfemfomgmopibaaGreatDoorLk6
import Derived.KernelRfl
namespace Go.Proofs.YtfemfomgmopibaaGreatDoor
open Go Go.Proofs Go.Wk Go.Extern
/-- What errors.errorType holds. -/
@[reducible] def errTy : Value := .iface 176 (.agg #[.pointer (some ⟨1, 45, none⟩)])
@[reducible] def hdl (t : Nat) : Value := .pointer (some ⟨1, t, none⟩)
namespace X
theorem valueOfP (t : Addr) (w : World) : (ReflectliteValue.unpack (.iface 107 (.pointer (some t)))).run Tryz.prog w
    = .ok (.agg #[hdl 107, .pointer (some ⟨w.heap.size, 0, none⟩), .int .u64 150]) (w.alloc (.cells #[.pointer (some t)] 107)) := by kernel_rfl
theorem valueOfE (c : Int) (w : World) : (ReflectliteValue.unpack (.iface 47 (.int .i64 c))).run Tryz.prog w
    = .ok (.agg #[hdl 47, .pointer (some ⟨w.heap.size, 0, none⟩), .int .u64 130]) (w.alloc (.cells #[.int .i64 c] 47)) := by kernel_rfl
theorem typeP (a : Addr) (w : World) : (ReflectliteValue.methodAny (ReflectliteValue.valueError "reflectlite.Value.Type" 0) (fun t _ _ _ => ReflectliteType.toType t) #[.agg #[hdl 107, .pointer (some a), .int .u64 150]]).run Tryz.prog w
    = .ok (.iface 176 (.agg #[hdl 107])) w := by kernel_rfl
theorem mKind (h : Value) (w : World) : (Go.method (Tryz.prog.types.size + Made.depth) 176 (.agg #[h]) "Kind").run Tryz.prog w = .ok (145, h) w := by kernel_rfl
theorem mElem (h : Value) (w : World) : (Go.method (Tryz.prog.types.size + Made.depth) 176 (.agg #[h]) "Elem").run Tryz.prog w = .ok (158, .agg #[h]) w := by kernel_rfl
theorem mImpl (h : Value) (w : World) : (Go.method (Tryz.prog.types.size + Made.depth) 176 (.agg #[h]) "Implements").run Tryz.prog w = .ok (159, .agg #[h]) w := by kernel_rfl
theorem mAssign (h : Value) (w : World) : (Go.method (Tryz.prog.types.size + Made.depth) 176 (.agg #[h]) "AssignableTo").run Tryz.prog w = .ok (156, .agg #[h]) w := by kernel_rfl
theorem kindP (w : World) : ((ReflectliteType.abiMethod fun t => (fun a : Nat => Value.int IntKind.u8 (a : Int)) <$> Rtype.kind t) #[hdl 107]).run Tryz.prog w = .ok (.int .u8 22) w := by kernel_rfl
theorem kindE (w : World) : ((ReflectliteType.abiMethod fun t => (fun a : Nat => Value.int IntKind.u8 (a : Int)) <$> Rtype.kind t) #[hdl 47]).run Tryz.prog w = .ok (.int .u8 2) w := by kernel_rfl
theorem rlm (z : Sem Value) (f : TypeId → Addr → Nat → Nat → Sem Value) (v : Value) :
    ReflectliteValue.method z f #[v] = (do match ← ReflectliteValue.parts v with | none => z | some (t, a, fl) => f t a fl (fl % 32)) := rfl
theorem partsP (a : Addr) (w : World) : (ReflectliteValue.parts (.agg #[hdl 107, .pointer (some a), .int .u64 150])).run Tryz.prog w = .ok (some (107, a, 150)) w := by kernel_rfl
theorem isNilP (a p : Addr) (W : World) (ha : W.cell? a = some (.pointer (some p))) :
    (ReflectliteValue.method (ReflectliteValue.valueError "reflectlite.Value.IsNil" 0) ReflectliteValue.isNil #[.agg #[hdl 107, .pointer (some a), .int .u64 150]]).run Tryz.prog W = .ok (.bool false) W := by
  rw [rlm]
  simp only [Sem.run_bind, partsP, Result.andThen]
  simp [ReflectliteValue.isNil, loadVar, isAgg, underlying, Tryz.underlying107, ha, Result.andThen]
theorem elemP (w : World) : (ReflectliteType.method ReflectliteType.elem #[.agg #[hdl 107]]).run Tryz.prog w = .ok (.iface 176 (.agg #[hdl 47])) w := by kernel_rfl
theorem implE (w : World) : (ReflectliteType.relation "Implements" ReflectliteType.implements_ #[.agg #[hdl 47], errTy]).run Tryz.prog w = .ok (.bool true) w := by kernel_rfl
theorem typeOfE (v : Value) (w : World) : (ReflectliteType.typeOf #[.iface 47 v]).run Tryz.prog w = .ok (.iface 176 (.agg #[hdl 47])) w := by kernel_rfl
theorem assignE (w : World) : (ReflectliteType.relation "AssignableTo" ReflectliteType.assignableTo #[.agg #[hdl 47], .iface 176 (.agg #[hdl 47])]).run Tryz.prog w = .ok (.bool true) w := by kernel_rfl
theorem elemOfP (w : World) : (Rtype.elem? 107).run Tryz.prog w = .ok (some 47) w := by kernel_rfl
theorem mkE (p : Addr) (w : World) : (ReflectliteValue.mk 47 p ReflectliteValue.flagAddr).run Tryz.prog w = .ok (.agg #[hdl 47, .pointer (some p), .int .u64 386]) w := by kernel_rfl
theorem elemVP (a p : Addr) (W : World) (ha : W.cell? a = some (.pointer (some p))) :
    (ReflectliteValue.method (ReflectliteValue.valueError "reflectlite.Value.Elem" 0) ReflectliteValue.elem #[.agg #[hdl 107, .pointer (some a), .int .u64 150]]).run Tryz.prog W
      = .ok (.agg #[hdl 47, .pointer (some p), .int .u64 386]) W := by
  rw [rlm]
  simp only [Sem.run_bind, partsP, Result.andThen]
  simp [ReflectliteValue.elem, loadVar, isAgg, underlying, Tryz.underlying107, ha, Result.andThen, elemOfP, mkE]
theorem rls (v x : Value) : ReflectliteValue.set #[v, x] = (do
    let (some (dst, a, fl), some (src, b, _)) := (← ReflectliteValue.parts v, ← ReflectliteValue.parts x)
      | unsupported (.noEntry "extern/(internal/reflectlite.Value).Set.zeroValue")
    if fl / ReflectliteValue.flagAddr % 2 == 0 then unsupported (.noEntry "extern/(internal/reflectlite.Value).Set.unaddressable")
    let val ← loadVar src b
    if ← Rtype.directlyAssignable dst src then storeVar dst a val
    else if ← Rtype.implements dst src then
      if (← Rtype.kind src) == 20 then
        match val with
        | .nilIface => unsupported (.noEntry "extern/reflectlite: a nil value of one interface type handed on as a value of another")
        | _ => storeVar dst a val
      else storeVar dst a (.iface src val)
    else panicString ("reflectlite.Set: value of type " ++ (← Rtype.spelt src) ++ " is not assignable to type " ++ (← Rtype.spelt dst))
    pure (.tuple #[])) := rfl
theorem partsEa (a : Addr) (w : World) : (ReflectliteValue.parts (.agg #[hdl 47, .pointer (some a), .int .u64 386])).run Tryz.prog w = .ok (some (47, a, 386)) w := by kernel_rfl
theorem partsE (a : Addr) (w : World) : (ReflectliteValue.parts (.agg #[hdl 47, .pointer (some a), .int .u64 130])).run Tryz.prog w = .ok (some (47, a, 130)) w := by kernel_rfl
theorem directE (w : World) : (Rtype.directlyAssignable 47 47).run Tryz.prog w = .ok true w := by kernel_rfl
theorem setE (t n : Nat) (c : Int) (W : World) (old : Value) (hb : W.cell? ⟨n, 0, none⟩ = some (.int .i64 c)) (ht : W.heap[t]? = some (.cells #[old] 47 (0, 0))) :
    (ReflectliteValue.set #[.agg #[hdl 47, .pointer (some ⟨t, 0, none⟩), .int .u64 386], .agg #[hdl 47, .pointer (some ⟨n, 0, none⟩), .int .u64 130]]).run Tryz.prog W
      = .ok (.tuple #[]) (World.setBlk W t (.cells #[.int .i64 c] 47 (0, 0))) := by
  have hs := run_storeCells_blk (P := Tryz.prog) (n := t) (t := 47) [.int .i64 c] [old] 0 0 W ht (by simp) rfl
  rw [rls]
  simp only [Sem.run_bind, partsEa, partsE, Result.andThen]
  simp [ReflectliteValue.flagAddr, loadVar, isAgg, underlying, Tryz.underlying47, hb, Result.andThen, directE, storeVar, Value.cells]
  rw [hs]
  rfl
end X
set_option maxRecDepth 20000 in
set_option maxHeartbeats 1000000 in
theorem asIn (t v : Nat) (c : Int) (w : World) (M I : BS) (H : Hp ⟨w, M, I⟩ [blk t [.int .i64 0] 47, blk v [.pointer (some ⟨t, 0, none⟩)] 107] [] w) :
    Ctr Tryz.prog 70 [.iface 47 (.int .i64 c), .iface 107 (.pointer (some ⟨t, 0, none⟩)), .agg #[hdl 107, .pointer (some ⟨v, 0, none⟩), .int .u64 150], .iface 176 (.agg #[hdl 47])] w M I (fun _ : Unit => .bool true) (fun _ => True) (fun _ => [blk t [.int .i64 c] 47]) (fun _ => []) := by
  refine Exe.of_ev tok Tryz.call70 Tryz.func70 rfl rfl rfl ?_
  refine box_as H [hdl 107, .pointer (some ⟨v, 0, none⟩), .int .u64 150] rfl fun x w1 H1 => ?_
  have H1 : Hp ⟨w, M, I⟩ [blk x [hdl 107, .pointer (some ⟨v, 0, none⟩), .int .u64 150] 145, blk t [.int .i64 0] 47, blk v [.pointer (some ⟨t, 0, none⟩)] 107] [] w1 := H1
  refine loop_rule tok (σ := Unit) 4611686018427379457 (fun _ => [(0, .iface 47 (.int .i64 c))]) (fun _ w' => Hp ⟨w, M, I⟩ [blk x [hdl 107, .pointer (some ⟨v, 0, none⟩), .int .u64 150] 145, blk t [.int .i64 0] 47, blk v [.pointer (some ⟨t, 0, none⟩)] 107] [] w') (fun _ => 0) () rfl rfl ⟨rfl, trivial⟩ H1 ?_
  rintro _ j w2 H2
  refine CallK_ext Tryz.func93 (by kernel_rfl) (by kernel_rfl) (by kernel_rfl) (by kernel_rfl) (X.typeOfE (.int .i64 c) w2) ?_
  refine InvokeK_ext (X.mAssign (hdl 47) w2) Tryz.func156 (by kernel_rfl) (by kernel_rfl) (by kernel_rfl) (by kernel_rfl) (X.assignE w2) ?_
  refine load_rule tok H2 (v := .agg #[hdl 107, .pointer (some ⟨v, 0, none⟩), .int .u64 150]) rfl ?_
  have hv : w2.cell? ⟨v, 0, none⟩ = some (.pointer (some ⟨t, 0, none⟩)) := by
    obtain ⟨fa, ha⟩ := H2.own (A := blk v [.pointer (some ⟨t, 0, none⟩)] 107) (hp := ⟨TakeB.perm⟩)
    exact blk_cells ha 0 _ rfl
  refine CallK_ext Tryz.func94 (by kernel_rfl) (by kernel_rfl) (by kernel_rfl) (by kernel_rfl) (X.elemVP ⟨v, 0, none⟩ ⟨t, 0, none⟩ w2 hv) ?_
  refine CallK_ext (e := fun args => ReflectliteValue.unpack (args.getD 0 (.tuple #[]))) Tryz.func67 (by kernel_rfl) (by kernel_rfl) (by kernel_rfl) (by kernel_rfl) (X.valueOfE c w2) ?_
  have H3 : Hp ⟨w, M, I⟩ [blkO w2.heap.size (.cells #[.int .i64 c] 47), blk x [hdl 107, .pointer (some ⟨v, 0, none⟩), .int .u64 150] 145, blk t [.int .i64 0] 47, blk v [.pointer (some ⟨t, 0, none⟩)] 107] [] (w2.alloc (.cells #[.int .i64 c] 47)) := H2.alloc _
  have hn : (w2.alloc (.cells #[.int .i64 c] 47)).cell? ⟨w2.heap.size, 0, none⟩ = some (.int .i64 c) := by simp
  obtain ⟨ft, ht⟩ := H3.own (A := blk t [.int .i64 0] 47) (hp := ⟨TakeB.perm⟩)
  refine CallK_ext Tryz.func95 (by kernel_rfl) (by kernel_rfl) (by kernel_rfl) (by kernel_rfl) (X.setE t w2.heap.size c _ (.int .i64 0) hn ht.2) ?_
  have H4 := Hp.setBlk H3 (S' := [blkO w2.heap.size (.cells #[.int .i64 c] 47), blk x [hdl 107, .pointer (some ⟨v, 0, none⟩), .int .u64 150] 145, blk v [.pointer (some ⟨t, 0, none⟩)] 107]) (n := t) (o := .cells #[.int .i64 0] 47 (0, 0)) (o' := .cells #[.int .i64 c] 47 (0, 0))
  refine Exists.intro () (And.intro rfl (And.intro trivial ?_))
  exact Hp.keep H4
end Go.Proofs.YtfemfomgmopibaaGreatDoor
namespace Go.Proofs.YtfemfomgmopibaaGreatDoor
open Go Go.Proofs Go.Wk Go.Extern
set_option maxHeartbeats 1000000 in
theorem asE (t : Nat) (c : Int) (w : World) (M I : BS) (H : Hp ⟨w, M, I⟩ [blk t [.int .i64 0] 47] [Glob 0 errTy] w) :
    Ctr Tryz.prog 39 [.iface 47 (.int .i64 c), .iface 107 (.pointer (some ⟨t, 0, none⟩))] w M I (fun _ : Unit => .bool true) (fun _ => True) (fun _ => [blk t [.int .i64 c] 47]) (fun _ => []) := by
  refine Exe.of_ev tok Tryz.call39 Tryz.func39 rfl rfl rfl ?_
  refine CallK_ext (e := fun args => ReflectliteValue.unpack (args.getD 0 (.tuple #[]))) Tryz.func67 (by kernel_rfl) (by kernel_rfl) (by kernel_rfl) (by kernel_rfl) (X.valueOfP ⟨t, 0, none⟩ w) ?_
  have H0 : Hp ⟨w, M, I⟩ [blkO w.heap.size (.cells #[.pointer (some ⟨t, 0, none⟩)] 107), blk t [.int .i64 0] 47] [Glob 0 errTy] (w.alloc (.cells #[.pointer (some ⟨t, 0, none⟩)] 107)) := H.alloc _
  have H1 : Hp ⟨w, M, I⟩ [blk w.heap.size [.pointer (some ⟨t, 0, none⟩)] 107, blk t [.int .i64 0] 47] [Glob 0 errTy] (w.alloc (.cells #[.pointer (some ⟨t, 0, none⟩)] 107)) := H0
  refine alloc_as tok H1 [.pointer none, .pointer none, .int .u64 0] rfl rfl rfl fun x w2 H2 => ?_
  refine store_as tok H2 [hdl 107, .pointer (some ⟨w.heap.size, 0, none⟩), .int .u64 150] rfl rfl rfl rfl rfl fun w3 H3 => ?_
  refine load_rule tok H3 (v := .agg #[hdl 107, .pointer (some ⟨w.heap.size, 0, none⟩), .int .u64 150]) rfl ?_
  refine CallK_ext Tryz.func68 (by kernel_rfl) (by kernel_rfl) (by kernel_rfl) (by kernel_rfl) (X.typeP ⟨w.heap.size, 0, none⟩ w3) ?_
  refine InvokeK_ext (X.mKind (hdl 107) w3) Tryz.func145 (by kernel_rfl) (by kernel_rfl) (by kernel_rfl) (by kernel_rfl) (X.kindP w3) ?_
  refine load_rule tok H3 (v := .agg #[hdl 107, .pointer (some ⟨w.heap.size, 0, none⟩), .int .u64 150]) rfl ?_
  have hv : w3.cell? ⟨w.heap.size, 0, none⟩ = some (.pointer (some ⟨t, 0, none⟩)) := by
    obtain ⟨fa, ha⟩ := H3.own (A := blk w.heap.size [.pointer (some ⟨t, 0, none⟩)] 107) (hp := ⟨TakeB.perm⟩)
    exact blk_cells ha 0 _ rfl
  refine CallK_ext Tryz.func69 (by kernel_rfl) (by kernel_rfl) (by kernel_rfl) (by kernel_rfl) (X.isNilP ⟨w.heap.size, 0, none⟩ ⟨t, 0, none⟩ w3 hv) ?_
  refine InvokeK_ext (X.mElem (hdl 107) w3) Tryz.func158 (by kernel_rfl) (by kernel_rfl) (by kernel_rfl) (by kernel_rfl) (X.elemP w3) ?_
  refine InvokeK_ext (X.mKind (hdl 47) w3) Tryz.func145 (by kernel_rfl) (by kernel_rfl) (by kernel_rfl) (by kernel_rfl) (X.kindE w3) ?_
  refine glob_rule tok H3 (g := 0) errTy rfl rfl ?_
  refine InvokeK_ext (X.mImpl (hdl 47) w3) Tryz.func159 (by kernel_rfl) (by kernel_rfl) (by kernel_rfl) (by kernel_rfl) (X.implE w3) ?_
  refine load_rule tok H3 (v := .agg #[hdl 107, .pointer (some ⟨w.heap.size, 0, none⟩), .int .u64 150]) rfl ?_
  refine call_rule H3 (fun M I _ h => asIn t w.heap.size c _ M I h) fun _ w4 _ H4 => ?_
  exact Exists.intro () (And.intro rfl (And.intro trivial (Hp.keep H4)))
end Go.Proofs.YtfemfomgmopibaaGreatDoor
namespace Go.Proofs.YtfemfomgmopibaaGreatDoor
open Go Go.Proofs Go.Wk Go.Extern
/-- Nothing is owned. -/
def empA : Asn where
  at_ _ fp := ∀ b, ¬ fp b
  loc := fun h _ => h
  lt := fun h hb => absurd hb (h _)
theorem Hp.addEmp {w : World} {B : Base} {S : List Asn} {F : List Fact} (H : Hp B S F w) : Hp B (empA :: S) F w := by
  obtain ⟨h1, h2, h3, h4, h5, I, fp, hs, r⟩ := H
  exact ⟨h1, h2, h3, h4, h5, I, fp, ⟨fun _ => False, fp, fun b h => h, fun _ h => h.elim, fun _ h => h.elim, fun b => by simp, hs⟩, r⟩
/-- An error: none, a number, a fault that wraps a number. -/
inductive ErrF where
  | none
  | code (c : Int)
  | fault (p : Nat) (at_ c : Int)
@[reducible] def errFV : ErrF → Value
  | .none => .nilIface
  | .code c => .iface 47 (.int .i64 c)
  | .fault p _ _ => .iface 102 (.pointer (some ⟨p, 0, none⟩))
def errFA : ErrF → Asn
  | .fault p a c => blk p [.int .u64 a, .iface 47 (.int .i64 c)] 104
  | _ => empA
def codeOfF : ErrF → Int
  | .none => 0
  | .code c => c
  | .fault _ _ c => c
namespace X
theorem typeOfF (v : Value) (w : World) : (ReflectliteType.typeOf #[.iface 102 v]).run Tryz.prog w = .ok (.iface 176 (.agg #[hdl 102])) w := by kernel_rfl
theorem assignFE (w : World) : (ReflectliteType.relation "AssignableTo" ReflectliteType.assignableTo #[.agg #[hdl 102], .iface 176 (.agg #[hdl 47])]).run Tryz.prog w = .ok (.bool false) w := by kernel_rfl
theorem noAs (v : Value) (xT : TypeId) (w : World) : (Instr.typeAssert (.iface 102 v) xT 181 true).run Tryz.prog w = .ok (.tuple #[.nilIface, .bool false]) w :=
  Go.run_typeAssert_lacksB Tryz.underlying181 (by kernel_rfl) (by kernel_rfl) v xT w
theorem hasUnwrap (v : Value) (xT : TypeId) (w : World) : (Instr.typeAssert (.iface 102 v) xT 184 true).run Tryz.prog w = .ok (.tuple #[.iface 102 v, .bool true]) w :=
  Go.run_typeAssert_hasB Tryz.underlying184 (by kernel_rfl) v xT w
theorem mUnwrap (a : Addr) (w : World) : (Go.method (Tryz.prog.types.size + Made.depth) 102 (.pointer (some a)) "Unwrap").run Tryz.prog w = .ok (151, .pointer (some a)) w := by kernel_rfl
end X
theorem unwrapF (p : Nat) (a c : Int) (w : World) (M I : BS) (H : Hp ⟨w, M, I⟩ [blk p [.int .u64 a, .iface 47 (.int .i64 c)] 104] [] w) :
    Ctr Tryz.prog 151 [.pointer (some ⟨p, 0, none⟩)] w M I (fun _ : Unit => .iface 47 (.int .i64 c)) (fun _ => True) (fun _ => [blk p [.int .u64 a, .iface 47 (.int .i64 c)] 104]) (fun _ => []) := by
  refine Exe.of_ev tok Tryz.call151 Tryz.func151 rfl rfl rfl ?_
  refine load_rule tok H (v := .iface 47 (.int .i64 c)) rfl ?_
  exact Exists.intro () (And.intro rfl (And.intro trivial H))
/-- A call of a method of an interface value by its contract. -/
theorem invoke_rule {P : Program} {K : Value → World → Prop} {w : World} {B : Base} {S : List Asn} {F : List Fact} (H : Hp B S F w) {g : Nat} {t : TypeId} {x r : Value} {m : String} {args : List Value} {α : Type} {V : α → Value} {φ : α → Prop} {A : α → List Asn} {G : α → List Fact} {A0 : List Asn} {G0 : List Fact} {S' : List Asn} {R : α → List Asn} {N : α → List Fact}
    (hm : (Go.method (P.types.size + Made.depth) t x m).run P w = .ok (g, r) w)
    (h : ∀ M I, (A0 = [] → ∀ b, ¬ M b) → Hp ⟨w, M, I⟩ A0 G0 w → Ctr P g (r :: args) w M I V φ A G) [hp : Pick S A0 S'] [hs : SubF F G0] [hr : ∀ a, AppL (A a) S' (R a)] [hn : ∀ a, AppL (G a) F (N a)]
    (k : ∀ a w', φ a → Hp B (R a) (N a) w' → K (V a) w') : InvokeK P K w (.iface t x) m args := by
  obtain ⟨M, I, h0, hmm, hk⟩ := (H.perm hp.perm).call (A := A0) (S := S') (G := G0) fun I ha => hs.all ha
  refine InvokeK_fn hm ((h M I hmm h0).mono ?_)
  rintro v w' ⟨a, rfl, hφ, hh⟩
  exact k a w' hφ (by rw [(hr a).eq, (hn a).eq]; exact hk _ _ _ hh)
set_option maxRecDepth 20000 in
set_option maxHeartbeats 1000000 in
theorem asInF (t v p : Nat) (a c : Int) (w : World) (M I : BS) (H : Hp ⟨w, M, I⟩ [blk t [.int .i64 0] 47, blk v [.pointer (some ⟨t, 0, none⟩)] 107, blk p [.int .u64 a, .iface 47 (.int .i64 c)] 104] [] w) :
    Ctr Tryz.prog 70 [.iface 102 (.pointer (some ⟨p, 0, none⟩)), .iface 107 (.pointer (some ⟨t, 0, none⟩)), .agg #[hdl 107, .pointer (some ⟨v, 0, none⟩), .int .u64 150], .iface 176 (.agg #[hdl 47])] w M I (fun _ : Unit => .bool true) (fun _ => True) (fun _ => [blk t [.int .i64 c] 47, blk p [.int .u64 a, .iface 47 (.int .i64 c)] 104]) (fun _ => []) := by
  refine Exe.of_ev tok Tryz.call70 Tryz.func70 rfl rfl rfl ?_
  refine box_as H [hdl 107, .pointer (some ⟨v, 0, none⟩), .int .u64 150] rfl fun x w1 H1 => ?_
  have H1 : Hp ⟨w, M, I⟩ [blk x [hdl 107, .pointer (some ⟨v, 0, none⟩), .int .u64 150] 145, blk t [.int .i64 0] 47, blk v [.pointer (some ⟨t, 0, none⟩)] 107, blk p [.int .u64 a, .iface 47 (.int .i64 c)] 104] [] w1 := H1
  refine loop_rule tok (σ := Bool) 4611686018427379457 (fun s => [(0, if s = true then .iface 47 (.int .i64 c) else .iface 102 (.pointer (some ⟨p, 0, none⟩)))]) (fun _ w' => Hp ⟨w, M, I⟩ [blk x [hdl 107, .pointer (some ⟨v, 0, none⟩), .int .u64 150] 145, blk t [.int .i64 0] 47, blk v [.pointer (some ⟨t, 0, none⟩)] 107, blk p [.int .u64 a, .iface 47 (.int .i64 c)] 104] [] w') (fun s => if s = true then 0 else 1) false rfl rfl ⟨rfl, trivial⟩ H1 ?_
  intro s
  cases s with
  | true =>
    intro j w2 H2
    refine CallK_ext Tryz.func93 (by kernel_rfl) (by kernel_rfl) (by kernel_rfl) (by kernel_rfl) (X.typeOfE (.int .i64 c) w2) ?_
    refine InvokeK_ext (X.mAssign (hdl 47) w2) Tryz.func156 (by kernel_rfl) (by kernel_rfl) (by kernel_rfl) (by kernel_rfl) (X.assignE w2) ?_
    refine load_rule tok H2 (v := .agg #[hdl 107, .pointer (some ⟨v, 0, none⟩), .int .u64 150]) rfl ?_
    have hv : w2.cell? ⟨v, 0, none⟩ = some (.pointer (some ⟨t, 0, none⟩)) := by
      obtain ⟨fa, ha⟩ := H2.own (A := blk v [.pointer (some ⟨t, 0, none⟩)] 107) (hp := ⟨TakeB.perm⟩)
      exact blk_cells ha 0 _ rfl
    refine CallK_ext Tryz.func94 (by kernel_rfl) (by kernel_rfl) (by kernel_rfl) (by kernel_rfl) (X.elemVP ⟨v, 0, none⟩ ⟨t, 0, none⟩ w2 hv) ?_
    refine CallK_ext (e := fun args => ReflectliteValue.unpack (args.getD 0 (.tuple #[]))) Tryz.func67 (by kernel_rfl) (by kernel_rfl) (by kernel_rfl) (by kernel_rfl) (X.valueOfE c w2) ?_
    have H3 : Hp ⟨w, M, I⟩ [blkO w2.heap.size (.cells #[.int .i64 c] 47), blk x [hdl 107, .pointer (some ⟨v, 0, none⟩), .int .u64 150] 145, blk t [.int .i64 0] 47, blk v [.pointer (some ⟨t, 0, none⟩)] 107, blk p [.int .u64 a, .iface 47 (.int .i64 c)] 104] [] (w2.alloc (.cells #[.int .i64 c] 47)) := H2.alloc _
    have hn : (w2.alloc (.cells #[.int .i64 c] 47)).cell? ⟨w2.heap.size, 0, none⟩ = some (.int .i64 c) := by simp
    obtain ⟨ft, ht⟩ := H3.own (A := blk t [.int .i64 0] 47) (hp := ⟨TakeB.perm⟩)
    refine CallK_ext Tryz.func95 (by kernel_rfl) (by kernel_rfl) (by kernel_rfl) (by kernel_rfl) (X.setE t w2.heap.size c _ (.int .i64 0) hn ht.2) ?_
    have H4 := Hp.setBlk H3 (S' := [blkO w2.heap.size (.cells #[.int .i64 c] 47), blk x [hdl 107, .pointer (some ⟨v, 0, none⟩), .int .u64 150] 145, blk v [.pointer (some ⟨t, 0, none⟩)] 107, blk p [.int .u64 a, .iface 47 (.int .i64 c)] 104]) (n := t) (o := .cells #[.int .i64 0] 47 (0, 0)) (o' := .cells #[.int .i64 c] 47 (0, 0))
    refine Exists.intro () (And.intro rfl (And.intro trivial ?_))
    exact Hp.keep H4
  | false =>
    intro j w2 H2
    refine CallK_ext Tryz.func93 (by kernel_rfl) (by kernel_rfl) (by kernel_rfl) (by kernel_rfl) (X.typeOfF (.pointer (some ⟨p, 0, none⟩)) w2) ?_
    refine InvokeK_ext (X.mAssign (hdl 102) w2) Tryz.func156 (by kernel_rfl) (by kernel_rfl) (by kernel_rfl) (by kernel_rfl) (X.assignFE w2) ?_
    refine AssertK.run (X.noAs _ _ _) ?_
    refine AssertK.run (X.hasUnwrap _ _ _) ?_
    refine invoke_rule H2 (X.mUnwrap ⟨p, 0, none⟩ w2) (fun M I _ h => unwrapF p a c _ M I h) fun _ w3 _ H3 => ?_
    refine Exists.intro true (And.intro ⟨rfl, trivial⟩ (And.intro (by decide) (Hp.keep H3)))
set_option maxHeartbeats 1000000 in
theorem asEF (t p : Nat) (a c : Int) (w : World) (M I : BS) (H : Hp ⟨w, M, I⟩ [blk t [.int .i64 0] 47, blk p [.int .u64 a, .iface 47 (.int .i64 c)] 104] [Glob 0 errTy] w) :
    Ctr Tryz.prog 39 [.iface 102 (.pointer (some ⟨p, 0, none⟩)), .iface 107 (.pointer (some ⟨t, 0, none⟩))] w M I (fun _ : Unit => .bool true) (fun _ => True) (fun _ => [blk t [.int .i64 c] 47, blk p [.int .u64 a, .iface 47 (.int .i64 c)] 104]) (fun _ => []) := by
  refine Exe.of_ev tok Tryz.call39 Tryz.func39 rfl rfl rfl ?_
  refine CallK_ext (e := fun args => ReflectliteValue.unpack (args.getD 0 (.tuple #[]))) Tryz.func67 (by kernel_rfl) (by kernel_rfl) (by kernel_rfl) (by kernel_rfl) (X.valueOfP ⟨t, 0, none⟩ w) ?_
  have H0 : Hp ⟨w, M, I⟩ [blkO w.heap.size (.cells #[.pointer (some ⟨t, 0, none⟩)] 107), blk t [.int .i64 0] 47, blk p [.int .u64 a, .iface 47 (.int .i64 c)] 104] [Glob 0 errTy] (w.alloc (.cells #[.pointer (some ⟨t, 0, none⟩)] 107)) := H.alloc _
  have H1 : Hp ⟨w, M, I⟩ [blk w.heap.size [.pointer (some ⟨t, 0, none⟩)] 107, blk t [.int .i64 0] 47, blk p [.int .u64 a, .iface 47 (.int .i64 c)] 104] [Glob 0 errTy] (w.alloc (.cells #[.pointer (some ⟨t, 0, none⟩)] 107)) := H0
  refine alloc_as tok H1 [.pointer none, .pointer none, .int .u64 0] rfl rfl rfl fun x w2 H2 => ?_
  refine store_as tok H2 [hdl 107, .pointer (some ⟨w.heap.size, 0, none⟩), .int .u64 150] rfl rfl rfl rfl rfl fun w3 H3 => ?_
  refine load_rule tok H3 (v := .agg #[hdl 107, .pointer (some ⟨w.heap.size, 0, none⟩), .int .u64 150]) rfl ?_
  refine CallK_ext Tryz.func68 (by kernel_rfl) (by kernel_rfl) (by kernel_rfl) (by kernel_rfl) (X.typeP ⟨w.heap.size, 0, none⟩ w3) ?_
  refine InvokeK_ext (X.mKind (hdl 107) w3) Tryz.func145 (by kernel_rfl) (by kernel_rfl) (by kernel_rfl) (by kernel_rfl) (X.kindP w3) ?_
  refine load_rule tok H3 (v := .agg #[hdl 107, .pointer (some ⟨w.heap.size, 0, none⟩), .int .u64 150]) rfl ?_
  have hv : w3.cell? ⟨w.heap.size, 0, none⟩ = some (.pointer (some ⟨t, 0, none⟩)) := by
    obtain ⟨fa, ha⟩ := H3.own (A := blk w.heap.size [.pointer (some ⟨t, 0, none⟩)] 107) (hp := ⟨TakeB.perm⟩)
    exact blk_cells ha 0 _ rfl
  refine CallK_ext Tryz.func69 (by kernel_rfl) (by kernel_rfl) (by kernel_rfl) (by kernel_rfl) (X.isNilP ⟨w.heap.size, 0, none⟩ ⟨t, 0, none⟩ w3 hv) ?_
  refine InvokeK_ext (X.mElem (hdl 107) w3) Tryz.func158 (by kernel_rfl) (by kernel_rfl) (by kernel_rfl) (by kernel_rfl) (X.elemP w3) ?_
  refine InvokeK_ext (X.mKind (hdl 47) w3) Tryz.func145 (by kernel_rfl) (by kernel_rfl) (by kernel_rfl) (by kernel_rfl) (X.kindE w3) ?_
  refine glob_rule tok H3 (g := 0) errTy rfl rfl ?_
  refine InvokeK_ext (X.mImpl (hdl 47) w3) Tryz.func159 (by kernel_rfl) (by kernel_rfl) (by kernel_rfl) (by kernel_rfl) (X.implE w3) ?_
  refine load_rule tok H3 (v := .agg #[hdl 107, .pointer (some ⟨w.heap.size, 0, none⟩), .int .u64 150]) rfl ?_
  refine call_rule H3 (fun M I _ h => asInF t w.heap.size p a c _ M I h) fun _ w4 _ H4 => ?_
  exact Exists.intro () (And.intro rfl (And.intro trivial (Hp.keep H4)))
theorem codeF (e : ErrF) (w : World) (M I : BS) (H : Hp ⟨w, M, I⟩ [errFA e] [Glob 0 errTy] w) :
    Ctr Tryz.prog 13 [errFV e] w M I (fun _ : Unit => .int .i64 (codeOfF e)) (fun _ => True) (fun _ => [errFA e]) (fun _ => []) := by
  cases e with
  | none =>
    refine Exe.of_ev tok Tryz.call13 Tryz.func13 rfl rfl rfl ?_
    exact Exists.intro () (And.intro rfl (And.intro trivial (Hp.keep H)))
  | code c =>
    refine Exe.of_ev tok Tryz.call13 Tryz.func13 rfl rfl rfl ?_
    refine alloc_as tok H [.int .i64 0] rfl rfl rfl fun t w1 H1 => ?_
    refine call_rule H1 (fun M I _ h => asE t c _ M I h) fun _ w2 _ H2 => ?_
    refine load_rule tok H2 (v := .int .i64 c) rfl ?_
    exact Exists.intro () (And.intro rfl (And.intro trivial (Hp.keep H2)))
  | fault p a c =>
    have H : Hp ⟨w, M, I⟩ [blk p [.int .u64 a, .iface 47 (.int .i64 c)] 104] [Glob 0 errTy] w := H
    refine Exe.of_ev tok Tryz.call13 Tryz.func13 rfl rfl rfl ?_
    refine alloc_as tok H [.int .i64 0] rfl rfl rfl fun t w1 H1 => ?_
    refine call_rule H1 (fun M I _ h => asEF t p a c _ M I h) fun _ w2 _ H2 => ?_
    refine load_rule tok H2 (v := .int .i64 c) rfl ?_
    have H3 : Hp ⟨w, M, I⟩ [blk p [.int .u64 a, .iface 47 (.int .i64 c)] 104] [] w2 := Hp.keep H2
    exact Exists.intro () (And.intro rfl (And.intro trivial H3))
end Go.Proofs.YtfemfomgmopibaaGreatDoor
namespace Go.Proofs.YtfemfomgmopibaaGreatDoor
open Go Go.Proofs Go.Wk
def eqK (a b : Key) : Bool := a.loan == b.loan && (a.day == b.day && (a.kind == b.kind && (a.seq == b.seq && true)))
end Go.Proofs.YtfemfomgmopibaaGreatDoor
namespace Go.Proofs.YtfemfomgmopibaaGreatDoor
open Go Go.Proofs Go.Wk
theorem min_v (n : Nat) : Value.int .i64 (if (12 : Int) < (n : Int) then 12 else (n : Int)) = .int .i64 ((min n 12 : Nat) : Int) := by
  congr 1
  split <;> omega
theorem legs_one (x : Leg) : ∀ u, u ∈ ([.int .u8 x.acct, .int .i64 x.amt] : List Value) → u.oneCell' = true := by
  intro u hu
  simp only [List.mem_cons, List.not_mem_nil, or_false] at hu
  rcases hu with rfl | rfl <;> rfl
theorem legs_ok {w : World} {B : Base} {S : List Asn} {F : List Fact} (H : Hp B S F w) {A : Option Addr} {n c : Nat} {ls : List Leg} [hp : InSl F A n c legR ls] : ∀ x, x ∈ ls → inK .u8 x.acct ∧ inK .i64 x.amt := fun x hx => by
  obtain ⟨I, fp, _, ha, _⟩ := H.ex
  obtain ⟨A', c', _, _, _, _, hel⟩ := ha _ hp.mem
  obtain ⟨i, hi⟩ := List.mem_iff_getElem?.1 hx
  obtain ⟨b, o, _, _, p, hok, _⟩ := hel i x hi
  exact hok
theorem frzLegsRow {w : World} {B : Base} {S S' : List Asn} {F : List Fact} (H : Hp B S F w) {v : Value} {e n : Nat} (ls : List Leg) (hM : ∀ b, ¬ B.M b) [h1 : TakeR S v e 2 n (legsC ls) S'] (hok : ∀ x, x ∈ ls → inK .u8 x.acct ∧ inK .i64 x.amt) : Hp B S' (Sl legR v ls :: F) w := by
  have hcl : ∀ i x, ls[i]? = some x → ∃ p : Unit, (inK .u8 x.acct ∧ inK .i64 x.amt) ∧ ((legsC ls).drop (i * 2)).take 2 = [.int .u8 x.acct, .int .i64 x.amt] ∧ ([] : List Fact) = [] := fun i x hx => by
    obtain ⟨hj, _⟩ := List.getElem?_eq_some_iff.1 hx
    refine ⟨(), hok x (List.mem_of_getElem? hx), ?_, rfl⟩
    rw [legsC_drop, List.drop_eq_getElem_cons hj]
    rw [List.getElem?_eq_getElem hj] at hx
    rw [Option.some.inj hx]
    rfl
  have H2 := (H.addCl legR (cs := legsC ls) (xs := ls) (legsC_len ls) hcl).frzRow (v := v) (xs := ls) legR hM rfl (by decide)
  refine H2.facts fun I ha f hf => ha f ?_
  rcases List.mem_cons.1 hf with rfl | hf
  · exact List.mem_cons_self
  · exact List.mem_cons_of_mem _ (List.mem_cons_of_mem _ hf)
/-- A leg of the document's lies asx the program's. -/
theorem own_ (k : Key) (A : Option Addr) (n c : Nat) (ls : List Leg) (hl : ls.length ≤ 1000) (w : World) (M I : BS) (hM : ∀ b, ¬ M b) (H : Hp ⟨w, M, I⟩ [] [Sl legR (.slice A n c) ls] w) :
    Ctr Tryz.prog 29 [.agg #[.int .u32 k.loan, .int .i32 k.day, .int .u8 k.kind, .int .u32 k.seq, .slice A n c]] w M I (fun a : SV => .agg #[.int .u32 k.loan, .int .i32 k.day, .int .u8 k.kind, .int .u32 k.seq, .slice a.A a.n a.c]) (fun _ => True) (fun _ => []) (fun a => [Sl legR (.slice a.A a.n a.c) ls]) := by
  obtain ⟨hn, hc, hc2⟩ := H.sll (A := A) (n := n) (c := c)
  refine Exe.of_ev tok Tryz.call29 Tryz.func29 rfl rfl rfl ?_
  refine box_as H (entC k A n c) rfl fun x w1 H1 => ?_
  refine alloc_as tok H1 zeroC rfl rfl rfl fun r w2 H2 => ?_
  refine load_rule tok H2 (v := keyV k) rfl ?_
  refine call_rule H2 (fun M I _ h => key_ k _ M I h) fun _ w3 _ H3 => ?_
  refine alloc_as tok H3 zeroC rfl rfl rfl fun o w4 H4 => ?_
  refine store_as tok H4 (entC k none 0 0) rfl rfl rfl rfl rfl fun w5 H5 => ?_
  refine load_rule tok H5 (v := .slice A n c) rfl ?_
  have H5' : Hp ⟨w, M, I⟩ [row 128 2 (.slice none 0 0) 0 [], blk o (entC k none 0 0) 64, blk r zeroC 64, blk x (entC k A n c) 39] [Sl legR (.slice A n c) ls] w5 := (Hp.nil H5 128 2).keep
  refine loop_rule tok (σ := Nat × SV) 268427296 (fun s => [(13, .int .i64 s.1)])
    (fun s w' => s.1 ≤ ls.length ∧ s.2.n = s.1 ∧ Hp ⟨w, M, I⟩ [row 128 2 (.slice s.2.A s.2.n s.2.c) s.2.n (legsC (ls.take s.1)), blk o (entC k s.2.A s.2.n s.2.c) 64, blk r zeroC 64, blk x (entC k A n c) 39] [Sl legR (.slice A n c) ls] w') (fun s => ls.length - s.1) (0, ⟨none, 0, 0⟩) rfl rfl ⟨rfl, trivial⟩
    ⟨Nat.zero_le _, rfl, H5'⟩ ?_
  rintro ⟨i, A1, n1, c1⟩ j w6 ⟨hi, hni, H6⟩
  simp only at hi hni H6
  subst hni
  refine brd (fun h5 => ?_) (fun h5 => ?_)
  · refine idx_rule tok H6 rfl rfl rfl (by omega) h5 fun eb eo y hy H7 => ?_
    refine ldp_rule tok H7 rfl rfl rfl fun _ hok H8 => ?_
    refine alloc_rule tok H8 rfl rfl fun lb w7 H9 => ?_
    refine store_as tok H9 [.int .u8 y.acct, .int .i64 y.amt] rfl rfl rfl rfl rfl fun w8 H10 => ?_
    refine load_rule tok H10 (v := .slice A1 n1 c1) rfl ?_
    refine load_rule tok H10 rfl ?_
    refine load_rule tok H10 rfl ?_
    refine slice_as tok H10 [.int .u8 y.acct, .int .i64 y.amt] rfl rfl rfl rfl rfl rfl fun g w9 H11 => ?_
    refine append_rule (v := .slice A1 n1 c1) (b := g) (m := 1) (c := 1) tok H11 rfl rfl rfl rfl rfl rfl rfl rfl ?_ (by omega) fun A2 c2 w10 H12 => ?_
    · show (n1 + 1) * 16 ≤ _
      omega
    refine store_as tok H12 (entC k A2 (n1 + 1) c2) rfl rfl rfl rfl rfl fun w11 H13 => ?_
    have hy' : ls[n1]? = some y := by simpa using hy
    have e : legsC (ls.take (n1 + 1)) = legsC (ls.take n1) ++ [.int .u8 y.acct, .int .i64 y.amt] := by
      rw [List.take_add_one, hy', legsC_app]; rfl
    refine Exists.intro (n1 + 1, ⟨A2, n1 + 1, c2⟩) (And.intro ⟨?_, trivial⟩ (And.intro ?_ ⟨?_, rfl, ?_⟩))
    · show Value.int .i64 (IntKind.i64.wrap (n1 + 1)) = _
      rw [w64 (by omega) (by omega)]; rfl
    · simp only; omega
    · simp only; omega
    · simp only [e]
      exact H13.keep
  · obtain rfl : n1 = ls.length := by omega
    rw [List.take_of_length_le (Nat.le_refl _)] at H6
    refine load_rule tok H6 (v := .agg #[.int .u32 k.loan, .int .i32 k.day, .int .u8 k.kind, .int .u32 k.seq, .slice A1 ls.length c1]) rfl ?_
    refine store_as tok H6 (entC k A1 ls.length c1) rfl rfl rfl rfl rfl fun w7 H7 => ?_
    refine Exists.intro ⟨r, 0, none⟩ (Exists.intro (.agg #[.int .u32 k.loan, .int .i32 k.day, .int .u8 k.kind, .int .u32 k.seq, .slice A1 ls.length c1]) (And.intro rfl (And.intro (Hp.ld (T := tb) tok H7 rfl) ?_)))
    have H8 := frzLegsRow (v := .slice A1 ls.length c1) H7 ls hM (legs_ok H (A := A) (n := n) (c := c))
    exact Exists.intro ⟨A1, ls.length, c1⟩ (And.intro rfl (And.intro trivial (Hp.keep H8)))
end Go.Proofs.YtfemfomgmopibaaGreatDoor
/- The document's own sum, and its entry: the walk. -/
namespace Go.Proofs.YtfemfomgmopibaaGreatDoor
open Go Go.Proofs Go.Wk
def addR (a b : Int) : Value := if in64 (a + b) then .tuple #[.int .i64 (a + b), .bool true] else .tuple #[.int .i64 0, .bool false]
theorem addR_no {a b : Int} (en : in64 (a + b) = false) : Value.tuple #[.int .i64 0, .bool false] = addR a b := by unfold addR; rw [en]; rfl
theorem addR_ok {a b : Int} (en : in64 (a + b) = true) : Value.tuple #[.int .i64 (a + b), .bool true] = addR a b := by unfold addR; rw [en]; rfl
theorem addRef (a b : Int) (ha : inK .i64 a) (hb : inK .i64 b) : CB 55 [.int .i64 a, .int .i64 b] (addR a b) := by
  intro w M I H
  obtain ⟨a1, a2⟩ := ha
  obtain ⟨b1, b2⟩ := hb
  simp only [kLo, kHi] at a1 a2 b1 b2
  have enh : 9223372036854775807 < a + b → in64 (a + b) = false := fun h => by unfold in64; rw [decide_eq_false (show ¬ a + b ≤ 9223372036854775807 by omega), Bool.and_false]
  have enl : a + b < -9223372036854775808 → in64 (a + b) = false := fun h => by unfold in64; rw [decide_eq_false (show ¬ -9223372036854775808 ≤ a + b by omega), Bool.false_and]
  have eno : -9223372036854775808 ≤ a + b → a + b ≤ 9223372036854775807 → in64 (a + b) = true := fun h h' => by unfold in64; rw [decide_eq_true h, decide_eq_true h']; rfl
  have fin : -9223372036854775808 ≤ a + b → a + b ≤ 9223372036854775807 → Value.tuple #[.int .i64 (IntKind.i64.wrap (a + b)), .bool true] = addR a b := fun h h' => by
    rw [w64 h h']; exact addR_ok (eno h h')
  refine Exe.of_ev tok Tryz.call55 Tryz.func55 rfl rfl rfl ?_
  refine brd (fun q => ?_) (fun q => ?_)
  · have e : IntKind.i64.wrap (9223372036854775807 - b) = 9223372036854775807 - b := w64 (by omega) (by omega)
    refine brd (fun q2 => ?_) (fun q2 => ?_)
    · have q2 : IntKind.i64.wrap (9223372036854775807 - b) < a := q2
      rw [e] at q2
      exact Exists.intro () (And.intro (addR_no (enh (by omega))) (And.intro trivial H))
    · have q2 : ¬ IntKind.i64.wrap (9223372036854775807 - b) < a := q2
      rw [e] at q2
      refine brd (fun q3 => ?_) (fun q3 => ?_)
      · exact absurd q3 (show ¬ b < 0 by omega)
      · exact Exists.intro () (And.intro (fin (by omega) (by omega)) (And.intro trivial H))
  · refine brd (fun q2 => ?_) (fun q2 => ?_)
    · have e : IntKind.i64.wrap (-9223372036854775808 - b) = -9223372036854775808 - b := w64 (by omega) (by omega)
      refine brd (fun q3 => ?_) (fun q3 => ?_)
      · have q3 : a < IntKind.i64.wrap (-9223372036854775808 - b) := q3
        rw [e] at q3
        exact Exists.intro () (And.intro (addR_no (enl (by omega))) (And.intro trivial H))
      · have q3 : ¬ a < IntKind.i64.wrap (-9223372036854775808 - b) := q3
        rw [e] at q3
        exact Exists.intro () (And.intro (fin (by omega) (by omega)) (And.intro trivial H))
    · exact Exists.intro () (And.intro (fin (by omega) (by omega)) (And.intro trivial H))
end Go.Proofs.YtfemfomgmopibaaGreatDoor
/- The document's word on entries that are alike, and on those that may be: the walk. -/
namespace Go.Proofs.YtfemfomgmopibaaGreatDoor
open Go Go.Proofs Go.Wk
def legEq (x y : Leg) : Bool := x.acct == y.acct && (x.amt == y.amt && true)
def legsEq : List Leg → List Leg → Bool
  | [], [] => true
  | x :: r, y :: s => legEq x y && legsEq r s
  | _, _ => false
def sameB (k l : Key) (a b : List Leg) : Bool := eqK k l && legsEq a b
theorem legsEq_len : ∀ {a b : List Leg}, a.length ≠ b.length → legsEq a b = false
  | [], [], h => absurd rfl h
  | [], _ :: _, _ => rfl
  | _ :: _, [], _ => rfl
  | x :: r, y :: s, h => by
    rw [legsEq, legsEq_len (by simpa using h), Bool.and_false]
end Go.Proofs.YtfemfomgmopibaaGreatDoor
/- Which entries may be, by the document: the walk. -/
namespace Go.Proofs.YtfemfomgmopibaaGreatDoor
open Go Go.Proofs Go.Wk
def rGo : List Leg → Option Int → Int → Bool
  | [], _, s => s == 0
  | l :: r, p, s => bif in64 (s + l.amt) then (bif decide (l.acct < 1) then false else bif decide (9 < l.acct) then false else bif (match p with
    | none => false
    | some a => decide (l.acct ≤ a)) then false else rGo r (some l.acct) (s + l.amt)) else false
def rightR (k : Key) (ls : List Leg) : Bool := bif decide (k.kind < 1) then false else bif decide (7 < k.kind) then false else bif decide (k.day < 0) then false else bif decide (3652058 < k.day) then false else
  bif decide ((ls.length : Int) < 1) then false else bif decide (8 < (ls.length : Int)) then false else rGo ls none 0
theorem rightRef (k : Key) (A : Option Addr) (n c : Nat) (ls : List Leg) (hn : n = ls.length) (w : World) (M I : BS) (H : Hp ⟨w, M, I⟩ [] [Sl legR (.slice A n c) ls] w) :
    Ctr Tryz.prog 57 [.agg #[.int .u32 k.loan, .int .i32 k.day, .int .u8 k.kind, .int .u32 k.seq, .slice A n c]] w M I (fun _ : Unit => .bool (rightR k ls)) (fun _ => True) (fun _ => []) (fun _ => []) := by
  subst hn
  obtain ⟨_, hc, hc2⟩ := H.sll (A := A) (n := ls.length) (c := c)
  refine Exe.of_ev tok Tryz.call57 Tryz.func57 rfl rfl rfl ?_
  refine box_as H (entC k A ls.length c) rfl fun b w1 H1 => ?_
  refine load_rule tok H1 rfl ?_
  refine brd (fun h => ?_) (fun h1 => ?_)
  · refine Exists.intro () (And.intro (congrArg Value.bool ?_) (And.intro trivial (Hp.keep H1)))
    rw [rightR, decide_eq_true h]; rfl
  refine load_rule tok H1 rfl ?_
  refine brd (fun h => ?_) (fun h2 => ?_)
  · refine Exists.intro () (And.intro (congrArg Value.bool ?_) (And.intro trivial (Hp.keep H1)))
    rw [rightR, decide_eq_false h1, decide_eq_true h]; rfl
  refine load_rule tok H1 rfl ?_
  refine brd (fun h => ?_) (fun h3 => ?_)
  · refine Exists.intro () (And.intro (congrArg Value.bool ?_) (And.intro trivial (Hp.keep H1)))
    rw [rightR, decide_eq_false h1, decide_eq_false h2, decide_eq_true h]; rfl
  refine load_rule tok H1 rfl ?_
  refine brd (fun h => ?_) (fun h4 => ?_)
  · refine Exists.intro () (And.intro (congrArg Value.bool ?_) (And.intro trivial (Hp.keep H1)))
    rw [rightR, decide_eq_false h1, decide_eq_false h2, decide_eq_false h3, decide_eq_true h]; rfl
  refine load_rule tok H1 (v := .slice A ls.length c) rfl ?_
  refine brd (fun h => ?_) (fun h5 => ?_)
  · refine Exists.intro () (And.intro (congrArg Value.bool ?_) (And.intro trivial (Hp.keep H1)))
    rw [rightR, decide_eq_false h1, decide_eq_false h2, decide_eq_false h3, decide_eq_false h4, decide_eq_true h]; rfl
  refine load_rule tok H1 (v := .slice A ls.length c) rfl ?_
  refine brd (fun h => ?_) (fun h6 => ?_)
  · refine Exists.intro () (And.intro (congrArg Value.bool ?_) (And.intro trivial (Hp.keep H1)))
    rw [rightR, decide_eq_false h1, decide_eq_false h2, decide_eq_false h3, decide_eq_false h4, decide_eq_false h5, decide_eq_true h]; rfl
  have hR : rightR k ls = rGo ls none 0 := by rw [rightR, decide_eq_false h1, decide_eq_false h2, decide_eq_false h3, decide_eq_false h4, decide_eq_false h5, decide_eq_false h6]; rfl
  rw [hR]
  have hpos : 0 < ls.length := by omega
  obtain ⟨b1, o1, hA⟩ := Hp.slAt (A := A) (n := ls.length) (c := c) (r := legR) (xs := ls) H1 hpos
  subst hA
  refine load_rule tok H1 (v := .slice (some ⟨b1, o1, none⟩) ls.length c) rfl ?_
  refine loop_rule tok (σ := Nat × Int) 154742504910637349990301948 (fun s => [(3, .int .i64 s.2), (45, .int .i64 s.1)])
    (fun s w' => s.1 ≤ ls.length ∧ inK .i64 s.2 ∧ (∃ p : Option Int, rGo ls none 0 = rGo (ls.drop s.1) p s.2 ∧ (s.1 = 0 → p = none) ∧ ∀ i', s.1 = i' + 1 → ∃ u, ls[i']? = some u ∧ p = some u.acct) ∧ Hp ⟨w, M, I⟩ [blk b (entC k (some ⟨b1, o1, none⟩) ls.length c) 64] [Sl legR (.slice (some ⟨b1, o1, none⟩) ls.length c) ls] w') (fun s => ls.length - s.1) (0, 0) rfl rfl ⟨rfl, rfl, trivial⟩
    ⟨Nat.zero_le _, ⟨by simp [kLo], by simp [kHi]⟩, ⟨none, rfl, fun _ => rfl, fun i' h => by cases h⟩, H1⟩ ?_
  rintro ⟨i, s⟩ j w2 ⟨hi, hs, ⟨p, hg, hp0, hp1⟩, H2⟩
  simp only at hi hs hg hp0 hp1 H2
  refine brd (fun h7 => ?_) (fun h7 => ?_)
  · have hil : i < ls.length := by omega
    refine Exists.elim (show ∃ x, ls[i]? = some x from ⟨_, List.getElem?_eq_getElem hil⟩) fun x hx => ?_
    have hd : ls.drop i = x :: ls.drop (i + 1) := by
      rw [List.drop_eq_getElem_cons hil]
      rw [List.getElem?_eq_getElem hil] at hx
      rw [Option.some.inj hx]
    have hok := legs_ok H (A := some ⟨b1, o1, none⟩) (n := ls.length) (c := c) x (List.mem_of_getElem? hx)
    have i1 : (0 : Int) ≤ (i : Int) := by omega
    have i2 : (i : Int) < ls.length := h7
    refine idx_own tok rfl rfl i1 i2 ?_
    refine sl_ld (o := o1) (n := ls.length) (c := c) (j := i) (f := 0) (r := legR) (xs := ls) (x := x) tok H2 (legV x) hx rfl (fun _ _ => rfl) ?_
    refine alloc_rule tok H2 rfl rfl fun lb w3 H3 => ?_
    refine store_as tok H3 [.int .u8 x.acct, .int .i64 x.amt] rfl rfl rfl rfl rfl fun w4 H4 => ?_
    refine load_rule tok H4 rfl ?_
    have hprev : 0 < i → ∃ u, ls[(IntKind.i64.wrap ((i : Int) - 1)).toNat]? = some u ∧ p = some u.acct := fun h => by
      obtain ⟨u, h1, h2⟩ := hp1 (i - 1) (by omega)
      refine ⟨u, ?_, h2⟩
      rw [w64 (by omega) (by omega), show ((i : Int) - 1).toNat = i - 1 by omega]
      exact h1
    have nxt : Value.int .i64 (IntKind.i64.wrap (i + 1)) = .int .i64 ((i + 1 : Nat) : Int) := by rw [w64 (by omega) (by omega)]; rfl
    have hpz : ¬ (0 : Int) < (i : Int) → p = none := fun h => hp0 (by omega)
    have j1 : (0 : Int) < (i : Int) → (0 : Int) ≤ IntKind.i64.wrap ((i : Int) - 1) := fun h => by rw [w64 (by omega) (by omega)]; omega
    have j2 : (0 : Int) < (i : Int) → IntKind.i64.wrap ((i : Int) - 1) < ls.length := fun h => by rw [w64 (by omega) (by omega)]; omega
    refine Or.elim (show in64 (s + x.amt) = true ∨ in64 (s + x.amt) = false by cases in64 (s + x.amt) <;> simp) (fun en => ?_) (fun en => ?_)
    · refine call_rule H4 (fun M I _ h => (addR_ok en).symm ▸ addRef _ _ hs hok.2 _ M I h) fun _ w5 _ H5 => ?_
      refine draw_rule (A := []) tok tdr H5 [0, 1, 2, 3, 4, 5, 6, 7, 8, 9, 10, 11, 12, 13, 14, 15, 16, 17, 18, 19, 20, 21, 22, 23, 24, 25, 26, 27] [0, 1, 3, 7, 15, 31, 63, 127, 255, 511, 1023, 2047, 4095, 8191, 16383, 32767, 65535, 131071, 65535, 327679, 65535, 1114111, 3997695, 8191999, 16580607, 33554431, 67108863, 134217727] rfl ?_
      refine pass_rule _ (fun w h => load_rule tok h (v := .int .u8 x.acct) rfl ⟨rfl, rfl⟩) ?_
      refine brd (fun g1 => ?_) (fun g1 => ?_)
      · refine done_rule fun w6 H6 => ?_
        refine Exists.intro () (And.intro (congrArg Value.bool ?_) (And.intro trivial (Hp.keep H6)))
        have e : rGo ls none 0 = false := by rw [hg, hd]; simp only [rGo, en, decide_eq_true g1, cond_true]
        rw [e]
      refine pass_rule _ (fun w h => load_rule tok h (v := .int .u8 x.acct) rfl ⟨rfl, rfl⟩) ?_
      refine brd (fun g2 => ?_) (fun g2 => ?_)
      · refine done_rule fun w6 H6 => ?_
        refine Exists.intro () (And.intro (congrArg Value.bool ?_) (And.intro trivial (Hp.keep H6)))
        have e : rGo ls none 0 = false := by rw [hg, hd]; simp only [rGo, en, decide_eq_false g1, decide_eq_true g2, cond_true, cond_false]
        rw [e]
      have en' : -9223372036854775808 ≤ s + x.amt ∧ s + x.amt ≤ 9223372036854775807 := by
        simp only [in64, Bool.and_eq_true, decide_eq_true_eq] at en
        exact en
      have on : ∀ w6, (match p with | none => false | some a => decide (x.acct ≤ a)) = false → Hp ⟨w, M, I⟩ [blk b (entC k (some ⟨b1, o1, none⟩) ls.length c) 64] [Sl legR (.slice (some ⟨b1, o1, none⟩) ls.length c) ls] w6 → (i + 1 ≤ ls.length ∧ inK .i64 (s + x.amt) ∧ (∃ p : Option Int, rGo ls none 0 = rGo (ls.drop (i + 1)) p (s + x.amt) ∧ (i + 1 = 0 → p = none) ∧ ∀ i', i + 1 = i' + 1 → ∃ u, ls[i']? = some u ∧ p = some u.acct) ∧ Hp ⟨w, M, I⟩ [blk b (entC k (some ⟨b1, o1, none⟩) ls.length c) 64] [Sl legR (.slice (some ⟨b1, o1, none⟩) ls.length c) ls] w6) := fun w6 hm h6 =>
        ⟨by omega, ⟨en'.1, en'.2⟩, ⟨some x.acct, by rw [hg, hd]; simp only [rGo, en, decide_eq_false g1, decide_eq_false g2, hm, cond_true, cond_false], fun h => by omega, fun i' h => ⟨x, by rw [← Nat.succ.inj h]; exact hx, rfl⟩⟩, h6⟩
      refine brd (fun g3 => ?_) (fun g3 => ?_)
      · refine Exists.elim (hprev (by omega)) fun u hu => ?_
        refine pass_rule _ (fun w h => load_rule tok h (v := .int .u8 x.acct) rfl ⟨rfl, rfl⟩) ?_
        refine pass_rule _ (fun w h => load_rule tok h (v := .slice (some ⟨b1, o1, none⟩) ls.length c) rfl ⟨rfl, rfl⟩) ?_
        refine pass_rule _ (fun w h => idx_own tok rfl rfl (j1 g3) (j2 g3) ⟨rfl, rfl⟩) ?_
        refine pass_rule _ (fun w h => sl_ld (o := o1) (n := ls.length) (c := c) (j := (IntKind.i64.wrap ((i : Int) - 1)).toNat) (f := 0) (r := legR) (xs := ls) (x := u) tok h (.int .u8 u.acct) hu.1 rfl (fun _ _ => rfl) ⟨rfl, rfl⟩) ?_
        refine done_rule fun w6 H6 => ?_
        refine brd (fun g4 => ?_) (fun g4 => ?_)
        · refine Exists.intro () (And.intro (congrArg Value.bool ?_) (And.intro trivial (Hp.keep H6)))
          have e : rGo ls none 0 = false := by rw [hg, hd, hu.2]; simp only [rGo, en, decide_eq_false g1, decide_eq_false g2, decide_eq_true g4, cond_true, cond_false]
          rw [e]
        · refine Exists.intro (i + 1, s + x.amt) (And.intro ⟨rfl, nxt, trivial⟩ (And.intro ?_ (on w6 ?_ (Hp.keep H6))))
          · simp only; omega
          · rw [hu.2]; exact decide_eq_false g4
      · refine done_rule fun w6 H6 => ?_
        refine Exists.intro (i + 1, s + x.amt) (And.intro ⟨rfl, nxt, trivial⟩ (And.intro ?_ (on w6 ?_ (Hp.keep H6))))
        · simp only; omega
        · rw [hpz g3]
    · refine call_rule H4 (fun M I _ h => (addR_no en).symm ▸ addRef _ _ hs hok.2 _ M I h) fun _ w5 _ H5 => ?_
      refine draw_rule (A := []) tok tdr H5 [0, 1, 2, 3, 4, 5, 6, 7, 8, 9, 10, 11, 12, 13, 14, 15, 16, 17, 18, 19, 20, 21, 22, 23, 24, 25, 26, 27] [0, 1, 3, 7, 15, 31, 63, 127, 255, 511, 1023, 2047, 4095, 8191, 16383, 32767, 65535, 131071, 65535, 327679, 65535, 1114111, 3997695, 8191999, 16580607, 33554431, 67108863, 134217727] rfl ?_
      refine done_rule fun w6 H6 => ?_
      refine Exists.intro () (And.intro (congrArg Value.bool ?_) (And.intro trivial (Hp.keep H6)))
      have e : rGo ls none 0 = false := by rw [hg, hd]; simp only [rGo, en, cond_false]
      rw [e]
  · refine Exists.intro () (And.intro (congrArg Value.bool ?_) (And.intro trivial (Hp.keep H2)))
    rw [hg, List.drop_eq_nil_of_le (by omega)]; rfl
end Go.Proofs.YtfemfomgmopibaaGreatDoor
/- Legs of any order make the document's entry: the walk. -/
namespace Go.Proofs.YtfemfomgmopibaaGreatDoor
open Go Go.Proofs Go.Wk
end Go.Proofs.YtfemfomgmopibaaGreatDoor
/- The program's word on entries that may be is the document's. -/
namespace Go.Proofs.YtfemfomgmopibaaGreatDoor
open Go Go.Proofs Go.Wk
theorem noB_acc (a : Int) (h0 : 0 ≤ a) (h1 : a ≤ 255) : noB (accName a) = (decide (a < 1) || decide (9 < a)) := by
  rcases (show a = 0 ∨ a = 1 ∨ a = 2 ∨ a = 3 ∨ a = 4 ∨ a = 5 ∨ a = 6 ∨ a = 7 ∨ a = 8 ∨ a = 9 ∨ 9 < a by omega) with rfl | rfl | rfl | rfl | rfl | rfl | rfl | rfl | rfl | rfl | h
  all_goals first | decide +kernel | skip
  have : accL.length ≤ a.toNat := by show 10 ≤ _; omega
  rw [decide_eq_true h, Bool.or_true]
  unfold accName
  rw [List.getElem?_eq_none this]
  decide +kernel
theorem noB_kind (a : Int) (h0 : 0 ≤ a) (h1 : a ≤ 255) : noB (kindName a) = (decide (a < 1) || decide (7 < a)) := by
  rcases (show a = 0 ∨ a = 1 ∨ a = 2 ∨ a = 3 ∨ a = 4 ∨ a = 5 ∨ a = 6 ∨ a = 7 ∨ 7 < a by omega) with rfl | rfl | rfl | rfl | rfl | rfl | rfl | rfl | h
  all_goals first | decide +kernel | skip
  have : kindL.length ≤ a.toNat := by show 8 ≤ _; omega
  rw [decide_eq_true h, Bool.or_true]
  unfold kindName
  rw [List.getElem?_eq_none this]
  decide +kernel
theorem rightGo_r : ∀ (ls : List Leg) (p : Option Int) (s : Int), (∀ x, x ∈ ls → inK .u8 x.acct) → (∀ a, p = some a → 1 ≤ a) → rightGo s (p.getD 0) ls = rGo ls p s
  | [], _, _, _, _ => rfl
  | l :: r, p, s, hr, hp => by
    obtain ⟨h0, h1⟩ := hr l List.mem_cons_self
    simp only [kLo, kHi] at h0 h1
    unfold rightGo rGo
    rw [noB_acc l.acct h0 h1]
    cases hin : in64 (s + l.amt) with
    | false => rfl
    | true =>
      simp only [cond_true]
      by_cases q1 : l.acct < 1
      · have : l.acct ≤ p.getD 0 := by
          cases p with
          | none => simp only [Option.getD_none]; omega
          | some a => have := hp a rfl; simp only [Option.getD_some]; omega
        simp [q1, this]
      · by_cases q2 : 9 < l.acct
        · simp [q1, q2]
        · have ih := rightGo_r r (some l.acct) (s + l.amt) (fun x hx => hr x (List.mem_cons_of_mem _ hx)) (fun a ha => by cases ha; omega)
          simp only [Option.getD_some] at ih
          cases p with
          | none =>
            have : ¬ l.acct ≤ 0 := by omega
            simp [q1, q2, this, ih]
          | some a => simp [q1, q2, ih]
theorem rights (k : Key) (hk : inK .u8 k.kind) (ls : List Leg) (hr : ∀ x, x ∈ ls → inK .u8 x.acct) : rightB k ls = rightR k ls := by
  obtain ⟨h0, h1⟩ := hk
  simp only [kLo, kHi] at h0 h1
  unfold rightB rightR dayB
  rw [noB_kind k.kind h0 h1, ← rightGo_r ls none 0 hr (fun a ha => by cases ha)]
  by_cases q1 : k.kind < 1
  · simp [q1]
  · by_cases q2 : 7 < k.kind
    · simp [q1, q2]
    · by_cases q3 : k.day < 0
      · have : ¬ 0 ≤ k.day := by omega
        simp [q1, q2, q3, this]
      · by_cases q4 : 3652058 < k.day
        · have : ¬ k.day ≤ 3652058 := by omega
          simp [q1, q2, q3, q4, this]
        · have e1 : 0 ≤ k.day := by omega
          have e2 : k.day ≤ 3652058 := by omega
          cases ls with
          | nil => simp [q1, q2, q3, q4, e1, e2]
          | cons x r =>
            have e3 : ((((x :: r).length : Nat) : Int) == 0) = false := by simp; omega
            have e4 : ¬ (((x :: r).length : Nat) : Int) < 1 := by simp; omega
            simp only [e3, e4, q1, q2, q3, q4, e1, e2, decide_true, decide_false, Bool.or_self, Bool.and_self, Bool.not_true, cond_false, Option.getD_none]
end Go.Proofs.YtfemfomgmopibaaGreatDoor
/- Legs summed one by one, and account by account: the same. -/
namespace Go.Proofs.YtfemfomgmopibaaGreatDoor
open Go Go.Proofs Go.Wk
def rise (l : List Leg) : Prop := l.Pairwise fun a b => a.acct < b.acct
end Go.Proofs.YtfemfomgmopibaaGreatDoor
/- Legs of any order make the document's entry: the plain law. -/
namespace Go.Proofs.YtfemfomgmopibaaGreatDoor
open Go Go.Proofs Go.Wk
theorem legsEq_self : ∀ l : List Leg, legsEq l l = true
  | [] => rfl
  | x :: r => by simp [legsEq, legEq, legsEq_self r]
theorem sumGo_len : ∀ {ls : List Leg} {m m' : List (Int × Int)}, sumGo ls m = some m' → m'.length ≤ m.length + ls.length
  | [], m, m', e => by simp only [sumGo, Option.some.injEq] at e; subst e; simp
  | l :: r, m, m', e => by
    unfold sumGo at e
    split at e
    · have h1 := sumGo_len e
      have h2 := len_putL (k := l.acct) (v := (lk l.acct m).getD 0 + l.amt) (l := m)
      simp only [List.length_cons]; omega
    · cases e
end Go.Proofs.YtfemfomgmopibaaGreatDoor
