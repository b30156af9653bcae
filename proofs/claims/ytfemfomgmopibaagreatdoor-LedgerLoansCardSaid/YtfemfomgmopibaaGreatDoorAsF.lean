/- An error's number, where a fault wraps it: the walks. -/
import Derived.Test.YtfemfomgmopibaaGreatDoorAsE
namespace Go.Proofs.YtfemfomgmopibaaGreatDoor
open Go Go.Proofs Go.Wk Go.Extern
/-- Nothing is owned. -/
def empA : Asn where
  at_ _ fp := ∀ b, ¬ fp b
  loc := fun h _ => h
  lt := fun h hb => absurd hb (h _)
theorem Hp.addEmp {w : World} {B : Base} {S : List Asn} {F : List Fact} (H : Hp B S F w) : Hp B (empA :: S) F w := by
  obtain ⟨h1, h2, h3, h4, h5, I, fp, hs, r⟩ := H
  exact ⟨h1, h2, h3, h4, h5, I, fp, ⟨fun _ => False, fp, fun b h => h, fun _ h => h.elim, fun _ h => h.elim, fun b => by simp, hs⟩, r⟩
/-- An error: none, a number, a fault that wraps a number. -/
inductive ErrF where
  | none
  | code (c : Int)
  | fault (p : Nat) (at_ c : Int)
@[reducible] def errFV : ErrF → Value
  | .none => .nilIface
  | .code c => .iface 47 (.int .i64 c)
  | .fault p _ _ => .iface 102 (.pointer (some ⟨p, 0, none⟩))
def errFA : ErrF → Asn
  | .fault p a c => blk p [.int .u64 a, .iface 47 (.int .i64 c)] 104
  | _ => empA
def codeOfF : ErrF → Int
  | .none => 0
  | .code c => c
  | .fault _ _ c => c
namespace X
theorem typeOfF (v : Value) (w : World) : (ReflectliteType.typeOf #[.iface 102 v]).run Tryz.prog w = .ok (.iface 176 (.agg #[hdl 102])) w := by kernel_rfl
theorem assignFE (w : World) : (ReflectliteType.relation "AssignableTo" ReflectliteType.assignableTo #[.agg #[hdl 102], .iface 176 (.agg #[hdl 47])]).run Tryz.prog w = .ok (.bool false) w := by kernel_rfl
theorem noAs (v : Value) (xT : TypeId) (w : World) : (Instr.typeAssert (.iface 102 v) xT 181 true).run Tryz.prog w = .ok (.tuple #[.nilIface, .bool false]) w :=
  Go.run_typeAssert_lacksB Tryz.underlying181 (by kernel_rfl) (by kernel_rfl) v xT w
theorem hasUnwrap (v : Value) (xT : TypeId) (w : World) : (Instr.typeAssert (.iface 102 v) xT 184 true).run Tryz.prog w = .ok (.tuple #[.iface 102 v, .bool true]) w :=
  Go.run_typeAssert_hasB Tryz.underlying184 (by kernel_rfl) v xT w
theorem mUnwrap (a : Addr) (w : World) : (Go.method (Tryz.prog.types.size + Made.depth) 102 (.pointer (some a)) "Unwrap").run Tryz.prog w = .ok (151, .pointer (some a)) w := by kernel_rfl
end X
theorem unwrapF (p : Nat) (a c : Int) (w : World) (M I : BS) (H : Hp ⟨w, M, I⟩ [blk p [.int .u64 a, .iface 47 (.int .i64 c)] 104] [] w) :
    Ctr Tryz.prog 151 [.pointer (some ⟨p, 0, none⟩)] w M I (fun _ : Unit => .iface 47 (.int .i64 c)) (fun _ => True) (fun _ => [blk p [.int .u64 a, .iface 47 (.int .i64 c)] 104]) (fun _ => []) := by
  refine Exe.of_ev tok Tryz.call151 Tryz.func151 rfl rfl rfl ?_
  refine load_rule tok H (v := .iface 47 (.int .i64 c)) rfl ?_
  exact Exists.intro () (And.intro rfl (And.intro trivial H))
/-- A call of a method of an interface value by its contract. -/
theorem invoke_rule {P : Program} {K : Value → World → Prop} {w : World} {B : Base} {S : List Asn} {F : List Fact} (H : Hp B S F w) {g : Nat} {t : TypeId} {x r : Value} {m : String} {args : List Value} {α : Type} {V : α → Value} {φ : α → Prop} {A : α → List Asn} {G : α → List Fact} {A0 : List Asn} {G0 : List Fact} {S' : List Asn} {R : α → List Asn} {N : α → List Fact}
    (hm : (Go.method (P.types.size + Made.depth) t x m).run P w = .ok (g, r) w)
    (h : ∀ M I, (A0 = [] → ∀ b, ¬ M b) → Hp ⟨w, M, I⟩ A0 G0 w → Ctr P g (r :: args) w M I V φ A G) [hp : Pick S A0 S'] [hs : SubF F G0] [hr : ∀ a, AppL (A a) S' (R a)] [hn : ∀ a, AppL (G a) F (N a)]
    (k : ∀ a w', φ a → Hp B (R a) (N a) w' → K (V a) w') : InvokeK P K w (.iface t x) m args := by
  obtain ⟨M, I, h0, hmm, hk⟩ := (H.perm hp.perm).call (A := A0) (S := S') (G := G0) fun I ha => hs.all ha
  refine InvokeK_fn hm ((h M I hmm h0).mono ?_)
  rintro v w' ⟨a, rfl, hφ, hh⟩
  exact k a w' hφ (by rw [(hr a).eq, (hn a).eq]; exact hk _ _ _ hh)
set_option maxRecDepth 20000 in
set_option maxHeartbeats 1000000 in
theorem asInF (t v p : Nat) (a c : Int) (w : World) (M I : BS) (H : Hp ⟨w, M, I⟩ [blk t [.int .i64 0] 47, blk v [.pointer (some ⟨t, 0, none⟩)] 107, blk p [.int .u64 a, .iface 47 (.int .i64 c)] 104] [] w) :
    Ctr Tryz.prog 70 [.iface 102 (.pointer (some ⟨p, 0, none⟩)), .iface 107 (.pointer (some ⟨t, 0, none⟩)), .agg #[hdl 107, .pointer (some ⟨v, 0, none⟩), .int .u64 150], .iface 176 (.agg #[hdl 47])] w M I (fun _ : Unit => .bool true) (fun _ => True) (fun _ => [blk t [.int .i64 c] 47, blk p [.int .u64 a, .iface 47 (.int .i64 c)] 104]) (fun _ => []) := by
  refine Exe.of_ev tok Tryz.call70 Tryz.func70 rfl rfl rfl ?_
  refine box_as H [hdl 107, .pointer (some ⟨v, 0, none⟩), .int .u64 150] rfl fun x w1 H1 => ?_
  have H1 : Hp ⟨w, M, I⟩ [blk x [hdl 107, .pointer (some ⟨v, 0, none⟩), .int .u64 150] 145, blk t [.int .i64 0] 47, blk v [.pointer (some ⟨t, 0, none⟩)] 107, blk p [.int .u64 a, .iface 47 (.int .i64 c)] 104] [] w1 := H1
  refine loop_rule tok (σ := Bool) 4611686018427379457 (fun s => [(0, if s = true then .iface 47 (.int .i64 c) else .iface 102 (.pointer (some ⟨p, 0, none⟩)))]) (fun _ w' => Hp ⟨w, M, I⟩ [blk x [hdl 107, .pointer (some ⟨v, 0, none⟩), .int .u64 150] 145, blk t [.int .i64 0] 47, blk v [.pointer (some ⟨t, 0, none⟩)] 107, blk p [.int .u64 a, .iface 47 (.int .i64 c)] 104] [] w') (fun s => if s = true then 0 else 1) false rfl rfl ⟨rfl, trivial⟩ H1 ?_
  intro s
  cases s with
  | true =>
    intro j w2 H2
    refine CallK_ext Tryz.func93 (by kernel_rfl) (by kernel_rfl) (by kernel_rfl) (by kernel_rfl) (X.typeOfE (.int .i64 c) w2) ?_
    refine InvokeK_ext (X.mAssign (hdl 47) w2) Tryz.func156 (by kernel_rfl) (by kernel_rfl) (by kernel_rfl) (by kernel_rfl) (X.assignE w2) ?_
    refine load_rule tok H2 (v := .agg #[hdl 107, .pointer (some ⟨v, 0, none⟩), .int .u64 150]) rfl ?_
    have hv : w2.cell? ⟨v, 0, none⟩ = some (.pointer (some ⟨t, 0, none⟩)) := by
      obtain ⟨fa, ha⟩ := H2.own (A := blk v [.pointer (some ⟨t, 0, none⟩)] 107) (hp := ⟨TakeB.perm⟩)
      exact blk_cells ha 0 _ rfl
    refine CallK_ext Tryz.func94 (by kernel_rfl) (by kernel_rfl) (by kernel_rfl) (by kernel_rfl) (X.elemVP ⟨v, 0, none⟩ ⟨t, 0, none⟩ w2 hv) ?_
    refine CallK_ext (e := fun args => ReflectliteValue.unpack (args.getD 0 (.tuple #[]))) Tryz.func67 (by kernel_rfl) (by kernel_rfl) (by kernel_rfl) (by kernel_rfl) (X.valueOfE c w2) ?_
    have H3 : Hp ⟨w, M, I⟩ [blkO w2.heap.size (.cells #[.int .i64 c] 47), blk x [hdl 107, .pointer (some ⟨v, 0, none⟩), .int .u64 150] 145, blk t [.int .i64 0] 47, blk v [.pointer (some ⟨t, 0, none⟩)] 107, blk p [.int .u64 a, .iface 47 (.int .i64 c)] 104] [] (w2.alloc (.cells #[.int .i64 c] 47)) := H2.alloc _
    have hn : (w2.alloc (.cells #[.int .i64 c] 47)).cell? ⟨w2.heap.size, 0, none⟩ = some (.int .i64 c) := by simp
    obtain ⟨ft, ht⟩ := H3.own (A := blk t [.int .i64 0] 47) (hp := ⟨TakeB.perm⟩)
    refine CallK_ext Tryz.func95 (by kernel_rfl) (by kernel_rfl) (by kernel_rfl) (by kernel_rfl) (X.setE t w2.heap.size c _ (.int .i64 0) hn ht.2) ?_
    have H4 := Hp.setBlk H3 (S' := [blkO w2.heap.size (.cells #[.int .i64 c] 47), blk x [hdl 107, .pointer (some ⟨v, 0, none⟩), .int .u64 150] 145, blk v [.pointer (some ⟨t, 0, none⟩)] 107, blk p [.int .u64 a, .iface 47 (.int .i64 c)] 104]) (n := t) (o := .cells #[.int .i64 0] 47 (0, 0)) (o' := .cells #[.int .i64 c] 47 (0, 0))
    refine Exists.intro () (And.intro rfl (And.intro trivial ?_))
    exact Hp.keep H4
  | false =>
    intro j w2 H2
    refine CallK_ext Tryz.func93 (by kernel_rfl) (by kernel_rfl) (by kernel_rfl) (by kernel_rfl) (X.typeOfF (.pointer (some ⟨p, 0, none⟩)) w2) ?_
    refine InvokeK_ext (X.mAssign (hdl 102) w2) Tryz.func156 (by kernel_rfl) (by kernel_rfl) (by kernel_rfl) (by kernel_rfl) (X.assignFE w2) ?_
    refine AssertK.run (X.noAs _ _ _) ?_
    refine AssertK.run (X.hasUnwrap _ _ _) ?_
    refine invoke_rule H2 (X.mUnwrap ⟨p, 0, none⟩ w2) (fun M I _ h => unwrapF p a c _ M I h) fun _ w3 _ H3 => ?_
    refine Exists.intro true (And.intro ⟨rfl, trivial⟩ (And.intro (by decide) (Hp.keep H3)))
set_option maxHeartbeats 1000000 in
theorem asEF (t p : Nat) (a c : Int) (w : World) (M I : BS) (H : Hp ⟨w, M, I⟩ [blk t [.int .i64 0] 47, blk p [.int .u64 a, .iface 47 (.int .i64 c)] 104] [Glob 0 errTy] w) :
    Ctr Tryz.prog 39 [.iface 102 (.pointer (some ⟨p, 0, none⟩)), .iface 107 (.pointer (some ⟨t, 0, none⟩))] w M I (fun _ : Unit => .bool true) (fun _ => True) (fun _ => [blk t [.int .i64 c] 47, blk p [.int .u64 a, .iface 47 (.int .i64 c)] 104]) (fun _ => []) := by
  refine Exe.of_ev tok Tryz.call39 Tryz.func39 rfl rfl rfl ?_
  refine CallK_ext (e := fun args => ReflectliteValue.unpack (args.getD 0 (.tuple #[]))) Tryz.func67 (by kernel_rfl) (by kernel_rfl) (by kernel_rfl) (by kernel_rfl) (X.valueOfP ⟨t, 0, none⟩ w) ?_
  have H0 : Hp ⟨w, M, I⟩ [blkO w.heap.size (.cells #[.pointer (some ⟨t, 0, none⟩)] 107), blk t [.int .i64 0] 47, blk p [.int .u64 a, .iface 47 (.int .i64 c)] 104] [Glob 0 errTy] (w.alloc (.cells #[.pointer (some ⟨t, 0, none⟩)] 107)) := H.alloc _
  have H1 : Hp ⟨w, M, I⟩ [blk w.heap.size [.pointer (some ⟨t, 0, none⟩)] 107, blk t [.int .i64 0] 47, blk p [.int .u64 a, .iface 47 (.int .i64 c)] 104] [Glob 0 errTy] (w.alloc (.cells #[.pointer (some ⟨t, 0, none⟩)] 107)) := H0
  refine alloc_as tok H1 [.pointer none, .pointer none, .int .u64 0] rfl rfl rfl fun x w2 H2 => ?_
  refine store_as tok H2 [hdl 107, .pointer (some ⟨w.heap.size, 0, none⟩), .int .u64 150] rfl rfl rfl rfl rfl fun w3 H3 => ?_
  refine load_rule tok H3 (v := .agg #[hdl 107, .pointer (some ⟨w.heap.size, 0, none⟩), .int .u64 150]) rfl ?_
  refine CallK_ext Tryz.func68 (by kernel_rfl) (by kernel_rfl) (by kernel_rfl) (by kernel_rfl) (X.typeP ⟨w.heap.size, 0, none⟩ w3) ?_
  refine InvokeK_ext (X.mKind (hdl 107) w3) Tryz.func145 (by kernel_rfl) (by kernel_rfl) (by kernel_rfl) (by kernel_rfl) (X.kindP w3) ?_
  refine load_rule tok H3 (v := .agg #[hdl 107, .pointer (some ⟨w.heap.size, 0, none⟩), .int .u64 150]) rfl ?_
  have hv : w3.cell? ⟨w.heap.size, 0, none⟩ = some (.pointer (some ⟨t, 0, none⟩)) := by
    obtain ⟨fa, ha⟩ := H3.own (A := blk w.heap.size [.pointer (some ⟨t, 0, none⟩)] 107) (hp := ⟨TakeB.perm⟩)
    exact blk_cells ha 0 _ rfl
  refine CallK_ext Tryz.func69 (by kernel_rfl) (by kernel_rfl) (by kernel_rfl) (by kernel_rfl) (X.isNilP ⟨w.heap.size, 0, none⟩ ⟨t, 0, none⟩ w3 hv) ?_
  refine InvokeK_ext (X.mElem (hdl 107) w3) Tryz.func158 (by kernel_rfl) (by kernel_rfl) (by kernel_rfl) (by kernel_rfl) (X.elemP w3) ?_
  refine InvokeK_ext (X.mKind (hdl 47) w3) Tryz.func145 (by kernel_rfl) (by kernel_rfl) (by kernel_rfl) (by kernel_rfl) (X.kindE w3) ?_
  refine glob_rule tok H3 (g := 0) errTy rfl rfl ?_
  refine InvokeK_ext (X.mImpl (hdl 47) w3) Tryz.func159 (by kernel_rfl) (by kernel_rfl) (by kernel_rfl) (by kernel_rfl) (X.implE w3) ?_
  refine load_rule tok H3 (v := .agg #[hdl 107, .pointer (some ⟨w.heap.size, 0, none⟩), .int .u64 150]) rfl ?_
  refine call_rule H3 (fun M I _ h => asInF t w.heap.size p a c _ M I h) fun _ w4 _ H4 => ?_
  exact Exists.intro () (And.intro rfl (And.intro trivial (Hp.keep H4)))
theorem codeF (e : ErrF) (w : World) (M I : BS) (H : Hp ⟨w, M, I⟩ [errFA e] [Glob 0 errTy] w) :
    Ctr Tryz.prog 13 [errFV e] w M I (fun _ : Unit => .int .i64 (codeOfF e)) (fun _ => True) (fun _ => [errFA e]) (fun _ => []) := by
  cases e with
  | none =>
    refine Exe.of_ev tok Tryz.call13 Tryz.func13 rfl rfl rfl ?_
    exact Exists.intro () (And.intro rfl (And.intro trivial (Hp.keep H)))
  | code c =>
    refine Exe.of_ev tok Tryz.call13 Tryz.func13 rfl rfl rfl ?_
    refine alloc_as tok H [.int .i64 0] rfl rfl rfl fun t w1 H1 => ?_
    refine call_rule H1 (fun M I _ h => asE t c _ M I h) fun _ w2 _ H2 => ?_
    refine load_rule tok H2 (v := .int .i64 c) rfl ?_
    exact Exists.intro () (And.intro rfl (And.intro trivial (Hp.keep H2)))
  | fault p a c =>
    have H : Hp ⟨w, M, I⟩ [blk p [.int .u64 a, .iface 47 (.int .i64 c)] 104] [Glob 0 errTy] w := H
    refine Exe.of_ev tok Tryz.call13 Tryz.func13 rfl rfl rfl ?_
    refine alloc_as tok H [.int .i64 0] rfl rfl rfl fun t w1 H1 => ?_
    refine call_rule H1 (fun M I _ h => asEF t p a c _ M I h) fun _ w2 _ H2 => ?_
    refine load_rule tok H2 (v := .int .i64 c) rfl ?_
    have H3 : Hp ⟨w, M, I⟩ [blk p [.int .u64 a, .iface 47 (.int .i64 c)] 104] [] w2 := Hp.keep H2
    exact Exists.intro () (And.intro rfl (And.intro trivial H3))
end Go.Proofs.YtfemfomgmopibaaGreatDoor
