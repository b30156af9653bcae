/- errors.Is at a number's error; an amount is read of words: the walks. -/
import Derived.Test.YtgbmambkgcjhfaaGreatDoorE2
import Derived.LaidEql
set_option linter.unusedVariables false
namespace Go.Proofs.YtgbmambkgcjhfaaGreatDoor
open Go Go.Proofs Go.Wk Go.RowKit Go.Extern Go.Pl
theorem typeOfS (v : Value) (w : World) : (ReflectliteType.typeOf #[.iface 276 v]).run Tryz.prog w = .ok (.iface 233 (.agg #[hdl 276])) w := by kernel_rfl
theorem mComp (h : Value) (w : World) : (Go.method (Tryz.prog.types.size + Made.depth) 233 (.agg #[h]) "Comparable").run Tryz.prog w = .ok (230, .agg #[h]) w := by kernel_rfl
theorem compS (w : World) : (ReflectliteType.method (fun t => do Rtype.noPackHeld "Comparable" t; pure (.bool (← typeInfo t).comparable)) #[.agg #[hdl 276]]).run Tryz.prog w = .ok (.bool true) w := by kernel_rfl
theorem mUnwrap (v : Value) (w : World) : (Go.method (Tryz.prog.types.size + Made.depth) 226 v "Unwrap").run Tryz.prog w = .ok (227, v) w := by kernel_rfl


theorem unwrapNE (N : Nat) (a b : ByteArray) (p : Option Addr) (w : World) (M I : BS) (H : Hp ⟨w, M, I⟩ [blk N (neC a b p) 262] [] w) :
    Ctr Tryz.prog 227 [.pointer (some ⟨N, 0, none⟩)] w M I (fun _ : Unit => .iface 276 (.pointer p)) (fun _ => True) (fun _ => [blk N (neC a b p) 262]) (fun _ => []) := by
  refine Exe.of_ev tok Tryz.call227 Tryz.func227 rfl rfl rfl ?_
  refine load_rule tok H (v := .iface 276 (.pointer p)) rfl ?_
  exact Exists.intro () (And.intro rfl (And.intro trivial (Hp.keep H)))
theorem noIsN (v : Value) (xT : TypeId) (w : World) : (Instr.typeAssert (.iface 226 v) xT 264 true).run Tryz.prog w = .ok (.tuple #[.nilIface, .bool false]) w := Go.run_typeAssert_lacksB Tryz.underlying264 (by kernel_rfl) (by kernel_rfl) v xT w
theorem hasUnN (v : Value) (xT : TypeId) (w : World) : (Instr.typeAssert (.iface 226 v) xT 240 true).run Tryz.prog w = .ok (.tuple #[.iface 226 v, .bool true]) w := Go.run_typeAssert_hasB Tryz.underlying240 (by kernel_rfl) v xT w
theorem noIsS (v : Value) (xT : TypeId) (w : World) : (Instr.typeAssert (.iface 276 v) xT 264 true).run Tryz.prog w = .ok (.tuple #[.nilIface, .bool false]) w := Go.run_typeAssert_lacksB Tryz.underlying264 (by kernel_rfl) (by kernel_rfl) v xT w
theorem noUnS (v : Value) (xT : TypeId) (w : World) : (Instr.typeAssert (.iface 276 v) xT 240 true).run Tryz.prog w = .ok (.tuple #[.nilIface, .bool false]) w := Go.run_typeAssert_lacksB Tryz.underlying240 (by kernel_rfl) (by kernel_rfl) v xT w
theorem noUnsS (v : Value) (xT : TypeId) (w : World) : (Instr.typeAssert (.iface 276 v) xT 241 true).run Tryz.prog w = .ok (.tuple #[.nilIface, .bool false]) w := Go.run_typeAssert_lacksB Tryz.underlying241 (by kernel_rfl) (by kernel_rfl) v xT w
/-- A call of a method of an interface value by its contract. -/
theorem invoke_rule {P : Program} {K : Value → World → Prop} {w : World} {B : Base} {S : List Asn} {F : List Fact} (H : Hp B S F w) {g : Nat} {t : TypeId} {x r : Value} {m : String} {args : List Value} {α : Type} {V : α → Value} {φ : α → Prop} {A : α → List Asn} {G : α → List Fact} {A0 : List Asn} {G0 : List Fact} {S' : List Asn} {R : α → List Asn} {N : α → List Fact}
    (hm : (Go.method (P.types.size + Made.depth) t x m).run P w = .ok (g, r) w)
    (h : ∀ M I, (A0 = [] → ∀ b, ¬ M b) → Hp ⟨w, M, I⟩ A0 G0 w → Ctr P g (r :: args) w M I V φ A G) [hp : Pick S A0 S'] [hs : SubF F G0] [hr : ∀ a, AppL (A a) S' (R a)] [hn : ∀ a, AppL (G a) F (N a)]
    (k : ∀ a w', φ a → Hp B (R a) (N a) w' → K (V a) w') : InvokeK P K w (.iface t x) m args := by
  obtain ⟨M, I, h0, hmm, hk⟩ := (H.perm hp.perm).call (A := A0) (S := S') (G := G0) fun I ha => hs.all ha
  refine InvokeK_fn hm ((h M I hmm h0).mono ?_)
  rintro v w' ⟨a, rfl, hφ, hh⟩
  exact k a w' hφ (by rw [(hr a).eq, (hn a).eq]; exact hk _ _ _ hh)
theorem eqNS (u v : Option Addr) (o1 o2 : Operand) (w : World) : (binS .eql 51 o1 o2 (.iface 226 (.pointer u)) (.iface 276 (.pointer v))).run Tryz.prog w = .ok (.bool false) w := by kernel_rfl
theorem eqSS0 (o1 o2 : Operand) (w : World) : (binS .eql 51 o1 o2 (.iface 276 (.pointer none)) (.iface 276 (.pointer none))).run Tryz.prog w = .ok (.bool true) w := by kernel_rfl
theorem eqSS1 (a : Addr) (o1 o2 : Operand) (w : World) : (binS .eql 51 o1 o2 (.iface 276 (.pointer (some a))) (.iface 276 (.pointer (some a)))).run Tryz.prog w = .ok (.bool true) w := by
  have h2 : (binS .eql 51 o1 o2 (.iface 276 (.pointer (some a))) (.iface 276 (.pointer (some a)))).run Tryz.prog w = (binOp .eql 51 (.iface 276 (.pointer (some a))) (.iface 276 (.pointer (some a)))).run Tryz.prog w := rfl
  rw [h2]
  exact run_eql_iface_ptr_same w a (tok 51 _ rfl).1 (tok 276 _ rfl).1 (tok 276 _ rfl).2 rfl (tok 278 _ rfl).2
theorem eqSS (p : Option Addr) (o1 o2 : Operand) (w : World) : (binS .eql 51 o1 o2 (.iface 276 (.pointer p)) (.iface 276 (.pointer p))).run Tryz.prog w = .ok (.bool true) w := by
  cases p with
  | none => exact eqSS0 o1 o2 w
  | some a => exact eqSS1 a o1 o2 w
set_option maxHeartbeats 1000000 in
theorem errIs_ (N : Nat) (a b : ByteArray) (p : Option Addr) (w : World) (M I : BS) (H : Hp ⟨w, M, I⟩ [blk N (neC a b p) 262] [] w) :
    Ctr Tryz.prog 158 [.iface 226 (.pointer (some ⟨N, 0, none⟩)), .iface 276 (.pointer p), .bool true] w M I (fun _ : Unit => .bool true) (fun _ => True) (fun _ => []) (fun _ => []) := by
  refine Exe.of_ev tok Tryz.call158 Tryz.func158 rfl rfl rfl ?_
  refine loop_rule tok (σ := Bool) 18014398509479873 (fun s => [(0, if s = true then .iface 276 (.pointer p) else .iface 226 (.pointer (some ⟨N, 0, none⟩)))]) (fun s w' => Hp ⟨w, M, I⟩ [blk N (neC a b p) 262] [] w') (fun s => if s = true then 0 else 1) false rfl rfl ⟨rfl, trivial⟩ H ?_
  intro s
  cases s with
  | true =>
    intro j w2 H2
    refine BinK.of (eqSS p _ _ w2) ?_
    exact Exists.intro () (And.intro rfl (And.intro trivial (Hp.keep H2)))
  | false =>
    intro j w2 H2
    refine BinK.of (eqNS _ p _ _ w2) ?_
    refine AssertK.run (noIsN _ _ _) ?_
    refine AssertK.run (hasUnN _ _ _) ?_
    refine invoke_rule H2 (mUnwrap _ w2) (fun M I _ h => unwrapNE N a b p _ M I h) fun _ w3 _ H3 => ?_
    exact Exists.intro true (And.intro ⟨rfl, trivial⟩ (And.intro (by decide) (Hp.keep H3)))
theorem errIs (N : Nat) (a b : ByteArray) (p : Option Addr) (w : World) (M I : BS) (H : Hp ⟨w, M, I⟩ [blk N (neC a b p) 262] [] w) :
    Ctr Tryz.prog 108 [.iface 226 (.pointer (some ⟨N, 0, none⟩)), .iface 276 (.pointer p)] w M I (fun _ : Unit => .bool true) (fun _ => True) (fun _ => []) (fun _ => []) := by
  refine Exe.of_ev tok Tryz.call108 Tryz.func108 rfl rfl rfl ?_
  refine CallK_ext Tryz.func157 (by kernel_rfl) (by kernel_rfl) (by kernel_rfl) (by kernel_rfl) (typeOfS (.pointer p) w) ?_
  refine InvokeK_ext (mComp (hdl 276) w) Tryz.func230 (by kernel_rfl) (by kernel_rfl) (by kernel_rfl) (by kernel_rfl) (compS w) ?_
  refine call_rule H (fun M I _ h => errIs_ N a b p _ M I h) fun _ w1 _ H1 => ?_
  exact Exists.intro () (And.intro rfl (And.intro trivial (Hp.keep H1)))
theorem errIsNil (p : Option Addr) : CB 108 [.nilIface, .iface 276 (.pointer p)] (.bool false) := by
  intro w M I H
  refine Exe.of_ev tok Tryz.call108 Tryz.func108 rfl rfl rfl ?_
  refine BinK.of (v := .bool false) (w' := w) (by kernel_rfl) ?_
  exact Exists.intro () (And.intro rfl (And.intro trivial (Hp.keep H)))
end Go.Proofs.YtgbmambkgcjhfaaGreatDoor
