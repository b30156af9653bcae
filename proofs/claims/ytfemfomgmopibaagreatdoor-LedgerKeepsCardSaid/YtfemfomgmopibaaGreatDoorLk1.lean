/- The core of a small prover for functions of the model: an environment of slots, an evaluator whose goals unfold by themselves, and its soundness. -/
import Derived.Calls
import Derived.Orders
import Derived.Laws.Sem
import Derived.Laws.Cells
import Derived.Laws.World
import Derived.WideLaws
import Derived.Deep.LoopGhost
import Derived.OrdersIn
import Derived.ControlIn
set_option linter.unusedVariables false
set_option linter.unusedSimpArgs false
namespace Go.Wk
/-- The wide fence, of an activation or of a round of loop r. -/
abbrev WF (r : Option Nat) : Fence := { Fence.wide with round := r }
theorem callsWF {P : Program} {r : Option Nat} {n : Nat} {f : FuncId} {args : Array Value} {w : World} {R : Ending → World → Prop} (h : Calls P f args w R) : CallsIn (WF r) n P f args w R := (callsIn_wide (n := n)).2 h
theorem wpIn_loop_ghost {F : Fence} {m : Nat} {P : Program} {Q : Exit → Act → World → Prop} {a : Act} {w : World} {c : Code} (I : Nat → Act → World → Prop) (n₀ : Nat) (h₀ : I n₀ a w)
    (round : ∀ n a w, I n a w → c.wpIn F m P (Exit.then (fun a' w' => ∃ n', n' < n ∧ I n' a' w') Q) a w) : (Code.loop c).wpIn F m P Q a w := by
  refine wpIn_loop (fun a w => ∃ n, I n a w) (fun a w => leastOf (fun n => I n a w)) ⟨n₀, h₀⟩ ?_
  intro a w hI
  refine wpIn_mono (round _ a w (leastOf_spec hI).1) ?_
  intro e a' w' hq
  cases e with
  | normal =>
    obtain ⟨n', hlt, hI'⟩ := hq
    exact show (∃ n, I n a' w') ∧ leastOf (fun n => I n a' w') < leastOf (fun n => I n a w) from ⟨⟨n', hI'⟩, Nat.lt_of_le_of_lt ((leastOf_spec ⟨n', hI'⟩).2 n' hI') hlt⟩
  | exit id => exact hq
  | goto l => exact hq
  | ret => exact hq
  | panic ch => exact hq
  | outgrown => exact hq

/-! ### 1. Environments and tables -/
abbrev Env := Nat → Value
def upd (e : Env) (d : Nat) (v : Value) : Env := fun t => bif Nat.beq t d then v else e t
def put (e : Env) (d : Option Nat) (v : Value) : Env := match d with
  | some d => upd e d v
  | none => e
def val (e : Env) : Operand → Value
  | .tmp t => e t
  | .const v => v
  | .global g => .pointer (some ⟨g, 0, none⟩)
  | .func f => .func (.func f) #[] #[]
structure TD where
  desc : TypeDesc
  info : TypeInfo
abbrev Tab := Nat → Option TD
def Tab.Ok (T : Tab) (P : Program) : Prop := ∀ t d, T t = some d → P.underlying t = some d.desc ∧ P.info? t = some d.info
inductive TT where
  | leaf
  | node (l : TT) (k : Nat) (d : TD) (r : TT)
def TT.get : TT → Tab
  | .leaf, _ => none
  | .node l k d r, t => bif Nat.beq t k then some d else bif Nat.ble t k then l.get t else r.get t
def TT.Ok (P : Program) : TT → Prop
  | .leaf => True
  | .node l k d r => (P.underlying k = some d.desc ∧ P.info? k = some d.info) ∧ l.Ok P ∧ r.Ok P
theorem TT.ok {P : Program} : ∀ {t : TT}, t.Ok P → Tab.Ok t.get P
  | .leaf, _ => fun _ _ h => by cases h
  | .node l k d r, ⟨h, hl, hr⟩ => fun t d' hd => by
    simp only [TT.get] at hd
    cases hk : Nat.beq t k with
    | true =>
      rw [hk] at hd
      simp only [cond_true, Option.some.injEq] at hd
      rw [Nat.eq_of_beq_eq_true hk, ← hd]; exact h
    | false =>
      rw [hk] at hd
      simp only [cond_false] at hd
      cases hb : Nat.ble t k with
      | true => rw [hb] at hd; exact TT.ok hl _ _ hd
      | false => rw [hb] at hd; exact TT.ok hr _ _ hd

/-! ### 2. Operations that only compute -/
def kEq : IntKind → IntKind → Bool
  | .i8, .i8 | .i16, .i16 | .i32, .i32 | .i64, .i64 | .u8, .u8 | .u16, .u16 | .u32, .u32 | .u64, .u64 => true
  | _, _ => false
theorem kEq_eq {a b : IntKind} (h : kEq a b = true) : a = b := by cases a <;> cases b <;> first | rfl | cases h
def isC : Operand → Bool
  | .const _ => true
  | _ => false
/-- What '==' gives at once. -/
def eqV (d : Option TD) (cst : Bool) (x y : Value) : Option Bool :=
  match x, y with
  | .bool a, .bool b => match d with
    | some ⟨.bool, _⟩ => some (a == b)
    | _ => none
  | .pointer a, .pointer none => match d with
    | some ⟨.pointer _, _⟩ => some a.isNone
    | _ => none
  | .nilIface, .nilIface => match cst, d with
    | true, some ⟨.interface _, _⟩ => some true
    | _, _ => none
  | .iface _ _, .nilIface => match d with
    | some ⟨.interface _, _⟩ => some false
    | _ => none
  | .slice a _ _, .slice none _ _ => match d with
    | some ⟨.slice _, _⟩ => some a.isNone
    | _ => none
  | .map a, .map none => match d with
    | some ⟨.map _ _, _⟩ => some a.isNone
    | _ => none
  | _, _ => none
def strV (op : BinOp) (a b : ByteArray) : Option Value :=
  match op with
  | .eql => some (.bool (a.toList == b.toList))
  | .neq => some (.bool !(a.toList == b.toList))
  | _ => none
def intV (op : BinOp) (k : IntKind) (a b : Int) : Option Value :=
  match op with
  | .add => some (.int k (k.wrap (a + b)))
  | .sub => some (.int k (k.wrap (a - b)))
  | .mul => some (.int k (k.wrap (a * b)))
  | .eql => some (.bool (a == b))
  | .neq => some (.bool (a != b))
  | .lss => some (.bool (decide (a < b)))
  | .leq => some (.bool (decide (a ≤ b)))
  | .gtr => some (.bool (decide (b < a)))
  | .geq => some (.bool (decide (b ≤ a)))
  | _ => none
def binV (d : Option TD) (cst : Bool) (op : BinOp) (x y : Value) : Option Value :=
  match x, y with
  | .int k a, .int k' b => bif kEq k k' then intV op k a b else none
  | .string a, .string b => strV op a b
  | x, y => match op with
    | .eql => (eqV d cst x y).map .bool
    | .neq => (eqV d cst x y).map fun b => .bool !b
    | _ => none
def unV (op : UnOp) (x : Value) : Option Value :=
  match op, x with
  | .neg, .int k n => some (.int k (k.wrap (0 - n)))
  | .not, .bool b => some (.bool !b)
  | _, _ => none
def isAggD : TypeDesc → Bool
  | .struct _ | .array _ _ => true
  | _ => false
def partV (d : Option TD) (cs : Array Value) (off : Nat) : Option Value :=
  match d with
  | some d => bif isAggD d.desc then some (.agg (cs.extract off (off + d.info.size))) else cs[off]?
  | none => none
def placesV (T : Tab) : List Field → Option (List (Nat × Nat))
  | [] => some []
  | f :: r => match T f.type, placesV T r with
    | some d, some l => some ((f.offset, d.info.size) :: l)
    | _, _ => none
def overL : List Value → List Value → List Value
  | [], cs => cs
  | v :: vs, _ :: cs => v :: overL vs cs
  | _ :: _, [] => []
/-- Values written from a place on. -/
def spliceL (vs : List Value) : Nat → List Value → List Value
  | 0, cs => overL vs cs
  | o + 1, c :: cs => c :: spliceL vs o cs
  | _ + 1, [] => []
def nthP : List (Nat × Nat) → Nat → Option (Nat × Nat)
  | [], _ => none
  | p :: _, 0 => some p
  | _ :: r, i + 1 => nthP r i
def fillL (pl : List (Nat × Nat)) : List (Nat × Value) → List Value → Option (List Value)
  | [], cs => some cs
  | (i, v) :: r, cs => match nthP pl i with
    | none => none
    | some (o, s) => bif Nat.beq v.cells.toList.length s && Nat.ble (o + v.cells.toList.length) cs.length then fillL pl r (spliceL v.cells.toList o cs) else none
theorem splice_cons (v : Value) (vs : List Value) : ∀ (o : Nat) (cs : List Value), o < cs.length → spliceL (v :: vs) o cs = spliceL vs (o + 1) (cs.set o v)
  | 0, c :: cs, _ => rfl
  | o + 1, c :: cs, h => by
    simp only [spliceL, List.set_cons_succ]
    rw [splice_cons v vs o cs (by simpa using h)]
  | _, [], h => by simp at h
theorem splice_nil : ∀ (o : Nat) (cs : List Value), spliceL [] o cs = cs
  | 0, _ => rfl
  | o + 1, c :: cs => by simp [spliceL, splice_nil o cs]
  | _ + 1, [] => rfl
theorem fold_splice (off : Nat) : ∀ (vs : List Value) (k : Nat) (cs : List Value), off + k + vs.length ≤ cs.length → (vs.zipIdx k).foldl (fun (cs : Array Value) (c, j) => cs.setIfInBounds (off + j) c) cs.toArray = (spliceL vs (off + k) cs).toArray
  | [], k, cs, _ => by simp [splice_nil]
  | v :: vs, k, cs, h => by
    simp only [List.length_cons] at h
    rw [List.zipIdx_cons, List.foldl_cons, splice_cons v vs _ _ (by omega)]
    have := fold_splice off vs (k + 1) (cs.set (off + k) v) (by simp; omega)
    rw [← Nat.add_assoc] at this
    rw [← this]
    simp
theorem fill_sound {pl : List (Nat × Nat)} : ∀ {parts : List (Nat × Value)} {cs cs' : List Value}, fillL pl parts cs = some cs' → Instr.fill (pl[·]?) cs.toArray parts = some cs'.toArray
  | [], cs, cs', h => by simp only [fillL, Option.some.injEq] at h; subst h; rfl
  | (i, v) :: r, cs, cs', h => by
    have hn : ∀ (l : List (Nat × Nat)) (i : Nat), nthP l i = l[i]? := by
      intro l
      induction l with
      | nil => intro i; rfl
      | cons p l ih => intro i; cases i with
        | zero => rfl
        | succ i => simpa [nthP] using ih i
    unfold fillL at h
    rw [hn] at h
    unfold Instr.fill
    cases hp : pl[i]? with
    | none => rw [hp] at h; cases h
    | some q =>
      obtain ⟨o, s⟩ := q
      rw [hp] at h
      simp only at h ⊢
      cases hb : Nat.beq v.cells.toList.length s && Nat.ble (o + v.cells.toList.length) cs.length with
      | false => rw [hb] at h; cases h
      | true =>
        rw [hb] at h
        simp only [cond_true] at h
        simp only [Bool.and_eq_true] at hb
        have h1 := Nat.eq_of_beq_eq_true hb.1
        have h2 := Nat.le_of_ble_eq_true hb.2
        have h1' : v.cells.size = s := by simpa using h1
        have h2' : o + v.cells.size ≤ cs.length := by simpa using h2
        rw [if_neg (by simp [h1']; omega)]
        have h3 := fold_splice o v.cells.toList 0 cs (by simpa using h2)
        have h4 : v.cells.zipIdx.foldl (fun (cs : Array Value) (c, j) => cs.setIfInBounds (o + j) c) cs.toArray = (spliceL v.cells.toList o cs).toArray := by
          rw [Nat.add_zero] at h3
          rw [← h3, ← Array.foldl_toList]
          simp
        rw [h4]
        exact fill_sound h
def buildV (T : Tab) (d : Option TD) (parts : List (Nat × Value)) : Option Value :=
  match d with
  | some ⟨.struct fs, i⟩ => match i.zero, placesV T fs.toList with
    | some z, some pl => match fillL pl parts z.cells.toList with
      | some cs => some (.agg cs.toArray)
      | none => none
    | _, _ => none
  | _ => none
def lenV (d : Option TD) (x : Value) : Option Value :=
  match d, x with
  | some ⟨.string, _⟩, .string s => some (.int .i64 s.size)
  | some ⟨.slice _, _⟩, .slice _ n _ => some (.int .i64 n)
  | some ⟨.map _ _, _⟩, .map none => some (.int .i64 0)
  | _, _ => none
def capV (d : Option TD) (x : Value) : Option Value :=
  match d, x with
  | some ⟨.slice _, _⟩, .slice _ _ c => some (.int .i64 c)
  | _, _ => none
def pureOp (T : Tab) (ρ : Operand → Value) : Op → Option Value
  | .move x | .assign x => some (ρ x)
  | .pick c a b => match ρ c with
    | .bool t => some (cond t (ρ a) (ρ b))
    | _ => none
  | .binOp op t x y _ => binV (T t) (isC x || isC y) op (ρ x) (ρ y)
  | .unOp op _ x => unV op (ρ x)
  | .convert src dst x => match T src, T dst, ρ x with
    | some _, some ⟨.int k, _⟩, .int _ n => some (.int k (k.wrap n))
    | _, _, _ => none
  | .makeInterface t x => match T t with
    | some ⟨.interface _, _⟩ => none
    | some _ => some (.iface t (ρ x))
    | none => none
  | .makeFunc fn first cap => some (.func fn (first.map ρ) (cap.map ρ))
  | .field t x i => match T t, ρ x with
    | some ⟨.struct fs, _⟩, .agg cs => match fs.toList[i]? with
      | some f => partV (T f.type) cs f.offset
      | none => none
    | _, _ => none
  | .fieldAddr t x i => match T t, ρ x with
    | some ⟨.struct fs, _⟩, .pointer (some ⟨b, o, none⟩) => match fs.toList[i]? with
      | some f => match T f.type with
        | some d => bif Nat.beq d.info.size 0 then none else some (.pointer (some ⟨b, o + f.offset, none⟩))
        | none => none
      | none => none
    | _, _ => none
  | .nilCheck x => match ρ x with
    | .pointer (some a) => some (.pointer (some a))
    | .iface t v => some (.iface t v)
    | _ => none
  | .extract t i => match ρ t with
    | .tuple vs => vs[i]?
    | _ => none
  | .build t parts => buildV T (T t) (parts.toList.map fun p => (p.1, ρ p.2))
  | .call { callee := .builtin .len, args := ⟨[x]⟩, argTypes := ⟨[t]⟩ } => lenV (T t) (ρ x)
  | .call { callee := .builtin .cap, args := ⟨[x]⟩, argTypes := ⟨[t]⟩ } => capV (T t) (ρ x)
  | .call { callee := .builtin .min, args := ⟨[x, y]⟩, .. } => match ρ x, ρ y with
    | .int k a, .int _ b => some (.int k (if b < a then b else a))
    | _, _ => none
  | .call { callee := .builtin .max, args := ⟨[x, y]⟩, .. } => match ρ x, ρ y with
    | .int k a, .int _ b => some (.int k (if a < b then b else a))
    | _, _ => none
  | _ => none

theorem run_und {P : Program} {T : Tab} (hT : T.Ok P) {t : TypeId} {d : TD} (h : T t = some d) (w : World) : (underlying t).run P w = .ok d.desc w := run_underlying (w := w) (hT t d h).1

section
variable {P : Program} {T : Tab} (hT : T.Ok P)
include hT
theorem run_info {t : TypeId} {d : TD} (h : T t = some d) (w : World) : (typeInfo t).run P w = .ok d.info w := by
  simp [typeInfo, (hT t d h).2]
theorem run_szOf {t : TypeId} {d : TD} (h : T t = some d) (w : World) : (sizeOf t).run P w = .ok d.info.size w := by
  simp [sizeOf, run_info hT h]
theorem run_agg {t : TypeId} {d : TD} (h : T t = some d) (w : World) : (isAgg t).run P w = .ok (isAggD d.desc) w := by
  simp only [isAgg, Sem.run_bind, run_und hT h, Result.andThen_ok]
  cases d.desc <;> rfl
theorem run_part {t : TypeId} {cs : Array Value} {off : Nat} {v : Value} (h : partV (T t) cs off = some v) (w : World) : (part t cs off).run P w = .ok v w := by
  cases ht : T t with
  | none => rw [ht] at h; cases h
  | some d =>
    rw [ht] at h
    simp only [partV] at h
    simp only [part, Sem.run_bind, run_agg hT ht, Result.andThen_ok]
    cases hd : isAggD d.desc with
    | true =>
      rw [hd] at h
      simp only [cond_true, Option.some.injEq] at h
      simp [run_szOf hT ht, h]
    | false =>
      rw [hd] at h
      simp only [cond_false] at h
      simp [h]
theorem run_places : ∀ (fs : List Field) (l : List (Nat × Nat)), placesV T fs = some l → ∀ w, (fs.mapM (m := Sem) fun f => do pure (f.offset, ← sizeOf f.type)).run P w = .ok l w
  | [], l, h, w => by
    simp only [placesV, Option.some.injEq] at h
    subst h
    simp
  | f :: r, l, h, w => by
    simp only [placesV] at h
    split at h
    · rename_i d l' hd hl
      simp only [Option.some.injEq] at h
      subst h
      have ih := run_places r l' hl w
      simp only [List.mapM_cons, Sem.run_bind, run_szOf hT hd, Result.andThen_ok, Sem.run_pure, ih]
    · cases h
theorem run_buildV {t : TypeId} {parts : List (Nat × Value)} {v : Value} (h : buildV T (T t) parts = some v) (w : World) : (Instr.build t parts.toArray).run P w = .ok v w := by
  cases ht : T t with
  | none => rw [ht] at h; cases h
  | some d =>
    rw [ht] at h
    obtain ⟨ds, i⟩ := d
    unfold buildV at h
    split at h
    · rename_i fs i' he
      simp only [Option.some.injEq, TD.mk.injEq] at he
      obtain ⟨rfl, rfl⟩ := he
      split at h
      · rename_i z pl hz hpl
        obtain ⟨cs, hcs, rfl⟩ : ∃ cs, fillL pl parts z.cells.toList = some cs ∧ v = .agg cs.toArray := by
          cases hq : fillL pl parts z.cells.toList with
          | none => rw [hq] at h; cases h
          | some cs => rw [hq] at h; exact ⟨cs, rfl, (Option.some.inj h).symm⟩
        have hf := fill_sound hcs
        have hzz : z.cells.toList.toArray = z.cells := by simp
        rw [hzz] at hf
        have h1 := run_und hT ht w
        have h2 := run_places hT fs.toList pl hpl w
        simp only [Instr.build, zeroValue, Sem.run_bind, run_info hT ht, Result.andThen_ok, hz, Sem.run_pure, h1]
        rw [← Array.toList_mapM] at h2
        have h3 : (fs.mapM (m := Sem) fun f => do pure (f.offset, ← sizeOf f.type)).run P w = .ok pl.toArray w := by
          rw [Sem.run_map] at h2
          cases hq : (fs.mapM (m := Sem) fun f => do pure (f.offset, ← sizeOf f.type)).run P w with
          | ok a w' =>
            rw [hq] at h2
            simp only [Result.andThen_ok, Result.ok.injEq] at h2
            obtain ⟨e1, e2⟩ := h2
            subst e2
            rw [← e1]
          | halt x w' => rw [hq] at h2; simp at h2
        rw [h3]
        simp only [Result.andThen_ok]
        have h4 : (fun (x : Nat) => pl.toArray[x]?) = (fun (x : Nat) => pl[x]?) := by funext x; simp
        rw [h4, hf]
        rfl
      · cases h
    · cases h
theorem eqIn_sound {d : Nat} {t : TypeId} {c : Bool} {u v : Value} {r : Bool} (h : eqV (T t) c u v = some r) (w : World) : (Op.equalIn (d + 1) t u v).run P w = .ok r w := by
  cases ht : T t with
  | none => rw [ht] at h; unfold eqV at h; split at h <;> first | (cases h; done) | (split at h <;> first | (cases h; done) | (simp_all; done))
  | some dd =>
    rw [ht] at h
    have hu := run_und hT ht w
    obtain ⟨ds, i⟩ := dd
    unfold Op.equalIn
    rw [Sem.run_bind, hu]
    simp only [Result.andThen_ok]
    unfold eqV at h
    split at h
    · split at h
      · rename_i heq
        simp only [Option.some.injEq, TD.mk.injEq] at h heq
        obtain ⟨rfl, _⟩ := heq
        simp [h]
      · cases h
    · rename_i p
      split at h
      · rename_i heq
        simp only [Option.some.injEq, TD.mk.injEq] at h heq
        obtain ⟨rfl, _⟩ := heq
        subst h
        cases p <;> rfl
      · cases h
    · split at h
      · rename_i heq
        simp only [Option.some.injEq, TD.mk.injEq] at h heq
        obtain ⟨rfl, _⟩ := heq
        subst h
        rfl
      · cases h
    · split at h
      · rename_i heq
        simp only [Option.some.injEq, TD.mk.injEq] at h heq
        obtain ⟨rfl, _⟩ := heq
        subst h
        rfl
      · cases h
    · rename_i p _ _ _ _
      split at h
      · rename_i heq
        simp only [Option.some.injEq, TD.mk.injEq] at h heq
        obtain ⟨rfl, _⟩ := heq
        subst h
        cases p <;> rfl
      · cases h
    · rename_i p
      split at h
      · rename_i heq
        simp only [Option.some.injEq, TD.mk.injEq] at h heq
        obtain ⟨rfl, _⟩ := heq
        subst h
        cases p <;> rfl
      · cases h
    · cases h
omit hT in
theorem eqG_sound {op : BinOp} {t : TypeId} {x y : Operand} {a b : Value} {r : Bool} (h : eqV (T t) (isC x || isC y) a b = some r) : eqGuard op t x y a b = pure () := by
  have hc : ∀ o : Operand, isC o = (match o with | .const _ => true | _ => false) := fun o => by cases o <;> rfl
  unfold eqV at h
  split at h
  · exact eqGuard_at_bool ..
  · exact eqGuard_at_pointer ..
  · split at h
    · rename_i hcc hd
      unfold eqGuard
      rw [hc, hc, Bool.or_eq_true] at hcc
      cases op <;> first | rfl | skip
      all_goals
        simp only [reduceCtorEq, decide_false, Bool.false_eq_true, Bool.not_true, Bool.not_false, if_false, hcc, pure_bind]
        cases x <;> cases y <;> simp_all
    · cases h
  · cases op <;> rfl
  · exact eqGuard_at_slice ..
  · cases op <;> rfl
  · cases h
theorem bin_sound {op : BinOp} {t : TypeId} {x y : Operand} {a b v : Value} (h : binV (T t) (isC x || isC y) op a b = some v) (w : World) :
    (eqGuard op t x y a b).run P w = .ok () w ∧ (binOp op t a b).run P w = .ok v w := by
  unfold binV at h
  split at h
  · rename_i k a k' b
    cases hk : kEq k k' with
    | false => rw [hk] at h; cases h
    | true =>
      rw [hk] at h
      obtain rfl := kEq_eq hk
      simp only [cond_true] at h
      refine ⟨by rw [eqGuard_at_int]; rfl, ?_⟩
      cases op <;> simp only [intV, Option.some.injEq] at h <;> first | cases h | skip
      all_goals simp [binOp, Op.intArith, Op.intCmp, GT.gt, GE.ge]
  · rename_i a b
    refine ⟨by rw [eqGuard_at_string]; rfl, ?_⟩
    cases op <;> simp only [strV, Option.some.injEq] at h <;> first | cases h | skip
    all_goals simp [binOp, Op.stringOp]
  · rename_i x' y' h1 h2
    split at h
    · obtain ⟨r, hr, rfl⟩ := Option.map_eq_some_iff.1 h
      have he : (Op.equal t a b).run P w = .ok r w := eqIn_sound hT hr w
      refine ⟨by rw [eqG_sound hr]; rfl, ?_⟩
      unfold eqV at hr
      split at hr <;> first | (simp [binOp, he]; done) | cases hr
    · obtain ⟨r, hr, rfl⟩ := Option.map_eq_some_iff.1 h
      have he : (Op.equal t a b).run P w = .ok r w := eqIn_sound hT hr w
      refine ⟨by rw [eqG_sound hr]; rfl, ?_⟩
      unfold eqV at hr
      split at hr <;> first | (simp [binOp, he]; done) | cases hr
    · cases h

theorem pureOp_sound {ρ : Operand → Value} {o : Oper} {v : Value} (h : pureOp T ρ o.op = some v) (w : World) : (execOp ρ o).run P w = .ok (.value v) w := by
  obtain ⟨dst, op, type, pos, after, guard⟩ := o
  simp only at h
  unfold pureOp at h
  split at h
  · simp only [Option.some.injEq] at h; simp [execOp, h]
  · simp only [Option.some.injEq] at h; simp [execOp, h]
  · rename_i c a b
    split at h
    · rename_i t hc
      simp only [Option.some.injEq] at h
      simp only [execOp, hc, asBool, Sem.run_bind, Sem.run_pure, Result.andThen_ok]
      subst h
      cases t <;> rfl
    · cases h
  · rename_i bop t x y _
    obtain ⟨h1, h2⟩ := bin_sound hT (op := bop) (x := x) (y := y) h w
    simp [execOp, h1, h2]
  · rename_i uop t x
    unfold unV at h
    split at h
    · rename_i hx
      simp only [Option.some.injEq] at h
      subst h
      simp [execOp, Op.unary, hx, Op.intArith]
    · rename_i hx
      simp only [Option.some.injEq] at h
      simp [execOp, Op.unary, hx, h]
    · cases h
  · split at h
    · rename_i hs hd hx
      simp only [Option.some.injEq] at h
      simp [execOp, convert, run_und hT hs, run_und hT hd, hx, Conv.intToInt, h]
    · cases h
  · split at h
    · cases h
    · rename_i d hd hn
      simp only [Option.some.injEq] at h
      simp only [execOp, Instr.makeInterface, Sem.run_bind, run_und hT hn, Result.andThen_ok]
      obtain ⟨ds, i⟩ := d
      cases ds <;> first | (simp [h]; done) | exact (hd _ _ rfl).elim
    · cases h
  · simp only [Option.some.injEq] at h; simp [execOp, Instr.makeFunc, h]
  · rename_i t x i
    split at h
    · rename_i fs inf cs ht hx
      split at h
      · rename_i f hf
        have hf' : fs[i]? = some f := by simpa using hf
        simp [execOp, Instr.field, run_und hT ht, hx, asAgg, hf', run_part hT h]
      · cases h
    · cases h
  · rename_i t x i
    split at h
    · rename_i fs inf ab ao ht hx
      split at h
      · rename_i f hf
        split at h
        · rename_i d hd
          have hf' : fs[i]? = some f := by simpa using hf
          cases hz : Nat.beq d.info.size 0 with
          | true => rw [hz] at h; cases h
          | false =>
            rw [hz] at h
            simp only [cond_false, Option.some.injEq] at h
            have hne : d.info.size ≠ 0 := fun he => by rw [he] at hz; cases hz
            have hadd : (⟨ab, ao, none⟩ : Addr).add f.offset = ⟨ab, ao + f.offset, none⟩ := by unfold Addr.add; split <;> simp_all
            simp [execOp, Instr.fieldAt, run_und hT ht, hx, Instr.sureAddr, hf', fieldPlace, run_szOf hT hd, hne, hadd, h]
        · cases h
      · cases h
    · cases h
  · split at h
    · rename_i hx
      simp only [Option.some.injEq] at h
      subst h
      simp [execOp, hx]
    · rename_i hx
      simp only [Option.some.injEq] at h
      subst h
      simp [execOp, hx]
    · cases h
  · split at h
    · rename_i hx
      simp [execOp, Instr.extract, hx, h]
    · cases h
  · rename_i t parts
    have := run_buildV hT h w
    have e : (parts.toList.map fun p => (p.1, ρ p.2)).toArray = parts.map fun (i, x) => (i, ρ x) := by
      apply Array.ext'; simp
    rw [e] at this
    simp [execOp, this]
  · rename_i x t
    unfold lenV at h
    split at h
    all_goals first | (rename_i ht hx; simp only [Option.some.injEq] at h; subst h; simp [execOp, resolve, invoke, builtin, Builtin.len_, run_und hT ht, hx, goInt]; done) | cases h
  · rename_i x t
    unfold capV at h
    split at h
    all_goals first | (rename_i ht hx; simp only [Option.some.injEq] at h; subst h; simp [execOp, resolve, invoke, builtin, Builtin.cap_, run_und hT ht, hx, goInt]; done) | cases h
  · split at h
    · rename_i hx hy
      simp only [Option.some.injEq] at h
      subst h
      simp [execOp, resolve, invoke, builtin, Builtin.min_, Builtin.min2, hx, hy]
    · cases h
  · split at h
    · rename_i hx hy
      simp only [Option.some.injEq] at h
      subst h
      simp [execOp, resolve, invoke, builtin, Builtin.max_, Builtin.max2, hx, hy]
    · cases h
  · cases h
end

/-! ### 3. What is asked of an operation that does more: a goal of its own each -/
/-- The operation yields a value (or enters a function, which returns one). -/
def NK (P : Program) (s : Sem Next) (K : Value → World → Prop) (w : World) : Prop :=
  match s.run P w with
  | .ok (.value v) w' => K v w'
  | .ok .skip w' => K undef w'
  | .ok (.enter f args) w' => Calls P f args w' fun e w'' => ∃ v, e = .returned v ∧ K v w''
  | .ok (.round l f tmps assign body) w' => RoundIn Fence.wide 0 P l f tmps assign body w' fun e w'' => ∃ v, e = .returned v ∧ K v w''
  | _ => False
theorem NK_value {P : Program} {s : Sem Value} {K : Value → World → Prop} {w w' : World} {v : Value} (h : s.run P w = .ok v w') (k : K v w') : NK P (do pure (.value (← s))) K w := by
  unfold NK; simp [h]; exact k
theorem NK_unit {P : Program} {s : Sem Unit} {K : Value → World → Prop} {w w' : World} (h : s.run P w = .ok () w') (k : K undef w') : NK P (do s; pure .skip) K w := by
  unfold NK; simp [h]; exact k
section stops
variable (P : Program) (K : Value → World → Prop) (w : World)
structure AllocK (t : TypeId) : Prop where
  out : NK P (do pure (.value (← Instr.alloc t true (.tuple #[])))) K w
structure BoxK (t : TypeId) (x : Value) : Prop where
  out : NK P (do pure (.value (← Instr.box t x))) K w
structure LoadK (t : TypeId) (x : Value) : Prop where
  out : NK P (do pure (.value (← Instr.loadAt t x))) K w
structure StoreK (t : TypeId) (a x : Value) : Prop where
  out : NK P (do Instr.storeAt t a x; pure .skip) K w
def binS (op : BinOp) (t : TypeId) (ox oy : Operand) (x y : Value) : Sem Value := do
  eqGuard op t ox oy x y
  binOp op t x y
structure BinK (op : BinOp) (t : TypeId) (ox oy : Operand) (x y : Value) : Prop where
  out : NK P (do pure (.value (← binS op t ox oy x y))) K w
structure UnK (op : UnOp) (x : Value) : Prop where
  out : NK P (do pure (.value (← Op.unary op x))) K w
structure ConvK (s d : TypeId) (x : Value) : Prop where
  out : NK P (do pure (.value (← convert s d x))) K w
structure BuildSliceK (t : TypeId) (n : Nat) (parts : List (Nat × Value)) : Prop where
  out : NK P (do pure (.value (← Instr.buildSlice t n parts.toArray))) K w
structure MakeMapK (t : TypeId) (r : Option Value) : Prop where
  out : NK P (do pure (.value (← Instr.makeMap t r))) K w
structure MakeSliceK (t : TypeId) (l c : Value) : Prop where
  out : NK P (do pure (.value (← Instr.makeSlice t l c))) K w
structure SliceK (t : TypeId) (x : Value) (lo hi mx : Option Value) : Prop where
  out : NK P (do pure (.value (← Instr.sliceAt t x lo hi mx))) K w
structure IdxAddrK (t : TypeId) (x i : Value) : Prop where
  out : NK P (do pure (.value (← Instr.indexAt t x i))) K w
structure IndexK (t : TypeId) (x i : Value) : Prop where
  out : NK P (do pure (.value (← Instr.index t x i))) K w
structure LookupK (t : TypeId) (m k : Value) (ok : Bool) : Prop where
  out : NK P (do pure (.value (← Instr.lookup t m k ok))) K w
structure MapUpdK (t : TypeId) (m k x : Value) : Prop where
  out : NK P (do Instr.mapUpdate t m k x; pure .skip) K w
structure MapEntryK (t : TypeId) (m k : Value) : Prop where
  out : NK P (do pure (.value (← Instr.mapEntry t m k))) K w
structure EntryStoreK (t : TypeId) (m s x : Value) : Prop where
  out : NK P (do Instr.entryStore t m s x; pure .skip) K w
structure RangeK (t : TypeId) (x : Value) : Prop where
  out : NK P (do pure (.value (← Instr.range t x))) K w
structure NextK (it : Value) (s : Bool) (t : TypeId) : Prop where
  out : NK P (do pure (.value (← Instr.next it s t))) K w
structure EntryK (it : Value) : Prop where
  out : NK P (do pure (.value (← Instr.entry it))) K w
structure AssertK (x : Value) (t a : TypeId) (ok : Bool) : Prop where
  out : NK P (do pure (.value (← Instr.typeAssert x t a ok))) K w
structure BuiltinK (b : Builtin) (ts : List TypeId) (t : TypeId) (cs : List Bool) (args : List Value) : Prop where
  out : NK P (builtin b ts.toArray t cs.toArray args.toArray) K w
structure CallK (f : Value) (args : List Value) : Prop where
  out : NK P (do let d ← Deferred.ofValue f args.toArray; invoke d.target d.args) K w
structure InvokeK (r : Value) (m : String) (args : List Value) : Prop where
  out : NK P (invoke (.fn (.method m) #[]) (#[r] ++ args.toArray)) K w
structure PureK (o : Oper) (ρ : Operand → Value) : Prop where
  out : NK P (execOp ρ o) K w
end stops
section mk
variable {P : Program} {K : Value → World → Prop} {w w' : World} {v : Value}
theorem AllocK.of {t} (h : (Instr.alloc t true (.tuple #[])).run P w = .ok v w') (k : K v w') : AllocK P K w t := ⟨NK_value h k⟩
theorem BoxK.of {t x} (h : (Instr.box t x).run P w = .ok v w') (k : K v w') : BoxK P K w t x := ⟨NK_value (s := Instr.box t x) h k⟩
theorem LoadK.of {t x} (h : (Instr.loadAt t x).run P w = .ok v w') (k : K v w') : LoadK P K w t x := ⟨NK_value h k⟩
theorem StoreK.of {t a x} (h : (Instr.storeAt t a x).run P w = .ok () w') (k : K undef w') : StoreK P K w t a x := ⟨NK_unit h k⟩
theorem BinK.of {op t ox oy x y} (h : (binS op t ox oy x y).run P w = .ok v w') (k : K v w') : BinK P K w op t ox oy x y := ⟨NK_value h k⟩
theorem UnK.of {op x} (h : (Op.unary op x).run P w = .ok v w') (k : K v w') : UnK P K w op x := ⟨NK_value h k⟩
theorem ConvK.of {s d x} (h : (convert s d x).run P w = .ok v w') (k : K v w') : ConvK P K w s d x := ⟨NK_value h k⟩
theorem BuildSliceK.of {t n parts} (h : (Instr.buildSlice t n parts.toArray).run P w = .ok v w') (k : K v w') : BuildSliceK P K w t n parts := ⟨NK_value h k⟩
theorem MakeMapK.of {t r} (h : (Instr.makeMap t r).run P w = .ok v w') (k : K v w') : MakeMapK P K w t r := ⟨NK_value h k⟩
theorem MakeSliceK.of {t l c} (h : (Instr.makeSlice t l c).run P w = .ok v w') (k : K v w') : MakeSliceK P K w t l c := ⟨NK_value h k⟩
theorem SliceK.of {t x lo hi mx} (h : (Instr.sliceAt t x lo hi mx).run P w = .ok v w') (k : K v w') : SliceK P K w t x lo hi mx := ⟨NK_value h k⟩
theorem IdxAddrK.of {t x i} (h : (Instr.indexAt t x i).run P w = .ok v w') (k : K v w') : IdxAddrK P K w t x i := ⟨NK_value h k⟩
theorem IndexK.of {t x i} (h : (Instr.index t x i).run P w = .ok v w') (k : K v w') : IndexK P K w t x i := ⟨NK_value h k⟩
theorem LookupK.of {t m x ok} (h : (Instr.lookup t m x ok).run P w = .ok v w') (k : K v w') : LookupK P K w t m x ok := ⟨NK_value h k⟩
theorem MapUpdK.of {t m x y} (h : (Instr.mapUpdate t m x y).run P w = .ok () w') (k : K undef w') : MapUpdK P K w t m x y := ⟨NK_unit h k⟩
theorem MapEntryK.of {t m x} (h : (Instr.mapEntry t m x).run P w = .ok v w') (k : K v w') : MapEntryK P K w t m x := ⟨NK_value h k⟩
theorem EntryStoreK.of {t m x y} (h : (Instr.entryStore t m x y).run P w = .ok () w') (k : K undef w') : EntryStoreK P K w t m x y := ⟨NK_unit h k⟩
theorem RangeK.of {t x} (h : (Instr.range t x).run P w = .ok v w') (k : K v w') : RangeK P K w t x := ⟨NK_value h k⟩
theorem NextK.of {x s t} (h : (Instr.next x s t).run P w = .ok v w') (k : K v w') : NextK P K w x s t := ⟨NK_value h k⟩
theorem EntryK.of {x} (h : (Instr.entry x).run P w = .ok v w') (k : K v w') : EntryK P K w x := ⟨NK_value h k⟩
theorem AssertK.of {x t a ok} (h : (Instr.typeAssert x t a ok).run P w = .ok v w') (k : K v w') : AssertK P K w x t a ok := ⟨NK_value h k⟩
theorem BuiltinK.of {b ts t cs args} (h : (builtin b ts.toArray t cs.toArray args.toArray).run P w = .ok (.value v) w') (k : K v w') : BuiltinK P K w b ts t cs args := by
  refine ⟨?_⟩; unfold NK; rw [h]; exact k
end mk
def stopOp (P : Program) (o : Oper) (ρ : Operand → Value) (w : World) (K : Value → World → Prop) : Prop :=
  match o.op with
  | .alloc t => AllocK P K w t
  | .box t x => BoxK P K w t (ρ x)
  | .load t x => LoadK P K w t (ρ x)
  | .store t a x => StoreK P K w t (ρ a) (ρ x)
  | .binOp op t x y _ => BinK P K w op t x y (ρ x) (ρ y)
  | .unOp op _ x => UnK P K w op (ρ x)
  | .convert s d x => ConvK P K w s d (ρ x)
  | .buildSlice t n parts => BuildSliceK P K w t n (parts.toList.map fun p => (p.1, ρ p.2))
  | .makeMap t r => MakeMapK P K w t (r.map ρ)
  | .makeSlice t l c => MakeSliceK P K w t (ρ l) (ρ c)
  | .slice t x lo hi mx => SliceK P K w t (ρ x) (lo.map ρ) (hi.map ρ) (mx.map ρ)
  | .indexAddr t x i => IdxAddrK P K w t (ρ x) (ρ i)
  | .index t x i => IndexK P K w t (ρ x) (ρ i)
  | .lookup t m k ok => LookupK P K w t (ρ m) (ρ k) ok
  | .mapUpdate t m k x | .insert t m k x => MapUpdK P K w t (ρ m) (ρ k) (ρ x)
  | .mapEntry t m k => MapEntryK P K w t (ρ m) (ρ k)
  | .entryStore t m s x => EntryStoreK P K w t (ρ m) (ρ s) (ρ x)
  | .range t x => RangeK P K w t (ρ x)
  | .next it s => NextK P K w (ρ it) s o.type
  | .entry it => EntryK P K w (ρ it)
  | .typeAssert x t a ok => AssertK P K w (ρ x) t a ok
  | .call { callee := .builtin b, args, argTypes } => BuiltinK P K w b argTypes.toList o.type (args.toList.map isC) (args.toList.map ρ)
  | .call { callee := .value f, args, .. } => CallK P K w (ρ f) (args.toList.map ρ)
  | .call { callee := .invoke r m, args, .. } => InvokeK P K w (ρ r) m (args.toList.map ρ)
  | _ => PureK P K w o ρ
theorem stopOp_sound {P : Program} {o : Oper} {ρ : Operand → Value} {w : World} {K : Value → World → Prop} (h : stopOp P o ρ w K) : NK P (execOp ρ o) K w := by
  obtain ⟨dst, op, type, pos, after, guard⟩ := o
  have hc : isC = fun | .const _ => true | _ => false := by funext o; cases o <;> rfl
  have e2 : ∀ args : Array Operand, (args.toList.map ρ).toArray = args.map ρ := fun args => by apply Array.ext'; simp
  have e1 : ∀ args : Array Operand, (args.toList.map isC).toArray = args.map isC := fun args => by apply Array.ext'; simp
  have e3 : ∀ parts : Array (Nat × Operand), (parts.toList.map fun p => (p.1, ρ p.2)).toArray = parts.map fun (i, x) => (i, ρ x) := fun args => by apply Array.ext'; simp
  cases op
  case call c =>
    obtain ⟨callee, args, ts⟩ := c
    cases callee with
    | builtin b =>
      have h := BuiltinK.out h
      simp only [e1, e2] at h
      rw [hc] at h
      simp only [NK, execOp, resolve, Sem.run_bind, Sem.run_pure, Result.andThen_ok, invoke] at h ⊢
      exact h
    | value f =>
      have h := CallK.out h
      simp only [e2] at h
      exact h
    | invoke r m =>
      have h := InvokeK.out h
      simp only [e2] at h
      simp only [NK, execOp, resolve, Sem.run_bind, Sem.run_pure, Result.andThen_ok] at h ⊢
      exact h
  case buildSlice t n parts =>
    have h := BuildSliceK.out h
    simp only [e3] at h
    exact h
  case alloc => exact AllocK.out h
  case box => exact BoxK.out h
  case load => exact LoadK.out h
  case store => exact StoreK.out h
  case binOp => exact BinK.out h
  case unOp => exact UnK.out h
  case convert => exact ConvK.out h
  case makeMap => exact MakeMapK.out h
  case makeSlice => exact MakeSliceK.out h
  case slice => exact SliceK.out h
  case indexAddr => exact IdxAddrK.out h
  case index => exact IndexK.out h
  case lookup => exact LookupK.out h
  case mapUpdate => exact MapUpdK.out h
  case insert => exact MapUpdK.out h
  case mapEntry => exact MapEntryK.out h
  case entryStore => exact EntryStoreK.out h
  case range => exact RangeK.out h
  case next => exact NextK.out h
  case entry => exact EntryK.out h
  case typeAssert => exact AssertK.out h
  all_goals exact PureK.out h
def stepOp (P : Program) (T : Tab) (o : Oper) (e : Env) (w : World) (K : Value → World → Prop) : Prop :=
  match pureOp T (val e) o.op with
  | some v => K v w
  | none => stopOp P o (val e) w K
theorem stepOp_sound {P : Program} {T : Tab} (hT : T.Ok P) {o : Oper} {e : Env} {w : World} {K : Value → World → Prop} (h : stepOp P T o e w K) : NK P (execOp (val e) o) K w := by
  unfold stepOp at h
  split at h
  · rename_i v hv
    unfold NK
    rw [pureOp_sound hT hv w]
    exact h
  · exact stopOp_sound h

/-! ### 4. Regions and code -/
abbrev condP (b : Bool) (x y : Prop) : Prop := match b with
  | true => x
  | false => y
abbrev condP' (want b : Bool) (x y : Prop) : Prop := match want with
  | true => condP b x y
  | false => condP b y x
theorem br {b : Bool} {x y : Prop} (t : b = true → x) (f : b = false → y) : condP b x y := by
  cases b
  · exact f rfl
  · exact t rfl
/-- The same at a decision. -/
theorem brd {p : Prop} [inst : Decidable p] {x y : Prop} (t : p → x) (f : ¬ p → y) : condP (decide p) x y := br (fun h => t (of_decide_eq_true h)) fun h => f (of_decide_eq_false h)
def dstOf (all : List Oper) (j : Nat) : Option Nat := match all, j with
  | [], _ => none
  | o :: _, 0 => o.dst
  | _ :: r, j + 1 => dstOf r j
theorem dstOf_eq : ∀ (all : List Oper) (j : Nat), dstOf all j = (all[j]?).bind (·.dst)
  | [], _ => rfl
  | o :: r, 0 => rfl
  | o :: r, j + 1 => by simp [dstOf, dstOf_eq r j]
def evStep (P : Program) (T : Tab) (all : List Oper) (o : Oper) (ih : Env → World → Prop) (e : Env) (w : World) : Prop :=
  match o.guard with
  | none => stepOp P T o e w fun v w' => ih (put e o.dst v) w'
  | some (j, want) => match dstOf all j with
    | some d => match e d with
      | .bool b => condP' want b (stepOp P T o (upd e d (.bool want)) w fun v w' => ih (put (upd e d (.bool want)) o.dst v) w') (ih (put (upd e d (.bool !want)) o.dst undef) w)
      | .tuple _ => ih (put e o.dst undef) w
      | _ => False
    | none => False
/-- The operations one behind the other (written with the recursor, so that whoever unfolds it sees one form). -/
noncomputable def evOps (P : Program) (T : Tab) (all : List Oper) (Q : Env → World → Prop) (l : List Oper) : Env → World → Prop :=
  List.rec (motive := fun _ => Env → World → Prop) Q (fun o _ ih => evStep P T all o ih) l
theorem evOps_cons {P : Program} {T : Tab} {all : List Oper} {Q : Env → World → Prop} {o : Oper} {r : List Oper} {e : Env} {w : World} : evOps P T all Q (o :: r) e w = evStep P T all o (evOps P T all Q r) e w := rfl
def inM (m t : Nat) : Bool := Nat.beq (Nat.land (Nat.shiftRight m t) 1) 1
theorem inM_eq (m t : Nat) : inM m t = m.testBit t := by
  have h : Nat.land (Nat.shiftRight m t) 1 = (m >>> t) &&& 1 := rfl
  have h2 : (m >>> t) &&& 1 = (m >>> t) % 2 := Nat.and_one_is_mod _
  unfold inM Nat.testBit
  rw [h, Nat.and_comm 1, h2]
  rcases Nat.mod_two_eq_zero_or_one (m >>> t) with h | h <;> rw [h] <;> rfl
def opsMask : List Oper → Nat
  | [] => 0
  | o :: r => Nat.lor (match o.dst with
    | some d => Nat.shiftLeft 1 d
    | none => 0) (opsMask r)
def tmpsMask : List Tmp → Nat
  | [] => 0
  | d :: r => Nat.lor (Nat.shiftLeft 1 d) (tmpsMask r)
/-- The slots that a piece of code may write. -/
def wmask : Code → Nat
  | .seq a b => Nat.lor (wmask a) (wmask b)
  | .region _ ops _ => opsMask ops.toList
  | .cond _ a b => Nat.lor (wmask a) (wmask b)
  | .block _ a => wmask a
  | .loop a => wmask a
  | .scope a => wmask a
  | .rangeFunc _ ps a b => Nat.lor (tmpsMask ps.toList) (Nat.lor (wmask a) (wmask b))
  | _ => 0
theorem inM_lor (a b t : Nat) : inM (Nat.lor a b) t = (inM a t || inM b t) := by
  simp only [inM_eq]
  exact Nat.testBit_or a b t
theorem inM_one (d : Nat) : inM (Nat.shiftLeft 1 d) d = true := by
  rw [inM_eq]
  show Nat.testBit (1 <<< d) d = true
  simp
/-- Outside a mask two environments agree. -/
def Off (m : Nat) (e e' : Env) : Prop := ∀ t, inM m t = false → e' t = e t
theorem Off.refl (m : Nat) (e : Env) : Off m e e := fun _ _ => rfl
theorem Off.trans {m : Nat} {a b c : Env} (h : Off m a b) (k : Off m b c) : Off m a c := fun t ht => (k t ht).trans (h t ht)
theorem Off.left {a b : Nat} {e e' : Env} (h : Off a e e') : Off (Nat.lor a b) e e' := fun t ht => h t (by rw [inM_lor, Bool.or_eq_false_iff] at ht; exact ht.1)
theorem Off.right {a b : Nat} {e e' : Env} (h : Off b e e') : Off (Nat.lor a b) e e' := fun t ht => h t (by rw [inM_lor, Bool.or_eq_false_iff] at ht; exact ht.2)
theorem Off.put {e : Env} {d : Option Nat} {v : Value} {r : Nat} : Off (Nat.lor (match d with
    | some d => Nat.shiftLeft 1 d
    | none => 0) r) e (put e d v) := by
  cases d with
  | none => exact Off.refl _ _
  | some d =>
    intro t ht
    rw [inM_lor, Bool.or_eq_false_iff] at ht
    show upd e d v t = e t
    unfold upd
    cases hb : Nat.beq t d with
    | true => rw [Nat.eq_of_beq_eq_true hb, inM_one] at ht; exact absurd ht.1 (by decide)
    | false => rfl
theorem upd_same {e : Env} {d : Nat} {v : Value} (h : e d = v) : upd e d v = e := by
  funext t
  unfold upd
  cases hb : Nat.beq t d with
  | true => rw [Nat.eq_of_beq_eq_true hb, h]; rfl
  | false => rfl
/-- A frame of n slots that holds what the environment says, ds deferred. -/
def Fits (ds : List Deferred) (n : Nat) (e : Env) (a : Act) : Prop := a.defers = ds ∧ a.tmps.size = n ∧ ∀ t, a.tmps.getD t undef = e t
def lift (ds : List Deferred) (n : Nat) (Q : Exit → Env → World → Prop) : Exit → Act → World → Prop := fun x a w => ∃ e, Fits ds n e a ∧ Q x e w
structure CodeK (P : Program) (n : Nat) (c : Code) (Q : Exit → Env → World → Prop) (e : Env) (w : World) : Prop where
  out : ∀ r ds a, Fits ds n e a → c.wpIn (WF r) 0 P (lift ds n fun x e' w' => Q x e' w' ∧ Off (wmask c) e e') a w
abbrev evSeq (b : (Exit → Env → World → Prop) → Env → World → Prop) (Q : Exit → Env → World → Prop) (x : Exit) (e : Env) (w : World) : Prop := match x with
  | .normal => b Q e w
  | x => Q x e w
abbrev evBlk (id : Nat) (Q : Exit → Env → World → Prop) (x : Exit) (e : Env) (w : World) : Prop := match x with
  | .exit i => bif Nat.beq i id then Q .normal e w else Q (.exit i) e w
  | x => Q x e w
abbrev evCond (v : Value) (x y : Prop) : Prop := match v with
  | .bool b => condP b x y
  | _ => False
def evReg (P : Program) (T : Tab) (n id : Nat) (ops : Array Oper) (draw : Bool) (Q : Exit → Env → World → Prop) (e : Env) (w : World) : Prop := match draw with
  | false => evOps P T ops.toList (Q .normal) ops.toList e w
  | true => CodeK P n (.region id ops true) Q e w
noncomputable def ev (P : Program) (T : Tab) (n : Nat) (c : Code) : (Exit → Env → World → Prop) → Env → World → Prop :=
  Code.rec (motive := fun _ => (Exit → Env → World → Prop) → Env → World → Prop)
    (fun Q => Q .normal)
    (fun id ops draw => evReg P T n id ops draw)
    (fun _ _ iha ihb Q => iha (evSeq ihb Q))
    (fun c _ _ iha ihb Q e w => evCond (val e c) (iha Q e w) (ihb Q e w))
    (fun id _ ih Q => ih (evBlk id Q))
    (fun c _ => CodeK P n (.loop c))
    (fun f ps a b _ _ => CodeK P n (.rangeFunc f ps a b))
    (fun id Q => Q (.exit id))
    (fun c _ => CodeK P n (.scope c))
    (fun _ Q => Q .normal)
    (fun l => CodeK P n (.goto l))
    (fun Q => Q .ret)
    (fun why => CodeK P n (.refuse why)) c
def dstsOk (n : Nat) : List Oper → Bool
  | [] => true
  | o :: r => (match o.dst with
    | some d => Nat.blt d n
    | none => true) && dstsOk n r
def codeOk (n : Nat) : Code → Bool
  | .seq a b => codeOk n a && codeOk n b
  | .region _ ops _ => dstsOk n ops.toList
  | .cond _ a b => codeOk n a && codeOk n b
  | .block _ a => codeOk n a
  | .loop a => codeOk n a
  | _ => true
theorem Fits.eval {ds : List Deferred} {n : Nat} {e : Env} {a : Act} (h : Fits ds n e a) : a.eval = val e := by
  funext o
  cases o <;> simp only [Act.eval, val]
  exact h.2.2 _
theorem Fits.put {ds : List Deferred} {n : Nat} {e : Env} {a : Act} (h : Fits ds n e a) {d : Option Nat} (hd : ∀ k, d = some k → k < n) (v : Value) : Fits ds n (Wk.put e d v) (a.put d v) := by
  cases d with
  | none => exact h
  | some k =>
    obtain ⟨h1, h2, h3⟩ := h
    refine ⟨h1, by simp [Act.put, h2], fun t => ?_⟩
    have hk := hd k rfl
    simp only [Act.put, Wk.put, upd]
    cases ht : Nat.beq t k with
    | true =>
      rw [Nat.eq_of_beq_eq_true ht]
      simp [Array.getD_eq_getD_getElem?, h2, hk]
    | false =>
      have hne : k ≠ t := fun he => by subst he; rw [Nat.beq_refl] at ht; cases ht
      simp only [cond_false, ← h3 t, Array.getD_eq_getD_getElem?]
      rw [Array.getElem?_setIfInBounds_ne hne]
theorem NK_defer {P : Program} {ρ : Operand → Value} {o : Oper} {K : Value → World → Prop} {w : World} (h : NK P (execOp ρ o) K w) : ∀ c, o.op ≠ .defer c := by
  intro c hc
  unfold NK at h
  obtain ⟨dst, op, type, pos, after, guard⟩ := o
  simp only at hc
  subst hc
  simp only [execOp, Sem.run_bind] at h
  generalize (resolve ρ c type).run P w = r at h
  cases r with
  | ok x w' => simp [Result.andThen] at h
  | halt x w' => simp [Result.andThen] at h
theorem upon_of_NK {P : Program} {r : Option Nat} {o : Oper} {a : Act} {w : World} {ρ : Operand → Value} {K : Value → World → Prop} {next : Act → World → Prop} {Q : Exit → Act → World → Prop}
    (hρ : a.eval = ρ) (h : NK P (execOp ρ o) K w) (k : ∀ v w', K v w' → next (a.put o.dst v) w') : o.wpIn (WF r) 0 P a w next Q := by
  refine ⟨fun _ _ => trivial, ?_⟩
  rw [hρ, Oper.semAt_eq _ _ _ (NK_defer h)]
  unfold NK at h
  generalize (execOp ρ o).run P w = q at *
  cases q with
  | ok x w' =>
    cases x <;> simp only [Oper.uponIn] <;> simp only at h
    · exact k _ _ h
    · exact k _ _ h
    · refine ⟨(fun h => by cases h), callsWF (h.mono fun e w'' ⟨v, he, hv⟩ => ?_)⟩
      subst he
      exact k _ _ hv
    · refine ⟨(fun h => by cases h), show RoundIn Fence.wide 0 P _ _ _ _ _ _ _ from h.mono fun e w'' ⟨v, he, hv⟩ => ?_⟩
      subst he
      exact k _ _ hv
  | halt x w' => simp only at h
theorem evOps_sound {P : Program} {T : Tab} (hT : T.Ok P) {ro : Option Nat} {ds : List Deferred} {n : Nat} {ops : Array Oper} {Q : Exit → Env → World → Prop} : ∀ (l : List Oper) (k : Nat) (e : Env) (w : World) (a : Act),
    (∀ j, l[j]? = ops[k + j]?) → l.length + k = ops.size → dstsOk n l = true → Fits ds n e a → evOps P T ops.toList (Q .normal) l e w → wpOpsIn (WF ro) 0 P ops (lift ds n Q) (List.range' k l.length) a w
  | [], k, e, w, a, hl, hk, hd, hf, h => ⟨e, hf, h⟩
  | o :: r, k, e, w, a, hl, hk, hd, hf, h => by
    have h0 : ops[k]? = some o := by simpa using (hl 0).symm
    simp only [dstsOk, Bool.and_eq_true] at hd
    obtain ⟨hd1, hd2⟩ := hd
    have hdd : ∀ d, o.dst = some d → d < n := fun d he => by
      rw [he] at hd1
      exact Nat.le_of_ble_eq_true hd1
    have hl' : ∀ j, r[j]? = ops[k + 1 + j]? := fun j => by have := hl (j + 1); simpa [Nat.add_assoc, Nat.add_comm 1 j] using this
    have hk' : r.length + (k + 1) = ops.size := by simp at hk; omega
    have hrec : ∀ v w', evOps P T ops.toList (Q .normal) r (Wk.put e o.dst v) w' → wpOpsIn (WF ro) 0 P ops (lift ds n Q) (List.range' (k + 1) r.length) (a.put o.dst v) w' := fun v w' hh =>
      evOps_sound hT r (k + 1) _ w' _ hl' hk' hd2 (hf.put hdd v) hh
    simp only [List.length_cons, List.range'_succ, wpOpsIn, h0]
    rw [evOps_cons] at h
    unfold evStep at h
    cases hg : o.guard with
    | none =>
      rw [hg] at h
      simp only at h
      have hw : Region.wanted o (yielded ops a.tmps) = true := by simp [Region.wanted, hg]
      rw [if_pos hw]
      exact upon_of_NK hf.eval (stepOp_sound hT h) hrec
    | some g =>
      obtain ⟨j, want⟩ := g
      rw [hg] at h
      simp only at h
      cases hj : dstOf ops.toList j with
      | none => rw [hj] at h; exact h.elim
      | some d =>
        rw [hj] at h
        simp only at h
        have hj' : (ops[j]?).bind (·.dst) = some d := by rw [dstOf_eq] at hj; simpa using hj
        split at h
        · rename_i b hb
          have hy : yielded ops a.tmps j = some b := by
            have hd' := hf.2.2 d
            rw [hb] at hd'
            unfold yielded
            rw [hj']
            simp only [Option.bind_some]
            rw [Array.getD_eq_getD_getElem?] at hd'
            cases hq : a.tmps[d]? with
            | none => rw [hq] at hd'; simp [undef] at hd'
            | some u => rw [hq] at hd'; simp at hd'; subst hd'; rfl
          have hwant : Region.wanted o (yielded ops a.tmps) = (b == want) := by simp [Region.wanted, hg, hy]
          rw [hwant]
          have hrun : ∀ {y : Prop}, stepOp P T o e w (fun v w' => evOps P T ops.toList (Q .normal) r (Wk.put e o.dst v) w') → (if true = true then (o.wpIn (WF ro) 0 P a w (wpOpsIn (WF ro) 0 P ops (lift ds n Q) (List.range' (k + 1) r.length)) (lift ds n Q)) else y) := fun hh => by
            rw [if_pos rfl]; exact upon_of_NK hf.eval (stepOp_sound hT hh) hrec
          have hskip : ∀ {x : Prop}, evOps P T ops.toList (Q .normal) r (Wk.put e o.dst undef) w → (if false = true then x else (∀ f, o.about P w a.eval = some f → (WF ro).fn f) ∧ wpOpsIn (WF ro) 0 P ops (lift ds n Q) (List.range' (k + 1) r.length) (a.put o.dst undef) w) := fun hh => by
            rw [if_neg (by decide)]; exact ⟨fun _ _ => trivial, hrec _ _ hh⟩
          cases want <;> cases b <;> simp only [condP', condP, Bool.not_true, Bool.not_false, upd_same hb] at h
          · exact hrun h
          · exact hskip h
          · exact hskip h
          · exact hrun h
        · rename_i vs hb
          have hy : yielded ops a.tmps j = none := by
            have hd' := hf.2.2 d
            rw [hb] at hd'
            unfold yielded
            rw [hj']
            simp only [Option.bind_some]
            rw [Array.getD_eq_getD_getElem?] at hd'
            cases hq : a.tmps[d]? with
            | none => rfl
            | some u => rw [hq] at hd'; simp at hd'; subst hd'; rfl
          have hwant : Region.wanted o (yielded ops a.tmps) = false := by simp [Region.wanted, hg, hy]
          rw [hwant, if_neg (by decide)]
          exact ⟨fun _ _ => trivial, hrec _ _ h⟩
        · exact h.elim
theorem ev_sound {P : Program} {T : Tab} (hT : T.Ok P) {ro : Option Nat} {ds : List Deferred} {n : Nat} : ∀ (c : Code) (Q : Exit → Env → World → Prop) (e : Env) (w : World) (a : Act),
    codeOk n c = true → Fits ds n e a → ev P T n c Q e w → c.wpIn (WF ro) 0 P (lift ds n Q) a w
  | .skip, Q, e, w, a, _, hf, h => wpIn_skip ⟨e, hf, h⟩
  | .seq x y, Q, e, w, a, hc, hf, h => by
    simp only [codeOk, Bool.and_eq_true] at hc
    refine wpIn_seq (wpIn_mono (ev_sound hT x _ e w a hc.1 hf h) ?_)
    rintro ex a' w' ⟨e', hf', hq⟩
    cases ex with
    | normal => exact ev_sound hT y Q e' w' a' hc.2 hf' hq
    | _ => exact ⟨e', hf', hq⟩
  | .region id ops draw, Q, e, w, a, hc, hf, h => by
    cases draw with
    | true => exact wpIn_mono (CodeK.out h ro ds a hf) fun _ _ _ ⟨e', hf', hq, _⟩ => ⟨e', hf', hq⟩
    | false =>
      refine wpIn_region ?_
      rw [List.range_eq_range']
      have := evOps_sound hT (ro := ro) (n := n) (ops := ops) (Q := Q) ops.toList 0 e w a (by simp) (by simp) hc hf h
      simpa using this
  | .cond c x y, Q, e, w, a, hc, hf, h => by
    simp only [codeOk, Bool.and_eq_true] at hc
    change evCond (val e c) _ _ at h
    unfold evCond at h
    split at h
    · rename_i b hb
      have hb' : a.eval c = .bool b := by rw [hf.eval]; exact hb
      cases b with
      | true => exact wpIn_cond_true hb' (ev_sound hT x Q e w a hc.1 hf h)
      | false => exact wpIn_cond_false hb' (ev_sound hT y Q e w a hc.2 hf h)
    · exact h.elim
  | .block id c, Q, e, w, a, hc, hf, h => by
    refine wpIn_block (wpIn_mono (ev_sound hT c _ e w a hc hf h) ?_)
    rintro ex a' w' ⟨e', hf', hq⟩
    cases ex with
    | exit i =>
      unfold evBlk at hq
      simp only at hq
      simp only [Exit.inBlock]
      cases hi : Nat.beq i id with
      | true => rw [hi] at hq; rw [if_pos (Nat.eq_of_beq_eq_true hi)]; exact ⟨e', hf', hq⟩
      | false =>
        rw [hi] at hq
        rw [if_neg (fun he => by subst he; rw [Nat.beq_refl] at hi; cases hi)]
        exact ⟨e', hf', hq⟩
    | _ => exact ⟨e', hf', hq⟩
  | .exit id, Q, e, w, a, _, hf, h => wpIn_exit ⟨e, hf, h⟩
  | .ret, Q, e, w, a, _, hf, h => wpIn_ret ⟨e, hf, h⟩
  | .label _, Q, e, w, a, _, hf, h => wpIn_label ⟨e, hf, h⟩
  | .loop c, Q, e, w, a, _, hf, h => wpIn_mono (CodeK.out h ro ds a hf) fun _ _ _ ⟨e', hf', hq, _⟩ => ⟨e', hf', hq⟩
  | .rangeFunc .., Q, e, w, a, _, hf, h => wpIn_mono (CodeK.out h ro ds a hf) fun _ _ _ ⟨e', hf', hq, _⟩ => ⟨e', hf', hq⟩
  | .scope _, Q, e, w, a, _, hf, h => wpIn_mono (CodeK.out h ro ds a hf) fun _ _ _ ⟨e', hf', hq, _⟩ => ⟨e', hf', hq⟩
  | .goto _, Q, e, w, a, _, hf, h => wpIn_mono (CodeK.out h ro ds a hf) fun _ _ _ ⟨e', hf', hq, _⟩ => ⟨e', hf', hq⟩
  | .refuse _, Q, e, w, a, _, hf, h => wpIn_mono (CodeK.out h ro ds a hf) fun _ _ _ ⟨e', hf', hq, _⟩ => ⟨e', hf', hq⟩

/-! ### 5. What is not written stays -/
theorem NK_mono {P : Program} {s : Sem Next} {K K' : Value → World → Prop} {w : World} (h : NK P s K w) (k : ∀ v w', K v w' → K' v w') : NK P s K' w := by
  unfold NK at *
  generalize s.run P w = r at *
  cases r with
  | ok x w' =>
    cases x <;> simp only at h ⊢
    · exact k _ _ h
    · exact k _ _ h
    · exact h.mono fun e w'' ⟨v, he, hv⟩ => ⟨v, he, k _ _ hv⟩
    · exact h.mono fun e w'' ⟨v, he, hv⟩ => ⟨v, he, k _ _ hv⟩
  | halt x w' => simp only at h
theorem stopOp_mono {P : Program} {o : Oper} {ρ : Operand → Value} {w : World} {K K' : Value → World → Prop} (h : stopOp P o ρ w K) (k : ∀ v w', K v w' → K' v w') : stopOp P o ρ w K' := by
  obtain ⟨dst, op, type, pos, after, guard⟩ := o
  cases op
  case call c =>
    obtain ⟨callee, args, ts⟩ := c
    cases callee with
    | builtin b => exact ⟨NK_mono (BuiltinK.out h) k⟩
    | value f => exact ⟨NK_mono (CallK.out h) k⟩
    | invoke r m => exact ⟨NK_mono (InvokeK.out h) k⟩
  case alloc => exact ⟨NK_mono (AllocK.out h) k⟩
  case box => exact ⟨NK_mono (BoxK.out h) k⟩
  case load => exact ⟨NK_mono (LoadK.out h) k⟩
  case store => exact ⟨NK_mono (StoreK.out h) k⟩
  case binOp => exact ⟨NK_mono (BinK.out h) k⟩
  case unOp => exact ⟨NK_mono (UnK.out h) k⟩
  case convert => exact ⟨NK_mono (ConvK.out h) k⟩
  case makeMap => exact ⟨NK_mono (MakeMapK.out h) k⟩
  case makeSlice => exact ⟨NK_mono (MakeSliceK.out h) k⟩
  case slice => exact ⟨NK_mono (SliceK.out h) k⟩
  case indexAddr => exact ⟨NK_mono (IdxAddrK.out h) k⟩
  case index => exact ⟨NK_mono (IndexK.out h) k⟩
  case lookup => exact ⟨NK_mono (LookupK.out h) k⟩
  case mapUpdate => exact ⟨NK_mono (MapUpdK.out h) k⟩
  case insert => exact ⟨NK_mono (MapUpdK.out h) k⟩
  case mapEntry => exact ⟨NK_mono (MapEntryK.out h) k⟩
  case entryStore => exact ⟨NK_mono (EntryStoreK.out h) k⟩
  case range => exact ⟨NK_mono (RangeK.out h) k⟩
  case next => exact ⟨NK_mono (NextK.out h) k⟩
  case entry => exact ⟨NK_mono (EntryK.out h) k⟩
  case typeAssert => exact ⟨NK_mono (AssertK.out h) k⟩
  case buildSlice => exact ⟨NK_mono (BuildSliceK.out h) k⟩
  all_goals exact ⟨NK_mono (PureK.out h) k⟩
theorem stepOp_mono {P : Program} {T : Tab} {o : Oper} {e : Env} {w : World} {K K' : Value → World → Prop} (h : stepOp P T o e w K) (k : ∀ v w', K v w' → K' v w') : stepOp P T o e w K' := by
  unfold stepOp at *
  split
  · rename_i hv; rw [hv] at h; exact k _ _ h
  · rename_i hv; rw [hv] at h; exact stopOp_mono h k
theorem evOps_frame {P : Program} {T : Tab} {all : List Oper} {Q : Env → World → Prop} : ∀ (l : List Oper) (e : Env) (w : World), evOps P T all Q l e w → evOps P T all (fun e' w' => Q e' w' ∧ Off (opsMask l) e e') l e w
  | [], e, w, h => ⟨h, Off.refl _ _⟩
  | o :: r, e, w, h => by
    have hr : ∀ v w', evOps P T all Q r (put e o.dst v) w' → evOps P T all (fun e' w' => Q e' w' ∧ Off (opsMask (o :: r)) e e') r (put e o.dst v) w' := fun v w' hh => by
      have := evOps_frame r _ _ hh
      refine evOps_mono this fun e' w'' ⟨hq, ho⟩ => ⟨hq, ?_⟩
      exact (Off.put (r := opsMask r)).trans ho.right
    rw [evOps_cons] at h ⊢
    unfold evStep at h ⊢
    split
    · rename_i hg
      rw [hg] at h
      exact stepOp_mono h hr
    · rename_i j want hg
      rw [hg] at h
      simp only at h
      split
      · rename_i d hd
        rw [hd] at h
        simp only at h
        split
        · rename_i b hb
          rw [hb] at h
          simp only at h
          cases want <;> cases b <;> simp only [condP', condP, Bool.not_true, Bool.not_false, upd_same hb] at h ⊢
          · exact stepOp_mono h hr
          · exact hr _ _ h
          · exact hr _ _ h
          · exact stepOp_mono h hr
        · rename_i vs hb
          rw [hb] at h
          exact hr _ _ h
        · rename_i hb hb2
          split at h
          · rename_i b hb'; exact absurd hb' (hb b)
          · rename_i b hb'; exact absurd hb' (hb2 b)
          · exact h
      · rename_i hd; rw [hd] at h; exact h
where
  evOps_mono {P : Program} {T : Tab} {all : List Oper} {Q Q' : Env → World → Prop} : ∀ {l : List Oper} {e : Env} {w : World}, evOps P T all Q l e w → (∀ e w, Q e w → Q' e w) → evOps P T all Q' l e w
  | [], e, w, h, k => k _ _ h
  | o :: r, e, w, h, k => by
    rw [evOps_cons] at h ⊢
    unfold evStep at h ⊢
    split
    · rename_i hg
      rw [hg] at h
      exact stepOp_mono h fun v w' hh => evOps_mono hh k
    · rename_i j want hg
      rw [hg] at h
      simp only at h
      split
      · rename_i d hd
        rw [hd] at h
        simp only at h
        split
        · rename_i b hb
          rw [hb] at h
          simp only at h
          cases want <;> cases b <;> simp only [condP', condP, Bool.not_true, Bool.not_false, upd_same hb] at h ⊢
          · exact stepOp_mono h fun v w' hh => evOps_mono hh k
          · exact evOps_mono h k
          · exact evOps_mono h k
          · exact stepOp_mono h fun v w' hh => evOps_mono hh k
        · rename_i vs hb
          rw [hb] at h
          exact evOps_mono h k
        · rename_i hb hb2
          split at h
          · rename_i b hb'; exact absurd hb' (hb b)
          · rename_i b hb'; exact absurd hb' (hb2 b)
          · exact h
      · rename_i hd; rw [hd] at h; exact h
theorem evOps_mono {P : Program} {T : Tab} {all : List Oper} {Q Q' : Env → World → Prop} {l : List Oper} {e : Env} {w : World} (h : evOps P T all Q l e w) (k : ∀ e w, Q e w → Q' e w) : evOps P T all Q' l e w := evOps_frame.evOps_mono h k
theorem CodeK_mono {P : Program} {n : Nat} {c : Code} {Q Q' : Exit → Env → World → Prop} {e : Env} {w : World} (h : CodeK P n c Q e w) (k : ∀ x e w, Q x e w → Q' x e w) : CodeK P n c Q' e w :=
  ⟨fun r ds a hf => wpIn_mono (h.out r ds a hf) fun _ _ _ ⟨e', hf', hq, ho⟩ => ⟨e', hf', k _ _ _ hq, ho⟩⟩
theorem ev_mono {P : Program} {T : Tab} {n : Nat} : ∀ (c : Code) {Q Q' : Exit → Env → World → Prop} {e : Env} {w : World}, ev P T n c Q e w → (∀ x e w, Q x e w → Q' x e w) → ev P T n c Q' e w
  | .skip, Q, Q', e, w, h, k => k _ _ _ h
  | .seq x y, Q, Q', e, w, h, k => ev_mono x h fun ex e' w' hq => by
    cases ex with
    | normal => exact ev_mono y hq k
    | _ => exact k _ _ _ hq
  | .region id ops draw, Q, Q', e, w, h, k => by
    cases draw with
    | true => exact CodeK_mono h k
    | false => exact evOps_mono h (k _)
  | .cond c x y, Q, Q', e, w, h, k => by
    change evCond (val e c) _ _ at h
    change evCond (val e c) _ _
    unfold evCond at h ⊢
    split
    · rename_i b hb
      rw [hb] at h
      cases b with
      | true => exact ev_mono x h k
      | false => exact ev_mono y h k
    · rename_i hb
      split at h
      · rename_i b hb'; exact absurd hb' (hb b)
      · exact h
  | .block id c, Q, Q', e, w, h, k => ev_mono c h fun ex e' w' hq => by
    cases ex with
    | exit i =>
      unfold evBlk at hq ⊢
      simp only at hq ⊢
      cases hi : Nat.beq i id with
      | true => rw [hi] at hq; exact k _ _ _ hq
      | false => rw [hi] at hq; exact k _ _ _ hq
    | _ => exact k _ _ _ hq
  | .exit id, Q, Q', e, w, h, k => k _ _ _ h
  | .ret, Q, Q', e, w, h, k => k _ _ _ h
  | .label _, Q, Q', e, w, h, k => k _ _ _ h
  | .loop c, Q, Q', e, w, h, k => CodeK_mono h k
  | .rangeFunc .., Q, Q', e, w, h, k => CodeK_mono h k
  | .scope _, Q, Q', e, w, h, k => CodeK_mono h k
  | .goto _, Q, Q', e, w, h, k => CodeK_mono h k
  | .refuse _, Q, Q', e, w, h, k => CodeK_mono h k
theorem CodeK_frame {P : Program} {n : Nat} {c : Code} {Q : Exit → Env → World → Prop} {e : Env} {w : World} (h : CodeK P n c Q e w) : CodeK P n c (fun x e' w' => Q x e' w' ∧ Off (wmask c) e e') e w :=
  ⟨fun r ds a hf => wpIn_mono (h.out r ds a hf) fun _ _ _ ⟨e', hf', hq, ho⟩ => ⟨e', hf', ⟨hq, ho⟩, ho⟩⟩
theorem ev_frame {P : Program} {T : Tab} {n : Nat} : ∀ (c : Code) {Q : Exit → Env → World → Prop} {e : Env} {w : World}, ev P T n c Q e w → ev P T n c (fun x e' w' => Q x e' w' ∧ Off (wmask c) e e') e w
  | .skip, Q, e, w, h => ⟨h, Off.refl _ _⟩
  | .seq x y, Q, e, w, h => ev_mono x (ev_frame x h) fun ex e' w' ⟨hq, ho⟩ => by
    cases ex with
    | normal => exact ev_mono y (ev_frame y hq) fun _ _ _ ⟨h1, h2⟩ => ⟨h1, ho.left.trans h2.right⟩
    | _ => exact ⟨hq, ho.left⟩
  | .region id ops draw, Q, e, w, h => by
    cases draw with
    | true => exact CodeK_frame h
    | false => exact evOps_frame _ _ _ h
  | .cond c x y, Q, e, w, h => by
    change evCond (val e c) _ _ at h
    change evCond (val e c) _ _
    unfold evCond at h ⊢
    split
    · rename_i b hb
      rw [hb] at h
      cases b with
      | true => exact ev_mono x (ev_frame x h) fun _ _ _ ⟨h1, h2⟩ => ⟨h1, h2.left⟩
      | false => exact ev_mono y (ev_frame y h) fun _ _ _ ⟨h1, h2⟩ => ⟨h1, h2.right⟩
    · rename_i hb
      split at h
      · rename_i b hb'; exact absurd hb' (hb b)
      · exact h
  | .block id c, Q, e, w, h => ev_mono c (ev_frame c h) fun ex e' w' ⟨hq, ho⟩ => by
    cases ex with
    | exit i =>
      unfold evBlk at hq ⊢
      simp only at hq ⊢
      cases hi : Nat.beq i id with
      | true => rw [hi] at hq; exact ⟨hq, ho⟩
      | false => rw [hi] at hq; exact ⟨hq, ho⟩
    | _ => exact ⟨hq, ho⟩
  | .exit id, Q, e, w, h => ⟨h, Off.refl _ _⟩
  | .ret, Q, e, w, h => ⟨h, Off.refl _ _⟩
  | .label _, Q, e, w, h => ⟨h, Off.refl _ _⟩
  | .loop c, Q, e, w, h => CodeK_frame h
  | .rangeFunc .., Q, e, w, h => CodeK_frame h
  | .scope _, Q, e, w, h => CodeK_frame h
  | .goto _, Q, e, w, h => CodeK_frame h
  | .refuse _, Q, e, w, h => CodeK_frame h

/-! ### 6. Loops, cuts -/
/-- What is known of an environment: some slots, the rest of a mask unknown, what is outside it asx before. -/
def havoc (m : Nat) (e j : Env) : Env := fun t => bif inM m t then j t else e t
def sets (e : Env) : List (Nat × Value) → Env
  | [] => e
  | (d, v) :: r => upd (sets e r) d v
def Has (e : Env) : List (Nat × Value) → Prop
  | [] => True
  | (d, v) :: r => e d = v ∧ Has e r
theorem sets_of {m : Nat} {e e' : Env} (ho : Off m e e') : ∀ {l : List (Nat × Value)}, Has e' l → e' = sets (havoc m e e') l
  | [], _ => by
    funext t
    show e' t = bif inM m t then e' t else e t
    cases h : inM m t with
    | true => rfl
    | false => exact ho t h
  | (d, v) :: r, ⟨h, hr⟩ => by
    have ih := sets_of ho hr
    funext t
    show e' t = upd (sets (havoc m e e') r) d v t
    rw [← ih]
    unfold upd
    cases hb : Nat.beq t d with
    | true => rw [Nat.eq_of_beq_eq_true hb]; exact h
    | false => rfl
/-- A LOOP: a ghost state, the slots that it fixes, what it says of the world, a measure. -/
theorem loop_rule {P : Program} {T : Tab} (hT : T.Ok P) {n : Nat} {body : Code} {Q : Exit → Env → World → Prop} {e : Env} {w : World} {σ : Type} (m : Nat) (L : σ → List (Nat × Value)) (W : σ → World → Prop) (μ : σ → Nat) (s0 : σ)
    (hm : wmask body = m) (hk : codeOk n body = true) (h0 : Has e (L s0)) (hw : W s0 w)
    (round : ∀ s j w, W s w → ev P T n body (fun x e' w' => match x with
      | .normal => ∃ s', Has e' (L s') ∧ μ s' < μ s ∧ W s' w'
      | x => Q x e' w') (sets (havoc m e j) (L s)) w)   : CodeK P n (.loop body) Q e w := by
  refine ⟨fun r ds a hf => ?_⟩
  refine wpIn_loop_ghost (fun k a w => ∃ s e', μ s = k ∧ Fits ds n e' a ∧ Off m e e' ∧ Has e' (L s) ∧ W s w) (μ s0) ⟨s0, e, rfl, hf, Off.refl _ _, h0, hw⟩ ?_
  rintro k a w ⟨s, e', rfl, hf', ho, hh, hw'⟩
  have hr := ev_frame body (round s e' w hw')
  rw [← sets_of ho hh] at hr
  refine wpIn_mono (ev_sound hT body _ e' w a hk hf' hr) ?_
  rintro x a1 w1 ⟨e1, hf1, hq, ho1⟩
  have ho1' : Off m e e1 := ho.trans (hm ▸ ho1)
  cases x with
  | normal =>
    obtain ⟨s', hh', hlt, hw1⟩ := hq
    exact ⟨μ s', hlt, s', e1, rfl, hf1, ho1', hh', hw1⟩
  | _ => exact ⟨e1, hf1, hq, by show Off (wmask body) e e1; rw [hm]; exact ho1'⟩
/-! ### 7. Functions -/
/-- Called with these arguments the function returns a value of which R holds. -/
def Exe (P : Program) (g : Nat) (args : List Value) (w : World) (R : Value → World → Prop) : Prop :=
  (∀ asx w, (callFunc g asx).run P w = .ok (.enter g asx) w) ∧ Calls P g args.toArray w fun e w' => ∃ v, e = .returned v ∧ R v w'
theorem Exe.mono {P : Program} {g : Nat} {args : List Value} {w : World} {R R' : Value → World → Prop} (h : Exe P g args w R) (k : ∀ v w', R v w' → R' v w') : Exe P g args w R' :=
  ⟨h.1, h.2.mono fun _ _ ⟨v, he, hv⟩ => ⟨v, he, k _ _ hv⟩⟩
theorem CallK_fn {P : Program} {K : Value → World → Prop} {w : World} {g : Nat} {args : List Value} (h : Exe P g args w K) : CallK P K w (.func (.func g) #[] #[]) args := by
  refine ⟨?_⟩
  unfold NK
  simp [Deferred.ofValue, invoke, h.1]
  exact h.2
/-- Reading a variable. -/
def LdV (P : Program) (w : World) (t : TypeId) (x : Value) (v : Value) : Prop := (Instr.loadAt t x).run P w = .ok v w
def retGo (P : Program) (R : Value → World → Prop) (e : Env) (w : World) : List ResultVar → List Value → Prop
  | [], [v] => R v w
  | [], acc => R (.tuple acc.toArray) w
  | .tmp t :: r, acc => retGo P R e w r (acc ++ [e t])
  | .cell a t :: r, acc => ∃ ad v, e a = .pointer (some ad) ∧ LdV P w t (.pointer (some ad)) v ∧ retGo P R e w r (acc ++ [v])
def retQ (P : Program) (rs : List ResultVar) (R : Value → World → Prop) : Exit → Env → World → Prop
  | .ret, e, w | .normal, e, w => retGo P R e w rs []
  | _, _, _ => False
theorem retGo_sound {ds : List Deferred} {P : Program} {R : Value → World → Prop} {n : Nat} {e : Env} {a : Act} {w : World} (hf : Fits ds n e a) : ∀ (rs : List ResultVar) (acc : List Value), retGo P R e w rs acc →
    ∃ vs, (rs.mapM (m := Sem) fun | .tmp t => pure (a.tmps.getD t undef) | .cell ad t => do loadVar t (← asAddr (a.tmps.getD ad undef))).run P w = .ok vs w ∧ R (if h : (acc ++ vs).length = 1 then (acc ++ vs)[0] else .tuple (acc ++ vs).toArray) w
  | [], [], h => ⟨[], rfl, h⟩
  | [], [v], h => ⟨[], rfl, h⟩
  | [], u :: v :: r, h => ⟨[], rfl, by
      simp only [List.append_nil]
      rw [dif_neg (by simp)]
      exact h⟩
  | .tmp t :: r, acc, h => by
    simp only [retGo] at h
    obtain ⟨vs, h1, h2⟩ := retGo_sound hf r _ h
    refine ⟨e t :: vs, ?_, by simpa using h2⟩
    rw [List.mapM_cons]
    simp only [Sem.run_bind, Sem.run_pure, Result.andThen_ok, h1, hf.2.2 t]
  | .cell ad t :: r, acc, h => by
    simp only [retGo] at h
    obtain ⟨x, v, hx, hl, h⟩ := h
    obtain ⟨vs, h1, h2⟩ := retGo_sound hf r _ h
    refine ⟨v :: vs, ?_, by simpa using h2⟩
    have hl' : (loadVar t x).run P w = .ok v w := by simpa [LdV, Instr.loadAt, Instr.sureAddr] using hl
    have ha : (asAddr (a.tmps.getD ad undef)).run P w = .ok x w := by rw [hf.2.2 ad, hx]; rfl
    rw [List.mapM_cons]
    simp only [Sem.run_bind, Sem.run_pure, Result.andThen_ok, ha, hl', h1]
def argEnv (args : List Value) : Env := fun t => args.getD t undef
theorem Exe.of_ev {P : Program} {T : Tab} (hT : T.Ok P) {g : Nat} {fn : Func} {c : Code} {args : List Value} {w : World} {R : Value → World → Prop} (hcall : ∀ asx w, (callFunc g asx).run P w = .ok (.enter g asx) w)
    (hfn : P.funcs[g]? = some fn) (hb : fn.body = some c) (hk : codeOk fn.ntmps c = true) (hn : Nat.ble args.length fn.ntmps = true)
    (h : ev P T fn.ntmps c (retQ P fn.results.toList R) (argEnv args) w) : Exe P g args w R := by
  refine ⟨hcall, calls_of_wp hfn hb ?_⟩
  have hn' := Nat.le_of_ble_eq_true hn
  refine wp_mono ((wpIn_wide (n := 0)).1 (ev_sound (ro := none) hT c _ _ w _ hk ⟨rfl, by simp; omega, fun t => ?_⟩ h)) ?_
  · simp only [argEnv, Array.getD_eq_getD_getElem?, List.getD_eq_getElem?_getD]
    rcases Nat.lt_or_ge t args.length with ht | ht
    · rw [Array.getElem?_append_left (by simpa using ht)]; simp
    · rw [Array.getElem?_append_right (by simpa using ht), List.getElem?_eq_none ht]
      simp only [Option.getD_none, Array.getElem?_replicate]
      split <;> rfl
  · rintro x a w' ⟨e, hf, hq⟩
    have key : retGo P R e w' fn.results.toList [] → a.defers = [] ∧ ∃ v, (results fn a.tmps).run P w' = .ok v w' ∧ ∃ v', Ending.returned v = .returned v' ∧ R v' w' := fun hr => by
      obtain ⟨vs, h1, h2⟩ := retGo_sound hf _ _ hr
      simp only [List.nil_append] at h2
      refine ⟨hf.1, _, ?_, _, rfl, h2⟩
      have h3 : (fn.results.mapM (m := Sem) fun | .tmp t => pure (a.tmps.getD t undef) | .cell ad t => do loadVar t (← asAddr (a.tmps.getD ad undef))).run P w' = .ok vs.toArray w' := by
        rw [← Array.toList_mapM, Sem.run_map] at h1
        cases hq : (fn.results.mapM (m := Sem) fun | .tmp t => pure (a.tmps.getD t undef) | .cell ad t => do loadVar t (← asAddr (a.tmps.getD ad undef))).run P w' with
        | ok b w'' =>
          rw [hq] at h1
          simp only [Result.andThen_ok, Result.ok.injEq] at h1
          obtain ⟨e1, e2⟩ := h1
          subst e2
          rw [← e1]
        | halt x w'' => rw [hq] at h1; simp at h1
      show ((fn.results.mapM (m := Sem) fun | .tmp t => pure (a.tmps.getD t undef) | .cell ad t => do loadVar t (← asAddr (a.tmps.getD ad undef))) >>= fun vs => pure (if h : vs.size = 1 then vs[0] else .tuple vs)).run P w' = _
      rw [Sem.run_bind, h3]
      rfl
    cases x with
    | ret => exact key hq
    | normal => exact key hq
    | _ => exact hq.elim
end Go.Wk
