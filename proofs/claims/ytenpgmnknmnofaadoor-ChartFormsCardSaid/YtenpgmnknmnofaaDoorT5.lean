/- Keys, their order, names. -/
import Derived.Test.YtenpgmnknmnofaaDoorWkTab
import Derived.Test.YtenpgmnknmnofaaDoorWkRow
namespace Go.Proofs.YtenpgmnknmnofaaDoor
open Go Go.Proofs Go.Wk
@[reducible] def CB (g : Nat) (args : List Value) (v : Value) : Prop := ∀ (w : World) (M I : BS), Hp ⟨w, M, I⟩ [] [] w → Ctr Tryd.prog g args w M I (fun _ : Unit => v) (fun _ => True) (fun _ => []) (fun _ => [])
theorem tdr : Tryd.prog.follows .mixedOrders = true := by kernel_rfl
theorem nan5 (a : Int) : CB 42 [.int .u8 a] (.bool false) := by
  intro w M I H
  refine Exe.of_ev tok Tryd.call42 Tryd.func42 rfl rfl rfl ?_
  refine Exists.intro () (And.intro (congrArg Value.bool ?_) (And.intro trivial H))
  simp
def cmpI (a b : Int) : Int := if a < b then -1 else if b < a then 1 else 0
theorem cmp5 (a b : Int) : CB 24 [.int .u8 a, .int .u8 b] (.int .i64 (cmpI a b)) := by
  intro w M I H
  refine Exe.of_ev tok Tryd.call24 Tryd.func24 rfl rfl rfl ?_
  refine call_rule H (fun M I _ h => nan5 a _ M I h) fun _ w1 _ H1 => ?_
  refine call_rule H1 (fun M I _ h => nan5 b _ M I h) fun _ w2 _ H2 => ?_
  refine brd (fun h => ?_) (fun h => ?_)
  · exact Exists.intro () (And.intro (congrArg (Value.int .i64) (by simp [cmpI, h])) (And.intro trivial H2))
  · refine brd (fun h2 => ?_) (fun h2 => ?_)
    · exact Exists.intro () (And.intro (congrArg (Value.int .i64) (by simp [cmpI, h, h2])) (And.intro trivial H2))
    · exact Exists.intro () (And.intro (congrArg (Value.int .i64) (by simp [cmpI, h, h2])) (And.intro trivial H2))
structure Key where
  loan : Int
  day : Int
  kind : Int
  seq : Int
deriving DecidableEq
@[reducible] def keyC (k : Key) : List Value := [.int .u32 k.loan, .int .i32 k.day, .int .u8 k.kind, .int .u32 k.seq]
@[reducible] def keyV (k : Key) : Value := .agg #[.int .u32 k.loan, .int .i32 k.day, .int .u8 k.kind, .int .u32 k.seq]
def orL : List Int → Int
  | [] => 0
  | x :: r => if x ≠ 0 then x else orL r
def lessB (a b : Key) : Bool := decide (orL [cmpI a.loan b.loan, cmpI a.day b.day, cmpI a.kind b.kind, cmpI a.seq b.seq] < 0)
theorem key_ (a : Key) : CB 38 [keyV a] (keyV a) := by
  intro w M I H
  refine Exe.of_ev tok Tryd.call38 Tryd.func38 rfl rfl rfl ?_
  refine box_as H (keyC a) rfl fun x w1 H1 => ?_
  refine alloc_rule tok H1 rfl rfl fun n w2 H2 => ?_
  refine load_rule tok H2 rfl ?_
  refine load_rule tok H2 rfl ?_
  refine load_rule tok H2 rfl ?_
  refine load_rule tok H2 rfl ?_
  refine store_rule tok H2 rfl rfl rfl rfl fun w3 H3 => ?_
  refine Exists.intro ⟨n, 0, none⟩ (Exists.intro (keyV a) (And.intro rfl (And.intro (Hp.ld (T := tb) tok H3 rfl) ?_)))
  exact Exists.intro () (And.intro rfl (And.intro trivial H3.dropAll))
def accL : List ByteArray := [⟨#[]⟩, ⟨#[99, 97, 115, 104]⟩, ⟨#[112, 114, 105, 110, 99, 105, 112, 97, 108]⟩, ⟨#[105, 110, 116, 101, 114, 101, 115, 116]⟩, ⟨#[102, 101, 101, 115]⟩, ⟨#[115, 117, 115, 112, 101, 110, 115, 101]⟩, ⟨#[105, 110, 99, 111, 109, 101]⟩, ⟨#[99, 104, 97, 114, 103, 101, 115]⟩, ⟨#[108, 111, 115, 115]⟩, ⟨#[114, 101, 99, 111, 118, 101, 114, 101, 100]⟩]
def kindL : List ByteArray := [⟨#[]⟩, ⟨#[98, 111, 97, 114, 100]⟩, ⟨#[97, 99, 99, 114, 117, 101]⟩, ⟨#[108, 97, 116, 101]⟩, ⟨#[112, 97, 121]⟩, ⟨#[102, 101, 101]⟩, ⟨#[119, 97, 105, 118, 101]⟩, ⟨#[111, 102, 102]⟩]
def accName (k : Int) : ByteArray := (accL[k.toNat]?).getD ⟨#[]⟩
def kindName (k : Int) : ByteArray := (kindL[k.toNat]?).getD ⟨#[]⟩
theorem account (k : Int) (h0 : 0 ≤ k) (h1 : k ≤ 255) : CB 20 [.int .u8 k] (.string (accName k)) := by
  intro w M I H
  refine Exe.of_ev tok Tryd.call20 Tryd.func20 rfl rfl rfl ?_
  refine slice_as tok H (accL.map Value.string) rfl rfl rfl rfl rfl rfl fun g w1 H1 => ?_
  have e : IntKind.i64.wrap k = k := w64 (by omega) (by omega)
  refine brd (fun h => ?_) (fun h => ?_)
  · refine Exists.intro () (And.intro (congrArg Value.string ?_) (And.intro trivial H1.drop))
    rw [e] at h
    have : accL.length ≤ k.toNat := by show 10 ≤ _; omega
    simp [accName, List.getElem?_eq_none this]
  · rw [e] at h
    refine idx_own tok rfl rfl h0 (by omega) ?_
    have hlt : k.toNat < accL.length := by show _ < 10; omega
    refine load_rule tok H1 (v := .string (accName k)) ?_ ?_
    · show (accL.map Value.string)[0 + k.toNat * 1]? = _
      simp [accName, List.getElem?_eq_getElem hlt]
    · exact Exists.intro () (And.intro rfl (And.intro trivial H1.drop))
theorem kind (k : Int) (h0 : 0 ≤ k) (h1 : k ≤ 255) : CB 26 [.int .u8 k] (.string (kindName k)) := by
  intro w M I H
  refine Exe.of_ev tok Tryd.call26 Tryd.func26 rfl rfl rfl ?_
  refine slice_as tok H (kindL.map Value.string) rfl rfl rfl rfl rfl rfl fun g w1 H1 => ?_
  have e : IntKind.i64.wrap k = k := w64 (by omega) (by omega)
  refine brd (fun h => ?_) (fun h => ?_)
  · refine Exists.intro () (And.intro (congrArg Value.string ?_) (And.intro trivial H1.drop))
    rw [e] at h
    have : kindL.length ≤ k.toNat := by show 8 ≤ _; omega
    simp [kindName, List.getElem?_eq_none this]
  · rw [e] at h
    refine idx_own tok rfl rfl h0 (by omega) ?_
    have hlt : k.toNat < kindL.length := by show _ < 8; omega
    refine load_rule tok H1 (v := .string (kindName k)) ?_ ?_
    · show (kindL.map Value.string)[0 + k.toNat * 1]? = _
      simp [kindName, List.getElem?_eq_getElem hlt]
    · exact Exists.intro () (And.intro rfl (And.intro trivial H1.drop))
end Go.Proofs.YtenpgmnknmnofaaDoor
