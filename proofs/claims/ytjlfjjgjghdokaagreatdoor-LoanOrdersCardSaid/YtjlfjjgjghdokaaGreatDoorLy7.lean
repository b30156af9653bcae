/- Keys, their order, names. -/
import Derived.Test.YtjlfjjgjghdokaaGreatDoorLy6
import Derived.Lib.BitFns
import Derived.Lib.ParseIntB
import Derived.Lib.SplitLaws
import Derived.Lib.Join
import Derived.Lib.ItoaMem
namespace Go.Proofs.YtjlfjjgjghdokaaGreatDoor
open Go Go.Proofs Go.Wk
@[reducible] def CB [Wk.Mode] (g : Nat) (args : List Value) (v : Value) : Prop := ∀ (w : World) (M I : BS), Hp ⟨w, M, I⟩ [] [] w → Ctr Tryz.prog g args w M I (fun _ : Unit => v) (fun _ => True) (fun _ => []) (fun _ => [])
theorem tdr : Tryz.prog.follows .mixedOrders = true := by kernel_rfl
def cmpI (a b : Int) : Int := if a < b then -1 else if b < a then 1 else 0
structure Key where
  loan : Int
  day : Int
  kind : Int
  seq : Int
deriving DecidableEq
@[reducible] def keyC (k : Key) : List Value := [.int .u32 k.loan, .int .i32 k.day, .int .u8 k.kind, .int .u32 k.seq]
@[reducible] def keyV (k : Key) : Value := .agg #[.int .u32 k.loan, .int .i32 k.day, .int .u8 k.kind, .int .u32 k.seq]
def orL : List Int → Int
  | [] => 0
  | x :: r => if x ≠ 0 then x else orL r
def lessB (a b : Key) : Bool := decide (orL [cmpI a.loan b.loan, cmpI a.day b.day, cmpI a.kind b.kind, cmpI a.seq b.seq] < 0)
def accL : List ByteArray := [⟨#[]⟩, ⟨#[99, 97, 115, 104]⟩, ⟨#[112, 114, 105, 110, 99, 105, 112, 97, 108]⟩, ⟨#[105, 110, 116, 101, 114, 101, 115, 116]⟩, ⟨#[102, 101, 101, 115]⟩, ⟨#[115, 117, 115, 112, 101, 110, 115, 101]⟩, ⟨#[105, 110, 99, 111, 109, 101]⟩, ⟨#[99, 104, 97, 114, 103, 101, 115]⟩, ⟨#[108, 111, 115, 115]⟩, ⟨#[114, 101, 99, 111, 118, 101, 114, 101, 100]⟩]
def kindL : List ByteArray := [⟨#[]⟩, ⟨#[98, 111, 97, 114, 100]⟩, ⟨#[97, 99, 99, 114, 117, 101]⟩, ⟨#[108, 97, 116, 101]⟩, ⟨#[112, 97, 121]⟩, ⟨#[102, 101, 101]⟩, ⟨#[119, 97, 105, 118, 101]⟩, ⟨#[111, 102, 102]⟩]
def accName (k : Int) : ByteArray := (accL[k.toNat]?).getD ⟨#[]⟩
def kindName (k : Int) : ByteArray := (kindL[k.toNat]?).getD ⟨#[]⟩
theorem kind (k : Int) (h0 : 0 ≤ k) (h1 : k ≤ 255) : CB 50 [.int .u8 k] (.string (kindName k)) := by
  intro w M I H
  refine Exe.of_ev tok Tryz.call50 Tryz.func50 rfl rfl rfl ?_
  refine slice_as tok H (kindL.map Value.string) rfl rfl rfl rfl rfl rfl fun g w1 H1 => ?_
  have e : IntKind.i64.wrap k = k := w64 (by omega) (by omega)
  refine brd (fun h => ?_) (fun h => ?_)
  · refine Exists.intro () (And.intro (congrArg Value.string ?_) (And.intro trivial H1.drop))
    rw [e] at h
    have : kindL.length ≤ k.toNat := by show 8 ≤ _; omega
    simp [kindName, List.getElem?_eq_none this]
  · rw [e] at h
    refine idx_own tok rfl rfl h0 (by omega) ?_
    have hlt : k.toNat < kindL.length := by show _ < 8; omega
    refine load_rule tok H1 (v := .string (kindName k)) ?_ ?_
    · show (kindL.map Value.string)[0 + k.toNat * 1]? = _
      simp [kindName, List.getElem?_eq_getElem hlt]
    · exact Exists.intro () (And.intro rfl (And.intro trivial H1.drop))
end Go.Proofs.YtjlfjjgjghdokaaGreatDoor
namespace Go.Proofs.YtjlfjjgjghdokaaGreatDoor
open Go Go.Proofs Go.Wk
structure Leg where
  acct : Int
  amt : Int
deriving DecidableEq
@[reducible] def legV (x : Leg) : Value := .agg #[.int .u8 x.acct, .int .i64 x.amt]
@[reducible] def legR : Rp Leg := ⟨2, Unit, fun x _ => [.int .u8 x.acct, .int .i64 x.amt], fun x _ => inK .u8 x.acct ∧ inK .i64 x.amt, fun _ _ => [], fun _ _ => rfl⟩
def legsC : List Leg → List Value
  | [] => []
  | x :: r => .int .u8 x.acct :: .int .i64 x.amt :: legsC r
theorem legsC_len : ∀ ls : List Leg, (legsC ls).length = ls.length * 2
  | [] => rfl
  | x :: r => by simp only [legsC, List.length_cons, legsC_len r]; omega
theorem legsC_drop : ∀ (ls : List Leg) (j : Nat), (legsC ls).drop (j * 2) = legsC (ls.drop j)
  | ls, 0 => by simp
  | [], j + 1 => by simp [legsC]
  | x :: r, j + 1 => by
    rw [show (j + 1) * 2 = j * 2 + 1 + 1 by omega]
    simp only [legsC, List.drop_succ_cons]
    exact legsC_drop r j
theorem legsC_app : ∀ a b : List Leg, legsC (a ++ b) = legsC a ++ legsC b
  | [], _ => rfl
  | x :: a, b => by simp [legsC, legsC_app a b]
theorem legs_set : ∀ (ls : List Leg) (j : Nat) (x : Leg), setL (legsC ls) (0 + j * 2) [.int .u8 x.acct, .int .i64 x.amt] = legsC (ls.set j x)
  | [], j, x => by simp [legsC, setL]
  | y :: r, 0, x => rfl
  | y :: r, j + 1, x => by
    have ih := legs_set r j x
    rw [show 0 + (j + 1) * 2 = 0 + j * 2 + 1 + 1 by omega]
    simp only [legsC, setL, List.set_cons_succ] at ih ⊢
    rw [← ih]
theorem str_idx {P : Program} {T : Tab} {K : Value → World → Prop} {w : World} (hT : T.Ok P) {t : TypeId} {it : TypeInfo} {s : ByteArray} {kd : IntKind} {j : Int} (ht : T t = some ⟨.string, it⟩) (h0 : 0 ≤ j) (h1 : j.toNat < s.size) (k : ∀ b : Int, 0 ≤ b → b ≤ 255 → K (.int .u8 b) w) : IndexK P K w t (.string s) (.int kd j) := by
  obtain ⟨b, hb⟩ : ∃ b, s[j.toNat]? = some b := ⟨_, getElem?_pos s j.toNat h1⟩
  refine IndexK.of (v := .int .u8 b.toNat) (w' := w) ?_ (k b.toNat (by omega) (by have := b.toNat_lt; omega))
  simp [Instr.index, asIntOf, run_und hT ht, h0, hb]
@[reducible] def CI (g : Nat) (args : List Value) : Prop := ∀ (w : World) (M I : BS), Hp ⟨w, M, I⟩ [] [] w → Ctr Tryz.prog g args w M I (fun v : Int => .int .i64 v) (fun _ => True) (fun _ => []) (fun _ => [])
theorem len64 (x : Int) (h0 : 0 ≤ x) (h1 : x ≤ 200) : CI 177 [.int .u64 x] := by
  intro w M I H
  refine Exe.of_ev tok Tryz.call177 Tryz.func177 rfl rfl rfl ?_
  refine brd (fun h => ?_) (fun _ => ?_)
  · omega
  refine brd (fun h => ?_) (fun _ => ?_)
  · omega
  refine brd (fun h => ?_) (fun _ => ?_)
  · omega
  have e : IntKind.u8.wrap x = x := wrap_id ⟨by simpa [kLo] using h0, by simp only [kHi]; omega⟩
  refine str_idx tok rfl (by rw [e]; exact h0) (by rw [e]; exact Nat.lt_of_lt_of_le (show x.toNat < 201 by omega) (Nat.le_of_ble_eq_true (by kernel_rfl))) fun b hb0 hb1 => ?_
  exact Exists.intro _ (And.intro rfl (And.intro trivial H))
def srt (l : List Leg) : Prop := l.Pairwise fun a b => a.acct ≤ b.acct
def in64 (n : Int) : Bool := decide (-9223372036854775808 ≤ n) && decide (n ≤ 9223372036854775807)
def addV (a b : Int) : Value := if in64 (a + b) then .tuple #[.int .i64 (a + b), .nilIface] else .tuple #[.int .i64 0, .iface 100 (.int .i64 12)]
theorem wrap_hi {n : Int} (h1 : 9223372036854775807 < n) (h2 : n ≤ 18446744073709551614) : IntKind.i64.wrap n = n - 18446744073709551616 := by
  simp [IntKind.wrap, IntKind.signed, IntKind.bits]; omega
theorem wrap_lo {n : Int} (h1 : n < -9223372036854775808) (h2 : -18446744073709551616 ≤ n) : IntKind.i64.wrap n = n + 18446744073709551616 := by
  simp [IntKind.wrap, IntKind.signed, IntKind.bits]; omega
theorem addV_no {a b : Int} (en : in64 (a + b) = false) : Value.tuple #[.int .i64 0, .iface 100 (.int .i64 12)] = addV a b := by unfold addV; rw [en]; rfl
theorem addV_ok {a b : Int} (en : in64 (a + b) = true) : Value.tuple #[.int .i64 (a + b), .nilIface] = addV a b := by unfold addV; rw [en]; rfl
end Go.Proofs.YtjlfjjgjghdokaaGreatDoor
/- An entry made of legs: the walk. -/
namespace Go.Proofs.YtjlfjjgjghdokaaGreatDoor
open Go Go.Proofs Go.Wk
def sumGo : List Leg → List (Int × Int) → Option (List (Int × Int))
  | [], m => some m
  | l :: r, m => if in64 ((lk l.acct m).getD 0 + l.amt) then sumGo r (putL l.acct ((lk l.acct m).getD 0 + l.amt) m) else none
@[reducible] def pairL (p : Int × Int) : Leg := ⟨p.1, p.2⟩
/-- What 'Make' makes of legs. -/
def made (legs out : List Leg) : Prop := match sumGo legs [] with
  | none => out = []
  | some m => out.Perm (m.map pairL) ∧ srt out
@[reducible] def entC (k : Key) (A : Option Addr) (n c : Nat) : List Value := [.int .u32 k.loan, .int .i32 k.day, .int .u8 k.kind, .int .u32 k.seq, .slice A n c]
@[reducible] def zeroC : List Value := [.int .u32 0, .int .i32 0, .int .u8 0, .int .u32 0, .slice none 0 0]
structure SV where
  A : Option Addr
  n : Nat
  c : Nat
theorem mem_putL {κ ν : Type} [DecidableEq κ] {k : κ} {v : ν} : ∀ {l : List (κ × ν)} {p : κ × ν}, p ∈ putL k v l → p = (k, v) ∨ p ∈ l
  | [], p, h => by simpa [putL] using h
  | q :: l, p, h => by
    unfold putL at h
    split at h
    · rcases List.mem_cons.1 h with h | h
      · exact .inl h
      · exact .inr (List.mem_cons_of_mem _ h)
    · rcases List.mem_cons.1 h with h | h
      · exact .inr (h ▸ List.mem_cons_self)
      · exact (mem_putL h).imp id (List.mem_cons_of_mem _)
theorem len_putL {κ ν : Type} [DecidableEq κ] {k : κ} {v : ν} : ∀ {l : List (κ × ν)}, (putL k v l).length ≤ l.length + 1
  | [] => by simp [putL]
  | q :: l => by
    unfold putL
    split
    · simp
    · simp only [List.length_cons]; have := len_putL (k := k) (v := v) (l := l); omega
theorem lk_mem {κ ν : Type} [DecidableEq κ] {k : κ} {v : ν} : ∀ {l : List (κ × ν)}, lk k l = some v → (k, v) ∈ l
  | [], h => by cases h
  | q :: l, h => by
    unfold lk at h
    split at h
    · rename_i hk
      rw [← hk, ← Option.some.inj h]; exact List.mem_cons_self
    · exact List.mem_cons_of_mem _ (lk_mem h)
end Go.Proofs.YtjlfjjgjghdokaaGreatDoor
/- May an entry be: the walk. -/
namespace Go.Proofs.YtjlfjjgjghdokaaGreatDoor
open Go Go.Proofs Go.Wk
def dayB (d : Int) : Bool := decide (0 ≤ d) && decide (d ≤ 3652058)
theorem dayRight (d : Int) : CB 51 [.int .i32 d] (.bool (dayB d)) := by
  intro w M I H
  refine Exe.of_ev tok Tryz.call51 Tryz.func51 rfl rfl rfl ?_
  refine brd (fun h => ?_) (fun h => ?_)
  · refine Exists.intro () (And.intro (congrArg Value.bool ?_) (And.intro trivial H))
    unfold dayB
    rw [decide_eq_true h]; rfl
  · refine Exists.intro () (And.intro (congrArg Value.bool ?_) (And.intro trivial H))
    unfold dayB
    rw [decide_eq_false h]; rfl
def noB (s : ByteArray) : Bool := s.toList == (⟨#[]⟩ : ByteArray).toList
def rightGo (s last : Int) : List Leg → Bool
  | [] => s == 0
  | l :: r => bif in64 (s + l.amt) then (bif decide (l.acct ≤ last) then false else bif noB (accName l.acct) then false else rightGo (s + l.amt) l.acct r) else false
def rightB (k : Key) (ls : List Leg) : Bool := bif noB (kindName k.kind) then false else bif !dayB k.day then false else bif (ls.length : Int) == 0 then false else bif decide (8 < (ls.length : Int)) then false else rightGo 0 0 ls
end Go.Proofs.YtjlfjjgjghdokaaGreatDoor
/- Keys stand in the order: the walk. -/
namespace Go.Proofs.YtjlfjjgjghdokaaGreatDoor
open Go Go.Proofs Go.Wk
def eqK (a b : Key) : Bool := a.loan == b.loan && (a.day == b.day && (a.kind == b.kind && (a.seq == b.seq && true)))
end Go.Proofs.YtjlfjjgjghdokaaGreatDoor
namespace Go.Proofs.YtjlfjjgjghdokaaGreatDoor
open Go Go.Proofs Go.Wk
theorem legs_one (x : Leg) : ∀ u, u ∈ ([.int .u8 x.acct, .int .i64 x.amt] : List Value) → u.oneCell' = true := by
  intro u hu
  simp only [List.mem_cons, List.not_mem_nil, or_false] at hu
  rcases hu with rfl | rfl <;> rfl
theorem legs_ok {w : World} {B : Base} {S : List Asn} {F : List Fact} (H : Hp B S F w) {A : Option Addr} {n c : Nat} {ls : List Leg} [hp : InSl F A n c legR ls] : ∀ x, x ∈ ls → inK .u8 x.acct ∧ inK .i64 x.amt := fun x hx => by
  obtain ⟨I, fp, _, ha, _⟩ := H.ex
  obtain ⟨A', c', _, _, _, _, hel⟩ := ha _ hp.mem
  obtain ⟨i, hi⟩ := List.mem_iff_getElem?.1 hx
  obtain ⟨b, o, _, _, p, hok, _⟩ := hel i x hi
  exact hok
theorem frzLegsRow {w : World} {B : Base} {S S' : List Asn} {F : List Fact} (H : Hp B S F w) {v : Value} {e n : Nat} (ls : List Leg) (hM : ∀ b, ¬ B.M b) [h1 : TakeR S v e 2 n (legsC ls) S'] (hok : ∀ x, x ∈ ls → inK .u8 x.acct ∧ inK .i64 x.amt) : Hp B S' (Sl legR v ls :: F) w := by
  have hcl : ∀ i x, ls[i]? = some x → ∃ p : Unit, (inK .u8 x.acct ∧ inK .i64 x.amt) ∧ ((legsC ls).drop (i * 2)).take 2 = [.int .u8 x.acct, .int .i64 x.amt] ∧ ([] : List Fact) = [] := fun i x hx => by
    obtain ⟨hj, _⟩ := List.getElem?_eq_some_iff.1 hx
    refine ⟨(), hok x (List.mem_of_getElem? hx), ?_, rfl⟩
    rw [legsC_drop, List.drop_eq_getElem_cons hj]
    rw [List.getElem?_eq_getElem hj] at hx
    rw [Option.some.inj hx]
    rfl
  have H2 := (H.addCl legR (cs := legsC ls) (xs := ls) (legsC_len ls) hcl).frzRow (v := v) (xs := ls) legR hM rfl (by decide)
  refine H2.facts fun I ha f hf => ha f ?_
  rcases List.mem_cons.1 hf with rfl | hf
  · exact List.mem_cons_self
  · exact List.mem_cons_of_mem _ (List.mem_cons_of_mem _ hf)
end Go.Proofs.YtjlfjjgjghdokaaGreatDoor
/- The document's own sum, and its entry: the walk. -/
namespace Go.Proofs.YtjlfjjgjghdokaaGreatDoor
open Go Go.Proofs Go.Wk
end Go.Proofs.YtjlfjjgjghdokaaGreatDoor
/- The document's word on entries that are alike, and on those that may be: the walk. -/
namespace Go.Proofs.YtjlfjjgjghdokaaGreatDoor
open Go Go.Proofs Go.Wk
def legEq (x y : Leg) : Bool := x.acct == y.acct && (x.amt == y.amt && true)
def legsEq : List Leg → List Leg → Bool
  | [], [] => true
  | x :: r, y :: s => legEq x y && legsEq r s
  | _, _ => false
def sameB (k l : Key) (a b : List Leg) : Bool := eqK k l && legsEq a b
theorem legsEq_len : ∀ {a b : List Leg}, a.length ≠ b.length → legsEq a b = false
  | [], [], h => absurd rfl h
  | [], _ :: _, _ => rfl
  | _ :: _, [], _ => rfl
  | x :: r, y :: s, h => by
    rw [legsEq, legsEq_len (by simpa using h), Bool.and_false]
end Go.Proofs.YtjlfjjgjghdokaaGreatDoor
/- Which entries may be, by the document: the walk. -/
namespace Go.Proofs.YtjlfjjgjghdokaaGreatDoor
open Go Go.Proofs Go.Wk
end Go.Proofs.YtjlfjjgjghdokaaGreatDoor
namespace Go.Proofs.YtjlfjjgjghdokaaGreatDoor
open Go Go.Proofs Go.Wk
end Go.Proofs.YtjlfjjgjghdokaaGreatDoor
/- The program's word on entries that may be is the document's. -/
namespace Go.Proofs.YtjlfjjgjghdokaaGreatDoor
open Go Go.Proofs Go.Wk
end Go.Proofs.YtjlfjjgjghdokaaGreatDoor
namespace Go.Proofs.YtjlfjjgjghdokaaGreatDoor
open Go Go.Proofs Go.Wk
theorem lk_putL {a k : Int} {v : Int} : ∀ {m : List (Int × Int)}, lk k (putL a v m) = if a = k then some v else lk k m
  | [] => by
    unfold putL lk
    by_cases h : a = k
    · simp [h]
    · simp [h, lk]
  | q :: m => by
    unfold putL
    by_cases hq : q.1 = a
    · rw [if_pos hq]
      unfold lk
      by_cases h : a = k
      · simp [h]
      · have : q.1 ≠ k := by rw [hq]; exact h
        simp [h, this]
    · rw [if_neg hq]
      unfold lk
      rw [lk_putL (m := m)]
      by_cases h : a = k
      · subst h; simp [hq]
      · simp [h]
def rise (l : List Leg) : Prop := l.Pairwise fun a b => a.acct < b.acct
theorem rise_eq : ∀ {a b : List Leg}, rise a → rise b → (∀ x, x ∈ a ↔ x ∈ b) → a = b
  | [], [], _, _, _ => rfl
  | [], y :: b, _, _, h => absurd ((h y).2 List.mem_cons_self) (by simp)
  | x :: a, [], _, _, h => absurd ((h x).1 List.mem_cons_self) (by simp)
  | x :: a, y :: b, ha, hb, h => by
    obtain ⟨ha1, ha2⟩ := List.pairwise_cons.1 ha
    obtain ⟨hb1, hb2⟩ := List.pairwise_cons.1 hb
    have hxy : x = y := by
      rcases List.mem_cons.1 ((h x).1 List.mem_cons_self) with e | e
      · exact e
      · rcases List.mem_cons.1 ((h y).2 List.mem_cons_self) with e2 | e2
        · exact e2.symm
        · have q1 := hb1 x e
          have q2 := ha1 y e2
          omega
    subst hxy
    rw [rise_eq ha2 hb2 fun z => ⟨fun hz => ?_, fun hz => ?_⟩]
    · rcases List.mem_cons.1 ((h z).1 (List.mem_cons_of_mem _ hz)) with e | e
      · have := ha1 z hz; rw [e] at this; omega
      · exact e
    · rcases List.mem_cons.1 ((h z).2 (List.mem_cons_of_mem _ hz)) with e | e
      · have := hb1 z hz; rw [e] at this; omega
      · exact e
theorem putL_keys {a v : Int} : ∀ {m : List (Int × Int)} (k : Int), k ∈ (putL a v m).map Prod.fst → k = a ∨ k ∈ m.map Prod.fst
  | [], k, h => by simpa [putL] using h
  | q :: m, k, h => by
    unfold putL at h
    split at h
    · simp only [List.map_cons, List.mem_cons] at h ⊢
      exact h.imp id .inr
    · simp only [List.map_cons, List.mem_cons] at h ⊢
      rcases h with h | h
      · exact .inr (.inl h)
      · exact (putL_keys k h).imp id .inr
theorem putL_nodup {a v : Int} : ∀ {m : List (Int × Int)}, (m.map Prod.fst).Nodup → ((putL a v m).map Prod.fst).Nodup
  | [], _ => by simp [putL]
  | q :: m, h => by
    simp only [List.map_cons, List.nodup_cons] at h
    unfold putL
    split
    · rename_i hq
      simp only [List.map_cons, List.nodup_cons]
      rw [← hq]; exact h
    · rename_i hq
      simp only [List.map_cons, List.nodup_cons]
      exact ⟨fun hm => (putL_keys _ hm).elim hq h.1, putL_nodup h.2⟩
theorem sumGo_nodup : ∀ {ls : List Leg} {m m' : List (Int × Int)}, (m.map Prod.fst).Nodup → sumGo ls m = some m' → (m'.map Prod.fst).Nodup
  | [], m, m', h, e => by simp only [sumGo, Option.some.injEq] at e; subst e; exact h
  | l :: r, m, m', h, e => by
    unfold sumGo at e
    split at e
    · exact sumGo_nodup (putL_nodup h) e
    · cases e
theorem lk_iff {k v : Int} : ∀ {m : List (Int × Int)}, (m.map Prod.fst).Nodup → ((k, v) ∈ m ↔ lk k m = some v)
  | [], _ => by simp [lk]
  | q :: m, h => by
    simp only [List.map_cons, List.nodup_cons] at h
    unfold lk
    by_cases hq : q.1 = k
    · rw [if_pos hq]
      constructor
      · intro hm
        rcases List.mem_cons.1 hm with e | e
        · rw [← e]
        · exact absurd (List.mem_map_of_mem (f := Prod.fst) e) (by rw [← hq]; exact h.1)
      · intro e
        rw [← hq, ← Option.some.inj e]; exact List.mem_cons_self
    · rw [if_neg hq, ← lk_iff h.2]
      constructor
      · intro hm
        rcases List.mem_cons.1 hm with e | e
        · rw [← e] at hq; exact absurd rfl hq
        · exact e
      · exact List.mem_cons_of_mem _
end Go.Proofs.YtjlfjjgjghdokaaGreatDoor
namespace Go.Proofs.YtjlfjjgjghdokaaGreatDoor
open Go Go.Proofs Go.Wk
theorem legsEq_self : ∀ l : List Leg, legsEq l l = true
  | [] => rfl
  | x :: r => by simp [legsEq, legEq, legsEq_self r]
end Go.Proofs.YtjlfjjgjghdokaaGreatDoor
namespace Go.Proofs.YtjlfjjgjghdokaaGreatDoor
open Go Go.Proofs Go.Wk
def ofV (a : Int) : List Leg → Int
  | [] => 0
  | x :: r => if x.acct = a then x.amt else ofV a r
end Go.Proofs.YtjlfjjgjghdokaaGreatDoor
/- Legs in whatever order: the walk. -/
namespace Go.Proofs.YtjlfjjgjghdokaaGreatDoor
open Go Go.Proofs Go.Wk
end Go.Proofs.YtjlfjjgjghdokaaGreatDoor
/- Legs in whatever order: the plain law. -/
namespace Go.Proofs.YtjlfjjgjghdokaaGreatDoor
open Go Go.Proofs Go.Wk
end Go.Proofs.YtjlfjjgjghdokaaGreatDoor
/- How many bytes a number takes; numbers asx bytes: the walks. -/
namespace Go.Proofs.YtjlfjjgjghdokaaGreatDoor
open Go Go.Proofs Go.Wk
theorem shr_div {x s : Nat} {k : IntKind} (h : s ≤ k.bits) : ((x : Int)).fdiv (2 ^ min ((s : Int)).toNat k.bits) = ((x / 2 ^ s : Nat) : Int) := by
  rw [Int.toNat_natCast, Nat.min_eq_left h]
  have : ((2 : Int) ^ s) = ((2 ^ s : Nat) : Int) := by simp
  rw [this]
  exact (Int.ofNat_fdiv x (2 ^ s)).symm
end Go.Proofs.YtjlfjjgjghdokaaGreatDoor
/- Numbers asx bytes: the walks. -/
namespace Go.Proofs.YtjlfjjgjghdokaaGreatDoor
open Go Go.Proofs Go.Wk
end Go.Proofs.YtjlfjjgjghdokaaGreatDoor
/- Numbers with a sign asx bytes; all of it; bytes of one's own: the walks. -/
namespace Go.Proofs.YtjlfjjgjghdokaaGreatDoor
open Go Go.Proofs Go.Wk
end Go.Proofs.YtjlfjjgjghdokaaGreatDoor
/- An entry's bytes: the walk. -/
namespace Go.Proofs.YtjlfjjgjghdokaaGreatDoor
open Go Go.Proofs Go.Wk
@[reducible] def legIn (x : Leg) : Prop := inK .u8 x.acct ∧ inK .i64 x.amt
@[reducible] def keyIn (k : Key) : Prop := inK .u32 k.loan ∧ inK .i32 k.day ∧ inK .u8 k.kind ∧ inK .u32 k.seq
theorem right_day {k : Key} {ls : List Leg} (h : rightB k ls = true) : 0 ≤ k.day ∧ ls.length ≤ 8 ∧ ls.length ≠ 0 := by
  unfold rightB at h
  cases h1 : noB (kindName k.kind) <;> rw [h1] at h <;> simp only [cond_true, cond_false] at h
  · cases h2 : dayB k.day <;> rw [h2] at h <;> simp only [Bool.not_true, Bool.not_false, cond_true, cond_false] at h
    · cases h
    · cases h3 : ((ls.length : Int) == 0) <;> rw [h3] at h <;> simp only [cond_true, cond_false] at h
      · cases h4 : decide (8 < (ls.length : Int)) <;> rw [h4] at h <;> simp only [cond_true, cond_false] at h
        · simp only [dayB, Bool.and_eq_true, decide_eq_true_eq] at h2
          simp only [beq_eq_false_iff_ne, ne_eq] at h3
          simp only [decide_eq_false_iff_not] at h4
          omega
        · cases h
      · cases h
  · cases h
end Go.Proofs.YtjlfjjgjghdokaaGreatDoor
/- Bytes alike; bytes tell the entry: walk and plain law. -/
namespace Go.Proofs.YtjlfjjgjghdokaaGreatDoor
open Go Go.Proofs Go.Wk
theorem legsEq_iff : ∀ {a b : List Leg}, legsEq a b = true ↔ a = b
  | [], [] => by simp [legsEq]
  | [], _ :: _ => by simp [legsEq]
  | _ :: _, [] => by simp [legsEq]
  | x :: r, y :: s => by
    rw [legsEq, Bool.and_eq_true, legsEq_iff, List.cons.injEq]
    obtain ⟨xa, xm⟩ := x
    obtain ⟨ya, ym⟩ := y
    simp [legEq]
theorem eqK_iff {k l : Key} : eqK k l = true ↔ k = l := by
  obtain ⟨x1, x2, x3, x4⟩ := k
  obtain ⟨y1, y2, y3, y4⟩ := l
  simp [eqK]
end Go.Proofs.YtjlfjjgjghdokaaGreatDoor
namespace Go.Proofs.YtjlfjjgjghdokaaGreatDoor
open Go Go.Proofs Go.Wk
@[reducible] def negR (v : Int) : Value := if v = -9223372036854775808 then .tuple #[.int .i64 0, .iface 100 (.int .i64 12)] else .tuple #[.int .i64 (-v), .nilIface]
def negL (x : Leg) : Leg := ⟨x.acct, -x.amt⟩
/-- Do all amounts and all sums have an other way? -/
def turnGo (s : Int) : List Leg → Bool
  | [] => true
  | x :: r => !decide (x.amt = -9223372036854775808) && (!decide (s + x.amt = -9223372036854775808) && turnGo (s + x.amt) r)
theorem turn_min : ∀ {ls : List Leg} {s : Int} {x : Leg}, x ∈ ls → x.amt = -9223372036854775808 → turnGo s ls = false
  | [], _, _, h, _ => by cases h
  | y :: r, s, x, h, e => by
    unfold turnGo
    rcases List.mem_cons.1 h with rfl | h
    · rw [decide_eq_true e]; rfl
    · rw [turn_min h e, Bool.and_false, Bool.and_false]
theorem turn_right : ∀ {ls : List Leg} {s last : Int}, inK .i64 s → s ≠ -9223372036854775808 → (∀ x, x ∈ ls → x.amt ≠ -9223372036854775808 ∧ inK .i64 x.amt) → rightGo s last ls = true → rightGo (-s) last (ls.map negL) = turnGo s ls
  | [], s, last, _, _, _, h => by
    simp only [rightGo, beq_iff_eq] at h
    subst h; rfl
  | x :: r, s, last, hs, hm, ha, h => by
    obtain ⟨hx1, hx2⟩ := ha x List.mem_cons_self
    have hs : -9223372036854775808 ≤ s ∧ s ≤ 9223372036854775807 := hs
    have hx2 : -9223372036854775808 ≤ x.amt ∧ x.amt ≤ 9223372036854775807 := hx2
    unfold rightGo at h
    cases h1 : in64 (s + x.amt) <;> rw [h1] at h <;> simp only [cond_true, cond_false] at h
    · cases h
    · cases h2 : decide (x.acct ≤ last) <;> rw [h2] at h <;> simp only [cond_true, cond_false] at h
      · cases h3 : noB (accName x.acct) <;> rw [h3] at h <;> simp only [cond_true, cond_false] at h
        · simp only [in64, Bool.and_eq_true, decide_eq_true_eq] at h1
          simp only [List.map_cons, rightGo, turnGo, negL, h2, h3, cond_false]
          rw [decide_eq_false hx1, Bool.not_false, Bool.true_and, show -s + -x.amt = -(s + x.amt) by omega]
          by_cases hq : s + x.amt = -9223372036854775808
          · rw [decide_eq_true hq, Bool.not_true, Bool.false_and]
            have : in64 (-(s + x.amt)) = false := by
              unfold in64
              rw [decide_eq_false (show ¬ -(s + x.amt) ≤ 9223372036854775807 by omega), Bool.and_false]
            rw [this]; rfl
          · rw [decide_eq_false hq, Bool.not_false, Bool.true_and]
            have : in64 (-(s + x.amt)) = true := by
              unfold in64
              rw [decide_eq_true (show -9223372036854775808 ≤ -(s + x.amt) by omega), decide_eq_true (show -(s + x.amt) ≤ 9223372036854775807 by omega)]; rfl
            rw [this, cond_true]
            exact turn_right (s := s + x.amt) ⟨h1.1, h1.2⟩ hq (fun y hy => ha y (List.mem_cons_of_mem _ hy)) h
        · cases h
      · cases h
theorem rightB_neg {k : Key} {ls : List Leg} (ha : ∀ x, x ∈ ls → x.amt ≠ -9223372036854775808 ∧ inK .i64 x.amt) (h : rightB k ls = true) : rightB k (ls.map negL) = turnGo 0 ls := by
  have key : rightGo 0 0 ls = true → rightGo 0 0 (ls.map negL) = turnGo 0 ls := fun h => turn_right (s := 0) (last := 0) ⟨by decide, by decide⟩ (by decide) ha h
  unfold rightB at h ⊢
  rw [List.length_map]
  cases h1 : noB (kindName k.kind) <;> rw [h1] at h <;> simp only [cond_true, cond_false] at h ⊢
  · cases h2 : dayB k.day <;> rw [h2] at h <;> simp only [Bool.not_true, Bool.not_false, cond_true, cond_false] at h ⊢
    · cases h
    · cases h3 : ((ls.length : Int) == 0) <;> rw [h3] at h <;> simp only [cond_true, cond_false] at h ⊢
      · cases h4 : decide (8 < (ls.length : Int)) <;> rw [h4] at h <;> simp only [cond_true, cond_false] at h ⊢
        · exact key h
        · cases h
      · cases h
  · cases h
inductive TR where
  | bad (c : Int)
  | ok (s : SV)
@[reducible] def trV (k : Key) : TR → Value
  | .bad c => .tuple #[.agg #[.int .u32 0, .int .i32 0, .int .u8 0, .int .u32 0, .slice none 0 0], .iface 100 (.int .i64 c)]
  | .ok s => .tuple #[.agg #[.int .u32 k.loan, .int .i32 k.day, .int .u8 k.kind, .int .u32 k.seq, .slice s.A s.n s.c], .nilIface]
def trOk (k : Key) (ls : List Leg) : TR → Prop
  | .bad c => (rightB k ls = false ∧ c = 1) ∨ (rightB k ls = true ∧ turnGo 0 ls = false ∧ c = 12)
  | .ok _ => rightB k ls = true ∧ turnGo 0 ls = true ∧ rightB k (ls.map negL) = true
@[reducible] def trF (ls : List Leg) : TR → Fact
  | .bad _ => ttF
  | .ok s => Sl legR (.slice s.A s.n s.c) (ls.map negL)
end Go.Proofs.YtjlfjjgjghdokaaGreatDoor
/- An entry the other way may be, and has each amount the other way: the walk. -/
namespace Go.Proofs.YtjlfjjgjghdokaaGreatDoor
open Go Go.Proofs Go.Wk
theorem go_step {s last : Int} {x : Leg} {r : List Leg} (h : rightGo s last (x :: r) = true) : inK .i64 (s + x.amt) ∧ last < x.acct ∧ rightGo (s + x.amt) x.acct r = true := by
  unfold rightGo at h
  cases h1 : in64 (s + x.amt) <;> rw [h1] at h <;> simp only [cond_true, cond_false] at h
  · cases h
  · cases h2 : decide (x.acct ≤ last) <;> rw [h2] at h <;> simp only [cond_true, cond_false] at h
    · cases h3 : noB (accName x.acct) <;> rw [h3] at h <;> simp only [cond_true, cond_false] at h
      · simp only [in64, Bool.and_eq_true, decide_eq_true_eq] at h1
        simp only [decide_eq_false_iff_not] at h2
        exact ⟨⟨h1.1, h1.2⟩, by omega, h⟩
      · cases h
    · cases h
theorem rightB_go {k : Key} {ls : List Leg} (h : rightB k ls = true) : rightGo 0 0 ls = true := by
  unfold rightB at h
  cases h1 : noB (kindName k.kind) <;> rw [h1] at h <;> simp only [cond_true, cond_false] at h
  · cases h2 : dayB k.day <;> rw [h2] at h <;> simp only [Bool.not_true, Bool.not_false, cond_true, cond_false] at h
    · cases h
    · cases h3 : ((ls.length : Int) == 0) <;> rw [h3] at h <;> simp only [cond_true, cond_false] at h
      · cases h4 : decide (8 < (ls.length : Int)) <;> rw [h4] at h <;> simp only [cond_true, cond_false] at h
        · exact h
        · cases h
      · cases h
  · cases h
end Go.Proofs.YtjlfjjgjghdokaaGreatDoor
/- Bytes joined, cut; the document's numbers asx bytes: the walks. -/
namespace Go.Proofs.YtjlfjjgjghdokaaGreatDoor
open Go Go.Proofs Go.Wk
end Go.Proofs.YtjlfjjgjghdokaaGreatDoor
/- The document's bytes of an entry: the walk. -/
namespace Go.Proofs.YtjlfjjgjghdokaaGreatDoor
open Go Go.Proofs Go.Wk
end Go.Proofs.YtjlfjjgjghdokaaGreatDoor
/- Bytes asx numbers again: the walks. -/
namespace Go.Proofs.YtjlfjjgjghdokaaGreatDoor
open Go Go.Proofs Go.Wk
def valB : List Nat → Nat → Nat
  | [], n => n
  | b :: r, n => valB r (n * 256 + b)
structure NR where
  n : Nat
  mark : Bool
  rest : List Nat
  bad : Bool
@[reducible] def badNR : NR := ⟨0, false, [], true⟩
def sizeOf_ (h : Nat) : Nat := if 128 ≤ h then h - 128 else h
/-- A number read. -/
def numR (p : List Nat) (bad : Bool) : NR := match p with
  | [] => badNR
  | h :: r => if bad = true ∨ r.length < sizeOf_ h ∨ 8 < sizeOf_ h ∨ (0 < sizeOf_ h ∧ r.head? = some 0) then badNR else ⟨valB (r.take (sizeOf_ h)) 0, decide (128 ≤ h), r.drop (sizeOf_ h), false⟩
end Go.Proofs.YtjlfjjgjghdokaaGreatDoor
/- Numbers read within bounds, with a sign; the end: the walks. -/
namespace Go.Proofs.YtjlfjjgjghdokaaGreatDoor
open Go Go.Proofs Go.Wk
structure LS where
  p : List Nat
  bad : Bool
def uintR (m : Nat) (s : LS) : Nat × LS := if (numR s.p s.bad).mark = true ∨ m < (numR s.p s.bad).n then (0, ⟨[], true⟩) else ((numR s.p s.bad).n, ⟨(numR s.p s.bad).rest, (numR s.p s.bad).bad⟩)
def intR (s : LS) : Int × LS := if 9223372036854775808 ≤ (numR s.p s.bad).n then (0, ⟨[], true⟩) else (if (numR s.p s.bad).mark = true then -1 - ((numR s.p s.bad).n : Int) else ((numR s.p s.bad).n : Int), ⟨(numR s.p s.bad).rest, (numR s.p s.bad).bad⟩)
end Go.Proofs.YtjlfjjgjghdokaaGreatDoor
/- An entry read of bytes: the walk. -/
namespace Go.Proofs.YtjlfjjgjghdokaaGreatDoor
open Go Go.Proofs Go.Wk
@[reducible] def p1 (bs : List Nat) : Nat × LS := uintR 4294967295 ⟨bs, false⟩
@[reducible] def p2 (bs : List Nat) : Nat × LS := uintR 3652058 (p1 bs).2
@[reducible] def p3 (bs : List Nat) : Nat × LS := uintR 7 (p2 bs).2
theorem u32_of {x : Nat} (h : x ≤ 4294967295) : IntKind.u32.wrap (x : Int) = x := wrap_id ⟨by show (0 : Int) ≤ _; omega, by show _ ≤ (4294967295 : Int); omega⟩
end Go.Proofs.YtjlfjjgjghdokaaGreatDoor
/- Bytes are read asx what was written; what is read is what stands there: the plain law. -/
namespace Go.Proofs.YtjlfjjgjghdokaaGreatDoor
open Go Go.Proofs Go.Wk
end Go.Proofs.YtjlfjjgjghdokaaGreatDoor
/- An entry is read of its bytes again; what is read of bytes has these bytes: the plain law. -/
namespace Go.Proofs.YtjlfjjgjghdokaaGreatDoor
open Go Go.Proofs Go.Wk
end Go.Proofs.YtjlfjjgjghdokaaGreatDoor
set_option linter.unusedVariables false
namespace Go.Wk
def leapB (y : Int) : Bool := decide (y % 4 = 0) && (!decide (y % 100 = 0) || decide (y % 400 = 0))
/-- The number of a year's first day. -/
def beg (y : Int) : Int := (y - 1) * 365 + (y - 1) / 4 - (y - 1) / 100 + (y - 1) / 400
def lenM (y m : Int) : Int := if m = 4 ∨ m = 6 ∨ m = 9 ∨ m = 11 then 30 else if m = 2 then (if leapB y = true then 29 else 28) else 31
/-- The length of a month, 0 of what is none. -/
def lenG (y m : Int) : Int := if y < 1 ∨ 9999 < y ∨ m < 1 ∨ 12 < m then 0 else lenM y m
/-- The days of a year ahead of a month. -/
def offM (y m : Int) : Int := (if m ≤ 1 then 0 else if m = 2 then 31 else if m = 3 then 59 else if m = 4 then 90 else if m = 5 then 120 else if m = 6 then 151 else if m = 7 then 181 else if m = 8 then 212 else if m = 9 then 243 else if m = 10 then 273 else if m = 11 then 304 else if m = 12 then 334 else 365) + (if leapB y = true ∧ 2 < m then 1 else 0)
def numD (y m d : Int) : Int := beg y + offM y m + d - 1
structure Dat (y m d : Int) : Prop where
  y1 : 1 ≤ y
  y2 : y ≤ 9999
  m1 : 1 ≤ m
  m2 : m ≤ 12
  d1 : 1 ≤ d
  d2 : d ≤ lenM y m
theorem beg_succ {y : Int} (h : 1 ≤ y) : beg (y + 1) = beg y + 365 + (if leapB y = true then 1 else 0) := by
  unfold beg leapB
  by_cases a : y % 4 = 0 <;> by_cases b : y % 100 = 0 <;> by_cases c : y % 400 = 0 <;> simp [a, b, c] <;> omega
theorem beg_one : beg 1 = 0 := by decide
theorem beg_top : beg 10000 = 3652059 := by decide
theorem beg_mono {y z : Int} (h : 1 ≤ y) (hyz : y ≤ z) : beg y ≤ beg z := by
  unfold beg; omega
theorem month_cases {m : Int} (h1 : 1 ≤ m) (h2 : m ≤ 12) : m = 1 ∨ m = 2 ∨ m = 3 ∨ m = 4 ∨ m = 5 ∨ m = 6 ∨ m = 7 ∨ m = 8 ∨ m = 9 ∨ m = 10 ∨ m = 11 ∨ m = 12 := by omega
theorem off_succ {y m : Int} (h1 : 1 ≤ m) (h2 : m ≤ 12) : offM y (m + 1) = offM y m + lenM y m := by
  unfold offM lenM
  cases leapB y <;> rcases month_cases h1 h2 with rfl | rfl | rfl | rfl | rfl | rfl | rfl | rfl | rfl | rfl | rfl | rfl <;> decide
theorem off_one (y : Int) : offM y 1 = 0 := by unfold offM; cases leapB y <;> decide
theorem off_end {y : Int} : offM y 13 = 365 + (if leapB y = true then 1 else 0) := by unfold offM; cases leapB y <;> decide
theorem len_pos {y m : Int} : 28 ≤ lenM y m ∧ lenM y m ≤ 31 := by
  unfold lenM
  split
  · omega
  · split
    · split <;> omega
    · omega
theorem off_mono {y m k : Int} (h1 : 1 ≤ m) (hk : m < k) (h2 : k ≤ 13) : offM y m + lenM y m ≤ offM y k := by
  have key : ∀ n : Nat, m + 1 + (n : Int) ≤ 13 → offM y m + lenM y m ≤ offM y (m + 1 + (n : Int)) := by
    intro n
    induction n with
    | zero => intro _; rw [show m + 1 + ((0 : Nat) : Int) = m + 1 by omega, off_succ h1 (by omega)]; omega
    | succ n ih =>
      intro h
      have h3 := ih (by omega)
      have h4 := off_succ (y := y) (m := m + 1 + (n : Int)) (by omega) (by omega)
      have h5 := (len_pos (y := y) (m := m + 1 + (n : Int))).1
      rw [show m + 1 + ((n + 1 : Nat) : Int) = m + 1 + (n : Int) + 1 by omega, h4]
      omega
  have := key (k - (m + 1)).toNat (by omega)
  rwa [show m + 1 + (((k - (m + 1)).toNat : Nat) : Int) = k by omega] at this
theorem lenG_eq {y m : Int} (h1 : 1 ≤ y) (h2 : y ≤ 9999) (h3 : 1 ≤ m) (h4 : m ≤ 12) : lenG y m = lenM y m := by
  unfold lenG; rw [if_neg (by omega)]
theorem dat_iff {y m d : Int} : (1 ≤ d ∧ d ≤ lenG y m) ↔ Dat y m d := by
  unfold lenG
  by_cases h : y < 1 ∨ 9999 < y ∨ m < 1 ∨ 12 < m
  · rw [if_pos h]
    constructor
    · intro h; omega
    · rintro ⟨a, b, c, d, _, _⟩; omega
  · rw [if_neg h]
    constructor
    · intro h; exact ⟨by omega, by omega, by omega, by omega, h.1, h.2⟩
    · intro h; exact ⟨h.d1, h.d2⟩
/-- A date's number lies within its year. -/
theorem num_year {y m d : Int} (h : Dat y m d) : beg y ≤ numD y m d ∧ numD y m d < beg (y + 1) := by
  have h1 := off_mono (y := y) h.m1 (show m < 13 by have := h.m2; omega) (Int.le_refl _)
  have h2 := off_end (y := y)
  have h3 := beg_succ h.y1
  have h4 : 0 ≤ offM y m := by
    by_cases e : m = 1
    · rw [e, off_one]; omega
    · have := off_mono (y := y) (m := 1) (k := m) (by omega) (by have := h.m1; omega) (by have := h.m2; omega)
      have := off_one y
      have := (len_pos (y := y) (m := 1)).1
      omega
  have := h.d1
  have := h.d2
  unfold numD
  omega
theorem num_range {y m d : Int} (h : Dat y m d) : 0 ≤ numD y m d ∧ numD y m d ≤ 3652058 := by
  obtain ⟨h1, h2⟩ := num_year h
  have h3 := beg_mono (y := 1) (z := y) (by omega) h.y1
  have h4 := beg_mono (y := y + 1) (z := 10000) (by have := h.y1; omega) (by have := h.y2; omega)
  rw [beg_one] at h3
  rw [beg_top] at h4
  omega
theorem num_inj {y m d y' m' d' : Int} (h : Dat y m d) (h' : Dat y' m' d') (e : numD y m d = numD y' m' d') : y = y' ∧ m = m' ∧ d = d' := by
  obtain ⟨a1, a2⟩ := num_year h
  obtain ⟨b1, b2⟩ := num_year h'
  have ey : y = y' := by
    by_cases l : y < y'
    · have := beg_mono (y := y + 1) (z := y') (by have := h.y1; omega) (by omega); omega
    · by_cases g : y' < y
      · have := beg_mono (y := y' + 1) (z := y) (by have := h'.y1; omega) (by omega); omega
      · omega
  subst ey
  have := h.d1; have := h.d2; have := h'.d1; have := h'.d2
  unfold numD at e
  have em : m = m' := by
    by_cases l : m < m'
    · have := off_mono (y := y) h.m1 l (by have := h'.m2; omega); omega
    · by_cases g : m' < m
      · have := off_mono (y := y) h'.m1 g (by have := h.m2; omega); omega
      · omega
  subst em
  exact ⟨rfl, rfl, by omega⟩
end Go.Wk
/- Long division of 128 bits by 64, digit by digit: the plain law. -/
set_option linter.unusedVariables false
namespace Go.Wk
section
variable {v v1 v0 u n Q q r : Int}
structure KHyp (v v1 v0 u n Q : Int) : Prop where
  ve : v = v1 * 4294967296 + v0
  v1a : 2147483648 ≤ v1
  v1b : v1 < 4294967296
  v0a : 0 ≤ v0
  v0b : v0 < 4294967296
  na : 0 ≤ n
  nb : n < 4294967296
  ua : 0 ≤ u
  ub : u < v
  Qa : Q * v ≤ u * 4294967296 + n
  Qb : u * 4294967296 + n < (Q + 1) * v
theorem mul_split (q v1 v0 : Int) : q * (v1 * 4294967296 + v0) = (q * v1) * 4294967296 + q * v0 := by rw [Int.mul_add, ← Int.mul_assoc]
theorem KHyp.vpos (h : KHyp v v1 v0 u n Q) : 0 < v := by have := h.ve; have := h.v1a; have := h.v0a; omega
theorem lt_of_mul {a b c : Int} (hc : 0 < c) (h : a * c < b * c) : a < b := by
  by_cases e : a < b
  · exact e
  · have := Int.mul_le_mul_of_nonneg_right (show b ≤ a by omega) (show 0 ≤ c by omega)
    omega
theorem KHyp.Q0 (h : KHyp v v1 v0 u n Q) : 0 ≤ Q := by
  have h1 := h.Qb
  have h2 := h.ua
  have h3 := h.na
  have h4 : (0 : Int) * v < (Q + 1) * v := by rw [Int.zero_mul]; omega
  have := lt_of_mul h.vpos h4
  omega
theorem KHyp.Q1 (h : KHyp v v1 v0 u n Q) : Q < 4294967296 := by
  refine lt_of_mul h.vpos ?_
  have h1 := h.Qa
  have h2 := h.ub
  have h3 := h.nb
  omega
structure KInv (v1 u Q q r : Int) : Prop where
  e : q * v1 + r = u
  lo : Q ≤ q
  hi : q ≤ 4294967297
  r0 : 0 ≤ r
theorem KHyp.start (h : KHyp v v1 v0 u n Q) : KInv v1 u Q (u / v1) (u - u / v1 * v1) ∧ u - u / v1 * v1 < v1 := by
  have hv1 : 0 < v1 := by have := h.v1a; omega
  have h1 := Int.emod_nonneg u (show v1 ≠ 0 by omega)
  have h2 := Int.emod_lt_of_pos u hv1
  have h3 := Int.mul_ediv_add_emod u v1
  rw [Int.mul_comm] at h3
  refine ⟨⟨by omega, ?_, ?_, by omega⟩, by omega⟩
  · refine (Int.le_ediv_iff_mul_le hv1).2 ?_
    have h4 := h.Qa
    rw [h.ve, mul_split] at h4
    have h5 := Int.mul_nonneg h.Q0 h.v0a
    have := h.nb
    omega
  · have h6 : u / v1 < 4294967298 := by
      refine Int.ediv_lt_of_lt_mul hv1 ?_
      have := h.ub
      have := h.ve
      have := h.v0b
      have := h.v1a
      omega
    omega
theorem KHyp.exact (h : KHyp v v1 v0 u n Q) (hi : Q ≤ q) (c : q * v ≤ u * 4294967296 + n) : q = Q := by
  have h1 := h.Qb
  have := lt_of_mul h.vpos (show q * v < (Q + 1) * v by omega)
  omega
/-- The digit's bound holds: it is the digit. -/
theorem KHyp.stop (h : KHyp v v1 v0 u n Q) (hi : KInv v1 u Q q r) (c : q * v0 ≤ 4294967296 * r + n) : q = Q := by
  refine h.exact hi.lo ?_
  rw [h.ve, mul_split]
  have := hi.e
  omega
/-- One too large: one less. -/
theorem KHyp.dec (h : KHyp v v1 v0 u n Q) (hi : KInv v1 u Q q r) (c : 4294967296 ≤ q ∨ 4294967296 * r + n < q * v0) : KInv v1 u Q (q - 1) (r + v1) := by
  have hq : Q < q := by
    rcases c with c | c
    · have := h.Q1; omega
    · refine lt_of_mul h.vpos ?_
      have h1 : u * 4294967296 + n < q * v := by
        rw [h.ve, mul_split]
        have := hi.e
        omega
      have := h.Qa
      omega
  refine ⟨?_, by omega, by have := hi.hi; omega, by have := hi.r0; have := h.v1a; omega⟩
  have := hi.e
  rw [Int.sub_mul, Int.one_mul]
  omega
/-- What is left ahead is too large to go on: it is the digit. -/
theorem KHyp.break_ (h : KHyp v v1 v0 u n Q) (hi : KInv v1 u Q q r) (hq : q ≤ 4294967296) (hr : 4294967296 ≤ r) : q = Q := by
  refine h.stop hi ?_
  have h0 : 0 ≤ q := by have := h.Q0; have := hi.lo; omega
  have h1 : q * v0 ≤ 4294967296 * v0 := Int.mul_le_mul_of_nonneg_right hq h.v0a
  have := h.v0b
  have := h.na
  omega
end
/-- The bits of a number. -/
theorem bitLenAux_le : ∀ (f x : Nat), Lib.bitLenAux f x ≤ f
  | 0, _ => Nat.le_refl _
  | f + 1, x => by
    unfold Lib.bitLenAux
    split
    · omega
    · have := bitLenAux_le f (x / 2); omega
theorem bitLenAux_ok : ∀ (f x : Nat), 0 < x → x < 2 ^ f → 1 ≤ Lib.bitLenAux f x ∧ 2 ^ (Lib.bitLenAux f x - 1) ≤ x ∧ x < 2 ^ Lib.bitLenAux f x
  | 0, x, h, h2 => by simp at h2; omega
  | f + 1, x, h, h2 => by
    unfold Lib.bitLenAux
    rw [if_neg (by omega)]
    by_cases hx : x / 2 = 0
    · have h1 : x = 1 := by omega
      subst h1
      have : Lib.bitLenAux f (1 / 2) = 0 := by cases f <;> simp [Lib.bitLenAux]
      rw [this]; decide
    · have hp : 2 ^ (f + 1) = 2 * 2 ^ f := by rw [Nat.pow_succ, Nat.mul_comm]
      obtain ⟨h3, h4, h5⟩ := bitLenAux_ok f (x / 2) (by omega) (by omega)
      refine ⟨by omega, ?_, ?_⟩
      · have e : 2 ^ (1 + Lib.bitLenAux f (x / 2) - 1) = 2 * 2 ^ (Lib.bitLenAux f (x / 2) - 1) := by
          rw [show 1 + Lib.bitLenAux f (x / 2) - 1 = (Lib.bitLenAux f (x / 2) - 1) + 1 by omega, Nat.pow_succ, Nat.mul_comm]
        rw [e]; omega
      · have e : 2 ^ (1 + Lib.bitLenAux f (x / 2)) = 2 * 2 ^ Lib.bitLenAux f (x / 2) := by rw [Nat.add_comm, Nat.pow_succ, Nat.mul_comm]
        rw [e]; omega
theorem bitLen_ok {x : Nat} (h : 0 < x) (h2 : x < 18446744073709551616) : 1 ≤ Lib.bitLen x ∧ Lib.bitLen x ≤ 64 ∧ 2 ^ (Lib.bitLen x - 1) ≤ x ∧ x < 2 ^ Lib.bitLen x := by
  obtain ⟨a, b, c⟩ := bitLenAux_ok 64 x h h2
  exact ⟨a, bitLenAux_le 64 x, b, c⟩
/-- Shifted till its highest bit stands in front. -/
theorem norm_ok {y : Nat} (h : 0 < y) (h2 : y < 18446744073709551616) : 9223372036854775808 ≤ y * 2 ^ (64 - Lib.bitLen y) ∧ y * 2 ^ (64 - Lib.bitLen y) < 18446744073709551616 := by
  obtain ⟨a, b, c, d⟩ := bitLen_ok h h2
  have hp : 0 < 2 ^ (64 - Lib.bitLen y) := Nat.pow_pos (by omega)
  have e1 : 2 ^ (Lib.bitLen y - 1) * 2 ^ (64 - Lib.bitLen y) = 9223372036854775808 := by
    rw [← Nat.pow_add, show Lib.bitLen y - 1 + (64 - Lib.bitLen y) = 63 by omega]
  have e2 : 2 ^ Lib.bitLen y * 2 ^ (64 - Lib.bitLen y) = 18446744073709551616 := by
    rw [← Nat.pow_add, show Lib.bitLen y + (64 - Lib.bitLen y) = 64 by omega]
  constructor
  · rw [← e1]; exact Nat.mul_le_mul_right _ c
  · rw [← e2]; exact Nat.mul_lt_mul_of_pos_right d hp
end Go.Wk
/- Numerals and words, asx lists of bytes: no program. -/
set_option linter.unusedVariables false
namespace Go.Pl
open Go Go.Lib
theorem dig_nat {x : Nat} (h : x < 10) : (UInt8.ofNat (48 + x)).toNat = 48 + x := by simp [UInt8.toNat_ofNat]; omega
theorem parseM_step (M acc d : Nat) (hd : d < 10) (hM : M ≤ 18446744073709551615) (h : acc * 10 + d ≤ M) (rest : List UInt8) : parseUintM M acc (UInt8.ofNat (48 + d) :: rest) = parseUintM M (acc * 10 + d) rest := by
  rw [parseUintM, dig_nat hd, if_pos (by omega), if_neg (by omega), if_neg (by omega), show 48 + d - 48 = d by omega]
theorem parseM_dec (M : Nat) (hM : M ≤ 18446744073709551615) (u : Nat) : ∀ (rest : List UInt8) (acc : Nat), acc * 10 ^ nDigits u + u ≤ M → parseUintM M acc (decDigits u ++ rest) = parseUintM M (acc * 10 ^ nDigits u + u) rest := by
  induction u using Nat.strongRecOn with
  | _ u ih =>
    intro rest acc h
    by_cases hu : u < 10
    · rw [nDigits_small hu, Nat.pow_one] at h ⊢
      rw [decDigits_one hu]
      exact parseM_step M acc u hu hM h rest
    · have e : decDigits u = decDigits (u / 10) ++ [UInt8.ofNat (48 + u % 10)] := by rw [decDigits, dif_neg hu]
      rw [nDigits_big hu, Nat.pow_succ, ← Nat.mul_assoc] at h ⊢
      rw [e, List.append_assoc, ih (u / 10) (by omega) _ acc (by omega)]
      have h2 := parseM_step M (acc * 10 ^ nDigits (u / 10) + u / 10) (u % 10) (by omega) hM (by omega) rest
      rw [show [UInt8.ofNat (48 + u % 10)] ++ rest = UInt8.ofNat (48 + u % 10) :: rest from rfl, h2]
      congr 1
      omega
theorem parseM_zeros (M : Nat) (hM : M ≤ 18446744073709551615) (rest : List UInt8) : ∀ k : Nat, parseUintM M 0 (List.replicate k 48 ++ rest) = parseUintM M 0 rest
  | 0 => by simp
  | k + 1 => by
    rw [List.replicate_succ, List.cons_append]
    have h := parseM_step M 0 0 (by decide) hM (by omega) (List.replicate k 48 ++ rest)
    rw [show (UInt8.ofNat (48 + 0)) = 48 from rfl] at h
    rw [h]
    exact parseM_zeros M hM rest k
theorem parse10_M : ∀ (l : List UInt8) (acc : Nat), parseUint10 acc l = parseUintM 18446744073709551615 acc l
  | [], acc => rfl
  | c :: r, acc => by
    rw [parseUint10, parseUintM]
    split
    · split
      · rfl
      · by_cases h : 18446744073709551616 ≤ acc * 10 + (c.toNat - 48)
        · rw [if_pos h, if_pos (by omega)]
        · rw [if_neg h, if_neg (by omega)]
          exact parse10_M r _
    · rfl
/-- Bytes that are digits. -/
def dgB (c : UInt8) : Bool := decide (48 ≤ c.toNat) && decide (c.toNat ≤ 57)
theorem dgB_of {x : Nat} (h : x < 10) : dgB (UInt8.ofNat (48 + x)) = true := by unfold dgB; rw [dig_nat h]; simp; omega
theorem dec_dig (u : Nat) : ∀ c, c ∈ decDigits u → dgB c = true := by
  induction u using Nat.strongRecOn with
  | _ u ih =>
    intro c hc
    by_cases hu : u < 10
    · rw [decDigits_one hu, List.mem_singleton] at hc
      rw [hc]; exact dgB_of hu
    · rw [decDigits, dif_neg hu] at hc
      rcases List.mem_append.1 hc with h | h
      · exact ih (u / 10) (by omega) c h
      · rw [List.mem_singleton.1 h]; exact dgB_of (by omega)
theorem dec_ne (u : Nat) : decDigits u ≠ [] := fun e => by
  have := decDigits_length u
  have h1 := nDigits_pos u
  rw [e] at this
  simp at this; omega
theorem dgB_nat {c : UInt8} (h : dgB c = true) : 48 ≤ c.toNat ∧ c.toNat ≤ 57 := by unfold dgB at h; simpa using h
theorem not_mem_of_dig {l : List UInt8} (h : ∀ c, c ∈ l → dgB c = true) {x : UInt8} (hx : dgB x = false) : x ∉ l := fun hm => by rw [h x hm] at hx; cases hx
/-- The first digit of a number of more than one isn't 0. -/
theorem dec_head (u : Nat) : ∀ c r, decDigits u = c :: r → r ≠ [] → c ≠ 48 := by
  induction u using Nat.strongRecOn with
  | _ u ih =>
    intro c r hc hr
    by_cases hu : u < 10
    · rw [decDigits_one hu] at hc
      injection hc with _ h2
      exact absurd h2.symm hr
    · rw [decDigits, dif_neg hu] at hc
      cases h : decDigits (u / 10) with
      | nil => exact absurd h (dec_ne _)
      | cons c2 r2 =>
        rw [h, List.cons_append] at hc
        injection hc with h1 h2
        subst h1
        by_cases h3 : r2 = []
        · have hlt : u / 10 < 10 := by
            have hl := decDigits_length (u / 10)
            rw [h, h3] at hl
            by_cases hq : u / 10 < 10
            · exact hq
            · rw [nDigits_big hq] at hl
              have := nDigits_pos (u / 10 / 10)
              simp at hl; omega
          rw [decDigits_one hlt] at h
          injection h with h4 _
          intro e
          have : c2.toNat = 48 := by rw [e]; rfl
          rw [← h4, dig_nat hlt] at this
          omega
        · exact ih (u / 10) (by omega) c2 r2 h h3
/-- Digits ahead: neither a sign. -/
theorem parseIntB_pos {l : List UInt8} {u : Nat} (hd : ∀ c, c ∈ l → dgB c = true) (hne : l ≠ []) (h : parseUintM 18446744073709551615 0 l = .ok u) (hu : u < 9223372036854775808) : parseIntB 64 l = .ok (u : Int) := by
  cases l with
  | nil => exact absurd rfl hne
  | cons c r =>
    have hc := dgB_nat (hd c List.mem_cons_self)
    have hn : ¬ (c.toNat = 43 ∨ c.toNat = 45) := by omega
    have h45 : ¬ c.toNat = 45 := by omega
    have e : parseUintB 64 (c :: r) = .ok u := by
      unfold parseUintB
      rw [if_neg (by simp)]
      exact h
    unfold parseIntB
    simp only [if_neg hn]
    rw [e]
    simp only
    rw [if_neg (fun hh => by have h2 := hh.2; omega), if_neg (fun hh => h45 hh.1), if_neg h45]
theorem atoi_pos {l : List UInt8} {u : Nat} (hd : ∀ c, c ∈ l → dgB c = true) (hne : l ≠ []) (h : parseUintM 18446744073709551615 0 l = .ok u) (hu : u < 9223372036854775808) : atoiAll l = .ok (u : Int) := by
  cases l with
  | nil => exact absurd rfl hne
  | cons c r =>
    have hc := dgB_nat (hd c List.mem_cons_self)
    have hn : ¬ (c.toNat = 43 ∨ c.toNat = 45) := by omega
    have h45 : ¬ c.toNat = 45 := by omega
    have e : parseMag (c :: r) = .ok u := by
      unfold parseMag
      rw [if_neg (by simp), parse10_M]
      exact h
    unfold atoiAll
    simp only [if_neg hn]
    rw [e]
    simp only
    rw [if_neg (fun hh => by have h2 := hh.2; omega), if_neg (fun hh => h45 hh.1), if_neg h45]
theorem uintB_pos {B : Nat} {l : List UInt8} {u : Nat} (hne : l ≠ []) (h : parseUintM (2 ^ B - 1) 0 l = .ok u) : parseUintB B l = .ok u := by unfold parseUintB; rw [if_neg hne]; exact h
theorem parseM_num (M : Nat) (hM : M ≤ 18446744073709551615) (u : Nat) (h : u ≤ M) : parseUintM M 0 (decDigits u) = .ok u := by
  have := parseM_dec M hM u [] 0 (by omega)
  rw [List.append_nil, Nat.zero_mul, Nat.zero_add] at this
  rw [this]; rfl
/-- A numeral, with noughts ahead or none, is read again. -/
theorem atoi_pad (k u : Nat) (hu : u < 9223372036854775808) : atoiAll (List.replicate k 48 ++ decDigits u) = .ok (u : Int) := by
  refine atoi_pos (fun c hc => ?_) (fun e => dec_ne u (List.append_eq_nil_iff.1 e).2) ?_ hu
  · rcases List.mem_append.1 hc with h | h
    · rw [(List.mem_replicate.1 h).2]; rfl
    · exact dec_dig u c h
  · rw [parseM_zeros _ (by omega)]
    exact parseM_num _ (by omega) u (by omega)
theorem atoi_num (u : Nat) (hu : u < 9223372036854775808) : atoiAll (decDigits u) = .ok (u : Int) := by
  have := atoi_pad 0 u hu
  rwa [List.replicate_zero, List.nil_append] at this
theorem u32_num (u : Nat) (hu : u < 4294967296) : parseUintB 32 (decDigits u) = .ok u := uintB_pos (dec_ne u) (parseM_num _ (by decide) u (by show u ≤ 4294967295; omega))
/-! Words. -/
theorem index_one {c : UInt8} : ∀ {w rest : List UInt8}, c ∉ w → index (w ++ c :: rest) [c] = w.length
  | [], rest, _ => by simp [index, List.isPrefixOf]
  | b :: w, rest, h => by
    have h1 : b ≠ c := fun e => h (e ▸ List.mem_cons_self)
    have ih := index_one (w := w) (rest := rest) (fun hm => h (List.mem_cons_of_mem _ hm))
    show index (b :: (w ++ c :: rest)) [c] = _
    have hp : ([c] : List UInt8).isPrefixOf (b :: (w ++ c :: rest)) = false := by simp [List.isPrefixOf, Ne.symm h1]
    have hix : index (b :: (w ++ c :: rest)) [c] = if index (w ++ c :: rest) [c] == -1 then -1 else index (w ++ c :: rest) [c] + 1 := by rw [index, hp]; simp
    rw [hix, ih, if_neg (fun e => by have := beq_iff_eq.1 e; omega)]
    simp
theorem cut_one {c : UInt8} {w rest : List UInt8} (h : c ∉ w) : cut (w ++ c :: rest) [c] = (w, rest, true) := by
  unfold cut
  rw [index_one h, if_pos (by omega)]
  have e : ((w.length : Nat) : Int).toNat = w.length := Int.toNat_natCast _
  rw [e, List.take_left' rfl, List.drop_append]
  simp
theorem join_cons (w v : List UInt8) (ws : List (List UInt8)) (c : UInt8) : join (w :: v :: ws) [c] = w ++ c :: join (v :: ws) [c] := by
  unfold join
  simp [List.intercalate]
theorem join_one (w c : List UInt8) : join [w] c = w := by unfold join; simp [List.intercalate]
theorem count_join {c : UInt8} : ∀ (w : List UInt8) (ws : List (List UInt8)), (∀ x, x ∈ w :: ws → c ∉ x) → count (join (w :: ws) [c]) [c] = ws.length
  | w, [], h => by
    rw [join_one, count_one]
    exact List.count_eq_zero.2 (h w List.mem_cons_self)
  | w, v :: ws, h => by
    have ih := count_join v ws (fun x hx => h x (List.mem_cons_of_mem _ hx))
    rw [count_one] at ih ⊢
    rw [join_cons, List.count_append, List.count_cons_self, ih, List.count_eq_zero.2 (h w List.mem_cons_self)]
    simp
theorem splitK_join {c : UInt8} : ∀ (w : List UInt8) (ws : List (List UInt8)), (∀ x, x ∈ w :: ws → c ∉ x) → splitK [c] 0 ws.length (join (w :: ws) [c]) = w :: ws
  | w, [], h => by rw [join_one]; rfl
  | w, v :: ws, h => by
    have hi := index_one (rest := join (v :: ws) [c]) (h w List.mem_cons_self)
    have ih := splitK_join v ws (fun x hx => h x (List.mem_cons_of_mem _ hx))
    rw [join_cons]
    show splitK [c] 0 (ws.length + 1) (w ++ c :: join (v :: ws) [c]) = _
    rw [splitK, hi, if_neg (fun e => by have := beq_iff_eq.1 e; omega)]
    have e : ((w.length : Nat) : Int).toNat = w.length := Int.toNat_natCast _
    rw [e, Nat.add_zero, List.take_left' rfl, List.drop_append]
    have e2 : (w.length + [c].length) - w.length = 1 := by simp
    rw [List.drop_of_length_le (l := w) (by simp), e2]
    simp only [List.drop_succ_cons, List.drop_zero, List.nil_append]
    rw [ih]
theorem split_join {c : UInt8} (w : List UInt8) (ws : List (List UInt8)) (h : ∀ x, x ∈ w :: ws → c ∉ x) : splitK [c] 0 (count (join (w :: ws) [c]) [c]) (join (w :: ws) [c]) = w :: ws := by
  rw [count_join w ws h]
  exact splitK_join w ws h
end Go.Pl
