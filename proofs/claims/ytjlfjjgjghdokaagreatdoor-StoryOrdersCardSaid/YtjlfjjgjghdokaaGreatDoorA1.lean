/- Keys, their order, names. -/
import Derived.Test.YtjlfjjgjghdokaaGreatDoorK6
import Derived.Test.YtjlfjjgjghdokaaGreatDoorK7
import Derived.Test.YtjlfjjgjghdokaaGreatDoorK5
import Derived.Test.YtjlfjjgjghdokaaGreatDoorTab
namespace Go.Proofs.YtjlfjjgjghdokaaGreatDoor
open Go Go.Proofs Go.Wk
@[reducible] def CB (g : Nat) (args : List Value) (v : Value) : Prop := ∀ (w : World) (M I : BS), Hp ⟨w, M, I⟩ [] [] w → Ctr Tryz.prog g args w M I (fun _ : Unit => v) (fun _ => True) (fun _ => []) (fun _ => [])
theorem tdr : Tryz.prog.follows .mixedOrders = true := by kernel_rfl
def cmpI (a b : Int) : Int := if a < b then -1 else if b < a then 1 else 0
structure Key where
  loan : Int
  day : Int
  kind : Int
  seq : Int
deriving DecidableEq
@[reducible] def keyC (k : Key) : List Value := [.int .u32 k.loan, .int .i32 k.day, .int .u8 k.kind, .int .u32 k.seq]
@[reducible] def keyV (k : Key) : Value := .agg #[.int .u32 k.loan, .int .i32 k.day, .int .u8 k.kind, .int .u32 k.seq]
def orL : List Int → Int
  | [] => 0
  | x :: r => if x ≠ 0 then x else orL r
def lessB (a b : Key) : Bool := decide (orL [cmpI a.loan b.loan, cmpI a.day b.day, cmpI a.kind b.kind, cmpI a.seq b.seq] < 0)
def accL : List ByteArray := [⟨#[]⟩, ⟨#[99, 97, 115, 104]⟩, ⟨#[112, 114, 105, 110, 99, 105, 112, 97, 108]⟩, ⟨#[105, 110, 116, 101, 114, 101, 115, 116]⟩, ⟨#[102, 101, 101, 115]⟩, ⟨#[115, 117, 115, 112, 101, 110, 115, 101]⟩, ⟨#[105, 110, 99, 111, 109, 101]⟩, ⟨#[99, 104, 97, 114, 103, 101, 115]⟩, ⟨#[108, 111, 115, 115]⟩, ⟨#[114, 101, 99, 111, 118, 101, 114, 101, 100]⟩]
def kindL : List ByteArray := [⟨#[]⟩, ⟨#[98, 111, 97, 114, 100]⟩, ⟨#[97, 99, 99, 114, 117, 101]⟩, ⟨#[108, 97, 116, 101]⟩, ⟨#[112, 97, 121]⟩, ⟨#[102, 101, 101]⟩, ⟨#[119, 97, 105, 118, 101]⟩, ⟨#[111, 102, 102]⟩]
def accName (k : Int) : ByteArray := (accL[k.toNat]?).getD ⟨#[]⟩
def kindName (k : Int) : ByteArray := (kindL[k.toNat]?).getD ⟨#[]⟩
theorem kind (k : Int) (h0 : 0 ≤ k) (h1 : k ≤ 255) : CB 50 [.int .u8 k] (.string (kindName k)) := by
  intro w M I H
  refine Exe.of_ev tok Tryz.call50 Tryz.func50 rfl rfl rfl ?_
  refine slice_as tok H (kindL.map Value.string) rfl rfl rfl rfl rfl rfl fun g w1 H1 => ?_
  have e : IntKind.i64.wrap k = k := w64 (by omega) (by omega)
  refine brd (fun h => ?_) (fun h => ?_)
  · refine Exists.intro () (And.intro (congrArg Value.string ?_) (And.intro trivial H1.drop))
    rw [e] at h
    have : kindL.length ≤ k.toNat := by show 8 ≤ _; omega
    simp [kindName, List.getElem?_eq_none this]
  · rw [e] at h
    refine idx_own tok rfl rfl h0 (by omega) ?_
    have hlt : k.toNat < kindL.length := by show _ < 8; omega
    refine load_rule tok H1 (v := .string (kindName k)) ?_ ?_
    · show (kindL.map Value.string)[0 + k.toNat * 1]? = _
      simp [kindName, List.getElem?_eq_getElem hlt]
    · exact Exists.intro () (And.intro rfl (And.intro trivial H1.drop))
end Go.Proofs.YtjlfjjgjghdokaaGreatDoor
namespace Go.Proofs.YtjlfjjgjghdokaaGreatDoor
open Go Go.Proofs Go.Wk
structure Leg where
  acct : Int
  amt : Int
deriving DecidableEq
@[reducible] def legV (x : Leg) : Value := .agg #[.int .u8 x.acct, .int .i64 x.amt]
@[reducible] def legR : Rp Leg := ⟨2, Unit, fun x _ => [.int .u8 x.acct, .int .i64 x.amt], fun x _ => inK .u8 x.acct ∧ inK .i64 x.amt, fun _ _ => [], fun _ _ => rfl⟩
def legsC : List Leg → List Value
  | [] => []
  | x :: r => .int .u8 x.acct :: .int .i64 x.amt :: legsC r
theorem legsC_len : ∀ ls : List Leg, (legsC ls).length = ls.length * 2
  | [] => rfl
  | x :: r => by simp only [legsC, List.length_cons, legsC_len r]; omega
theorem legsC_drop : ∀ (ls : List Leg) (j : Nat), (legsC ls).drop (j * 2) = legsC (ls.drop j)
  | ls, 0 => by simp
  | [], j + 1 => by simp [legsC]
  | x :: r, j + 1 => by
    rw [show (j + 1) * 2 = j * 2 + 1 + 1 by omega]
    simp only [legsC, List.drop_succ_cons]
    exact legsC_drop r j
theorem legsC_app : ∀ a b : List Leg, legsC (a ++ b) = legsC a ++ legsC b
  | [], _ => rfl
  | x :: a, b => by simp [legsC, legsC_app a b]
theorem legs_set : ∀ (ls : List Leg) (j : Nat) (x : Leg), setL (legsC ls) (0 + j * 2) [.int .u8 x.acct, .int .i64 x.amt] = legsC (ls.set j x)
  | [], j, x => by simp [legsC, setL]
  | y :: r, 0, x => rfl
  | y :: r, j + 1, x => by
    have ih := legs_set r j x
    rw [show 0 + (j + 1) * 2 = 0 + j * 2 + 1 + 1 by omega]
    simp only [legsC, setL, List.set_cons_succ] at ih ⊢
    rw [← ih]
theorem str_idx {P : Program} {T : Tab} {K : Value → World → Prop} {w : World} (hT : T.Ok P) {t : TypeId} {it : TypeInfo} {s : ByteArray} {kd : IntKind} {j : Int} (ht : T t = some ⟨.string, it⟩) (h0 : 0 ≤ j) (h1 : j.toNat < s.size) (k : ∀ b : Int, 0 ≤ b → b ≤ 255 → K (.int .u8 b) w) : IndexK P K w t (.string s) (.int kd j) := by
  obtain ⟨b, hb⟩ : ∃ b, s[j.toNat]? = some b := ⟨_, getElem?_pos s j.toNat h1⟩
  refine IndexK.of (v := .int .u8 b.toNat) (w' := w) ?_ (k b.toNat (by omega) (by have := b.toNat_lt; omega))
  simp [Instr.index, asIntOf, run_und hT ht, h0, hb]
@[reducible] def CI (g : Nat) (args : List Value) : Prop := ∀ (w : World) (M I : BS), Hp ⟨w, M, I⟩ [] [] w → Ctr Tryz.prog g args w M I (fun v : Int => .int .i64 v) (fun _ => True) (fun _ => []) (fun _ => [])
theorem len64 (x : Int) (h0 : 0 ≤ x) (h1 : x ≤ 200) : CI 177 [.int .u64 x] := by
  intro w M I H
  refine Exe.of_ev tok Tryz.call177 Tryz.func177 rfl rfl rfl ?_
  refine brd (fun h => ?_) (fun _ => ?_)
  · omega
  refine brd (fun h => ?_) (fun _ => ?_)
  · omega
  refine brd (fun h => ?_) (fun _ => ?_)
  · omega
  have e : IntKind.u8.wrap x = x := wrap_id ⟨by simpa [kLo] using h0, by simp only [kHi]; omega⟩
  refine str_idx tok rfl (by rw [e]; exact h0) (by rw [e]; exact Nat.lt_of_lt_of_le (show x.toNat < 201 by omega) (Nat.le_of_ble_eq_true (by kernel_rfl))) fun b hb0 hb1 => ?_
  exact Exists.intro _ (And.intro rfl (And.intro trivial H))
def srt (l : List Leg) : Prop := l.Pairwise fun a b => a.acct ≤ b.acct
def in64 (n : Int) : Bool := decide (-9223372036854775808 ≤ n) && decide (n ≤ 9223372036854775807)
def addV (a b : Int) : Value := if in64 (a + b) then .tuple #[.int .i64 (a + b), .nilIface] else .tuple #[.int .i64 0, .iface 100 (.int .i64 12)]
theorem wrap_hi {n : Int} (h1 : 9223372036854775807 < n) (h2 : n ≤ 18446744073709551614) : IntKind.i64.wrap n = n - 18446744073709551616 := by
  simp [IntKind.wrap, IntKind.signed, IntKind.bits]; omega
theorem wrap_lo {n : Int} (h1 : n < -9223372036854775808) (h2 : -18446744073709551616 ≤ n) : IntKind.i64.wrap n = n + 18446744073709551616 := by
  simp [IntKind.wrap, IntKind.signed, IntKind.bits]; omega
theorem addV_no {a b : Int} (en : in64 (a + b) = false) : Value.tuple #[.int .i64 0, .iface 100 (.int .i64 12)] = addV a b := by unfold addV; rw [en]; rfl
theorem addV_ok {a b : Int} (en : in64 (a + b) = true) : Value.tuple #[.int .i64 (a + b), .nilIface] = addV a b := by unfold addV; rw [en]; rfl
end Go.Proofs.YtjlfjjgjghdokaaGreatDoor
/- An entry made of legs: the walk. -/
namespace Go.Proofs.YtjlfjjgjghdokaaGreatDoor
open Go Go.Proofs Go.Wk
def sumGo : List Leg → List (Int × Int) → Option (List (Int × Int))
  | [], m => some m
  | l :: r, m => if in64 ((lk l.acct m).getD 0 + l.amt) then sumGo r (putL l.acct ((lk l.acct m).getD 0 + l.amt) m) else none
@[reducible] def pairL (p : Int × Int) : Leg := ⟨p.1, p.2⟩
/-- What 'Make' makes of legs. -/
def made (legs out : List Leg) : Prop := match sumGo legs [] with
  | none => out = []
  | some m => out.Perm (m.map pairL) ∧ srt out
@[reducible] def entV (k : Key) (v : Value) : Value := match v with
  | .slice A n c => .agg #[.int .u32 k.loan, .int .i32 k.day, .int .u8 k.kind, .int .u32 k.seq, .slice A n c]
  | v => .agg #[.int .u32 k.loan, .int .i32 k.day, .int .u8 k.kind, .int .u32 k.seq, v]
@[reducible] def entC (k : Key) (A : Option Addr) (n c : Nat) : List Value := [.int .u32 k.loan, .int .i32 k.day, .int .u8 k.kind, .int .u32 k.seq, .slice A n c]
@[reducible] def zeroC : List Value := [.int .u32 0, .int .i32 0, .int .u8 0, .int .u32 0, .slice none 0 0]
structure SV where
  A : Option Addr
  n : Nat
  c : Nat
theorem mem_putL {κ ν : Type} [DecidableEq κ] {k : κ} {v : ν} : ∀ {l : List (κ × ν)} {p : κ × ν}, p ∈ putL k v l → p = (k, v) ∨ p ∈ l
  | [], p, h => by simpa [putL] using h
  | q :: l, p, h => by
    unfold putL at h
    split at h
    · rcases List.mem_cons.1 h with h | h
      · exact .inl h
      · exact .inr (List.mem_cons_of_mem _ h)
    · rcases List.mem_cons.1 h with h | h
      · exact .inr (h ▸ List.mem_cons_self)
      · exact (mem_putL h).imp id (List.mem_cons_of_mem _)
theorem len_putL {κ ν : Type} [DecidableEq κ] {k : κ} {v : ν} : ∀ {l : List (κ × ν)}, (putL k v l).length ≤ l.length + 1
  | [] => by simp [putL]
  | q :: l => by
    unfold putL
    split
    · simp
    · simp only [List.length_cons]; have := len_putL (k := k) (v := v) (l := l); omega
theorem lk_mem {κ ν : Type} [DecidableEq κ] {k : κ} {v : ν} : ∀ {l : List (κ × ν)}, lk k l = some v → (k, v) ∈ l
  | [], h => by cases h
  | q :: l, h => by
    unfold lk at h
    split at h
    · rename_i hk
      rw [← hk, ← Option.some.inj h]; exact List.mem_cons_self
    · exact List.mem_cons_of_mem _ (lk_mem h)
end Go.Proofs.YtjlfjjgjghdokaaGreatDoor
/- May an entry be: the walk. -/
namespace Go.Proofs.YtjlfjjgjghdokaaGreatDoor
open Go Go.Proofs Go.Wk
def dayB (d : Int) : Bool := decide (0 ≤ d) && decide (d ≤ 3652058)
theorem dayRight (d : Int) : CB 51 [.int .i32 d] (.bool (dayB d)) := by
  intro w M I H
  refine Exe.of_ev tok Tryz.call51 Tryz.func51 rfl rfl rfl ?_
  refine brd (fun h => ?_) (fun h => ?_)
  · refine Exists.intro () (And.intro (congrArg Value.bool ?_) (And.intro trivial H))
    unfold dayB
    rw [decide_eq_true h]; rfl
  · refine Exists.intro () (And.intro (congrArg Value.bool ?_) (And.intro trivial H))
    unfold dayB
    rw [decide_eq_false h]; rfl
def noB (s : ByteArray) : Bool := s.toList == (⟨#[]⟩ : ByteArray).toList
def rightGo (s last : Int) : List Leg → Bool
  | [] => s == 0
  | l :: r => bif in64 (s + l.amt) then (bif decide (l.acct ≤ last) then false else bif noB (accName l.acct) then false else rightGo (s + l.amt) l.acct r) else false
def rightB (k : Key) (ls : List Leg) : Bool := bif noB (kindName k.kind) then false else bif !dayB k.day then false else bif (ls.length : Int) == 0 then false else bif decide (8 < (ls.length : Int)) then false else rightGo 0 0 ls
@[reducible] def zeroK : List Value := [.int .u32 0, .int .i32 0, .int .u8 0, .int .u32 0]
theorem frzLegs {w : World} {B : Base} {S S' : List Asn} {F : List Fact} (H : Hp B S F w) {n : Nat} {cs : List Value} {t : TypeId} (ls : List Leg) [h1 : TakeB S n cs t S'] (hM : ∀ b, ¬ B.M b) (hc : cs = legsC ls) (hl : ls.length ≤ 100) (hok : ∀ x, x ∈ ls → inK .u8 x.acct ∧ inK .i64 x.amt) :
    Hp B S' (Sl legR (.slice (some ⟨n, 0, none⟩) ls.length ls.length) ls :: F) w := by
  refine H.frzBlk legR ls hM (by omega) (by rw [hc]; exact legsC_len ls) fun i x hx => ?_
  obtain ⟨hj, _⟩ := List.getElem?_eq_some_iff.1 hx
  refine ⟨(), hok x (List.mem_of_getElem? hx), ?_, rfl⟩
  subst hc
  show ((legsC ls).drop (i * 2)).take 2 = _
  rw [legsC_drop, List.drop_eq_getElem_cons hj]
  rw [List.getElem?_eq_getElem hj] at hx
  rw [Option.some.inj hx]
  rfl
theorem made_one {out : List Leg} (h : made [⟨1, -100⟩] out) : out = [⟨1, -100⟩] := by
  have e : sumGo [⟨1, -100⟩] [] = some [(1, -100)] := by decide
  unfold made at h
  rw [e] at h
  exact List.perm_singleton.1 h.1
end Go.Proofs.YtjlfjjgjghdokaaGreatDoor
/- Keys stand in the order: the walk. -/
namespace Go.Proofs.YtjlfjjgjghdokaaGreatDoor
open Go Go.Proofs Go.Wk
def eqK (a b : Key) : Bool := a.loan == b.loan && (a.day == b.day && (a.kind == b.kind && (a.seq == b.seq && true)))
theorem cmp_neg {a b : Int} : cmpI a b = 0 ↔ a = b := by
  unfold cmpI
  by_cases h : a < b
  · rw [if_pos h]; constructor
    · intro h1; cases h1
    · intro h1; omega
  · rw [if_neg h]
    by_cases h2 : b < a
    · rw [if_pos h2]; constructor
      · intro h1; cases h1
      · intro h1; omega
    · rw [if_neg h2]; constructor
      · intro _; omega
      · intro _; rfl
theorem cmp_swap (a b : Int) : cmpI b a = -cmpI a b := by
  unfold cmpI
  by_cases h : a < b
  · simp only [if_pos h, if_neg (show ¬ b < a by omega)]; omega
  · by_cases h2 : b < a
    · simp only [if_neg h, if_pos h2]
    · simp only [if_neg h, if_neg h2]; omega
theorem eqK_less (a b : Key) : eqK a b = (!lessB a b && !lessB b a) := by
  have c1 := @cmp_neg a.loan b.loan
  have c2 := @cmp_neg a.day b.day
  have c3 := @cmp_neg a.kind b.kind
  have c4 := @cmp_neg a.seq b.seq
  unfold eqK lessB
  rw [cmp_swap a.loan b.loan, cmp_swap a.day b.day, cmp_swap a.kind b.kind, cmp_swap a.seq b.seq]
  generalize cmpI a.loan b.loan = x1 at *
  generalize cmpI a.day b.day = x2 at *
  generalize cmpI a.kind b.kind = x3 at *
  generalize cmpI a.seq b.seq = x4 at *
  have e1 : (a.loan == b.loan) = decide (x1 = 0) := by rw [Bool.eq_iff_iff]; simp [c1]
  have e2 : (a.day == b.day) = decide (x2 = 0) := by rw [Bool.eq_iff_iff]; simp [c2]
  have e3 : (a.kind == b.kind) = decide (x3 = 0) := by rw [Bool.eq_iff_iff]; simp [c3]
  have e4 : (a.seq == b.seq) = decide (x4 = 0) := by rw [Bool.eq_iff_iff]; simp [c4]
  rw [e1, e2, e3, e4]
  simp only [orL, ne_eq, ite_not]
  rw [Bool.eq_iff_iff]
  simp only [Bool.and_eq_true, decide_eq_true_eq, Bool.not_eq_true', decide_eq_false_iff_not, Bool.and_true]
  by_cases h1 : x1 = 0 <;> by_cases h2 : x2 = 0 <;> by_cases h3 : x3 = 0 <;> by_cases h4 : x4 = 0 <;> simp_all <;> omega
theorem acc_min (n : Int) (h0 : 0 ≤ n) : ldV (tb 9) ((accL ++ [(⟨#[]⟩ : ByteArray)]).map Value.string) (0 + (if 10 < n then 10 else n).toNat * 1) = some (.string (accName n)) := by
  show ((accL ++ [(⟨#[]⟩ : ByteArray)]).map Value.string)[0 + (if 10 < n then 10 else n).toNat * 1]? = _
  by_cases h : 10 < n
  · rw [if_pos h]
    have : accL.length ≤ n.toNat := by show 10 ≤ _; omega
    simp only [accName, List.getElem?_eq_none this]
    rfl
  · rw [if_neg h]
    obtain ⟨m, rfl⟩ := Int.eq_ofNat_of_zero_le h0
    have hm : m ≤ 10 := by omega
    rcases (show m = 0 ∨ m = 1 ∨ m = 2 ∨ m = 3 ∨ m = 4 ∨ m = 5 ∨ m = 6 ∨ m = 7 ∨ m = 8 ∨ m = 9 ∨ m = 10 by omega) with rfl | rfl | rfl | rfl | rfl | rfl | rfl | rfl | rfl | rfl | rfl <;> rfl
theorem kind_min (n : Int) (h0 : 0 ≤ n) : ldV (tb 9) ((kindL ++ [(⟨#[]⟩ : ByteArray)]).map Value.string) (0 + (if 8 < n then 8 else n).toNat * 1) = some (.string (kindName n)) := by
  show ((kindL ++ [(⟨#[]⟩ : ByteArray)]).map Value.string)[0 + (if 8 < n then 8 else n).toNat * 1]? = _
  by_cases h : 8 < n
  · rw [if_pos h]
    have : kindL.length ≤ n.toNat := by show 8 ≤ _; omega
    simp only [kindName, List.getElem?_eq_none this]
    rfl
  · rw [if_neg h]
    obtain ⟨m, rfl⟩ := Int.eq_ofNat_of_zero_le h0
    have hm : m ≤ 8 := by omega
    rcases (show m = 0 ∨ m = 1 ∨ m = 2 ∨ m = 3 ∨ m = 4 ∨ m = 5 ∨ m = 6 ∨ m = 7 ∨ m = 8 by omega) with rfl | rfl | rfl | rfl | rfl | rfl | rfl | rfl | rfl <;> rfl
end Go.Proofs.YtjlfjjgjghdokaaGreatDoor
namespace Go.Proofs.YtjlfjjgjghdokaaGreatDoor
open Go Go.Proofs Go.Wk
theorem cl_legs {cs : List Value} : ∀ {ls : List Leg} {w : World} {I : BS}, (Cl legR cs ls).holds w I → cs = legsC ls
  | [], w, I, ⟨h, _⟩ => by simpa [legsC] using h
  | x :: r, w, I, ⟨h, hx⟩ => by
    obtain ⟨p, _, h0, _⟩ := hx 0 x rfl
    have h0 : cs.take 2 = [.int .u8 x.acct, .int .i64 x.amt] := by simpa using h0
    have ih := cl_legs (cs := cs.drop 2) (ls := r) (w := w) (I := I) ⟨by rw [List.length_drop, h]; simp; omega, fun i y hy => by
      obtain ⟨q, h1, h2, h3⟩ := hx (i + 1) y (by simpa using hy)
      refine ⟨q, h1, ?_, h3⟩
      rw [← h2, List.drop_drop]
      show ((cs.drop (2 + i * 2)).take 2) = (cs.drop ((i + 1) * 2)).take 2
      rw [show 2 + i * 2 = (i + 1) * 2 by omega]⟩
    rw [← List.take_append_drop 2 cs, h0, ih]
    rfl
theorem min_v (n : Nat) : Value.int .i64 (if (12 : Int) < (n : Int) then 12 else (n : Int)) = .int .i64 ((min n 12 : Nat) : Int) := by
  congr 1
  split <;> omega
theorem legs_one (x : Leg) : ∀ u, u ∈ ([.int .u8 x.acct, .int .i64 x.amt] : List Value) → u.oneCell' = true := by
  intro u hu
  simp only [List.mem_cons, List.not_mem_nil, or_false] at hu
  rcases hu with rfl | rfl <;> rfl
theorem legs_ok {w : World} {B : Base} {S : List Asn} {F : List Fact} (H : Hp B S F w) {A : Option Addr} {n c : Nat} {ls : List Leg} [hp : InSl F A n c legR ls] : ∀ x, x ∈ ls → inK .u8 x.acct ∧ inK .i64 x.amt := fun x hx => by
  obtain ⟨I, fp, _, ha, _⟩ := H.ex
  obtain ⟨A', c', _, _, _, _, hel⟩ := ha _ hp.mem
  obtain ⟨i, hi⟩ := List.mem_iff_getElem?.1 hx
  obtain ⟨b, o, _, _, p, hok, _⟩ := hel i x hi
  exact hok
theorem frzLegsRow {w : World} {B : Base} {S S' : List Asn} {F : List Fact} (H : Hp B S F w) {v : Value} {e n : Nat} (ls : List Leg) (hM : ∀ b, ¬ B.M b) [h1 : TakeR S v e 2 n (legsC ls) S'] (hok : ∀ x, x ∈ ls → inK .u8 x.acct ∧ inK .i64 x.amt) : Hp B S' (Sl legR v ls :: F) w := by
  have hcl : ∀ i x, ls[i]? = some x → ∃ p : Unit, (inK .u8 x.acct ∧ inK .i64 x.amt) ∧ ((legsC ls).drop (i * 2)).take 2 = [.int .u8 x.acct, .int .i64 x.amt] ∧ ([] : List Fact) = [] := fun i x hx => by
    obtain ⟨hj, _⟩ := List.getElem?_eq_some_iff.1 hx
    refine ⟨(), hok x (List.mem_of_getElem? hx), ?_, rfl⟩
    rw [legsC_drop, List.drop_eq_getElem_cons hj]
    rw [List.getElem?_eq_getElem hj] at hx
    rw [Option.some.inj hx]
    rfl
  have H2 := (H.addCl legR (cs := legsC ls) (xs := ls) (legsC_len ls) hcl).frzRow (v := v) (xs := ls) legR hM rfl (by decide)
  refine H2.facts fun I ha f hf => ha f ?_
  rcases List.mem_cons.1 hf with rfl | hf
  · exact List.mem_cons_self
  · exact List.mem_cons_of_mem _ (List.mem_cons_of_mem _ hf)
end Go.Proofs.YtjlfjjgjghdokaaGreatDoor
/- The document's own sum, and its entry: the walk. -/
namespace Go.Proofs.YtjlfjjgjghdokaaGreatDoor
open Go Go.Proofs Go.Wk
def addR (a b : Int) : Value := if in64 (a + b) then .tuple #[.int .i64 (a + b), .bool true] else .tuple #[.int .i64 0, .bool false]
theorem addR_no {a b : Int} (en : in64 (a + b) = false) : Value.tuple #[.int .i64 0, .bool false] = addR a b := by unfold addR; rw [en]; rfl
theorem addR_ok {a b : Int} (en : in64 (a + b) = true) : Value.tuple #[.int .i64 (a + b), .bool true] = addR a b := by unfold addR; rw [en]; rfl
end Go.Proofs.YtjlfjjgjghdokaaGreatDoor
/- The document's word on entries that are alike, and on those that may be: the walk. -/
namespace Go.Proofs.YtjlfjjgjghdokaaGreatDoor
open Go Go.Proofs Go.Wk
def legEq (x y : Leg) : Bool := x.acct == y.acct && (x.amt == y.amt && true)
def legsEq : List Leg → List Leg → Bool
  | [], [] => true
  | x :: r, y :: s => legEq x y && legsEq r s
  | _, _ => false
def sameB (k l : Key) (a b : List Leg) : Bool := eqK k l && legsEq a b
theorem legsEq_len : ∀ {a b : List Leg}, a.length ≠ b.length → legsEq a b = false
  | [], [], h => absurd rfl h
  | [], _ :: _, _ => rfl
  | _ :: _, [], _ => rfl
  | x :: r, y :: s, h => by
    rw [legsEq, legsEq_len (by simpa using h), Bool.and_false]
end Go.Proofs.YtjlfjjgjghdokaaGreatDoor
/- Which entries may be, by the document: the walk. -/
namespace Go.Proofs.YtjlfjjgjghdokaaGreatDoor
open Go Go.Proofs Go.Wk
def rGo : List Leg → Option Int → Int → Bool
  | [], _, s => s == 0
  | l :: r, p, s => bif in64 (s + l.amt) then (bif decide (l.acct < 1) then false else bif decide (9 < l.acct) then false else bif (match p with
    | none => false
    | some a => decide (l.acct ≤ a)) then false else rGo r (some l.acct) (s + l.amt)) else false
def rightR (k : Key) (ls : List Leg) : Bool := bif decide (k.kind < 1) then false else bif decide (7 < k.kind) then false else bif decide (k.day < 0) then false else bif decide (3652058 < k.day) then false else
  bif decide ((ls.length : Int) < 1) then false else bif decide (8 < (ls.length : Int)) then false else rGo ls none 0
end Go.Proofs.YtjlfjjgjghdokaaGreatDoor
namespace Go.Proofs.YtjlfjjgjghdokaaGreatDoor
open Go Go.Proofs Go.Wk
end Go.Proofs.YtjlfjjgjghdokaaGreatDoor
/- The program's word on entries that may be is the document's. -/
namespace Go.Proofs.YtjlfjjgjghdokaaGreatDoor
open Go Go.Proofs Go.Wk
theorem noB_acc (a : Int) (h0 : 0 ≤ a) (h1 : a ≤ 255) : noB (accName a) = (decide (a < 1) || decide (9 < a)) := by
  rcases (show a = 0 ∨ a = 1 ∨ a = 2 ∨ a = 3 ∨ a = 4 ∨ a = 5 ∨ a = 6 ∨ a = 7 ∨ a = 8 ∨ a = 9 ∨ 9 < a by omega) with rfl | rfl | rfl | rfl | rfl | rfl | rfl | rfl | rfl | rfl | h
  all_goals first | decide +kernel | skip
  have : accL.length ≤ a.toNat := by show 10 ≤ _; omega
  rw [decide_eq_true h, Bool.or_true]
  unfold accName
  rw [List.getElem?_eq_none this]
  decide +kernel
theorem noB_kind (a : Int) (h0 : 0 ≤ a) (h1 : a ≤ 255) : noB (kindName a) = (decide (a < 1) || decide (7 < a)) := by
  rcases (show a = 0 ∨ a = 1 ∨ a = 2 ∨ a = 3 ∨ a = 4 ∨ a = 5 ∨ a = 6 ∨ a = 7 ∨ 7 < a by omega) with rfl | rfl | rfl | rfl | rfl | rfl | rfl | rfl | h
  all_goals first | decide +kernel | skip
  have : kindL.length ≤ a.toNat := by show 8 ≤ _; omega
  rw [decide_eq_true h, Bool.or_true]
  unfold kindName
  rw [List.getElem?_eq_none this]
  decide +kernel
theorem rightGo_r : ∀ (ls : List Leg) (p : Option Int) (s : Int), (∀ x, x ∈ ls → inK .u8 x.acct) → (∀ a, p = some a → 1 ≤ a) → rightGo s (p.getD 0) ls = rGo ls p s
  | [], _, _, _, _ => rfl
  | l :: r, p, s, hr, hp => by
    obtain ⟨h0, h1⟩ := hr l List.mem_cons_self
    simp only [kLo, kHi] at h0 h1
    unfold rightGo rGo
    rw [noB_acc l.acct h0 h1]
    cases hin : in64 (s + l.amt) with
    | false => rfl
    | true =>
      simp only [cond_true]
      by_cases q1 : l.acct < 1
      · have : l.acct ≤ p.getD 0 := by
          cases p with
          | none => simp only [Option.getD_none]; omega
          | some a => have := hp a rfl; simp only [Option.getD_some]; omega
        simp [q1, this]
      · by_cases q2 : 9 < l.acct
        · simp [q1, q2]
        · have ih := rightGo_r r (some l.acct) (s + l.amt) (fun x hx => hr x (List.mem_cons_of_mem _ hx)) (fun a ha => by cases ha; omega)
          simp only [Option.getD_some] at ih
          cases p with
          | none =>
            have : ¬ l.acct ≤ 0 := by omega
            simp [q1, q2, this, ih]
          | some a => simp [q1, q2, ih]
theorem rights (k : Key) (hk : inK .u8 k.kind) (ls : List Leg) (hr : ∀ x, x ∈ ls → inK .u8 x.acct) : rightB k ls = rightR k ls := by
  obtain ⟨h0, h1⟩ := hk
  simp only [kLo, kHi] at h0 h1
  unfold rightB rightR dayB
  rw [noB_kind k.kind h0 h1, ← rightGo_r ls none 0 hr (fun a ha => by cases ha)]
  by_cases q1 : k.kind < 1
  · simp [q1]
  · by_cases q2 : 7 < k.kind
    · simp [q1, q2]
    · by_cases q3 : k.day < 0
      · have : ¬ 0 ≤ k.day := by omega
        simp [q1, q2, q3, this]
      · by_cases q4 : 3652058 < k.day
        · have : ¬ k.day ≤ 3652058 := by omega
          simp [q1, q2, q3, q4, this]
        · have e1 : 0 ≤ k.day := by omega
          have e2 : k.day ≤ 3652058 := by omega
          cases ls with
          | nil => simp [q1, q2, q3, q4, e1, e2]
          | cons x r =>
            have e3 : ((((x :: r).length : Nat) : Int) == 0) = false := by simp; omega
            have e4 : ¬ (((x :: r).length : Nat) : Int) < 1 := by simp; omega
            simp only [e3, e4, q1, q2, q3, q4, e1, e2, decide_true, decide_false, Bool.or_self, Bool.and_self, Bool.not_true, cond_false, Option.getD_none]
end Go.Proofs.YtjlfjjgjghdokaaGreatDoor
namespace Go.Proofs.YtjlfjjgjghdokaaGreatDoor
open Go Go.Proofs Go.Wk
theorem lk_putL {a k : Int} {v : Int} : ∀ {m : List (Int × Int)}, lk k (putL a v m) = if a = k then some v else lk k m
  | [] => by
    unfold putL lk
    by_cases h : a = k
    · simp [h]
    · simp [h, lk]
  | q :: m => by
    unfold putL
    by_cases hq : q.1 = a
    · rw [if_pos hq]
      unfold lk
      by_cases h : a = k
      · simp [h]
      · have : q.1 ≠ k := by rw [hq]; exact h
        simp [h, this]
    · rw [if_neg hq]
      unfold lk
      rw [lk_putL (m := m)]
      by_cases h : a = k
      · subst h; simp [hq]
      · simp [h]
def rise (l : List Leg) : Prop := l.Pairwise fun a b => a.acct < b.acct
theorem rise_eq : ∀ {a b : List Leg}, rise a → rise b → (∀ x, x ∈ a ↔ x ∈ b) → a = b
  | [], [], _, _, _ => rfl
  | [], y :: b, _, _, h => absurd ((h y).2 List.mem_cons_self) (by simp)
  | x :: a, [], _, _, h => absurd ((h x).1 List.mem_cons_self) (by simp)
  | x :: a, y :: b, ha, hb, h => by
    obtain ⟨ha1, ha2⟩ := List.pairwise_cons.1 ha
    obtain ⟨hb1, hb2⟩ := List.pairwise_cons.1 hb
    have hxy : x = y := by
      rcases List.mem_cons.1 ((h x).1 List.mem_cons_self) with e | e
      · exact e
      · rcases List.mem_cons.1 ((h y).2 List.mem_cons_self) with e2 | e2
        · exact e2.symm
        · have q1 := hb1 x e
          have q2 := ha1 y e2
          omega
    subst hxy
    rw [rise_eq ha2 hb2 fun z => ⟨fun hz => ?_, fun hz => ?_⟩]
    · rcases List.mem_cons.1 ((h z).1 (List.mem_cons_of_mem _ hz)) with e | e
      · have := ha1 z hz; rw [e] at this; omega
      · exact e
    · rcases List.mem_cons.1 ((h z).2 (List.mem_cons_of_mem _ hz)) with e | e
      · have := hb1 z hz; rw [e] at this; omega
      · exact e
theorem putL_keys {a v : Int} : ∀ {m : List (Int × Int)} (k : Int), k ∈ (putL a v m).map Prod.fst → k = a ∨ k ∈ m.map Prod.fst
  | [], k, h => by simpa [putL] using h
  | q :: m, k, h => by
    unfold putL at h
    split at h
    · simp only [List.map_cons, List.mem_cons] at h ⊢
      exact h.imp id .inr
    · simp only [List.map_cons, List.mem_cons] at h ⊢
      rcases h with h | h
      · exact .inr (.inl h)
      · exact (putL_keys k h).imp id .inr
theorem putL_nodup {a v : Int} : ∀ {m : List (Int × Int)}, (m.map Prod.fst).Nodup → ((putL a v m).map Prod.fst).Nodup
  | [], _ => by simp [putL]
  | q :: m, h => by
    simp only [List.map_cons, List.nodup_cons] at h
    unfold putL
    split
    · rename_i hq
      simp only [List.map_cons, List.nodup_cons]
      rw [← hq]; exact h
    · rename_i hq
      simp only [List.map_cons, List.nodup_cons]
      exact ⟨fun hm => (putL_keys _ hm).elim hq h.1, putL_nodup h.2⟩
theorem sumGo_nodup : ∀ {ls : List Leg} {m m' : List (Int × Int)}, (m.map Prod.fst).Nodup → sumGo ls m = some m' → (m'.map Prod.fst).Nodup
  | [], m, m', h, e => by simp only [sumGo, Option.some.injEq] at e; subst e; exact h
  | l :: r, m, m', h, e => by
    unfold sumGo at e
    split at e
    · exact sumGo_nodup (putL_nodup h) e
    · cases e
theorem lk_iff {k v : Int} : ∀ {m : List (Int × Int)}, (m.map Prod.fst).Nodup → ((k, v) ∈ m ↔ lk k m = some v)
  | [], _ => by simp [lk]
  | q :: m, h => by
    simp only [List.map_cons, List.nodup_cons] at h
    unfold lk
    by_cases hq : q.1 = k
    · rw [if_pos hq]
      constructor
      · intro hm
        rcases List.mem_cons.1 hm with e | e
        · rw [← e]
        · exact absurd (List.mem_map_of_mem (f := Prod.fst) e) (by rw [← hq]; exact h.1)
      · intro e
        rw [← hq, ← Option.some.inj e]; exact List.mem_cons_self
    · rw [if_neg hq, ← lk_iff h.2]
      constructor
      · intro hm
        rcases List.mem_cons.1 hm with e | e
        · rw [← e] at hq; exact absurd rfl hq
        · exact e
      · exact List.mem_cons_of_mem _
end Go.Proofs.YtjlfjjgjghdokaaGreatDoor
namespace Go.Proofs.YtjlfjjgjghdokaaGreatDoor
open Go Go.Proofs Go.Wk
theorem legsEq_self : ∀ l : List Leg, legsEq l l = true
  | [] => rfl
  | x :: r => by simp [legsEq, legEq, legsEq_self r]
theorem sumGo_len : ∀ {ls : List Leg} {m m' : List (Int × Int)}, sumGo ls m = some m' → m'.length ≤ m.length + ls.length
  | [], m, m', e => by simp only [sumGo, Option.some.injEq] at e; subst e; simp
  | l :: r, m, m', e => by
    unfold sumGo at e
    split at e
    · have h1 := sumGo_len e
      have h2 := len_putL (k := l.acct) (v := (lk l.acct m).getD 0 + l.amt) (l := m)
      simp only [List.length_cons]; omega
    · cases e
end Go.Proofs.YtjlfjjgjghdokaaGreatDoor
namespace Go.Proofs.YtjlfjjgjghdokaaGreatDoor
open Go Go.Proofs Go.Wk
def ofV (a : Int) : List Leg → Int
  | [] => 0
  | x :: r => if x.acct = a then x.amt else ofV a r
end Go.Proofs.YtjlfjjgjghdokaaGreatDoor
/- Legs in whatever order: the walk. -/
namespace Go.Proofs.YtjlfjjgjghdokaaGreatDoor
open Go Go.Proofs Go.Wk
theorem legs_amt {ls : List Leg} {j : Nat} {x : Leg} (h : ls[j]? = some x) : ldV (tb 22) (legsC ls) (0 + j * 2 + 1) = some (.int .i64 x.amt) := by
  obtain ⟨hj, _⟩ := List.getElem?_eq_some_iff.1 h
  have hd : ls.drop j = x :: ls.drop (j + 1) := by
    rw [List.drop_eq_getElem_cons hj]
    rw [List.getElem?_eq_getElem hj] at h
    rw [Option.some.inj h]
  show (legsC ls)[0 + j * 2 + 1]? = _
  have : (legsC ls)[0 + j * 2 + 1]? = ((legsC ls).drop (j * 2))[1]? := by rw [List.getElem?_drop]; congr 1; omega
  rw [this, legsC_drop, hd]
  rfl
theorem legs_setAmt : ∀ (ls : List Leg) (j : Nat) (x : Leg) (v : Int), ls[j]? = some x → setL (legsC ls) (0 + j * 2 + 1) [.int .i64 v] = legsC (ls.set j ⟨x.acct, v⟩)
  | [], j, x, v, h => by simp at h
  | y :: r, 0, x, v, h => by
    simp only [List.getElem?_cons_zero, Option.some.injEq] at h
    subst h
    rfl
  | y :: r, j + 1, x, v, h => by
    have ih := legs_setAmt r j x v (by simpa using h)
    rw [show 0 + (j + 1) * 2 + 1 = (0 + j * 2 + 1) + 1 + 1 by omega]
    show Value.int .u8 y.acct :: Value.int .i64 y.amt :: setL (legsC r) (0 + j * 2 + 1) [.int .i64 v] = _
    rw [ih]; rfl
/-- An amount's rest. -/
def modL (x : Leg) : Leg := ⟨x.acct, x.amt.tmod 1000000⟩
def sumA (a : Int) : List Leg → Int
  | [] => 0
  | x :: r => (if x.acct = a then x.amt else 0) + sumA a r
structure LegsOk (ls : List Leg) : Prop where
  sum : ∀ out, made ls out → ∀ a : Nat, a < 12 → ofV a out = sumA a ls
  len : ∀ out, made ls out → out.length ≤ 1000
  perm : ∀ t a b, t.Perm ls → made ls a → made t b → legsEq a b = true
theorem modL_in {x : Leg} : -999999 ≤ (modL x).amt ∧ (modL x).amt ≤ 999999 := by
  have h1 : (modL x).amt = x.amt.tmod 1000000 := rfl
  have h2 := Int.tmod_lt_of_pos x.amt (b := 1000000) (by decide)
  have h3 := Int.lt_tmod_of_pos x.amt (b := 1000000) (by decide)
  omega
theorem sumA_take {a : Int} : ∀ (ls : List Leg) (i : Nat) (u : Leg), ls[i]? = some u → sumA a (ls.take (i + 1)) = sumA a (ls.take i) + (if u.acct = a then u.amt else 0)
  | [], i, u, h => by simp at h
  | x :: r, 0, u, h => by
    simp only [List.getElem?_cons_zero, Option.some.injEq] at h
    subst h
    simp [sumA]
  | x :: r, i + 1, u, h => by
    have := sumA_take (a := a) r i u (by simpa using h)
    rw [List.take_succ_cons, List.take_succ_cons, sumA, sumA, this]
    omega
theorem sumA_in {a : Int} : ∀ (ls : List Leg), (∀ x, x ∈ ls → -999999 ≤ x.amt ∧ x.amt ≤ 999999) → -999999 * (ls.length : Int) ≤ sumA a ls ∧ sumA a ls ≤ 999999 * (ls.length : Int)
  | [], _ => by simp [sumA]
  | x :: r, h => by
    have h1 := h x List.mem_cons_self
    have h2 := sumA_in (a := a) r fun y hy => h y (List.mem_cons_of_mem _ hy)
    simp only [sumA, List.length_cons]
    split <;> omega
/-- Two places of a list change places. -/
def swapL (l : List Leg) (i j : Nat) (x y : Leg) : List Leg := (l.set i y).set j x
theorem swap_perm {l : List Leg} {i j : Nat} {x y : Leg} (hx : l[i]? = some x) (hy : l[j]? = some y) : (swapL l i j x y).Perm l := by
  obtain ⟨hi, rfl⟩ := List.getElem?_eq_some_iff.1 hx
  obtain ⟨hj, rfl⟩ := List.getElem?_eq_some_iff.1 hy
  exact List.set_set_perm hi hj
end Go.Proofs.YtjlfjjgjghdokaaGreatDoor
/- Legs in whatever order: the plain law. -/
namespace Go.Proofs.YtjlfjjgjghdokaaGreatDoor
open Go Go.Proofs Go.Wk
def anyA (a : Int) : List Leg → Bool
  | [] => false
  | x :: r => decide (x.acct = a) || anyA a r
@[reducible] def small (ls : List Leg) : Prop := ∀ x, x ∈ ls → -999999 ≤ x.amt ∧ x.amt ≤ 999999
theorem any_sum {k : Int} : ∀ (ls : List Leg), anyA k ls = false → sumA k ls = 0
  | [], _ => rfl
  | x :: r, h => by
    unfold anyA at h
    simp only [Bool.or_eq_false_iff, decide_eq_false_iff_not] at h
    unfold sumA
    rw [if_neg h.1, any_sum r h.2, Int.zero_add]
theorem sumA_perm {k : Int} {a b : List Leg} (h : a.Perm b) : sumA k a = sumA k b := by
  induction h with
  | nil => rfl
  | cons x _ ih => simp only [sumA, ih]
  | swap x y l => simp only [sumA]; omega
  | trans _ _ h1 h2 => rw [h1, h2]
theorem anyA_perm {k : Int} {a b : List Leg} (h : a.Perm b) : anyA k a = anyA k b := by
  induction h with
  | nil => rfl
  | cons x _ ih => simp only [anyA, ih]
  | swap x y l => simp only [anyA]; rw [← Bool.or_assoc, ← Bool.or_assoc, Bool.or_comm (decide (y.acct = k))]
  | trans _ _ h1 h2 => rw [h1, h2]
end Go.Proofs.YtjlfjjgjghdokaaGreatDoor
/- How many bytes a number takes; numbers as bytes: the walks. -/
namespace Go.Proofs.YtjlfjjgjghdokaaGreatDoor
open Go Go.Proofs Go.Wk
/-- How many bytes a number takes. -/
def sizeB (x : Nat) : Nat := if h : x = 0 then 0 else 1 + sizeB (x / 256)
termination_by x
decreasing_by omega
theorem sizeB_zero : sizeB 0 = 0 := by unfold sizeB; rfl
theorem sizeB_pos {x : Nat} (h : x ≠ 0) : sizeB x = 1 + sizeB (x / 256) := by rw [sizeB, dif_neg h]
theorem sizeB_small {y : Nat} (h : y < 256) : sizeB y = if y = 0 then 0 else 1 := by
  by_cases h0 : y = 0
  · subst h0; rw [sizeB_zero]; rfl
  · rw [sizeB_pos h0, Nat.div_eq_of_lt h, sizeB_zero, if_neg h0]
theorem sizeB_2 {x : Nat} (h : 256 ≤ x) : sizeB x = 2 + sizeB (x / 65536) := by
  rw [sizeB_pos (by omega), sizeB_pos (x := x / 256) (by omega), Nat.div_div_eq_div_mul, show 256 * 256 = 65536 from rfl]; omega
theorem sizeB_4 {x : Nat} (h : 16777216 ≤ x) : sizeB x = 4 + sizeB (x / 4294967296) := by
  rw [sizeB_2 (by omega), sizeB_2 (x := x / 65536) (by omega), Nat.div_div_eq_div_mul, show 65536 * 65536 = 4294967296 from rfl]; omega
def tabGo : List UInt8 → Nat → Bool
  | [], k => Nat.beq k 256
  | b :: r, k => ((Nat.beq b.toNat 0) == (Nat.beq k 0)) && (Nat.ble b.toNat 8 && tabGo r (k + 1))
theorem tabGo_at : ∀ {l : List UInt8} {k y : Nat}, tabGo l k = true → k ≤ y → y < 256 → ∃ b, l[y - k]? = some b ∧ b.toNat ≤ 8 ∧ (b.toNat = 0 ↔ y = 0)
  | [], k, y, h, h1, h2 => by
    have := Nat.eq_of_beq_eq_true h
    omega
  | b :: r, k, y, h, h1, h2 => by
    simp only [tabGo, Bool.and_eq_true, beq_iff_eq] at h
    obtain ⟨h3, h4, h5⟩ := h
    by_cases hk : k = y
    · subst hk
      refine ⟨b, by simp, Nat.le_of_ble_eq_true h4, ?_⟩
      rw [← Nat.beq_eq, ← Nat.beq_eq, h3]
    · obtain ⟨c, hc, hc2⟩ := tabGo_at h5 (show k + 1 ≤ y by omega) h2
      refine ⟨c, ?_, hc2⟩
      rw [show y - k = (y - (k + 1)) + 1 by omega, List.getElem?_cons_succ]
      exact hc
theorem tab_at {P : Program} {T : Tab} {K : Value → World → Prop} {w : World} (hT : T.Ok P) {t : TypeId} {it : TypeInfo} {s : ByteArray} (ht : T t = some ⟨.string, it⟩) (hs : tabGo s.data.toList 0 = true) {y : Nat} (hy : y < 256)
    (k : ∀ b : Nat, b ≤ 8 → (b = 0 ↔ y = 0) → K (.int .u8 b) w) : IndexK P K w t (.string s) (.int .u8 (IntKind.u8.wrap y)) := by
  have e : IntKind.u8.wrap y = y := wrap_id ⟨by show (0 : Int) ≤ _; omega, by show _ ≤ (255 : Int); omega⟩
  obtain ⟨b, hb, h8, h0⟩ := tabGo_at hs (Nat.zero_le y) hy
  rw [e]
  refine str_at hT ht (by omega) (b := b) ?_ (k b.toNat h8 h0)
  have h1 : s.data.toList[y]? = some b := hb
  have h2 : s.data[y]? = some b := by rw [← h1, Array.getElem?_toList]
  obtain ⟨h3, h4⟩ := Array.getElem?_eq_some_iff.1 h2
  rw [Int.toNat_natCast, getElem?_pos s y h3]
  exact congrArg some h4
theorem shr_div {x s : Nat} {k : IntKind} (h : s ≤ k.bits) : ((x : Int)).fdiv (2 ^ min ((s : Int)).toNat k.bits) = ((x / 2 ^ s : Nat) : Int) := by
  rw [Int.toNat_natCast, Nat.min_eq_left h]
  have : ((2 : Int) ^ s) = ((2 ^ s : Nat) : Int) := by simp
  rw [this]
  exact (Int.ofNat_fdiv x (2 ^ s)).symm
theorem leafB {x y b acc : Nat} (hx : sizeB x = acc / 8 + sizeB y) (h8 : acc % 8 = 0) (hy : y < 256) (hb : b ≤ 8) (h0 : b = 0 ↔ y = 0) : (acc + b + 7) / 8 = sizeB x := by
  rw [hx, sizeB_small hy]
  by_cases h : y = 0
  · rw [if_pos h]; have := h0.2 h; omega
  · rw [if_neg h]; have : b ≠ 0 := fun e => h (h0.1 e); omega
set_option maxRecDepth 20000 in
theorem lenB (x : Nat) (hx : x < 18446744073709551616) (w : World) (M I : BS) (H : Hp ⟨w, M, I⟩ [] [] w) :
    Ctr Tryz.prog 177 [.int .u64 x] w M I (fun n : Nat => .int .i64 n) (fun n => n ≤ 64 ∧ (n + 7) / 8 = sizeB x) (fun _ => []) (fun _ => []) := by
  refine Exe.of_ev tok Tryz.call177 Tryz.func177 rfl rfl rfl ?_

  refine brd (fun h0 => ?_) (fun h0 => ?_)
  · have h0 : (((4294967296 : Nat)) : Int) ≤ x := h0
    obtain ⟨y0, e0⟩ : ∃ y : Nat, x / 4294967296 = y := ⟨_, rfl⟩
    have s0 : sizeB x = 4 + sizeB y0 := by rw [sizeB_4 (x := x) (by omega), e0]
    refine shr_as (y0 : Int) (by decide) (by rw [← e0]; exact shr_div (x := x) (s := 32) (k := .u64) (by decide)) ?_
    refine brd (fun h1 => ?_) (fun h1 => ?_)
    · have h1 : (((65536 : Nat)) : Int) ≤ y0 := h1
      obtain ⟨y1, e1⟩ : ∃ y : Nat, y0 / 65536 = y := ⟨_, rfl⟩
      have s1 : sizeB y0 = 2 + sizeB y1 := by rw [sizeB_2 (x := y0) (by omega), e1]
      refine shr_as (y1 : Int) (by decide) (by rw [← e1]; exact shr_div (x := y0) (s := 16) (k := .u64) (by decide)) ?_
      refine brd (fun h2 => ?_) (fun h2 => ?_)
      · have h2 : (((256 : Nat)) : Int) ≤ y1 := h2
        obtain ⟨y2, e2⟩ : ∃ y : Nat, y1 / 256 = y := ⟨_, rfl⟩
        have s2 : sizeB y1 = 1 + sizeB y2 := by rw [sizeB_pos (x := y1) (by omega), e2]
        refine shr_as (y2 : Int) (by decide) (by rw [← e2]; exact shr_div (x := y1) (s := 8) (k := .u64) (by decide)) ?_
        refine tab_at tok rfl (by kernel_rfl) (y := y2) (by omega) fun b hb h0 => ?_
        refine Exists.intro (56 + b) (And.intro ?_ (And.intro ⟨by omega, leafB (by rw [s0, s1, s2] <;> omega) rfl (by omega) hb h0⟩ H))
        show Value.int .i64 (IntKind.i64.wrap (56 + IntKind.i64.wrap b)) = Value.int .i64 ((56 + b : Nat) : Int)
        rw [w64 (n := (b : Int)) (by omega) (by omega), w64 (by omega) (by omega)] <;> rfl
      · have h2 : ¬ (((256 : Nat)) : Int) ≤ y1 := h2
        refine tab_at tok rfl (by kernel_rfl) (y := y1) (by omega) fun b hb h0 => ?_
        refine Exists.intro (48 + b) (And.intro ?_ (And.intro ⟨by omega, leafB (by rw [s0, s1] <;> omega) rfl (by omega) hb h0⟩ H))
        show Value.int .i64 (IntKind.i64.wrap (48 + IntKind.i64.wrap b)) = Value.int .i64 ((48 + b : Nat) : Int)
        rw [w64 (n := (b : Int)) (by omega) (by omega), w64 (by omega) (by omega)] <;> rfl
    · have h1 : ¬ (((65536 : Nat)) : Int) ≤ y0 := h1
      refine brd (fun h2 => ?_) (fun h2 => ?_)
      · have h2 : (((256 : Nat)) : Int) ≤ y0 := h2
        obtain ⟨y2, e2⟩ : ∃ y : Nat, y0 / 256 = y := ⟨_, rfl⟩
        have s2 : sizeB y0 = 1 + sizeB y2 := by rw [sizeB_pos (x := y0) (by omega), e2]
        refine shr_as (y2 : Int) (by decide) (by rw [← e2]; exact shr_div (x := y0) (s := 8) (k := .u64) (by decide)) ?_
        refine tab_at tok rfl (by kernel_rfl) (y := y2) (by omega) fun b hb h0 => ?_
        refine Exists.intro (40 + b) (And.intro ?_ (And.intro ⟨by omega, leafB (by rw [s0, s2] <;> omega) rfl (by omega) hb h0⟩ H))
        show Value.int .i64 (IntKind.i64.wrap (40 + IntKind.i64.wrap b)) = Value.int .i64 ((40 + b : Nat) : Int)
        rw [w64 (n := (b : Int)) (by omega) (by omega), w64 (by omega) (by omega)] <;> rfl
      · have h2 : ¬ (((256 : Nat)) : Int) ≤ y0 := h2
        refine tab_at tok rfl (by kernel_rfl) (y := y0) (by omega) fun b hb h0 => ?_
        refine Exists.intro (32 + b) (And.intro ?_ (And.intro ⟨by omega, leafB (by rw [s0] <;> omega) rfl (by omega) hb h0⟩ H))
        show Value.int .i64 (IntKind.i64.wrap (32 + IntKind.i64.wrap b)) = Value.int .i64 ((32 + b : Nat) : Int)
        rw [w64 (n := (b : Int)) (by omega) (by omega), w64 (by omega) (by omega)] <;> rfl
  · have h0 : ¬ (((4294967296 : Nat)) : Int) ≤ x := h0
    refine brd (fun h1 => ?_) (fun h1 => ?_)
    · have h1 : (((65536 : Nat)) : Int) ≤ x := h1
      obtain ⟨y1, e1⟩ : ∃ y : Nat, x / 65536 = y := ⟨_, rfl⟩
      have s1 : sizeB x = 2 + sizeB y1 := by rw [sizeB_2 (x := x) (by omega), e1]
      refine shr_as (y1 : Int) (by decide) (by rw [← e1]; exact shr_div (x := x) (s := 16) (k := .u64) (by decide)) ?_
      refine brd (fun h2 => ?_) (fun h2 => ?_)
      · have h2 : (((256 : Nat)) : Int) ≤ y1 := h2
        obtain ⟨y2, e2⟩ : ∃ y : Nat, y1 / 256 = y := ⟨_, rfl⟩
        have s2 : sizeB y1 = 1 + sizeB y2 := by rw [sizeB_pos (x := y1) (by omega), e2]
        refine shr_as (y2 : Int) (by decide) (by rw [← e2]; exact shr_div (x := y1) (s := 8) (k := .u64) (by decide)) ?_
        refine tab_at tok rfl (by kernel_rfl) (y := y2) (by omega) fun b hb h0 => ?_
        refine Exists.intro (24 + b) (And.intro ?_ (And.intro ⟨by omega, leafB (by rw [s1, s2] <;> omega) rfl (by omega) hb h0⟩ H))
        show Value.int .i64 (IntKind.i64.wrap (24 + IntKind.i64.wrap b)) = Value.int .i64 ((24 + b : Nat) : Int)
        rw [w64 (n := (b : Int)) (by omega) (by omega), w64 (by omega) (by omega)] <;> rfl
      · have h2 : ¬ (((256 : Nat)) : Int) ≤ y1 := h2
        refine tab_at tok rfl (by kernel_rfl) (y := y1) (by omega) fun b hb h0 => ?_
        refine Exists.intro (16 + b) (And.intro ?_ (And.intro ⟨by omega, leafB (by rw [s1] <;> omega) rfl (by omega) hb h0⟩ H))
        show Value.int .i64 (IntKind.i64.wrap (16 + IntKind.i64.wrap b)) = Value.int .i64 ((16 + b : Nat) : Int)
        rw [w64 (n := (b : Int)) (by omega) (by omega), w64 (by omega) (by omega)] <;> rfl
    · have h1 : ¬ (((65536 : Nat)) : Int) ≤ x := h1
      refine brd (fun h2 => ?_) (fun h2 => ?_)
      · have h2 : (((256 : Nat)) : Int) ≤ x := h2
        obtain ⟨y2, e2⟩ : ∃ y : Nat, x / 256 = y := ⟨_, rfl⟩
        have s2 : sizeB x = 1 + sizeB y2 := by rw [sizeB_pos (x := x) (by omega), e2]
        refine shr_as (y2 : Int) (by decide) (by rw [← e2]; exact shr_div (x := x) (s := 8) (k := .u64) (by decide)) ?_
        refine tab_at tok rfl (by kernel_rfl) (y := y2) (by omega) fun b hb h0 => ?_
        refine Exists.intro (8 + b) (And.intro ?_ (And.intro ⟨by omega, leafB (by rw [s2] <;> omega) rfl (by omega) hb h0⟩ H))
        show Value.int .i64 (IntKind.i64.wrap (8 + IntKind.i64.wrap b)) = Value.int .i64 ((8 + b : Nat) : Int)
        rw [w64 (n := (b : Int)) (by omega) (by omega), w64 (by omega) (by omega)] <;> rfl
      · have h2 : ¬ (((256 : Nat)) : Int) ≤ x := h2
        refine tab_at tok rfl (by kernel_rfl) (y := x) (by omega) fun b hb h0 => ?_
        refine Exists.intro (0 + b) (And.intro ?_ (And.intro ⟨by omega, leafB (by rw [Nat.zero_div, Nat.zero_add]) rfl (by omega) hb h0⟩ H))
        show Value.int .i64 (IntKind.i64.wrap (0 + IntKind.i64.wrap b)) = Value.int .i64 ((0 + b : Nat) : Int)
        rw [w64 (n := (b : Int)) (by omega) (by omega), w64 (by omega) (by omega)] <;> rfl
end Go.Proofs.YtjlfjjgjghdokaaGreatDoor
/- Numbers as bytes: the walks. -/
namespace Go.Proofs.YtjlfjjgjghdokaaGreatDoor
open Go Go.Proofs Go.Wk
@[reducible] def byC (bs : List Nat) : List Value := bs.map fun b : Nat => Value.int .u8 (b : Int)
/-- A number's bytes, the greatest first. -/
def bigE (n : Nat) : Nat → List Nat
  | 0 => []
  | k + 1 => (n / 256 ^ k) % 256 :: bigE n k
/-- How many bytes, with a mark; and these. -/
def numB (n mark : Nat) : List Nat := (mark + sizeB n) :: bigE n (sizeB n)
theorem bigE_len (n : Nat) : ∀ k, (bigE n k).length = k
  | 0 => rfl
  | k + 1 => by rw [bigE, List.length_cons, bigE_len n k]
theorem sizeB_le8 {x : Nat} (h : x < 18446744073709551616) : sizeB x ≤ 8 := by
  have h0 : x / 4294967296 / 65536 / 256 < 256 := by omega
  by_cases h1 : 16777216 ≤ x
  · rw [sizeB_4 h1]
    by_cases h2 : 256 ≤ x / 4294967296
    · rw [sizeB_2 h2]
      by_cases h3 : x / 4294967296 / 65536 = 0
      · rw [h3, sizeB_zero]; omega
      · rw [sizeB_pos h3, sizeB_small h0]; split <;> omega
    · rw [sizeB_small (by omega)]; split <;> omega
  · by_cases h2 : 256 ≤ x
    · rw [sizeB_2 h2, sizeB_small (by omega)]; split <;> omega
    · rw [sizeB_small (by omega)]; split <;> omega
theorem wrap_u8 (x : Nat) : IntKind.u8.wrap (x : Int) = ((x % 256 : Nat) : Int) := by
  simp [IntKind.wrap, IntKind.signed, IntKind.bits]
end Go.Proofs.YtjlfjjgjghdokaaGreatDoor
/- Numbers with a sign as bytes; all of it; bytes of one's own: the walks. -/
namespace Go.Proofs.YtjlfjjgjghdokaaGreatDoor
open Go Go.Proofs Go.Wk
def intB (v : Int) : List Nat := if v < 0 then numB (-1 - v).toNat 128 else numB v.toNat 0
@[reducible] def byteR : Rp Nat := ⟨1, Unit, fun x _ => [.int .u8 (x : Int)], fun x _ => x < 256, fun _ _ => [], fun _ _ => rfl⟩
theorem byC_at {bs : List Nat} {i b : Nat} (h : bs[i]? = some b) : ((byC bs).drop (i * 1)).take 1 = [.int .u8 (b : Int)] := by
  obtain ⟨hi, rfl⟩ := List.getElem?_eq_some_iff.1 h
  rw [Nat.mul_one]
  have hl : i < (byC bs).length := by simpa [byC] using hi
  rw [List.drop_eq_getElem_cons hl]
  simp [byC]
theorem frzBytes {w : World} {B : Base} {S S' : List Asn} {F : List Fact} (H : Hp B S F w) {v : Value} {e n : Nat} (bs : List Nat) (hM : ∀ b, ¬ B.M b) [h1 : TakeR S v e 1 n (byC bs) S'] (hok : ∀ x, x ∈ bs → x < 256) : Hp B S' (Sl byteR v bs :: F) w := by
  have hcl : ∀ (i x : Nat), bs[i]? = some x → ∃ p : Unit, x < 256 ∧ ((byC bs).drop (i * 1)).take 1 = [.int .u8 (x : Int)] ∧ ([] : List Fact) = [] := fun i x hx => ⟨(), hok x (List.mem_of_getElem? hx), byC_at hx, rfl⟩
  have H2 := (H.addCl byteR (cs := byC bs) (xs := bs) (by simp [byC]) hcl).frzRow (v := v) (xs := bs) byteR hM rfl (by decide)
  refine H2.facts fun I ha f hf => ha f ?_
  rcases List.mem_cons.1 hf with rfl | hf
  · exact List.mem_cons_self
  · exact List.mem_cons_of_mem _ (List.mem_cons_of_mem _ hf)
end Go.Proofs.YtjlfjjgjghdokaaGreatDoor
/- An entry's bytes: the walk. -/
namespace Go.Proofs.YtjlfjjgjghdokaaGreatDoor
open Go Go.Proofs Go.Wk
def legsB : List Leg → List Nat
  | [] => []
  | x :: r => numB x.acct.toNat 0 ++ intB x.amt ++ legsB r
def entBytes (k : Key) (ls : List Leg) : List Nat := numB k.loan.toNat 0 ++ numB k.day.toNat 0 ++ numB k.kind.toNat 0 ++ numB k.seq.toNat 0 ++ numB ls.length 0 ++ legsB ls
theorem numB_len {n m : Nat} (h : n < 18446744073709551616) : (numB n m).length ≤ 9 := by
  have := sizeB_le8 h
  simp only [numB, List.length_cons, bigE_len]; omega
theorem bigE_lt (n : Nat) : ∀ k x, x ∈ bigE n k → x < 256
  | 0, x, h => by cases h
  | k + 1, x, h => by
    unfold bigE at h
    rcases List.mem_cons.1 h with rfl | h
    · omega
    · exact bigE_lt n k x h
theorem numB_lt {n m : Nat} (h : n < 18446744073709551616) (hm : m ≤ 128) : ∀ x, x ∈ numB n m → x < 256 := fun x hx => by
  have := sizeB_le8 h
  unfold numB at hx
  rcases List.mem_cons.1 hx with rfl | hx
  · omega
  · exact bigE_lt n _ x hx
theorem intB_lt {v : Int} (h : inK .i64 v) : (∀ x, x ∈ intB v → x < 256) ∧ (intB v).length ≤ 9 := by
  have h : -9223372036854775808 ≤ v ∧ v ≤ 9223372036854775807 := h
  unfold intB
  split
  · exact ⟨numB_lt (by omega) (by omega), numB_len (by omega)⟩
  · exact ⟨numB_lt (by omega) (by omega), numB_len (by omega)⟩
@[reducible] def legIn (x : Leg) : Prop := inK .u8 x.acct ∧ inK .i64 x.amt
theorem legsB_lt : ∀ {ls : List Leg}, (∀ x, x ∈ ls → legIn x) → (∀ x, x ∈ legsB ls → x < 256) ∧ (legsB ls).length ≤ 18 * ls.length
  | [], _ => ⟨(fun x h => by cases h), by simp [legsB]⟩
  | l :: r, h => by
    obtain ⟨h1, h2⟩ := legsB_lt (ls := r) fun x hx => h x (List.mem_cons_of_mem _ hx)
    obtain ⟨⟨a1, a2⟩, a3⟩ := h l List.mem_cons_self
    simp only [kLo, kHi] at a1 a2
    obtain ⟨b1, b2⟩ := intB_lt a3
    have c1 := numB_lt (n := l.acct.toNat) (m := 0) (by omega) (by omega)
    have c2 := numB_len (n := l.acct.toNat) (m := 0) (by omega)
    refine ⟨fun x hx => ?_, ?_⟩
    · unfold legsB at hx
      rcases List.mem_append.1 hx with hx | hx
      · rcases List.mem_append.1 hx with hx | hx
        · exact c1 x hx
        · exact b1 x hx
      · exact h1 x hx
    · simp only [legsB, List.length_append, List.length_cons]; omega
theorem legsB_app : ∀ a b : List Leg, legsB (a ++ b) = legsB a ++ legsB b
  | [], _ => rfl
  | x :: a, b => by simp [legsB, legsB_app a b]
@[reducible] def keyIn (k : Key) : Prop := inK .u32 k.loan ∧ inK .i32 k.day ∧ inK .u8 k.kind ∧ inK .u32 k.seq
theorem right_day {k : Key} {ls : List Leg} (h : rightB k ls = true) : 0 ≤ k.day ∧ ls.length ≤ 8 ∧ ls.length ≠ 0 := by
  unfold rightB at h
  cases h1 : noB (kindName k.kind) <;> rw [h1] at h <;> simp only [cond_true, cond_false] at h
  · cases h2 : dayB k.day <;> rw [h2] at h <;> simp only [Bool.not_true, Bool.not_false, cond_true, cond_false] at h
    · cases h
    · cases h3 : ((ls.length : Int) == 0) <;> rw [h3] at h <;> simp only [cond_true, cond_false] at h
      · cases h4 : decide (8 < (ls.length : Int)) <;> rw [h4] at h <;> simp only [cond_true, cond_false] at h
        · simp only [dayB, Bool.and_eq_true, decide_eq_true_eq] at h2
          simp only [beq_eq_false_iff_ne, ne_eq] at h3
          simp only [decide_eq_false_iff_not] at h4
          omega
        · cases h
      · cases h
  · cases h
theorem u64_of {v : Int} (h0 : 0 ≤ v) (h1 : v < 18446744073709551616) : IntKind.u64.wrap v = ((v.toNat : Nat) : Int) := by
  rw [wrap_id (k := .u64) ⟨by show (0 : Int) ≤ _; omega, by show _ ≤ (18446744073709551615 : Int); omega⟩]; omega
end Go.Proofs.YtjlfjjgjghdokaaGreatDoor
/- Bytes alike; bytes tell the entry: walk and plain law. -/
namespace Go.Proofs.YtjlfjjgjghdokaaGreatDoor
open Go Go.Proofs Go.Wk
def byEq : List Nat → List Nat → Bool
  | [], [] => true
  | x :: r, y :: s => decide (x = y) && byEq r s
  | _, _ => false
theorem byEq_iff : ∀ {a b : List Nat}, byEq a b = true ↔ a = b
  | [], [] => by simp [byEq]
  | [], _ :: _ => by simp [byEq]
  | _ :: _, [] => by simp [byEq]
  | x :: r, y :: s => by
    rw [byEq, Bool.and_eq_true, decide_eq_true_eq, byEq_iff, List.cons.injEq]
theorem byEq_len {a b : List Nat} (h : a.length ≠ b.length) : byEq a b = false := by
  cases hb : byEq a b with
  | false => rfl
  | true => exact absurd (congrArg List.length (byEq_iff.1 hb)) h
theorem lt_sizeB (n : Nat) : n < 256 ^ sizeB n := by
  induction n using Nat.strongRecOn with
  | ind n ih =>
    by_cases h : n = 0
    · subst h; rw [sizeB_zero]; decide
    · rw [sizeB_pos h, Nat.add_comm, Nat.pow_succ]
      have := ih (n / 256) (by omega)
      omega
theorem bigE_inj {n m : Nat} : ∀ k, bigE n k = bigE m k → n % 256 ^ k = m % 256 ^ k
  | 0, _ => by simp [Nat.mod_one]
  | k + 1, h => by
    simp only [bigE, List.cons.injEq] at h
    rw [Nat.mod_pow_succ, Nat.mod_pow_succ, h.1, bigE_inj k h.2]
theorem numB_inj {n m a b : Nat} {r s : List Nat} (hn : n < 18446744073709551616) (hm : m < 18446744073709551616) (ha : a = 0 ∨ a = 128) (hb : b = 0 ∨ b = 128) (h : numB n a ++ r = numB m b ++ s) : n = m ∧ a = b ∧ r = s := by
  have h1 := sizeB_le8 hn
  have h2 := sizeB_le8 hm
  simp only [numB, List.cons_append, List.cons.injEq] at h
  obtain ⟨h3, h4⟩ := h
  have h5 : sizeB n = sizeB m := by omega
  obtain ⟨h6, h7⟩ := List.append_inj h4 (by rw [bigE_len, bigE_len, h5])
  rw [← h5] at h6
  have h8 := bigE_inj _ h6
  rw [Nat.mod_eq_of_lt (lt_sizeB n), Nat.mod_eq_of_lt (by rw [h5]; exact lt_sizeB m)] at h8
  exact ⟨h8, by omega, h7⟩
theorem intB_inj {v u : Int} {r s : List Nat} (hv : inK .i64 v) (hu : inK .i64 u) (h : intB v ++ r = intB u ++ s) : v = u ∧ r = s := by
  have hv : -9223372036854775808 ≤ v ∧ v ≤ 9223372036854775807 := hv
  have hu : -9223372036854775808 ≤ u ∧ u ≤ 9223372036854775807 := hu
  unfold intB at h
  split at h <;> split at h
  all_goals
    obtain ⟨h1, h2, h3⟩ := numB_inj (by omega) (by omega) (by simp) (by simp) h
    exact ⟨by omega, h3⟩
theorem legsB_inj : ∀ {a b : List Leg}, a.length = b.length → (∀ x, x ∈ a → legIn x) → (∀ x, x ∈ b → legIn x) → legsB a = legsB b → a = b
  | [], [], _, _, _, _ => rfl
  | [], _ :: _, h, _, _, _ => by simp at h
  | _ :: _, [], h, _, _, _ => by simp at h
  | x :: r, y :: s, hl, ha, hb, h => by
    obtain ⟨⟨a1, a2⟩, a3⟩ := ha x List.mem_cons_self
    obtain ⟨⟨b1, b2⟩, b3⟩ := hb y List.mem_cons_self
    simp only [kLo, kHi] at a1 a2 b1 b2
    simp only [legsB, List.append_assoc] at h
    obtain ⟨h1, _, h2⟩ := numB_inj (by omega) (by omega) (by simp) (by simp) h
    obtain ⟨h3, h4⟩ := intB_inj a3 b3 h2
    have := legsB_inj (by simpa using hl) (fun z hz => ha z (List.mem_cons_of_mem _ hz)) (fun z hz => hb z (List.mem_cons_of_mem _ hz)) h4
    rw [this]
    obtain ⟨xa, xm⟩ := x
    obtain ⟨ya, ym⟩ := y
    simp only at h1 h3 a1 b1
    rw [show xa = ya by omega, h3]
theorem entBytes_inj {k l : Key} {a b : List Leg} (hk : keyIn k) (hl : keyIn l) (ha : ∀ x, x ∈ a → legIn x) (hb : ∀ x, x ∈ b → legIn x) (hra : rightB k a = true) (hrb : rightB l b = true) (h : entBytes k a = entBytes l b) : k = l ∧ a = b := by
  obtain ⟨⟨k1, k2⟩, ⟨k3, k4⟩, ⟨k5, k6⟩, ⟨k7, k8⟩⟩ := hk
  obtain ⟨⟨l1, l2⟩, ⟨l3, l4⟩, ⟨l5, l6⟩, ⟨l7, l8⟩⟩ := hl
  simp only [kLo, kHi] at k1 k2 k3 k4 k5 k6 k7 k8 l1 l2 l3 l4 l5 l6 l7 l8
  obtain ⟨q1, q2, _⟩ := right_day hra
  obtain ⟨p1, p2, _⟩ := right_day hrb
  simp only [entBytes, List.append_assoc] at h
  obtain ⟨h1, _, h⟩ := numB_inj (by omega) (by omega) (by simp) (by simp) h
  obtain ⟨h2, _, h⟩ := numB_inj (by omega) (by omega) (by simp) (by simp) h
  obtain ⟨h3, _, h⟩ := numB_inj (by omega) (by omega) (by simp) (by simp) h
  obtain ⟨h4, _, h⟩ := numB_inj (by omega) (by omega) (by simp) (by simp) h
  obtain ⟨h5, _, h⟩ := numB_inj (by omega) (by omega) (by simp) (by simp) h
  refine ⟨?_, legsB_inj h5 ha hb h⟩
  obtain ⟨x1, x2, x3, x4⟩ := k
  obtain ⟨y1, y2, y3, y4⟩ := l
  simp only at *
  rw [show x1 = y1 by omega, show x2 = y2 by omega, show x3 = y3 by omega, show x4 = y4 by omega]
theorem legsEq_iff : ∀ {a b : List Leg}, legsEq a b = true ↔ a = b
  | [], [] => by simp [legsEq]
  | [], _ :: _ => by simp [legsEq]
  | _ :: _, [] => by simp [legsEq]
  | x :: r, y :: s => by
    rw [legsEq, Bool.and_eq_true, legsEq_iff, List.cons.injEq]
    obtain ⟨xa, xm⟩ := x
    obtain ⟨ya, ym⟩ := y
    simp [legEq]
theorem eqK_iff {k l : Key} : eqK k l = true ↔ k = l := by
  obtain ⟨x1, x2, x3, x4⟩ := k
  obtain ⟨y1, y2, y3, y4⟩ := l
  simp [eqK]
theorem same_bytes {k l : Key} {a b : List Leg} (hk : keyIn k) (hl : keyIn l) (ha : ∀ x, x ∈ a → legIn x) (hb : ∀ x, x ∈ b → legIn x) (hra : rightB k a = true) (hrb : rightB l b = true) : sameB k l a b = byEq (entBytes k a) (entBytes l b) := by
  rw [Bool.eq_iff_iff, byEq_iff, sameB, Bool.and_eq_true, eqK_iff, legsEq_iff]
  constructor
  · rintro ⟨rfl, rfl⟩; rfl
  · exact entBytes_inj hk hl ha hb hra hrb
/-- The sum as the machine makes it. -/
def sumW (s : Int) : List Leg → Int
  | [] => s
  | x :: r => sumW (IntKind.i64.wrap (s + x.amt)) r
theorem right_sum : ∀ {ls : List Leg} {s last : Int}, rightGo s last ls = true → sumW s ls = 0
  | [], s, last, h => by simpa [rightGo, sumW] using h
  | x :: r, s, last, h => by
    unfold rightGo at h
    cases h1 : in64 (s + x.amt) <;> rw [h1] at h <;> simp only [cond_true, cond_false] at h
    · cases h
    · cases h2 : decide (x.acct ≤ last) <;> rw [h2] at h <;> simp only [cond_true, cond_false] at h
      · cases h3 : noB (accName x.acct) <;> rw [h3] at h <;> simp only [cond_true, cond_false] at h
        · simp only [in64, Bool.and_eq_true, decide_eq_true_eq] at h1
          rw [sumW, w64 h1.1 h1.2]
          exact right_sum h
        · cases h
      · cases h
theorem rightB_sum {k : Key} {ls : List Leg} (h : rightB k ls = true) : sumW 0 ls = 0 := by
  unfold rightB at h
  cases h1 : noB (kindName k.kind) <;> rw [h1] at h <;> simp only [cond_true, cond_false] at h
  · cases h2 : dayB k.day <;> rw [h2] at h <;> simp only [Bool.not_true, Bool.not_false, cond_true, cond_false] at h
    · cases h
    · cases h3 : ((ls.length : Int) == 0) <;> rw [h3] at h <;> simp only [cond_true, cond_false] at h
      · cases h4 : decide (8 < (ls.length : Int)) <;> rw [h4] at h <;> simp only [cond_true, cond_false] at h
        · exact right_sum h
        · cases h
      · cases h
  · cases h
end Go.Proofs.YtjlfjjgjghdokaaGreatDoor
