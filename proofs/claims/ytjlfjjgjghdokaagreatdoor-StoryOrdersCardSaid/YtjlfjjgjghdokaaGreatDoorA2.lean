/- An entry the other way: the walk. -/
import Derived.Test.YtjlfjjgjghdokaaGreatDoorA1
namespace Go.Proofs.YtjlfjjgjghdokaaGreatDoor
open Go Go.Proofs Go.Wk
def minI : Int := -9223372036854775808
@[reducible] def negR (v : Int) : Value := if v = -9223372036854775808 then .tuple #[.int .i64 0, .iface 100 (.int .i64 12)] else .tuple #[.int .i64 (-v), .nilIface]
def negL (x : Leg) : Leg := ⟨x.acct, -x.amt⟩
/-- Do all amounts and all sums have an other way? -/
def turnGo (s : Int) : List Leg → Bool
  | [] => true
  | x :: r => !decide (x.amt = -9223372036854775808) && (!decide (s + x.amt = -9223372036854775808) && turnGo (s + x.amt) r)
theorem turn_min : ∀ {ls : List Leg} {s : Int} {x : Leg}, x ∈ ls → x.amt = -9223372036854775808 → turnGo s ls = false
  | [], _, _, h, _ => by cases h
  | y :: r, s, x, h, e => by
    unfold turnGo
    rcases List.mem_cons.1 h with rfl | h
    · rw [decide_eq_true e]; rfl
    · rw [turn_min h e, Bool.and_false, Bool.and_false]
theorem turn_right : ∀ {ls : List Leg} {s last : Int}, inK .i64 s → s ≠ -9223372036854775808 → (∀ x, x ∈ ls → x.amt ≠ -9223372036854775808 ∧ inK .i64 x.amt) → rightGo s last ls = true → rightGo (-s) last (ls.map negL) = turnGo s ls
  | [], s, last, _, _, _, h => by
    simp only [rightGo, beq_iff_eq] at h
    subst h; rfl
  | x :: r, s, last, hs, hm, ha, h => by
    obtain ⟨hx1, hx2⟩ := ha x List.mem_cons_self
    have hs : -9223372036854775808 ≤ s ∧ s ≤ 9223372036854775807 := hs
    have hx2 : -9223372036854775808 ≤ x.amt ∧ x.amt ≤ 9223372036854775807 := hx2
    unfold rightGo at h
    cases h1 : in64 (s + x.amt) <;> rw [h1] at h <;> simp only [cond_true, cond_false] at h
    · cases h
    · cases h2 : decide (x.acct ≤ last) <;> rw [h2] at h <;> simp only [cond_true, cond_false] at h
      · cases h3 : noB (accName x.acct) <;> rw [h3] at h <;> simp only [cond_true, cond_false] at h
        · simp only [in64, Bool.and_eq_true, decide_eq_true_eq] at h1
          simp only [List.map_cons, rightGo, turnGo, negL, h2, h3, cond_false]
          rw [decide_eq_false hx1, Bool.not_false, Bool.true_and, show -s + -x.amt = -(s + x.amt) by omega]
          by_cases hq : s + x.amt = -9223372036854775808
          · rw [decide_eq_true hq, Bool.not_true, Bool.false_and]
            have : in64 (-(s + x.amt)) = false := by
              unfold in64
              rw [decide_eq_false (show ¬ -(s + x.amt) ≤ 9223372036854775807 by omega), Bool.and_false]
            rw [this]; rfl
          · rw [decide_eq_false hq, Bool.not_false, Bool.true_and]
            have : in64 (-(s + x.amt)) = true := by
              unfold in64
              rw [decide_eq_true (show -9223372036854775808 ≤ -(s + x.amt) by omega), decide_eq_true (show -(s + x.amt) ≤ 9223372036854775807 by omega)]; rfl
            rw [this, cond_true]
            exact turn_right (s := s + x.amt) ⟨h1.1, h1.2⟩ hq (fun y hy => ha y (List.mem_cons_of_mem _ hy)) h
        · cases h
      · cases h
theorem rightB_neg {k : Key} {ls : List Leg} (ha : ∀ x, x ∈ ls → x.amt ≠ -9223372036854775808 ∧ inK .i64 x.amt) (h : rightB k ls = true) : rightB k (ls.map negL) = turnGo 0 ls := by
  have key : rightGo 0 0 ls = true → rightGo 0 0 (ls.map negL) = turnGo 0 ls := fun h => turn_right (s := 0) (last := 0) ⟨by decide, by decide⟩ (by decide) ha h
  unfold rightB at h ⊢
  rw [List.length_map]
  cases h1 : noB (kindName k.kind) <;> rw [h1] at h <;> simp only [cond_true, cond_false] at h ⊢
  · cases h2 : dayB k.day <;> rw [h2] at h <;> simp only [Bool.not_true, Bool.not_false, cond_true, cond_false] at h ⊢
    · cases h
    · cases h3 : ((ls.length : Int) == 0) <;> rw [h3] at h <;> simp only [cond_true, cond_false] at h ⊢
      · cases h4 : decide (8 < (ls.length : Int)) <;> rw [h4] at h <;> simp only [cond_true, cond_false] at h ⊢
        · exact key h
        · cases h
      · cases h
  · cases h
inductive TR where
  | bad (c : Int)
  | ok (s : SV)
@[reducible] def trV (k : Key) : TR → Value
  | .bad c => .tuple #[.agg #[.int .u32 0, .int .i32 0, .int .u8 0, .int .u32 0, .slice none 0 0], .iface 100 (.int .i64 c)]
  | .ok s => .tuple #[.agg #[.int .u32 k.loan, .int .i32 k.day, .int .u8 k.kind, .int .u32 k.seq, .slice s.A s.n s.c], .nilIface]
def trOk (k : Key) (ls : List Leg) : TR → Prop
  | .bad c => (rightB k ls = false ∧ c = 1) ∨ (rightB k ls = true ∧ turnGo 0 ls = false ∧ c = 12)
  | .ok _ => rightB k ls = true ∧ turnGo 0 ls = true ∧ rightB k (ls.map negL) = true
@[reducible] def trF (ls : List Leg) : TR → Fact
  | .bad _ => ttF
  | .ok s => Sl legR (.slice s.A s.n s.c) (ls.map negL)
end Go.Proofs.YtjlfjjgjghdokaaGreatDoor
/- An entry the other way may be, and has each amount the other way: the walk. -/
namespace Go.Proofs.YtjlfjjgjghdokaaGreatDoor
open Go Go.Proofs Go.Wk
theorem go_step {s last : Int} {x : Leg} {r : List Leg} (h : rightGo s last (x :: r) = true) : inK .i64 (s + x.amt) ∧ last < x.acct ∧ rightGo (s + x.amt) x.acct r = true := by
  unfold rightGo at h
  cases h1 : in64 (s + x.amt) <;> rw [h1] at h <;> simp only [cond_true, cond_false] at h
  · cases h
  · cases h2 : decide (x.acct ≤ last) <;> rw [h2] at h <;> simp only [cond_true, cond_false] at h
    · cases h3 : noB (accName x.acct) <;> rw [h3] at h <;> simp only [cond_true, cond_false] at h
      · simp only [in64, Bool.and_eq_true, decide_eq_true_eq] at h1
        simp only [decide_eq_false_iff_not] at h2
        exact ⟨⟨h1.1, h1.2⟩, by omega, h⟩
      · cases h
    · cases h
theorem rightB_go {k : Key} {ls : List Leg} (h : rightB k ls = true) : rightGo 0 0 ls = true := by
  unfold rightB at h
  cases h1 : noB (kindName k.kind) <;> rw [h1] at h <;> simp only [cond_true, cond_false] at h
  · cases h2 : dayB k.day <;> rw [h2] at h <;> simp only [Bool.not_true, Bool.not_false, cond_true, cond_false] at h
    · cases h
    · cases h3 : ((ls.length : Int) == 0) <;> rw [h3] at h <;> simp only [cond_true, cond_false] at h
      · cases h4 : decide (8 < (ls.length : Int)) <;> rw [h4] at h <;> simp only [cond_true, cond_false] at h
        · exact h
        · cases h
      · cases h
  · cases h
theorem go_rise : ∀ {ls : List Leg} {s last : Int}, rightGo s last ls = true → ∀ x, x ∈ ls → last < x.acct
  | [], _, _, _, x, hx => by cases hx
  | y :: r, s, last, h, x, hx => by
    obtain ⟨_, h2, h3⟩ := go_step h
    rcases List.mem_cons.1 hx with rfl | hx
    · exact h2
    · have := go_rise h3 x hx; omega
theorem ofV_mem : ∀ {ls : List Leg} {s last : Int}, rightGo s last ls = true → ∀ x, x ∈ ls → ofV x.acct ls = x.amt
  | [], _, _, _, x, hx => by cases hx
  | y :: r, s, last, h, x, hx => by
    obtain ⟨_, h2, h3⟩ := go_step h
    unfold ofV
    rcases List.mem_cons.1 hx with rfl | hx
    · rw [if_pos rfl]
    · have := go_rise h3 x hx
      rw [if_neg (by omega)]
      exact ofV_mem h3 x hx
theorem ofV_no {a : Int} : ∀ {ls : List Leg}, (∀ x, x ∈ ls → x.acct ≠ a) → ofV a ls = 0
  | [], _ => rfl
  | y :: r, h => by
    unfold ofV
    rw [if_neg (h y List.mem_cons_self)]
    exact ofV_no fun x hx => h x (List.mem_cons_of_mem _ hx)
theorem ofV_neg {a : Int} : ∀ (ls : List Leg), ofV a (ls.map negL) = -ofV a ls
  | [] => rfl
  | y :: r => by
    simp only [List.map_cons, ofV, negL]
    split
    · rfl
    · exact ofV_neg r
theorem turn_amt : ∀ {ls : List Leg} {s : Int}, turnGo s ls = true → ∀ x, x ∈ ls → x.amt ≠ -9223372036854775808
  | ls, s, h, x, hx, e => by rw [turn_min hx e] at h; cases h
end Go.Proofs.YtjlfjjgjghdokaaGreatDoor
/- Bytes joined, cut; the document's numbers as bytes: the walks. -/
namespace Go.Proofs.YtjlfjjgjghdokaaGreatDoor
open Go Go.Proofs Go.Wk
@[reducible] def svV (p : SV) : Value := .slice p.A p.n p.c
@[reducible] def bytesR : Rp (List Nat) := ⟨1, SV, fun _ p => [.slice p.A p.n p.c], fun _ _ => True, fun x p => [Sl byteR (.slice p.A p.n p.c) x], fun _ _ => rfl⟩
/-- Slices that read, in a row of one's own, once given up. -/
theorem frzSl {w : World} {B : Base} {S S' : List Asn} {F : List Fact} (H : Hp B S F w) {g : Nat} {cs : List Value} {t : TypeId} (ps : List (SV × List Nat)) (n : Nat) (xss : List (List Nat)) [h1 : TakeB S g cs t S'] (hcs : cs = ps.map fun q => svV q.1) (hn : n = ps.length) (hxs : xss = ps.map (·.2)) (hM : ∀ b, ¬ B.M b) (hm : Nat.ble n 1000 = true)
    (hf : ∀ q, q ∈ ps → Sl byteR (svV q.1) q.2 ∈ F) : Hp B S' (Sl bytesR (.slice (some ⟨g, 0, none⟩) n n) xss :: F) w := by
  have hm := Nat.le_of_ble_eq_true hm
  subst hcs hn hxs
  refine ((H.perm h1.perm).freeze hM).facts fun I ha f hf' => ?_
  rcases List.mem_cons.1 hf' with rfl | hf'
  · obtain ⟨fp, hb, hi⟩ := ha _ List.mem_cons_self
    refine ⟨_, _, by rw [List.length_map], by rw [List.length_map]; exact Nat.le_refl _, by omega, (fun h => by cases h), fun i x hxi => ?_⟩
    rw [List.getElem?_map] at hxi
    cases hq : ps[i]? with
    | none => rw [hq] at hxi; cases hxi
    | some q =>
      rw [hq] at hxi
      injection hxi with hxi
      subst hxi
      refine ⟨g, 0, rfl, hi g ((hb.1 g).2 rfl), q.1, trivial, fun j u hj => ?_, fun f hf2 => ?_⟩
      · have h0 : j = 0 := by
          have := (List.getElem?_eq_some_iff.1 hj).1
          simp at this; exact this
        subst h0
        have hj : svV q.1 = u := by simpa using hj
        subst hj
        have := blk_cells hb i (svV q.1) (by rw [List.getElem?_map, hq]; rfl)
        show w.cell? ⟨g, 0 + i * 1 + 0, none⟩ = _
        rw [Nat.mul_one, Nat.add_zero]; exact this
      · rw [List.mem_singleton] at hf2
        subst hf2
        exact ha _ (List.mem_cons_of_mem _ (hf q (List.mem_of_getElem? hq)))
  · exact ha f (List.mem_cons_of_mem _ hf')
theorem byC_app (a b : List Nat) : byC (a ++ b) = byC a ++ byC b := by simp [byC]
theorem cl_bytes {cs : List Value} : ∀ {bs : List Nat} {w : World} {I : BS}, (Cl byteR cs bs).holds w I → cs = byC bs
  | bs, w, I, ⟨h, hx⟩ => by
    have hl : cs.length = bs.length := by simpa using h
    apply List.ext_getElem?
    intro i
    by_cases hi : i < bs.length
    · obtain ⟨p, _, e, _⟩ := hx i bs[i] (List.getElem?_eq_getElem hi)
      have e : (cs.drop (i * 1)).take 1 = [.int .u8 ((bs[i] : Nat) : Int)] := e
      rw [Nat.mul_one, List.drop_eq_getElem_cons (by omega)] at e
      simp only [List.take_succ_cons, List.take_zero, List.cons.injEq, and_true] at e
      rw [List.getElem?_eq_getElem (by omega), e]
      simp [byC, hi]
    · rw [List.getElem?_eq_none (by omega), List.getElem?_eq_none (by simp [byC]; omega)]
theorem byte_one (x : Nat) (p : Unit) (_ : byteR.ok x p) (u : Value) (hu : u ∈ byteR.cells x p) : u.oneCell' = true := by
  rw [List.mem_singleton] at hu
  subst hu; rfl
theorem flat_take {xss : List (List Nat)} {i : Nat} {x : List Nat} (h : xss[i]? = some x) : (xss.take (i + 1)).flatten = (xss.take i).flatten ++ x := by
  rw [List.take_add_one, h, List.flatten_append]; simp
theorem flat_le : ∀ (xss : List (List Nat)) (i : Nat), (xss.take i).flatten.length ≤ xss.flatten.length
  | [], i => by simp
  | x :: r, 0 => by simp
  | x :: r, i + 1 => by
    have := flat_le r i
    simp only [List.take_succ_cons, List.flatten_cons, List.length_append]; omega
theorem bigE_snoc (x : Nat) : ∀ k, bigE x (k + 1) = bigE (x / 256) k ++ [x % 256]
  | 0 => by simp [bigE]
  | k + 1 => by
    rw [bigE, bigE_snoc x k, bigE, List.cons_append, Nat.div_div_eq_div_mul, ← Nat.pow_succ']
theorem u8_of {x : Nat} (h : x < 256) : IntKind.u8.wrap (x : Int) = x := by rw [wrap_u8, Nat.mod_eq_of_lt h]
/-- A byte of one's own reads, once given up. -/
theorem frzByte {w : World} {B : Base} {S S' : List Asn} {F : List Fact} (H : Hp B S F w) {g : Nat} {x : Nat} {v : Int} {t : TypeId} [h1 : TakeB S g [.int .u8 v] t S'] (hv : v = x) (hx : x < 256) (hM : ∀ b, ¬ B.M b) : Hp B S' (Sl byteR (.slice (some ⟨g, 0, none⟩) 1 1) [x] :: F) w := by
  subst hv
  refine H.frzBlk byteR [x] hM (by simp) rfl fun i y hy => ?_
  have hi : i = 0 := by
    have := (List.getElem?_eq_some_iff.1 hy).1
    simp at this; exact this
  subst hi
  simp only [List.getElem?_cons_zero, Option.some.injEq] at hy
  subst hy
  exact ⟨(), hx, rfl, rfl⟩
end Go.Proofs.YtjlfjjgjghdokaaGreatDoor
/- The document's bytes of an entry: the walk. -/
namespace Go.Proofs.YtjlfjjgjghdokaaGreatDoor
open Go Go.Proofs Go.Wk
end Go.Proofs.YtjlfjjgjghdokaaGreatDoor
/- Bytes as numbers again: the walks. -/
namespace Go.Proofs.YtjlfjjgjghdokaaGreatDoor
open Go Go.Proofs Go.Wk
def takeOk (p : List Nat) (bad : Bool) (k : Nat) : Bool := !bad && Nat.ble k p.length
def valB : List Nat → Nat → Nat
  | [], n => n
  | b :: r, n => valB r (n * 256 + b)
structure NR where
  n : Nat
  mark : Bool
  rest : List Nat
  bad : Bool
@[reducible] def badNR : NR := ⟨0, false, [], true⟩
def sizeOf_ (h : Nat) : Nat := if 128 ≤ h then h - 128 else h
/-- A number read. -/
def numR (p : List Nat) (bad : Bool) : NR := match p with
  | [] => badNR
  | h :: r => if bad = true ∨ r.length < sizeOf_ h ∨ 8 < sizeOf_ h ∨ (0 < sizeOf_ h ∧ r.head? = some 0) then badNR else ⟨valB (r.take (sizeOf_ h)) 0, decide (128 ≤ h), r.drop (sizeOf_ h), false⟩
theorem andNot128 (h : Nat) (hh : h < 256) : IntKind.u8.wrap (BitVec.ofInt IntKind.u8.bits (h : Int) &&& ~~~BitVec.ofInt IntKind.u8.bits (128 : Int)).toNat = (sizeOf_ h : Nat) := by
  have : ∀ h : Fin 256, IntKind.u8.wrap (BitVec.ofInt IntKind.u8.bits ((h.val : Nat) : Int) &&& ~~~BitVec.ofInt IntKind.u8.bits (128 : Int)).toNat = ((sizeOf_ h.val : Nat) : Int) := by decide +kernel
  exact this ⟨h, hh⟩
theorem valB_lt : ∀ (l : List Nat) (n k : Nat), (∀ x, x ∈ l → x < 256) → n < 256 ^ k → valB l n < 256 ^ (k + l.length)
  | [], n, k, _, h => h
  | b :: r, n, k, hl, h => by
    have hb := hl b List.mem_cons_self
    have := valB_lt r (n * 256 + b) (k + 1) (fun x hx => hl x (List.mem_cons_of_mem _ hx)) (by rw [Nat.pow_succ]; omega)
    rw [valB, List.length_cons, show k + (r.length + 1) = k + 1 + r.length by omega]
    exact this
theorem p256_7 {i : Nat} (h : i ≤ 7) : 256 ^ i ≤ 72057594037927936 := by
  have h1 := Nat.pow_le_pow_right (n := 256) (by decide) h
  have h2 : (256 : Nat) ^ 7 = 72057594037927936 := by decide
  omega
theorem valB_snoc (b : Nat) : ∀ (l : List Nat) (n : Nat), valB (l ++ [b]) n = valB l n * 256 + b
  | [], n => rfl
  | x :: r, n => by rw [List.cons_append, valB, valB, valB_snoc b r]
set_option maxRecDepth 20000 in
theorem shl_or (n b : Nat) (hn : n * 256 + b < 18446744073709551616) (hb : b < 256) : IntKind.u64.wrap (BitVec.ofInt IntKind.u64.bits (((n * 256 : Nat)) : Int) ||| BitVec.ofInt IntKind.u64.bits ((b : Nat) : Int)).toNat = ((n * 256 + b : Nat) : Int) := by
  have hh : (BitVec.ofNat 64 (n * 256) ||| BitVec.ofNat 64 b).toNat = n * 256 + b := by
    rw [BitVec.toNat_or, BitVec.toNat_ofNat, BitVec.toNat_ofNat, Nat.mod_eq_of_lt (by omega), Nat.mod_eq_of_lt (by omega)]
    have := Nat.shiftLeft_add_eq_or_of_lt (i := 8) (b := b) (by omega) n
    rw [Nat.shiftLeft_eq, show 2 ^ 8 = 256 from rfl] at this
    exact this.symm
  show IntKind.u64.wrap (((BitVec.ofNat 64 (n * 256) ||| BitVec.ofNat 64 b).toNat : Nat) : Int) = _
  rw [hh]
  exact wrap_id (k := .u64) ⟨by show (0 : Int) ≤ _; omega, by show _ ≤ (18446744073709551615 : Int); omega⟩
end Go.Proofs.YtjlfjjgjghdokaaGreatDoor
/- Numbers read within bounds, with a sign; the end: the walks. -/
namespace Go.Proofs.YtjlfjjgjghdokaaGreatDoor
open Go Go.Proofs Go.Wk
structure LS where
  p : List Nat
  bad : Bool
@[reducible] def byteIn (p : List Nat) : Prop := ∀ x, x ∈ p → x < 256
theorem numR_in {p : List Nat} {bad : Bool} (h : byteIn p) : byteIn (numR p bad).rest := fun x hx => by
  unfold numR at hx
  cases p with
  | nil => cases hx
  | cons b r =>
    simp only at hx
    split at hx
    · cases hx
    · exact h x (List.mem_cons_of_mem _ (List.mem_of_mem_drop hx))
theorem numR_lt {p : List Nat} {bad : Bool} (h : byteIn p) : (numR p bad).n < 18446744073709551616 := by
  unfold numR
  cases p with
  | nil => show 0 < _; omega
  | cons b r =>
    simp only
    split
    · show 0 < _; omega
    · rename_i hn
      have h1 : ¬ 8 < sizeOf_ b := fun hh => hn (.inr (.inr (.inl hh)))
      have h3 := valB_lt (r.take (sizeOf_ b)) 0 0 (fun x hx => h x (List.mem_cons_of_mem _ (List.mem_of_mem_take hx))) (by decide)
      rw [Nat.zero_add] at h3
      refine Nat.lt_of_lt_of_le h3 ?_
      have h4 : (r.take (sizeOf_ b)).length ≤ 8 := by rw [List.length_take]; omega
      have h5 := Nat.pow_le_pow_right (n := 256) (by decide) h4
      have h6 : (256 : Nat) ^ 8 = 18446744073709551616 := by decide
      omega
def uintR (m : Nat) (s : LS) : Nat × LS := if (numR s.p s.bad).mark = true ∨ m < (numR s.p s.bad).n then (0, ⟨[], true⟩) else ((numR s.p s.bad).n, ⟨(numR s.p s.bad).rest, (numR s.p s.bad).bad⟩)
def intR (s : LS) : Int × LS := if 9223372036854775808 ≤ (numR s.p s.bad).n then (0, ⟨[], true⟩) else (if (numR s.p s.bad).mark = true then -1 - ((numR s.p s.bad).n : Int) else ((numR s.p s.bad).n : Int), ⟨(numR s.p s.bad).rest, (numR s.p s.bad).bad⟩)
theorem uintR_in {m : Nat} {s : LS} (h : byteIn s.p) : byteIn (uintR m s).2.p := fun x hx => by
  unfold uintR at hx
  split at hx
  · cases hx
  · exact numR_in h x hx
theorem intR_in {s : LS} (h : byteIn s.p) : byteIn (intR s).2.p := fun x hx => by
  unfold intR at hx
  split at hx
  · cases hx
  · exact numR_in h x hx
def endOk (t : LS) : Bool := !t.bad && (t.p.length == 0)
end Go.Proofs.YtjlfjjgjghdokaaGreatDoor
/- An entry read of bytes: the walk. -/
namespace Go.Proofs.YtjlfjjgjghdokaaGreatDoor
open Go Go.Proofs Go.Wk
theorem uintR_le (m : Nat) (t : LS) : (uintR m t).1 ≤ m := by
  unfold uintR
  split
  · exact Nat.zero_le _
  · rename_i h
    exact Nat.le_of_not_lt fun hh => h (.inr hh)
theorem intR_i64 (t : LS) : inK .i64 (intR t).1 := by
  unfold intR
  split
  · exact ⟨by decide, by decide⟩
  · simp only
    split
    · exact ⟨by show (-9223372036854775808 : Int) ≤ _; omega, by show _ ≤ (9223372036854775807 : Int); omega⟩
    · exact ⟨by show (-9223372036854775808 : Int) ≤ _; omega, by show _ ≤ (9223372036854775807 : Int); omega⟩
def legsR : Nat → LS → List Leg × LS
  | 0, t => ([], t)
  | d + 1, t => (⟨((uintR 9 t).1 : Nat), (intR (uintR 9 t).2).1⟩ :: (legsR d (intR (uintR 9 t).2).2).1, (legsR d (intR (uintR 9 t).2).2).2)
@[reducible] def p1 (bs : List Nat) : Nat × LS := uintR 4294967295 ⟨bs, false⟩
@[reducible] def p2 (bs : List Nat) : Nat × LS := uintR 3652058 (p1 bs).2
@[reducible] def p3 (bs : List Nat) : Nat × LS := uintR 7 (p2 bs).2
@[reducible] def p4 (bs : List Nat) : Nat × LS := uintR 4294967295 (p3 bs).2
@[reducible] def p5 (bs : List Nat) : Nat × LS := uintR 8 (p4 bs).2
def pK (bs : List Nat) : Key := ⟨((p1 bs).1 : Nat), ((p2 bs).1 : Nat), ((p3 bs).1 : Nat), ((p4 bs).1 : Nat)⟩
def pL (bs : List Nat) : List Leg := (legsR (p5 bs).1 (p5 bs).2).1
def pT (bs : List Nat) : LS := (legsR (p5 bs).1 (p5 bs).2).2
def prOk (bs : List Nat) : TR → Prop
  | .bad c => c = 2 ∧ (endOk (pT bs) && rightB (pK bs) (pL bs)) = false
  | .ok _ => (endOk (pT bs) && rightB (pK bs) (pL bs)) = true
@[reducible] def prF (bs : List Nat) : TR → Fact
  | .bad _ => ttF
  | .ok s => Sl legR (.slice s.A s.n s.c) (pL bs)
theorem u32_of {x : Nat} (h : x ≤ 4294967295) : IntKind.u32.wrap (x : Int) = x := wrap_id ⟨by show (0 : Int) ≤ _; omega, by show _ ≤ (4294967295 : Int); omega⟩
theorem i32_of {x : Nat} (h : x ≤ 2147483647) : IntKind.i32.wrap (x : Int) = x := wrap_id ⟨by show (-2147483648 : Int) ≤ _; omega, by show _ ≤ (2147483647 : Int); omega⟩
theorem pK_in (bs : List Nat) : keyIn (pK bs) := by
  have h1 : (p1 bs).1 ≤ 4294967295 := uintR_le _ _
  have h2 : (p2 bs).1 ≤ 3652058 := uintR_le _ _
  have h3 : (p3 bs).1 ≤ 7 := uintR_le _ _
  have h4 : (p4 bs).1 ≤ 4294967295 := uintR_le _ _
  refine ⟨⟨?_, ?_⟩, ⟨?_, ?_⟩, ⟨?_, ?_⟩, ⟨?_, ?_⟩⟩ <;> simp only [kLo, kHi, pK] <;> omega
end Go.Proofs.YtjlfjjgjghdokaaGreatDoor
/- Bytes are read as what was written; what is read is what stands there: the plain law. -/
namespace Go.Proofs.YtjlfjjgjghdokaaGreatDoor
open Go Go.Proofs Go.Wk
theorem sizeB_eq : ∀ (k x : Nat), 256 ^ k ≤ x → x < 256 ^ (k + 1) → sizeB x = k + 1
  | 0, x, h1, h2 => by
    have h1 : 1 ≤ x := h1
    have h2 : x < 256 := by simpa using h2
    rw [sizeB_small h2, if_neg (by omega)]
  | k + 1, x, h1, h2 => by
    have h0 : 0 < 256 ^ (k + 1) := Nat.pow_pos (by decide)
    rw [sizeB_pos (by omega), sizeB_eq k (x / 256) (by rw [Nat.pow_succ] at h1; omega) (by rw [Nat.pow_succ] at h2; omega)]
    omega
theorem sizeB_low : ∀ (k x : Nat), sizeB x = k + 1 → 256 ^ k ≤ x
  | 0, x, h => by
    show 1 ≤ x
    rcases Nat.eq_zero_or_pos x with h0 | h0
    · subst h0; rw [sizeB_zero] at h; cases h
    · exact h0
  | k + 1, x, h => by
    have hx : x ≠ 0 := fun h0 => by subst h0; rw [sizeB_zero] at h; cases h
    rw [sizeB_pos hx] at h
    have := sizeB_low k (x / 256) (by omega)
    rw [Nat.pow_succ]
    omega
theorem valB_bigE (n : Nat) : ∀ (k a : Nat), valB (bigE n k) a = a * 256 ^ k + n % 256 ^ k
  | 0, a => by simp [bigE, valB, Nat.mod_one]
  | k + 1, a => by
    rw [bigE, valB, valB_bigE n k, Nat.mod_pow_succ, Nat.pow_succ]
    have e : (a * 256 + n / 256 ^ k % 256) * 256 ^ k = a * (256 ^ k * 256) + 256 ^ k * (n / 256 ^ k % 256) := by
      rw [Nat.add_mul, Nat.mul_assoc, Nat.mul_comm 256 (256 ^ k), Nat.mul_comm (n / 256 ^ k % 256)]
    omega
theorem bigE_valB : ∀ (k : Nat) (l : List Nat), l.length = k → byteIn l → bigE (valB l 0) l.length = l
  | 0, l, hk, _ => by
    have : l = [] := List.length_eq_zero_iff.1 hk
    subst this; rfl
  | k + 1, l, hk, h => by
    rcases List.eq_nil_or_concat l with rfl | ⟨q, b, rfl⟩
    · cases hk
    · rw [List.concat_eq_append] at hk h ⊢
      have hb := h b (by simp)
      rw [valB_snoc, List.length_append, List.length_singleton, bigE_snoc, show (valB q 0 * 256 + b) / 256 = valB q 0 by omega, show (valB q 0 * 256 + b) % 256 = b by omega, bigE_valB k q (by simp at hk; omega) fun x hx => h x (by simp [hx])]
theorem valB_low : ∀ (l : List Nat) (a k : Nat), 256 ^ k ≤ a → 256 ^ (k + l.length) ≤ valB l a
  | [], a, k, h => h
  | b :: r, a, k, h => by
    have := valB_low r (a * 256 + b) (k + 1) (by rw [Nat.pow_succ]; omega)
    rw [valB, List.length_cons, show k + (r.length + 1) = k + 1 + r.length by omega]
    exact this
theorem numR_numB {n m : Nat} {rest : List Nat} (hn : n < 18446744073709551616) (hm : m = 0 ∨ m = 128) : numR (numB n m ++ rest) false = ⟨n, decide (m = 128), rest, false⟩ := by
  have h8 := sizeB_le8 hn
  have hs : sizeOf_ (m + sizeB n) = sizeB n := by
    unfold sizeOf_
    rcases hm with rfl | rfl
    · rw [if_neg (by omega)]; omega
    · rw [if_pos (by omega)]; omega
  have hl := bigE_len n (sizeB n)
  have ht : (bigE n (sizeB n) ++ rest).take (sizeB n) = bigE n (sizeB n) := List.take_left' hl
  have hd : (bigE n (sizeB n) ++ rest).drop (sizeB n) = rest := List.drop_left' hl
  have hv : valB (bigE n (sizeB n)) 0 = n := by
    rw [valB_bigE, Nat.zero_mul, Nat.zero_add, Nat.mod_eq_of_lt (lt_sizeB n)]
  unfold numR
  simp only [numB, List.cons_append, hs]
  rw [if_neg, ht, hd, hv]
  · congr 1
    rcases hm with rfl | rfl
    · rw [decide_eq_false (by omega), decide_eq_false (by omega)]
    · rw [decide_eq_true (by omega), decide_eq_true rfl]
  · rintro (h | h | h | ⟨h1, h2⟩)
    · cases h
    · rw [List.length_append, hl] at h; omega
    · omega
    · obtain ⟨k, hk⟩ : ∃ k, sizeB n = k + 1 := ⟨sizeB n - 1, by omega⟩
      rw [hk, bigE, List.cons_append, List.head?_cons] at h2
      have h2 := Option.some.inj h2
      have hlow := sizeB_low k n hk
      have hhi := lt_sizeB n
      rw [hk, Nat.pow_succ] at hhi
      have hp : 0 < 256 ^ k := Nat.pow_pos (by decide)
      have h3 : 1 ≤ n / 256 ^ k := (Nat.le_div_iff_mul_le hp).2 (by omega)
      have h4 : n / 256 ^ k < 256 := (Nat.div_lt_iff_lt_mul hp).2 (by rw [Nat.mul_comm]; exact hhi)
      rw [Nat.mod_eq_of_lt h4] at h2
      omega
theorem numR_true (p : List Nat) : numR p true = badNR := by
  unfold numR
  cases p with
  | nil => rfl
  | cons h r => simp
theorem numR_eq {p : List Nat} {bad : Bool} (hp : byteIn p) (h : (numR p bad).bad = false) : bad = false ∧ p = numB (numR p bad).n (if (numR p bad).mark = true then 128 else 0) ++ (numR p bad).rest := by
  cases bad with
  | true => rw [numR_true] at h; cases h
  | false =>
    refine ⟨rfl, ?_⟩
    cases p with
    | nil => cases h
    | cons hd r =>
      by_cases hno : false = true ∨ r.length < sizeOf_ hd ∨ 8 < sizeOf_ hd ∨ (0 < sizeOf_ hd ∧ r.head? = some 0)
      · unfold numR at h
        simp only at h
        rw [if_pos hno] at h; cases h
      · have est : numR (hd :: r) false = ⟨valB (r.take (sizeOf_ hd)) 0, decide (128 ≤ hd), r.drop (sizeOf_ hd), false⟩ := by
          unfold numR
          simp only
          rw [if_neg hno]
        have hhd := hp hd List.mem_cons_self
        have h1 : sizeOf_ hd ≤ r.length := Nat.le_of_not_lt fun hh => hno (.inr (.inl hh))
        have h2 : ¬ (0 < sizeOf_ hd ∧ r.head? = some 0) := fun hh => hno (.inr (.inr (.inr hh)))
        rw [est]
        have hbt : byteIn (r.take (sizeOf_ hd)) := fun x hx => hp x (List.mem_cons_of_mem _ (List.mem_of_mem_take hx))
        have hlen : (r.take (sizeOf_ hd)).length = sizeOf_ hd := by rw [List.length_take]; omega
        have hbig := bigE_valB _ (r.take (sizeOf_ hd)) rfl hbt
        rw [hlen] at hbig
        have hsz : sizeB (valB (r.take (sizeOf_ hd)) 0) = sizeOf_ hd := by
          cases ht : r.take (sizeOf_ hd) with
          | nil =>
            rw [ht] at hlen
            rw [← hlen]; exact sizeB_zero
          | cons b q =>
            rw [ht] at hlen hbt
            have hb0 : b ≠ 0 := fun hb => h2 ⟨by simp at hlen; omega, by
              subst hb
              cases r with
              | nil => simp at ht
              | cons x r' =>
                cases hs : sizeOf_ hd with
                | zero => rw [hs] at ht; simp at ht
                | succ m =>
                  rw [hs, List.take_succ_cons] at ht
                  injection ht with e1 _
                  rw [e1]; rfl⟩
            have hlow := valB_low q b 0 (by show 1 ≤ b; omega)
            rw [Nat.zero_add] at hlow
            have hhi := valB_lt (b :: q) 0 0 hbt (by decide)
            rw [Nat.zero_add] at hhi
            have e0 : valB (b :: q) 0 = valB q b := by rw [valB, Nat.zero_mul, Nat.zero_add]
            rw [← hlen, List.length_cons]
            exact sizeB_eq q.length _ (by rw [e0]; exact hlow) hhi
        have hh : hd = (if decide (128 ≤ hd) = true then 128 else 0) + sizeOf_ hd := by
          unfold sizeOf_
          by_cases hm : 128 ≤ hd
          · rw [if_pos hm, decide_eq_true hm, if_pos rfl]; omega
          · rw [if_neg hm, decide_eq_false hm]; simp
        simp only [numB, hsz, hbig, List.cons_append, List.take_append_drop, ← hh]
theorem uintR_numB {n m : Nat} {rest : List Nat} (hn : n < 18446744073709551616) (h : n ≤ m) : uintR m ⟨numB n 0 ++ rest, false⟩ = (n, ⟨rest, false⟩) := by
  unfold uintR
  simp only
  rw [numR_numB hn (.inl rfl)]
  rw [if_neg (by simp; omega)]
theorem uintR_eq {m : Nat} {t : LS} (hp : byteIn t.p) (h : (uintR m t).2.bad = false) : t.bad = false ∧ t.p = numB (uintR m t).1 0 ++ (uintR m t).2.p := by
  unfold uintR at h ⊢
  split at h
  · cases h
  · rename_i hno
    rw [if_neg hno]
    obtain ⟨h1, h2⟩ := numR_eq hp h
    refine ⟨h1, ?_⟩
    have hm : (numR t.p t.bad).mark = false := by
      cases hh : (numR t.p t.bad).mark with
      | false => rfl
      | true => exact absurd (.inl hh) hno
    rw [hm] at h2
    exact h2
theorem intR_intB {v : Int} {rest : List Nat} (hv : inK .i64 v) : intR ⟨intB v ++ rest, false⟩ = (v, ⟨rest, false⟩) := by
  have hv : -9223372036854775808 ≤ v ∧ v ≤ 9223372036854775807 := hv
  unfold intR intB
  by_cases h : v < 0
  · rw [if_pos h]
    simp only
    rw [numR_numB (by omega) (.inr rfl)]
    rw [if_neg (by simp only; omega)]
    simp only [decide_true, if_true]
    rw [show -1 - (((-1 - v).toNat : Nat) : Int) = v by omega]
  · rw [if_neg h]
    simp only
    rw [numR_numB (by omega) (.inl rfl)]
    rw [if_neg (by simp only; omega)]
    simp only
    rw [if_neg (by decide), show ((v.toNat : Nat) : Int) = v by omega]
theorem intR_eq {t : LS} (hp : byteIn t.p) (h : (intR t).2.bad = false) : t.bad = false ∧ t.p = intB (intR t).1 ++ (intR t).2.p := by
  unfold intR at h ⊢
  split at h
  · cases h
  · rename_i hno
    rw [if_neg hno]
    obtain ⟨h1, h2⟩ := numR_eq hp h
    refine ⟨h1, ?_⟩
    simp only
    cases hm : (numR t.p t.bad).mark with
    | true =>
      rw [hm] at h2
      rw [if_pos rfl]
      unfold intB
      rw [if_pos (by omega), show (-1 - (-1 - ((numR t.p t.bad).n : Int))).toNat = (numR t.p t.bad).n by omega]
      exact h2
    | false =>
      rw [hm] at h2
      rw [if_neg (by simp)]
      unfold intB
      rw [if_neg (by omega), Int.toNat_natCast]
      exact h2
theorem legsR_legsB : ∀ {ls : List Leg} {rest : List Nat}, (∀ x, x ∈ ls → legIn x ∧ x.acct ≤ 9) → legsR ls.length ⟨legsB ls ++ rest, false⟩ = (ls, ⟨rest, false⟩)
  | [], rest, _ => rfl
  | x :: r, rest, h => by
    obtain ⟨⟨⟨a1, a2⟩, a3⟩, a4⟩ := h x List.mem_cons_self
    simp only [kLo, kHi] at a1 a2
    have e1 : uintR 9 ⟨legsB (x :: r) ++ rest, false⟩ = (x.acct.toNat, ⟨intB x.amt ++ (legsB r ++ rest), false⟩) := by
      rw [legsB, List.append_assoc, List.append_assoc]
      exact uintR_numB (by omega) (by omega)
    rw [List.length_cons, legsR, e1]
    simp only
    rw [intR_intB a3]
    simp only
    rw [legsR_legsB fun y hy => h y (List.mem_cons_of_mem _ hy)]
    obtain ⟨xa, xm⟩ := x
    simp only at a1 ⊢
    rw [show ((xa.toNat : Nat) : Int) = xa by omega]
theorem legsR_eq : ∀ {d : Nat} {t : LS}, byteIn t.p → (legsR d t).2.bad = false → t.bad = false ∧ t.p = legsB (legsR d t).1 ++ (legsR d t).2.p ∧ (legsR d t).1.length = d
  | 0, t, _, h => ⟨h, rfl, rfl⟩
  | d + 1, t, hp, h => by
    rw [legsR] at h ⊢
    have b1 : byteIn (uintR 9 t).2.p := uintR_in hp
    have b2 : byteIn (intR (uintR 9 t).2).2.p := intR_in b1
    obtain ⟨q1, q2, q3⟩ := legsR_eq b2 h
    obtain ⟨q4, q5⟩ := intR_eq b1 q1
    obtain ⟨q6, q7⟩ := uintR_eq hp q4
    refine ⟨q6, ?_, by simp only [List.length_cons, q3]⟩
    simp only [legsB, Int.toNat_natCast]
    rw [List.append_assoc, List.append_assoc, ← q2, ← q5]
    exact q7
end Go.Proofs.YtjlfjjgjghdokaaGreatDoor
/- An entry is read of its bytes again; what is read of bytes has these bytes: the plain law. -/
namespace Go.Proofs.YtjlfjjgjghdokaaGreatDoor
open Go Go.Proofs Go.Wk
theorem go_acct : ∀ {ls : List Leg} {s last : Int}, rightGo s last ls = true → ∀ x, x ∈ ls → inK .u8 x.acct → x.acct ≤ 9
  | [], _, _, _, x, hx, _ => by cases hx
  | y :: r, s, last, h, x, hx, hin => by
    unfold rightGo at h
    cases h1 : in64 (s + y.amt) <;> rw [h1] at h <;> simp only [cond_true, cond_false] at h
    · cases h
    · cases h2 : decide (y.acct ≤ last) <;> rw [h2] at h <;> simp only [cond_true, cond_false] at h
      · cases h3 : noB (accName y.acct) <;> rw [h3] at h <;> simp only [cond_true, cond_false] at h
        · rcases List.mem_cons.1 hx with rfl | hx
          · have hin : 0 ≤ x.acct ∧ x.acct ≤ 255 := hin
            rw [noB_acc x.acct hin.1 hin.2] at h3
            simp only [Bool.or_eq_false_iff, decide_eq_false_iff_not] at h3
            omega
          · exact go_acct h x hx hin
        · cases h
      · cases h
theorem right_facts {k : Key} {ls : List Leg} (hk : keyIn k) (hl : ∀ x, x ∈ ls → legIn x) (h : rightB k ls = true) : 0 ≤ k.day ∧ k.day ≤ 3652058 ∧ k.kind ≤ 7 ∧ ls.length ≤ 8 ∧ ∀ x, x ∈ ls → legIn x ∧ x.acct ≤ 9 := by
  have hgo := rightB_go h
  have hd := right_day h
  refine ⟨hd.1, ?_, ?_, hd.2.1, fun x hx => ⟨hl x hx, go_acct hgo x hx (hl x hx).1⟩⟩
  · unfold rightB at h
    cases h1 : noB (kindName k.kind) <;> rw [h1] at h <;> simp only [cond_true, cond_false] at h
    · cases h2 : dayB k.day <;> rw [h2] at h <;> simp only [Bool.not_true, Bool.not_false, cond_true, cond_false] at h
      · cases h
      · simp only [dayB, Bool.and_eq_true, decide_eq_true_eq] at h2
        exact h2.2
    · cases h
  · unfold rightB at h
    cases h1 : noB (kindName k.kind) <;> rw [h1] at h <;> simp only [cond_true, cond_false] at h
    · have hk3 : 0 ≤ k.kind ∧ k.kind ≤ 255 := hk.2.2.1
      rw [noB_kind k.kind hk3.1 hk3.2] at h1
      simp only [Bool.or_eq_false_iff, decide_eq_false_iff_not] at h1
      omega
    · cases h
theorem parse_ent {k : Key} {ls : List Leg} (hk : keyIn k) (hl : ∀ x, x ∈ ls → legIn x) (h : rightB k ls = true) : pK (entBytes k ls) = k ∧ pL (entBytes k ls) = ls ∧ pT (entBytes k ls) = ⟨[], false⟩ := by
  obtain ⟨h1, h2, h3, h4, h5⟩ := right_facts hk hl h
  obtain ⟨⟨k1, k2⟩, ⟨k3, k4⟩, ⟨k5, k6⟩, ⟨k7, k8⟩⟩ := hk
  simp only [kLo, kHi] at k1 k2 k3 k4 k5 k6 k7 k8
  have e1 : p1 (entBytes k ls) = (k.loan.toNat, ⟨numB k.day.toNat 0 ++ (numB k.kind.toNat 0 ++ (numB k.seq.toNat 0 ++ (numB ls.length 0 ++ legsB ls))), false⟩) := by
    unfold p1 entBytes
    simp only [List.append_assoc]
    exact uintR_numB (by omega) (by omega)
  have e2 : p2 (entBytes k ls) = (k.day.toNat, ⟨numB k.kind.toNat 0 ++ (numB k.seq.toNat 0 ++ (numB ls.length 0 ++ legsB ls)), false⟩) := by
    unfold p2
    rw [e1]
    exact uintR_numB (by omega) (by omega)
  have e3 : p3 (entBytes k ls) = (k.kind.toNat, ⟨numB k.seq.toNat 0 ++ (numB ls.length 0 ++ legsB ls), false⟩) := by
    unfold p3
    rw [e2]
    exact uintR_numB (by omega) (by omega)
  have e4 : p4 (entBytes k ls) = (k.seq.toNat, ⟨numB ls.length 0 ++ legsB ls, false⟩) := by
    unfold p4
    rw [e3]
    exact uintR_numB (by omega) (by omega)
  have e5 : p5 (entBytes k ls) = (ls.length, ⟨legsB ls ++ [], false⟩) := by
    unfold p5
    rw [e4, List.append_nil]
    exact uintR_numB (by omega) (by omega)
  have e6 := legsR_legsB (rest := []) h5
  refine ⟨?_, ?_, ?_⟩
  · unfold pK
    rw [e1, e2, e3, e4]
    obtain ⟨x1, x2, x3, x4⟩ := k
    simp only at *
    rw [show ((x1.toNat : Nat) : Int) = x1 by omega, show ((x2.toNat : Nat) : Int) = x2 by omega, show ((x3.toNat : Nat) : Int) = x3 by omega, show ((x4.toNat : Nat) : Int) = x4 by omega]
  · unfold pL
    rw [e5]
    simp only
    rw [e6]
  · unfold pT
    rw [e5]
    simp only
    rw [e6]
theorem parse_eq {bs : List Nat} (hb : byteIn bs) (h : (endOk (pT bs) && rightB (pK bs) (pL bs)) = true) : entBytes (pK bs) (pL bs) = bs := by
  rw [Bool.and_eq_true] at h
  have he := h.1
  unfold endOk at he
  simp only [Bool.and_eq_true, Bool.not_eq_true', beq_iff_eq] at he
  have b1 : byteIn (p1 bs).2.p := uintR_in hb
  have b2 : byteIn (p2 bs).2.p := uintR_in b1
  have b3 : byteIn (p3 bs).2.p := uintR_in b2
  have b4 : byteIn (p4 bs).2.p := uintR_in b3
  have b5 : byteIn (p5 bs).2.p := uintR_in b4
  obtain ⟨q5, r5, l5⟩ := legsR_eq (d := (p5 bs).1) b5 he.1
  obtain ⟨q4, r4⟩ := uintR_eq b4 q5
  obtain ⟨q3, r3⟩ := uintR_eq b3 q4
  obtain ⟨q2, r2⟩ := uintR_eq b2 q3
  obtain ⟨q1, r1⟩ := uintR_eq b1 q2
  obtain ⟨q0, r0⟩ := uintR_eq (t := ⟨bs, false⟩) hb q1
  have hnil : (pT bs).p = [] := List.length_eq_zero_iff.1 he.2
  have r5 : (p5 bs).2.p = legsB (pL bs) := by
    rw [r5]
    show _ ++ (pT bs).p = _
    rw [hnil, List.append_nil]; rfl
  have hlen : (pL bs).length = (p5 bs).1 := l5
  unfold entBytes
  simp only [pK, Int.toNat_natCast, List.append_assoc, hlen]
  rw [← r5, ← r4, ← r3, ← r2, ← r1]
  exact r0.symm
end Go.Proofs.YtjlfjjgjghdokaaGreatDoor
