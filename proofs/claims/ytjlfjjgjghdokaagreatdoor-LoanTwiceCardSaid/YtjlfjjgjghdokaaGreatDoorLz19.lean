/- A loan to which nothing happens: its plain law, its walk. -/
import Derived.Test.YtjlfjjgjghdokaaGreatDoorLz18
set_option linter.unusedVariables false
namespace Go.Proofs.YtjlfjjgjghdokaaGreatDoor
open Go Go.Proofs Go.Wk
/-- All days' interest at once. -/
noncomputable def qF (S : Sto) : Nat → Int × Int
  | 0 => (0, 0)
  | i + 1 => ((qF S i).1 + (brings S.t.parts S.t.basis S.t.prin (qF S i).2 (S.t.start + i)).1, (brings S.t.parts S.t.basis S.t.prin (qF S i).2 (S.t.start + i)).2)
/-- A fee for each month that came and went. -/
def feeS (fee : Int) : List (Int × Int) → Int
  | [] => 0
  | d :: r => (if 0 < d.2 ∧ 0 < fee then fee else 0) + feeS fee r
theorem feeS_app (fee : Int) : ∀ a b, feeS fee (a ++ b) = feeS fee a + feeS fee b
  | [], b => by simp [feeS]
  | d :: r, b => by simp only [List.cons_append, feeS, feeS_app fee r b]; omega
/-- Late fees of a loan of which nothing was paid: what of the list is due. -/
theorem late_none (t : Tm) (loan day : Int) : ∀ (l : List (Int × Int)) (i : Nat) (f : Int), ∃ a b, l = a ++ b ∧ (lateGo t loan day 0 l i f).1 = i + a.length ∧ (lateGo t loan day 0 l i f).2.1 = f + feeS t.fee a ∧ (∀ d, d ∈ a → d.1 + t.grace ≤ day) ∧ (∀ d, b.head? = some d → ¬ d.1 + t.grace ≤ day)
  | [], i, f => ⟨[], [], rfl, by simp [lateGo], by simp [lateGo, feeS], (fun d h => by cases h), (fun d h => by cases h)⟩
  | d :: r, i, f => by
    by_cases h1 : d.1 + t.grace ≤ day
    · by_cases h2 : (0 : Int) < d.2 ∧ 0 < t.fee
      · obtain ⟨a, b, e1, e2, e3, e4, e5⟩ := late_none t loan day r (i + 1) (f + t.fee)
        rw [lateGo_yes h1 h2]
        refine ⟨d :: a, b, by rw [e1]; rfl, ?_, ?_, ?_, e5⟩
        · show (lateGo t loan day 0 r (i + 1) (f + t.fee)).1 = _
          rw [e2, List.length_cons]; omega
        · show (lateGo t loan day 0 r (i + 1) (f + t.fee)).2.1 = _
          rw [e3, feeS, if_pos h2]; omega
        · intro z hz
          rcases List.mem_cons.1 hz with rfl | hz
          · exact h1
          · exact e4 z hz
      · obtain ⟨a, b, e1, e2, e3, e4, e5⟩ := late_none t loan day r (i + 1) f
        rw [lateGo_no h1 h2]
        refine ⟨d :: a, b, by rw [e1]; rfl, ?_, ?_, ?_, e5⟩
        · rw [e2, List.length_cons]; omega
        · rw [e3, feeS, if_neg h2]; omega
        · intro z hz
          rcases List.mem_cons.1 hz with rfl | hz
          · exact h1
          · exact e4 z hz
    · rw [lateGo_stop h1]
      exact ⟨[], d :: r, rfl, by simp, by simp [feeS], (fun d h => by cases h), fun z hz => by rw [← Option.some.inj hz]; exact h1⟩
/-- Nothing happened through so many days. -/
structure Quiet (S : Sto) (i : Nat) (s : TS) : Prop where
  l : s.l = []
  int : s.x.int = (qF S i).1
  carry : s.x.carry = (qF S i).2
  prin : s.x.prin = S.t.prin
  paid : s.x.paid = 0
  cash : s.x.cash = 0
  status : s.x.status = 1
  fees : ∃ a b, S.dues = a ++ b ∧ s.next = a.length ∧ s.x.fees = feeS S.t.fee a ∧ (∀ d, d ∈ a → d.1 + S.t.grace ≤ S.t.start + i - 1) ∧ (∀ d, b.head? = some d → ¬ d.1 + S.t.grace ≤ S.t.start + i - 1)
theorem eat_nil (S : Sto) (day : Int) (s : TS) (h : s.l = []) : ateF S day s = s := by
  unfold ateF
  rw [h, eatF, List.append_nil, ← h]
theorem sleep_quiet {S : Sto} {i : Nat} {s : TS} (hl : s.l = []) (h1 : s.x.int = (qF S i).1) (h2 : s.x.carry = (qF S i).2) (h3 : s.x.prin = S.t.prin) (h4 : s.x.paid = 0) (h5 : s.x.cash = 0) (h6 : s.x.status = 1)
    (hf : ∃ a b, S.dues = a ++ b ∧ s.next = a.length ∧ s.x.fees = feeS S.t.fee a ∧ ∀ d, d ∈ a → d.1 + S.t.grace ≤ S.t.start + i) : Quiet S (i + 1) (sleepF S (S.t.start + i) s) := by
  obtain ⟨a, b, e1, e2, e3, e4⟩ := hf
  have hd : S.dues.drop s.next = b := by rw [e2, e1, List.drop_left]
  obtain ⟨a', b', k1, k2, k3, k4, k5⟩ := late_none S.t S.loan (S.t.start + i) b s.next s.x.fees
  have en : nightF S (S.t.start + i) s.x s.next = ({ s.x with fees := (lateGo S.t S.loan (S.t.start + i) 0 b s.next s.x.fees).2.1, int := s.x.int + (brings S.t.parts S.t.basis s.x.prin s.x.carry (S.t.start + i)).1, carry := (brings S.t.parts S.t.basis s.x.prin s.x.carry (S.t.start + i)).2 }, (lateGo S.t S.loan (S.t.start + i) 0 b s.next s.x.fees).1, (nightF S (S.t.start + i) s.x s.next).2.2) := by
    have hL : lateGo S.t S.loan (S.t.start + i) s.x.paid (S.dues.drop s.next) s.next s.x.fees = lateGo S.t S.loan (S.t.start + i) 0 b s.next s.x.fees := by rw [h4, hd]
    unfold nightF
    rw [if_pos h6, hL]
  unfold sleepF
  rw [en]
  refine ⟨hl, ?_, ?_, h3, h4, h5, h6, ?_⟩
  · show s.x.int + _ = _
    rw [qF, h1, h3, h2]
  · show (brings S.t.parts S.t.basis s.x.prin s.x.carry (S.t.start + i)).2 = _
    rw [qF, h3, h2]
  · have e0 : S.t.start + ((i + 1 : Nat) : Int) - 1 = S.t.start + i := by omega
    rw [e0]
    refine ⟨a ++ a', b', by rw [e1, k1, List.append_assoc], ?_, ?_, ?_, k5⟩
    · show (lateGo S.t S.loan (S.t.start + i) 0 b s.next s.x.fees).1 = _
      rw [k2, e2, List.length_append]
    · show (lateGo S.t S.loan (S.t.start + i) 0 b s.next s.x.fees).2.1 = _
      rw [k3, e3, feeS_app]
    · intro d hd
      rcases List.mem_append.1 hd with h | h
      · exact e4 d h
      · exact k4 d h
theorem quiet_days {S : Sto} (hS : StoOk S) {th : Int} : ∀ i : Nat, S.t.start + i ≤ th → Quiet S (i + 1) (daysF S th ⟨st0, 0, [], []⟩ (i + 1))
  | 0, h => by
    have e0 : S.t.start + ((0 : Nat) : Int) = S.t.start := Int.add_zero _
    show Quiet S 1 (oneDay S th (S.t.start + ((0 : Nat) : Int)) ⟨st0, 0, [], []⟩)
    unfold oneDay
    rw [if_pos h]
    have hb : boardF S (S.t.start + ((0 : Nat) : Int)) ⟨st0, 0, [], []⟩ = ⟨{ st0 with prin := S.t.prin, status := 1 }, 0, [], [] ++ [(⟨S.loan, S.t.start + ((0 : Nat) : Int), 1, 0⟩, refMade [⟨2, S.t.prin⟩, ⟨1, -S.t.prin⟩])]⟩ := by unfold boardF; rw [if_pos e0]
    rw [hb, eat_nil S _ _ rfl]
    exact sleep_quiet (i := 0) rfl rfl rfl rfl rfl rfl rfl ⟨[], S.dues, rfl, rfl, rfl, fun d h => by cases h⟩
  | i + 1, h => by
    have ih := quiet_days hS (th := th) i (by omega)
    show Quiet S (i + 1 + 1) (oneDay S th (S.t.start + ((i + 1 : Nat) : Int)) (daysF S th ⟨st0, 0, [], []⟩ (i + 1)))
    unfold oneDay
    rw [if_pos h]
    have hb : boardF S (S.t.start + ((i + 1 : Nat) : Int)) (daysF S th ⟨st0, 0, [], []⟩ (i + 1)) = daysF S th ⟨st0, 0, [], []⟩ (i + 1) := by unfold boardF; rw [if_neg (by omega)]
    rw [hb, eat_nil S _ _ ih.l]
    obtain ⟨a, b, e1, e2, e3, e4, e5⟩ := ih.fees
    exact sleep_quiet (i := i + 1) ih.l ih.int ih.carry ih.prin ih.paid ih.cash ih.status ⟨a, b, e1, e2, e3, fun d hd => by have := e4 d hd; omega⟩
/-- Through a day. -/
theorem quiet_tell {S : Sto} (hS : StoOk S) (k : Nat) : Quiet S (k + 1) (tellF S (S.t.start + k) []) := by
  have e : (S.t.start + k + 2 - S.t.start).toNat = k + 1 + 1 := by omega
  unfold tellF
  rw [e]
  have hq := quiet_days hS (th := S.t.start + k) k (Int.le_refl _)
  show Quiet S (k + 1) (oneDay S (S.t.start + k) (S.t.start + ((k + 1 : Nat) : Int)) (daysF S (S.t.start + k) ⟨st0, 0, [], []⟩ (k + 1)))
  unfold oneDay
  rw [if_neg (by omega)]
  have hb : boardF S (S.t.start + ((k + 1 : Nat) : Int)) (daysF S (S.t.start + k) ⟨st0, 0, [], []⟩ (k + 1)) = daysF S (S.t.start + k) ⟨st0, 0, [], []⟩ (k + 1) := by unfold boardF; rw [if_neg (by omega)]
  rw [hb, eat_nil S _ _ hq.l]
  exact hq
end Go.Proofs.YtjlfjjgjghdokaaGreatDoor
set_option linter.unusedVariables false
namespace Go.Wk
/-- As fEq, whatever compares the fields. -/
def fEqW (g : TypeId → Value → Value → Option Bool) (T : Tab) (xs ys : Array Value) : List Field → Option Bool
  | [] => some true
  | f :: fs => bif f.name == "_" then none else match partV (T f.type) xs f.offset, partV (T f.type) ys f.offset with
    | some a, some b => match g f.type a b, fEqW g T xs ys fs with
      | some r, some s => some (r && s)
      | _, _ => none
    | _, _ => none
/-- Values compared through so many structs of the types that are named. -/
def leafN (T : Tab) (oks : List TypeId) : Nat → TypeId → Value → Value → Option Bool
  | 0, t, x, y => leafEq (T t) x y
  | n + 1, t, x, y => match T t, x, y with
    | some ⟨.struct fs, _⟩, .agg xs, .agg ys => bif oks.contains t then fEqW (leafN T oks n) T xs ys fs.toList else none
    | _, _, _ => leafEq (T t) x y
section
variable {P : Program} {T : Tab} {K : Value → World → Prop} {w : World}
theorem fEqW_sound (hT : T.Ok P) {g : TypeId → Value → Value → Option Bool} {d : Nat} {xs ys : Array Value} (hg : ∀ t x y r, g t x y = some r → ∀ w, (Op.equalIn (d + 1) t x y).run P w = .ok r w) :
    ∀ {fs : List Field} {r : Bool}, fEqW g T xs ys fs = some r → ∀ w, (Op.eqFields (d + 1) xs ys fs).run P w = .ok r w
  | [], r, h, w => by simp only [fEqW, Option.some.injEq] at h; subst h; rfl
  | f :: fs, r, h, w => by
    unfold fEqW at h
    cases hn : (f.name == "_") with
    | true => rw [hn] at h; cases h
    | false =>
      rw [hn] at h
      simp only [cond_false] at h
      have hn' : f.name ≠ "_" := by simpa using hn
      cases ha : partV (T f.type) xs f.offset with
      | none => rw [ha] at h; cases h
      | some a =>
        cases hb : partV (T f.type) ys f.offset with
        | none => rw [ha, hb] at h; cases h
        | some b =>
          rw [ha, hb] at h
          simp only at h
          cases hr : g f.type a b with
          | none => rw [hr] at h; cases h
          | some r1 =>
            cases hs : fEqW g T xs ys fs with
            | none => rw [hr, hs] at h; cases h
            | some s =>
              rw [hr, hs] at h
              simp only [Option.some.injEq] at h
              subst h
              have ih := fEqW_sound hT hg hs
              simp only [Op.eqFields, hn', ne_eq, not_false_eq_true, if_true, Sem.run_bind, run_part hT ha, run_part hT hb, Result.andThen_ok, hg _ _ _ _ hr, Sem.run_ite]
              cases r1 with
              | false => simp
              | true => simpa using ih w
theorem leafN_sound (hT : T.Ok P) {oks : List TypeId} (ho : ∀ t, oks.contains t = true → P.stoodInHeld t = false) : ∀ (n d : Nat), n ≤ d → ∀ (t : TypeId) (x y : Value) (r : Bool), leafN T oks n t x y = some r → ∀ w, (Op.equalIn (d + 1) t x y).run P w = .ok r w
  | 0, d, _, t, x, y, r, h, w => leaf_sound hT h w
  | n + 1, d, hd, t, x, y, r, h, w => by
    unfold leafN at h
    split at h
    · rename_i fs i xs ys ht
      cases hc : oks.contains t with
      | false => rw [hc] at h; cases h
      | true =>
        rw [hc] at h
        simp only [cond_true] at h
        have hf : P.fieldsOf t = fs := by unfold Program.fieldsOf; rw [(hT t _ ht).1]
        have := run_equalIn_struct (P := P) w d t xs ys (by rw [hf]; exact (hT t _ ht).1) (ho t hc)
        rw [this, hf]
        obtain ⟨d', rfl⟩ : ∃ d', d = d' + 1 := ⟨d - 1, by omega⟩
        exact fEqW_sound hT (leafN_sound hT ho n d' (by omega)) h w
    · exact leaf_sound hT h w
/-- == at a struct with structs in it. -/
theorem eqN_struct (hT : T.Ok P) (oks : List TypeId) (n : Nat) {t : TypeId} {xs ys : Array Value} {ox oy : Operand} {r : Bool} (ho : ∀ t, oks.contains t = true → P.stoodInHeld t = false) (hn : Nat.ble n 9999 = true) (hg : P.eqGuardType P.depth t = false)
    (h : leafN T oks n t (.agg xs) (.agg ys) = some r) (k : K (.bool r) w) : BinK P K w .eql t ox oy (.agg xs) (.agg ys) := by
  refine BinK.of ?_ k
  have e := leafN_sound hT ho n 9999 (Nat.le_of_ble_eq_true hn) t (.agg xs) (.agg ys) r h w
  simp only [binS, Sem.run_bind, run_eqGuard_agg w .eql t ox oy xs ys hg, Result.andThen_ok, run_eql_struct]
  rw [e]
  rfl
end
end Go.Wk
set_option linter.unusedVariables false
namespace Go.Proofs.YtjlfjjgjghdokaaGreatDoor
open Go Go.Proofs Go.Wk
theorem guard44 : Tryz.prog.eqGuardType Tryz.prog.depth 44 = false := by kernel_rfl
theorem held44 : Tryz.prog.stoodInHeld 44 = false := by kernel_rfl
theorem okSt (t : TypeId) (h : [44, 41].contains t = true) : Tryz.prog.stoodInHeld t = false := by
  have h2 : t = 44 ∨ t = 41 := by simpa using h
  rcases h2 with e | e <;> rw [e]
  · exact held44
  · exact held41
def stEq (a b : St) : Bool := ((a.fees == b.fees) && ((a.int == b.int) && ((a.prin == b.prin) && true))) && ((a.carry == b.carry) && ((a.paid == b.paid) && ((a.susp == b.susp) && ((a.recv == b.recv) && ((a.cash == b.cash) && ((a.status == b.status) && true))))))
theorem stEq_self (a : St) : stEq a a = true := by unfold stEq; simp
theorem stEqV (a b : St) : leafN tb [44, 41] 2 44 (stV a) (stV b) = some (stEq a b) := rfl
theorem enC_len (x : En) : (enC x).length = 5 := rfl
@[reducible] def enV (x : En) : Value := .agg #[.int .u32 x.k.loan, .int .i32 x.k.day, .int .u8 x.k.kind, .int .u32 x.k.seq, .slice x.s.A x.s.n x.s.c]
theorem ens_get {es : List En} {j : Nat} {x : En} (h : es[j]? = some x) : ldV (tb 71) (ensC es) (0 + j * 5) = some (enV x) := by
  obtain ⟨hj, _⟩ := List.getElem?_eq_some_iff.1 h
  show (bif Nat.ble (0 + j * 5 + 5) (ensC es).length then some (Value.agg (((ensC es).drop (0 + j * 5)).take 5).toArray) else none) = _
  have hl : (ensC es).length = es.length * 5 := flatL_len enC_len es
  rw [Nat.zero_add, flatL_at enC_len h]
  have : Nat.ble (j * 5 + 5) (ensC es).length = true := by rw [Nat.ble_eq, hl]; omega
  rw [this]
  rfl
theorem hpEn {w : World} {B : Base} {S : List Asn} {F : List Fact} (H : Hp B S F w) (es : List En) [hp : InF F (EnF es)] {j : Nat} {x : En} (h : es[j]? = some x) : Hp B S (Sl legR (.slice x.s.A x.s.n x.s.c) x.ls :: F) w := H.facts fun I ha f hf => by
  rcases List.mem_cons.1 hf with rfl | hf
  · exact ha (EnF es) hp.mem x (List.mem_of_getElem? h)
  · exact ha f hf
theorem sameSelf (k : Key) (ls : List Leg) : sameB k k ls ls = true := by
  unfold sameB
  rw [legsEq_self, eqK_iff.2 rfl]; rfl
end Go.Proofs.YtjlfjjgjghdokaaGreatDoor
set_option linter.unusedVariables false
namespace Go.Proofs.YtjlfjjgjghdokaaGreatDoor
open Go Go.Proofs Go.Wk
def kLt (a b : Key) : Prop := a.loan < b.loan ∨ (a.loan = b.loan ∧ (a.day < b.day ∨ (a.day = b.day ∧ (a.kind < b.kind ∨ (a.kind = b.kind ∧ a.seq < b.seq)))))
theorem lessB_iff {a b : Key} : lessB a b = true ↔ kLt a b := by
  obtain ⟨a1, a2, a3, a4⟩ := a
  obtain ⟨b1, b2, b3, b4⟩ := b
  have c0 : ∀ {x y : Int}, x = y → cmpI x y = 0 := fun h => by unfold cmpI; rw [if_neg (by omega), if_neg (by omega)]
  have c1 : ∀ {x y : Int}, x < y → cmpI x y = -1 := fun h => by unfold cmpI; rw [if_pos h]
  have c2 : ∀ {x y : Int}, y < x → cmpI x y = 1 := fun h => by unfold cmpI; rw [if_neg (by omega), if_pos h]
  unfold lessB kLt
  rw [decide_eq_true_eq]
  simp only
  rcases Int.lt_trichotomy a1 b1 with h | h | h
  · rw [c1 h]; simp [orL, h]
  · rcases Int.lt_trichotomy a2 b2 with h2 | h2 | h2
    · rw [c0 h, c1 h2]; simp [orL, h, h2]
    · rcases Int.lt_trichotomy a3 b3 with h3 | h3 | h3
      · rw [c0 h, c0 h2, c1 h3]; simp [orL, h, h2, h3]
      · rcases Int.lt_trichotomy a4 b4 with h4 | h4 | h4
        · rw [c0 h, c0 h2, c0 h3, c1 h4]; simp [orL, h, h2, h3, h4]
        · rw [c0 h, c0 h2, c0 h3, c0 h4]; simp [orL, h, h2, h3, h4]
        · rw [c0 h, c0 h2, c0 h3, c2 h4]; simp [orL, h, h2, h3]; omega
      · rw [c0 h, c0 h2, c2 h3]; simp [orL, h, h2]; omega
    · rw [c0 h, c2 h2]; simp [orL, h]; omega
  · rw [c2 h]; simp [orL]; omega
def leE (a b : En) : Prop := ¬ kLt b.k a.k
def srtE (l : List En) : Prop := l.Pairwise leE
theorem leE_of {a b : En} (h : lessB a.k b.k = true) : leE a b := by
  have h := lessB_iff.1 h
  unfold leE
  unfold kLt at h ⊢
  omega
theorem leE_trans {a b c : En} (h1 : leE a b) (h2 : leE b c) : leE a c := by
  unfold leE kLt at h1 h2 ⊢
  omega
/-- What the comparer answers. -/
def cmpE (a b : En) : Int := if lessB a.k b.k = true then -1 else 1
theorem cmpE_lt {a b : En} (h : cmpE a b < 0) : lessB a.k b.k = true := by
  unfold cmpE at h
  split at h
  · assumption
  · omega
theorem cmpE_ge {x y : En} (h : ¬ cmpE y x < 0) : leE x y := by
  unfold cmpE at h
  split at h
  · omega
  · rename_i q
    intro hk
    exact q (lessB_iff.2 hk)
theorem ensC_len (ls : List En) : (ensC ls).length = ls.length * 5 := flatL_len enC_len ls
theorem ens_set : ∀ (ls : List En) (j : Nat) (x : En), setL (ensC ls) (0 + j * 5) (enC x) = ensC (ls.set j x)
  | [], j, x => by simp [ensC, flatL, enC, setL]
  | y :: r, 0, x => rfl
  | y :: r, j + 1, x => by
    have ih := ens_set r j x
    rw [show 0 + (j + 1) * 5 = 0 + j * 5 + 1 + 1 + 1 + 1 + 1 by omega]
    simp only [ensC, flatL, enC, setL, List.set_cons_succ, List.cons_append, List.nil_append] at ih ⊢
    rw [← ih]
theorem cmpA (a b : En) : CB 67 [enV a, enV b] (.int .i64 (cmpE a b)) := by
  intro w M I H
  refine Exe.of_ev tok Tryz.call67 Tryz.func67 rfl rfl rfl ?_
  refine box_as H (enC a) rfl fun x w1 H1 => ?_
  refine box_as H1 (enC b) rfl fun y w2 H2 => ?_
  refine load_rule tok H2 (v := keyV a.k) rfl ?_
  refine load_rule tok H2 (v := keyV b.k) rfl ?_
  refine call_rule H2 (fun M I _ h => less a.k b.k _ M I h) fun _ w3 _ H3 => ?_
  refine br (fun q => ?_) (fun q => ?_)
  · refine Exists.intro () (And.intro (congrArg (Value.int .i64) ?_) (And.intro trivial (Hp.keep H3)))
    unfold cmpE
    rw [if_pos q]
  · refine Exists.intro () (And.intro (congrArg (Value.int .i64) ?_) (And.intro trivial (Hp.keep H3)))
    unfold cmpE
    rw [if_neg (by rw [q]; decide)]
theorem cmpB (a b : En) : CB 116 [enV a, enV b] (.int .i64 (cmpE a b)) := by
  intro w M I H
  refine Exe.of_ev tok Tryz.call116 Tryz.func116 rfl rfl rfl ?_
  refine box_as H (enC a) rfl fun x w1 H1 => ?_
  refine box_as H1 (enC b) rfl fun y w2 H2 => ?_
  refine load_rule tok H2 (v := keyV a.k) rfl ?_
  refine load_rule tok H2 (v := keyV b.k) rfl ?_
  refine call_rule H2 (fun M I _ h => less a.k b.k _ M I h) fun _ w3 _ H3 => ?_
  refine br (fun q => ?_) (fun q => ?_)
  · refine Exists.intro () (And.intro (congrArg (Value.int .i64) ?_) (And.intro trivial (Hp.keep H3)))
    unfold cmpE
    rw [if_pos q]
  · refine Exists.intro () (And.intro (congrArg (Value.int .i64) ?_) (And.intro trivial (Hp.keep H3)))
    unfold cmpE
    rw [if_neg (by rw [q]; decide)]
theorem insEnt (G : Nat) (hc : ∀ a b : En, CB G [enV a, enV b] (.int .i64 (cmpE a b))) (g n c : Nat) (hn : n ≤ 1000000) (ls : List En) (hl : ls.length = n) (w : World) (M I : BS) (H : Hp ⟨w, M, I⟩ [row 71 5 (.slice (some ⟨g, 0, none⟩) n c) n (ensC ls)] [] w) :
    Ctr Tryz.prog 168 [.slice (some ⟨g, 0, none⟩) n c, .int .i64 0, .int .i64 n, .func (.func G) #[] #[]] w M I (fun _ : List En => .tuple #[]) (fun l => l.Perm ls ∧ srtE l) (fun l => [row 71 5 (.slice (some ⟨g, 0, none⟩) n c) n (ensC l)]) (fun _ => []) := by
  refine Exe.of_ev tok Tryz.call168 Tryz.func168 rfl rfl rfl ?_
  refine loop_rule tok (σ := Nat × List En) 9007199254737664 (fun s => [(8, .int .i64 s.1)]) (fun s w' => 1 ≤ s.1 ∧ s.1 ≤ 1000001 ∧ s.2.Perm ls ∧ srtE (s.2.take s.1) ∧ Hp ⟨w, M, I⟩ [row 71 5 (.slice (some ⟨g, 0, none⟩) n c) n (ensC s.2)] [] w') (fun s => n - s.1) (1, ls) rfl rfl ⟨rfl, trivial⟩ ⟨Nat.le_refl _, by simp, .refl _, ?_, H⟩ ?_
  · cases ls with
    | nil => exact List.Pairwise.nil
    | cons x r => simp [srtE]
  rintro ⟨i, l1⟩ j0 w1 ⟨hi, hi2, hp, hs, H1⟩
  simp only at hi hi2 hp hs H1
  refine brd (fun h => ?_) (fun h => ?_)
  · have hlt : i < n := by omega
    have hl1 : l1.length = n := by rw [hp.length_eq, hl]
    obtain ⟨pre, y, rest, rfl, hpre⟩ : ∃ pre y rest, l1 = pre ++ y :: rest ∧ pre.length = i := by
      refine ⟨l1.take i, l1[i], l1.drop (i + 1), ?_, by rw [List.length_take]; omega⟩
      rw [List.getElem_cons_drop, List.take_append_drop]
    rw [← hpre, List.take_left] at hs
    refine loop_rule tok (σ := List En × List En) 9007199254479360 (fun s => [(9, .int .i64 s.1.length)]) (fun s w' => s.1 ++ s.2 = pre ∧ (∀ z, z ∈ s.2 → leE y z) ∧ Hp ⟨w, M, I⟩ [row 71 5 (.slice (some ⟨g, 0, none⟩) n c) n (ensC (s.1 ++ y :: (s.2 ++ rest)))] [] w') (fun s => s.1.length) (pre, []) rfl rfl ⟨?_, trivial⟩ ⟨by simp, by simp, by simpa using H1⟩ ?_
    · show Value.int .i64 _ = _
      rw [hpre]
    rintro ⟨p, s⟩ j1 w2 ⟨e, hz, H2⟩
    simp only at e hz H2
    have hps := congrArg List.length e
    have hll : pre.length + 1 + rest.length = n := by rw [← hl1]; simp; omega
    simp only [List.length_append] at hps
    have fin : ∀ w3, srtE (p ++ y :: s) → Hp ⟨w, M, I⟩ [row 71 5 (.slice (some ⟨g, 0, none⟩) n c) n (ensC (p ++ y :: (s ++ rest)))] [] w3 → (p ++ y :: (s ++ rest)).Perm ls ∧ srtE ((p ++ y :: (s ++ rest)).take (i + 1)) := fun w3 h1 _ => by
      refine ⟨?_, ?_⟩
      · refine List.Perm.trans ?_ hp
        have e1 : pre ++ y :: rest = p ++ (s ++ y :: rest) := by rw [← e]; simp
        have e2 : p ++ y :: (s ++ rest) = p ++ (y :: s ++ rest) := by simp
        rw [e1, e2]
        refine List.Perm.append_left p ?_
        exact (List.perm_middle (a := y) (l₁ := s) (l₂ := rest)).symm
      · have e2 : p ++ y :: (s ++ rest) = (p ++ y :: s) ++ rest := by simp
        rw [e2, List.take_left' (by simp <;> omega)]
        exact h1
    have hs' : srtE (p ++ s) := by rw [e]; exact hs
    obtain ⟨hsp, hss, hsc⟩ := List.pairwise_append.1 hs'
    rcases List.eq_nil_or_concat p with hpe | ⟨p', x, hpe⟩
    · subst hpe
      refine draw_rule (A := []) tok tdr H2 [0, 1, 2, 3, 4, 5, 6, 7, 8, 9, 10, 11, 12, 13, 14, 15, 16] [0, 0, 3, 7, 15, 15, 15, 111, 239, 15, 15, 1039, 3599, 7695, 16383, 32767, 65535] rfl ?_
      refine done_rule fun w3 H3 => ?_
      have hf := fin w3 (List.pairwise_cons.2 ⟨fun z hz' => hz z hz', hss⟩) H3
      refine Exists.intro (i + 1, [] ++ y :: (s ++ rest)) (And.intro ⟨?_, trivial⟩ (And.intro ?_ ⟨by simp only; omega, by simp only; omega, hf.1, hf.2, H3⟩))
      · show Value.int .i64 (IntKind.i64.wrap (i + 1)) = _
        rw [w64 (by omega) (by omega)]; rfl
      · simp only; omega
    · rw [List.concat_eq_append] at hpe
      subst hpe
      simp only [List.length_append, List.length_cons, List.length_nil] at hps
      have hy : (p' ++ [x] ++ y :: (s ++ rest))[(((p' ++ [x]).length : Nat) : Int).toNat]? = some y := by simp
      have hx : (p' ++ [x] ++ y :: (s ++ rest))[(IntKind.i64.wrap ((((p' ++ [x]).length : Nat) : Int) - 1)).toNat]? = some x := by
        rw [w64 (by simp <;> omega) (by simp <;> omega)]
        simp
      have i1 : (0 : Int) ≤ (((p' ++ [x]).length : Nat) : Int) := by omega
      have i2 : (((p' ++ [x]).length : Nat) : Int) < n := by simp <;> omega
      have i3 : (0 : Int) ≤ IntKind.i64.wrap ((((p' ++ [x]).length : Nat) : Int) - 1) := by rw [w64 (by simp <;> omega) (by simp <;> omega)]; simp
      have i4 : IntKind.i64.wrap ((((p' ++ [x]).length : Nat) : Int) - 1) < n := by rw [w64 (by simp <;> omega) (by simp <;> omega)]; simp <;> omega
      refine draw_rule (A := []) tok tdr H2 [0, 1, 2, 3, 4, 5, 6, 7, 8, 9, 10, 11, 12, 13, 14, 15, 16] [0, 0, 3, 7, 15, 15, 15, 111, 239, 15, 15, 1039, 3599, 7695, 16383, 32767, 65535] rfl ?_
      refine brd (fun q => ?_) (fun q => ?_)
      · refine pass_rule _ (fun w h => idx_own tok rfl rfl i1 i2 ⟨rfl, rfl⟩) ?_
        refine pass_rule _ (fun w h => row_ld tok h (enV y) (ens_get hy) ⟨rfl, rfl⟩) ?_
        refine pass_rule _ (fun w h => idx_own tok rfl rfl i3 i4 ⟨rfl, rfl⟩) ?_
        refine pass_rule _ (fun w h => row_ld tok h (enV x) (ens_get hx) ⟨rfl, rfl⟩) ?_
        refine imp_rule (fun X w h => call_rule h (fun M I _ h => hc y x _ M I h) fun _ w1 _ H1 => imp_done H1 ?_)
        refine done_rule fun w3 H3 => ?_
        refine brd (fun q2 => ?_) (fun q2 => ?_)
        · have hlt : lessB y.k x.k = true := cmpE_lt q2
          have hln : (ensC (p' ++ [x] ++ y :: (s ++ rest))).length = n * 5 := by rw [ensC_len]; simp; omega
          have hb1 : 0 + (((p' ++ [x]).length : Nat) : Int).toNat * 5 + 5 ≤ (ensC (p' ++ [x] ++ y :: (s ++ rest))).length := by rw [hln]; omega
          have hb2 : 0 + (IntKind.i64.wrap ((((p' ++ [x]).length : Nat) : Int) - 1)).toNat * 5 + 5 ≤ (setL (ensC (p' ++ [x] ++ y :: (s ++ rest))) (0 + (((p' ++ [x]).length : Nat) : Int).toNat * 5) (enC x)).length := by rw [length_setL, hln]; omega
          refine draw_rule (A := [row 71 5 (.slice (some ⟨g, 0, none⟩) n c) n (ensC (p' ++ [x] ++ y :: (s ++ rest)))]) tok tdr H3 [0, 1, 5, 6, 7, 8, 9, 10, 11, 12, 13, 14, 15, 2, 3, 4, 16, 17] [0, 0, 0, 0, 8, 0, 0, 64, 224, 480, 0, 0, 3072, 7168, 16355, 32739, 65535, 131071] rfl ?_
          refine pass_rule _ (fun w h => idx_own tok rfl rfl i3 i4 ⟨rfl, rfl⟩) ?_
          refine pass_last _ rfl (fun X w h => row_ld tok h (enV x) (ens_get hx) ⟨rfl, rfl⟩) ?_
          refine pass_rule _ (fun w h => idx_own tok rfl rfl i1 i2 ⟨rfl, rfl⟩) ?_
          refine pass_last _ rfl (fun X w h => row_ld tok h (enV y) (ens_get hy) ⟨rfl, rfl⟩) ?_
          refine pass_rule _ (fun w h => idx_own tok rfl rfl i1 i2 ⟨rfl, rfl⟩) ?_
          refine imp_rule (fun X w h => row_st tok h rfl rfl hb1 rfl fun w' H' => imp_done H' ?_)
          refine pass_rule _ (fun w h => idx_own tok rfl rfl i3 i4 ⟨rfl, rfl⟩) ?_
          refine imp_rule (fun X w h => row_st tok h rfl rfl hb2 rfl fun w' H' => imp_done H' ?_)
          refine done_rule fun w4 H4 => ?_
          refine Exists.intro (p', x :: s) (And.intro ⟨?_, trivial⟩ (And.intro ?_ ⟨?_, ?_, ?_⟩))
          · show Value.int .i64 (IntKind.i64.wrap _) = _
            rw [w64 (by simp <;> omega) (by simp <;> omega)]; simp
          · simp
          · simpa using e
          · intro z hz'
            rcases List.mem_cons.1 hz' with rfl | hz'
            · exact leE_of hlt
            · exact hz z hz'
          · have ee : setL (setL (ensC (p' ++ [x] ++ y :: (s ++ rest))) (0 + (((p' ++ [x]).length : Nat) : Int).toNat * 5) (enC x)) (0 + (IntKind.i64.wrap ((((p' ++ [x]).length : Nat) : Int) - 1)).toNat * 5) (enC y) = ensC (p' ++ y :: (x :: s ++ rest)) := by
              rw [ens_set, ens_set, w64 (by simp <;> omega) (by simp <;> omega)]
              congr 1
              simp
            rw [← ee]
            exact H4
        · have hle : leE x y := cmpE_ge q2
          have hf := fin w3 (by
            refine List.pairwise_append.2 ⟨hsp, List.pairwise_cons.2 ⟨fun z hz' => hz z hz', hss⟩, fun u hu v hv => ?_⟩
            rcases List.mem_cons.1 hv with rfl | hv
            · rcases List.mem_append.1 hu with hu | hu
              · exact leE_trans ((List.pairwise_append.1 hsp).2.2 u hu x (by simp)) hle
              · simp only [List.mem_singleton] at hu; subst hu; exact hle
            · exact hsc u hu v hv) H3
          refine Exists.intro (i + 1, p' ++ [x] ++ y :: (s ++ rest)) (And.intro ⟨?_, trivial⟩ (And.intro ?_ ⟨by simp only; omega, by simp only; omega, hf.1, hf.2, H3⟩))
          · show Value.int .i64 (IntKind.i64.wrap (i + 1)) = _
            rw [w64 (by omega) (by omega)]; rfl
          · simp only; omega
      · exact absurd q (by simp <;> omega)
  · exact Exists.intro l1 (And.intro rfl (And.intro ⟨hp, by rwa [List.take_of_length_le (by have := hp.length_eq; omega)] at hs⟩ H1))
theorem pdqEnt (G : Nat) (hc : ∀ a b : En, CB G [enV a, enV b] (.int .i64 (cmpE a b))) (g n c : Nat) (hn : n ≤ 12) (z : Int) (ls : List En) (hl : ls.length = n) (w : World) (M I : BS) (H : Hp ⟨w, M, I⟩ [row 71 5 (.slice (some ⟨g, 0, none⟩) n c) n (ensC ls)] [] w) :
    Ctr Tryz.prog 120 [.slice (some ⟨g, 0, none⟩) n c, .int .i64 0, .int .i64 n, .int .i64 z, .func (.func G) #[] #[]] w M I (fun _ : List En => .tuple #[]) (fun l => l.Perm ls ∧ srtE l) (fun l => [row 71 5 (.slice (some ⟨g, 0, none⟩) n c) n (ensC l)]) (fun _ => []) := by
  refine Exe.of_ev tok Tryz.call120 Tryz.func120 rfl rfl rfl ?_
  refine loop_rule tok (σ := Unit) 356811923176489970264571492362373784095685646 (fun _ => [(1, .int .i64 0), (2, .int .i64 n)]) (fun _ w' => Hp ⟨w, M, I⟩ [row 71 5 (.slice (some ⟨g, 0, none⟩) n c) n (ensC ls)] [] w') (fun _ => 0) () rfl rfl ⟨rfl, rfl, trivial⟩ H ?_
  rintro ⟨⟩ j w1 H1
  have e : IntKind.i64.wrap ((n : Int) - 0) = n := by rw [Int.sub_zero]; exact w64 (by omega) (by omega)
  refine brd (fun h => ?_) (fun h => ?_)
  · refine call_rule H1 (fun M I _ h => insEnt G hc g n c (by omega) ls hl _ M I h) fun l w2 hφ H2 => ?_
    exact Exists.intro l (And.intro rfl (And.intro hφ H2))
  · rw [e] at h; omega
theorem sortEnt (G : Nat) (hc : ∀ a b : En, CB G [enV a, enV b] (.int .i64 (cmpE a b))) (g n c : Nat) (hn : n ≤ 12) (ls : List En) (hl : ls.length = n) (w : World) (M I : BS) (H : Hp ⟨w, M, I⟩ [row 71 5 (.slice (some ⟨g, 0, none⟩) n c) n (ensC ls)] [] w) :
    Ctr Tryz.prog 66 [.slice (some ⟨g, 0, none⟩) n c, .func (.func G) #[] #[]] w M I (fun _ : List En => .tuple #[]) (fun l => l.Perm ls ∧ srtE l) (fun l => [row 71 5 (.slice (some ⟨g, 0, none⟩) n c) n (ensC l)]) (fun _ => []) := by
  refine Exe.of_ev tok Tryz.call66 Tryz.func66 rfl rfl rfl ?_
  have e : IntKind.u64.wrap (n : Int) = n := wrap_id ⟨by simp [kLo], by simp only [kHi]; omega⟩
  refine call_rule H (fun M I _ h => (by rw [e]; exact len_ n (by omega) (by omega) _ M I h)) fun z w1 _ H1 => ?_
  refine call_rule H1 (fun M I _ h => pdqEnt G hc g n c hn z ls hl _ M I h) fun l w2 hφ H2 => ?_
  exact Exists.intro l (And.intro rfl (And.intro hφ H2))
theorem insEntNil (G : Nat) : CB 168 [.slice none 0 0, .int .i64 0, .int .i64 0, .func (.func G) #[] #[]] (.tuple #[]) := by
  intro w M I H
  refine Exe.of_ev tok Tryz.call168 Tryz.func168 rfl rfl rfl ?_
  refine loop_rule tok (σ := Unit) 9007199254737664 (fun s => [(8, .int .i64 1)]) (fun _ w' => Hp ⟨w, M, I⟩ [] [] w') (fun _ => 0) () rfl rfl ⟨rfl, trivial⟩ H ?_
  rintro ⟨⟩ j0 w1 H1
  exact Exists.intro () (And.intro rfl (And.intro trivial H1))
theorem pdqEntNil (G : Nat) (z : Int) : CB 120 [.slice none 0 0, .int .i64 0, .int .i64 0, .int .i64 z, .func (.func G) #[] #[]] (.tuple #[]) := by
  intro w M I H
  refine Exe.of_ev tok Tryz.call120 Tryz.func120 rfl rfl rfl ?_
  refine loop_rule tok (σ := Unit) 356811923176489970264571492362373784095685646 (fun _ => [(1, .int .i64 0), (2, .int .i64 0)]) (fun _ w' => Hp ⟨w, M, I⟩ [] [] w') (fun _ => 0) () rfl rfl ⟨rfl, rfl, trivial⟩ H ?_
  rintro ⟨⟩ j w1 H1
  refine call_rule H1 (fun M I _ h => insEntNil G _ M I h) fun l w2 hφ H2 => ?_
  exact Exists.intro () (And.intro rfl (And.intro trivial H2))
theorem sortEntNil (G : Nat) : CB 66 [.slice none 0 0, .func (.func G) #[] #[]] (.tuple #[]) := by
  intro w M I H
  refine Exe.of_ev tok Tryz.call66 Tryz.func66 rfl rfl rfl ?_
  refine call_rule H (fun M I _ h => len_ 0 (by omega) (by omega) _ M I h) fun z w1 _ H1 => ?_
  refine call_rule H1 (fun M I _ h => pdqEntNil G z _ M I h) fun l w2 hφ H2 => ?_
  exact Exists.intro () (And.intro rfl (And.intro trivial H2))
end Go.Proofs.YtjlfjjgjghdokaaGreatDoor
namespace Go.Proofs.YtjlfjjgjghdokaaGreatDoor
open Go Go.Proofs Go.Wk Go.Extern
/-- Nothing is owned. -/
def empA : Asn where
  at_ _ fp := ∀ b, ¬ fp b
  loc := fun h _ => h
  lt := fun h hb => absurd hb (h _)
theorem Hp.addEmp {w : World} {B : Base} {S : List Asn} {F : List Fact} (H : Hp B S F w) : Hp B (empA :: S) F w := by
  obtain ⟨h1, h2, h3, h4, h5, I, fp, hs, r⟩ := H
  exact ⟨h1, h2, h3, h4, h5, I, fp, ⟨fun _ => False, fp, fun b h => h, fun _ h => h.elim, fun _ h => h.elim, fun b => by simp, hs⟩, r⟩
/-- An error: none, a number, a fault that wraps a number. -/
inductive ErrF where
  | none
  | code (c : Int)
  | fault (p : Nat) (at_ c : Int)
@[reducible] def errFV : ErrF → Value
  | .none => .nilIface
  | .code c => .iface 100 (.int .i64 c)
  | .fault p _ _ => .iface 116 (.pointer (some ⟨p, 0, none⟩))
def errFA : ErrF → Asn
  | .fault p a c => blk p [.int .u64 a, .iface 100 (.int .i64 c)] 118
  | _ => empA
def codeOfF : ErrF → Int
  | .none => 0
  | .code c => c
  | .fault _ _ c => c
namespace X
theorem typeOfF (v : Value) (w : World) : (ReflectliteType.typeOf #[.iface 116 v]).run Tryz.prog w = .ok (.iface 293 (.agg #[hdl 116])) w := by kernel_rfl
theorem assignFE (w : World) : (ReflectliteType.relation "AssignableTo" ReflectliteType.assignableTo #[.agg #[hdl 116], .iface 293 (.agg #[hdl 100])]).run Tryz.prog w = .ok (.bool false) w := by kernel_rfl
theorem noAs (v : Value) (xT : TypeId) (w : World) : (Instr.typeAssert (.iface 116 v) xT 317 true).run Tryz.prog w = .ok (.tuple #[.nilIface, .bool false]) w :=
  Go.run_typeAssert_lacksB Tryz.underlying317 (by kernel_rfl) (by kernel_rfl) v xT w
theorem hasUnwrap (v : Value) (xT : TypeId) (w : World) : (Instr.typeAssert (.iface 116 v) xT 298 true).run Tryz.prog w = .ok (.tuple #[.iface 116 v, .bool true]) w :=
  Go.run_typeAssert_hasB Tryz.underlying298 (by kernel_rfl) v xT w
theorem mUnwrap (a : Addr) (w : World) : (Go.method (Tryz.prog.types.size + Made.depth) 116 (.pointer (some a)) "Unwrap").run Tryz.prog w = .ok (306, .pointer (some a)) w := by kernel_rfl
end X
theorem unwrapF (p : Nat) (a c : Int) (w : World) (M I : BS) (H : Hp ⟨w, M, I⟩ [blk p [.int .u64 a, .iface 100 (.int .i64 c)] 118] [] w) :
    Ctr Tryz.prog 306 [.pointer (some ⟨p, 0, none⟩)] w M I (fun _ : Unit => .iface 100 (.int .i64 c)) (fun _ => True) (fun _ => [blk p [.int .u64 a, .iface 100 (.int .i64 c)] 118]) (fun _ => []) := by
  refine Exe.of_ev tok Tryz.call306 Tryz.func306 rfl rfl rfl ?_
  refine load_rule tok H (v := .iface 100 (.int .i64 c)) rfl ?_
  exact Exists.intro () (And.intro rfl (And.intro trivial H))
set_option maxRecDepth 20000 in
set_option maxHeartbeats 1000000 in
theorem asInF (t v p : Nat) (a c : Int) (w : World) (M I : BS) (H : Hp ⟨w, M, I⟩ [blk t [.int .i64 0] 100, blk v [.pointer (some ⟨t, 0, none⟩)] 173, blk p [.int .u64 a, .iface 100 (.int .i64 c)] 118] [] w) :
    Ctr Tryz.prog 132 [.iface 116 (.pointer (some ⟨p, 0, none⟩)), .iface 173 (.pointer (some ⟨t, 0, none⟩)), .agg #[hdl 173, .pointer (some ⟨v, 0, none⟩), .int .u64 150], .iface 293 (.agg #[hdl 100])] w M I (fun _ : Unit => .bool true) (fun _ => True) (fun _ => [blk t [.int .i64 c] 100, blk p [.int .u64 a, .iface 100 (.int .i64 c)] 118]) (fun _ => []) := by
  refine Exe.of_ev tok Tryz.call132 Tryz.func132 rfl rfl rfl ?_
  refine box_as H [hdl 173, .pointer (some ⟨v, 0, none⟩), .int .u64 150] rfl fun x w1 H1 => ?_
  have H1 : Hp ⟨w, M, I⟩ [blk x [hdl 173, .pointer (some ⟨v, 0, none⟩), .int .u64 150] 240, blk t [.int .i64 0] 100, blk v [.pointer (some ⟨t, 0, none⟩)] 173, blk p [.int .u64 a, .iface 100 (.int .i64 c)] 118] [] w1 := H1
  refine loop_rule tok (σ := Bool) 4611686018427379457 (fun s => [(0, if s = true then .iface 100 (.int .i64 c) else .iface 116 (.pointer (some ⟨p, 0, none⟩)))]) (fun _ w' => Hp ⟨w, M, I⟩ [blk x [hdl 173, .pointer (some ⟨v, 0, none⟩), .int .u64 150] 240, blk t [.int .i64 0] 100, blk v [.pointer (some ⟨t, 0, none⟩)] 173, blk p [.int .u64 a, .iface 100 (.int .i64 c)] 118] [] w') (fun s => if s = true then 0 else 1) false rfl rfl ⟨rfl, trivial⟩ H1 ?_
  intro s
  cases s with
  | true =>
    intro j w2 H2
    refine CallK_ext Tryz.func117 (by kernel_rfl) (by kernel_rfl) (by kernel_rfl) (by kernel_rfl) (X.typeOfE (.int .i64 c) w2) ?_
    refine InvokeK_ext (X.mAssign (hdl 100) w2) Tryz.func313 (by kernel_rfl) (by kernel_rfl) (by kernel_rfl) (by kernel_rfl) (X.assignE w2) ?_
    refine load_rule tok H2 (v := .agg #[hdl 173, .pointer (some ⟨v, 0, none⟩), .int .u64 150]) rfl ?_
    have hv : w2.cell? ⟨v, 0, none⟩ = some (.pointer (some ⟨t, 0, none⟩)) := by
      obtain ⟨fa, ha⟩ := H2.own (A := blk v [.pointer (some ⟨t, 0, none⟩)] 173) (hp := ⟨TakeB.perm⟩)
      exact blk_cells ha 0 _ rfl
    refine CallK_ext Tryz.func182 (by kernel_rfl) (by kernel_rfl) (by kernel_rfl) (by kernel_rfl) (X.elemVP ⟨v, 0, none⟩ ⟨t, 0, none⟩ w2 hv) ?_
    refine CallK_ext (e := fun args => ReflectliteValue.unpack (args.getD 0 (.tuple #[]))) Tryz.func129 (by kernel_rfl) (by kernel_rfl) (by kernel_rfl) (by kernel_rfl) (X.valueOfE c w2) ?_
    have H3 : Hp ⟨w, M, I⟩ [blkO w2.heap.size (.cells #[.int .i64 c] 100), blk x [hdl 173, .pointer (some ⟨v, 0, none⟩), .int .u64 150] 240, blk t [.int .i64 0] 100, blk v [.pointer (some ⟨t, 0, none⟩)] 173, blk p [.int .u64 a, .iface 100 (.int .i64 c)] 118] [] (w2.alloc (.cells #[.int .i64 c] 100)) := H2.alloc _
    have hn : (w2.alloc (.cells #[.int .i64 c] 100)).cell? ⟨w2.heap.size, 0, none⟩ = some (.int .i64 c) := by simp
    obtain ⟨ft, ht⟩ := H3.own (A := blk t [.int .i64 0] 100) (hp := ⟨TakeB.perm⟩)
    refine CallK_ext Tryz.func183 (by kernel_rfl) (by kernel_rfl) (by kernel_rfl) (by kernel_rfl) (X.setE t w2.heap.size c _ (.int .i64 0) hn ht.2) ?_
    have H4 := Hp.setBlk H3 (S' := [blkO w2.heap.size (.cells #[.int .i64 c] 100), blk x [hdl 173, .pointer (some ⟨v, 0, none⟩), .int .u64 150] 240, blk v [.pointer (some ⟨t, 0, none⟩)] 173, blk p [.int .u64 a, .iface 100 (.int .i64 c)] 118]) (n := t) (o := .cells #[.int .i64 0] 100 (0, 0)) (o' := .cells #[.int .i64 c] 100 (0, 0))
    refine Exists.intro () (And.intro rfl (And.intro trivial ?_))
    exact Hp.keep H4
  | false =>
    intro j w2 H2
    refine CallK_ext Tryz.func117 (by kernel_rfl) (by kernel_rfl) (by kernel_rfl) (by kernel_rfl) (X.typeOfF (.pointer (some ⟨p, 0, none⟩)) w2) ?_
    refine InvokeK_ext (X.mAssign (hdl 116) w2) Tryz.func313 (by kernel_rfl) (by kernel_rfl) (by kernel_rfl) (by kernel_rfl) (X.assignFE w2) ?_
    refine AssertK.run (X.noAs _ _ _) ?_
    refine AssertK.run (X.hasUnwrap _ _ _) ?_
    refine invoke_rule H2 (X.mUnwrap ⟨p, 0, none⟩ w2) (fun M I _ h => unwrapF p a c _ M I h) fun _ w3 _ H3 => ?_
    refine Exists.intro true (And.intro ⟨rfl, trivial⟩ (And.intro (by decide) (Hp.keep H3)))
set_option maxHeartbeats 1000000 in
theorem asEF (t p : Nat) (a c : Int) (w : World) (M I : BS) (H : Hp ⟨w, M, I⟩ [blk t [.int .i64 0] 100, blk p [.int .u64 a, .iface 100 (.int .i64 c)] 118] [Glob 0 errTy] w) :
    Ctr Tryz.prog 74 [.iface 116 (.pointer (some ⟨p, 0, none⟩)), .iface 173 (.pointer (some ⟨t, 0, none⟩))] w M I (fun _ : Unit => .bool true) (fun _ => True) (fun _ => [blk t [.int .i64 c] 100, blk p [.int .u64 a, .iface 100 (.int .i64 c)] 118]) (fun _ => []) := by
  refine Exe.of_ev tok Tryz.call74 Tryz.func74 rfl rfl rfl ?_
  refine CallK_ext (e := fun args => ReflectliteValue.unpack (args.getD 0 (.tuple #[]))) Tryz.func129 (by kernel_rfl) (by kernel_rfl) (by kernel_rfl) (by kernel_rfl) (X.valueOfP ⟨t, 0, none⟩ w) ?_
  have H0 : Hp ⟨w, M, I⟩ [blkO w.heap.size (.cells #[.pointer (some ⟨t, 0, none⟩)] 173), blk t [.int .i64 0] 100, blk p [.int .u64 a, .iface 100 (.int .i64 c)] 118] [Glob 0 errTy] (w.alloc (.cells #[.pointer (some ⟨t, 0, none⟩)] 173)) := H.alloc _
  have H1 : Hp ⟨w, M, I⟩ [blk w.heap.size [.pointer (some ⟨t, 0, none⟩)] 173, blk t [.int .i64 0] 100, blk p [.int .u64 a, .iface 100 (.int .i64 c)] 118] [Glob 0 errTy] (w.alloc (.cells #[.pointer (some ⟨t, 0, none⟩)] 173)) := H0
  refine alloc_as tok H1 [.pointer none, .pointer none, .int .u64 0] rfl rfl rfl fun x w2 H2 => ?_
  refine store_as tok H2 [hdl 173, .pointer (some ⟨w.heap.size, 0, none⟩), .int .u64 150] rfl rfl rfl rfl rfl fun w3 H3 => ?_
  refine load_rule tok H3 (v := .agg #[hdl 173, .pointer (some ⟨w.heap.size, 0, none⟩), .int .u64 150]) rfl ?_
  refine CallK_ext Tryz.func130 (by kernel_rfl) (by kernel_rfl) (by kernel_rfl) (by kernel_rfl) (X.typeP ⟨w.heap.size, 0, none⟩ w3) ?_
  refine InvokeK_ext (X.mKind (hdl 173) w3) Tryz.func301 (by kernel_rfl) (by kernel_rfl) (by kernel_rfl) (by kernel_rfl) (X.kindP w3) ?_
  refine load_rule tok H3 (v := .agg #[hdl 173, .pointer (some ⟨w.heap.size, 0, none⟩), .int .u64 150]) rfl ?_
  have hv : w3.cell? ⟨w.heap.size, 0, none⟩ = some (.pointer (some ⟨t, 0, none⟩)) := by
    obtain ⟨fa, ha⟩ := H3.own (A := blk w.heap.size [.pointer (some ⟨t, 0, none⟩)] 173) (hp := ⟨TakeB.perm⟩)
    exact blk_cells ha 0 _ rfl
  refine CallK_ext Tryz.func131 (by kernel_rfl) (by kernel_rfl) (by kernel_rfl) (by kernel_rfl) (X.isNilP ⟨w.heap.size, 0, none⟩ ⟨t, 0, none⟩ w3 hv) ?_
  refine InvokeK_ext (X.mElem (hdl 173) w3) Tryz.func315 (by kernel_rfl) (by kernel_rfl) (by kernel_rfl) (by kernel_rfl) (X.elemP w3) ?_
  refine InvokeK_ext (X.mKind (hdl 100) w3) Tryz.func301 (by kernel_rfl) (by kernel_rfl) (by kernel_rfl) (by kernel_rfl) (X.kindE w3) ?_
  refine glob_rule tok H3 (g := 0) errTy rfl rfl ?_
  refine InvokeK_ext (X.mImpl (hdl 100) w3) Tryz.func316 (by kernel_rfl) (by kernel_rfl) (by kernel_rfl) (by kernel_rfl) (X.implE w3) ?_
  refine load_rule tok H3 (v := .agg #[hdl 173, .pointer (some ⟨w.heap.size, 0, none⟩), .int .u64 150]) rfl ?_
  refine call_rule H3 (fun M I _ h => asInF t w.heap.size p a c _ M I h) fun _ w4 _ H4 => ?_
  exact Exists.intro () (And.intro rfl (And.intro trivial (Hp.keep H4)))
theorem codeF (e : ErrF) (w : World) (M I : BS) (H : Hp ⟨w, M, I⟩ [errFA e] [Glob 0 errTy] w) :
    Ctr Tryz.prog 36 [errFV e] w M I (fun _ : Unit => .int .i64 (codeOfF e)) (fun _ => True) (fun _ => [errFA e]) (fun _ => []) := by
  cases e with
  | none =>
    refine Exe.of_ev tok Tryz.call36 Tryz.func36 rfl rfl rfl ?_
    exact Exists.intro () (And.intro rfl (And.intro trivial (Hp.keep H)))
  | code c =>
    refine Exe.of_ev tok Tryz.call36 Tryz.func36 rfl rfl rfl ?_
    refine alloc_as tok H [.int .i64 0] rfl rfl rfl fun t w1 H1 => ?_
    refine call_rule H1 (fun M I _ h => asE t c _ M I h) fun _ w2 _ H2 => ?_
    refine load_rule tok H2 (v := .int .i64 c) rfl ?_
    exact Exists.intro () (And.intro rfl (And.intro trivial (Hp.keep H2)))
  | fault p a c =>
    have H : Hp ⟨w, M, I⟩ [blk p [.int .u64 a, .iface 100 (.int .i64 c)] 118] [Glob 0 errTy] w := H
    refine Exe.of_ev tok Tryz.call36 Tryz.func36 rfl rfl rfl ?_
    refine alloc_as tok H [.int .i64 0] rfl rfl rfl fun t w1 H1 => ?_
    refine call_rule H1 (fun M I _ h => asEF t p a c _ M I h) fun _ w2 _ H2 => ?_
    refine load_rule tok H2 (v := .int .i64 c) rfl ?_
    have H3 : Hp ⟨w, M, I⟩ [blk p [.int .u64 a, .iface 100 (.int .i64 c)] 118] [] w2 := Hp.keep H2
    exact Exists.intro () (And.intro rfl (And.intro trivial H3))
end Go.Proofs.YtjlfjjgjghdokaaGreatDoor
namespace Go.Proofs.YtjlfjjgjghdokaaGreatDoor
open Go Go.Proofs Go.Wk
structure Pr where
  loan : Int
  acct : Int
  ctl : Bool
deriving DecidableEq
@[reducible] def prV (p : Pr) : Value := .agg #[.int .u32 p.loan, .int .u8 p.acct, .bool p.ctl]
@[reducible] def iV (n : Int) : Value := .int .i64 n
def eqP (a b : Pr) : Bool := a.loan == b.loan && (a.acct == b.acct && (a.ctl == b.ctl && true))
theorem eqP_iff {a b : Pr} : eqP a b = true ↔ a = b := by
  obtain ⟨x1, x2, x3⟩ := a
  obtain ⟨y1, y2, y3⟩ := b
  simp [eqP]
theorem same_key (k : Key) : Instr.sameBits 10000 (keyV k) (keyV k) = true := by
  show Instr.sameBits (9999 + 1) _ _ = true
  generalize 9999 = d
  simp [Instr.sameBits]
theorem same_pr (p : Pr) : Instr.sameBits 10000 (prV p) (prV p) = true := by
  show Instr.sameBits (9999 + 1) _ _ = true
  generalize 9999 = d
  simp [Instr.sameBits]
theorem keyKeys : Keys Tryz.prog 68 keyV :=
  struct_keys tok (fun k : Key => #[.int .u32 k.loan, .int .i32 k.day, .int .u8 k.kind, .int .u32 k.seq]) (fun _ => rfl) rfl Tryz.stoodInHeld68 (fun a b => ⟨eqK a b, rfl, eqK_iff⟩) same_key
theorem prKeys : Keys Tryz.prog 289 prV :=
  struct_keys tok (fun p : Pr => #[.int .u32 p.loan, .int .u8 p.acct, .bool p.ctl]) (fun _ => rfl) rfl Tryz.stoodInHeld289 (fun a b => ⟨eqP a b, rfl, eqP_iff⟩) same_pr
/-- A line: its entry, of which it is the reversal. -/
structure Ln where
  k : Key
  s : SV
  of : Int
  ls : List Leg
@[reducible] def lnC (x : Ln) : List Value := [.int .u32 x.k.loan, .int .i32 x.k.day, .int .u8 x.k.kind, .int .u32 x.k.seq, .slice x.s.A x.s.n x.s.c, .int .i64 x.of]
def lnsC : List Ln → List Value
  | [] => []
  | x :: r => lnC x ++ lnsC r
theorem lnsC_len : ∀ xs : List Ln, (lnsC xs).length = xs.length * 6
  | [] => rfl
  | x :: r => by simp only [lnsC, List.length_append, List.length_cons, List.length_nil, lnsC_len r]; omega
theorem lnsC_app : ∀ a b : List Ln, lnsC (a ++ b) = lnsC a ++ lnsC b
  | [], _ => rfl
  | x :: a, b => by simp [lnsC, lnsC_app a b]
/-- What the lines' legs read asx. -/
def LnF (xs : List Ln) : Fact where
  holds w I := ∀ x, x ∈ xs → (Sl legR (.slice x.s.A x.s.n x.s.c) x.ls).holds w I
  mono := fun h hI hw x hx => (Sl legR _ _).mono (h x hx) hI hw
structure Led where
  lns : List Ln
  live : List (Key × Int)
  sums : List (Pr × Int)
@[reducible] def ledA (l m1 m2 : Nat) (s : SV) (d : Led) : List Asn := [blk l [.slice s.A s.n s.c, .map (some m1), .map (some m2)] 146, row 158 6 (.slice s.A s.n s.c) s.n (lnsC d.lns), mapO m1 keyV iV d.live, mapO m2 prV iV d.sums]
theorem new_ (w : World) (M I : BS) (H : Hp ⟨w, M, I⟩ [] [] w) :
    Ctr Tryz.prog 29 [] w M I (fun a : Nat × Nat × Nat => .pointer (some ⟨a.1, 0, none⟩)) (fun _ => True) (fun a => ledA a.1 a.2.1 a.2.2 ⟨none, 0, 0⟩ ⟨[], [], []⟩) (fun _ => []) := by
  refine Exe.of_ev tok Tryz.call29 Tryz.func29 rfl rfl rfl ?_
  refine makeMap_rule H keyV iV fun m1 w1 H1 => ?_
  refine makeMap_rule H1 prV iV fun m2 w2 H2 => ?_
  refine box_as H2 [.slice none 0 0, .map (some m1), .map (some m2)] rfl fun l w3 H3 => ?_
  have H4 : Hp ⟨w, M, I⟩ [row 158 6 (.slice none 0 0) 0 [], blk l [.slice none 0 0, .map (some m1), .map (some m2)] 146, mapO m2 prV iV [], mapO m1 keyV iV []] [] w3 := Hp.nil H3 158 6
  have H5 : Hp ⟨w, M, I⟩ [blk l [.slice none 0 0, .map (some m1), .map (some m2)] 146, row 158 6 (.slice none 0 0) 0 [], mapO m1 keyV iV [], mapO m2 prV iV []] [] w3 := H4.keep
  exact Exists.intro (l, m1, m2) (And.intro rfl (And.intro trivial H5))
theorem cloneLegs (A : Option Addr) (n c : Nat) (ls : List Leg) (hn : ls.length ≤ 1000000) (w : World) (M I : BS) (hM : ∀ b, ¬ M b) (H : Hp ⟨w, M, I⟩ [] [Sl legR (.slice A n c) ls] w) :
    Ctr Tryz.prog 119 [.slice A n c] w M I (fun a : SV => .slice a.A a.n a.c) (fun _ => True) (fun _ => []) (fun a => [Sl legR (.slice a.A a.n a.c) ls]) := by
  obtain ⟨hl, _, _⟩ := H.sll (A := A) (n := n) (c := c)
  cases A with
  | none =>
    have h0 : n = 0 ∧ c = 0 := by
      obtain ⟨I', _, _, ha, _⟩ := H.ex
      obtain ⟨A', c', e1, _, q2, q3, _⟩ := ha _ List.mem_cons_self
      injection e1 with e1 e2 e3
      have := q3 e1.symm
      omega
    obtain ⟨rfl, rfl⟩ := h0
    refine Exe.of_ev tok Tryz.call119 Tryz.func119 rfl rfl rfl ?_
    exact Exists.intro ⟨none, 0, 0⟩ (And.intro rfl (And.intro trivial (Hp.keep H)))
  | some ad =>
    refine Exe.of_ev tok Tryz.call119 Tryz.func119 rfl rfl rfl ?_
    refine slice_as tok H [] rfl rfl rfl rfl rfl rfl fun g w1 H1 => ?_
    have H2 : Hp ⟨w, M, I⟩ [row 135 2 (.slice (some ⟨g, 0, none⟩) 0 0) 0 []] [Sl legR (.slice (some ad) n c) ls] w1 := H1.toRow 2 0 rfl (by decide)
    refine append_sl (v := .slice (some ⟨g, 0, none⟩) 0 0) (A := some ad) (m := n) (c := c) tok H2 rfl rfl rfl rfl rfl rfl rfl (fun x _ _ => legs_one x) (by show (0 + n) * 16 ≤ _; omega) (by omega) fun A2 c2 news w4 H4 => ?_
    have H4' : Hp ⟨w, M, I⟩ [row 135 2 (.slice A2 (0 + n) c2) (0 + n) news] [Cl legR news ls, Sl legR (.slice (some ad) n c) ls] w4 := H4
    have H5 := H4'.frzRow (v := .slice A2 (0 + n) c2) (xs := ls) legR hM rfl (by decide)
    exact Exists.intro ⟨A2, 0 + n, c2⟩ (And.intro rfl (And.intro trivial (Hp.keep H5)))
theorem lk_put_eq {κ ν : Type} [DecidableEq κ] {k : κ} {v : ν} : ∀ {l : List (κ × ν)}, lk k (putL k v l) = some v
  | [] => by simp [putL, lk]
  | q :: l => by
    unfold putL
    split
    · simp [lk]
    · rename_i h
      unfold lk
      rw [if_neg h]; exact lk_put_eq
theorem lk_put_ne {κ ν : Type} [DecidableEq κ] {k p : κ} {v : ν} (hp : p ≠ k) : ∀ {l : List (κ × ν)}, lk p (putL k v l) = lk p l
  | [] => by simp [putL, lk, Ne.symm hp]
  | q :: l => by
    unfold putL
    split
    · rename_i h
      simp only [lk]
      rw [if_neg (by simpa using Ne.symm hp), if_neg (by rw [h]; exact Ne.symm hp)]
    · simp only [lk]
      split
      · rfl
      · exact lk_put_ne hp
theorem lk_nokey {κ ν : Type} [DecidableEq κ] {p : κ} : ∀ {l : List (κ × ν)}, p ∉ l.map (·.1) → lk p l = none
  | [], _ => rfl
  | q :: l, h => by
    simp only [List.map_cons, List.mem_cons, not_or] at h
    unfold lk
    rw [if_neg (Ne.symm h.1)]
    exact lk_nokey h.2
theorem lk_of_mem {κ ν : Type} [DecidableEq κ] {k : κ} {v : ν} : ∀ {l : List (κ × ν)}, (l.map (·.1)).Nodup → (k, v) ∈ l → lk k l = some v
  | [], _, h => by cases h
  | q :: l, hn, h => by
    simp only [List.map_cons, List.nodup_cons] at hn
    unfold lk
    rcases List.mem_cons.1 h with rfl | h
    · rw [if_pos rfl]
    · rw [if_neg (fun e => hn.1 (by rw [e]; exact List.mem_map_of_mem h)), lk_of_mem hn.2 h]
/-- maps.Copy: whatever the order, what one finds then. -/
theorem copyMap (m2 m3 : Nat) (dst src : List (Pr × Int)) (hnd : (src.map (·.1)).Nodup) (w : World) (M I : BS) (H : Hp ⟨w, M, I⟩ [mapO m2 prV iV dst, mapO m3 prV iV src] [] w) :
    Ctr Tryz.prog 167 [.map (some m2), .map (some m3)] w M I (fun _ : List (Pr × Int) => .tuple #[]) (fun d => ∀ p, lk p d = (lk p src).or (lk p dst)) (fun d => [mapO m2 prV iV d]) (fun _ => []) := by
  refine Exe.of_ev tok Tryz.call167 Tryz.func167 rfl rfl rfl ?_
  refine range_rule (n := m3) tok H rfl fun it w1 H1 => ?_
  have H1 : Hp ⟨w, M, I⟩ [rngO m3 it prV iV src src none, mapO m2 prV iV dst] [] w1 := Hp.keep H1
  refine loop_rule tok (σ := List (Pr × Int) × Option (Pr × Int) × List (Pr × Int)) 65328 (fun _ => [])
    (fun s w' => (∀ q, q ∈ s.1 → q ∈ src) ∧ (s.1.map (·.1)).Nodup ∧ (∀ p, lk p s.2.2 = if p ∈ s.1.map (·.1) then lk p dst else (lk p src).or (lk p dst)) ∧ Hp ⟨w, M, I⟩ [rngO m3 it prV iV src s.1 s.2.1, mapO m2 prV iV s.2.2] [] w') (fun s => s.1.length) (src, none, dst) rfl rfl trivial
    ⟨fun q h => h, hnd, fun p => ?_, H1⟩ ?_
  · simp only
    split
    · rfl
    · rename_i h
      rw [lk_nokey h]; rfl
  rintro ⟨lf, cur, d⟩ j w2 ⟨h1, h2, h3, H2⟩
  simp only at h1 h2 h3 H2
  refine next_rule (n := m3) H2 (fun hl => ?_) fun a p b w3 hl H3 => ?_
  · subst hl
    have hd : ∀ p, lk p d = (lk p src).or (lk p dst) := fun p => by rw [h3 p]; simp
    have H4 : Hp ⟨w, M, I⟩ [mapO m2 prV iV d] [] w2 := Hp.keep H2
    exact Exists.intro d (And.intro rfl (And.intro hd H4))
  · subst hl
    refine entry_rule (n := m3) H3 ?_
    refine alloc_as tok H3 [.int .u32 0, .int .u8 0, .bool false] rfl rfl rfl fun t w4 H4 => ?_
    refine store_as tok H4 [.int .u32 p.1.loan, .int .u8 p.1.acct, .bool p.1.ctl] rfl rfl rfl rfl rfl fun w5 H5 => ?_
    refine load_rule tok H5 (v := prV p.1) rfl ?_
    refine mapUpd_rule (n := m2) (k := p.1) (v := p.2) tok H5 rfl prKeys rfl rfl fun w6 H6 => ?_
    have hnp : p.1 ∉ (a ++ b).map (·.1) := by
      have h := h2
      rw [List.map_append, List.map_cons] at h
      have h := (List.perm_middle.nodup_iff.1 h)
      rw [List.nodup_cons] at h
      rw [List.map_append]; exact h.1
    refine Exists.intro (a ++ b, some p, putL p.1 p.2 d) (And.intro trivial (And.intro ?_ ⟨?_, ?_, ?_, Hp.keep H6⟩))
    · simp only [List.length_append, List.length_cons]; omega
    · intro q hq
      refine h1 q ?_
      rcases List.mem_append.1 hq with hq | hq
      · exact List.mem_append_left _ hq
      · exact List.mem_append_right _ (List.mem_cons_of_mem _ hq)
    · have h := h2
      rw [List.map_append, List.map_cons] at h
      have h := (List.perm_middle.nodup_iff.1 h)
      rw [List.nodup_cons] at h
      rw [List.map_append]; exact h.2
    · intro q
      simp only
      by_cases hq : q = p.1
      · subst hq
        rw [lk_put_eq, if_neg hnp, lk_of_mem (v := p.2) hnd (h1 p (by simp))]; rfl
      · rw [lk_put_ne hq, h3 q]
        have hm : (q ∈ (a ++ p :: b).map (·.1)) ↔ q ∈ (a ++ b).map (·.1) := by
          simp only [List.map_append, List.map_cons, List.mem_append, List.mem_cons]
          constructor
          · rintro (h | h | h)
            · exact .inl h
            · exact absurd h hq
            · exact .inr h
          · rintro (h | h)
            · exact .inl h
            · exact .inr (.inr h)
        simp only [hm]
end Go.Proofs.YtjlfjjgjghdokaaGreatDoor
