/- All is accounted for: the plain law: sums by account, keys. -/
import Derived.Test.YtjlfjjgjghdokaaGreatDoorE15
set_option linter.unusedVariables false
namespace Go.Proofs.YtjlfjjgjghdokaaGreatDoor
open Go Go.Proofs Go.Wk
theorem lk_not {k : Int} : ∀ {m : List (Int × Int)}, k ∉ m.map Prod.fst → lk k m = none
  | [], _ => rfl
  | p :: m, h => by
    rw [List.map_cons, List.mem_cons, not_or] at h
    rw [lk, if_neg (fun e => h.1 e.symm)]
    exact lk_not h.2
theorem putL_not {k v : Int} : ∀ {m : List (Int × Int)}, k ∉ m.map Prod.fst → putL k v m = m ++ [(k, v)]
  | [], _ => rfl
  | p :: m, h => by
    rw [List.map_cons, List.mem_cons, not_or] at h
    rw [putL, if_neg (fun e => h.1 e.symm), putL_not h.2]
    rfl
theorem sumGo_dist : ∀ (ls : List Leg) (m : List (Int × Int)), (∀ x, x ∈ ls → inK .i64 x.amt) → (ls.map Leg.acct).Nodup → (∀ x, x ∈ ls → x.acct ∉ m.map Prod.fst) → sumGo ls m = some (m ++ ls.map fun l => (l.acct, l.amt))
  | [], m, _, _, _ => by simp [sumGo]
  | l :: r, m, h1, h2, h3 => by
    rw [List.map_cons, List.nodup_cons] at h2
    have hl := h3 l List.mem_cons_self
    have ha := h1 l List.mem_cons_self
    have e : in64 (0 + l.amt) = true := by
      have h4 : -9223372036854775808 ≤ l.amt ∧ l.amt ≤ 9223372036854775807 := ha
      rw [Int.zero_add]
      simp only [in64, Bool.and_eq_true, decide_eq_true_eq]
      exact h4
    rw [sumGo, lk_not hl, putL_not hl]
    show (if in64 (0 + l.amt) = true then sumGo r (m ++ [(l.acct, 0 + l.amt)]) else none) = _
    rw [if_pos e, Int.zero_add, sumGo_dist r _ (fun x hx => h1 x (List.mem_cons_of_mem _ hx)) h2.2 (fun x hx hm => by
      rw [List.map_append, List.mem_append] at hm
      rcases hm with hm | hm
      · exact h3 x (List.mem_cons_of_mem _ hx) hm
      · simp only [List.map_cons, List.map_nil, List.mem_singleton] at hm
        exact h2.1 (hm ▸ List.mem_map_of_mem hx))]
    simp
theorem made_dist {ls out : List Leg} (hin : ∀ x, x ∈ ls → inK .u8 x.acct ∧ inK .i64 x.amt) (hnd : (ls.map Leg.acct).Nodup) (hp : out.Perm ls) (hs : srt out) : refMade ls = out := by
  refine (made_ref (fun x hx => (hin x hx).1) ?_).symm
  have e := sumGo_dist ls [] (fun x hx => (hin x hx).2) hnd (fun x _ h => by cases h)
  unfold made
  rw [e]
  refine ⟨?_, hs⟩
  have e2 : (([] ++ ls.map fun l => (l.acct, l.amt)) : List (Int × Int)).map pairL = ls := by
    rw [List.nil_append, List.map_map]
    exact List.map_id ls
  rw [e2]
  exact hp
/-- An amount that isn't great. -/
def sml (n : Int) : Prop := -100000000000000000 ≤ n ∧ n ≤ 100000000000000000
theorem sml_in {a n : Int} (h0 : 0 ≤ a ∧ a ≤ 9) (h : sml n) : inK .u8 (Leg.mk a n).acct ∧ inK .i64 (Leg.mk a n).amt := okLeg h0 (by have := h.1; omega) (by have := h.2; omega)
theorem sml_neg {n : Int} (h : sml n) : sml (-n) := by unfold sml at h ⊢; omega
theorem mk_up {a b n m : Int} (ha : 0 ≤ a) (hab : a < b) (hb : b ≤ 9) (hn : sml n) (hm : sml m) : refMade [⟨a, n⟩, ⟨b, m⟩] = [⟨a, n⟩, ⟨b, m⟩] := by
  refine made_dist ?_ ?_ (List.Perm.refl _) ?_
  · intro x hx
    simp only [List.mem_cons, List.not_mem_nil, or_false] at hx
    rcases hx with rfl | rfl
    · exact sml_in (by omega) hn
    · exact sml_in (by omega) hm
  · simp only [List.map_cons, List.map_nil, List.nodup_cons, List.mem_cons, List.not_mem_nil, or_false, not_false_iff, List.nodup_nil, and_true]
    omega
  · unfold srt
    simp only [List.pairwise_cons, List.mem_cons, List.not_mem_nil, or_false, forall_eq, List.Pairwise.nil, and_true, false_implies, implies_true]
    omega
theorem mk_dn {a b n m : Int} (ha : 0 ≤ a) (hab : a < b) (hb : b ≤ 9) (hn : sml n) (hm : sml m) : refMade [⟨b, m⟩, ⟨a, n⟩] = [⟨a, n⟩, ⟨b, m⟩] := by
  refine made_dist ?_ ?_ (List.reverse_perm [(⟨b, m⟩ : Leg), ⟨a, n⟩]) ?_
  · intro x hx
    simp only [List.mem_cons, List.not_mem_nil, or_false] at hx
    rcases hx with rfl | rfl
    · exact sml_in (by omega) hm
    · exact sml_in (by omega) hn
  · simp only [List.map_cons, List.map_nil, List.nodup_cons, List.mem_cons, List.not_mem_nil, or_false, not_false_iff, List.nodup_nil, and_true]
    omega
  · unfold srt
    simp only [List.pairwise_cons, List.mem_cons, List.not_mem_nil, or_false, forall_eq, List.Pairwise.nil, and_true, false_implies, implies_true]
    omega
theorem mk_pay {f i p n l : Int} (hf : sml f) (hi : sml i) (hp : sml p) (hn : sml n) (hl : sml l) : refMade (ptL f i p ++ [⟨1, n⟩, ⟨5, -l⟩]) = [⟨1, n⟩, ⟨2, -p⟩, ⟨3, -i⟩, ⟨4, -f⟩, ⟨5, -l⟩] := by
  refine made_dist ?_ ?_ (List.Perm.append_right [(⟨5, -l⟩ : Leg)] (List.reverse_perm [(⟨4, -f⟩ : Leg), ⟨3, -i⟩, ⟨2, -p⟩, ⟨1, n⟩])) ?_
  · intro x hx
    simp only [ptL, List.cons_append, List.nil_append, List.mem_cons, List.not_mem_nil, or_false] at hx
    rcases hx with rfl | rfl | rfl | rfl | rfl
    · exact sml_in (by decide) (sml_neg hf)
    · exact sml_in (by decide) (sml_neg hi)
    · exact sml_in (by decide) (sml_neg hp)
    · exact sml_in (by decide) hn
    · exact sml_in (by decide) (sml_neg hl)
  · show ([4, 3, 2, 1, 5] : List Int).Nodup
    decide
  · unfold srt
    simp
theorem mk_off {f i p n : Int} (hf : sml f) (hi : sml i) (hp : sml p) (hn : sml n) : refMade (ptL f i p ++ [⟨8, n⟩]) = [⟨2, -p⟩, ⟨3, -i⟩, ⟨4, -f⟩, ⟨8, n⟩] := by
  refine made_dist ?_ ?_ (List.Perm.append_right [(⟨8, n⟩ : Leg)] (List.reverse_perm [(⟨4, -f⟩ : Leg), ⟨3, -i⟩, ⟨2, -p⟩])) ?_
  · intro x hx
    simp only [ptL, List.cons_append, List.nil_append, List.mem_cons, List.not_mem_nil, or_false] at hx
    rcases hx with rfl | rfl | rfl | rfl
    · exact sml_in (by decide) (sml_neg hf)
    · exact sml_in (by decide) (sml_neg hi)
    · exact sml_in (by decide) (sml_neg hp)
    · exact sml_in (by decide) hn
  · show ([4, 3, 2, 8] : List Int).Nodup
    decide
  · unfold srt
    simp
/-! Entries that may be. -/
theorem rg {s last a n : Int} {r : List Leg} (h1 : -9000000000000000000 ≤ s + n ∧ s + n ≤ 9000000000000000000) (h2 : last < a) (h3 : noB (accName a) = false) : rightGo s last (⟨a, n⟩ :: r) = rightGo (s + n) a r := by
  have e : in64 (s + n) = true := by simp only [in64, Bool.and_eq_true, decide_eq_true_eq]; omega
  show (bif in64 (s + n) then (bif decide (a ≤ last) then false else bif noB (accName a) then false else rightGo (s + n) a r) else false) = _
  rw [e, decide_eq_false (by omega), h3]
  rfl
theorem rg0 {s last : Int} (h : s = 0) : rightGo s last [] = true := by subst h; rfl
theorem rightB_of {k : Key} {ls : List Leg} (hk : noB (kindName k.kind) = false) (hd : dayB k.day = true) (h0 : 1 ≤ ls.length) (h8 : ls.length ≤ 8) (hg : rightGo 0 0 ls = true) : rightB k ls = true := by
  unfold rightB
  rw [hk, hd, hg, show ((ls.length : Int) == 0) = false by rw [beq_eq_false_iff_ne]; omega, decide_eq_false (by omega)]
  rfl
structure EntOk (e : Key × List Leg) : Prop where
  right : rightB e.1 e.2 = true
  kind : inK .u8 e.1.kind
  pay : e.1.kind = 4 → ofV 1 e.2 + ofV 4 e.2 + ofV 3 e.2 + ofV 2 e.2 + ofV 5 e.2 + ofV 9 e.2 = 0
  amt : ∀ a, sml (ofV a e.2)
theorem acc_nm (a : Int) (h : 1 ≤ a ∧ a ≤ 9) : noB (accName a) = false := by
  have h : a = 1 ∨ a = 2 ∨ a = 3 ∨ a = 4 ∨ a = 5 ∨ a = 6 ∨ a = 7 ∨ a = 8 ∨ a = 9 := by omega
  rcases h with e | e | e | e | e | e | e | e | e <;> rw [e] <;> decide +kernel
theorem kind_nm (a : Int) (h : 1 ≤ a ∧ a ≤ 7) : noB (kindName a) = false := by
  have h : a = 1 ∨ a = 2 ∨ a = 3 ∨ a = 4 ∨ a = 5 ∨ a = 6 ∨ a = 7 := by omega
  rcases h with e | e | e | e | e | e | e <;> rw [e] <;> decide +kernel
theorem of_two {a b n m c : Int} (hn : sml n) (hm : sml m) : sml (ofV c [⟨a, n⟩, ⟨b, m⟩]) := by
  simp only [ofV]
  split
  · exact hn
  · split
    · exact hm
    · exact ⟨by decide, by decide⟩
theorem two_ok {k : Key} {a b n : Int} (hk : 1 ≤ k.kind ∧ k.kind ≤ 7) (hd : dayB k.day = true) (ha : 1 ≤ a) (hab : a < b) (hb : b ≤ 9) (hn : sml n) (h4 : k.kind = 4 → a = 1 ∧ b = 9) : EntOk (k, [⟨a, n⟩, ⟨b, -n⟩]) := by
  have hn1 := hn.1
  have hn2 := hn.2
  refine ⟨rightB_of (kind_nm _ hk) hd (by show 1 ≤ 2; decide) (by show 2 ≤ 8; decide) ?_, ?_, ?_, fun c => of_two hn (sml_neg hn)⟩
  · rw [rg (by omega) (by omega) (acc_nm a (by omega)), rg (by omega) hab (acc_nm b (by omega))]
    exact rg0 (by omega)
  · show (0 : Int) ≤ k.kind ∧ k.kind ≤ 255; omega
  · intro h
    obtain ⟨e1, e2⟩ := h4 h
    subst e1 e2
    simp [ofV]
    omega
theorem pay_ok {k : Key} {f i p n l : Int} (hk : k.kind = 4) (hd : dayB k.day = true) (hf : sml f) (hi : sml i) (hp : sml p) (hn : sml n) (hl : sml l) (hs : f + i + p + l = n) : EntOk (k, [⟨1, n⟩, ⟨2, -p⟩, ⟨3, -i⟩, ⟨4, -f⟩, ⟨5, -l⟩]) := by
  have hf' := hf; have hi' := hi; have hp' := hp; have hn' := hn; have hl' := hl
  unfold sml at hf' hi' hp' hn' hl'
  refine ⟨rightB_of (by show noB (kindName k.kind) = false; rw [hk]; exact kind_nm 4 (by decide)) hd (by show 1 ≤ 5; decide) (by show 5 ≤ 8; decide) ?_, ?_, ?_, ?_⟩
  · rw [rg (by omega) (by omega) (acc_nm 1 (by decide)), rg (by omega) (by decide) (acc_nm 2 (by decide)), rg (by omega) (by decide) (acc_nm 3 (by decide)), rg (by omega) (by decide) (acc_nm 4 (by decide)), rg (by omega) (by decide) (acc_nm 5 (by decide))]
    exact rg0 (by omega)
  · show (0 : Int) ≤ k.kind ∧ k.kind ≤ 255; omega
  · intro _
    simp [ofV]
    omega
  · intro c
    simp only [ofV]
    have h0 : sml 0 := ⟨by decide, by decide⟩
    repeat' split
    · exact hn
    · exact sml_neg hp
    · exact sml_neg hi
    · exact sml_neg hf
    · exact sml_neg hl
    · exact h0
theorem off_ok {k : Key} {f i p : Int} (hk : k.kind = 7) (hd : dayB k.day = true) (hf : sml f) (hi : sml i) (hp : sml p) (hn : sml (f + i + p)) : EntOk (k, [⟨2, -p⟩, ⟨3, -i⟩, ⟨4, -f⟩, ⟨8, f + i + p⟩]) := by
  have hf' := hf; have hi' := hi; have hp' := hp; have hn' := hn
  unfold sml at hf' hi' hp' hn'
  refine ⟨rightB_of (by show noB (kindName k.kind) = false; rw [hk]; exact kind_nm 7 (by decide)) hd (by show 1 ≤ 4; decide) (by show 4 ≤ 8; decide) ?_, ?_, ?_, ?_⟩
  · rw [rg (by omega) (by omega) (acc_nm 2 (by decide)), rg (by omega) (by decide) (acc_nm 3 (by decide)), rg (by omega) (by decide) (acc_nm 4 (by decide)), rg (by omega) (by decide) (acc_nm 8 (by decide))]
    exact rg0 (by omega)
  · show (0 : Int) ≤ k.kind ∧ k.kind ≤ 255; omega
  · intro h
    have h : k.kind = 4 := h
    omega
  · intro c
    simp only [ofV]
    have h0 : sml 0 := ⟨by decide, by decide⟩
    repeat' split
    · exact sml_neg hp
    · exact sml_neg hi
    · exact sml_neg hf
    · exact hn
    · exact h0
/-! Sums over entries. -/
def sumE (a : Int) : List (Key × List Leg) → Int
  | [] => 0
  | e :: r => ofV a e.2 + sumE a r
theorem sumE_app (a : Int) : ∀ l m, sumE a (l ++ m) = sumE a l + sumE a m
  | [], m => by show sumE a m = 0 + sumE a m; omega
  | e :: r, m => by show ofV a e.2 + sumE a (r ++ m) = ofV a e.2 + sumE a r + sumE a m; rw [sumE_app a r m]; omega
def paidE : List (Key × List Leg) → Int
  | [] => 0
  | e :: r => (if e.1.kind = 4 then ofV 1 e.2 else 0) + paidE r
theorem paidE_app : ∀ l m, paidE (l ++ m) = paidE l + paidE m
  | [], m => by show paidE m = 0 + paidE m; omega
  | e :: r, m => by show (if e.1.kind = 4 then ofV 1 e.2 else 0) + paidE (r ++ m) = (if e.1.kind = 4 then ofV 1 e.2 else 0) + paidE r + paidE m; rw [paidE_app r m]; omega
structure Acc (b : Int) (x : St) (E : List (Key × List Leg)) : Prop where
  cash : sumE 1 E = x.cash - b
  prin : sumE 2 E = x.prin
  int : sumE 3 E = x.int
  fees : sumE 4 E = x.fees
  susp : sumE 5 E = -x.susp
  recv : sumE 9 E = -x.recv
  paid : paidE E = x.cash
  ok : ∀ e, e ∈ E → EntOk e
theorem Acc.close {b : Int} {x : St} {E : List (Key × List Leg)} (h : Acc b x E) : Acc b (closeF x) E := by
  unfold closeF
  split
  · exact ⟨h.cash, h.prin, h.int, h.fees, h.susp, h.recv, h.paid, h.ok⟩
  · exact h
structure Add (x y : St) (e : Key × List Leg) : Prop where
  cash : y.cash = x.cash + ofV 1 e.2
  prin : y.prin = x.prin + ofV 2 e.2
  int : y.int = x.int + ofV 3 e.2
  fees : y.fees = x.fees + ofV 4 e.2
  susp : y.susp = x.susp - ofV 5 e.2
  recv : y.recv = x.recv - ofV 9 e.2
  paid : y.cash = x.cash + (if e.1.kind = 4 then ofV 1 e.2 else 0)
theorem Acc.snoc {b : Int} {x y : St} {E : List (Key × List Leg)} (h : Acc b x E) {e : Key × List Leg} (ok : EntOk e) (a : Add x y e) : Acc b y (E ++ [e]) := by
  have h1 := h.cash; have h2 := h.prin; have h3 := h.int; have h4 := h.fees; have h5 := h.susp; have h6 := h.recv; have h7 := h.paid
  have a1 := a.cash; have a2 := a.prin; have a3 := a.int; have a4 := a.fees; have a5 := a.susp; have a6 := a.recv; have a7 := a.paid
  have z : ∀ c, sumE c [e] = ofV c e.2 := fun c => by show ofV c e.2 + 0 = _; omega
  have zp : paidE [e] = (if e.1.kind = 4 then ofV 1 e.2 else 0) := by show _ + 0 = _; omega
  refine ⟨?_, ?_, ?_, ?_, ?_, ?_, ?_, fun v hv => ?_⟩
  · rw [sumE_app, z]; omega
  · rw [sumE_app, z]; omega
  · rw [sumE_app, z]; omega
  · rw [sumE_app, z]; omega
  · rw [sumE_app, z]; omega
  · rw [sumE_app, z]; omega
  · rw [paidE_app, zp]; omega
  · rcases List.mem_append.1 hv with hv | hv
    · exact h.ok v hv
    · rw [List.mem_singleton] at hv
      rw [hv]
      exact ok
theorem StB.sml {S : Sto} {k : Int} {x : St} (h : StB S k x) (hk : k ≤ 10000000000000000) : sml x.fees ∧ sml x.int ∧ sml x.prin := by
  have h1 := h.fees; have h2 := h.int; have h3 := h.prin
  unfold Go.Proofs.YtjlfjjgjghdokaaGreatDoor.sml
  omega
theorem acc_pay {S : Sto} {k b : Int} {x : St} {E : List (Key × List Leg)} {ky : Key} {n : Int} (h : Acc b x E) (hx : StB S k x) (hk : k ≤ 10000000000000000) (hn : 0 ≤ n ∧ n ≤ 1000000000000) (hkd : ky.kind = 4) (hd : dayB ky.day = true) : Acc b (payF x n) (E ++ [(ky, refMade (payL x n))]) := by
  have h1 := hx.fees; have h2 := hx.int; have h3 := hx.prin
  have hns : sml n := by unfold sml; omega
  unfold payF payL
  split
  · rw [mk_up (by decide) (by decide) (by decide) hns (sml_neg hns)]
    refine h.snoc (two_ok (by omega) hd (by decide) (by decide) (by decide) hns (fun _ => ⟨rfl, rfl⟩)) ⟨?_, ?_, ?_, ?_, ?_, ?_, ?_⟩
    all_goals simp [ofV, hkd]
    all_goals omega
  · have pb := pay_bd h1.1 h2.1 h3.1 hn.1
    have b1 := pb.hf; have b2 := pb.hi; have b3 := pb.hp; have b4 := pb.hl; have b5 := pb.hs
    have q1 : sml (goF x.fees n) := by unfold sml; omega
    have q2 : sml (goI x.fees x.int n) := by unfold sml; omega
    have q3 : sml (goP x.fees x.int x.prin n) := by unfold sml; omega
    have q4 : sml (goL x.fees x.int x.prin n) := by unfold sml; omega
    rw [mk_pay q1 q2 q3 hns q4]
    refine h.snoc (pay_ok hkd hd q1 q2 q3 hns q4 b5) ⟨?_, ?_, ?_, ?_, ?_, ?_, ?_⟩
    all_goals simp [ofV, hkd]
    all_goals omega
/-- Events that may be, each with a number of its own. -/
structure LOk (l : List Ev) : Prop where
  ev : ∀ e, e ∈ l → EvA e ∧ 4 ≤ e.kind ∧ e.kind ≤ 7
  nd : (l.map Ev.seq).Nodup
theorem LOk.tail {e : Ev} {r : List Ev} (h : LOk (e :: r)) : LOk r := ⟨fun v hv => h.ev v (List.mem_cons_of_mem _ hv), (List.nodup_cons.1 (by have := h.nd; rwa [List.map_cons] at this)).2⟩
theorem LOk.perm {l m : List Ev} (h : LOk l) (p : m.Perm l) : LOk m := ⟨fun v hv => h.ev v (p.mem_iff.1 hv), (p.map Ev.seq).nodup_iff.2 h.nd⟩
theorem acc_event {S : Sto} {k b day : Int} {x : St} {E : List (Key × List Leg)} {e : Ev} (h : Acc b x E) (hx : StB S k x) (hk : k ≤ 10000000000000000) (he : EvA e ∧ 4 ≤ e.kind ∧ e.kind ≤ 7) (hd : dayB day = true) : Acc b (eventF x e).1 (E ++ entOf S day e (eventF x e).2) := by
  have h1 := hx.fees; have h2 := hx.int; have h3 := hx.prin
  have ha := he.1
  have ha1 : 0 ≤ e.amt := ha.1
  have ha2 : e.amt ≤ 1000000000000 := ha.2
  have hns : sml e.amt := by unfold sml; omega
  unfold eventF
  split
  · rename_i q
    exact (acc_pay (ky := ⟨S.loan, day, e.kind, e.seq⟩) h hx hk ⟨ha1, ha2⟩ q hd).close
  · split
    · show Acc b x (E ++ [])
      rw [List.append_nil]
      exact h
    · split
      · rename_i q4 q1 q5
        refine Acc.close ?_
        show Acc b _ (E ++ [(_, refMade [⟨4, e.amt⟩, ⟨7, -e.amt⟩])])
        rw [mk_up (by decide) (by decide) (by decide) hns (sml_neg hns)]
        refine h.snoc (two_ok (k := ⟨S.loan, day, e.kind, e.seq⟩) (by simp only; omega) hd (by decide) (by decide) (by decide) hns (fun q => absurd q q4)) ⟨?_, ?_, ?_, ?_, ?_, ?_, ?_⟩
        all_goals simp [ofV, q4]
      · split
        · rename_i q4 q1 q5 q6
          have hm := mn_bd h1.1 ha1
          have hms : sml (mn x.fees e.amt) := by unfold sml; omega
          refine Acc.close ?_
          show Acc b _ (E ++ [(_, refMade [⟨7, mn x.fees e.amt⟩, ⟨4, -mn x.fees e.amt⟩])])
          rw [mk_dn (by decide) (by decide) (by decide) (sml_neg hms) hms]
          have ok := two_ok (k := ⟨S.loan, day, e.kind, e.seq⟩) (a := 4) (b := 7) (n := -mn x.fees e.amt) (by simp only; omega) hd (by decide) (by decide) (by decide) (sml_neg hms) (fun q => absurd q q4)
          rw [Int.neg_neg] at ok
          refine h.snoc ok ⟨?_, ?_, ?_, ?_, ?_, ?_, ?_⟩
          all_goals simp [ofV, q4]
          all_goals omega
        · split
          · rename_i q4 q1 q5 q6 q7
            obtain ⟨s1, s2, s3⟩ := hx.sml hk
            have s4 : sml (x.fees + x.int + x.prin) := by unfold sml; omega
            show Acc b (closeF { x with fees := 0, int := 0, prin := 0, status := 3 }) (E ++ [(⟨S.loan, day, e.kind, e.seq⟩, refMade (ptL x.fees x.int x.prin ++ [⟨8, x.fees + x.int + x.prin⟩]))])
            refine Acc.close ?_
            rw [mk_off s1 s2 s3 s4]
            refine h.snoc (off_ok (k := ⟨S.loan, day, e.kind, e.seq⟩) q7 hd s1 s2 s3 s4) ⟨?_, ?_, ?_, ?_, ?_, ?_, ?_⟩
            all_goals simp [ofV, q4]
            all_goals omega
          · show Acc b (closeF x) (E ++ [])
            rw [List.append_nil]
            exact h.close
theorem acc_late {b : Int} {t : Tm} {loan day paid : Int} (hf : 0 ≤ t.fee ∧ t.fee ≤ 1000000000) (hd : dayB day = true) (x : St) : ∀ (l : List (Int × Int)) (i : Nat) (f : Int) (E : List (Key × List Leg)), Acc b { x with fees := f } E → Acc b { x with fees := (lateGo t loan day paid l i f).2.1 } (E ++ (lateGo t loan day paid l i f).2.2)
  | [], i, f, E, h => by
    show Acc b { x with fees := f } (E ++ [])
    rw [List.append_nil]
    exact h
  | d :: r, i, f, E, h => by
    have hns : sml t.fee := by unfold sml; omega
    by_cases q1 : d.1 + t.grace ≤ day
    · by_cases q2 : paid < d.2 ∧ 0 < t.fee
      · rw [lateGo_yes q1 q2]
        show Acc b { x with fees := (lateGo t loan day paid r (i + 1) (f + t.fee)).2.1 } (E ++ ([(⟨loan, day, 3, (i : Int) + 1⟩, refMade [⟨4, t.fee⟩, ⟨7, -t.fee⟩])] ++ (lateGo t loan day paid r (i + 1) (f + t.fee)).2.2))
        rw [← List.append_assoc]
        refine acc_late hf hd x r (i + 1) (f + t.fee) _ ?_
        rw [mk_up (by decide) (by decide) (by decide) hns (sml_neg hns)]
        refine h.snoc (two_ok (k := ⟨loan, day, 3, (i : Int) + 1⟩) (by show (1 : Int) ≤ 3 ∧ (3 : Int) ≤ 7; decide) hd (by decide) (by decide) (by decide) hns (fun q => absurd (show (3 : Int) = 4 from q) (by decide))) ⟨?_, ?_, ?_, ?_, ?_, ?_, ?_⟩
        all_goals simp [ofV]
      · rw [lateGo_no q1 q2]
        exact acc_late hf hd x r (i + 1) f E h
    · rw [lateGo_stop q1]
      show Acc b { x with fees := f } (E ++ [])
      rw [List.append_nil]
      exact h
theorem acc_night {S : Sto} (hS : StoOk S) {k b day : Int} {x : St} {next : Nat} {E : List (Key × List Leg)} (h : Acc b x E) (hx : StB S k x) (hd : dayB day = true) : Acc b (nightF S day x next).1 (E ++ (nightF S day x next).2.2) := by
  have hb := brings_bd (b := S.t.basis) ⟨hS.tin.parts.1, hS.ok.parts⟩ hx.prin hx.carry hd
  have b1 := hb.n
  have hns : sml (brings S.t.parts S.t.basis x.prin x.carry day).1 := by unfold sml; omega
  unfold nightF
  split
  · have h1 := acc_late (loan := S.loan) (paid := x.paid) hS.ok.fee hd x (S.dues.drop next) next x.fees E h
    show Acc b _ (E ++ (_ ++ [(_, refMade [⟨3, (brings S.t.parts S.t.basis x.prin x.carry day).1⟩, ⟨6, -(brings S.t.parts S.t.basis x.prin x.carry day).1⟩])]))
    rw [← List.append_assoc, mk_up (by decide) (by decide) (by decide) hns (sml_neg hns)]
    refine h1.snoc (two_ok (k := ⟨S.loan, day, 2, 0⟩) (by show (1 : Int) ≤ 2 ∧ (2 : Int) ≤ 7; decide) hd (by decide) (by decide) (by decide) hns (fun q => absurd (show (2 : Int) = 4 from q) (by decide))) ⟨?_, ?_, ?_, ?_, ?_, ?_, ?_⟩
    all_goals simp [ofV]
  · show Acc b x (E ++ [])
    rw [List.append_nil]
    exact h
/-! Keys. -/
structure KI (D : Int) (l : List Ev) (next : Nat) (E : List (Key × List Leg)) : Prop where
  nd : (E.map Prod.fst).Nodup
  k2 : ∀ e, e ∈ E → e.1.kind = 2 → e.1.day < D
  k3 : ∀ e, e ∈ E → e.1.kind = 3 → e.1.seq ≤ next
  k4 : ∀ e, e ∈ E → 4 ≤ e.1.kind → ∀ v, v ∈ l → v.seq ≠ e.1.seq
theorem nd_snoc {E : List (Key × List Leg)} {e : Key × List Leg} (h : (E.map Prod.fst).Nodup) (hn : ∀ v, v ∈ E → v.1 ≠ e.1) : ((E ++ [e]).map Prod.fst).Nodup := by
  rw [List.map_append]
  refine List.nodup_append.2 ⟨h, by simp, fun a ha b hb => ?_⟩
  obtain ⟨v, hv, rfl⟩ := List.mem_map.1 ha
  simp only [List.map_cons, List.map_nil, List.mem_singleton] at hb
  rw [hb]
  exact hn v hv
theorem ki_event {S : Sto} {D day : Int} {l : List Ev} {next : Nat} {E : List (Key × List Leg)} {e : Ev} (h : KI D (e :: l) next E) (hl : LOk (e :: l)) (o : Option (List Leg)) : KI D l next (E ++ entOf S day e o) := by
  have hk := (hl.ev e List.mem_cons_self).2
  have hnd := hl.nd
  rw [List.map_cons, List.nodup_cons] at hnd
  have h0 : KI D l next E := ⟨h.nd, h.k2, h.k3, fun v hv h4 u hu => h.k4 v hv h4 u (List.mem_cons_of_mem _ hu)⟩
  cases o with
  | none =>
    show KI D l next (E ++ [])
    rw [List.append_nil]
    exact h0
  | some ls =>
    show KI D l next (E ++ [(⟨S.loan, day, e.kind, e.seq⟩, refMade ls)])
    refine ⟨nd_snoc h.nd fun v hv q => ?_, fun v hv => ?_, fun v hv => ?_, fun v hv => ?_⟩
    · have q1 : v.1.kind = e.kind := congrArg Key.kind q
      have q2 : v.1.seq = e.seq := congrArg Key.seq q
      exact h.k4 v hv (by omega) e List.mem_cons_self q2.symm
    · rcases List.mem_append.1 hv with hv | hv
      · exact h.k2 v hv
      · rw [List.mem_singleton] at hv
        rw [hv]
        intro q
        have q : e.kind = 2 := q
        omega
    · rcases List.mem_append.1 hv with hv | hv
      · exact h.k3 v hv
      · rw [List.mem_singleton] at hv
        rw [hv]
        intro q
        have q : e.kind = 3 := q
        omega
    · rcases List.mem_append.1 hv with hv | hv
      · exact h0.k4 v hv
      · rw [List.mem_singleton] at hv
        rw [hv]
        intro _ u hu q
        exact hnd.1 (List.mem_map.2 ⟨u, hu, q⟩)
theorem ki_late {t : Tm} {loan day paid D : Int} {l : List Ev} : ∀ (ds : List (Int × Int)) (i : Nat) (f : Int) (E : List (Key × List Leg)), KI D l i E → KI D l (lateGo t loan day paid ds i f).1 (E ++ (lateGo t loan day paid ds i f).2.2)
  | [], i, f, E, h => by
    show KI D l i (E ++ [])
    rw [List.append_nil]
    exact h
  | d :: r, i, f, E, h => by
    by_cases q1 : d.1 + t.grace ≤ day
    · by_cases q2 : paid < d.2 ∧ 0 < t.fee
      · rw [lateGo_yes q1 q2]
        show KI D l (lateGo t loan day paid r (i + 1) (f + t.fee)).1 (E ++ ([(⟨loan, day, 3, (i : Int) + 1⟩, refMade [⟨4, t.fee⟩, ⟨7, -t.fee⟩])] ++ (lateGo t loan day paid r (i + 1) (f + t.fee)).2.2))
        rw [← List.append_assoc]
        refine ki_late r (i + 1) (f + t.fee) _ ⟨nd_snoc h.nd fun v hv q => ?_, fun v hv => ?_, fun v hv => ?_, fun v hv => ?_⟩
        · have q1 : v.1.kind = 3 := congrArg Key.kind q
          have q2 : v.1.seq = (i : Int) + 1 := congrArg Key.seq q
          have := h.k3 v hv q1
          omega
        · rcases List.mem_append.1 hv with hv | hv
          · exact h.k2 v hv
          · rw [List.mem_singleton] at hv
            rw [hv]
            intro q
            exact absurd (show (3 : Int) = 2 from q) (by decide)
        · rcases List.mem_append.1 hv with hv | hv
          · intro q; have := h.k3 v hv q; omega
          · rw [List.mem_singleton] at hv
            rw [hv]
            intro _
            show (i : Int) + 1 ≤ ((i + 1 : Nat) : Int)
            omega
        · rcases List.mem_append.1 hv with hv | hv
          · exact h.k4 v hv
          · rw [List.mem_singleton] at hv
            rw [hv]
            intro q
            exact absurd (show (4 : Int) ≤ 3 from q) (by decide)
      · rw [lateGo_no q1 q2]
        exact ki_late r (i + 1) f E ⟨h.nd, h.k2, fun v hv q => by have := h.k3 v hv q; omega, h.k4⟩
    · rw [lateGo_stop q1]
      show KI D l i (E ++ [])
      rw [List.append_nil]
      exact h
theorem ki_night {S : Sto} {day : Int} {x : St} {l : List Ev} {next : Nat} {E : List (Key × List Leg)} (h : KI day l next E) : KI (day + 1) l (nightF S day x next).2.1 (E ++ (nightF S day x next).2.2) := by
  unfold nightF
  split
  · have h1 := ki_late (t := S.t) (loan := S.loan) (day := day) (paid := x.paid) (S.dues.drop next) next x.fees E h
    show KI (day + 1) l (lateGo S.t S.loan day x.paid (S.dues.drop next) next x.fees).1 (E ++ (_ ++ [(⟨S.loan, day, 2, 0⟩, _)]))
    rw [← List.append_assoc]
    refine ⟨nd_snoc h1.nd fun v hv q => ?_, fun v hv => ?_, fun v hv => ?_, fun v hv => ?_⟩
    · have q1 : v.1.kind = 2 := congrArg Key.kind q
      have q2 : v.1.day = day := congrArg Key.day q
      have := h1.k2 v hv q1
      omega
    · rcases List.mem_append.1 hv with hv | hv
      · intro q; have := h1.k2 v hv q; omega
      · rw [List.mem_singleton] at hv
        rw [hv]
        intro _
        show day < day + 1
        omega
    · rcases List.mem_append.1 hv with hv | hv
      · exact h1.k3 v hv
      · rw [List.mem_singleton] at hv
        rw [hv]
        intro q
        exact absurd (show (2 : Int) = 3 from q) (by decide)
    · rcases List.mem_append.1 hv with hv | hv
      · exact h1.k4 v hv
      · rw [List.mem_singleton] at hv
        rw [hv]
        intro q
        exact absurd (show (4 : Int) ≤ 2 from q) (by decide)
  · show KI (day + 1) l next (E ++ [])
    rw [List.append_nil]
    exact ⟨h.nd, fun v hv q => by have := h.k2 v hv q; omega, h.k3, h.k4⟩
/-! Day by day. -/
structure AI (S : Sto) (D : Int) (s : TS) : Prop where
  acc : Acc S.t.prin s.x s.E
  ki : KI D s.l s.next s.E
  lok : LOk s.l
theorem ai_eat {S : Sto} {b day : Int} {next : Nat} (hd : dayB day = true) : ∀ (l : List Ev) (x : St) (k : Int) (E : List (Key × List Leg)), LOk l → StB S k x → k + 1000000000000 * (l.length : Int) ≤ 10000000000000000 → Acc b x E → KI day l next E → Acc b (eatF S day l x).1 (E ++ (eatF S day l x).2.2) ∧ KI day (eatF S day l x).2.1 next (E ++ (eatF S day l x).2.2) ∧ LOk (eatF S day l x).2.1
  | [], x, k, E, hl, hx, hk, ha, hi => by
    show Acc b x (E ++ []) ∧ KI day [] next (E ++ []) ∧ LOk []
    rw [List.append_nil]
    exact ⟨ha, hi, hl⟩
  | e :: r, x, k, E, hl, hx, hk, ha, hi => by
    have he := hl.ev e List.mem_cons_self
    rw [List.length_cons] at hk
    have hE : KI day r next E := ⟨hi.nd, hi.k2, hi.k3, fun v hv h4 u hu => hi.k4 v hv h4 u (List.mem_cons_of_mem _ hu)⟩
    unfold eatF
    split
    · split
      · have ih := ai_eat (S := S) (b := b) (next := next) hd r (eventF x e).1 (k + 1000000000000) (E ++ entOf S day e (eventF x e).2) hl.tail (event_StB hx he.1) (by omega) (acc_event ha hx (by omega) he hd) (ki_event hi hl _)
        rw [List.append_assoc] at ih
        exact ih
      · exact ai_eat (S := S) (b := b) (next := next) hd r x k E hl.tail hx (by omega) ha hE
    · show Acc b x (E ++ []) ∧ KI day (e :: r) next (E ++ []) ∧ LOk (e :: r)
      rw [List.append_nil]
      exact ⟨ha, hi, hl⟩
theorem ai_rest {S : Sto} (hS : StoOk S) {th day k : Int} {b : TS} (hd : dayB day = true) (hk : k + 19000000000000 ≤ 10000000000000000) (hl : b.l.length ≤ 19) (hx : StB S k b.x) (h : AI S day b) : AI S (day + 1) (if day ≤ th then sleepF S day (ateF S day b) else ateF S day b) := by
  obtain ⟨a1, a2, a3⟩ := ai_eat (S := S) (b := S.t.prin) (next := b.next) hd b.l b.x k b.E h.lok hx (by omega) h.acc h.ki
  have hq := eat_bd (S := S) (day := day) b.l b.x k (fun e he => (h.lok.ev e he).1) hx
  split
  · exact ⟨acc_night hS a1 hq.st hd, ki_night a2, a3⟩
  · exact ⟨a1, ⟨a2.nd, fun v hv q => by have := a2.k2 v hv q; omega, a2.k3, a2.k4⟩, a3⟩
theorem ai_days {S : Sto} (hS : StoOk S) {th : Int} (hth : th ≤ 3640000) {l : List Ev} (hl : l.length ≤ 19) (hok : LOk l) : ∀ i : Nat, i ≤ 300 → AI S (S.t.start + ((i + 1 : Nat) : Int)) (daysF S th ⟨st0, 0, l, []⟩ (i + 1))
  | 0, _ => by
    have h1 := hS.ok.start
    have hp := hS.ok.prin
    have hb := days_bd hS hth hl (fun e he => (hok.ev e he).1) 0
    have hbo := bo_of hS (day := S.t.start + ((0 : Nat) : Int)) hb
    have hps : sml S.t.prin := by unfold sml; omega
    have e : S.t.start + ((0 : Nat) : Int) = S.t.start := by omega
    have hbd : boardF S (S.t.start + ((0 : Nat) : Int)) ⟨st0, 0, l, []⟩ = ⟨{ st0 with prin := S.t.prin, status := 1 }, 0, l, [(⟨S.loan, S.t.start + ((0 : Nat) : Int), 1, 0⟩, refMade [⟨2, S.t.prin⟩, ⟨1, -S.t.prin⟩])]⟩ := by
      unfold boardF
      rw [if_pos e]
      rfl
    have h0 : AI S (S.t.start + ((0 : Nat) : Int)) (boardF S (S.t.start + ((0 : Nat) : Int)) ⟨st0, 0, l, []⟩) := by
      rw [hbd, mk_dn (by decide) (by decide) (by decide) (sml_neg hps) hps]
      have ok := two_ok (k := ⟨S.loan, S.t.start + ((0 : Nat) : Int), 1, 0⟩) (a := 1) (b := 2) (n := -S.t.prin) (by simp only; omega) (by simp only [dayB, Bool.and_eq_true, decide_eq_true_eq]; omega) (by decide) (by decide) (by decide) (sml_neg hps) (fun q => absurd q (by simp))
      rw [Int.neg_neg] at ok
      refine ⟨⟨?_, ?_, ?_, ?_, ?_, ?_, ?_, ?_⟩, ⟨?_, ?_, ?_, ?_⟩, hok⟩
      · simp [sumE, ofV]
      · simp [sumE, ofV]
      · simp [sumE, ofV]
      · simp [sumE, ofV]
      · simp [sumE, ofV]
      · simp [sumE, ofV]
      · simp [paidE]
      · intro v hv; rw [List.mem_singleton] at hv; rw [hv]; exact ok
      · simp
      · intro v hv; rw [List.mem_singleton] at hv; rw [hv]; intro q; exact absurd q (by simp)
      · intro v hv; rw [List.mem_singleton] at hv; rw [hv]; intro q; exact absurd q (by simp)
      · intro v hv; rw [List.mem_singleton] at hv; rw [hv]; intro q; exact absurd q (by simp)
    have hr := ai_rest hS (th := th) (by simp only [dayB, Bool.and_eq_true, decide_eq_true_eq]; omega) (by omega) hbo.l.1 hbo.x h0
    have e2 : S.t.start + ((0 : Nat) : Int) + 1 = S.t.start + ((0 + 1 : Nat) : Int) := by omega
    rw [e2] at hr
    exact hr
  | i + 1, hi => by
    have h1 := hS.ok.start
    have ih := ai_days hS hth hl hok i (by omega)
    have hb := days_bd hS hth hl (fun e he => (hok.ev e he).1) (i + 1)
    have hbd : boardF S (S.t.start + ((i + 1 : Nat) : Int)) (daysF S th ⟨st0, 0, l, []⟩ (i + 1)) = daysF S th ⟨st0, 0, l, []⟩ (i + 1) := by
      unfold boardF
      rw [if_neg (by omega)]
    have hr := ai_rest hS (th := th) (by simp only [dayB, Bool.and_eq_true, decide_eq_true_eq]; omega) (by omega) hb.l.1 hb.x ih
    have e2 : S.t.start + ((i + 1 : Nat) : Int) + 1 = S.t.start + ((i + 1 + 1 : Nat) : Int) := by omega
    rw [e2] at hr
    show AI S _ (oneDay S th (S.t.start + ((i + 1 : Nat) : Int)) (daysF S th ⟨st0, 0, l, []⟩ (i + 1)))
    unfold oneDay
    rw [hbd]
    exact hr
structure AddsL (S : Sto) (s : TS) : Prop where
  acc : Acc S.t.prin s.x s.E
  nd : (s.E.map Prod.fst).Nodup
  st : StB S 10000000000000000 s.x
theorem adds_law {S : Sto} (hS : StoOk S) {k : Nat} (hk : k ≤ 200) {l : List Ev} (hl : l.length ≤ 19) (hok : LOk l) : AddsL S (tellF S (S.t.start + k) l) := by
  have h1 := hS.ok.start
  have e : (S.t.start + (k : Int) + 2 - S.t.start).toNat = (k + 1) + 1 := by omega
  have ha := ai_days hS (th := S.t.start + k) (by omega) hl hok (k + 1) (by omega)
  have hb := days_bd hS (th := S.t.start + k) (by omega) hl (fun e he => (hok.ev e he).1) ((k + 1) + 1)
  unfold tellF
  rw [e]
  exact ⟨ha.acc, ha.ki.nd, hb.x.mono (by omega)⟩
theorem evL_ok (t : Tm) (ds : List Deed) (m : Nat) (hm : m ≤ ds.length) (hok : ∀ d, d ∈ ds → inK .u8 d.kind ∧ inK .u16 d.beh ∧ inK .u32 d.amt) : LOk (evL t ds m) := by
  refine ⟨fun e he => ?_, ?_⟩
  · unfold evL at he
    obtain ⟨i, hi, rfl⟩ := List.mem_map.1 he
    have hi : i < ds.length := by rw [List.mem_range] at hi; omega
    rw [List.getElem?_eq_getElem hi]
    have h := (hok _ (List.getElem_mem hi)).2.2
    have h0 : 0 ≤ (ds[i]).amt ∧ (ds[i]).amt ≤ 4294967295 := h
    show (0 ≤ (evOf t ds[i] i).amt ∧ (evOf t ds[i] i).amt ≤ 1000000000000) ∧ 4 ≤ 4 + (ds[i]).kind % 4 ∧ 4 + (ds[i]).kind % 4 ≤ 7
    refine ⟨?_, by omega⟩
    unfold evOf
    simp only
    split <;> omega
  · unfold evL
    rw [List.map_map, List.nodup_iff_pairwise_ne, List.pairwise_map]
    refine (List.nodup_iff_pairwise_ne.1 List.nodup_range).imp ?_
    intro a b h q
    have q : (a : Int) + 1 = (b : Int) + 1 := q
    omega
end Go.Proofs.YtjlfjjgjghdokaaGreatDoor
