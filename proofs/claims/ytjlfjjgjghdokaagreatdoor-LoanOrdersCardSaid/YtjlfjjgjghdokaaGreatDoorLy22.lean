/- All is accounted for: the plain law: sums by account, keys. -/
import Derived.Test.YtjlfjjgjghdokaaGreatDoorLy21
set_option linter.unusedVariables false
namespace Go.Proofs.YtjlfjjgjghdokaaGreatDoor
open Go Go.Proofs Go.Wk
theorem lk_not {k : Int} : ∀ {m : List (Int × Int)}, k ∉ m.map Prod.fst → lk k m = none
  | [], _ => rfl
  | p :: m, h => by
    rw [List.map_cons, List.mem_cons, not_or] at h
    rw [lk, if_neg (fun e => h.1 e.symm)]
    exact lk_not h.2
theorem putL_not {k v : Int} : ∀ {m : List (Int × Int)}, k ∉ m.map Prod.fst → putL k v m = m ++ [(k, v)]
  | [], _ => rfl
  | p :: m, h => by
    rw [List.map_cons, List.mem_cons, not_or] at h
    rw [putL, if_neg (fun e => h.1 e.symm), putL_not h.2]
    rfl
theorem sumGo_dist : ∀ (ls : List Leg) (m : List (Int × Int)), (∀ x, x ∈ ls → inK .i64 x.amt) → (ls.map Leg.acct).Nodup → (∀ x, x ∈ ls → x.acct ∉ m.map Prod.fst) → sumGo ls m = some (m ++ ls.map fun l => (l.acct, l.amt))
  | [], m, _, _, _ => by simp [sumGo]
  | l :: r, m, h1, h2, h3 => by
    rw [List.map_cons, List.nodup_cons] at h2
    have hl := h3 l List.mem_cons_self
    have ha := h1 l List.mem_cons_self
    have e : in64 (0 + l.amt) = true := by
      have h4 : -9223372036854775808 ≤ l.amt ∧ l.amt ≤ 9223372036854775807 := ha
      rw [Int.zero_add]
      simp only [in64, Bool.and_eq_true, decide_eq_true_eq]
      exact h4
    rw [sumGo, lk_not hl, putL_not hl]
    show (if in64 (0 + l.amt) = true then sumGo r (m ++ [(l.acct, 0 + l.amt)]) else none) = _
    rw [if_pos e, Int.zero_add, sumGo_dist r _ (fun x hx => h1 x (List.mem_cons_of_mem _ hx)) h2.2 (fun x hx hm => by
      rw [List.map_append, List.mem_append] at hm
      rcases hm with hm | hm
      · exact h3 x (List.mem_cons_of_mem _ hx) hm
      · simp only [List.map_cons, List.map_nil, List.mem_singleton] at hm
        exact h2.1 (hm ▸ List.mem_map_of_mem hx))]
    simp
theorem made_dist {ls out : List Leg} (hin : ∀ x, x ∈ ls → inK .u8 x.acct ∧ inK .i64 x.amt) (hnd : (ls.map Leg.acct).Nodup) (hp : out.Perm ls) (hs : srt out) : refMade ls = out := by
  refine (made_ref (fun x hx => (hin x hx).1) ?_).symm
  have e := sumGo_dist ls [] (fun x hx => (hin x hx).2) hnd (fun x _ h => by cases h)
  unfold made
  rw [e]
  refine ⟨?_, hs⟩
  have e2 : (([] ++ ls.map fun l => (l.acct, l.amt)) : List (Int × Int)).map pairL = ls := by
    rw [List.nil_append, List.map_map]
    exact List.map_id ls
  rw [e2]
  exact hp
/-- An amount that isn't great. -/
def sml (n : Int) : Prop := -30000000000000000 ≤ n ∧ n ≤ 30000000000000000
theorem sml_in {a n : Int} (h0 : 0 ≤ a ∧ a ≤ 9) (h : sml n) : inK .u8 (Leg.mk a n).acct ∧ inK .i64 (Leg.mk a n).amt := okLeg h0 (by have := h.1; omega) (by have := h.2; omega)
theorem sml_neg {n : Int} (h : sml n) : sml (-n) := by unfold sml at h ⊢; omega
theorem mk_up {a b n m : Int} (ha : 0 ≤ a) (hab : a < b) (hb : b ≤ 9) (hn : sml n) (hm : sml m) : refMade [⟨a, n⟩, ⟨b, m⟩] = [⟨a, n⟩, ⟨b, m⟩] := by
  refine made_dist ?_ ?_ (List.Perm.refl _) ?_
  · intro x hx
    simp only [List.mem_cons, List.not_mem_nil, or_false] at hx
    rcases hx with rfl | rfl
    · exact sml_in (by omega) hn
    · exact sml_in (by omega) hm
  · simp only [List.map_cons, List.map_nil, List.nodup_cons, List.mem_cons, List.not_mem_nil, or_false, not_false_iff, List.nodup_nil, and_true]
    omega
  · unfold srt
    simp only [List.pairwise_cons, List.mem_cons, List.not_mem_nil, or_false, forall_eq, List.Pairwise.nil, and_true, false_implies, implies_true]
    omega
theorem mk_dn {a b n m : Int} (ha : 0 ≤ a) (hab : a < b) (hb : b ≤ 9) (hn : sml n) (hm : sml m) : refMade [⟨b, m⟩, ⟨a, n⟩] = [⟨a, n⟩, ⟨b, m⟩] := by
  refine made_dist ?_ ?_ (List.reverse_perm [(⟨b, m⟩ : Leg), ⟨a, n⟩]) ?_
  · intro x hx
    simp only [List.mem_cons, List.not_mem_nil, or_false] at hx
    rcases hx with rfl | rfl
    · exact sml_in (by omega) hm
    · exact sml_in (by omega) hn
  · simp only [List.map_cons, List.map_nil, List.nodup_cons, List.mem_cons, List.not_mem_nil, or_false, not_false_iff, List.nodup_nil, and_true]
    omega
  · unfold srt
    simp only [List.pairwise_cons, List.mem_cons, List.not_mem_nil, or_false, forall_eq, List.Pairwise.nil, and_true, false_implies, implies_true]
    omega
theorem mk_pay {f i p n l : Int} (hf : sml f) (hi : sml i) (hp : sml p) (hn : sml n) (hl : sml l) : refMade (ptL f i p ++ [⟨1, n⟩, ⟨5, -l⟩]) = [⟨1, n⟩, ⟨2, -p⟩, ⟨3, -i⟩, ⟨4, -f⟩, ⟨5, -l⟩] := by
  refine made_dist ?_ ?_ (List.Perm.append_right [(⟨5, -l⟩ : Leg)] (List.reverse_perm [(⟨4, -f⟩ : Leg), ⟨3, -i⟩, ⟨2, -p⟩, ⟨1, n⟩])) ?_
  · intro x hx
    simp only [ptL, List.cons_append, List.nil_append, List.mem_cons, List.not_mem_nil, or_false] at hx
    rcases hx with rfl | rfl | rfl | rfl | rfl
    · exact sml_in (by decide) (sml_neg hf)
    · exact sml_in (by decide) (sml_neg hi)
    · exact sml_in (by decide) (sml_neg hp)
    · exact sml_in (by decide) hn
    · exact sml_in (by decide) (sml_neg hl)
  · show ([4, 3, 2, 1, 5] : List Int).Nodup
    decide
  · unfold srt
    simp
theorem mk_off {f i p n : Int} (hf : sml f) (hi : sml i) (hp : sml p) (hn : sml n) : refMade (ptL f i p ++ [⟨8, n⟩]) = [⟨2, -p⟩, ⟨3, -i⟩, ⟨4, -f⟩, ⟨8, n⟩] := by
  refine made_dist ?_ ?_ (List.Perm.append_right [(⟨8, n⟩ : Leg)] (List.reverse_perm [(⟨4, -f⟩ : Leg), ⟨3, -i⟩, ⟨2, -p⟩])) ?_
  · intro x hx
    simp only [ptL, List.cons_append, List.nil_append, List.mem_cons, List.not_mem_nil, or_false] at hx
    rcases hx with rfl | rfl | rfl | rfl
    · exact sml_in (by decide) (sml_neg hf)
    · exact sml_in (by decide) (sml_neg hi)
    · exact sml_in (by decide) (sml_neg hp)
    · exact sml_in (by decide) hn
  · show ([4, 3, 2, 8] : List Int).Nodup
    decide
  · unfold srt
    simp
/-! Entries that may be. -/
theorem rg {s last a n : Int} {r : List Leg} (h1 : -9000000000000000000 ≤ s + n ∧ s + n ≤ 9000000000000000000) (h2 : last < a) (h3 : noB (accName a) = false) : rightGo s last (⟨a, n⟩ :: r) = rightGo (s + n) a r := by
  have e : in64 (s + n) = true := by simp only [in64, Bool.and_eq_true, decide_eq_true_eq]; omega
  show (bif in64 (s + n) then (bif decide (a ≤ last) then false else bif noB (accName a) then false else rightGo (s + n) a r) else false) = _
  rw [e, decide_eq_false (by omega), h3]
  rfl
theorem rg0 {s last : Int} (h : s = 0) : rightGo s last [] = true := by subst h; rfl
theorem rightB_of {k : Key} {ls : List Leg} (hk : noB (kindName k.kind) = false) (hd : dayB k.day = true) (h0 : 1 ≤ ls.length) (h8 : ls.length ≤ 8) (hg : rightGo 0 0 ls = true) : rightB k ls = true := by
  unfold rightB
  rw [hk, hd, hg, show ((ls.length : Int) == 0) = false by rw [beq_eq_false_iff_ne]; omega, decide_eq_false (by omega)]
  rfl
structure EntOk (e : Key × List Leg) : Prop where
  right : rightB e.1 e.2 = true
  kind : inK .u8 e.1.kind
  pay : e.1.kind = 4 → ofV 1 e.2 + ofV 4 e.2 + ofV 3 e.2 + ofV 2 e.2 + ofV 5 e.2 + ofV 9 e.2 = 0
  amt : ∀ a, sml (ofV a e.2)
theorem acc_nm (a : Int) (h : 1 ≤ a ∧ a ≤ 9) : noB (accName a) = false := by
  have h : a = 1 ∨ a = 2 ∨ a = 3 ∨ a = 4 ∨ a = 5 ∨ a = 6 ∨ a = 7 ∨ a = 8 ∨ a = 9 := by omega
  rcases h with e | e | e | e | e | e | e | e | e <;> rw [e] <;> decide +kernel
theorem kind_nm (a : Int) (h : 1 ≤ a ∧ a ≤ 7) : noB (kindName a) = false := by
  have h : a = 1 ∨ a = 2 ∨ a = 3 ∨ a = 4 ∨ a = 5 ∨ a = 6 ∨ a = 7 := by omega
  rcases h with e | e | e | e | e | e | e <;> rw [e] <;> decide +kernel
theorem of_two {a b n m c : Int} (hn : sml n) (hm : sml m) : sml (ofV c [⟨a, n⟩, ⟨b, m⟩]) := by
  simp only [ofV]
  split
  · exact hn
  · split
    · exact hm
    · exact ⟨by decide, by decide⟩
theorem two_ok {k : Key} {a b n : Int} (hk : 1 ≤ k.kind ∧ k.kind ≤ 7) (hd : dayB k.day = true) (ha : 1 ≤ a) (hab : a < b) (hb : b ≤ 9) (hn : sml n) (h4 : k.kind = 4 → a = 1 ∧ b = 9) : EntOk (k, [⟨a, n⟩, ⟨b, -n⟩]) := by
  have hn1 := hn.1
  have hn2 := hn.2
  refine ⟨rightB_of (kind_nm _ hk) hd (by show 1 ≤ 2; decide) (by show 2 ≤ 8; decide) ?_, ?_, ?_, fun c => of_two hn (sml_neg hn)⟩
  · rw [rg (by omega) (by omega) (acc_nm a (by omega)), rg (by omega) hab (acc_nm b (by omega))]
    exact rg0 (by omega)
  · show (0 : Int) ≤ k.kind ∧ k.kind ≤ 255; omega
  · intro h
    obtain ⟨e1, e2⟩ := h4 h
    subst e1 e2
    simp [ofV]
    omega
theorem pay_ok {k : Key} {f i p n l : Int} (hk : k.kind = 4) (hd : dayB k.day = true) (hf : sml f) (hi : sml i) (hp : sml p) (hn : sml n) (hl : sml l) (hs : f + i + p + l = n) : EntOk (k, [⟨1, n⟩, ⟨2, -p⟩, ⟨3, -i⟩, ⟨4, -f⟩, ⟨5, -l⟩]) := by
  have hf' := hf; have hi' := hi; have hp' := hp; have hn' := hn; have hl' := hl
  unfold sml at hf' hi' hp' hn' hl'
  refine ⟨rightB_of (by show noB (kindName k.kind) = false; rw [hk]; exact kind_nm 4 (by decide)) hd (by show 1 ≤ 5; decide) (by show 5 ≤ 8; decide) ?_, ?_, ?_, ?_⟩
  · rw [rg (by omega) (by omega) (acc_nm 1 (by decide)), rg (by omega) (by decide) (acc_nm 2 (by decide)), rg (by omega) (by decide) (acc_nm 3 (by decide)), rg (by omega) (by decide) (acc_nm 4 (by decide)), rg (by omega) (by decide) (acc_nm 5 (by decide))]
    exact rg0 (by omega)
  · show (0 : Int) ≤ k.kind ∧ k.kind ≤ 255; omega
  · intro _
    simp [ofV]
    omega
  · intro c
    simp only [ofV]
    have h0 : sml 0 := ⟨by decide, by decide⟩
    repeat' split
    · exact hn
    · exact sml_neg hp
    · exact sml_neg hi
    · exact sml_neg hf
    · exact sml_neg hl
    · exact h0
theorem off_ok {k : Key} {f i p : Int} (hk : k.kind = 7) (hd : dayB k.day = true) (hf : sml f) (hi : sml i) (hp : sml p) (hn : sml (f + i + p)) : EntOk (k, [⟨2, -p⟩, ⟨3, -i⟩, ⟨4, -f⟩, ⟨8, f + i + p⟩]) := by
  have hf' := hf; have hi' := hi; have hp' := hp; have hn' := hn
  unfold sml at hf' hi' hp' hn'
  refine ⟨rightB_of (by show noB (kindName k.kind) = false; rw [hk]; exact kind_nm 7 (by decide)) hd (by show 1 ≤ 4; decide) (by show 4 ≤ 8; decide) ?_, ?_, ?_, ?_⟩
  · rw [rg (by omega) (by omega) (acc_nm 2 (by decide)), rg (by omega) (by decide) (acc_nm 3 (by decide)), rg (by omega) (by decide) (acc_nm 4 (by decide)), rg (by omega) (by decide) (acc_nm 8 (by decide))]
    exact rg0 (by omega)
  · show (0 : Int) ≤ k.kind ∧ k.kind ≤ 255; omega
  · intro h
    have h : k.kind = 4 := h
    omega
  · intro c
    simp only [ofV]
    have h0 : sml 0 := ⟨by decide, by decide⟩
    repeat' split
    · exact sml_neg hp
    · exact sml_neg hi
    · exact sml_neg hf
    · exact hn
    · exact h0
/-! Sums over entries. -/
def sumE (a : Int) : List (Key × List Leg) → Int
  | [] => 0
  | e :: r => ofV a e.2 + sumE a r
theorem sumE_app (a : Int) : ∀ l m, sumE a (l ++ m) = sumE a l + sumE a m
  | [], m => by show sumE a m = 0 + sumE a m; omega
  | e :: r, m => by show ofV a e.2 + sumE a (r ++ m) = ofV a e.2 + sumE a r + sumE a m; rw [sumE_app a r m]; omega
def paidE : List (Key × List Leg) → Int
  | [] => 0
  | e :: r => (if e.1.kind = 4 then ofV 1 e.2 else 0) + paidE r
theorem paidE_app : ∀ l m, paidE (l ++ m) = paidE l + paidE m
  | [], m => by show paidE m = 0 + paidE m; omega
  | e :: r, m => by show (if e.1.kind = 4 then ofV 1 e.2 else 0) + paidE (r ++ m) = (if e.1.kind = 4 then ofV 1 e.2 else 0) + paidE r + paidE m; rw [paidE_app r m]; omega
structure Acc (b : Int) (x : St) (E : List (Key × List Leg)) : Prop where
  cash : sumE 1 E = x.cash - b
  prin : sumE 2 E = x.prin
  int : sumE 3 E = x.int
  fees : sumE 4 E = x.fees
  susp : sumE 5 E = -x.susp
  recv : sumE 9 E = -x.recv
  paid : paidE E = x.cash
  ok : ∀ e, e ∈ E → EntOk e
theorem Acc.close {b : Int} {x : St} {E : List (Key × List Leg)} (h : Acc b x E) : Acc b (closeF x) E := by
  unfold closeF
  split
  · exact ⟨h.cash, h.prin, h.int, h.fees, h.susp, h.recv, h.paid, h.ok⟩
  · exact h
structure Add (x y : St) (e : Key × List Leg) : Prop where
  cash : y.cash = x.cash + ofV 1 e.2
  prin : y.prin = x.prin + ofV 2 e.2
  int : y.int = x.int + ofV 3 e.2
  fees : y.fees = x.fees + ofV 4 e.2
  susp : y.susp = x.susp - ofV 5 e.2
  recv : y.recv = x.recv - ofV 9 e.2
  paid : y.cash = x.cash + (if e.1.kind = 4 then ofV 1 e.2 else 0)
theorem Acc.snoc {b : Int} {x y : St} {E : List (Key × List Leg)} (h : Acc b x E) {e : Key × List Leg} (ok : EntOk e) (a : Add x y e) : Acc b y (E ++ [e]) := by
  have h1 := h.cash; have h2 := h.prin; have h3 := h.int; have h4 := h.fees; have h5 := h.susp; have h6 := h.recv; have h7 := h.paid
  have a1 := a.cash; have a2 := a.prin; have a3 := a.int; have a4 := a.fees; have a5 := a.susp; have a6 := a.recv; have a7 := a.paid
  have z : ∀ c, sumE c [e] = ofV c e.2 := fun c => by show ofV c e.2 + 0 = _; omega
  have zp : paidE [e] = (if e.1.kind = 4 then ofV 1 e.2 else 0) := by show _ + 0 = _; omega
  refine ⟨?_, ?_, ?_, ?_, ?_, ?_, ?_, fun v hv => ?_⟩
  · rw [sumE_app, z]; omega
  · rw [sumE_app, z]; omega
  · rw [sumE_app, z]; omega
  · rw [sumE_app, z]; omega
  · rw [sumE_app, z]; omega
  · rw [sumE_app, z]; omega
  · rw [paidE_app, zp]; omega
  · rcases List.mem_append.1 hv with hv | hv
    · exact h.ok v hv
    · rw [List.mem_singleton] at hv
      rw [hv]
      exact ok
theorem StB.sml {S : Sto} {k : Int} {x : St} (h : StB S k x) (hk : k ≤ 10000000000000000) : sml x.fees ∧ sml x.int ∧ sml x.prin := by
  have h1 := h.fees; have h2 := h.int; have h3 := h.prin
  unfold Go.Proofs.YtjlfjjgjghdokaaGreatDoor.sml
  omega
theorem acc_pay {S : Sto} {k b : Int} {x : St} {E : List (Key × List Leg)} {ky : Key} {n : Int} (h : Acc b x E) (hx : StB S k x) (hk : k ≤ 10000000000000000) (hn : 0 ≤ n ∧ n ≤ 1000000000000) (hkd : ky.kind = 4) (hd : dayB ky.day = true) : Acc b (payF x n) (E ++ [(ky, refMade (payL x n))]) := by
  have h1 := hx.fees; have h2 := hx.int; have h3 := hx.prin
  have hns : sml n := by unfold sml; omega
  unfold payF payL
  split
  · rw [mk_up (by decide) (by decide) (by decide) hns (sml_neg hns)]
    refine h.snoc (two_ok (by omega) hd (by decide) (by decide) (by decide) hns (fun _ => ⟨rfl, rfl⟩)) ⟨?_, ?_, ?_, ?_, ?_, ?_, ?_⟩
    all_goals simp [ofV, hkd]
    all_goals omega
  · have pb := pay_bd h1.1 h2.1 h3.1 hn.1
    have b1 := pb.hf; have b2 := pb.hi; have b3 := pb.hp; have b4 := pb.hl; have b5 := pb.hs
    have q1 : sml (goF x.fees n) := by unfold sml; omega
    have q2 : sml (goI x.fees x.int n) := by unfold sml; omega
    have q3 : sml (goP x.fees x.int x.prin n) := by unfold sml; omega
    have q4 : sml (goL x.fees x.int x.prin n) := by unfold sml; omega
    rw [mk_pay q1 q2 q3 hns q4]
    refine h.snoc (pay_ok hkd hd q1 q2 q3 hns q4 b5) ⟨?_, ?_, ?_, ?_, ?_, ?_, ?_⟩
    all_goals simp [ofV, hkd]
    all_goals omega
/-- Events that may be, each with a number of its own. -/
structure LOk (l : List Ev) : Prop where
  ev : ∀ e, e ∈ l → EvA e ∧ 4 ≤ e.kind ∧ e.kind ≤ 7
  nd : (l.map Ev.seq).Nodup
theorem LOk.tail {e : Ev} {r : List Ev} (h : LOk (e :: r)) : LOk r := ⟨fun v hv => h.ev v (List.mem_cons_of_mem _ hv), (List.nodup_cons.1 (by have := h.nd; rwa [List.map_cons] at this)).2⟩
theorem LOk.perm {l m : List Ev} (h : LOk l) (p : m.Perm l) : LOk m := ⟨fun v hv => h.ev v (p.mem_iff.1 hv), (p.map Ev.seq).nodup_iff.2 h.nd⟩
theorem acc_event {S : Sto} {k b day : Int} {x : St} {E : List (Key × List Leg)} {e : Ev} (h : Acc b x E) (hx : StB S k x) (hk : k ≤ 10000000000000000) (he : EvA e ∧ 4 ≤ e.kind ∧ e.kind ≤ 7) (hd : dayB day = true) : Acc b (eventF x e).1 (E ++ entOf S day e (eventF x e).2) := by
  have h1 := hx.fees; have h2 := hx.int; have h3 := hx.prin
  have ha := he.1
  have ha1 : 0 ≤ e.amt := ha.1
  have ha2 : e.amt ≤ 1000000000000 := ha.2
  have hns : sml e.amt := by unfold sml; omega
  unfold eventF
  split
  · rename_i q
    exact (acc_pay (ky := ⟨S.loan, day, e.kind, e.seq⟩) h hx hk ⟨ha1, ha2⟩ q hd).close
  · split
    · show Acc b x (E ++ [])
      rw [List.append_nil]
      exact h
    · split
      · rename_i q4 q1 q5
        refine Acc.close ?_
        show Acc b _ (E ++ [(_, refMade [⟨4, e.amt⟩, ⟨7, -e.amt⟩])])
        rw [mk_up (by decide) (by decide) (by decide) hns (sml_neg hns)]
        refine h.snoc (two_ok (k := ⟨S.loan, day, e.kind, e.seq⟩) (by simp only; omega) hd (by decide) (by decide) (by decide) hns (fun q => absurd q q4)) ⟨?_, ?_, ?_, ?_, ?_, ?_, ?_⟩
        all_goals simp [ofV, q4]
      · split
        · rename_i q4 q1 q5 q6
          have hm := mn_bd h1.1 ha1
          have hms : sml (mn x.fees e.amt) := by unfold sml; omega
          refine Acc.close ?_
          show Acc b _ (E ++ [(_, refMade [⟨7, mn x.fees e.amt⟩, ⟨4, -mn x.fees e.amt⟩])])
          rw [mk_dn (by decide) (by decide) (by decide) (sml_neg hms) hms]
          have ok := two_ok (k := ⟨S.loan, day, e.kind, e.seq⟩) (a := 4) (b := 7) (n := -mn x.fees e.amt) (by simp only; omega) hd (by decide) (by decide) (by decide) (sml_neg hms) (fun q => absurd q q4)
          rw [Int.neg_neg] at ok
          refine h.snoc ok ⟨?_, ?_, ?_, ?_, ?_, ?_, ?_⟩
          all_goals simp [ofV, q4]
          all_goals omega
        · split
          · rename_i q4 q1 q5 q6 q7
            obtain ⟨s1, s2, s3⟩ := hx.sml hk
            have s4 : sml (x.fees + x.int + x.prin) := by unfold sml; omega
            show Acc b (closeF { x with fees := 0, int := 0, prin := 0, status := 3 }) (E ++ [(⟨S.loan, day, e.kind, e.seq⟩, refMade (ptL x.fees x.int x.prin ++ [⟨8, x.fees + x.int + x.prin⟩]))])
            refine Acc.close ?_
            rw [mk_off s1 s2 s3 s4]
            refine h.snoc (off_ok (k := ⟨S.loan, day, e.kind, e.seq⟩) q7 hd s1 s2 s3 s4) ⟨?_, ?_, ?_, ?_, ?_, ?_, ?_⟩
            all_goals simp [ofV, q4]
            all_goals omega
          · show Acc b (closeF x) (E ++ [])
            rw [List.append_nil]
            exact h.close
theorem acc_late {b : Int} {t : Tm} {loan day paid : Int} (hf : 0 ≤ t.fee ∧ t.fee ≤ 1000000000) (hd : dayB day = true) (x : St) : ∀ (l : List (Int × Int)) (i : Nat) (f : Int) (E : List (Key × List Leg)), Acc b { x with fees := f } E → Acc b { x with fees := (lateGo t loan day paid l i f).2.1 } (E ++ (lateGo t loan day paid l i f).2.2)
  | [], i, f, E, h => by
    show Acc b { x with fees := f } (E ++ [])
    rw [List.append_nil]
    exact h
  | d :: r, i, f, E, h => by
    have hns : sml t.fee := by unfold sml; omega
    by_cases q1 : d.1 + t.grace ≤ day
    · by_cases q2 : paid < d.2 ∧ 0 < t.fee
      · rw [lateGo_yes q1 q2]
        show Acc b { x with fees := (lateGo t loan day paid r (i + 1) (f + t.fee)).2.1 } (E ++ ([(⟨loan, day, 3, (i : Int) + 1⟩, refMade [⟨4, t.fee⟩, ⟨7, -t.fee⟩])] ++ (lateGo t loan day paid r (i + 1) (f + t.fee)).2.2))
        rw [← List.append_assoc]
        refine acc_late hf hd x r (i + 1) (f + t.fee) _ ?_
        rw [mk_up (by decide) (by decide) (by decide) hns (sml_neg hns)]
        refine h.snoc (two_ok (k := ⟨loan, day, 3, (i : Int) + 1⟩) (by show (1 : Int) ≤ 3 ∧ (3 : Int) ≤ 7; decide) hd (by decide) (by decide) (by decide) hns (fun q => absurd (show (3 : Int) = 4 from q) (by decide))) ⟨?_, ?_, ?_, ?_, ?_, ?_, ?_⟩
        all_goals simp [ofV]
      · rw [lateGo_no q1 q2]
        exact acc_late hf hd x r (i + 1) f E h
    · rw [lateGo_stop q1]
      show Acc b { x with fees := f } (E ++ [])
      rw [List.append_nil]
      exact h
theorem acc_night {S : Sto} (hS : StoOk S) {k b day : Int} {x : St} {next : Nat} {E : List (Key × List Leg)} (h : Acc b x E) (hx : StB S k x) (hd : dayB day = true) : Acc b (nightF S day x next).1 (E ++ (nightF S day x next).2.2) := by
  have hb := brings_bd (b := S.t.basis) ⟨hS.tin.parts.1, hS.ok.parts⟩ hx.prin hx.carry hd
  have b1 := hb.n
  have hns : sml (brings S.t.parts S.t.basis x.prin x.carry day).1 := by unfold sml; omega
  unfold nightF
  split
  · have h1 := acc_late (loan := S.loan) (paid := x.paid) hS.ok.fee hd x (S.dues.drop next) next x.fees E h
    show Acc b _ (E ++ (_ ++ [(_, refMade [⟨3, (brings S.t.parts S.t.basis x.prin x.carry day).1⟩, ⟨6, -(brings S.t.parts S.t.basis x.prin x.carry day).1⟩])]))
    rw [← List.append_assoc, mk_up (by decide) (by decide) (by decide) hns (sml_neg hns)]
    refine h1.snoc (two_ok (k := ⟨S.loan, day, 2, 0⟩) (by show (1 : Int) ≤ 2 ∧ (2 : Int) ≤ 7; decide) hd (by decide) (by decide) (by decide) hns (fun q => absurd (show (2 : Int) = 4 from q) (by decide))) ⟨?_, ?_, ?_, ?_, ?_, ?_, ?_⟩
    all_goals simp [ofV]
  · show Acc b x (E ++ [])
    rw [List.append_nil]
    exact h
/-! Keys. -/
structure KI (D : Int) (l : List Ev) (next : Nat) (E : List (Key × List Leg)) : Prop where
  nd : (E.map Prod.fst).Nodup
  k2 : ∀ e, e ∈ E → e.1.kind = 2 → e.1.day < D
  k3 : ∀ e, e ∈ E → e.1.kind = 3 → e.1.seq ≤ next
  k4 : ∀ e, e ∈ E → 4 ≤ e.1.kind → ∀ v, v ∈ l → v.seq ≠ e.1.seq
theorem nd_snoc {E : List (Key × List Leg)} {e : Key × List Leg} (h : (E.map Prod.fst).Nodup) (hn : ∀ v, v ∈ E → v.1 ≠ e.1) : ((E ++ [e]).map Prod.fst).Nodup := by
  rw [List.map_append]
  refine List.nodup_append.2 ⟨h, by simp, fun a ha b hb => ?_⟩
  obtain ⟨v, hv, rfl⟩ := List.mem_map.1 ha
  simp only [List.map_cons, List.map_nil, List.mem_singleton] at hb
  rw [hb]
  exact hn v hv
theorem ki_event {S : Sto} {D day : Int} {l : List Ev} {next : Nat} {E : List (Key × List Leg)} {e : Ev} (h : KI D (e :: l) next E) (hl : LOk (e :: l)) (o : Option (List Leg)) : KI D l next (E ++ entOf S day e o) := by
  have hk := (hl.ev e List.mem_cons_self).2
  have hnd := hl.nd
  rw [List.map_cons, List.nodup_cons] at hnd
  have h0 : KI D l next E := ⟨h.nd, h.k2, h.k3, fun v hv h4 u hu => h.k4 v hv h4 u (List.mem_cons_of_mem _ hu)⟩
  cases o with
  | none =>
    show KI D l next (E ++ [])
    rw [List.append_nil]
    exact h0
  | some ls =>
    show KI D l next (E ++ [(⟨S.loan, day, e.kind, e.seq⟩, refMade ls)])
    refine ⟨nd_snoc h.nd fun v hv q => ?_, fun v hv => ?_, fun v hv => ?_, fun v hv => ?_⟩
    · have q1 : v.1.kind = e.kind := congrArg Key.kind q
      have q2 : v.1.seq = e.seq := congrArg Key.seq q
      exact h.k4 v hv (by omega) e List.mem_cons_self q2.symm
    · rcases List.mem_append.1 hv with hv | hv
      · exact h.k2 v hv
      · rw [List.mem_singleton] at hv
        rw [hv]
        intro q
        have q : e.kind = 2 := q
        omega
    · rcases List.mem_append.1 hv with hv | hv
      · exact h.k3 v hv
      · rw [List.mem_singleton] at hv
        rw [hv]
        intro q
        have q : e.kind = 3 := q
        omega
    · rcases List.mem_append.1 hv with hv | hv
      · exact h0.k4 v hv
      · rw [List.mem_singleton] at hv
        rw [hv]
        intro _ u hu q
        exact hnd.1 (List.mem_map.2 ⟨u, hu, q⟩)
theorem ki_late {t : Tm} {loan day paid D : Int} {l : List Ev} : ∀ (ds : List (Int × Int)) (i : Nat) (f : Int) (E : List (Key × List Leg)), KI D l i E → KI D l (lateGo t loan day paid ds i f).1 (E ++ (lateGo t loan day paid ds i f).2.2)
  | [], i, f, E, h => by
    show KI D l i (E ++ [])
    rw [List.append_nil]
    exact h
  | d :: r, i, f, E, h => by
    by_cases q1 : d.1 + t.grace ≤ day
    · by_cases q2 : paid < d.2 ∧ 0 < t.fee
      · rw [lateGo_yes q1 q2]
        show KI D l (lateGo t loan day paid r (i + 1) (f + t.fee)).1 (E ++ ([(⟨loan, day, 3, (i : Int) + 1⟩, refMade [⟨4, t.fee⟩, ⟨7, -t.fee⟩])] ++ (lateGo t loan day paid r (i + 1) (f + t.fee)).2.2))
        rw [← List.append_assoc]
        refine ki_late r (i + 1) (f + t.fee) _ ⟨nd_snoc h.nd fun v hv q => ?_, fun v hv => ?_, fun v hv => ?_, fun v hv => ?_⟩
        · have q1 : v.1.kind = 3 := congrArg Key.kind q
          have q2 : v.1.seq = (i : Int) + 1 := congrArg Key.seq q
          have := h.k3 v hv q1
          omega
        · rcases List.mem_append.1 hv with hv | hv
          · exact h.k2 v hv
          · rw [List.mem_singleton] at hv
            rw [hv]
            intro q
            exact absurd (show (3 : Int) = 2 from q) (by decide)
        · rcases List.mem_append.1 hv with hv | hv
          · intro q; have := h.k3 v hv q; omega
          · rw [List.mem_singleton] at hv
            rw [hv]
            intro _
            show (i : Int) + 1 ≤ ((i + 1 : Nat) : Int)
            omega
        · rcases List.mem_append.1 hv with hv | hv
          · exact h.k4 v hv
          · rw [List.mem_singleton] at hv
            rw [hv]
            intro q
            exact absurd (show (4 : Int) ≤ 3 from q) (by decide)
      · rw [lateGo_no q1 q2]
        exact ki_late r (i + 1) f E ⟨h.nd, h.k2, fun v hv q => by have := h.k3 v hv q; omega, h.k4⟩
    · rw [lateGo_stop q1]
      show KI D l i (E ++ [])
      rw [List.append_nil]
      exact h
theorem ki_night {S : Sto} {day : Int} {x : St} {l : List Ev} {next : Nat} {E : List (Key × List Leg)} (h : KI day l next E) : KI (day + 1) l (nightF S day x next).2.1 (E ++ (nightF S day x next).2.2) := by
  unfold nightF
  split
  · have h1 := ki_late (t := S.t) (loan := S.loan) (day := day) (paid := x.paid) (S.dues.drop next) next x.fees E h
    show KI (day + 1) l (lateGo S.t S.loan day x.paid (S.dues.drop next) next x.fees).1 (E ++ (_ ++ [(⟨S.loan, day, 2, 0⟩, _)]))
    rw [← List.append_assoc]
    refine ⟨nd_snoc h1.nd fun v hv q => ?_, fun v hv => ?_, fun v hv => ?_, fun v hv => ?_⟩
    · have q1 : v.1.kind = 2 := congrArg Key.kind q
      have q2 : v.1.day = day := congrArg Key.day q
      have := h1.k2 v hv q1
      omega
    · rcases List.mem_append.1 hv with hv | hv
      · intro q; have := h1.k2 v hv q; omega
      · rw [List.mem_singleton] at hv
        rw [hv]
        intro _
        show day < day + 1
        omega
    · rcases List.mem_append.1 hv with hv | hv
      · exact h1.k3 v hv
      · rw [List.mem_singleton] at hv
        rw [hv]
        intro q
        exact absurd (show (2 : Int) = 3 from q) (by decide)
    · rcases List.mem_append.1 hv with hv | hv
      · exact h1.k4 v hv
      · rw [List.mem_singleton] at hv
        rw [hv]
        intro q
        exact absurd (show (4 : Int) ≤ 2 from q) (by decide)
  · show KI (day + 1) l next (E ++ [])
    rw [List.append_nil]
    exact ⟨h.nd, fun v hv q => by have := h.k2 v hv q; omega, h.k3, h.k4⟩
/-! Day by day. -/
structure AI (S : Sto) (D : Int) (s : TS) : Prop where
  acc : Acc S.t.prin s.x s.E
  ki : KI D s.l s.next s.E
  lok : LOk s.l
theorem ai_eat {S : Sto} {b day : Int} {next : Nat} (hd : dayB day = true) : ∀ (l : List Ev) (x : St) (k : Int) (E : List (Key × List Leg)), LOk l → StB S k x → k + 1000000000000 * (l.length : Int) ≤ 10000000000000000 → Acc b x E → KI day l next E → Acc b (eatF S day l x).1 (E ++ (eatF S day l x).2.2) ∧ KI day (eatF S day l x).2.1 next (E ++ (eatF S day l x).2.2) ∧ LOk (eatF S day l x).2.1
  | [], x, k, E, hl, hx, hk, ha, hi => by
    show Acc b x (E ++ []) ∧ KI day [] next (E ++ []) ∧ LOk []
    rw [List.append_nil]
    exact ⟨ha, hi, hl⟩
  | e :: r, x, k, E, hl, hx, hk, ha, hi => by
    have he := hl.ev e List.mem_cons_self
    rw [List.length_cons] at hk
    have hE : KI day r next E := ⟨hi.nd, hi.k2, hi.k3, fun v hv h4 u hu => hi.k4 v hv h4 u (List.mem_cons_of_mem _ hu)⟩
    unfold eatF
    split
    · split
      · have ih := ai_eat (S := S) (b := b) (next := next) hd r (eventF x e).1 (k + 1000000000000) (E ++ entOf S day e (eventF x e).2) hl.tail (event_StB hx he.1) (by omega) (acc_event ha hx (by omega) he hd) (ki_event hi hl _)
        rw [List.append_assoc] at ih
        exact ih
      · exact ai_eat (S := S) (b := b) (next := next) hd r x k E hl.tail hx (by omega) ha hE
    · show Acc b x (E ++ []) ∧ KI day (e :: r) next (E ++ []) ∧ LOk (e :: r)
      rw [List.append_nil]
      exact ⟨ha, hi, hl⟩
theorem ai_rest {S : Sto} (hS : StoOk S) {th day k : Int} {b : TS} (hd : dayB day = true) (hk : k + 19000000000000 ≤ 10000000000000000) (hl : b.l.length ≤ 19) (hx : StB S k b.x) (h : AI S day b) : AI S (day + 1) (if day ≤ th then sleepF S day (ateF S day b) else ateF S day b) := by
  obtain ⟨a1, a2, a3⟩ := ai_eat (S := S) (b := S.t.prin) (next := b.next) hd b.l b.x k b.E h.lok hx (by omega) h.acc h.ki
  have hq := eat_bd (S := S) (day := day) b.l b.x k (fun e he => (h.lok.ev e he).1) hx
  split
  · exact ⟨acc_night hS a1 hq.st hd, ki_night a2, a3⟩
  · exact ⟨a1, ⟨a2.nd, fun v hv q => by have := a2.k2 v hv q; omega, a2.k3, a2.k4⟩, a3⟩
theorem ai_days {S : Sto} (hS : StoOk S) {th : Int} (hth : th ≤ 3640000) {l : List Ev} (hl : l.length ≤ 19) (hok : LOk l) : ∀ i : Nat, i ≤ 300 → AI S (S.t.start + ((i + 1 : Nat) : Int)) (daysF S th ⟨st0, 0, l, []⟩ (i + 1))
  | 0, _ => by
    have h1 := hS.ok.start
    have hp := hS.ok.prin
    have hb := days_bd hS hth hl (fun e he => (hok.ev e he).1) 0
    have hbo := bo_of hS (day := S.t.start + ((0 : Nat) : Int)) hb
    have hps : sml S.t.prin := by unfold sml; omega
    have e : S.t.start + ((0 : Nat) : Int) = S.t.start := by omega
    have hbd : boardF S (S.t.start + ((0 : Nat) : Int)) ⟨st0, 0, l, []⟩ = ⟨{ st0 with prin := S.t.prin, status := 1 }, 0, l, [(⟨S.loan, S.t.start + ((0 : Nat) : Int), 1, 0⟩, refMade [⟨2, S.t.prin⟩, ⟨1, -S.t.prin⟩])]⟩ := by
      unfold boardF
      rw [if_pos e]
      rfl
    have h0 : AI S (S.t.start + ((0 : Nat) : Int)) (boardF S (S.t.start + ((0 : Nat) : Int)) ⟨st0, 0, l, []⟩) := by
      rw [hbd, mk_dn (by decide) (by decide) (by decide) (sml_neg hps) hps]
      have ok := two_ok (k := ⟨S.loan, S.t.start + ((0 : Nat) : Int), 1, 0⟩) (a := 1) (b := 2) (n := -S.t.prin) (by simp only; omega) (by simp only [dayB, Bool.and_eq_true, decide_eq_true_eq]; omega) (by decide) (by decide) (by decide) (sml_neg hps) (fun q => absurd q (by simp))
      rw [Int.neg_neg] at ok
      refine ⟨⟨?_, ?_, ?_, ?_, ?_, ?_, ?_, ?_⟩, ⟨?_, ?_, ?_, ?_⟩, hok⟩
      · simp [sumE, ofV]
      · simp [sumE, ofV]
      · simp [sumE, ofV]
      · simp [sumE, ofV]
      · simp [sumE, ofV]
      · simp [sumE, ofV]
      · simp [paidE]
      · intro v hv; rw [List.mem_singleton] at hv; rw [hv]; exact ok
      · simp
      · intro v hv; rw [List.mem_singleton] at hv; rw [hv]; intro q; exact absurd q (by simp)
      · intro v hv; rw [List.mem_singleton] at hv; rw [hv]; intro q; exact absurd q (by simp)
      · intro v hv; rw [List.mem_singleton] at hv; rw [hv]; intro q; exact absurd q (by simp)
    have hr := ai_rest hS (th := th) (by simp only [dayB, Bool.and_eq_true, decide_eq_true_eq]; omega) (by omega) hbo.l.1 hbo.x h0
    have e2 : S.t.start + ((0 : Nat) : Int) + 1 = S.t.start + ((0 + 1 : Nat) : Int) := by omega
    rw [e2] at hr
    exact hr
  | i + 1, hi => by
    have h1 := hS.ok.start
    have ih := ai_days hS hth hl hok i (by omega)
    have hb := days_bd hS hth hl (fun e he => (hok.ev e he).1) (i + 1)
    have hbd : boardF S (S.t.start + ((i + 1 : Nat) : Int)) (daysF S th ⟨st0, 0, l, []⟩ (i + 1)) = daysF S th ⟨st0, 0, l, []⟩ (i + 1) := by
      unfold boardF
      rw [if_neg (by omega)]
    have hr := ai_rest hS (th := th) (by simp only [dayB, Bool.and_eq_true, decide_eq_true_eq]; omega) (by omega) hb.l.1 hb.x ih
    have e2 : S.t.start + ((i + 1 : Nat) : Int) + 1 = S.t.start + ((i + 1 + 1 : Nat) : Int) := by omega
    rw [e2] at hr
    show AI S _ (oneDay S th (S.t.start + ((i + 1 : Nat) : Int)) (daysF S th ⟨st0, 0, l, []⟩ (i + 1)))
    unfold oneDay
    rw [hbd]
    exact hr
structure AddsL (S : Sto) (s : TS) : Prop where
  acc : Acc S.t.prin s.x s.E
  nd : (s.E.map Prod.fst).Nodup
  st : StB S 10000000000000000 s.x
end Go.Proofs.YtjlfjjgjghdokaaGreatDoor
set_option linter.unusedVariables false
namespace Go.Proofs.YtjlfjjgjghdokaaGreatDoor
open Go Go.Proofs Go.Wk
/-- The legs of a key that is live. -/
def lv (d : Led) (k : Key) : Option (List Leg) := (lk k d.live).bind fun i => (d.lns[i.toNat]?).map fun x => x.ls
theorem lk_at {d : Led} (hI : Inv d) {k : Key} {i : Int} (h : lk k d.live = some i) : 0 ≤ i ∧ ∃ x, d.lns[i.toNat]? = some x ∧ x.k = k ∧ x.of = 0 := by
  have h2 := hI.live k
  rw [h] at h2
  split at h2
  · rename_i h0
    have e := Option.some.inj h2
    obtain ⟨x, q1, q2, q3⟩ := hI.at_ k h0
    rw [← e] at q1 h0
    exact ⟨h0, x, q1, q2, q3⟩
  · cases h2
theorem lv_of {d : Led} {k : Key} {i : Int} {x : Ln} (h : lk k d.live = some i) (hx : d.lns[i.toNat]? = some x) : lv d k = some x.ls := by
  unfold lv
  rw [h]
  show (d.lns[i.toNat]?).map _ = _
  rw [hx]
  rfl
theorem lv_none {d : Led} (hI : Inv d) {k : Key} : lv d k = none ↔ lk k d.live = none := by
  constructor
  · intro h
    cases hq : lk k d.live with
    | none => rfl
    | some i =>
      obtain ⟨_, x, hx, _⟩ := lk_at hI hq
      rw [lv_of hq hx] at h
      cases h
  · intro h
    unfold lv
    rw [h]
    rfl
theorem lv_some {d : Led} (hI : Inv d) {k : Key} {ls : List Leg} (h : lv d k = some ls) : ∃ i x, lk k d.live = some i ∧ 0 ≤ i ∧ d.lns[i.toNat]? = some x ∧ x.k = k ∧ x.ls = ls := by
  cases hq : lk k d.live with
  | none => rw [(lv_none hI).2 hq] at h; cases h
  | some i =>
    obtain ⟨h0, x, hx, h1, _⟩ := lk_at hI hq
    rw [lv_of hq hx] at h
    exact ⟨i, x, rfl, h0, hx, h1, Option.some.inj h⟩
/-! All live entries. -/
def allOn (d : Led) (m : List (Key × Int)) : List (Key × List Leg) := m.filterMap (entAt d)
def allOf (d : Led) : List (Key × List Leg) := allOn d d.live
theorem ent_key {d : Led} {p : Key × Int} {e : Key × List Leg} (h : entAt d p = some e) : e.1 = p.1 := by
  unfold entAt at h
  cases hx : d.lns[p.2.toNat]? with
  | none => rw [hx] at h; cases h
  | some x => rw [hx] at h; rw [← Option.some.inj h]
theorem fm_filter {α β : Type} {f : α → Option β} {P : α → Bool} {Q : β → Bool} (h : ∀ a b, f a = some b → Q b = P a) : ∀ l : List α, (l.filter P).filterMap f = (l.filterMap f).filter Q
  | [] => rfl
  | a :: r => by
    have ih := fm_filter h r
    cases hf : f a with
    | none =>
      rw [List.filterMap_cons_none hf]
      by_cases hp : P a = true
      · rw [List.filter_cons_of_pos hp, List.filterMap_cons_none hf, ih]
      · rw [List.filter_cons_of_neg hp, ih]
    | some b =>
      have hq := h a b hf
      rw [List.filterMap_cons_some hf]
      by_cases hp : P a = true
      · rw [List.filter_cons_of_pos hp, List.filterMap_cons_some hf, List.filter_cons_of_pos (by rw [hq]; exact hp), ih]
      · rw [List.filter_cons_of_neg hp, List.filter_cons_of_neg (by rw [hq]; exact hp), ih]
theorem fm_congr {α β : Type} {f g : α → Option β} : ∀ {l : List α}, (∀ x, x ∈ l → f x = g x) → l.filterMap f = l.filterMap g
  | [], _ => rfl
  | a :: r, h => by
    have ih := fm_congr (f := f) (g := g) (l := r) fun x hx => h x (List.mem_cons_of_mem _ hx)
    have e := h a List.mem_cons_self
    cases hf : f a with
    | none => rw [List.filterMap_cons_none hf, List.filterMap_cons_none (by rw [← e]; exact hf), ih]
    | some b => rw [List.filterMap_cons_some hf, List.filterMap_cons_some (by rw [← e]; exact hf), ih]
theorem liveOf_eq (loan : Int) (d : Led) : liveOf loan d = (allOf d).filter fun e => decide (e.1.loan = loan) :=
  fm_filter (fun a b h => by rw [ent_key h]) d.live
theorem mem_allOf {d : Led} (hI : Inv d) {k : Key} {ls : List Leg} : (k, ls) ∈ allOf d ↔ lv d k = some ls := by
  unfold allOf allOn
  rw [List.mem_filterMap]
  constructor
  · rintro ⟨p, hp, he⟩
    obtain ⟨h0, x, hx, h1, _⟩ := live_at hI hp
    unfold entAt at he
    rw [hx] at he
    have he := Option.some.inj he
    have e1 : p.1 = k := congrArg Prod.fst he
    have e2 : x.ls = ls := congrArg Prod.snd he
    have hk : lk k d.live = some p.2 := by
      rw [← e1]
      exact lk_of_mem hI.nd (show (p.1, p.2) ∈ d.live from hp)
    rw [lv_of hk hx, e2]
  · intro h2
    obtain ⟨i, x, q1, q2, q3, q4, q5⟩ := lv_some hI h2
    refine ⟨(k, i), lk_mem q1, ?_⟩
    unfold entAt
    rw [q3, ← q5]
    rfl
theorem mem_liveOf {d : Led} (hI : Inv d) {loan : Int} {k : Key} {ls : List Leg} : (k, ls) ∈ liveOf loan d ↔ k.loan = loan ∧ lv d k = some ls := by
  rw [liveOf_eq, List.mem_filter, mem_allOf hI, decide_eq_true_eq]
  exact And.comm
theorem allOn_sub {d : Led} : ∀ (m : List (Key × Int)), ((allOn d m).map Prod.fst).Sublist (m.map Prod.fst)
  | [] => List.Sublist.refl _
  | p :: r => by
    have ih := allOn_sub (d := d) r
    unfold allOn at ih ⊢
    cases hx : entAt d p with
    | none => rw [List.filterMap_cons_none hx, List.map_cons]; exact ih.cons _
    | some e => rw [List.filterMap_cons_some hx, List.map_cons, List.map_cons, ent_key hx]; exact ih.cons_cons _
theorem all_nd {d : Led} (hI : Inv d) : ((allOf d).map Prod.fst).Nodup := hI.nd.sublist (allOn_sub d.live)
theorem keys_nd {loan : Int} {d : Led} (hI : Inv d) : ((liveOf loan d).map Prod.fst).Nodup := by
  rw [liveOf_eq]
  exact (all_nd hI).sublist (List.Sublist.map _ List.filter_sublist)
theorem nd_of_keys {E : List (Key × List Leg)} (h : (E.map Prod.fst).Nodup) : E.Nodup := List.Pairwise.of_map _ (fun a b hab e => hab (by rw [e])) h
theorem key_eq {E : List (Key × List Leg)} (h : (E.map Prod.fst).Nodup) {a b : Key × List Leg} (ha : a ∈ E) (hb : b ∈ E) (e : a.1 = b.1) : a = b := by
  induction E with
  | nil => cases ha
  | cons p r ih =>
    rw [List.map_cons, List.nodup_cons] at h
    rcases List.mem_cons.1 ha with qa | qa
    · rcases List.mem_cons.1 hb with qb | qb
      · rw [qa, qb]
      · have hq := List.mem_map_of_mem (f := Prod.fst) qb
        rw [← e, qa] at hq
        exact absurd hq h.1
    · rcases List.mem_cons.1 hb with qb | qb
      · have hq := List.mem_map_of_mem (f := Prod.fst) qa
        rw [e, qb] at hq
        exact absurd hq h.1
      · exact ih h.2 qa qb
/-! Sums, and how great they can be. -/
def iabs (n : Int) : Int := if n < 0 then -n else n
theorem iabs_bd (n : Int) : n ≤ iabs n ∧ -n ≤ iabs n ∧ 0 ≤ iabs n := by unfold iabs; split <;> omega
theorem iabs_le {n m : Int} (h1 : -m ≤ n) (h2 : n ≤ m) : iabs n ≤ m := by unfold iabs; split <;> omega
def absE (a : Int) : List (Key × List Leg) → Int
  | [] => 0
  | e :: r => iabs (ofV a e.2) + absE a r
theorem absE_app (a : Int) : ∀ l m, absE a (l ++ m) = absE a l + absE a m
  | [], m => by show absE a m = 0 + absE a m; omega
  | e :: r, m => by show iabs (ofV a e.2) + absE a (r ++ m) = iabs (ofV a e.2) + absE a r + absE a m; rw [absE_app a r m]; omega
theorem absE_pos (a : Int) : ∀ l, 0 ≤ absE a l
  | [] => Int.le_refl 0
  | e :: r => by
    have h1 := (iabs_bd (ofV a e.2)).2.2
    have h2 := absE_pos a r
    show 0 ≤ iabs (ofV a e.2) + absE a r
    omega
theorem absE_perm (a : Int) {l m : List (Key × List Leg)} (h : l.Perm m) : absE a l = absE a m := by
  induction h with
  | nil => rfl
  | cons x _ ih => show iabs _ + absE a _ = iabs _ + absE a _; rw [ih]
  | swap x y l => show iabs (ofV a y.2) + (iabs (ofV a x.2) + absE a l) = iabs (ofV a x.2) + (iabs (ofV a y.2) + absE a l); omega
  | trans _ _ h1 h2 => rw [h1, h2]
theorem sumE_abs (a : Int) : ∀ l, sumE a l ≤ absE a l ∧ -sumE a l ≤ absE a l
  | [] => ⟨Int.le_refl 0, Int.le_refl 0⟩
  | e :: r => by
    have h1 := iabs_bd (ofV a e.2)
    have h2 := sumE_abs a r
    show ofV a e.2 + sumE a r ≤ iabs (ofV a e.2) + absE a r ∧ -(ofV a e.2 + sumE a r) ≤ iabs (ofV a e.2) + absE a r
    omega
theorem absE_filter (a : Int) (p : Key × List Leg → Bool) : ∀ l, absE a (l.filter p) ≤ absE a l
  | [] => Int.le_refl 0
  | e :: r => by
    have h1 := (iabs_bd (ofV a e.2)).2.2
    have ih := absE_filter a p r
    by_cases h : p e = true
    · rw [List.filter_cons_of_pos h]
      show iabs (ofV a e.2) + absE a (r.filter p) ≤ iabs (ofV a e.2) + absE a r
      omega
    · rw [List.filter_cons_of_neg h]
      show absE a (r.filter p) ≤ iabs (ofV a e.2) + absE a r
      omega
theorem absE_sub (a : Int) : ∀ {l m : List (Key × List Leg)}, l.Nodup → (∀ e, e ∈ l → e ∈ m) → absE a l ≤ absE a m
  | [], m, _, _ => absE_pos a m
  | x :: r, m, hn, hs => by
    rw [List.nodup_cons] at hn
    have hx := hs x List.mem_cons_self
    have hp := List.perm_cons_erase hx
    have ih := absE_sub a (l := r) (m := m.erase x) hn.2 fun e he => (List.mem_erase_of_ne (fun q => hn.1 (by rw [← q]; exact he))).2 (hs e (List.mem_cons_of_mem _ he))
    rw [absE_perm a hp]
    show iabs _ + absE a r ≤ iabs _ + absE a (m.erase x)
    omega
theorem sumE_del {a : Int} {k : Key} {ls : List Leg} : ∀ {E : List (Key × List Leg)}, (E.map Prod.fst).Nodup → (k, ls) ∈ E → sumE a (E.filter fun e => decide (e.1 ≠ k)) = sumE a E - ofV a ls
  | [], _, h => by cases h
  | x :: r, hn, h => by
    have hn' := hn
    rw [List.map_cons, List.nodup_cons] at hn
    by_cases hk : x.1 = k
    · have e : (k, ls) = x := key_eq hn' h List.mem_cons_self hk.symm
      have hr : (r.filter fun e => decide (e.1 ≠ k)) = r := List.filter_eq_self.2 fun v hv => by
        rw [decide_eq_true_eq]
        intro q
        exact hn.1 (by rw [hk, ← q]; exact List.mem_map_of_mem hv)
      rw [List.filter_cons_of_neg (by rw [hk]; simp), hr, ← e]
      show sumE a r = ofV a ls + sumE a r - ofV a ls
      omega
    · have hm : (k, ls) ∈ r := by
        rcases List.mem_cons.1 h with q | q
        · exact absurd (congrArg Prod.fst q).symm hk
        · exact q
      rw [List.filter_cons_of_pos (by simp [hk])]
      show ofV a x.2 + sumE a (r.filter _) = ofV a x.2 + sumE a r - ofV a ls
      rw [sumE_del hn.2 hm]
      omega
theorem ofV_amt (a : Int) : ∀ ls : List Leg, (amtOf a ls).getD 0 = ofV a ls
  | [] => rfl
  | g :: r => by
    unfold amtOf ofV
    split
    · rfl
    · exact ofV_amt a r
/-- The sums are those of the live entries. -/
structure Bal (d : Led) : Prop where
  one : ∀ loan a, getS d.sums ⟨loan, a, false⟩ = sumE a (liveOf loan d)
  all : ∀ a, getS d.sums ⟨0, a, true⟩ = sumE a (allOf d)
theorem bal_nil : Bal ⟨[], [], []⟩ := ⟨fun _ _ => rfl, fun _ => rfl⟩
/-- No leg is great. -/
def Lgs (d : Led) : Prop := ∀ x, x ∈ d.lns → ∀ g, g ∈ x.ls → sml g.amt
/-- No sum can be greater than X, no leg is great. -/
structure LB (d : Led) (X : Int) : Prop where
  bal : Bal d
  abs : ∀ a, absE a (allOf d) ≤ X
  legs : Lgs d
theorem lb_nil : LB ⟨[], [], []⟩ 0 := ⟨bal_nil, fun _ => Int.le_refl 0, fun x hx => by cases hx⟩
theorem amt_sml {ls : List Leg} (h : ∀ g, g ∈ ls → sml g.amt) (a : Int) : sml (ofV a ls) := by
  rw [← ofV_amt]
  cases e : amtOf a ls with
  | none => exact ⟨by decide, by decide⟩
  | some v =>
    obtain ⟨g, hg, _, h2⟩ := amtOf_some e
    show sml v
    rw [← h2]
    exact h g hg
theorem LB.sums {d : Led} {X : Int} (hb : LB d X) (loan a : Int) : (-X ≤ getS d.sums ⟨loan, a, false⟩ ∧ getS d.sums ⟨loan, a, false⟩ ≤ X) ∧ (-X ≤ getS d.sums ⟨0, a, true⟩ ∧ getS d.sums ⟨0, a, true⟩ ≤ X) := by
  have h1 := sumE_abs a (liveOf loan d)
  have h2 := sumE_abs a (allOf d)
  have h3 := hb.abs a
  have h4 : absE a (liveOf loan d) ≤ absE a (allOf d) := by rw [liveOf_eq]; exact absE_filter a _ _
  rw [hb.bal.one, hb.bal.all]
  omega
theorem next_ok {d : Led} {X : Int} (hb : LB d X) (hX : X ≤ 8000000000000000000) {loan : Int} {ls : List Leg} (h : ∀ g, g ∈ ls → sml g.amt) : nextGo d.sums loan ls [] ≠ none := by
  intro hn
  obtain ⟨g, hg, hn⟩ := nextGo_none hn
  have h1 := hb.sums loan g.acct
  have h3 := h g hg
  unfold sml at h3
  refine hn ⟨?_, ?_⟩
  · simp only [in64, Bool.and_eq_true, decide_eq_true_eq]
    omega
  · simp only [in64, Bool.and_eq_true, decide_eq_true_eq]
    omega
structure PostR (d : Led) (k : Key) (ls : List Leg) (d' : Led) : Prop where
  inv : Inv d'
  live : d'.live = putL k (d.lns.length : Int) d.live
  lns : ∃ sv, d'.lns = d.lns ++ [⟨k, sv, 0, ls⟩]
  sums : ∀ p : Pr, getS d'.sums p = getS d.sums p + if p.loan = (if p.ctl = true then 0 else k.loan) then ofV p.acct ls else 0
  legs : Lgs d'
structure RevR (d : Led) (k : Key) (i : Int) (d' : Led) : Prop where
  inv : Inv d'
  live : d'.live = delL k d.live
  lns : ∃ x sv, d.lns[i.toNat]? = some x ∧ d'.lns = d.lns ++ [⟨x.k, sv, i + 1, x.ls.map negL⟩] ∧ ∀ p : Pr, getS d'.sums p = getS d.sums p - if p.loan = (if p.ctl = true then 0 else k.loan) then ofV p.acct x.ls else 0
  legs : Lgs d'
theorem lgs_more {d d' : Led} (h : Lgs d) {x : Ln} (hl : d'.lns = d.lns ++ [x]) (hx : ∀ g, g ∈ x.ls → sml g.amt) : Lgs d' := fun y hy => by
  rw [hl] at hy
  rcases List.mem_append.1 hy with hy | hy
  · exact h y hy
  · rw [List.mem_singleton] at hy
    rw [hy]
    exact hx
theorem ent_more {d d' : Led} (hI : Inv d) {x : Ln} (hl : d'.lns = d.lns ++ [x]) {p : Key × Int} (hp : p ∈ d.live) : entAt d' p = entAt d p := by
  obtain ⟨_, y, hy, _⟩ := live_at hI hp
  unfold entAt
  rw [hl, get_app hy, hy]
theorem all_post {d d' : Led} (hI : Inv d) {k : Key} {ls : List Leg} (hn : lk k d.live = none) (h : PostR d k ls d') : allOf d' = allOf d ++ [(k, ls)] := by
  obtain ⟨sv, hl⟩ := h.lns
  have hn2 : lkI k d.live 0 = none := by
    have := lkI_lk k d.live 0
    rw [hn] at this
    cases hq : lkI k d.live 0 with
    | none => rfl
    | some q => rw [hq] at this; cases this
  unfold allOf allOn
  rw [h.live, putL_none _ _ _ 0 hn2, List.filterMap_append, fm_congr (fun p hp => ent_more hI hl hp)]
  congr 1
  have e : entAt d' (k, (d.lns.length : Int)) = some (k, ls) := by
    unfold entAt
    rw [hl]
    show ((d.lns ++ [_])[((d.lns.length : Nat) : Int).toNat]?).map _ = _
    rw [Int.toNat_natCast, List.getElem?_append_right (Nat.le_refl _), Nat.sub_self]
    rfl
  rw [List.filterMap_cons_some e]
  rfl
theorem delL_filter {κ ν : Type} [DecidableEq κ] {k : κ} : ∀ {l : List (κ × ν)}, (l.map (·.1)).Nodup → delL k l = l.filter fun p => decide (p.1 ≠ k)
  | [], _ => rfl
  | p :: r, h => by
    rw [List.map_cons, List.nodup_cons] at h
    unfold delL
    split
    · rename_i e
      rw [List.filter_cons_of_neg (by rw [e]; simp)]
      refine (List.filter_eq_self.2 fun v hv => ?_).symm
      rw [decide_eq_true_eq]
      intro q
      exact h.1 (by rw [e, ← q]; exact List.mem_map_of_mem hv)
    · rename_i e
      rw [List.filter_cons_of_pos (by simp [e]), delL_filter h.2]
theorem all_rev {d d' : Led} (hI : Inv d) {k : Key} {i : Int} (h : RevR d k i d') : allOf d' = (allOf d).filter fun e => decide (e.1 ≠ k) := by
  obtain ⟨x, sv, hx, hl, _⟩ := h.lns
  unfold allOf allOn
  rw [h.live, delL_filter hI.nd, fm_congr (g := entAt d) (fun p hp => ent_more hI hl (List.mem_filter.1 hp).1)]
  exact fm_filter (fun a b q => by rw [ent_key q]) d.live
theorem bal_post {d d' : Led} (hI : Inv d) (hb : Bal d) {k : Key} {ls : List Leg} (hn : lk k d.live = none) (h : PostR d k ls d') : Bal d' := by
  have ha := all_post hI hn h
  refine ⟨fun loan a => ?_, fun a => ?_⟩
  · rw [liveOf_eq, ha, List.filter_append, sumE_app, ← liveOf_eq, ← hb.one, h.sums]
    congr 1
    show (if loan = k.loan then ofV a ls else 0) = _
    by_cases e : k.loan = loan
    · rw [if_pos e.symm, List.filter_cons_of_pos (by simp [e])]
      show _ = ofV a ls + 0
      omega
    · rw [if_neg (fun q => e q.symm), List.filter_cons_of_neg (by simp [e])]
      rfl
  · rw [ha, sumE_app, ← hb.all, h.sums]
    show _ + ofV a ls = _ + (ofV a ls + 0)
    omega
theorem bal_rev {d d' : Led} (hI : Inv d) (hb : Bal d) {k : Key} {i : Int} (hk : lk k d.live = some i) (h : RevR d k i d') : Bal d' := by
  have ha := all_rev hI h
  obtain ⟨x, sv, hx, _, hs⟩ := h.lns
  have hv := (mem_allOf hI).2 (lv_of hk hx)
  refine ⟨fun loan a => ?_, fun a => ?_⟩
  · have e0 : liveOf loan d' = (liveOf loan d).filter fun e => decide (e.1 ≠ k) := by
      rw [liveOf_eq, ha, liveOf_eq, List.filter_filter, List.filter_filter]
      refine List.filter_congr fun v _ => ?_
      rw [Bool.and_comm]
    rw [e0, hs, hb.one]
    show _ - (if loan = k.loan then ofV a x.ls else 0) = _
    by_cases e : k.loan = loan
    · rw [if_pos e.symm, sumE_del (keys_nd hI) (by rw [liveOf_eq, List.mem_filter]; exact ⟨hv, by simp [e]⟩)]
    · rw [if_neg (fun q => e q.symm)]
      have : ((liveOf loan d).filter fun e => decide (e.1 ≠ k)) = liveOf loan d := List.filter_eq_self.2 fun v hm => by
        rw [liveOf_eq, List.mem_filter, decide_eq_true_eq] at hm
        rw [decide_eq_true_eq]
        intro q
        exact e (by rw [← q]; exact hm.2)
      rw [this]
      omega
  · rw [ha, sumE_del (all_nd hI) hv, hs, hb.all]
    show _ - ofV a x.ls = _
    rfl
theorem lk_rev {d d' : Led} (hI : Inv d) {k : Key} {i : Int} (h : RevR d k i d') (q : Key) : lk q d'.live = if q = k then none else lk q d.live := by
  rw [h.live, lk_del hI.nd]
theorem lv_post {d d' : Led} (hI : Inv d) {k : Key} {ls : List Leg} (h : PostR d k ls d') (q : Key) : lv d' q = if q = k then some ls else lv d q := by
  obtain ⟨sv, hl⟩ := h.lns
  unfold lv
  rw [h.live, hl]
  by_cases e : q = k
  · rw [if_pos e, e, lk_put_eq]
    show ((d.lns ++ [_])[((d.lns.length : Nat) : Int).toNat]?).map _ = _
    rw [Int.toNat_natCast, List.getElem?_append_right (Nat.le_refl _), Nat.sub_self]
    rfl
  · rw [if_neg e, lk_put_ne e]
    cases hq : lk q d.live with
    | none => rfl
    | some j =>
      obtain ⟨_, y, hy, _⟩ := lk_at hI hq
      show ((d.lns ++ [_])[j.toNat]?).map _ = (d.lns[j.toNat]?).map _
      rw [get_app hy, hy]
theorem postNew (l : Nat) (d : Led) (hI : Inv d) (hd : d.lns.length ≤ 100000) (X : Int) (hb : LB d X) (hX : X ≤ 8000000000000000000) (k : Key) (hk : keyIn k) (hn : lk k d.live = none) (A : Option Addr) (n c : Nat) (ls : List Leg) (hr : rightB k ls = true) (hs : ∀ g, g ∈ ls → sml g.amt) (w : World) (M I : BS)
    (H : Hp ⟨w, M, I⟩ [ledO l d] [Sl legR (.slice A n c) ls, LnF d.lns] w) :
    Ctr Tryz.prog 62 [.pointer (some ⟨l, 0, none⟩), .agg #[.int .u32 k.loan, .int .i32 k.day, .int .u8 k.kind, .int .u32 k.seq, .slice A n c]] w M I (fun _ : Led => .nilIface) (fun d' => PostR d k ls d') (fun d' => [ledO l d']) (fun d' => [LnF d'.lns]) := by
  have h8 := (right_day hr).2.1
  refine (postX l d hI hd k hk A n c ls (by omega) w M I H).imp fun a w' hφ h => ?_
  obtain ⟨h1, h2⟩ := hφ
  unfold postS at h1
  rw [if_neg (by rw [hr]; decide), hn, if_neg (by decide)] at h1
  cases hq : nextGo d.sums k.loan ls [] with
  | none => exact absurd hq (next_ok hb hX hs)
  | some nx =>
    rw [hq] at h1
    obtain ⟨e1, e2, ⟨sv, e3⟩, e4⟩ := h1
    refine ⟨a.2, by rw [e1], ⟨h2.inv, e2, ⟨sv, e3⟩, fun p => ?_, lgs_more hb.legs e3 hs⟩, ?_⟩
    · rw [← ofV_amt]
      exact sums_more (rightB_rise hr) hq e4 p
    · rw [e1] at h
      exact Hp.keep h
theorem postTwice (l : Nat) (d : Led) (hI : Inv d) (hd : d.lns.length ≤ 100000) (k : Key) (hk : keyIn k) (hn : (lk k d.live).isSome = true) (A : Option Addr) (n c : Nat) (ls : List Leg) (hr : rightB k ls = true) (w : World) (M I : BS)
    (H : Hp ⟨w, M, I⟩ [ledO l d] [Sl legR (.slice A n c) ls, LnF d.lns] w) :
    Ctr Tryz.prog 62 [.pointer (some ⟨l, 0, none⟩), .agg #[.int .u32 k.loan, .int .i32 k.day, .int .u8 k.kind, .int .u32 k.seq, .slice A n c]] w M I (fun f : Nat => .iface 116 (.pointer (some ⟨f, 0, none⟩))) (fun _ => True) (fun f => [blk f [.int .u64 k.loan, .iface 100 (.int .i64 10)] 118, ledO l d]) (fun _ => [LnF d.lns]) := by
  have h8 := (right_day hr).2.1
  refine (postX l d hI hd k hk A n c ls (by omega) w M I H).imp fun a w' hφ h => ?_
  obtain ⟨h1, h2⟩ := hφ
  unfold postS at h1
  rw [if_neg (by rw [hr]; decide), if_pos hn] at h1
  obtain ⟨⟨f, e1⟩, e2⟩ := h1
  refine ⟨f, by rw [e1], trivial, ?_⟩
  rw [e1, e2] at h
  exact h
theorem turn_ok : ∀ {ls : List Leg} {s : Int}, (∀ g, g ∈ ls → sml g.amt) → -30000000000000000 * (10 - (ls.length : Int)) ≤ s → s ≤ 30000000000000000 * (10 - (ls.length : Int)) → turnGo s ls = true
  | [], s, _, _, _ => rfl
  | g :: r, s, h, h1, h2 => by
    have hg := h g List.mem_cons_self
    unfold sml at hg
    rw [List.length_cons] at h1 h2
    have hr := turn_ok (ls := r) (s := s + g.amt) (fun x hx => h x (List.mem_cons_of_mem _ hx)) (by omega) (by omega)
    unfold turnGo
    rw [hr, decide_eq_false (by omega), decide_eq_false (by omega)]
    rfl
theorem revGood (l : Nat) (d : Led) (hI : Inv d) (hd : d.lns.length ≤ 100000) (X : Int) (hb : LB d X) (hX : X ≤ 8000000000000000000) (k : Key) (hk : keyIn k) (i : Int) (hn : lk k d.live = some i) (w : World) (M I : BS)
    (H : Hp ⟨w, M, I⟩ [ledO l d] [LnF d.lns] w) :
    Ctr Tryz.prog 60 [.pointer (some ⟨l, 0, none⟩), keyV k] w M I (fun _ : Led => .nilIface) (fun d' => RevR d k i d') (fun d' => [ledO l d']) (fun d' => [LnF d'.lns]) := by
  refine (revX l d hI hd k hk w M I H).imp fun a w' hφ h => ?_
  obtain ⟨h1, h2⟩ := hφ
  unfold revS at h1
  rw [hn] at h1
  obtain ⟨x, hx, h1⟩ := h1
  have hm := List.mem_of_getElem? hx
  obtain ⟨ok1, ok2, ok3, ok4⟩ := hI.ok x hm
  have h8 := (right_day ok3).2.1
  have hsm := hb.legs x hm
  have hxk : x.k = k := by
    obtain ⟨_, y, hy, e, _⟩ := lk_at hI hn
    rw [hx] at hy
    rw [Option.some.inj hy]
    exact e
  have ht : turnGo 0 x.ls = true := turn_ok hsm (by omega) (by omega)
  have hne : ∀ g, g ∈ x.ls → g.amt ≠ -9223372036854775808 := fun g hg => by have := hsm g hg; unfold sml at this; omega
  have hneg : ∀ g, g ∈ x.ls.map negL → sml g.amt := fun g hg => by
    obtain ⟨y, hy, rfl⟩ := List.mem_map.1 hg
    exact sml_neg (hsm y hy)
  have hrn : rightB x.k (x.ls.map negL) = true := by rw [rightB_neg (fun g hg => ⟨hne g hg, (ok4 g hg).2⟩) ok3]; exact ht
  rw [if_neg (by rw [ok3]; decide), if_neg (by rw [ht]; decide)] at h1
  cases hq : nextGo d.sums x.k.loan (x.ls.map negL) [] with
  | none => exact absurd hq (next_ok hb hX hneg)
  | some nx =>
    rw [hq] at h1
    obtain ⟨e1, e2, ⟨sv, e3⟩, e4⟩ := h1
    refine ⟨a.2, by rw [e1], ⟨h2.inv, e2, ⟨x, sv, hx, e3, fun p => ?_⟩, lgs_more hb.legs e3 hneg⟩, ?_⟩
    · rw [sums_more (rightB_rise hrn) hq e4 p, amtOf_neg _ _ (fun g hg => ⟨hne g hg, ok4 g hg⟩), ofV_amt, hxk]
      split <;> omega
    · rw [e1] at h
      exact Hp.keep h
theorem liveGood (l : Nat) (d : Led) (hI : Inv d) (hd : d.lns.length ≤ 100000) (k : Key) (i : Nat) (x : Ln) (hlk : lk k d.live = some (i : Int)) (hi : d.lns[i]? = some x) (w : World) (M I : BS) (H : Hp ⟨w, M, I⟩ [ledO l d] [LnF d.lns] w) :
    Ctr Tryz.prog 63 [.pointer (some ⟨l, 0, none⟩), keyV k] w M I (fun a : SV => .tuple #[.agg #[.int .u32 x.k.loan, .int .i32 x.k.day, .int .u8 x.k.kind, .int .u32 x.k.seq, .slice a.A a.n a.c], .bool true]) (fun _ => True) (fun _ => [ledO l d]) (fun a => [Sl legR (.slice a.A a.n a.c) x.ls, LnF d.lns]) := by
  obtain ⟨ok1, ok2, ok3, ok4⟩ := hI.ok x (List.mem_of_getElem? hi)
  have h8 := (right_day ok3).2.1
  obtain ⟨m1, m2, s, hs, H1⟩ := ledOpen (l := l) (d := d) H
  refine (Ctr.frame H1 fun M I _ h => live_ l m1 m2 s d hd hs k i x hlk hi (by omega) _ M I h).imp fun a w' _ h => ?_
  exact ⟨a, rfl, trivial, Hp.keep (ledClose (l := l) (m1 := m1) (m2 := m2) (s := s) (d := d) h hs)⟩
theorem loanGood (l : Nat) (d : Led) (hI : Inv d) (hd : d.lns.length ≤ 100000) (loan : Int) (w : World) (M I : BS) (H : Hp ⟨w, M, I⟩ [ledO l d] [LnF d.lns] w) :
    Ctr Tryz.prog 33 [.pointer (some ⟨l, 0, none⟩), .int .u32 loan] w M I (fun h : Hd => .slice h.A h.es.length h.c) (fun h => (h.es.map kl).Perm (liveOf loan d) ∧ srtE h.es) (fun h => [ledO l d, row 71 5 (.slice h.A h.es.length h.c) h.es.length (ensC h.es)]) (fun h => [EnF h.es, LnF d.lns]) := by
  obtain ⟨m1, m2, s, hs, H1⟩ := ledOpen (l := l) (d := d) H
  refine (Ctr.frame H1 fun M I _ h => loanL l m1 m2 s d hI hd hs loan _ M I h).imp fun a w' hφ h => ?_
  exact ⟨a, rfl, hφ, Hp.keep (ledClose (l := l) (m1 := m1) (m2 := m2) (s := s) (d := d) h hs)⟩
end Go.Proofs.YtjlfjjgjghdokaaGreatDoor
