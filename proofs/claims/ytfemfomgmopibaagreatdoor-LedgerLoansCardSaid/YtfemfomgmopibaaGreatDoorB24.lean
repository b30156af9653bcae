/- The loans of which a ledger has lines, rising: the walk; LedgerLoans walked. -/
import Derived.Test.YtfemfomgmopibaaGreatDoorB23
set_option linter.unusedVariables false
namespace Go.Wk
section
variable {P : Program} {T : Tab} {K : Value → World → Prop} {w : World} {B : Base} {S S' : List Asn} {F : List Fact}
theorem mapLen_rule {κ ν : Type} {kf : κ → Value} {vf : ν → Value} {n : Nat} {l : List (κ × ν)} (hT : T.Ok P) (H : Hp B S F w) [hp : TakeM S n kf vf l S'] {t ty kt et : TypeId} {i : TypeInfo} {cst : List Bool} (ht : T t = some ⟨.map kt et, i⟩)
    (k : K (.int .i64 (l.length : Int)) w) : BuiltinK P K w .len [t] ty cst [.map (some n)] := by
  obtain ⟨fa, _, es, clock, h1, h2, _⟩ := H.own (A := mapO n kf vf l) (hp := ⟨hp.perm⟩)
  have hlen : es.size = l.length := by simpa using congrArg List.length h2
  refine BuiltinK.of (v := .int .i64 (l.length : Int)) (w' := w) ?_ k
  have hg : (getObj n).run P w = .ok (.map es clock) w := by simp [getObj, Sem.run, h1]
  simp [builtin, Builtin.len_, run_und hT ht, hg, goInt, hlen]
theorem idx_ownA (hT : T.Ok P) {t e : TypeId} {it : TypeInfo} {de : TD} {A : Option Addr} {b o n c : Nat} {kd : IntKind} {j : Int} (hA : A = some ⟨b, o, none⟩) (ht : T t = some ⟨.slice e, it⟩) (he : T e = some de) (h0 : 0 ≤ j) (h1 : j < n)
    (k : K (.pointer (some ⟨b, o + j.toNat * de.info.size, none⟩)) w) : IdxAddrK P K w t (.slice A n c) (.int kd j) := by
  subst hA
  exact idx_own hT ht he h0 h1 k
theorem row_ldA (hT : T.Ok P) (H : Hp B S F w) {A : Option Addr} {b o e sz n c : Nat} {cs : List Value} {t : TypeId} (v : Value) (hA : A = some ⟨b, 0, none⟩) [hp : TakeR S (.slice A n c) e sz n cs S'] (h : ldV (T t) cs o = some v) (k : K v w) : LoadK P K w t (.pointer (some ⟨b, o, none⟩)) := by
  subst hA
  obtain ⟨fa, ha⟩ := H.own (A := row e sz (.slice (some ⟨b, 0, none⟩) n c) n cs) (hp := ⟨hp.perm⟩)
  obtain ⟨_, _, hc, _⟩ := row_cells ha rfl
  have := hc.of_ld hT h
  rw [Nat.zero_add] at this
  exact this.load k
end
end Go.Wk
namespace Go.Proofs.YtfemfomgmopibaaGreatDoor
open Go Go.Proofs Go.Wk
/-! How many lines each loan has. -/
@[reducible] def bump (m : List (Int × Int)) (k : Int) : List (Int × Int) := putL k ((lk k m).getD 0 + 1) m
def cntL (ls : List Int) : List (Int × Int) := ls.foldl bump []
def lnLoans (xs : List Ln) : List Int := xs.map (·.k.loan)
theorem cntL_snoc (ls : List Int) (x : Int) : cntL (ls ++ [x]) = bump (cntL ls) x := by unfold cntL; rw [List.foldl_append]; rfl
theorem cnt_nd : ∀ (ls : List Int) (m : List (Int × Int)), (m.map (·.1)).Nodup → ((ls.foldl bump m).map (·.1)).Nodup
  | [], m, h => h
  | x :: r, m, h => cnt_nd r _ (nodup_put h)
theorem cnt_keys (p : Int) : ∀ (ls : List Int) (m : List (Int × Int)), p ∈ (ls.foldl bump m).map (·.1) ↔ p ∈ ls ∨ p ∈ m.map (·.1)
  | [], m => by simp
  | x :: r, m => by
    rw [List.foldl_cons, cnt_keys p r, bump, put_keys, List.mem_cons]
    constructor
    · rintro (h | h | h)
      · exact .inl (.inr h)
      · exact .inl (.inl h)
      · exact .inr h
    · rintro ((h | h) | h)
      · exact .inr (.inl h)
      · exact .inl h
      · exact .inr (.inr h)
theorem cnt_eq (p : Int) : ∀ (ls : List Int) (m : List (Int × Int)), (lk p (ls.foldl bump m)).getD 0 = (lk p m).getD 0 + ((ls.filter (· == p)).length : Int)
  | [], m => by simp
  | x :: r, m => by
    rw [List.foldl_cons, cnt_eq p r, bump]
    by_cases h : x = p
    · subst h
      rw [lk_put_eq, List.filter_cons_of_pos (by simp)]
      simp only [Option.getD_some, List.length_cons]
      omega
    · rw [lk_put_ne (Ne.symm h), List.filter_cons_of_neg (by simpa using h)]
theorem cnt_bd (ls : List Int) (p : Int) : 0 ≤ (lk p (cntL ls)).getD 0 ∧ (lk p (cntL ls)).getD 0 ≤ ls.length := by
  have h := cnt_eq p ls []
  have h2 := List.length_filter_le (· == p) ls
  unfold cntL
  rw [h]
  simp only [lk, Option.getD_none]
  omega
theorem cnt_pos {ls : List Int} {p : Int} : 0 < (lk p (cntL ls)).getD 0 ↔ p ∈ ls := by
  have h := cnt_eq p ls []
  unfold cntL
  rw [h]
  simp only [lk, Option.getD_none]
  constructor
  · intro hp
    have : 0 < (ls.filter (· == p)).length := by omega
    obtain ⟨y, hy⟩ := List.exists_mem_of_length_pos this
    have := List.mem_filter.1 hy
    have e : y = p := by simpa using this.2
    exact e ▸ this.1
  · intro hp
    have : p ∈ ls.filter (· == p) := List.mem_filter.2 ⟨hp, by simp⟩
    have := List.length_pos_of_mem this
    omega
theorem nodup_len : ∀ (S l : List Int), l.Nodup → (∀ x, x ∈ l → x ∈ S) → l.length ≤ S.length
  | [], l, _, h => by
    cases l with
    | nil => exact Nat.le_refl _
    | cons x r => exact absurd (h x List.mem_cons_self) (by simp)
  | a :: S, l, hn, h => by
    have h1 := nodup_len S (l.erase a) (hn.erase a) (fun x hx => by
      have hxl := List.mem_of_mem_erase hx
      rcases List.mem_cons.1 (h x hxl) with e | e
      · subst e
        exact absurd hx (List.Nodup.not_mem_erase hn)
      · exact e)
    have h2 : l.length ≤ (l.erase a).length + 1 := by
      rw [List.length_erase]
      split <;> omega
    simp only [List.length_cons]
    omega
theorem cnt_few {ls : List Int} (h : ∀ x, x ∈ ls → 0 ≤ x ∧ x < 5) : (cntL ls).length ≤ 5 := by
  have := nodup_len [0, 1, 2, 3, 4] ((cntL ls).map (·.1)) (cnt_nd ls [] List.nodup_nil) (fun x hx => by
    have := ((cnt_keys x ls []).1 hx).resolve_right (by simp)
    have := h x this
    simp
    omega)
  simpa using this
theorem getVI (m : List (Int × Int)) (p : Int) : Value.int .i64 ((lk p m).getD 0) = ((lk p m).map iV).getD (.int .i64 0) := by cases lk p m <;> rfl
theorem lnLoans_take {xs : List Ln} {i : Nat} {x : Ln} (h : xs[i]? = some x) : cntL (lnLoans (xs.take (i + 1))) = bump (cntL (lnLoans (xs.take i))) x.k.loan := by
  rw [List.take_add_one, h]
  unfold lnLoans
  rw [List.map_append]
  exact cntL_snoc _ _
set_option maxRecDepth 20000 in
theorem loansL (l m1 m2 : Nat) (s : SV) (xs : List Ln) (hx : xs.length ≤ 1000) (hsn : s.n = xs.length) (hlo : ∀ x, x ∈ lnLoans xs → 0 ≤ x ∧ x < 5) (w : World) (M I : BS) (H : Hp ⟨w, M, I⟩ [blk l [.slice s.A s.n s.c, .map (some m1), .map (some m2)] 85, row 69 6 (.slice s.A s.n s.c) s.n (lnsC xs)] [] w) :
    Ctr Tryz.prog 20 [.pointer (some ⟨l, 0, none⟩)] w M I (fun a : SV × List Int => .slice a.1.A a.1.n a.1.c) (fun a => a.2.Perm ((cntL (lnLoans xs)).map (·.1)) ∧ srtU a.2 ∧ a.1.n = a.2.length)
      (fun a => [row 23 1 (.slice a.1.A a.1.n a.1.c) a.1.n (u32sC a.2), blk l [.slice s.A s.n s.c, .map (some m1), .map (some m2)] 85, row 69 6 (.slice s.A s.n s.c) s.n (lnsC xs)]) (fun _ => []) := by
  refine Exe.of_ev tok Tryz.call20 Tryz.func20 rfl rfl rfl ?_
  refine makeMap_rule H u32V iV fun m w1 H1 => ?_
  refine load_rule tok H1 (v := .slice s.A s.n s.c) rfl ?_
  have H1 : Hp ⟨w, M, I⟩ [mapO m u32V iV (cntL (lnLoans (xs.take 0))), blk l [.slice s.A s.n s.c, .map (some m1), .map (some m2)] 85, row 69 6 (.slice s.A s.n s.c) s.n (lnsC xs)] [] w1 := H1
  refine loop_rule tok (σ := Nat) 67092512 (fun i => [(14, .int .i64 (i : Int))]) (fun i w' => i ≤ s.n ∧ Hp ⟨w, M, I⟩ [mapO m u32V iV (cntL (lnLoans (xs.take i))), blk l [.slice s.A s.n s.c, .map (some m1), .map (some m2)] 85, row 69 6 (.slice s.A s.n s.c) s.n (lnsC xs)] [] w') (fun i => s.n - i) 0 rfl rfl ⟨rfl, trivial⟩ ⟨Nat.zero_le _, H1⟩ ?_
  intro i j w2 hW
  have hi := hW.1
  have H2 := hW.2
  refine brd (fun hlt => ?_) (fun hge => ?_)
  · have hlt' : i < xs.length := by omega
    have ew : IntKind.i64.wrap ((i : Int) + 1) = ((i + 1 : Nat) : Int) := w64 (by omega) (by omega)
    refine Exists.elim (H2.rowSome (A := s.A) (n := s.n) (c := s.c) (by omega)) fun b hA => ?_
    refine Exists.elim (⟨_, List.getElem?_eq_getElem hlt'⟩ : ∃ x, xs[i]? = some x) fun x hx => ?_
    have hcb := cnt_bd (lnLoans (xs.take i)) x.k.loan
    have hll : (lnLoans (xs.take i)).length ≤ 1000 := by unfold lnLoans; rw [List.length_map, List.length_take]; omega
    have ec : IntKind.i64.wrap ((lk x.k.loan (cntL (lnLoans (xs.take i)))).getD 0 + 1) = (lk x.k.loan (cntL (lnLoans (xs.take i)))).getD 0 + 1 := w64 (by omega) (by omega)
    refine idx_ownA tok hA rfl rfl (by omega) hlt ?_
    refine row_ldA tok H2 (A := s.A) (n := s.n) (c := s.c) (lnV x) hA (ln_get hx) ?_
    refine alloc_as tok H2 lnZC rfl rfl rfl fun o w3 H3 => ?_
    refine store_as tok H3 (lnC x) rfl rfl rfl rfl rfl fun w4 H4 => ?_
    refine load_rule tok H4 (v := .int .u32 x.k.loan) rfl ?_
    refine lookup_rule tok H4 (n := m) (k := x.k.loan) (v := .int .i64 ((lk x.k.loan (cntL (lnLoans (xs.take i)))).getD 0)) rfl rfl rfl (int_keys tok rfl) rfl (getVI _ _) ?_
    refine mapUpd_rule tok H4 (n := m) (k := x.k.loan) (v := (lk x.k.loan (cntL (lnLoans (xs.take i)))).getD 0 + 1) rfl (int_keys tok rfl) rfl (congrArg (Value.int .i64) ec) fun w5 H5 => ?_
    have H5 : Hp ⟨w, M, I⟩ [mapO m u32V iV (bump (cntL (lnLoans (xs.take i))) x.k.loan), blk l [.slice s.A s.n s.c, .map (some m1), .map (some m2)] 85, row 69 6 (.slice s.A s.n s.c) s.n (lnsC xs)] [] w5 := Hp.keep H5
    rw [← lnLoans_take hx] at H5
    exact Exists.intro (i + 1) (And.intro ⟨congrArg (Value.int .i64) ew, trivial⟩ (And.intro (by show s.n - (i + 1) < s.n - i; omega) ⟨by show i + 1 ≤ s.n; omega, H5⟩))
  · have et : xs.take i = xs := List.take_of_length_le (by omega)
    rw [et] at H2
    refine call_rule H2 (fun M I _ h => keysU m (cntL (lnLoans xs)) _ M I h) fun b w3 _ H3 => ?_
    refine call_rule H3 (fun M I _ h => sortedU b m (cntL (lnLoans xs)) (Nat.le_trans (cnt_few hlo) (by decide)) _ M I h) fun a w4 ha H4 => ?_
    exact Exists.intro a (And.intro rfl (And.intro ha (Hp.keep H4)))
theorem loansX (l : Nat) (d : Led) (hx : d.lns.length ≤ 1000) (hlo : ∀ x, x ∈ lnLoans d.lns → 0 ≤ x ∧ x < 5) (w : World) (M I : BS) (H : Hp ⟨w, M, I⟩ [ledO l d] [] w) :
    Ctr Tryz.prog 20 [.pointer (some ⟨l, 0, none⟩)] w M I (fun a : SV × List Int => .slice a.1.A a.1.n a.1.c) (fun a => a.2.Perm ((cntL (lnLoans d.lns)).map (·.1)) ∧ srtU a.2 ∧ a.1.n = a.2.length)
      (fun a => [row 23 1 (.slice a.1.A a.1.n a.1.c) a.1.n (u32sC a.2), ledO l d]) (fun _ => []) := by
  obtain ⟨m1, m2, s, hs, H1⟩ := ledOpen (l := l) (d := d) H
  refine (Ctr.frame H1 fun M I _ h => loansL l m1 m2 s d.lns hx hs hlo _ M I h).imp fun a w' ha h => ?_
  exact ⟨a, rfl, ha, Hp.keep (ledClose (l := l) (m1 := m1) (m2 := m2) (s := s) (d := d) h hs)⟩
theorem loans_rise {xs ls : List Int} (hp : xs.Perm ((cntL ls).map (·.1))) (hs : srtU xs) {i : Nat} {a b : Int} (ha : xs[i]? = some a) (hb : xs[i + 1]? = some b) : a < b := by
  have hnd : xs.Nodup := hp.nodup_iff.2 (cnt_nd ls [] List.nodup_nil)
  obtain ⟨h1, h1e⟩ := List.getElem?_eq_some_iff.1 ha
  obtain ⟨h2, h2e⟩ := List.getElem?_eq_some_iff.1 hb
  have hle := List.pairwise_iff_getElem.1 hs i (i + 1) h1 h2 (by omega)
  have hne := List.pairwise_iff_getElem.1 hnd i (i + 1) h1 h2 (by omega)
  rw [h1e, h2e] at hle hne
  omega
theorem live_loan {d : Led} (hI : Inv d) {q : Key × Int} (hq : q ∈ d.live) : ∃ x, x ∈ d.lns ∧ x.k = q.1 := by
  have h2 := lk_of_mem hI.nd (k := q.1) (v := q.2) hq
  have h3 := hI.live q.1
  rw [h2] at h3
  split at h3
  · rename_i h0
    obtain ⟨x, hx, hxk, _⟩ := hI.at_ q.1 h0
    exact ⟨x, List.mem_of_getElem? hx, hxk⟩
  · cases h3
theorem lnLoans_sim {xs ys : List Ln} (h : xs.map stp = ys.map stp) : lnLoans xs = lnLoans ys := by
  have := congrArg (List.map (fun z : Key × Int × List Leg => z.1.loan)) h
  rw [List.map_map, List.map_map] at this
  exact this
end Go.Proofs.YtfemfomgmopibaaGreatDoor
