/- Something that was made since: it may be given up even where something was handed over. -/
import Derived.Test.YtjlfjjgjghdokaaGreatDoorLy15
set_option linter.unusedVariables false
namespace Go.Wk
open Go Go.Proofs
variable {P : Program} {T : Tab} {K : Value → World → Prop} {w : World} {B : Base} {S S' : List Asn} {F : List Fact}
/-- A, all of it at N or behind. -/
def Fr (N : Nat) (A : Asn) : Asn where
  at_ w fp := A.at_ w fp ∧ ∀ b, fp b → N ≤ b
  loc := fun ⟨h1, h2⟩ hk => ⟨A.loc h1 hk, h2⟩
  lt := fun ⟨h1, _⟩ hb => A.lt h1 hb
theorem Hp.head {A A' : Asn} (H : Hp B (A :: S) F w) (h : ∀ fp, A.at_ w fp → A'.at_ w fp) : Hp B (A' :: S) F w := by
  obtain ⟨h1, h2, h3, h4, h5, I, fp, ⟨fa, fs, ha, hi, hd, hu, hs⟩, r⟩ := H
  exact ⟨h1, h2, h3, h4, h5, I, fp, ⟨fa, fs, h fa ha, hi, hd, hu, hs⟩, r⟩
theorem Hp.frLe {A : Asn} {N N' : Nat} (H : Hp B (Fr N A :: S) F w) (h : N' ≤ N) : Hp B (Fr N' A :: S) F w := H.head fun _ ⟨h1, h2⟩ => ⟨h1, fun b hb => Nat.le_trans h (h2 b hb)⟩
theorem Hp.frBlk {N n : Nat} {o : Obj} (H : Hp B (blkO n o :: S) F w) (h : N ≤ n) : Hp B (Fr N (blkO n o) :: S) F w := H.head fun fp ha => ⟨ha, fun b hb => by rw [(ha.1 b).1 hb]; exact h⟩
theorem Hp.freezeFr {A : Asn} {N : Nat} (h : Hp B (Fr N A :: S) F w) (hn : B.w.heap.size ≤ N) : Hp B S (A.frz :: F) w := by
  obtain ⟨h1, h2, h3, h4, h5, I, fp, ⟨fa, fs, ha, hi, hd, hu, hs⟩, hall, r1, r2, r3, r4, r5⟩ := h
  refine ⟨h1, h2, h3, h4, h5, fun b => I b ∨ fa b, fs, hs.keep (fun _ _ => rfl) ?_, ?_, ?_, fun b hb => .inl (r2 b hb), ?_, fun b hb => r4 b ((hu b).2 (.inr hb)), ?_⟩
  · rintro b hb (h | h)
    · exact r5 b ((hu b).2 (.inr hb)) h
    · exact hd b h hb
  · intro f hf
    rcases List.mem_cons.1 hf with rfl | hf
    · exact ⟨fa, ha.1, fun b hb => .inr hb⟩
    · exact f.mono (hall f hf) (fun b hb => .inl hb) fun _ _ => rfl
  · rintro b (h | h)
    · exact r1 b h
    · exact .inr (Nat.le_trans hn (ha.2 b h))
  · rintro b (h | h)
    · exact r3 b h
    · exact A.lt ha.1 h
  · rintro b hb (h | h)
    · exact r5 b ((hu b).2 (.inr hb)) h
    · exact hd b h hb
/-- A literal of a slice, made here. -/
theorem buildSlice_fr (hT : T.Ok P) (H : Hp B S F w) {t e : TypeId} {it : TypeInfo} {de : TD} {z : Value} {n : Nat} {parts : List (Nat × Value)} {cs : List Value} (ht : T t = some ⟨.slice e, it⟩) (he : T e = some de) (hz : de.info.zero = some z)
    (hs : seqParts de.info.size 0 parts = some cs) (hn : Nat.beq parts.length n = true) (hb : Nat.ble (n * de.info.size) 16777216 = true) (k : ∀ g w', Hp B (Fr B.w.heap.size (blk g cs e) :: S) F w' → K (.slice (some ⟨g, 0, none⟩) n n) w') : BuildSliceK P K w t n parts :=
  BuildSliceK.of (run_buildSlice hT ht he hz hs hn hb w) (k _ _ ((H.alloc _).frBlk H.size))
class TakeF (S : List Asn) (N : outParam Nat) (v : Value) (e sz n : outParam Nat) (cs : outParam (List Value)) (S' : outParam (List Asn)) : Prop where
  perm : S.Perm (Fr N (row e sz v n cs) :: S')
instance (priority := 2000) TakeF.here (N : Nat) (v : Value) (e sz n : Nat) (cs : List Value) (S : List Asn) : TakeF (Fr N (row e sz v n cs) :: S) N v e sz n cs S := ⟨.refl _⟩
instance (priority := 1000) TakeF.there (N : Nat) (v : Value) (e sz n : Nat) (cs : List Value) (b : Asn) (S S' : List Asn) [h : TakeF S N v e sz n cs S'] : TakeF (b :: S) N v e sz n cs (b :: S') := ⟨(h.perm.cons b).trans (.swap _ b S')⟩
theorem Hp.frRow {N g : Nat} {cs : List Value} {e : TypeId} (H : Hp B (Fr N (blk g cs e) :: S) F w) (sz n : Nat) (hl : cs.length = n * sz) (hm : n ≤ 9223372036854775807) : Hp B (Fr N (row e sz (.slice (some ⟨g, 0, none⟩) n n) n cs) :: S) F w := by
  obtain ⟨h1, h2, h3, h4, h5, I, fp, ⟨fa, fs, ha, hi, hd, hu, hs⟩, r⟩ := H
  have Hx : Hp B (blk g cs e :: S) F w := ⟨h1, h2, h3, h4, h5, I, fp, ⟨fa, fs, ha.1, hi, hd, hu, hs⟩, r⟩
  have Hy := Hx.toRow (g := g) sz n hl hm
  have hNg : N ≤ g := ha.2 g ((ha.1.1 g).2 rfl)
  exact Hy.head fun fp hf => ⟨hf, fun b hb => by
    have e := (hf.2 b).1 hb
    have e : some g = some b := e
    injection e with e
    omega⟩
/-- A row reads asx a list. -/
theorem Hp.frzRowFr (H : Hp B S F w) {S' : List Asn} {N e sz n : Nat} {v : Value} {cs : List Value} {α : Type} (r : Rp α) {xs : List α} [h1 : TakeF S N v e sz n cs S'] [h2 : InF F (Cl r cs xs)] (hM : B.w.heap.size ≤ N) (hsz : sz = r.sz) (hp : 0 < sz) : Hp B S' (Sl r v xs :: F) w := by
  refine ((H.perm h1.perm).freezeFr hM).facts fun I ha f hf => ?_
  rcases List.mem_cons.1 hf with rfl | hf
  · obtain ⟨fp, hrow, hi⟩ := ha _ List.mem_cons_self
    obtain ⟨q1, q2⟩ := ha _ (List.mem_cons_of_mem _ h2.mem)
    obtain ⟨A, c, rfl, hn, hcm, hA⟩ := row_shape hrow
    have hml : maxLen = 9223372036854775807 := rfl
    have hl := hrow.1.1
    subst hsz
    have hnx : n = xs.length := Nat.eq_of_mul_eq_mul_right hp (by rw [← hl, q1])
    refine ⟨A, c, by rw [← hnx], by omega, by omega, fun hA0 => ?_, fun i x hx => ?_⟩
    · subst hA0
      rcases hrow.1.2 with ⟨h, _⟩ | ⟨g, cap, cur, h, _⟩
      · injection h
      · injection h with h; cases h
    have hix : i < xs.length := (List.getElem?_eq_some_iff.1 hx).1
    obtain ⟨b, rfl⟩ := hA (by omega)
    obtain ⟨_, _, hcells, _, hfb⟩ := row_cells hrow rfl
    obtain ⟨p, ok, hcx, hfx⟩ := q2 i x hx
    refine ⟨b, 0, rfl, hi b hfb, p, ok, fun j u hj => ?_, hfx⟩
    rw [← hcx, List.getElem?_take] at hj
    split at hj
    · rw [List.getElem?_drop] at hj
      have := hcells _ _ hj
      rwa [Nat.zero_add] at this ⊢
    · cases hj
  · exact ha f (List.mem_cons_of_mem _ hf)
theorem append_fr (hT : T.Ok P) (H : Hp B S F w) {N e sz n m c b : Nat} {v : Value} {cs news : List Value} {S1 S2 : List Asn} {t t0 ty : TypeId} {it : TypeInfo} {de : TD} {z : Value} [h1 : TakeF S N v e sz n cs S1] [h2 : TakeB S1 b news t0 S2]
    {cst : List Bool} (ht : T t = some ⟨.slice e, it⟩) (he : T e = some de) (hz : de.info.zero = some z) (hzs : Nat.beq z.cells.size sz = true) (hsz : Nat.beq de.info.size sz = true) (hp : Nat.ble 1 sz = true) (hl : Nat.beq news.length (m * sz) = true) (ho : allOne news = true)
    (hb : (n + m) * de.info.bytes ≤ 140737488355328) (hm : n + m ≤ 140737488355328) (hN : N ≤ w.heap.size)
    (k : ∀ A c w', Hp B (Fr N (row e sz (.slice A (n + m) c) (n + m) (cs ++ news)) :: S2) F w' → K (.slice A (n + m) c) w') : BuiltinK P K w .append [t, t] ty cst [v, .slice (some ⟨b, 0, none⟩) m c] := by
  have H1 := H.perm h1.perm
  obtain ⟨fb, hfb⟩ := Hp.own (A := blk b news t0) (S' := Fr N (row e sz v n cs) :: S2) (hp := ⟨(h2.perm.cons _).trans (.swap _ _ _)⟩) H1
  obtain ⟨fa, hfa', hfaN⟩ := Hp.own (A := Fr N (row e sz v n cs)) (S' := S1) (hp := ⟨.refl _⟩) H1
  have hfa := hfa'
  have ho' : ∀ u ∈ news, u.oneCell' = true := by
    intro u hu
    clear k hfb H1 h2 H h1 hl
    induction news with
    | nil => cases hu
    | cons a r ih =>
      simp only [allOne, Bool.and_eq_true] at ho
      rcases List.mem_cons.1 hu with rfl | hu
      · exact ho.1
      · exact ih ho.2 hu
  have hsz' := Nat.eq_of_beq_eq_true hsz
  obtain ⟨v', w', hr, hown, hg, _, hat⟩ := run_append_own_at (P := P) w 0 t ty e de.info z sz de.info.bytes (hT t _ ht).1 (hT e _ he).2 hz hsz' rfl (Nat.eq_of_beq_eq_true hzs) (Nat.le_of_ble_eq_true hp) v n cs hfa.1 ⟨b, 0, none⟩ m c news (Nat.eq_of_beq_eq_true hl)
    (fun j u hj => by rw [add_plain]; exact blk_cells hfb j u hj) ho' (by unfold maxLen; omega) hb (Nat.zero_le _)
  have H2 : Hp B (Fr N (row e sz v' (n + m) (cs ++ news)) :: S1) F w' := by
    refine Hp.step (A := Fr N (row e sz v n cs)) (hp := ⟨.refl _⟩) H1 hg.os hg.tape hg.output hg.size fun fa ⟨ha, haN⟩ => ⟨fun k hk hn => hg.block k hk fun e => hn ((ha.2 k).2 e.symm), fun k => v'.ownBlock = some k, ⟨⟨hown, fun _ => Iff.rfl⟩, fun k hk => ?_⟩, fun k hk => ?_⟩
    · rcases hat with h | h
      · exact haN k ((ha.2 k).2 (h ▸ hk))
      · have hk : v'.ownBlock = some k := hk
        rw [h] at hk
        injection hk with hk
        omega
    · rcases hat with h | h
      · exact .inl ((ha.2 k).2 (h ▸ hk))
      · rw [h] at hk
        injection hk with hk
        subst hk
        exact .inr (Nat.le_refl _)
  obtain ⟨A, c', rfl, _⟩ := row_shape (w := w') (fp := fun k => v'.ownBlock = some k) ⟨hown, fun _ => Iff.rfl⟩
  refine BuiltinK.of (v := .slice A (n + m) c') (w' := w') ?_ (k A c' w' ?_)
  · simp only [builtin]
    rw [Sem.run_bind]
    have hr' : (Builtin.append_ [t, t].toArray ty [v, .slice (some ⟨b, 0, none⟩) m c].toArray).run P w = .ok (.slice A (n + m) c') w' := hr
    rw [hr']; rfl
  · exact (H2.perm ((h2.perm.cons _).trans (.swap _ _ _))).drop
end Go.Wk
set_option linter.unusedVariables false
namespace Go.Proofs.YtjlfjjgjghdokaaGreatDoor
open Go Go.Proofs Go.Wk
/-- An entry that was posted. -/
structure En where
  k : Key
  s : SV
  ls : List Leg
def enC (x : En) : List Value := [.int .u32 x.k.loan, .int .i32 x.k.day, .int .u8 x.k.kind, .int .u32 x.k.seq, .slice x.s.A x.s.n x.s.c]
@[reducible] def ensC (xs : List En) : List Value := flatL enC xs
def kl (e : En) : Key × List Leg := (e.k, e.ls)
def EnF (xs : List En) : Fact where
  holds w I := ∀ x, x ∈ xs → (Sl legR (.slice x.s.A x.s.n x.s.c) x.ls).holds w I
  mono := fun h hI hw x hx => (Sl legR _ _).mono (h x hx) hI hw
theorem hpEnNil {B : Base} {S : List Asn} {F : List Fact} {w : World} (H : Hp B S F w) : Hp B S (EnF [] :: F) w := H.facts fun I ha f hf => by
  rcases List.mem_cons.1 hf with rfl | hf
  · intro x hx; cases hx
  · exact ha f hf
/-- How a loan stands. -/
structure St where
  fees : Int
  int : Int
  prin : Int
  carry : Int
  paid : Int
  susp : Int
  recv : Int
  cash : Int
  status : Int
deriving DecidableEq
@[reducible] def stC (x : St) : List Value := [.int .i64 x.fees, .int .i64 x.int, .int .i64 x.prin, .int .u64 x.carry, .int .i64 x.paid, .int .i64 x.susp, .int .i64 x.recv, .int .i64 x.cash, .int .u8 x.status]
@[reducible] def stV (x : St) : Value := .agg #[.int .i64 x.fees, .int .i64 x.int, .int .i64 x.prin, .int .u64 x.carry, .int .i64 x.paid, .int .i64 x.susp, .int .i64 x.recv, .int .i64 x.cash, .int .u8 x.status]
/-- A story: its loan, its terms, what is due. -/
structure Sto where
  loan : Int
  t : Tm
  dues : List (Int × Int)
@[reducible] def stoC (S : Sto) (v : SV) : List Value := [.int .u32 S.loan, .int .u8 S.t.kind, .int .i64 S.t.prin, .int .u32 S.t.parts, .int .u8 S.t.basis, .int .i64 S.t.months, .int .i32 S.t.start, .int .i64 S.t.fee, .int .i64 S.t.grace, .slice v.A v.n v.c]
@[reducible] def telC (sb : Nat) (x : St) (day next : Int) (A : Option Addr) (n c : Nat) : List Value := [.pointer (some ⟨sb, 0, none⟩), .int .i64 x.fees, .int .i64 x.int, .int .i64 x.prin, .int .u64 x.carry, .int .i64 x.paid, .int .i64 x.susp, .int .i64 x.recv, .int .i64 x.cash, .int .u8 x.status, .int .i32 day, .int .i64 next, .slice A n c]
structure Hd where
  A : Option Addr
  c : Nat
  es : List En
@[reducible] def telA (p sb : Nat) (S : Sto) (dv : SV) (x : St) (day next : Int) (h : Hd) : List Asn := [blk p (telC sb x day next h.A h.es.length h.c) 124, row 71 5 (.slice h.A h.es.length h.c) h.es.length (ensC h.es), blk sb (stoC S dv) 120]
/-- The entries then. -/
def posted (h : Hd) (S : Sto) (day kind seq : Int) (legs : List Leg) (h' : Hd) : Prop := ∃ e, h'.es = h.es ++ [e] ∧ kl e = (⟨S.loan, day, kind, seq⟩, refMade legs)
set_option maxRecDepth 20000 in
set_option maxHeartbeats 1000000 in
theorem post (p sb : Nat) (S : Sto) (dv : SV) (x : St) (day next : Int) (h : Hd) (hl : h.es.length ≤ 1000000000) (kind seq : Int) (lA : Option Addr) (ln lc : Nat) (legs : List Leg) (h12 : legs.length ≤ 12) (hr : ∀ x, x ∈ legs → inK .u8 x.acct) (w : World) (M I : BS)
    (H : Hp ⟨w, M, I⟩ (telA p sb S dv x day next h) [EnF h.es, Sl legR (.slice lA ln lc) legs] w) :
    Ctr Tryz.prog 96 [.pointer (some ⟨p, 0, none⟩), .int .u8 kind, .int .u32 seq, .slice lA ln lc] w M I (fun _ : Hd => .tuple #[]) (fun h' => posted h S day kind seq legs h') (fun h' => telA p sb S dv x day next h') (fun h' => [EnF h'.es]) := by
  obtain ⟨A, c, ens⟩ := h
  simp only at hl H ⊢
  refine Exe.of_ev tok Tryz.call96 Tryz.func96 rfl rfl rfl ?_
  refine draw_rule (A := [blk p (telC sb x day next A ens.length c) 124, row 71 5 (.slice A ens.length c) ens.length (ensC ens)]) tok tdr H [5, 6, 7, 8, 9, 10, 11, 12, 13, 14, 15, 16, 17, 18, 19, 20, 1, 2, 3, 4, 21, 22, 0, 23, 24, 25] [0, 0, 2, 6, 14, 0, 32, 96, 224, 480, 992, 2016, 0, 4096, 12288, 28672, 0, 0, 262112, 0, 1048544, 2097120, 4194302, 8388607, 16777215, 33554431] rfl ?_
  refine pass_kept [blk p (telC sb x day next A ens.length c) 124] _ (fun X w h => load_rule tok h (v := .pointer (some ⟨sb, 0, none⟩)) rfl ⟨rfl, rfl⟩) ?_
  refine pass_rule _ (fun w h => load_rule tok h (v := .int .u32 S.loan) rfl ⟨rfl, rfl⟩) ?_
  refine pass_kept [blk p (telC sb x day next A ens.length c) 124] _ (fun X w h => load_rule tok h (v := .int .i32 day) rfl ⟨rfl, rfl⟩) ?_
  refine imp_rule (fun X wx h => call_rule h (fun M I h0 h => make ⟨S.loan, day, kind, seq⟩ lA ln lc legs h12 _ M I (h0 rfl) h) fun a w1 ha H1 => imp_done H1 ?_)
  refine pass_kept [blk p (telC sb x day next A ens.length c) 124] _ (fun X w h => load_rule tok h (v := .slice A ens.length c) rfl ⟨rfl, rfl⟩) ?_
  refine fresh_slice tok [.int .u32 S.loan, .int .i32 day, .int .u8 kind, .int .u32 seq, .slice a.1.A a.1.n a.1.c] rfl rfl rfl rfl rfl rfl rfl fun g => ?_
  refine imp_rule (fun X wx h => append_rule (v := .slice A ens.length c) (b := g) (m := 1) (c := 1) tok h rfl rfl rfl rfl rfl rfl rfl rfl (by show (ens.length + 1) * 40 ≤ _; omega) (by omega) fun A2 c2 w1 H1 => imp_done H1 ?_)
  refine imp_rule (fun X wx h => store_as tok h (telC sb x day next A2 (ens.length + 1) c2) rfl rfl rfl rfl rfl fun w1 H1 => imp_done H1 ?_)
  refine done_rule fun w5 H5 => ?_
  have H6 : Hp ⟨w, M, I⟩ [blk p (telC sb x day next A2 (ens.length + 1) c2) 124, row 71 5 (.slice A2 (ens.length + 1) c2) (ens.length + 1) (ensC ens ++ [.int .u32 S.loan, .int .i32 day, .int .u8 kind, .int .u32 seq, .slice a.1.A a.1.n a.1.c]), blk sb (stoC S dv) 120] [Sl legR (.slice a.1.A a.1.n a.1.c) a.2, EnF ens] w5 := Hp.keep H5
  have el : ensC ens ++ [.int .u32 S.loan, .int .i32 day, .int .u8 kind, .int .u32 seq, .slice a.1.A a.1.n a.1.c] = ensC (ens ++ [⟨⟨S.loan, day, kind, seq⟩, a.1, a.2⟩]) := (flatL_snoc (f := enC) ens (En.mk ⟨S.loan, day, kind, seq⟩ a.1 a.2)).symm
  have en : (ens ++ [En.mk ⟨S.loan, day, kind, seq⟩ a.1 a.2]).length = ens.length + 1 := by rw [List.length_append]; rfl
  rw [el, ← en] at H6
  have H7 : Hp ⟨w, M, I⟩ (telA p sb S dv x day next ⟨A2, c2, ens ++ [⟨⟨S.loan, day, kind, seq⟩, a.1, a.2⟩]⟩) [EnF (ens ++ [⟨⟨S.loan, day, kind, seq⟩, a.1, a.2⟩])] w5 := H6.facts fun I ha f hf => by
    rw [List.mem_singleton] at hf
    subst hf
    intro z hz
    rcases List.mem_append.1 hz with hz | hz
    · exact ha (EnF ens) (List.mem_cons_of_mem _ List.mem_cons_self) z hz
    · rw [List.mem_singleton] at hz
      subst hz
      exact ha _ List.mem_cons_self
  refine Exists.intro ⟨A2, c2, ens ++ [⟨⟨S.loan, day, kind, seq⟩, a.1, a.2⟩]⟩ (And.intro rfl (And.intro ⟨_, rfl, ?_⟩ H7))
  show (_, a.2) = _
  rw [made_ref hr ha]
/-- A row of legs, made here, is given up. -/
theorem frLegs {w : World} {B : Base} {S S' : List Asn} {F : List Fact} (H : Hp B S F w) {N : Nat} {v : Value} {e n : Nat} (ls : List Leg) (hM : B.w.heap.size ≤ N) [h1 : TakeF S N v e 2 n (legsC ls) S'] (hok : ∀ x, x ∈ ls → inK .u8 x.acct ∧ inK .i64 x.amt) : Hp B S' (Sl legR v ls :: F) w := by
  have hcl : ∀ i x, ls[i]? = some x → ∃ p : Unit, (inK .u8 x.acct ∧ inK .i64 x.amt) ∧ ((legsC ls).drop (i * 2)).take 2 = [.int .u8 x.acct, .int .i64 x.amt] ∧ ([] : List Fact) = [] := fun i x hx => by
    obtain ⟨hj, _⟩ := List.getElem?_eq_some_iff.1 hx
    refine ⟨(), hok x (List.mem_of_getElem? hx), ?_, rfl⟩
    rw [legsC_drop, List.drop_eq_getElem_cons hj]
    rw [List.getElem?_eq_getElem hj] at hx
    rw [Option.some.inj hx]
    rfl
  have H2 := (H.addCl legR (cs := legsC ls) (xs := ls) (legsC_len ls) hcl).frzRowFr (v := v) (xs := ls) legR hM rfl (by decide)
  refine H2.facts fun I ha f hf => ha f ?_
  rcases List.mem_cons.1 hf with rfl | hf
  · exact List.mem_cons_self
  · exact List.mem_cons_of_mem _ (List.mem_cons_of_mem _ hf)
theorem both (p sb : Nat) (S : Sto) (dv : SV) (x : St) (day next : Int) (h : Hd) (hl : h.es.length ≤ 1000000000) (kind seq deb cre n : Int) (hd : inK .u8 deb) (hc : inK .u8 cre) (hn : -9000000000000000000 ≤ n ∧ n ≤ 9000000000000000000) (w : World) (M I : BS)
    (H : Hp ⟨w, M, I⟩ (telA p sb S dv x day next h) [EnF h.es] w) :
    Ctr Tryz.prog 43 [.pointer (some ⟨p, 0, none⟩), .int .u8 kind, .int .u32 seq, .int .u8 deb, .int .u8 cre, .int .i64 n] w M I (fun _ : Hd => .tuple #[]) (fun h' => posted h S day kind seq [⟨deb, n⟩, ⟨cre, -n⟩] h') (fun h' => telA p sb S dv x day next h') (fun h' => [EnF h'.es]) := by
  obtain ⟨A, c, ens⟩ := h
  simp only at hl H ⊢
  have en : IntKind.i64.wrap (0 - n) = -n := by rw [i64w (by omega) (by omega)]; omega
  have hok : ∀ x, x ∈ [(⟨deb, n⟩ : Leg), ⟨cre, -n⟩] → inK .u8 x.acct ∧ inK .i64 x.amt := fun x hx => by
    rcases List.mem_cons.1 hx with rfl | hx
    · exact ⟨hd, by show (-9223372036854775808 : Int) ≤ n ∧ n ≤ 9223372036854775807; omega⟩
    · rw [List.mem_singleton] at hx
      subst hx
      exact ⟨hc, by show (-9223372036854775808 : Int) ≤ -n ∧ -n ≤ 9223372036854775807; omega⟩
  refine Exe.of_ev tok Tryz.call43 Tryz.func43 rfl rfl rfl ?_
  refine buildSlice_fr tok H (cs := [.int .u8 deb, .int .i64 n, .int .u8 cre, .int .i64 (IntKind.i64.wrap (0 - n))]) rfl rfl rfl rfl rfl rfl fun g w1 H1 => ?_
  rw [en] at H1
  have H2 : Hp ⟨w, M, I⟩ (telA p sb S dv x day next ⟨A, c, ens⟩) [Sl legR (.slice (some ⟨g, 0, none⟩) 2 2) [⟨deb, n⟩, ⟨cre, -n⟩], EnF ens] w1 := frLegs (N := w.heap.size) (v := .slice (some ⟨g, 0, none⟩) 2 2) (Hp.frRow (cs := legsC [⟨deb, n⟩, ⟨cre, -n⟩]) H1 2 2 rfl (by decide)) [⟨deb, n⟩, ⟨cre, -n⟩] (Nat.le_refl _) hok
  refine call_rule H2 (fun M I _ h => post p sb S dv x day next ⟨A, c, ens⟩ hl kind seq (some ⟨g, 0, none⟩) 2 2 [⟨deb, n⟩, ⟨cre, -n⟩] (by show 2 ≤ 12; decide) (fun x hx => (hok x hx).1) _ M I h) fun h' w2 hp H3 => ?_
  exact Exists.intro h' (And.intro rfl (And.intro hp (Hp.keep H3)))
end Go.Proofs.YtjlfjjgjghdokaaGreatDoor
set_option linter.unusedVariables false
namespace Go.Proofs.YtjlfjjgjghdokaaGreatDoor
open Go Go.Proofs Go.Wk
/-- How many days a day counts. -/
noncomputable def dayN (b n : Int) : Int := Classical.epsilon fun r => OneR b n r
theorem dayN_eq {b n r : Int} (h : OneR b n r) : dayN b n = r := (Classical.epsilon_spec (p := fun r => OneR b n r) ⟨r, h⟩).one h
/-- What a day brings, and what is carried on. -/
noncomputable def brings (parts b prin carry n : Int) : Int × Int := (((dayX parts.toNat prin.toNat (dayN b n).toNat carry.toNat / unitN b : Nat) : Int), ((dayX parts.toNat prin.toNat (dayN b n).toNat carry.toNat % unitN b : Nat) : Int))
theorem brings_of {pN p c : Nat} {b n : Int} {a : Nat × Nat} (h : DayR pN b p c n a) : brings pN b p c n = ((a.1 : Int), (a.2 : Int)) := by
  obtain ⟨r, h1, h2⟩ := h.ex
  unfold brings
  rw [dayN_eq h1, h2]
  rfl
theorem dayI (parts b prin carry n : Int) (h0 : 0 ≤ parts) (hr : rateB parts b = true) (hp0 : 0 ≤ prin) (hp : prin ≤ 1000000000000) (hn1 : dayB n = true) (hn2 : n < 3652058) (hc0 : 0 ≤ carry) (hc : carry < (unitN b : Int)) (w : World) (M I : BS) (H : Hp ⟨w, M, I⟩ [] [] w) :
    Ctr Tryz.prog 100 [rateV parts b, .int .i64 prin, .int .i32 n, .int .u64 carry] w M I (fun _ : Unit => .tuple #[.int .i64 (brings parts b prin carry n).1, .int .u64 (brings parts b prin carry n).2, .nilIface]) (fun _ => 0 ≤ (brings parts b prin carry n).1 ∧ (brings parts b prin carry n).1 ≤ 10000000000 ∧ 0 ≤ (brings parts b prin carry n).2 ∧ (brings parts b prin carry n).2 < (unitN b : Int)) (fun _ => []) (fun _ => []) := by
  have e1 : parts = ((parts.toNat : Nat) : Int) := by omega
  have e2 : prin = ((prin.toNat : Nat) : Int) := by omega
  have e3 : carry = ((carry.toNat : Nat) : Int) := by omega
  have hpp := rate_parts hr
  have hcn : carry.toNat < unitN b := by omega
  have h := day_ parts b n parts.toNat prin.toNat carry.toNat e1 hr (by omega) hn1 hn2 hcn w M I H
  rw [← e2, ← e3] at h
  refine h.imp fun a w' ha H' => ?_
  have hb := brings_of ha
  rw [← e1, ← e2, ← e3] at hb
  have b1 := ha.bd (by omega) (by omega) hcn
  have b2 := ha.carry
  refine ⟨(), ?_, ?_, H'⟩
  · rw [hb]
  · rw [hb]
    exact ⟨by omega, by omega, by omega, by omega⟩
/-- Late fees: what of the dues isn't looked at yet. -/
def lateGo (t : Tm) (loan day paid : Int) : List (Int × Int) → Nat → Int → Nat × Int × List (Key × List Leg)
  | [], i, f => (i, f, [])
  | d :: r, i, f => if d.1 + t.grace ≤ day then (if paid < d.2 ∧ 0 < t.fee then ((lateGo t loan day paid r (i + 1) (f + t.fee)).1, (lateGo t loan day paid r (i + 1) (f + t.fee)).2.1, (⟨loan, day, 3, (i : Int) + 1⟩, refMade [⟨4, t.fee⟩, ⟨7, -t.fee⟩]) :: (lateGo t loan day paid r (i + 1) (f + t.fee)).2.2) else lateGo t loan day paid r (i + 1) f) else (i, f, [])
structure StoOk (S : Sto) : Prop where
  tin : TmIn S.t
  ok : TmOk S.t
  days : ∀ d, d ∈ S.dues → 0 ≤ d.1 ∧ d.1 ≤ 3652058
  len : 1 ≤ S.dues.length ∧ S.dues.length ≤ 480
theorem StoOk.rate {S : Sto} (h : StoOk S) : rateB S.t.parts S.t.basis = true := by
  have h1 := h.ok.parts
  have h2 := h.ok.basis
  simp only [rateB, Bool.and_eq_true, decide_eq_true_eq]
  refine ⟨h1, ?_⟩
  rcases h2 with e | e <;> rw [e] <;> decide
structure StB (S : Sto) (k : Int) (x : St) : Prop where
  fees : 0 ≤ x.fees ∧ x.fees ≤ k
  int : 0 ≤ x.int ∧ x.int ≤ k
  prin : 0 ≤ x.prin ∧ x.prin ≤ 1000000000000
  carry : 0 ≤ x.carry ∧ x.carry < (unitN S.t.basis : Int)
  paid : 0 ≤ x.paid ∧ x.paid ≤ k
  susp : 0 ≤ x.susp ∧ x.susp ≤ k
  recv : 0 ≤ x.recv ∧ x.recv ≤ k
  cash : 0 ≤ x.cash ∧ x.cash ≤ k
noncomputable def nightF (S : Sto) (day : Int) (x : St) (next : Nat) : St × Nat × List (Key × List Leg) :=
  if x.status = 1 then
    ({ x with fees := (lateGo S.t S.loan day x.paid (S.dues.drop next) next x.fees).2.1, int := x.int + (brings S.t.parts S.t.basis x.prin x.carry day).1, carry := (brings S.t.parts S.t.basis x.prin x.carry day).2 },
      (lateGo S.t S.loan day x.paid (S.dues.drop next) next x.fees).1,
      (lateGo S.t S.loan day x.paid (S.dues.drop next) next x.fees).2.2 ++ [(⟨S.loan, day, 2, 0⟩, refMade [⟨3, (brings S.t.parts S.t.basis x.prin x.carry day).1⟩, ⟨6, -(brings S.t.parts S.t.basis x.prin x.carry day).1⟩])])
  else (x, next, [])
theorem lateGo_bd (t : Tm) (loan day paid : Int) (h : 0 ≤ t.fee ∧ t.fee ≤ 1000000000) : ∀ (l : List (Int × Int)) (i : Nat) (f : Int), i ≤ (lateGo t loan day paid l i f).1 ∧ (lateGo t loan day paid l i f).1 ≤ i + l.length ∧ f ≤ (lateGo t loan day paid l i f).2.1 ∧ (lateGo t loan day paid l i f).2.1 ≤ f + 1000000000 * (l.length : Int) ∧ (lateGo t loan day paid l i f).2.2.length ≤ l.length
  | [], i, f => by simp only [lateGo, List.length_nil]; omega
  | d :: r, i, f => by
    have h1 := lateGo_bd t loan day paid h r (i + 1) (f + t.fee)
    have h2 := lateGo_bd t loan day paid h r (i + 1) f
    simp only [lateGo, List.length_cons]
    split
    · split
      · simp only [List.length_cons]; omega
      · omega
    · simp only [List.length_nil]; omega
def appK (E : List (Key × List Leg)) (q : Nat × Int × List (Key × List Leg)) : Nat × Int × List (Key × List Leg) := (q.1, q.2.1, E ++ q.2.2)
structure NS where
  i : Nat
  f : Int
  h : Hd
  E : List (Key × List Leg)
structure NInv (S : Sto) (day : Int) (x : St) (next : Nat) (h0 : Hd) (s : NS) : Prop where
  hi : s.i ≤ S.dues.length
  hn : next ≤ s.i
  hf : 0 ≤ s.f ∧ s.f ≤ x.fees + 1000000000 * (s.i : Int)
  go : lateGo S.t S.loan day x.paid (S.dues.drop next) next x.fees = appK s.E (lateGo S.t S.loan day x.paid (S.dues.drop s.i) s.i s.f)
  es : s.h.es.map kl = h0.es.map kl ++ s.E
  el : s.h.es.length ≤ h0.es.length + s.i
theorem lateGo_yes {t : Tm} {loan day paid : Int} {d : Int × Int} {r : List (Int × Int)} {i : Nat} {f : Int} (h1 : d.1 + t.grace ≤ day) (h2 : paid < d.2 ∧ 0 < t.fee) : lateGo t loan day paid (d :: r) i f = appK [(⟨loan, day, 3, (i : Int) + 1⟩, refMade [⟨4, t.fee⟩, ⟨7, -t.fee⟩])] (lateGo t loan day paid r (i + 1) (f + t.fee)) := by
  rw [lateGo, if_pos h1, if_pos h2]; rfl
theorem lateGo_no {t : Tm} {loan day paid : Int} {d : Int × Int} {r : List (Int × Int)} {i : Nat} {f : Int} (h1 : d.1 + t.grace ≤ day) (h2 : ¬ (paid < d.2 ∧ 0 < t.fee)) : lateGo t loan day paid (d :: r) i f = lateGo t loan day paid r (i + 1) f := by
  rw [lateGo, if_pos h1, if_neg h2]
theorem lateGo_stop {t : Tm} {loan day paid : Int} {d : Int × Int} {r : List (Int × Int)} {i : Nat} {f : Int} (h1 : ¬ d.1 + t.grace ≤ day) : lateGo t loan day paid (d :: r) i f = (i, f, []) := by
  rw [lateGo, if_neg h1]
theorem appK_app (E E' : List (Key × List Leg)) (q : Nat × Int × List (Key × List Leg)) : appK E (appK E' q) = appK (E ++ E') q := by unfold appK; simp
theorem NInv.no {S : Sto} {day : Int} {x : St} {next : Nat} {h0 : Hd} {s : NS} (v : NInv S day x next h0 s) {d : Int × Int} (hd : S.dues[s.i]? = some d) (h1 : d.1 + S.t.grace ≤ day) (h2 : ¬ (x.paid < d.2 ∧ 0 < S.t.fee)) : NInv S day x next h0 ⟨s.i + 1, s.f, s.h, s.E⟩ := by
  have hl := (List.getElem?_eq_some_iff.1 hd).1
  refine ⟨by show s.i + 1 ≤ _; omega, by show next ≤ s.i + 1; have := v.hn; omega, ?_, ?_, v.es, by show s.h.es.length ≤ _; have := v.el; simp only; omega⟩
  · have := v.hf; simp only; omega
  · rw [v.go, drop_one hd, lateGo_no h1 h2]
theorem NInv.yes {S : Sto} {day : Int} {x : St} {next : Nat} {h0 h' : Hd} {s : NS} (v : NInv S day x next h0 s) (hok : 0 ≤ S.t.fee ∧ S.t.fee ≤ 1000000000) {d : Int × Int} (hd : S.dues[s.i]? = some d) (h1 : d.1 + S.t.grace ≤ day) (h2 : x.paid < d.2 ∧ 0 < S.t.fee) (hp : posted s.h S day 3 ((s.i : Int) + 1) [⟨4, S.t.fee⟩, ⟨7, -S.t.fee⟩] h') :
    NInv S day x next h0 ⟨s.i + 1, s.f + S.t.fee, h', s.E ++ [(⟨S.loan, day, 3, (s.i : Int) + 1⟩, refMade [⟨4, S.t.fee⟩, ⟨7, -S.t.fee⟩])]⟩ := by
  have hl := (List.getElem?_eq_some_iff.1 hd).1
  obtain ⟨e, he, hk⟩ := hp
  refine ⟨by show s.i + 1 ≤ _; omega, by show next ≤ s.i + 1; have := v.hn; omega, ?_, ?_, ?_, ?_⟩
  · have := v.hf; simp only; omega
  · rw [v.go, drop_one hd, lateGo_yes h1 h2, appK_app]
  · simp only
    rw [he, List.map_append, v.es, List.append_assoc]
    simp [hk]
  · simp only
    rw [he, List.length_append]
    have := v.el
    simp only [List.length_cons, List.length_nil]; omega
/-- At the end of the late fees. -/
structure NEnd (S : Sto) (day : Int) (x : St) (next : Nat) (h0 : Hd) (s : NS) : Prop where
  i : s.i = (lateGo S.t S.loan day x.paid (S.dues.drop next) next x.fees).1
  f : s.f = (lateGo S.t S.loan day x.paid (S.dues.drop next) next x.fees).2.1
  es : s.h.es.map kl = h0.es.map kl ++ (lateGo S.t S.loan day x.paid (S.dues.drop next) next x.fees).2.2
  el : s.h.es.length ≤ h0.es.length + 480
theorem NInv.stop {S : Sto} {day : Int} {x : St} {next : Nat} {h0 : Hd} {s : NS} (v : NInv S day x next h0 s) (hlen : S.dues.length ≤ 480) {d : Int × Int} (hd : S.dues[s.i]? = some d) (h1 : ¬ d.1 + S.t.grace ≤ day) : NEnd S day x next h0 s := by
  have e : lateGo S.t S.loan day x.paid (S.dues.drop next) next x.fees = (s.i, s.f, s.E) := by
    rw [v.go, drop_one hd, lateGo_stop h1]; unfold appK; simp
  have := v.el
  have := v.hi
  exact ⟨by rw [e], by rw [e], by rw [e]; exact v.es, by omega⟩
theorem NInv.over {S : Sto} {day : Int} {x : St} {next : Nat} {h0 : Hd} {s : NS} (v : NInv S day x next h0 s) (hlen : S.dues.length ≤ 480) (h1 : ¬ s.i < S.dues.length) : NEnd S day x next h0 s := by
  have e : lateGo S.t S.loan day x.paid (S.dues.drop next) next x.fees = (s.i, s.f, s.E) := by
    rw [v.go, List.drop_eq_nil_of_le (by omega), lateGo]; unfold appK; simp
  have := v.el
  have := v.hi
  exact ⟨by rw [e], by rw [e], by rw [e]; exact v.es, by omega⟩
theorem NEnd.night {S : Sto} {day : Int} {x : St} {next : Nat} {h0 h' : Hd} {s : NS} (v : NEnd S day x next h0 s) (hst : x.status = 1) (hp : posted s.h S day 2 0 [⟨3, (brings S.t.parts S.t.basis x.prin x.carry day).1⟩, ⟨6, -(brings S.t.parts S.t.basis x.prin x.carry day).1⟩] h') :
    (nightF S day x next).1 = { x with fees := s.f, int := x.int + (brings S.t.parts S.t.basis x.prin x.carry day).1, carry := (brings S.t.parts S.t.basis x.prin x.carry day).2 } ∧ (nightF S day x next).2.1 = s.i ∧ h'.es.map kl = h0.es.map kl ++ (nightF S day x next).2.2 := by
  obtain ⟨e, he, hk⟩ := hp
  unfold nightF
  rw [if_pos hst]
  refine ⟨by rw [v.f], by rw [v.i], ?_⟩
  rw [he, List.map_append, v.es, List.append_assoc]
  simp [hk]
set_option maxRecDepth 20000 in
set_option maxHeartbeats 2000000 in
theorem night (p sb : Nat) (S : Sto) (hS : StoOk S) (dv : SV) (x : St) (k : Int) (hk : k ≤ 8000000000000000000) (hx : StB S k x) (day : Int) (hd1 : dayB day = true) (hd2 : day < 3652058) (next : Nat) (hnx : next ≤ S.dues.length) (h : Hd) (hl : h.es.length ≤ 900000000) (w : World) (M I : BS)
    (H : Hp ⟨w, M, I⟩ (telA p sb S dv x day next h) [EnF h.es, Sl dueR (.slice dv.A dv.n dv.c) S.dues] w) :
    Ctr Tryz.prog 45 [.pointer (some ⟨p, 0, none⟩)] w M I (fun _ : Hd => .tuple #[]) (fun h' => h'.es.map kl = h.es.map kl ++ (nightF S day x next).2.2) (fun h' => telA p sb S dv (nightF S day x next).1 day (nightF S day x next).2.1 h') (fun h' => [EnF h'.es]) := by
  obtain ⟨vA, vn, vc⟩ := dv
  have hlen := hS.len
  obtain ⟨hvn, _, _⟩ := H.sll (A := vA) (n := vn) (c := vc)
  obtain ⟨b, o, eA⟩ := H.slAt (A := vA) (n := vn) (c := vc) (by omega)
  subst eA
  subst hvn
  have hfee := hS.ok.fee
  have hgr := hS.ok.grace
  have hdays := hS.days
  have eg : IntKind.i32.wrap S.t.grace = S.t.grace := i32w (by omega) (by omega)
  have hrate := hS.rate
  have hp0 := hS.tin.parts.1
  refine Exe.of_ev tok Tryz.call45 Tryz.func45 rfl rfl rfl ?_
  refine load_rule tok H (v := .int .u8 x.status) rfl ?_
  refine br (fun q => ?_) (fun q => ?_)
  · have q : x.status ≠ 1 := by simpa using q
    have e0 : nightF S day x next = (x, next, []) := by unfold nightF; rw [if_neg q]
    refine Exists.intro h (And.intro rfl (And.intro ?_ ?_))
    · rw [e0, List.append_nil]
    · rw [e0]
      exact Hp.keep H
  have q : x.status = 1 := by simpa using q
  refine loop_out tok (σ := NS) (τ := NS) 340282366920938463463374607431768209408 0 (fun _ => []) (fun s w' => NInv S day x next h s ∧ Hp ⟨w, M, I⟩ (telA p sb S ⟨some ⟨b, o, none⟩, S.dues.length, vc⟩ { x with fees := s.f } day s.i s.h) [EnF s.h.es, Sl dueR (.slice (some ⟨b, o, none⟩) S.dues.length vc) S.dues] w') (fun s => S.dues.length - s.i) ⟨next, x.fees, h, []⟩ (fun _ => []) (fun s w' => NEnd S day x next h s ∧ Hp ⟨w, M, I⟩ (telA p sb S ⟨some ⟨b, o, none⟩, S.dues.length, vc⟩ { x with fees := s.f } day s.i s.h) [EnF s.h.es, Sl dueR (.slice (some ⟨b, o, none⟩) S.dues.length vc) S.dues] w') rfl rfl trivial
    ⟨⟨hnx, Nat.le_refl _, by have := hx.fees; simp only; omega, rfl, by simp, Nat.le_add_right _ _⟩, H⟩ ?_ ?_
  rotate_left
  · intro s j w1 hW
    have hE := hW.1
    have H1 := hW.2
    have hpr := hx.prin
    have hca := hx.carry
    have hxi := hx.int
    refine draw_rule (A := []) tok tdr H1 [0, 1, 2, 3, 4, 5, 6, 7, 8, 9, 10, 11, 12, 13, 14, 15, 16, 17, 18, 19, 20, 21, 22, 23, 24, 25, 26, 27, 28, 29, 30] [0, 1, 3, 7, 15, 31, 63, 127, 0, 256, 768, 1792, 3840, 7936, 0, 16384, 49152, 114688, 0, 262144, 786432, 1835008, 3932160, 8388607, 16777215, 33554431, 33554431, 33554431, 67108863, 402653183, 1073741823] rfl ?_
    refine pass_rule _ (fun w h => load_rule tok h (v := .pointer (some ⟨sb, 0, none⟩)) rfl ⟨rfl, rfl⟩) ?_
    refine pass_rule _ (fun w h => load_rule tok h (v := rateV S.t.parts S.t.basis) rfl ⟨rfl, rfl⟩) ?_
    refine pass_rule _ (fun w h => load_rule tok h (v := .int .i64 x.prin) rfl ⟨rfl, rfl⟩) ?_
    refine pass_rule _ (fun w h => load_rule tok h (v := .int .i32 day) rfl ⟨rfl, rfl⟩) ?_
    refine pass_rule _ (fun w h => load_rule tok h (v := .int .u64 x.carry) rfl ⟨rfl, rfl⟩) ?_
    refine imp_rule (fun X wx h => call_rule h (fun M I _ h => dayI S.t.parts S.t.basis x.prin x.carry day hp0 hrate hpr.1 hpr.2 hd1 hd2 hca.1 hca.2 _ M I h) fun _ w1 hbr H1 => imp_done H1 ?_)
    refine done_rule fun w2 H2 => ?_
    have ei : IntKind.i64.wrap (x.int + (brings S.t.parts S.t.basis x.prin x.carry day).1) = x.int + (brings S.t.parts S.t.basis x.prin x.carry day).1 := i64w (by omega) (by omega)
    refine load_rule tok H2 (v := .int .i64 x.int) rfl ?_
    refine store_as tok H2 (telC sb { x with fees := s.f, int := IntKind.i64.wrap (x.int + (brings S.t.parts S.t.basis x.prin x.carry day).1) } day s.i s.h.A s.h.es.length s.h.c) rfl rfl rfl rfl rfl fun w3 H3 => ?_
    refine store_as tok H3 (telC sb { x with fees := s.f, int := IntKind.i64.wrap (x.int + (brings S.t.parts S.t.basis x.prin x.carry day).1), carry := (brings S.t.parts S.t.basis x.prin x.carry day).2 } day s.i s.h.A s.h.es.length s.h.c) rfl rfl rfl rfl rfl fun w4 H4 => ?_
    rw [ei] at H4
    have H4 : Hp ⟨w, M, I⟩ (telA p sb S ⟨some ⟨b, o, none⟩, S.dues.length, vc⟩ { x with fees := s.f, int := x.int + (brings S.t.parts S.t.basis x.prin x.carry day).1, carry := (brings S.t.parts S.t.basis x.prin x.carry day).2 } day s.i s.h) [EnF s.h.es, Sl dueR (.slice (some ⟨b, o, none⟩) S.dues.length vc) S.dues] w4 := Hp.keep H4
    have hle : s.h.es.length ≤ 1000000000 := by have := hE.el; omega
    refine call_rule H4 (fun M I _ h => both p sb S ⟨some ⟨b, o, none⟩, S.dues.length, vc⟩ { x with fees := s.f, int := x.int + (brings S.t.parts S.t.basis x.prin x.carry day).1, carry := (brings S.t.parts S.t.basis x.prin x.carry day).2 } day s.i s.h hle 2 0 3 6 (brings S.t.parts S.t.basis x.prin x.carry day).1 ⟨by decide, by decide⟩ ⟨by decide, by decide⟩ ⟨by omega, by omega⟩ _ M I h) fun h' w5 hh' H5 => ?_
    have en := hE.night q hh'
    refine Exists.intro h' (And.intro rfl (And.intro en.2.2 ?_))
    rw [en.1, en.2.1]
    exact Hp.keep H5
  intro s j w1 hW
  have hI := hW.1
  have H1 := hW.2
  have hsi := hI.hi
  have hsf := hI.hf
  have hxf := hx.fees
  refine draw_rule (A := []) tok tdr H1 [0, 1, 2, 3, 4, 5, 6, 7, 8, 9, 10, 11, 12, 13, 14, 15, 16, 17, 18, 19, 20, 21, 22, 23, 24, 25, 26, 27, 28, 29, 30, 31, 32, 33, 34, 35, 36, 37, 38, 39, 40, 41, 42, 43] [0, 1, 3, 7, 0, 16, 48, 112, 240, 496, 1008, 2032, 4095, 8191, 16383, 32767, 65535, 131071, 262143, 524287, 1048575, 16383, 2113535, 6307839, 14696447, 33554431, 67108863, 134217727, 16383, 268451839, 805322751, 1879064575, 4026548223, 8321515519, 16911450111, 34091319295, 68451057663, 137438953471, 16383, 274877923327, 824633737215, 1924145364991, 4398046511103, 8796093022207] rfl ?_
  refine pass_rule _ (fun w h => load_rule tok h (v := .int .i64 (s.i : Int)) rfl ⟨rfl, rfl⟩) ?_
  refine pass_rule _ (fun w h => load_rule tok h (v := .pointer (some ⟨sb, 0, none⟩)) rfl ⟨rfl, rfl⟩) ?_
  refine pass_rule _ (fun w h => load_rule tok h (v := .slice (some ⟨b, o, none⟩) S.dues.length vc) rfl ⟨rfl, rfl⟩) ?_
  refine brd (fun q2 => ?_) (fun q2 => ?_)
  · have hlt : s.i < S.dues.length := Int.ofNat_lt.1 q2
    have i1 : (0 : Int) ≤ (s.i : Int) := Int.natCast_nonneg _
    refine Exists.elim (show ∃ d, S.dues[s.i]? = some d from ⟨_, List.getElem?_eq_getElem hlt⟩) fun d hd => ?_
    have hdd := hdays d (List.mem_of_getElem? hd)
    have ew : IntKind.i32.wrap (d.1 + IntKind.i32.wrap S.t.grace) = d.1 + S.t.grace := by rw [eg]; exact i32w (by omega) (by omega)
    refine pass_rule _ (fun w h => load_rule tok h (v := .pointer (some ⟨sb, 0, none⟩)) rfl ⟨rfl, rfl⟩) ?_
    refine pass_rule _ (fun w h => load_rule tok h (v := .slice (some ⟨b, o, none⟩) S.dues.length vc) rfl ⟨rfl, rfl⟩) ?_
    refine pass_rule _ (fun w h => load_rule tok h (v := .int .i64 (s.i : Int)) rfl ⟨rfl, rfl⟩) ?_
    refine pass_rule _ (fun w h => idx_own tok rfl rfl i1 q2 ⟨rfl, rfl⟩) ?_
    refine pass_rule _ (fun w h => sl_ld (o := o) (n := S.dues.length) (c := vc) (j := s.i) (f := 0) (r := dueR) (xs := S.dues) (x := d) tok h (.int .i32 d.1) hd rfl (fun _ _ => rfl) ⟨rfl, rfl⟩) ?_
    refine pass_rule _ (fun w h => load_rule tok h (v := .pointer (some ⟨sb, 0, none⟩)) rfl ⟨rfl, rfl⟩) ?_
    refine pass_rule _ (fun w h => load_rule tok h (v := .int .i64 S.t.grace) rfl ⟨rfl, rfl⟩) ?_
    refine pass_rule _ (fun w h => load_rule tok h (v := .int .i32 day) rfl ⟨rfl, rfl⟩) ?_
    refine done_rule fun w2 H2 => ?_
    refine brd (fun q3 => ?_) (fun q3 => ?_)
    · rw [ew] at q3
      refine draw_rule (A := []) tok tdr H2 [0, 1, 2, 3, 4, 5, 6, 7, 8, 9, 10, 11, 12, 13, 14, 15, 16, 17, 18, 19, 20, 21, 22, 23, 24, 25, 26, 27, 28, 29, 30] [0, 1, 3, 7, 15, 0, 32, 96, 224, 480, 992, 2016, 0, 4096, 12288, 28672, 65504, 131040, 262112, 524287, 1048575, 2097151, 4194303, 8388607, 16777215, 33554431, 67108863, 134217727, 268435455, 536870911, 1073741823] rfl ?_
      refine pass_rule _ (fun w h => load_rule tok h (v := .int .i64 x.paid) rfl ⟨rfl, rfl⟩) ?_
      refine pass_rule _ (fun w h => load_rule tok h (v := .pointer (some ⟨sb, 0, none⟩)) rfl ⟨rfl, rfl⟩) ?_
      refine pass_rule _ (fun w h => load_rule tok h (v := .slice (some ⟨b, o, none⟩) S.dues.length vc) rfl ⟨rfl, rfl⟩) ?_
      refine pass_rule _ (fun w h => load_rule tok h (v := .int .i64 (s.i : Int)) rfl ⟨rfl, rfl⟩) ?_
      refine pass_rule _ (fun w h => idx_own tok rfl rfl i1 q2 ⟨rfl, rfl⟩) ?_
      refine pass_rule _ (fun w h => sl_ld (o := o) (n := S.dues.length) (c := vc) (j := s.i) (f := 1) (r := dueR) (xs := S.dues) (x := d) tok h (.int .i64 d.2) hd rfl (fun _ _ => rfl) ⟨rfl, rfl⟩) ?_
      have ei : IntKind.i64.wrap ((s.i : Int) + 1) = ((s.i + 1 : Nat) : Int) := by rw [i64w (by omega) (by omega)]; rfl
      refine brd (fun q4 => ?_) (fun q4 => ?_)
      · refine pass_rule _ (fun w h => load_rule tok h (v := .pointer (some ⟨sb, 0, none⟩)) rfl ⟨rfl, rfl⟩) ?_
        refine pass_rule _ (fun w h => load_rule tok h (v := .int .i64 S.t.fee) rfl ⟨rfl, rfl⟩) ?_
        refine done_rule fun w3 H3 => ?_
        refine brd (fun q5 => ?_) (fun q5 => ?_)
        · have ef : IntKind.i64.wrap (s.f + S.t.fee) = s.f + S.t.fee := i64w (by omega) (by omega)
          have eu : IntKind.u32.wrap (IntKind.i64.wrap ((s.i : Int) + 1)) = (s.i : Int) + 1 := by rw [i64w (by omega) (by omega)]; exact u32_of (x := s.i + 1) (by omega)
          refine draw_rule (A := [blk p (telC sb { x with fees := s.f } day s.i s.h.A s.h.es.length s.h.c) 124]) tok tdr H3 [0, 1, 2, 3, 4, 5, 6, 7, 8, 9, 10, 11, 12, 13, 14, 15, 16, 17, 18, 19] [0, 1, 3, 7, 15, 31, 0, 64, 192, 448, 960, 1984, 4032, 8128, 16383, 32767, 65535, 131071, 262143, 524287] rfl ?_
          refine pass_kept [blk p (telC sb { x with fees := s.f } day s.i s.h.A s.h.es.length s.h.c) 124] _ (fun X w h => load_rule tok h (v := .int .i64 s.f) rfl ⟨rfl, rfl⟩) ?_
          refine pass_kept [blk p (telC sb { x with fees := s.f } day s.i s.h.A s.h.es.length s.h.c) 124] _ (fun X w h => load_rule tok h (v := .pointer (some ⟨sb, 0, none⟩)) rfl ⟨rfl, rfl⟩) ?_
          refine pass_rule _ (fun w h => load_rule tok h (v := .int .i64 S.t.fee) rfl ⟨rfl, rfl⟩) ?_
          refine imp_rule (fun X wx h => store_as tok h (telC sb { x with fees := IntKind.i64.wrap (s.f + S.t.fee) } day s.i s.h.A s.h.es.length s.h.c) rfl rfl rfl rfl rfl fun w1 H1 => imp_done H1 ?_)
          refine done_rule fun w4 H4 => ?_
          rw [ef] at H4
          have H4 : Hp ⟨w, M, I⟩ (telA p sb S ⟨some ⟨b, o, none⟩, S.dues.length, vc⟩ { x with fees := s.f + S.t.fee } day s.i s.h) [EnF s.h.es, Sl dueR (.slice (some ⟨b, o, none⟩) S.dues.length vc) S.dues] w4 := Hp.keep H4
          refine draw_rule (A := telA p sb S ⟨some ⟨b, o, none⟩, S.dues.length, vc⟩ { x with fees := s.f + S.t.fee } day s.i s.h) tok tdr H4 [0, 1, 2, 3, 4, 5, 6, 7, 8, 9, 10, 11, 12, 13, 14, 15] [0, 0, 2, 6, 14, 30, 62, 0, 128, 384, 896, 1920, 3968, 8064, 16256, 32767] rfl ?_
          refine pass_kept [blk p (telC sb { x with fees := s.f + S.t.fee } day s.i s.h.A s.h.es.length s.h.c) 124] _ (fun X w h => load_rule tok h (v := .int .i64 (s.i : Int)) rfl ⟨rfl, rfl⟩) ?_
          refine pass_kept [blk p (telC sb { x with fees := s.f + S.t.fee } day s.i s.h.A s.h.es.length s.h.c) 124] _ (fun X w h => load_rule tok h (v := .pointer (some ⟨sb, 0, none⟩)) rfl ⟨rfl, rfl⟩) ?_
          refine pass_kept [blk sb (stoC S ⟨some ⟨b, o, none⟩, S.dues.length, vc⟩) 120] _ (fun X w h => load_rule tok h (v := .int .i64 S.t.fee) rfl ⟨rfl, rfl⟩) ?_
          have hle : s.h.es.length ≤ 1000000000 := by have := hI.el; omega
          refine imp_rule (fun X wx h => call_rule h (fun M I _ h => eu.symm ▸ both p sb S ⟨some ⟨b, o, none⟩, S.dues.length, vc⟩ { x with fees := s.f + S.t.fee } day s.i s.h hle 3 ((s.i : Int) + 1) 4 7 S.t.fee ⟨by decide, by decide⟩ ⟨by decide, by decide⟩ ⟨by omega, by omega⟩ _ M I h) fun h' w1 hh' H1 => imp_done H1 ?_)
          refine done_rule fun w5 H5 => ?_
          refine load_rule tok H5 (v := .int .i64 (s.i : Int)) rfl ?_
          refine store_as tok H5 (telC sb { x with fees := s.f + S.t.fee } day (IntKind.i64.wrap ((s.i : Int) + 1)) h'.A h'.es.length h'.c) rfl rfl rfl rfl rfl fun w6 H6 => ?_
          rw [ei] at H6
          refine Exists.intro ⟨s.i + 1, s.f + S.t.fee, h', s.E ++ [(⟨S.loan, day, 3, (s.i : Int) + 1⟩, refMade [⟨4, S.t.fee⟩, ⟨7, -S.t.fee⟩])]⟩ (And.intro trivial (And.intro ?_ (And.intro ?_ ?_)))
          · show S.dues.length - (s.i + 1) < S.dues.length - s.i
            omega
          · exact hI.yes hfee hd q3 ⟨q4, q5⟩ (eu ▸ hh')
          · exact Hp.keep H6
        · refine load_rule tok H3 (v := .int .i64 (s.i : Int)) rfl ?_
          refine store_as tok H3 (telC sb { x with fees := s.f } day (IntKind.i64.wrap ((s.i : Int) + 1)) s.h.A s.h.es.length s.h.c) rfl rfl rfl rfl rfl fun w6 H6 => ?_
          rw [ei] at H6
          refine Exists.intro ⟨s.i + 1, s.f, s.h, s.E⟩ (And.intro trivial (And.intro ?_ (And.intro ?_ ?_)))
          · show S.dues.length - (s.i + 1) < S.dues.length - s.i
            omega
          · exact hI.no hd q3 fun hh => q5 hh.2
          · exact Hp.keep H6
      · refine done_rule fun w3 H3 => ?_
        refine load_rule tok H3 (v := .int .i64 (s.i : Int)) rfl ?_
        refine store_as tok H3 (telC sb { x with fees := s.f } day (IntKind.i64.wrap ((s.i : Int) + 1)) s.h.A s.h.es.length s.h.c) rfl rfl rfl rfl rfl fun w6 H6 => ?_
        rw [ei] at H6
        refine Exists.intro ⟨s.i + 1, s.f, s.h, s.E⟩ (And.intro trivial (And.intro ?_ (And.intro ?_ ?_)))
        · show S.dues.length - (s.i + 1) < S.dues.length - s.i
          omega
        · exact hI.no hd q3 fun hh => q4 hh.1
        · exact Hp.keep H6
    · rw [ew] at q3
      refine Exists.intro s (And.intro trivial ⟨hI.stop hlen.2 hd q3, Hp.keep H2⟩)
  · have hge : ¬ s.i < S.dues.length := fun hh => q2 (Int.ofNat_lt.2 hh)
    refine done_rule fun w2 H2 => ?_
    refine Exists.intro s (And.intro trivial ⟨hI.over hlen.2 hge, Hp.keep H2⟩)
end Go.Proofs.YtjlfjjgjghdokaaGreatDoor
set_option linter.unusedVariables false
namespace Go.Proofs.YtjlfjjgjghdokaaGreatDoor
open Go Go.Proofs Go.Wk
@[reducible] def owC (f i p : Int) : List Value := [.int .i64 f, .int .i64 i, .int .i64 p]
@[reducible] def owV (f i p : Int) : Value := .agg #[.int .i64 f, .int .i64 i, .int .i64 p]
theorem owRight (f i p : Int) (hf : 0 ≤ f) (hi : 0 ≤ i) (hp : 0 ≤ p) : CB 22 [owV f i p] (.bool true) := by
  intro w M I H
  refine Exe.of_ev tok Tryz.call22 Tryz.func22 rfl rfl rfl ?_
  refine box_as H (owC f i p) rfl fun r w1 H1 => ?_
  refine load_rule tok H1 (v := .int .i64 f) rfl ?_
  refine brd (fun _ => ?_) (fun q => absurd hf q)
  refine load_rule tok H1 (v := .int .i64 i) rfl ?_
  refine brd (fun _ => ?_) (fun q => absurd hi q)
  refine load_rule tok H1 (v := .int .i64 p) rfl ?_
  refine Exists.intro () (And.intro ?_ (And.intro trivial (Hp.keep H1)))
  exact congrArg Value.bool (decide_eq_true hp)
def mn (a b : Int) : Int := if b < a then b else a
theorem mn_bd {a b : Int} (ha : 0 ≤ a) (hb : 0 ≤ b) : 0 ≤ mn a b ∧ mn a b ≤ a ∧ mn a b ≤ b := by unfold mn; split <;> omega
theorem least (a b : Int) : CB 98 [.int .i64 a, .int .i64 b] (.int .i64 (mn a b)) := by
  intro w M I H
  refine Exe.of_ev tok Tryz.call98 Tryz.func98 rfl rfl rfl ?_
  exact Exists.intro () (And.intro rfl (And.intro trivial (Hp.keep H)))
theorem part_ (a b : Int) (ha : 0 ≤ a) (hb : 0 ≤ b) (hb2 : b ≤ 9000000000000000000) : CB 246 [.int .i64 a, .int .i64 b] (.tuple #[.int .i64 (mn a b), .int .i64 (b - mn a b)]) := by
  intro w M I H
  have h := mn_bd ha hb
  have e : IntKind.i64.wrap (b - mn a b) = b - mn a b := i64w (by omega) (by omega)
  refine Exe.of_ev tok Tryz.call246 Tryz.func246 rfl rfl rfl ?_
  refine call_rule H (fun M I _ h => least a b _ M I h) fun _ w1 _ H1 => ?_
  refine Exists.intro () (And.intro ?_ (And.intro trivial (Hp.keep H1)))
  show Value.tuple #[.int .i64 (mn a b), .int .i64 (IntKind.i64.wrap (b - mn a b))] = _
  rw [e]
/-- What of n goes to fees, to interest, to principal, and what is left. -/
def goF (f n : Int) : Int := mn f n
def goI (f i n : Int) : Int := mn i (n - goF f n)
def goP (f i p n : Int) : Int := mn p (n - goF f n - goI f i n)
def goL (f i p n : Int) : Int := n - goF f n - goI f i n - goP f i p n
structure PayB (f i p n : Int) : Prop where
  hf : 0 ≤ goF f n ∧ goF f n ≤ f ∧ goF f n ≤ n
  hi : 0 ≤ goI f i n ∧ goI f i n ≤ i ∧ goI f i n ≤ n
  hp : 0 ≤ goP f i p n ∧ goP f i p n ≤ p ∧ goP f i p n ≤ n
  hl : 0 ≤ goL f i p n ∧ goL f i p n ≤ n
  hs : goF f n + goI f i n + goP f i p n + goL f i p n = n
theorem pay_bd {f i p n : Int} (hf : 0 ≤ f) (hi : 0 ≤ i) (hp : 0 ≤ p) (hn : 0 ≤ n) : PayB f i p n := by
  have h1 := mn_bd hf hn
  have h2 := mn_bd hi (show 0 ≤ n - goF f n by unfold goF; omega)
  have h3 := mn_bd hp (show 0 ≤ n - goF f n - goI f i n by unfold goI; omega)
  have e1 : goF f n = mn f n := rfl
  have e2 : goI f i n = mn i (n - goF f n) := rfl
  have e3 : goP f i p n = mn p (n - goF f n - goI f i n) := rfl
  have e4 : goL f i p n = n - goF f n - goI f i n - goP f i p n := rfl
  exact ⟨by omega, by omega, by omega, by omega, by omega⟩
theorem from0 (f i p n : Int) (hf : 0 ≤ f) (hi : 0 ≤ i) (hp : 0 ≤ p) (hn : 0 ≤ n) (hn2 : n ≤ 9000000000000000000) : CB 217 [owV f i p, .int .u8 0, .int .i64 n] (.tuple #[owV (goF f n) (goI f i n) (goP f i p n), .int .i64 (goL f i p n), .nilIface]) := by
  intro w M I H
  have hb := pay_bd hf hi hp hn
  have b1 := hb.hf
  have b2 := hb.hi
  have b3 := hb.hp
  have e4 : goL f i p n = n - goF f n - goI f i n - goP f i p n := rfl
  have b4 := hb.hl
  refine Exe.of_ev tok Tryz.call217 Tryz.func217 rfl rfl rfl ?_
  refine box_as H (owC f i p) rfl fun r w1 H1 => ?_
  refine alloc_as tok H1 (owC 0 0 0) rfl rfl rfl fun o w2 H2 => ?_
  refine load_rule tok H2 (v := owV f i p) rfl ?_
  refine call_rule H2 (fun M I _ h => owRight f i p hf hi hp _ M I h) fun _ w3 _ H3 => ?_
  refine brd (fun q => absurd hn (Int.not_le.2 q)) (fun _ => ?_)
  refine alloc_as tok H3 (owC 0 0 0) rfl rfl rfl fun u w4 H4 => ?_
  refine load_rule tok H4 (v := .int .i64 f) rfl ?_
  refine call_rule H4 (fun M I _ h => part_ f n hf hn hn2 _ M I h) fun _ w5 _ H5 => ?_
  refine store_as tok H5 (owC (goF f n) 0 0) rfl rfl rfl rfl rfl fun w6 H6 => ?_
  refine load_rule tok H6 (v := .int .i64 i) rfl ?_
  refine call_rule H6 (fun M I _ h => part_ i (n - goF f n) hi (by omega) (by omega) _ M I h) fun _ w7 _ H7 => ?_
  refine store_as tok H7 (owC (goF f n) (goI f i n) 0) rfl rfl rfl rfl rfl fun w8 H8 => ?_
  refine load_rule tok H8 (v := .int .i64 p) rfl ?_
  refine call_rule H8 (fun M I _ h => part_ p (n - goF f n - goI f i n) hp (by omega) (by omega) _ M I h) fun _ w9 _ H9 => ?_
  refine store_as tok H9 (owC (goF f n) (goI f i n) (goP f i p n)) rfl rfl rfl rfl rfl fun w10 H10 => ?_
  refine load_rule tok H10 (v := owV (goF f n) (goI f i n) (goP f i p n)) rfl ?_
  refine store_as tok H10 (owC (goF f n) (goI f i n) (goP f i p n)) rfl rfl rfl rfl rfl fun w11 H11 => ?_
  refine Exists.intro ⟨o, 0, none⟩ (Exists.intro (owV (goF f n) (goI f i n) (goP f i p n)) (And.intro rfl (And.intro (Hp.ld (T := tb) tok H11 rfl) ?_)))
  exact Exists.intro () (And.intro rfl (And.intro trivial (Hp.keep H11)))
theorem splitPay (f i p n : Int) (hf : 0 ≤ f) (hi : 0 ≤ i) (hp : 0 ≤ p) (hn : 0 ≤ n) (hn2 : n ≤ 9000000000000000000) : CB 161 [owV f i p, .int .i64 n] (.tuple #[owV (goF f n) (goI f i n) (goP f i p n), .int .i64 (goL f i p n), .nilIface]) := by
  intro w M I H
  refine Exe.of_ev tok Tryz.call161 Tryz.func161 rfl rfl rfl ?_
  refine box_as H (owC f i p) rfl fun r w1 H1 => ?_
  refine alloc_as tok H1 (owC 0 0 0) rfl rfl rfl fun o w2 H2 => ?_
  refine load_rule tok H2 (v := owV f i p) rfl ?_
  refine call_rule H2 (fun M I _ h => from0 f i p n hf hi hp hn hn2 _ M I h) fun _ w3 _ H3 => ?_
  refine store_as tok H3 (owC (goF f n) (goI f i n) (goP f i p n)) rfl rfl rfl rfl rfl fun w4 H4 => ?_
  refine Exists.intro ⟨o, 0, none⟩ (Exists.intro (owV (goF f n) (goI f i n) (goP f i p n)) (And.intro rfl (And.intro (Hp.ld (T := tb) tok H4 rfl) ?_)))
  exact Exists.intro () (And.intro rfl (And.intro trivial (Hp.keep H4)))
theorem splitLess (f i p a b c : Int) (hf : 0 ≤ a ∧ a ≤ f ∧ f ≤ 9000000000000000000) (hi : 0 ≤ b ∧ b ≤ i ∧ i ≤ 9000000000000000000) (hp : 0 ≤ c ∧ c ≤ p ∧ p ≤ 9000000000000000000) : CB 162 [owV f i p, owV a b c] (.tuple #[owV (f - a) (i - b) (p - c), .nilIface]) := by
  intro w M I H
  have e1 : IntKind.i64.wrap (f - a) = f - a := i64w (by omega) (by omega)
  have e2 : IntKind.i64.wrap (i - b) = i - b := i64w (by omega) (by omega)
  have e3 : IntKind.i64.wrap (p - c) = p - c := i64w (by omega) (by omega)
  refine Exe.of_ev tok Tryz.call162 Tryz.func162 rfl rfl rfl ?_
  refine box_as H (owC f i p) rfl fun r w1 H1 => ?_
  refine box_as H1 (owC a b c) rfl fun s w2 H2 => ?_
  refine alloc_as tok H2 (owC 0 0 0) rfl rfl rfl fun o w3 H3 => ?_
  refine load_rule tok H3 (v := .int .i64 f) rfl ?_
  refine load_rule tok H3 (v := .int .i64 a) rfl ?_
  refine load_rule tok H3 (v := .int .i64 i) rfl ?_
  refine load_rule tok H3 (v := .int .i64 b) rfl ?_
  refine load_rule tok H3 (v := .int .i64 p) rfl ?_
  refine load_rule tok H3 (v := .int .i64 c) rfl ?_
  refine alloc_as tok H3 (owC 0 0 0) rfl rfl rfl fun u w4 H4 => ?_
  refine store_as tok H4 (owC (IntKind.i64.wrap (f - a)) (IntKind.i64.wrap (i - b)) (IntKind.i64.wrap (p - c))) rfl rfl rfl rfl rfl fun w5 H5 => ?_
  rw [e1, e2, e3] at H5
  refine load_rule tok H5 (v := owV f i p) rfl ?_
  refine call_rule H5 (fun M I _ h => owRight f i p (by omega) (by omega) (by omega) _ M I h) fun _ w6 _ H6 => ?_
  refine load_rule tok H6 (v := owV a b c) rfl ?_
  refine call_rule H6 (fun M I _ h => owRight a b c hf.1 hi.1 hp.1 _ M I h) fun _ w7 _ H7 => ?_
  refine load_rule tok H7 (v := owV (f - a) (i - b) (p - c)) rfl ?_
  refine call_rule H7 (fun M I _ h => owRight (f - a) (i - b) (p - c) (by omega) (by omega) (by omega) _ M I h) fun _ w8 _ H8 => ?_
  refine load_rule tok H8 (v := owV (f - a) (i - b) (p - c)) rfl ?_
  refine store_as tok H8 (owC (f - a) (i - b) (p - c)) rfl rfl rfl rfl rfl fun w9 H9 => ?_
  refine Exists.intro ⟨o, 0, none⟩ (Exists.intro (owV (f - a) (i - b) (p - c)) (And.intro rfl (And.intro (Hp.ld (T := tb) tok H9 rfl) ?_)))
  exact Exists.intro () (And.intro rfl (And.intro trivial (Hp.keep H9)))
@[reducible] def ptL (f i p : Int) : List Leg := [⟨4, -f⟩, ⟨3, -i⟩, ⟨2, -p⟩]
theorem neg64 {n : Int} (h : 0 ≤ n) (h2 : n ≤ 9000000000000000000) : IntKind.i64.wrap (0 - n) = -n := by rw [i64w (by omega) (by omega)]; omega
theorem parts_ (f i p : Int) (hf : 0 ≤ f ∧ f ≤ 9000000000000000000) (hi : 0 ≤ i ∧ i ≤ 9000000000000000000) (hp : 0 ≤ p ∧ p ≤ 9000000000000000000) (w : World) (M I : BS) (H : Hp ⟨w, M, I⟩ [] [] w) :
    Ctr Tryz.prog 99 [owV f i p] w M I (fun g : Nat => .slice (some ⟨g, 0, none⟩) 3 3) (fun _ => True) (fun g => [Fr w.heap.size (row 135 2 (.slice (some ⟨g, 0, none⟩) 3 3) 3 (legsC (ptL f i p)))]) (fun _ => []) := by
  have e1 := neg64 hf.1 hf.2
  have e2 := neg64 hi.1 hi.2
  have e3 := neg64 hp.1 hp.2
  refine Exe.of_ev tok Tryz.call99 Tryz.func99 rfl rfl rfl ?_
  refine box_as H (owC f i p) rfl fun r w1 H1 => ?_
  refine load_rule tok H1 (v := .int .i64 f) rfl ?_
  refine load_rule tok H1 (v := .int .i64 i) rfl ?_
  refine load_rule tok H1 (v := .int .i64 p) rfl ?_
  refine buildSlice_fr tok H1 (cs := [.int .u8 4, .int .i64 (IntKind.i64.wrap (0 - f)), .int .u8 3, .int .i64 (IntKind.i64.wrap (0 - i)), .int .u8 2, .int .i64 (IntKind.i64.wrap (0 - p))]) rfl rfl rfl rfl rfl rfl fun g w2 H2 => ?_
  rw [e1, e2, e3] at H2
  have H3 := Hp.frRow (cs := legsC (ptL f i p)) H2 2 3 rfl (by decide)
  exact Exists.intro g (And.intro rfl (And.intro trivial (Hp.keep H3)))
end Go.Proofs.YtjlfjjgjghdokaaGreatDoor
