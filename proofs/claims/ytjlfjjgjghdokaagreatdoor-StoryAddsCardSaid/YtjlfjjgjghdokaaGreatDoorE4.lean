/- A story that is told: an entry is posted: the walks of post and both. -/
import Derived.Test.YtjlfjjgjghdokaaGreatDoorE3
import Derived.Test.YtjlfjjgjghdokaaGreatDoorX1
import Derived.Test.YtjlfjjgjghdokaaGreatDoorK9
import Derived.Test.YtjlfjjgjghdokaaGreatDoorK11
set_option linter.unusedVariables false
namespace Go.Proofs.YtjlfjjgjghdokaaGreatDoor
open Go Go.Proofs Go.Wk
/-- An entry that was posted. -/
structure En where
  k : Key
  s : SV
  ls : List Leg
def enC (x : En) : List Value := [.int .u32 x.k.loan, .int .i32 x.k.day, .int .u8 x.k.kind, .int .u32 x.k.seq, .slice x.s.A x.s.n x.s.c]
@[reducible] def ensC (xs : List En) : List Value := flatL enC xs
def kl (e : En) : Key × List Leg := (e.k, e.ls)
def EnF (xs : List En) : Fact where
  holds w I := ∀ x, x ∈ xs → (Sl legR (.slice x.s.A x.s.n x.s.c) x.ls).holds w I
  mono := fun h hI hw x hx => (Sl legR _ _).mono (h x hx) hI hw
theorem hpEnNil {B : Base} {S : List Asn} {F : List Fact} {w : World} (H : Hp B S F w) : Hp B S (EnF [] :: F) w := H.facts fun I ha f hf => by
  rcases List.mem_cons.1 hf with rfl | hf
  · intro x hx; cases hx
  · exact ha f hf
/-- How a loan stands. -/
structure St where
  fees : Int
  int : Int
  prin : Int
  carry : Int
  paid : Int
  susp : Int
  recv : Int
  cash : Int
  status : Int
deriving DecidableEq
@[reducible] def stC (x : St) : List Value := [.int .i64 x.fees, .int .i64 x.int, .int .i64 x.prin, .int .u64 x.carry, .int .i64 x.paid, .int .i64 x.susp, .int .i64 x.recv, .int .i64 x.cash, .int .u8 x.status]
@[reducible] def stV (x : St) : Value := .agg #[.int .i64 x.fees, .int .i64 x.int, .int .i64 x.prin, .int .u64 x.carry, .int .i64 x.paid, .int .i64 x.susp, .int .i64 x.recv, .int .i64 x.cash, .int .u8 x.status]
/-- A story: its loan, its terms, what is due. -/
structure Sto where
  loan : Int
  t : Tm
  dues : List (Int × Int)
@[reducible] def stoC (S : Sto) (v : SV) : List Value := [.int .u32 S.loan, .int .u8 S.t.kind, .int .i64 S.t.prin, .int .u32 S.t.parts, .int .u8 S.t.basis, .int .i64 S.t.months, .int .i32 S.t.start, .int .i64 S.t.fee, .int .i64 S.t.grace, .slice v.A v.n v.c]
@[reducible] def telC (sb : Nat) (x : St) (day next : Int) (A : Option Addr) (n c : Nat) : List Value := [.pointer (some ⟨sb, 0, none⟩), .int .i64 x.fees, .int .i64 x.int, .int .i64 x.prin, .int .u64 x.carry, .int .i64 x.paid, .int .i64 x.susp, .int .i64 x.recv, .int .i64 x.cash, .int .u8 x.status, .int .i32 day, .int .i64 next, .slice A n c]
structure Hd where
  A : Option Addr
  c : Nat
  es : List En
@[reducible] def telA (p sb : Nat) (S : Sto) (dv : SV) (x : St) (day next : Int) (h : Hd) : List Asn := [blk p (telC sb x day next h.A h.es.length h.c) 124, row 71 5 (.slice h.A h.es.length h.c) h.es.length (ensC h.es), blk sb (stoC S dv) 120]
/-- The entries then. -/
def posted (h : Hd) (S : Sto) (day kind seq : Int) (legs : List Leg) (h' : Hd) : Prop := ∃ e, h'.es = h.es ++ [e] ∧ kl e = (⟨S.loan, day, kind, seq⟩, refMade legs)
set_option maxRecDepth 20000 in
set_option maxHeartbeats 1000000 in
theorem post (p sb : Nat) (S : Sto) (dv : SV) (x : St) (day next : Int) (h : Hd) (hl : h.es.length ≤ 1000000000) (kind seq : Int) (lA : Option Addr) (ln lc : Nat) (legs : List Leg) (h12 : legs.length ≤ 12) (hr : ∀ x, x ∈ legs → inK .u8 x.acct) (w : World) (M I : BS)
    (H : Hp ⟨w, M, I⟩ (telA p sb S dv x day next h) [EnF h.es, Sl legR (.slice lA ln lc) legs] w) :
    Ctr Tryz.prog 96 [.pointer (some ⟨p, 0, none⟩), .int .u8 kind, .int .u32 seq, .slice lA ln lc] w M I (fun _ : Hd => .tuple #[]) (fun h' => posted h S day kind seq legs h') (fun h' => telA p sb S dv x day next h') (fun h' => [EnF h'.es]) := by
  obtain ⟨A, c, ens⟩ := h
  simp only at hl H ⊢
  refine Exe.of_ev tok Tryz.call96 Tryz.func96 rfl rfl rfl ?_
  refine draw_rule (A := [blk p (telC sb x day next A ens.length c) 124, row 71 5 (.slice A ens.length c) ens.length (ensC ens)]) tok tdr H [5, 6, 7, 8, 9, 10, 11, 12, 13, 14, 15, 16, 17, 18, 19, 20, 1, 2, 3, 4, 21, 22, 0, 23, 24, 25] [0, 0, 2, 6, 14, 0, 32, 96, 224, 480, 992, 2016, 0, 4096, 12288, 28672, 0, 0, 262112, 0, 1048544, 2097120, 4194302, 8388607, 16777215, 33554431] rfl ?_
  refine pass_kept [blk p (telC sb x day next A ens.length c) 124] _ (fun X w h => load_rule tok h (v := .pointer (some ⟨sb, 0, none⟩)) rfl ⟨rfl, rfl⟩) ?_
  refine pass_rule _ (fun w h => load_rule tok h (v := .int .u32 S.loan) rfl ⟨rfl, rfl⟩) ?_
  refine pass_kept [blk p (telC sb x day next A ens.length c) 124] _ (fun X w h => load_rule tok h (v := .int .i32 day) rfl ⟨rfl, rfl⟩) ?_
  refine imp_rule (fun X wx h => call_rule h (fun M I h0 h => make ⟨S.loan, day, kind, seq⟩ lA ln lc legs h12 _ M I (h0 rfl) h) fun a w1 ha H1 => imp_done H1 ?_)
  refine pass_kept [blk p (telC sb x day next A ens.length c) 124] _ (fun X w h => load_rule tok h (v := .slice A ens.length c) rfl ⟨rfl, rfl⟩) ?_
  refine fresh_slice tok [.int .u32 S.loan, .int .i32 day, .int .u8 kind, .int .u32 seq, .slice a.1.A a.1.n a.1.c] rfl rfl rfl rfl rfl rfl rfl fun g => ?_
  refine imp_rule (fun X wx h => append_rule (v := .slice A ens.length c) (b := g) (m := 1) (c := 1) tok h rfl rfl rfl rfl rfl rfl rfl rfl (by show (ens.length + 1) * 40 ≤ _; omega) (by omega) fun A2 c2 w1 H1 => imp_done H1 ?_)
  refine imp_rule (fun X wx h => store_as tok h (telC sb x day next A2 (ens.length + 1) c2) rfl rfl rfl rfl rfl fun w1 H1 => imp_done H1 ?_)
  refine done_rule fun w5 H5 => ?_
  have H6 : Hp ⟨w, M, I⟩ [blk p (telC sb x day next A2 (ens.length + 1) c2) 124, row 71 5 (.slice A2 (ens.length + 1) c2) (ens.length + 1) (ensC ens ++ [.int .u32 S.loan, .int .i32 day, .int .u8 kind, .int .u32 seq, .slice a.1.A a.1.n a.1.c]), blk sb (stoC S dv) 120] [Sl legR (.slice a.1.A a.1.n a.1.c) a.2, EnF ens] w5 := Hp.keep H5
  have el : ensC ens ++ [.int .u32 S.loan, .int .i32 day, .int .u8 kind, .int .u32 seq, .slice a.1.A a.1.n a.1.c] = ensC (ens ++ [⟨⟨S.loan, day, kind, seq⟩, a.1, a.2⟩]) := (flatL_snoc (f := enC) ens (En.mk ⟨S.loan, day, kind, seq⟩ a.1 a.2)).symm
  have en : (ens ++ [En.mk ⟨S.loan, day, kind, seq⟩ a.1 a.2]).length = ens.length + 1 := by rw [List.length_append]; rfl
  rw [el, ← en] at H6
  have H7 : Hp ⟨w, M, I⟩ (telA p sb S dv x day next ⟨A2, c2, ens ++ [⟨⟨S.loan, day, kind, seq⟩, a.1, a.2⟩]⟩) [EnF (ens ++ [⟨⟨S.loan, day, kind, seq⟩, a.1, a.2⟩])] w5 := H6.facts fun I ha f hf => by
    rw [List.mem_singleton] at hf
    subst hf
    intro z hz
    rcases List.mem_append.1 hz with hz | hz
    · exact ha (EnF ens) (List.mem_cons_of_mem _ List.mem_cons_self) z hz
    · rw [List.mem_singleton] at hz
      subst hz
      exact ha _ List.mem_cons_self
  refine Exists.intro ⟨A2, c2, ens ++ [⟨⟨S.loan, day, kind, seq⟩, a.1, a.2⟩]⟩ (And.intro rfl (And.intro ⟨_, rfl, ?_⟩ H7))
  show (_, a.2) = _
  rw [made_ref hr ha]
/-- A row of legs, made here, is given up. -/
theorem frLegs {w : World} {B : Base} {S S' : List Asn} {F : List Fact} (H : Hp B S F w) {N : Nat} {v : Value} {e n : Nat} (ls : List Leg) (hM : B.w.heap.size ≤ N) [h1 : TakeF S N v e 2 n (legsC ls) S'] (hok : ∀ x, x ∈ ls → inK .u8 x.acct ∧ inK .i64 x.amt) : Hp B S' (Sl legR v ls :: F) w := by
  have hcl : ∀ i x, ls[i]? = some x → ∃ p : Unit, (inK .u8 x.acct ∧ inK .i64 x.amt) ∧ ((legsC ls).drop (i * 2)).take 2 = [.int .u8 x.acct, .int .i64 x.amt] ∧ ([] : List Fact) = [] := fun i x hx => by
    obtain ⟨hj, _⟩ := List.getElem?_eq_some_iff.1 hx
    refine ⟨(), hok x (List.mem_of_getElem? hx), ?_, rfl⟩
    rw [legsC_drop, List.drop_eq_getElem_cons hj]
    rw [List.getElem?_eq_getElem hj] at hx
    rw [Option.some.inj hx]
    rfl
  have H2 := (H.addCl legR (cs := legsC ls) (xs := ls) (legsC_len ls) hcl).frzRowFr (v := v) (xs := ls) legR hM rfl (by decide)
  refine H2.facts fun I ha f hf => ha f ?_
  rcases List.mem_cons.1 hf with rfl | hf
  · exact List.mem_cons_self
  · exact List.mem_cons_of_mem _ (List.mem_cons_of_mem _ hf)
theorem both (p sb : Nat) (S : Sto) (dv : SV) (x : St) (day next : Int) (h : Hd) (hl : h.es.length ≤ 1000000000) (kind seq deb cre n : Int) (hd : inK .u8 deb) (hc : inK .u8 cre) (hn : -9000000000000000000 ≤ n ∧ n ≤ 9000000000000000000) (w : World) (M I : BS)
    (H : Hp ⟨w, M, I⟩ (telA p sb S dv x day next h) [EnF h.es] w) :
    Ctr Tryz.prog 43 [.pointer (some ⟨p, 0, none⟩), .int .u8 kind, .int .u32 seq, .int .u8 deb, .int .u8 cre, .int .i64 n] w M I (fun _ : Hd => .tuple #[]) (fun h' => posted h S day kind seq [⟨deb, n⟩, ⟨cre, -n⟩] h') (fun h' => telA p sb S dv x day next h') (fun h' => [EnF h'.es]) := by
  obtain ⟨A, c, ens⟩ := h
  simp only at hl H ⊢
  have en : IntKind.i64.wrap (0 - n) = -n := by rw [i64w (by omega) (by omega)]; omega
  have hok : ∀ x, x ∈ [(⟨deb, n⟩ : Leg), ⟨cre, -n⟩] → inK .u8 x.acct ∧ inK .i64 x.amt := fun x hx => by
    rcases List.mem_cons.1 hx with rfl | hx
    · exact ⟨hd, by show (-9223372036854775808 : Int) ≤ n ∧ n ≤ 9223372036854775807; omega⟩
    · rw [List.mem_singleton] at hx
      subst hx
      exact ⟨hc, by show (-9223372036854775808 : Int) ≤ -n ∧ -n ≤ 9223372036854775807; omega⟩
  refine Exe.of_ev tok Tryz.call43 Tryz.func43 rfl rfl rfl ?_
  refine buildSlice_fr tok H (cs := [.int .u8 deb, .int .i64 n, .int .u8 cre, .int .i64 (IntKind.i64.wrap (0 - n))]) rfl rfl rfl rfl rfl rfl fun g w1 H1 => ?_
  rw [en] at H1
  have H2 : Hp ⟨w, M, I⟩ (telA p sb S dv x day next ⟨A, c, ens⟩) [Sl legR (.slice (some ⟨g, 0, none⟩) 2 2) [⟨deb, n⟩, ⟨cre, -n⟩], EnF ens] w1 := frLegs (N := w.heap.size) (v := .slice (some ⟨g, 0, none⟩) 2 2) (Hp.frRow (cs := legsC [⟨deb, n⟩, ⟨cre, -n⟩]) H1 2 2 rfl (by decide)) [⟨deb, n⟩, ⟨cre, -n⟩] (Nat.le_refl _) hok
  refine call_rule H2 (fun M I _ h => post p sb S dv x day next ⟨A, c, ens⟩ hl kind seq (some ⟨g, 0, none⟩) 2 2 [⟨deb, n⟩, ⟨cre, -n⟩] (by show 2 ≤ 12; decide) (fun x hx => (hok x hx).1) _ M I h) fun h' w2 hp H3 => ?_
  exact Exists.intro h' (And.intro rfl (And.intro hp (Hp.keep H3)))
end Go.Proofs.YtjlfjjgjghdokaaGreatDoor
