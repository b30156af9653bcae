/- What is posted and reversed leaves all balances as they were: the law walked. -/
import Derived.Test.YtfemfomgmopibaaGreatDoorB17
set_option linter.unusedVariables false
namespace Go.Proofs.YtfemfomgmopibaaGreatDoor
open Go Go.Proofs Go.Wk
structure Act where
  dv : Int
  k : Key
  ls : List Leg
  raw : Bool
  bn : Nat
@[reducible] def actR : Rp Act := ⟨8, Option Addr × Nat × Nat, fun x p => [.int .u8 x.dv, .int .u32 x.k.loan, .int .i32 x.k.day, .int .u8 x.k.kind, .int .u32 x.k.seq, .slice p.1 p.2.1 p.2.2, .bool x.raw, .int .u8 (x.bn : Int)], fun x _ => keyIn x.k ∧ x.bn ≤ 255, fun x p => [Sl legR (.slice p.1 p.2.1 p.2.2) x.ls], fun _ _ => rfl⟩
@[reducible] def actZ : List Value := [.int .u8 0, .int .u32 0, .int .i32 0, .int .u8 0, .int .u32 0, .slice none 0 0, .bool false, .int .u8 0]
/-- A script, so far. -/
structure St (d : Led) (xs : List Ln) (i N : Nat) : Prop where
  bo : Bo d xs
  len : d.lns.length ≤ i
  few : d.lns.length ≤ N
  low : ∀ x, x ∈ d.lns → x.k.loan < 5
theorem St.zero (N : Nat) : St ⟨[], [], []⟩ [] 0 N := ⟨⟨inv_nil, rfl⟩, Nat.le_refl _, Nat.zero_le _, fun x h => by cases h⟩
theorem St.step {d : Led} {xs : List Ln} {i N : Nat} (h : St d xs i N) (hi : i < N) {a : Led × List Ln} (ha : DoX d a) : St a.1 a.2 (i + 1) N := by
  obtain ⟨hb, ys, e, h1, h2⟩ := ha
  refine ⟨hb, ?_, ?_, fun x hx => ?_⟩
  · rw [e, List.length_append]; have := h.len; omega
  · rw [e, List.length_append]; have := h.len; omega
  · rw [e] at hx
    rcases List.mem_append.1 hx with hx | hx
    · exact h.low x hx
    · rcases h2 x hx with h2 | ⟨y, hy, e2⟩
      · exact h2
      · rw [e2]; exact h.low y hy
theorem St.skip {d : Led} {xs : List Ln} {i N : Nat} (h : St d xs i N) : St d xs (i + 1) N := ⟨h.bo, by have := h.len; omega, h.few, h.low⟩
theorem refNew {B : Base} {S : List Asn} {F : List Fact} {w : World} {p : Nat} (H : Hp B (blk p [.slice none 0 0] 33 :: S) F w) : Hp B (refO p [] :: S) F w :=
  refClose (p := p) (xs := []) (s := ⟨none, 0, 0⟩) (show Hp B (row 66 6 (.slice none 0 0) 0 (lnsC []) :: blk p [.slice none 0 0] 33 :: S) F w from Hp.nil H 66 6) rfl
theorem sameX (l l' : Nat) (d d' : Led) (hx : d.lns.length ≤ 100000) (w : World) (M I : BS) (H : Hp ⟨w, M, I⟩ [ledO l d, ledO l' d'] [LnF d.lns, LnF d'.lns] w) :
    Ctr Tryz.prog 14 [.pointer (some ⟨l, 0, none⟩), .pointer (some ⟨l', 0, none⟩)] w M I (fun _ : Unit => .bool (lnsEq d.lns d'.lns)) (fun _ => True) (fun _ => [ledO l d, ledO l' d']) (fun _ => []) := by
  obtain ⟨m1, m2, s, hs, H1⟩ := ledOpen (l := l) (d := d) H
  obtain ⟨m1', m2', t, ht, H2⟩ := ledOpen (l := l') (d := d') H1
  refine (Ctr.frame H2 fun M I _ h => sameLed l m1 m2 s d.lns l' m1' m2' t d'.lns hx hs ht _ M I h).imp fun _ w' _ h => ?_
  have h1 := ledClose (l := l') (d := d') (m1 := m1') (m2 := m2') (s := t) h ht
  have h2 := ledClose (l := l) (d := d) (m1 := m1) (m2 := m2) (s := s) h1 hs
  exact ⟨(), rfl, trivial, Hp.keep h2⟩
theorem loanX (l : Nat) (d : Led) (loan : Int) (hno : ∀ q, q ∈ d.live → q.1.loan ≠ loan) (w : World) (M I : BS) (H : Hp ⟨w, M, I⟩ [ledO l d] [] w) :
    Ctr Tryz.prog 19 [.pointer (some ⟨l, 0, none⟩), .int .u32 loan] w M I (fun _ : Unit => .slice none 0 0) (fun _ => True) (fun _ => [ledO l d]) (fun _ => []) := by
  obtain ⟨m1, m2, s, hs, H1⟩ := ledOpen (l := l) (d := d) H
  refine (Ctr.frame H1 fun M I _ h => loanNone l m1 m2 s d.live loan hno _ M I h).imp fun _ w' _ h => ?_
  exact ⟨(), rfl, trivial, ledClose (l := l) (m1 := m1) (m2 := m2) (s := s) h hs⟩
theorem Nine.revC {d d1 : Led} {k : Key} {ls : List Leg} (hN : Nine d k ls) (hI1 : Inv d1) (hs : (nextGo d.sums k.loan ls []).isSome = true) (h1 : lk k d1.live = some (d.lns.length : Int)) (h2 : ∃ sv, d1.lns = d.lns ++ [⟨k, sv, 0, ls⟩]) (h3 : ∀ p, getS d1.sums p = getS d.sums p + if p.loan = (if p.ctl = true then 0 else k.loan) then (amtOf p.acct ls).getD 0 else 0)
    (l : Nat) (hd : d1.lns.length ≤ 100000) (w : World) (M I : BS) (H : Hp ⟨w, M, I⟩ [ledO l d1] [LnF d1.lns] w) :
    Ctr Tryz.prog 16 [.pointer (some ⟨l, 0, none⟩), keyV k] w M I (fun _ : Led => .nilIface) (fun d2 => Inv d2 ∧ lk k d2.live = none ∧ d2.lns.length = d.lns.length + 2 ∧ (∀ x, x ∈ d2.lns → x.k = k ∨ x ∈ d.lns) ∧ ∀ p, getS d2.sums p = getS d.sums p) (fun d2 => [ledO l d2]) (fun d2 => [LnF d2.lns]) :=
  (revX l d1 hI1 hd k hN.kin w M I H).imp fun a w' hφ h => by
    obtain ⟨q1, q2⟩ := hN.rev hI1 hs h1 h2 h3 hφ.1
    exact ⟨a.2, by rw [q1], ⟨hφ.2.inv, q2⟩, Hp.keep h⟩
theorem Nine.againC {d d2 : Led} {k : Key} {ls : List Leg} (hN : Nine d k ls) (hI2 : Inv d2) (hs : (nextGo d.sums k.loan ls []).isSome = true) (h1 : lk k d2.live = none) (h2 : ∀ p, getS d2.sums p = getS d.sums p)
    (l : Nat) (hd : d2.lns.length ≤ 100000) (A : Option Addr) (n c : Nat) (hls : ls.length ≤ 1000) (w : World) (M I : BS) (H : Hp ⟨w, M, I⟩ [ledO l d2] [Sl legR (.slice A n c) ls, LnF d2.lns] w) :
    Ctr Tryz.prog 12 [.pointer (some ⟨l, 0, none⟩), .agg #[.int .u32 k.loan, .int .i32 k.day, .int .u8 k.kind, .int .u32 k.seq, .slice A n c]] w M I (fun _ : Led => .nilIface) (fun _ => True) (fun d3 => [ledO l d3]) (fun d3 => [LnF d3.lns]) :=
  (postX l d2 hI2 hd k hN.kin A n c ls hls w M I H).imp fun a w' hφ h => ⟨a.2, by rw [hN.again hs h1 h2 hφ.1], trivial, Hp.keep h⟩
theorem beq_same (x : Int) : (x == x) = true := by simp
theorem bne_same (x : Int) : (x != x) = false := by simp
set_option maxRecDepth 20000 in
set_option maxHeartbeats 4000000 in
theorem turnsW (A : Option Addr) (n c : Nat) (acts : List Act) (k : Key) (hk : keyIn k) (v : Int) (hv : inK .i32 v) (w : World) (M I : BS) (H : Hp ⟨w, M, I⟩ [] [Sl actR (.slice A n c) acts, Glob 0 errTy] w) :
    Ctr Tryz.prog 3 [.slice A n c, keyV k, .int .i32 v] w M I (fun _ : Unit => .bool true) (fun _ => True) (fun _ => []) (fun _ => []) := by
  obtain ⟨hn, hc, hc2⟩ := H.sll (A := A) (n := n) (c := c)
  obtain ⟨M', I', h0, hm', hk'⟩ := Hp.call (A := []) (S := []) (G := [Sl actR (.slice A n c) acts, Glob 0 errTy]) H fun I ha => ha
  have hM := hm' rfl
  refine Exe.mono ?_ (fun v w' ⟨a, e, _, h⟩ => ⟨a, e, trivial, Hp.keep (hk' [] [] w' h)⟩ : ∀ v w', (∃ a : Unit, v = .bool true ∧ True ∧ Hp ⟨w, M', I'⟩ [] [] w') → _)
  refine Exe.of_ev tok Tryz.call3 Tryz.func3 rfl rfl rfl ?_
  refine box_as h0 (keyC k) rfl fun kb w1 H1 => ?_
  refine call_rule H1 (fun M I h0 h => awake_ _ M I (h0 rfl) h) fun _ w2 _ H2 => ?_
  refine call_rule H2 (fun M I _ h => newX _ M I h) fun l w3 _ H3 => ?_
  refine box_as H3 [.slice none 0 0] rfl fun p w4 H4 => ?_
  have H5 : Hp ⟨w, M', I'⟩ [ledO l ⟨[], [], []⟩, refO p [], blk kb (keyC k) 26] [LnF [], LnF [], Sl actR (.slice A n c) acts, Glob 0 errTy] w4 := Hp.keep (LnF_nil (LnF_nil (refNew H4)))
  refine loop_rule tok (σ := Nat × Led × List Ln) 17175676416 (fun s => [(22, .int .i64 (s.1 : Int))])
    (fun s w' => s.1 ≤ n ∧ St s.2.1 s.2.2 s.1 10 ∧ Hp ⟨w, M', I'⟩ [ledO l s.2.1, refO p s.2.2, blk kb (keyC k) 26] [LnF s.2.1.lns, LnF s.2.2, Sl actR (.slice A n c) acts, Glob 0 errTy] w') (fun s => n - s.1) (0, ⟨[], [], []⟩, []) rfl rfl ⟨rfl, trivial⟩ ⟨Nat.zero_le _, St.zero 10, H5⟩ ?_
  rintro ⟨i, d, xs⟩ j w5 ⟨hi, hS, H⟩
  simp only at hi hS H
  refine brd (fun hin => ?_) (fun _ => ?_)
  · have hin' : i < n := by omega
    have ew : IntKind.i64.wrap ((i : Int) + 1) = ((i + 1 : Nat) : Int) := w64 (by omega) (by omega)
    refine idx_rule tok H rfl rfl rfl (by omega) hin fun eb eo x hx H6 => ?_
    refine ldp_rule tok H6 rfl rfl rfl fun q hok H7 => ?_
    refine alloc_as tok H7 actZ rfl rfl rfl fun lb w6 H8 => ?_
    refine store_as tok H8 (actR.cells x q) rfl rfl rfl rfl rfl fun w7 H9 => ?_
    refine brd (fun h10 => ?_) (fun _ => ?_)
    · refine load_rule tok H9 (v := .agg (actR.cells x q).toArray) rfl ?_
      refine call_rule H9 (fun M I _ h => doX l p d xs hS.bo (by have := hS.few; omega) x.dv x.k hok.1 q.1 q.2.1 q.2.2 x.ls x.raw x.bn hok.2 _ M I h) fun a => ?_
      rcases a with ⟨d', xs'⟩
      intro w8 ha H10
      exact Exists.intro (i + 1, d', xs') (And.intro ⟨congrArg (Value.int .i64) ew, trivial⟩ (And.intro (by show n - (i + 1) < n - i; omega) ⟨by show i + 1 ≤ n; omega, hS.step (by omega) ha, Hp.keep H10⟩))
    · exact Exists.intro (i + 1, d, xs) (And.intro ⟨congrArg (Value.int .i64) ew, trivial⟩ (And.intro (by show n - (i + 1) < n - i; omega) ⟨by show i + 1 ≤ n; omega, hS.skip, Hp.keep H9⟩))
  have hN := nine hS.bo.inv hS.low hk hv
  have hl9 := l9_eq hv
  have hlen := hS.few
  have hin9 : in64 v = true ∧ in64 (-v) = true := by
    obtain ⟨h1, h2⟩ := hv
    simp only [kLo, kHi] at h1 h2
    simp only [in64, Bool.and_eq_true, decide_eq_true_eq]
    omega
  refine call_rule H (fun M I _ h => copyX l d (by omega) _ M I h) fun l' w6 _ H6 => ?_
  refine load_rule tok H6 (v := .int .u8 k.kind) rfl ?_
  refine rem_as (k.kind.tmod 7) (by decide) rfl ?_
  refine load_rule tok H6 (v := .int .u32 k.seq) rfl ?_
  refine slice_as tok H6 [.int .u8 1, .int .i64 (IntKind.i64.wrap v), .int .u8 4, .int .i64 (IntKind.i64.wrap (0 - IntKind.i64.wrap v))] rfl rfl rfl rfl rfl rfl fun g w7 H7 => ?_
  have H7 : Hp ⟨w, M', I'⟩ [ledO l' d, ledO l d, refO p xs, blk kb (keyC k) 26] [Sl legR (.slice (some ⟨g, 0, none⟩) 2 2) [⟨1, v⟩, ⟨4, -v⟩], LnF d.lns, Glob 0 errTy] w7 := Hp.keep (frzLegs H7 (n := g) [⟨1, v⟩, ⟨4, -v⟩] hM (by rw [← hl9]; rfl) (by simp) hN.lin)
  refine call_rule H7 (fun M I h0 h => make (k9 k) (some ⟨g, 0, none⟩) 2 2 [⟨1, v⟩, ⟨4, -v⟩] (by simp) _ M I (h0 rfl) h) fun mo => ?_
  rcases mo with ⟨⟨A2, n2, c2⟩, out⟩
  intro w8 hmo H8
  obtain rfl := made_pair (by decide) hin9.1 hin9.2 hmo
  refine alloc_as tok H8 zeroC rfl rfl rfl fun t w9 H9 => ?_
  refine store_as tok H9 (entC (k9 k) A2 n2 c2) rfl rfl rfl rfl rfl fun w10 H10 => ?_
  have H10 : Hp ⟨w, M', I'⟩ [blk t (entC (k9 k) A2 n2 c2) 39, ledO l' d, ledO l d] [Sl legR (.slice A2 n2 c2) [⟨1, v⟩, ⟨4, -v⟩], LnF d.lns, Glob 0 errTy] w10 := Hp.keep H10
  refine load_rule tok H10 (v := .agg #[.int .u32 (k9 k).loan, .int .i32 (k9 k).day, .int .u8 (k9 k).kind, .int .u32 (k9 k).seq, .slice A2 n2 c2]) rfl ?_
  refine call_rule H10 (fun M I _ h => postX l d hS.bo.inv (by omega) (k9 k) hN.kin A2 n2 c2 [⟨1, v⟩, ⟨4, -v⟩] (by simp) _ M I h) fun a1 w11 hp1 H11 => ?_
  have hI1 := hp1.2.inv
  have hp1 := hN.post hp1.1
  refine Or.elim hp1 (fun hc => ?_) fun hc => ?_
  · refine Exists.elim hc.1 fun fp he => ?_
    have hd := hc.2
    rw [he, hd] at H11
    refine (show a1.1 = .fault fp (k9 k).loan 12 from he) ▸ ?_
    refine call_rule H11 (fun M I _ h => codeF (.fault fp (k9 k).loan 12) _ M I h) fun _ w12 _ H12 => ?_
    refine call_rule H12 (fun M I _ h => sameX l l' d d (by omega) _ M I h) fun _ w13 _ H13 => ?_
    exact Exists.intro () (And.intro (congrArg Value.bool (lnsEq_self d.lns)) (And.intro trivial (Hp.keep H13)))
  have hsome := hc.2.1
  have hlv := hc.2.2.1
  have hlns := hc.2.2.2.1
  have hsum := hc.2.2.2.2
  have hlen1 : a1.2.lns.length = d.lns.length + 1 := by obtain ⟨sv, e⟩ := hlns; rw [e]; simp
  have hI1' := hI1
  refine hc.1 ▸ ?_
  refine load_rule tok H11 (v := .agg #[.int .u32 (k9 k).loan, .int .i32 (k9 k).day, .int .u8 (k9 k).kind, .int .u32 (k9 k).seq, .slice A2 n2 c2]) rfl ?_
  refine call_rule H11 (fun M I _ h => postX l a1.2 hI1 (by omega) (k9 k) hN.kin A2 n2 c2 [⟨1, v⟩, ⟨4, -v⟩] (by simp) _ M I h) fun a2 w12 hp2 H12 => ?_
  have hp2 := hN.twice (by rw [hlv]; rfl) hp2.1
  refine Exists.elim hp2.1 fun fp he2 => ?_
  rw [hp2.2] at H12
  refine call_rule H12 (fun M I _ h => codeF a2.1 _ M I h) fun _ w13 _ H13 => ?_
  refine br (fun q => ?_) (fun q => ?_)
  · exfalso
    have q : (codeOfF a2.1 != 10) = true := q
    rw [he2] at q
    have q : ((10 : Int) != 10) = true := q
    exact absurd q (by decide)
  refine call_rule H13 (fun M I _ h => balX l a1.2 9 1 _ M I h) fun _ w14 _ H14 => ?_
  have hb : getS a1.2.sums ⟨9, 1, false⟩ = v := by
    have h1 := getS_off (a := 1) hS.bo.inv hN.off
    have h1 : getS d.sums ⟨9, 1, false⟩ = 0 := h1
    rw [hsum, h1]; simp [amtOf]
  have ev : IntKind.i64.wrap v = v := by
    obtain ⟨h1, h2⟩ := hv
    simp only [kLo, kHi] at h1 h2
    exact w64 (by omega) (by omega)
  refine br (fun q => ?_) (fun q => ?_)
  · exfalso
    have q : (getS a1.2.sums ⟨9, 1, false⟩ != IntKind.i64.wrap v) = true := q
    rw [hb, ev, bne_same] at q; cases q
  refine load_rule tok H14 (v := keyV (k9 k)) rfl ?_
  refine call_rule H14 (fun M I _ h => hN.revC hI1 hsome hlv hlns hsum l (by omega) _ M I h) fun d3 w15 hr H15 => ?_
  have hI3 := hr.1
  have hlv3 := hr.2.1
  have hlen3 := hr.2.2.1
  have hk3 := hr.2.2.2.1
  have hsum3 := hr.2.2.2.2
  refine load_rule tok H15 (v := keyV (k9 k)) rfl ?_
  refine call_rule H15 (fun M I _ h => revX l d3 hI3 (by omega) (k9 k) hN.kin _ M I h) fun a4 w16 hp4 H16 => ?_
  have hp4 := Nine.noMore hlv3 hp4.1
  refine Exists.elim hp4.1 fun fp4 he4 => ?_
  rw [hp4.2] at H16
  refine call_rule H16 (fun M I _ h => codeF a4.1 _ M I h) fun _ w17 _ H17 => ?_
  refine br (fun q => ?_) (fun q => ?_)
  · exfalso
    have q : (codeOfF a4.1 != 3) = true := q
    rw [he4] at q
    have q : ((3 : Int) != 3) = true := q
    exact absurd q (by decide)
  have H17 : Hp ⟨w, M', I'⟩ [ledO l d3, blk t (entC (k9 k) A2 n2 c2) 39, ledO l' d] [LnF d3.lns, Sl legR (.slice A2 n2 c2) [⟨1, v⟩, ⟨4, -v⟩], LnF d.lns, Glob 0 errTy] w17 := Hp.keep H17
  refine loop_rule tok (σ := Nat) 649032155556696312045212444672064 (fun s => [(14, .int .u8 (s : Int))])
    (fun s w' => s ≤ 10 ∧ Hp ⟨w, M', I'⟩ [ledO l d3, blk t (entC (k9 k) A2 n2 c2) 39, ledO l' d] [LnF d3.lns, Sl legR (.slice A2 n2 c2) [⟨1, v⟩, ⟨4, -v⟩], LnF d.lns, Glob 0 errTy] w') (fun s => 10 - s) 1 rfl rfl ⟨rfl, trivial⟩ ⟨by decide, H17⟩ ?_
  intro a j18 w18 hW18
  have ha := hW18.1
  have H18 := hW18.2
  refine brd (fun ha10 => ?_) (fun _ => ?_)
  · have ew : IntKind.u8.wrap ((a : Int) + 1) = ((a + 1 : Nat) : Int) := wrap_id ⟨by show (0 : Int) ≤ _; omega, by show _ ≤ (255 : Int); omega⟩
    have hs1 : getS d3.sums ⟨0, (a : Int), true⟩ = getS d.sums ⟨0, (a : Int), true⟩ := hsum3 _
    have hs2 : getS d3.sums ⟨9, (a : Int), false⟩ = 0 := (hsum3 _).trans (getS_off hS.bo.inv hN.off)
    refine call_rule H18 (fun M I _ h => ctlX l d3 a _ M I h) fun _ w19 _ H19 => ?_
    refine call_rule H19 (fun M I _ h => ctlX l' d a _ M I h) fun _ w20 _ H20 => ?_
    refine br (fun q => ?_) (fun q => ?_)
    · exfalso
      have q : (getS d3.sums ⟨0, (a : Int), true⟩ != getS d.sums ⟨0, (a : Int), true⟩) = true := q
      rw [hs1, bne_same] at q; cases q
    refine call_rule H20 (fun M I _ h => balX l d3 9 a _ M I h) fun _ w21 _ H21 => ?_
    refine br (fun q => ?_) (fun q => ?_)
    · exfalso
      have q : (getS d3.sums ⟨9, (a : Int), false⟩ != 0) = true := q
      rw [hs2, bne_same] at q; cases q
    exact Exists.intro (a + 1) (And.intro ⟨congrArg (Value.int .u8) ew, trivial⟩ (And.intro (by show 10 - (a + 1) < 10 - a; omega) ⟨by omega, Hp.keep H21⟩))
  refine call_rule H18 (fun M I _ h => lenX l d3 _ M I h) fun _ w19 _ H19 => ?_
  refine call_rule H19 (fun M I _ h => lenX l' d _ M I h) fun _ w20 _ H20 => ?_
  have el : ((d3.lns.length : Int) == IntKind.i64.wrap ((d.lns.length : Int) + 2)) = true := by
    rw [w64 (by omega) (by omega), hlen3]; simp
  refine br (fun _ => ?_) (fun q => ?_)
  · have hno : ∀ q, q ∈ d3.live → q.1.loan ≠ 9 := hN.empty hI3 (fun l' e x hx hxk => by
      rcases hk3 x hx with h | h
      · rw [← hxk, h]
      · exact absurd (by rw [hxk, e]) (hN.off x h)) hlv3
    refine call_rule H20 (fun M I _ h => loanX l d3 9 hno _ M I h) fun _ w21 _ H21 => ?_
    refine load_rule tok H21 (v := .agg #[.int .u32 (k9 k).loan, .int .i32 (k9 k).day, .int .u8 (k9 k).kind, .int .u32 (k9 k).seq, .slice A2 n2 c2]) rfl ?_
    refine call_rule H21 (fun M I _ h => hN.againC hI3 hsome hlv3 hsum3 l (by omega) A2 n2 c2 (by simp) _ M I h) fun d5 w22 hp5 H22 => ?_
    exact Exists.intro () (And.intro rfl (And.intro trivial (Hp.keep H22)))
  · exfalso
    have q : ((d3.lns.length : Int) == IntKind.i64.wrap ((d.lns.length : Int) + 2)) = false := q
    rw [el] at q; cases q
end Go.Proofs.YtfemfomgmopibaaGreatDoor
