/- Which loans have lines is told, rising; of a loan without lines nothing is: LedgerLoans walked. -/
import Derived.Test.YtfemfomgmopibaaGreatDoorB24
set_option linter.unusedVariables false
namespace Go.Proofs.YtfemfomgmopibaaGreatDoor
open Go Go.Proofs Go.Wk
set_option maxRecDepth 20000 in
set_option maxHeartbeats 4000000 in
theorem loansW (A : Option Addr) (n c : Nat) (acts : List Act) (loan : Int) (w : World) (M I : BS) (H : Hp ⟨w, M, I⟩ [] [Sl actR (.slice A n c) acts, Glob 0 errTy] w) :
    Ctr Tryz.prog 4 [.slice A n c, .int .u32 loan] w M I (fun _ : Unit => .bool true) (fun _ => True) (fun _ => []) (fun _ => []) := by
  obtain ⟨hn, hc, hc2⟩ := H.sll (A := A) (n := n) (c := c)
  obtain ⟨M', I', h0, hm', hk'⟩ := Hp.call (A := []) (S := []) (G := [Sl actR (.slice A n c) acts, Glob 0 errTy]) H fun I ha => ha
  have hM := hm' rfl
  refine Exe.mono ?_ (fun v w' ⟨a, e, _, h⟩ => ⟨a, e, trivial, Hp.keep (hk' [] [] w' h)⟩ : ∀ v w', (∃ a : Unit, v = .bool true ∧ True ∧ Hp ⟨w, M', I'⟩ [] [] w') → _)
  refine Exe.of_ev tok Tryz.call4 Tryz.func4 rfl rfl rfl ?_
  refine call_rule h0 (fun M I h0 h => awake_ _ M I (h0 rfl) h) fun _ w2 _ H2 => ?_
  refine call_rule H2 (fun M I _ h => newX _ M I h) fun l w3 _ H3 => ?_
  refine box_as H3 [.slice none 0 0] rfl fun p w4 H4 => ?_
  have H5 : Hp ⟨w, M', I'⟩ [ledO l ⟨[], [], []⟩, refO p []] [LnF [], LnF [], Sl actR (.slice A n c) acts, Glob 0 errTy] w4 := Hp.keep (LnF_nil (LnF_nil (refNew H4)))
  refine loop_rule tok (σ := Nat × Led × List Ln) 549739037072 (fun s => [(24, .int .i64 (s.1 : Int))])
    (fun s w' => s.1 ≤ n ∧ St s.2.1 s.2.2 s.1 14 ∧ Hp ⟨w, M', I'⟩ [ledO l s.2.1, refO p s.2.2] [LnF s.2.1.lns, LnF s.2.2, Sl actR (.slice A n c) acts, Glob 0 errTy] w') (fun s => n - s.1) (0, ⟨[], [], []⟩, []) rfl rfl ⟨rfl, trivial⟩ ⟨Nat.zero_le _, St.zero 14, H5⟩ ?_
  rintro ⟨i, d, xs⟩ j w5 ⟨hi, hS, H⟩
  simp only at hi hS H
  refine brd (fun hin => ?_) (fun _ => ?_)
  · have hin' : i < n := by omega
    have ew : IntKind.i64.wrap ((i : Int) + 1) = ((i + 1 : Nat) : Int) := w64 (by omega) (by omega)
    refine idx_rule tok H rfl rfl rfl (by omega) hin fun eb eo x hx H6 => ?_
    refine ldp_rule tok H6 rfl rfl rfl fun q hok H7 => ?_
    refine alloc_as tok H7 actZ rfl rfl rfl fun lb w6 H8 => ?_
    refine store_as tok H8 (actR.cells x q) rfl rfl rfl rfl rfl fun w7 H9 => ?_
    refine brd (fun h10 => ?_) (fun _ => ?_)
    · refine load_rule tok H9 (v := .agg (actR.cells x q).toArray) rfl ?_
      refine call_rule H9 (fun M I _ h => doX l p d xs hS.bo (by have := hS.few; omega) x.dv x.k hok.1 q.1 q.2.1 q.2.2 x.ls x.raw x.bn hok.2 _ M I h) fun a => ?_
      rcases a with ⟨d', xs'⟩
      intro w8 ha H10
      exact Exists.intro (i + 1, d', xs') (And.intro ⟨congrArg (Value.int .i64) ew, trivial⟩ (And.intro (by show n - (i + 1) < n - i; omega) ⟨by show i + 1 ≤ n; omega, hS.step (by omega) ha, Hp.keep H10⟩))
    · exact Exists.intro (i + 1, d, xs) (And.intro ⟨congrArg (Value.int .i64) ew, trivial⟩ (And.intro (by show n - (i + 1) < n - i; omega) ⟨by show i + 1 ≤ n; omega, hS.skip, Hp.keep H9⟩))
  have hlen := hS.few
  have hinv := hS.bo.inv
  have hlow := hS.low
  have hsim := lnLoans_sim hS.bo.sim
  have hxl := sim_len hS.bo.sim
  have hlo : ∀ y, y ∈ lnLoans d.lns → 0 ≤ y ∧ y < 5 := fun y hy => by
    obtain ⟨x, hx, rfl⟩ := List.mem_map.1 hy
    have := (hinv.ok x hx).2.1.1.1
    exact ⟨this, hlow x hx⟩
  refine call_rule H (fun M I _ h => loansX l d (by omega) hlo _ M I h) fun a w6 ha H6 => ?_
  have hperm := ha.1
  have hsrt := ha.2.1
  have han := ha.2.2
  have hal : a.2.length ≤ 5 := by
    have := hperm.length_eq
    rw [List.length_map] at this
    have := cnt_few hlo
    omega
  have H6 : Hp ⟨w, M', I'⟩ [row 23 1 (.slice a.1.A a.1.n a.1.c) a.1.n (u32sC a.2), ledO l d, refO p xs] [LnF d.lns, LnF xs] w6 := Hp.keep H6
  refine loop_rule tok (σ := Nat) 1152912708513827856 (fun i => [(43, .int .i64 (i : Int))]) (fun i w' => i ≤ a.1.n ∧ Hp ⟨w, M', I'⟩ [row 23 1 (.slice a.1.A a.1.n a.1.c) a.1.n (u32sC a.2), ledO l d, refO p xs] [LnF d.lns, LnF xs] w') (fun i => a.1.n - i) 0 rfl rfl ⟨rfl, trivial⟩ ⟨Nat.zero_le _, H6⟩ ?_
  intro i2 j2 w7 hW
  have hi2 := hW.1
  have H7 := hW.2
  refine brd (fun hlt => ?_) (fun hge => ?_)
  · have hlt' : i2 < a.2.length := by omega
    have ew : IntKind.i64.wrap ((i2 : Int) + 1) = ((i2 + 1 : Nat) : Int) := w64 (by omega) (by omega)
    refine Exists.elim (H7.rowSome (A := a.1.A) (n := a.1.n) (c := a.1.c) (by omega)) fun b hA => ?_
    refine Exists.elim (⟨_, List.getElem?_eq_getElem hlt'⟩ : ∃ x, a.2[i2]? = some x) fun x hx => ?_
    refine idx_ownA tok hA rfl rfl (by omega) hlt ?_
    refine row_ldA tok H7 (A := a.1.A) (n := a.1.n) (c := a.1.c) (.int .u32 x) hA (u32s_get hx) ?_
    refine brd (fun hp0 => ?_) (fun hp0 => ?_)
    · have hp0 : (0 : Int) < (i2 : Int) := hp0
      have e1 : IntKind.i64.wrap ((i2 : Int) - 1) = ((i2 - 1 : Nat) : Int) := by rw [w64 (by omega) (by omega)]; omega
      have hlt2 : i2 - 1 < a.2.length := by omega
      refine Exists.elim (⟨_, List.getElem?_eq_getElem hlt2⟩ : ∃ y, a.2[i2 - 1]? = some y) fun y hy => ?_
      have hyx := loans_rise hperm hsrt hy (by rw [show i2 - 1 + 1 = i2 by omega]; exact hx)
      have hy' : a.2[(IntKind.i64.wrap ((i2 : Int) - 1)).toNat]? = some y := by rw [e1]; exact hy
      refine idx_ownA tok hA rfl rfl (by omega) (by omega) ?_
      refine row_ldA tok H7 (A := a.1.A) (n := a.1.n) (c := a.1.c) (.int .u32 y) hA (u32s_get hy') ?_
      refine brd (fun hq => absurd hq (by omega)) (fun _ => ?_)
      exact Exists.intro (i2 + 1) (And.intro ⟨congrArg (Value.int .i64) ew, trivial⟩ (And.intro (by show a.1.n - (i2 + 1) < a.1.n - i2; omega) ⟨by show i2 + 1 ≤ a.1.n; omega, H7⟩))
    · exact Exists.intro (i2 + 1) (And.intro ⟨congrArg (Value.int .i64) ew, trivial⟩ (And.intro (by show a.1.n - (i2 + 1) < a.1.n - i2; omega) ⟨by show i2 + 1 ≤ a.1.n; omega, H7⟩))
  refine makeMap_rule H7 u32V iV fun m w8 H8 => ?_
  refine Exists.elim (refOpen (p := p) (xs := xs) H8) fun rs hrs => ?_
  have hrn := hrs.1
  have H9 : Hp ⟨w, M', I'⟩ [mapO m u32V iV [], blk p [.slice rs.A rs.n rs.c] 33, row 66 6 (.slice rs.A rs.n rs.c) rs.n (lnsC xs), row 23 1 (.slice a.1.A a.1.n a.1.c) a.1.n (u32sC a.2), ledO l d] [LnF d.lns, LnF xs] w8 := Hp.keep hrs.2
  have H9 : Hp ⟨w, M', I'⟩ [mapO m u32V iV (cntL (lnLoans (xs.take 0))), blk p [.slice rs.A rs.n rs.c] 33, row 66 6 (.slice rs.A rs.n rs.c) rs.n (lnsC xs), row 23 1 (.slice a.1.A a.1.n a.1.c) a.1.n (u32sC a.2), ledO l d] [LnF d.lns, LnF xs] w8 := H9
  refine load_rule tok H9 (v := .slice rs.A rs.n rs.c) rfl ?_
  refine loop_rule tok (σ := Nat) 302157667927362455486464 (fun i => [(66, .int .i64 (i : Int))]) (fun i w' => i ≤ rs.n ∧ Hp ⟨w, M', I'⟩ [mapO m u32V iV (cntL (lnLoans (xs.take i))), blk p [.slice rs.A rs.n rs.c] 33, row 66 6 (.slice rs.A rs.n rs.c) rs.n (lnsC xs), row 23 1 (.slice a.1.A a.1.n a.1.c) a.1.n (u32sC a.2), ledO l d] [LnF d.lns, LnF xs] w') (fun i => rs.n - i) 0 rfl rfl ⟨rfl, trivial⟩ ⟨Nat.zero_le _, H9⟩ ?_
  intro i3 j3 w9 hW3
  have hi3 := hW3.1
  have Ha := hW3.2
  refine brd (fun hlt => ?_) (fun hge3 => ?_)
  · have hlt' : i3 < xs.length := by omega
    have ew : IntKind.i64.wrap ((i3 : Int) + 1) = ((i3 + 1 : Nat) : Int) := w64 (by omega) (by omega)
    refine Exists.elim (Ha.rowSome (A := rs.A) (n := rs.n) (c := rs.c) (by omega)) fun b hA => ?_
    refine Exists.elim (⟨_, List.getElem?_eq_getElem hlt'⟩ : ∃ x, xs[i3]? = some x) fun x hx => ?_
    have hcb := cnt_bd (lnLoans (xs.take i3)) x.k.loan
    have hll : (lnLoans (xs.take i3)).length ≤ 1000 := by unfold lnLoans; rw [List.length_map, List.length_take]; omega
    have ec : IntKind.i64.wrap ((lk x.k.loan (cntL (lnLoans (xs.take i3)))).getD 0 + 1) = (lk x.k.loan (cntL (lnLoans (xs.take i3)))).getD 0 + 1 := w64 (by omega) (by omega)
    refine idx_ownA tok hA rfl rfl (by omega) hlt ?_
    refine row_ldA tok Ha (A := rs.A) (n := rs.n) (c := rs.c) (lnV x) hA (lnR_get hx) ?_
    refine alloc_as tok Ha lnZC rfl rfl rfl fun o wb Hb => ?_
    refine store_as tok Hb (lnC x) rfl rfl rfl rfl rfl fun wc Hc => ?_
    refine load_rule tok Hc (v := .int .u32 x.k.loan) rfl ?_
    refine lookup_rule tok Hc (n := m) (k := x.k.loan) (v := .int .i64 ((lk x.k.loan (cntL (lnLoans (xs.take i3)))).getD 0)) rfl rfl rfl (int_keys tok rfl) rfl (getVI _ _) ?_
    refine mapUpd_rule tok Hc (n := m) (k := x.k.loan) (v := (lk x.k.loan (cntL (lnLoans (xs.take i3)))).getD 0 + 1) rfl (int_keys tok rfl) rfl (congrArg (Value.int .i64) ec) fun wd Hd => ?_
    have Hd : Hp ⟨w, M', I'⟩ [mapO m u32V iV (bump (cntL (lnLoans (xs.take i3))) x.k.loan), blk p [.slice rs.A rs.n rs.c] 33, row 66 6 (.slice rs.A rs.n rs.c) rs.n (lnsC xs), row 23 1 (.slice a.1.A a.1.n a.1.c) a.1.n (u32sC a.2), ledO l d] [LnF d.lns, LnF xs] wd := Hp.keep Hd
    rw [← lnLoans_take hx] at Hd
    exact Exists.intro (i3 + 1) (And.intro ⟨congrArg (Value.int .i64) ew, trivial⟩ (And.intro (by show rs.n - (i3 + 1) < rs.n - i3; omega) ⟨by show i3 + 1 ≤ rs.n; omega, Hd⟩))
  have et : xs.take i3 = xs := List.take_of_length_le (by omega)
  rw [et, hsim] at Ha
  have Ha : Hp ⟨w, M', I'⟩ [mapO m u32V iV (cntL (lnLoans d.lns)), row 23 1 (.slice a.1.A a.1.n a.1.c) a.1.n (u32sC a.2), ledO l d] [LnF d.lns, LnF xs] w9 := Hp.keep Ha
  refine loop_rule tok (σ := Nat) 617761093823075508274921488 (fun i => [(80, .int .i64 (i : Int))]) (fun i w' => i ≤ a.1.n ∧ Hp ⟨w, M', I'⟩ [mapO m u32V iV (cntL (lnLoans d.lns)), row 23 1 (.slice a.1.A a.1.n a.1.c) a.1.n (u32sC a.2), ledO l d] [LnF d.lns, LnF xs] w') (fun i => a.1.n - i) 0 rfl rfl ⟨rfl, trivial⟩ ⟨Nat.zero_le _, Ha⟩ ?_
  intro i4 j4 we hW4
  have hi4 := hW4.1
  have He := hW4.2
  refine brd (fun hlt => ?_) (fun hge4 => ?_)
  · have hlt' : i4 < a.2.length := by omega
    have ew : IntKind.i64.wrap ((i4 : Int) + 1) = ((i4 + 1 : Nat) : Int) := w64 (by omega) (by omega)
    refine Exists.elim (He.rowSome (A := a.1.A) (n := a.1.n) (c := a.1.c) (by omega)) fun b hA => ?_
    refine Exists.elim (⟨_, List.getElem?_eq_getElem hlt'⟩ : ∃ x, a.2[i4]? = some x) fun x hx => ?_
    have hpos : 0 < (lk x (cntL (lnLoans d.lns))).getD 0 := cnt_pos.2 (((cnt_keys x (lnLoans d.lns) []).1 (hperm.mem_iff.1 (List.mem_of_getElem? hx))).resolve_right (by simp))
    refine idx_ownA tok hA rfl rfl (by omega) hlt ?_
    refine row_ldA tok He (A := a.1.A) (n := a.1.n) (c := a.1.c) (.int .u32 x) hA (u32s_get hx) ?_
    refine lookup_rule tok He (n := m) (k := x) (v := .int .i64 ((lk x (cntL (lnLoans d.lns))).getD 0)) rfl rfl rfl (int_keys tok rfl) rfl (getVI _ _) ?_
    refine br (fun hq => ?_) (fun _ => ?_)
    · have hq : ((lk x (cntL (lnLoans d.lns))).getD 0 == 0) = true := hq
      have hq : (lk x (cntL (lnLoans d.lns))).getD 0 = 0 := by simpa using hq
      omega
    · exact Exists.intro (i4 + 1) (And.intro ⟨congrArg (Value.int .i64) ew, trivial⟩ (And.intro (by show a.1.n - (i4 + 1) < a.1.n - i4; omega) ⟨by show i4 + 1 ≤ a.1.n; omega, He⟩))
  have hle : (cntL (lnLoans d.lns)).length = a.1.n := by
    have := hperm.length_eq
    rw [List.length_map] at this
    omega
  refine mapLen_rule tok He (n := m) rfl ?_
  refine br (fun _ => ?_) (fun hq => ?_)
  · refine lookup_rule tok He (n := m) (k := loan) (v := .int .i64 ((lk loan (cntL (lnLoans d.lns))).getD 0)) rfl rfl rfl (int_keys tok rfl) rfl (getVI _ _) ?_
    refine brd (fun hq => ?_) (fun hq => ?_)
    · exact Exists.intro () (And.intro rfl (And.intro trivial (Hp.keep He)))
    · have hno : ∀ x, x ∈ d.lns → x.k.loan ≠ loan := fun x hx e => hq (cnt_pos.2 (List.mem_map.2 ⟨x, hx, e⟩))
      refine call_rule He (fun M I _ h => loanX l d loan (fun q hq e => by
        obtain ⟨x, hx, hxk⟩ := live_loan hinv hq
        exact hno x hx (by rw [hxk]; exact e)) _ M I h) fun _ wf _ Hf => ?_
      have hz := getS_off (a := 1) hinv hno
      refine call_rule Hf (fun M I _ h => hz ▸ balX l d loan 1 _ M I h) fun _ wg _ Hg => ?_
      exact Exists.intro () (And.intro rfl (And.intro trivial (Hp.keep Hg)))
  · have hq : (((cntL (lnLoans d.lns)).length : Int) == (a.1.n : Int)) = false := hq
    rw [hle] at hq
    simp at hq
end Go.Proofs.YtfemfomgmopibaaGreatDoor
