/- Events that come in another order: LoanOrders walked. -/
import Derived.Test.YtjlfjjgjghdokaaGreatDoorLy25
set_option linter.unusedVariables false
namespace Go.Proofs.YtjlfjjgjghdokaaGreatDoor
open Go Go.Proofs Go.Wk
theorem Hp.slTake {B : Base} {S : List Asn} {F : List Fact} {w : World} (H : Hp B S F w) {A : Option Addr} {n c : Nat} (k : Nat) {α : Type} {r : Rp α} {xs : List α} [h2 : InSl F A n c r xs] (hk : k ≤ n) : Hp B S (Sl r (.slice A k c) (xs.take k) :: F) w := by
  obtain ⟨hnx, hc, hc2⟩ := H.sll (A := A) (n := n) (c := c)
  refine H.facts fun I ha f hf => ?_
  rcases List.mem_cons.1 hf with rfl | hf
  · obtain ⟨A', c', e1, q1, q2, q3, q4⟩ := ha _ h2.mem
    injection e1 with e1 e2 e3
    subst e1 e3
    refine ⟨A, c, by rw [List.length_take, Nat.min_eq_left (by omega)], by rw [List.length_take]; omega, hc2, q3, fun i x hx => q4 i x ?_⟩
    rw [List.getElem?_take] at hx
    split at hx
    · exact hx
    · cases hx
  · exact ha f hf
theorem ac_one : ∀ (x : Ac) (p : Unit), acR.ok x p → ∀ u, u ∈ acR.cells x p → u.oneCell' = true := fun x p _ u hu => by
  simp only [List.mem_cons, List.not_mem_nil, or_false] at hu
  rcases hu with rfl | rfl | rfl | rfl | rfl | rfl | rfl <;> rfl
theorem LoI.run {S : Sto} {thr : Int} {n : Nat} {o : Lo} (h : LoI S thr n o) {day : Int} (h1 : S.t.start - 1 ≤ day) (h2 : day ≤ S.t.start + 10000) {x : St} {hd : Hd} (ht : Go.Proofs.YtjlfjjgjghdokaaGreatDoor.told o.S day o.ps x (hd.es.map kl)) : LoI S day n { o with thr := day, x := x, h := hd } :=
  ⟨h.s, rfl, h.ok.run (by rw [h.s]; exact h1) (by rw [h.s]; exact h2), h.ps, h.few, by rw [← h.s]; exact ht⟩
@[reducible] def paO (e : Ev) : Pa := ⟨e, false⟩
theorem no_ps {S : Sto} {thr : Int} {o : Lo} (h : LoI S thr 0 o) : o.ps = [] := List.eq_nil_of_length_eq_zero (by have := h.few; omega)
/-- Two loans that are run, or take events, side by side. -/
structure LS8 where
  i : Nat
  oa : Lo
  oc : Lo
structure ES8 where
  i : Nat
  sv : SV
  evs : List Ev
structure OS8 where
  i : Nat
  oa : Lo
  oc : Lo
  p : Led
  q : Led
  all : Bool
set_option maxHeartbeats 8000000 in
set_option maxRecDepth 20000 in
theorem ordersWalk8 (t : Tm) (hin0 : TmIn t) (dn : Int) (hdn : inK .u8 dn) (A1 : Option Addr) (n1 c1 : Nat) (xs : List Ac) (A2 : Option Addr) (n2 c2 : Nat) (ys : List Ac) (w : World) (M I : BS) (hM : ∀ b, ¬ M b) (H : Hp ⟨w, M, I⟩ [] [Sl acR (.slice A1 n1 c1) xs, Sl acR (.slice A2 n2 c2) ys, LibF] w) :
    Ctr Tryz.prog 6 [tmV t, .int .u8 dn, .slice A1 n1 c1, .slice A2 n2 c2] w M I (fun _ : Unit => .bool true) (fun _ => True) (fun _ => []) (fun _ => []) := by
  have hdn0 : 0 ≤ dn := hdn.1
  have hin := smT_in hin0
  have hx := H.sll (A := A1) (n := n1) (c := c1) (r := acR) (xs := xs)
  have hy := H.sll (A := A2) (n := n2) (c := c2) (r := acR) (xs := ys)
  refine Exe.of_ev tok Tryz.call6 Tryz.func6 rfl rfl rfl ?_
  refine box_as H (tmC t) rfl fun r w1 H1 => ?_
  refine call_rule H1 (fun M I h0 h => awake18 _ M I (h0 rfl) h) fun _ w2 _ H2 => ?_
  refine load_rule tok H2 (v := tmV t) rfl ?_
  refine call_rule H2 (fun M I _ h => small_ t _ M I h) fun _ w3 _ H3 => ?_
  refine Exists.elim (show ∃ u, u = smT t from ⟨_, rfl⟩) fun u eu => ?_
  rw [← eu] at hin
  refine store_as tok H3 (tmC (smT t)) rfl rfl rfl rfl rfl fun w4 H4 => ?_
  rw [← eu] at H4
  refine load_rule tok H4 (v := tmV u) rfl ?_
  refine call_rule H4 (fun M I _ h => ownTm18 u hin _ M I h) fun _ w5 _ H5 => ?_
  refine call_rule H5 (fun M I _ h => refRight u hin _ M I h) fun _ w6 _ H6 => ?_
  refine br (fun q => ?_) (fun q => ?_)
  · exact Exists.intro () (And.intro rfl (And.intro trivial (Hp.keep H6)))
  have q : rtB u = true := by have q : (!rtB u) = false := q; simpa using q
  have hb : tmB u = true := by rw [← rtB_eq]; exact q
  have ok := tmB_iff.1 hb
  have hst := ok.start
  have H6 : Hp ⟨w, M, I⟩ [blk r (tmC u) 28] [Sl dayR (.slice none 0 0) [], Sl acR (.slice A1 n1 c1) xs, Sl acR (.slice A2 n2 c2) ys] w6 := Hp.keep (Hp.slNil dayR H6)
  refine load_rule tok H6 (v := tmV u) rfl ?_
  refine call_rule H6 (fun M I h0 h => loanNew 7 ⟨by decide, by decide⟩ u hin none 0 0 [] hb (by decide) _ M I (h0 rfl) h) fun a w7 ha H7 => ?_
  refine load_rule tok H7 (v := tmV u) rfl ?_
  refine call_rule H7 (fun M I h0 h => loanNew 7 ⟨by decide, by decide⟩ u hin none 0 0 [] hb (by decide) _ M I (h0 rfl) h) fun c w8 hc H8 => ?_
  have hcS : c.2.S = a.2.S := by
    have e1 := ha.loan; have e2 := ha.tm; have e3 := hc.loan; have e4 := hc.tm; have e5 := DuesR.one hc.dues ha.dues
    revert e1 e2 e3 e4 e5
    cases a.2.S; cases c.2.S
    rintro rfl rfl rfl rfl rfl
    rfl
  refine Exists.elim (show ∃ S : Sto, S = a.2.S from ⟨_, rfl⟩) fun S eS => ?_
  have hSt : S.t = u := by rw [eS]; exact ha.tm
  have hSl : S.loan = 7 := by rw [eS]; exact ha.loan
  have hSo : StoOk S := by rw [eS]; exact ha.ok.sto
  have hIa : LoI S (u.start - 1 + ((0 : Nat) : Int)) 0 a.2 := by
    have e : a.2.thr = u.start - 1 + ((0 : Nat) : Int) := by rw [ha.thr]; omega
    refine ⟨eS.symm, e, ha.ok, ?_, ?_, ?_⟩
    · rw [ha.ps]; exact ⟨(fun p hp => by cases hp), (fun p hp => by cases hp), List.nodup_nil⟩
    · rw [ha.ps]; exact Nat.le_refl _
    · rw [eS, ← e]; exact ha.told
  have hIc : LoI S (u.start - 1 + ((0 : Nat) : Int)) 0 c.2 := by
    have e : c.2.thr = u.start - 1 + ((0 : Nat) : Int) := by rw [hc.thr]; omega
    refine ⟨by rw [hcS, eS], e, hc.ok, ?_, ?_, ?_⟩
    · rw [hc.ps]; exact ⟨(fun p hp => by cases hp), (fun p hp => by cases hp), List.nodup_nil⟩
    · rw [hc.ps]; exact Nat.le_refl _
    · rw [eS, ← hcS, ← e]; exact hc.told
  have H8 : Hp ⟨w, M, I⟩ [loO a.1 a.2, loO c.1 c.2, blk r (tmC u) 28] [Sl dueR (.slice a.2.dv.A a.2.dv.n a.2.dv.c) a.2.S.dues, EnF a.2.h.es, Sl dueR (.slice c.2.dv.A c.2.dv.n c.2.dv.c) c.2.S.dues, EnF c.2.h.es, Sl acR (.slice A1 n1 c1) xs, Sl acR (.slice A2 n2 c2) ys] w8 := Hp.keep (loClose (p := c.1) (o := c.2) (loClose (p := a.1) (o := a.2) H8))
  refine load_rule tok H8 (v := .int .i32 u.start) rfl ?_
  refine Exists.elim (show ∃ k : Nat, (k : Int) = dn % 25 from ⟨(dn % 25).toNat, by omega⟩) fun k ek => ?_
  have hk : k < 25 := by omega
  have er : dn.tmod 25 = (k : Int) := by rw [Int.tmod_eq_emod_of_nonneg hdn0]; omega
  refine rem_as ((k : Nat) : Int) (by decide) er ?_
  refine loop_out tok (σ := LS8) (τ := LS8) 9223090561878073600 0 (fun s => [(13, .int .i32 (u.start + (s.i : Int))), (48, .int .u8 (s.i : Int))]) (fun s w' => s.i ≤ k ∧ LoI S (u.start - 1 + (s.i : Int)) 0 s.oa ∧ LoI S (u.start - 1 + (s.i : Int)) 0 s.oc ∧ Hp ⟨w, M, I⟩ [loO a.1 s.oa, loO c.1 s.oc, blk r (tmC u) 28] [Sl dueR (.slice s.oa.dv.A s.oa.dv.n s.oa.dv.c) s.oa.S.dues, EnF s.oa.h.es, Sl dueR (.slice s.oc.dv.A s.oc.dv.n s.oc.dv.c) s.oc.S.dues, EnF s.oc.h.es, Sl acR (.slice A1 n1 c1) xs, Sl acR (.slice A2 n2 c2) ys] w') (fun s => k - s.i) ⟨0, a.2, c.2⟩
    (fun s => [(13, .int .i32 (u.start + (k : Int)))]) (fun s w' => LoI S (u.start - 1 + (k : Int)) 0 s.oa ∧ LoI S (u.start - 1 + (k : Int)) 0 s.oc ∧ Hp ⟨w, M, I⟩ [loO a.1 s.oa, loO c.1 s.oc] [Sl dueR (.slice s.oa.dv.A s.oa.dv.n s.oa.dv.c) s.oa.S.dues, EnF s.oa.h.es, Sl dueR (.slice s.oc.dv.A s.oc.dv.n s.oc.dv.c) s.oc.S.dues, EnF s.oc.h.es, Sl acR (.slice A1 n1 c1) xs, Sl acR (.slice A2 n2 c2) ys] w') rfl rfl ⟨congrArg (Value.int .i32) (show u.start = u.start + ((0 : Nat) : Int) by omega), rfl, trivial⟩ ⟨Nat.zero_le _, hIa, hIc, H8⟩ ?_ ?_
  · intro s j w9 hW
    have hi := hW.1
    have h1 := hW.2.1
    have h2 := hW.2.2.1
    have H9 := hW.2.2.2
    refine brd (fun q2 => ?_) (fun q2 => ?_)
    · have hil : s.i < k := Int.ofNat_lt.1 q2
      have ed : u.start + (s.i : Int) = u.start - 1 + ((s.i + 1 : Nat) : Int) := by omega
      have ew : IntKind.i32.wrap (u.start + (s.i : Int) + 1) = u.start + ((s.i + 1 : Nat) : Int) := by rw [i32w (n := u.start + (s.i : Int) + 1) (by omega) (by omega)]; omega
      have ew8 : IntKind.u8.wrap ((s.i : Int) + 1) = ((s.i + 1 : Nat) : Int) := wrap_id ⟨by show (0 : Int) ≤ _; omega, by show _ ≤ (255 : Int); omega⟩
      refine call_rule H9 (fun M I _ h => runX a.1 s.oa h1.ok (u.start + (s.i : Int)) (by rw [h1.th]; omega) (by rw [h1.s, hSt]; omega) (by omega) _ M I h) fun b w10 hb1 H10 => ?_
      refine call_rule H10 (fun M I _ h => runX c.1 s.oc h2.ok (u.start + (s.i : Int)) (by rw [h2.th]; omega) (by rw [h2.s, hSt]; omega) (by omega) _ M I h) fun b2 w11 hb2 H11 => ?_
      refine Exists.intro ⟨s.i + 1, { s.oa with thr := u.start + (s.i : Int), x := b.1, h := b.2 }, { s.oc with thr := u.start + (s.i : Int), x := b2.1, h := b2.2 }⟩ (And.intro ⟨congrArg (Value.int .i32) ew, congrArg (Value.int .u8) ew8, trivial⟩ (And.intro ?_ ⟨?_, ?_, ?_, Hp.keep H11⟩))
      · show k - (s.i + 1) < k - s.i
        omega
      · show s.i + 1 ≤ k
        omega
      · show LoI S (u.start - 1 + ((s.i + 1 : Nat) : Int)) 0 { s.oa with thr := u.start + (s.i : Int), x := b.1, h := b.2 }
        rw [← ed]
        exact h1.run (by rw [hSt]; omega) (by rw [hSt]; omega) hb1
      · show LoI S (u.start - 1 + ((s.i + 1 : Nat) : Int)) 0 { s.oc with thr := u.start + (s.i : Int), x := b2.1, h := b2.2 }
        rw [← ed]
        exact h2.run (by rw [hSt]; omega) (by rw [hSt]; omega) hb2
    · have q2 : ¬ (s.i : Int) < (k : Int) := q2
      have e : s.i = k := by omega
      rw [e] at h1 h2
      exact Exists.intro s (And.intro ⟨congrArg (fun z : Nat => Value.int .i32 (u.start + (z : Int))) e, trivial⟩ ⟨h1, h2, Hp.keep H9⟩)
  intro s0 j0 w9 hW0
  have h1 := hW0.1
  have h2 := hW0.2.1
  have H9 := hW0.2.2
  refine Exists.elim (show ∃ m : Nat, m = min xs.length 5 from ⟨_, rfl⟩) fun m1 hm1 => ?_
  refine Exists.elim (show ∃ m : Nat, m = min ys.length 5 from ⟨_, rfl⟩) fun m2 hm2 => ?_
  have em1 : (if (5 : Int) < (n1 : Int) then (5 : Int) else (n1 : Int)) = ((m1 : Nat) : Int) := by split <;> omega
  have em2 : (if (5 : Int) < (n2 : Int) then (5 : Int) else (n2 : Int)) = ((m2 : Nat) : Int) := by split <;> omega
  have H9 := Hp.slTake (A := A1) (n := n1) (c := c1) (Hp.slTake (A := A2) (n := n2) (c := c2) H9 m2 (by omega)) m1 (by omega)
  refine draw_rule (A := []) tok tdr H9 [0, 1, 2, 3, 4, 5, 6, 7, 8, 9, 10, 11, 12, 13, 14] [0, 0, 0, 4, 12, 30, 63, 0, 0, 256, 768, 1920, 4095, 8191, 0] rfl ?_
  refine fresh_slice tok [] rfl rfl rfl rfl rfl rfl rfl fun g => ?_
  refine pass_rule _ (fun w h => slice_sl (A := A1) (n := n1) (c := c1) (k := m1) tok h rfl rfl (congrArg (Value.int .i64) em1) (by omega) fun _ => ⟨rfl, rfl⟩) ?_
  refine imp_rule (fun X wx h => append_sl (v := .slice (some ⟨g, 0, none⟩) 0 0) (A := A1) (n := 0) (m := m1) (c := c1) tok (Hp.toRow (g := g) h 7 0 rfl (by decide)) rfl rfl rfl rfl rfl rfl rfl ac_one (by show (0 + m1) * 12 ≤ _; omega) (by omega) fun A3 c3 nw1 w10 H10 => imp_done H10 ?_)
  refine pass_rule _ (fun w h => slice_sl (A := A2) (n := n2) (c := c2) (k := m2) tok h rfl rfl (congrArg (Value.int .i64) em2) (by omega) fun _ => ⟨rfl, rfl⟩) ?_
  refine imp_rule (fun X wx h => append_sl (v := .slice A3 (0 + m1) c3) (A := A2) (n := 0 + m1) (m := m2) (c := c2) tok h rfl rfl rfl rfl rfl rfl rfl ac_one (by show (0 + m1 + m2) * 12 ≤ _; omega) (by omega) fun A4 c4 nw2 w10 H10 => imp_done H10 ?_)
  refine done_rule fun w10 H10 => ?_
  refine Exists.elim (show ∃ N : Nat, N = 0 + m1 + m2 from ⟨_, rfl⟩) fun N eN => ?_
  refine Exists.elim (show ∃ zs : List Ac, zs = xs.take m1 ++ ys.take m2 from ⟨_, rfl⟩) fun zs ezs => ?_
  have hN10 : N ≤ 10 := by omega
  have H10 : Hp ⟨w, M, I⟩ [row 86 7 (.slice A4 (0 + m1 + m2) c4) (0 + m1 + m2) ([] ++ nw1 ++ nw2), loO a.1 s0.oa, loO c.1 s0.oc] [Cl acR nw1 (xs.take m1), Cl acR nw2 (ys.take m2), Sl dueR (.slice s0.oa.dv.A s0.oa.dv.n s0.oa.dv.c) s0.oa.S.dues, EnF s0.oa.h.es, Sl dueR (.slice s0.oc.dv.A s0.oc.dv.n s0.oc.dv.c) s0.oc.S.dues, EnF s0.oc.h.es] w10 := Hp.keep H10
  rw [List.nil_append] at H10
  have H11 : Hp ⟨w, M, I⟩ [loO a.1 s0.oa, loO c.1 s0.oc] [Sl acR (.slice A4 N c4) zs, Sl dueR (.slice s0.oa.dv.A s0.oa.dv.n s0.oa.dv.c) s0.oa.S.dues, EnF s0.oa.h.es, Sl dueR (.slice s0.oc.dv.A s0.oc.dv.n s0.oc.dv.c) s0.oc.S.dues, EnF s0.oc.h.es] w10 := by
    rw [eN, ezs]
    exact Hp.keep (Hp.frzRow (v := .slice A4 (0 + m1 + m2) c4) (xs := xs.take m1 ++ ys.take m2) (Hp.clApp (r := acR) (c1 := nw1) (c2 := nw2) (x1 := xs.take m1) (x2 := ys.take m2) H10) acR hM rfl (by decide))
  have hzs := H11.sll (A := A4) (n := N) (c := c4) (r := acR) (xs := zs)
  rw [← eN]
  refine loop_out tok (σ := ES8) (τ := ES8) 10141204650710107760144978919424 2 (fun s => [(14, .slice s.sv.A s.sv.n s.sv.c), (77, .int .i64 (s.i : Int))]) (fun s w' => s.i ≤ N ∧ s.sv.n = s.i ∧ s.evs.length = s.i ∧ EvI s.evs ∧ Hp ⟨w, M, I⟩ [row 65 4 (.slice s.sv.A s.sv.n s.sv.c) s.sv.n (evsC s.evs), loO a.1 s0.oa, loO c.1 s0.oc] [Sl acR (.slice A4 N c4) zs, Sl dueR (.slice s0.oa.dv.A s0.oa.dv.n s0.oa.dv.c) s0.oa.S.dues, EnF s0.oa.h.es, Sl dueR (.slice s0.oc.dv.A s0.oc.dv.n s0.oc.dv.c) s0.oc.S.dues, EnF s0.oc.h.es] w') (fun s => N - s.i) ⟨0, ⟨none, 0, 0⟩, []⟩
    (fun s => [(14, .slice s.sv.A s.sv.n s.sv.c)]) (fun s w' => s.sv.n = s.evs.length ∧ EvI s.evs ∧ Hp ⟨w, M, I⟩ [row 65 4 (.slice s.sv.A s.sv.n s.sv.c) s.sv.n (evsC s.evs), loO a.1 s0.oa, loO c.1 s0.oc] [Sl dueR (.slice s0.oa.dv.A s0.oa.dv.n s0.oa.dv.c) s0.oa.S.dues, EnF s0.oa.h.es, Sl dueR (.slice s0.oc.dv.A s0.oc.dv.n s0.oc.dv.c) s0.oc.S.dues, EnF s0.oc.h.es] w') rfl rfl ⟨rfl, rfl, trivial⟩ ⟨Nat.zero_le _, rfl, rfl, ⟨(fun i e h => by simp at h), Nat.zero_le _⟩, Hp.nil H11 65 4⟩ ?_ ?_
  · intro s j w11 hW
    have hi := hW.1
    have hsn := hW.2.1
    have hsl := hW.2.2.1
    have hEv := hW.2.2.2.1
    have H12 := hW.2.2.2.2
    refine brd (fun q2 => ?_) (fun q2 => ?_)
    · have hil : s.i < N := Int.ofNat_lt.1 q2
      have ew : IntKind.i64.wrap ((s.i : Int) + 1) = ((s.i + 1 : Nat) : Int) := w64 (by omega) (by omega)
      refine idx_rule tok H12 rfl rfl rfl (Int.natCast_nonneg s.i) q2 fun eb eo x hx1 H13 => ?_
      refine ldp_rule tok H13 rfl rfl rfl fun _ hok H14 => ?_
      have hk1 : 0 ≤ x.kind ∧ x.kind ≤ 255 := hok.1
      have hb1 : 0 ≤ x.by_ ∧ x.by_ ≤ 255 := hok.2.2
      refine alloc_as tok H14 [.int .u8 0, .int .u8 0, .int .u8 0, .int .i8 0, .int .u32 0, .int .u8 0, .bool false] rfl rfl rfl fun ab w12 H15 => ?_
      refine store_as tok H15 [.int .u8 x.d, .int .u8 x.kind, .int .u8 x.seq, .int .i8 x.back, .int .u32 x.amt, .int .u8 x.by_, .bool x.raw] rfl rfl rfl rfl rfl fun w13 H16 => ?_
      refine load_rule tok H16 (v := .int .u8 x.by_) rfl ?_
      refine rem_as (x.by_ % 25) (by decide) (Int.tmod_eq_emod_of_nonneg hb1.1) ?_
      refine load_rule tok H16 (v := .int .u8 x.kind) rfl ?_
      refine rem_as (x.kind % 3) (by decide) (Int.tmod_eq_emod_of_nonneg hk1.1) ?_
      refine load_rule tok H16 (v := .int .u32 x.amt) rfl ?_
      refine Exists.elim (show ∃ e : Ev, e = ⟨IntKind.u32.wrap (s.i : Int), IntKind.i32.wrap (u.start + (k : Int) - IntKind.i32.wrap (x.by_ % 25)), IntKind.u8.wrap (4 + x.kind % 3), IntKind.i64.wrap (1 + IntKind.i64.wrap x.amt)⟩ from ⟨_, rfl⟩) fun e ee => ?_
      refine slice_as tok H16 [.int .u32 (IntKind.u32.wrap (s.i : Int)), .int .i32 (IntKind.i32.wrap (u.start + (k : Int) - IntKind.i32.wrap (x.by_ % 25))), .int .u8 (IntKind.u8.wrap (4 + x.kind % 3)), .int .i64 (IntKind.i64.wrap (1 + IntKind.i64.wrap x.amt))] rfl rfl rfl rfl rfl rfl fun g2 w14 H17 => ?_
      refine append_rule (v := .slice s.sv.A s.sv.n s.sv.c) (b := g2) (m := 1) (c := 1) tok H17 rfl rfl rfl rfl rfl rfl rfl rfl (by show (s.sv.n + 1) * 24 ≤ _; omega) (by omega) fun A5 c5 w15 H18 => ?_
      have es : evsC s.evs ++ [.int .u32 (IntKind.u32.wrap (s.i : Int)), .int .i32 (IntKind.i32.wrap (u.start + (k : Int) - IntKind.i32.wrap (x.by_ % 25))), .int .u8 (IntKind.u8.wrap (4 + x.kind % 3)), .int .i64 (IntKind.i64.wrap (1 + IntKind.i64.wrap x.amt))] = evsC (s.evs ++ [e]) := by rw [← evsC_snoc, ee]
      rw [es] at H18
      refine Exists.intro ⟨s.i + 1, ⟨A5, s.sv.n + 1, c5⟩, s.evs ++ [e]⟩ (And.intro ⟨rfl, congrArg (Value.int .i64) ew, trivial⟩ (And.intro ?_ ⟨?_, ?_, ?_, ?_, Hp.keep H18⟩))
      · show N - (s.i + 1) < N - s.i
        omega
      · show s.i + 1 ≤ N
        omega
      · show s.sv.n + 1 = s.i + 1
        omega
      · show (s.evs ++ [e]).length = s.i + 1
        rw [List.length_append, hsl]
        rfl
      · refine ⟨fun i z hz => ?_, ?_⟩
        · rcases Nat.lt_or_ge i s.evs.length with hlt | hge
          · rw [List.getElem?_append_left hlt] at hz
            exact hEv.at_ i z hz
          · rw [List.getElem?_append_right hge] at hz
            have h0 : i - s.evs.length = 0 := by
              have := (List.getElem?_eq_some_iff.1 hz).1
              simpa using this
            rw [h0] at hz
            have hz : e = z := by simpa using hz
            rw [← hz, ee]
            have hd := wrap_in .i32 (u.start + (k : Int) - IntKind.i32.wrap (x.by_ % 25))
            refine ⟨?_, hd.1, hd.2⟩
            show IntKind.u32.wrap (s.i : Int) = (i : Int)
            rw [u32_of (x := s.i) (by omega)]
            omega
        · show (s.evs ++ [e]).length ≤ 10
          rw [List.length_append]
          show s.evs.length + 1 ≤ 10
          omega
    · have q2 : ¬ (s.i : Int) < (N : Int) := q2
      exact Exists.intro s (And.intro ⟨rfl, trivial⟩ ⟨by omega, hEv, Hp.keep H12⟩)
  intro se j1 w11 hW1
  have hen := hW1.1
  have hEv := hW1.2.1
  have H12 := hW1.2.2
  refine Exists.elim (show ∃ evs : List Ev, evs = se.evs from ⟨_, rfl⟩) fun evs eev => ?_
  rw [← eev] at hen hEv H12
  have hev10 := hEv.len
  have H13 : Hp ⟨w, M, I⟩ [loO a.1 s0.oa, loO c.1 s0.oc] [Sl evR (.slice se.sv.A se.sv.n se.sv.c) evs, Sl dueR (.slice s0.oa.dv.A s0.oa.dv.n s0.oa.dv.c) s0.oa.S.dues, EnF s0.oa.h.es, Sl dueR (.slice s0.oc.dv.A s0.oc.dv.n s0.oc.dv.c) s0.oc.S.dues, EnF s0.oc.h.es] w11 := Hp.keep (frzEvs (v := .slice se.sv.A se.sv.n se.sv.c) H12 evs hM)
  refine call_rule H13 (fun M I _ h => newX _ M I h) fun l1 w12 _ H14 => ?_
  refine call_rule H14 (fun M I _ h => newX _ M I h) fun l2 w13 _ H15 => ?_
  have H15 : Hp ⟨w, M, I⟩ [loO a.1 s0.oa, loO c.1 s0.oc, ledO l1 ⟨[], [], []⟩, ledO l2 ⟨[], [], []⟩] [Sl dueR (.slice s0.oa.dv.A s0.oa.dv.n s0.oa.dv.c) s0.oa.S.dues, EnF s0.oa.h.es, Sl dueR (.slice s0.oc.dv.A s0.oc.dv.n s0.oc.dv.c) s0.oc.S.dues, EnF s0.oc.h.es, LnF [], LnF [], Sl evR (.slice se.sv.A se.sv.n se.sv.c) evs] w13 := Hp.keep (lnNil (lnNil H15))
  have hthr : S.t.start - 1 ≤ u.start - 1 + (k : Int) ∧ u.start - 1 + (k : Int) ≤ S.t.start + 250 := by rw [hSt]; omega
  have htd : -2147483648 ≤ u.start + (k : Int) ∧ u.start + (k : Int) ≤ 2147483647 := by omega
  have hl0 : LdI S.loan 0 ⟨[], [], []⟩ := ldi_nil _
  have hN : se.sv.n = evs.length := hen
  rw [show u.start - 1 + (k : Int) = u.start - 1 + (k : Int) from rfl] at h1
  refine Exists.elim (show ∃ th : Int, th = u.start - 1 + (k : Int) from ⟨_, rfl⟩) fun th eth => ?_
  rw [← eth] at h1 h2 hthr
  refine Exists.elim (show ∃ td : Int, td = u.start + (k : Int) from ⟨_, rfl⟩) fun td etd => ?_
  rw [← etd] at htd
  rw [← etd]
  refine loop_out tok (σ := OS8) (τ := OS8) 2854495385411757502839742725535598694756778240 4 (fun s => [(19, .bool s.all), (107, .int .i64 (s.i : Int))]) (fun s w' => s.i ≤ se.sv.n ∧ LoI S th s.i s.oa ∧ LoI S th s.i s.oc ∧ LdI S.loan s.i s.p ∧ LdI S.loan s.i s.q ∧ (s.all = true → s.oa.ps = (evs.take s.i).map paO ∧ s.oc.ps = (evs.reverse.take s.i).map paO) ∧ Hp ⟨w, M, I⟩ [loO a.1 s.oa, loO c.1 s.oc, ledO l1 s.p, ledO l2 s.q] [Sl dueR (.slice s.oa.dv.A s.oa.dv.n s.oa.dv.c) s.oa.S.dues, EnF s.oa.h.es, Sl dueR (.slice s.oc.dv.A s.oc.dv.n s.oc.dv.c) s.oc.S.dues, EnF s.oc.h.es, LnF s.p.lns, LnF s.q.lns, Sl evR (.slice se.sv.A se.sv.n se.sv.c) evs] w') (fun s => se.sv.n - s.i) ⟨0, s0.oa, s0.oc, ⟨[], [], []⟩, ⟨[], [], []⟩, true⟩
    (fun s => [(19, .bool s.all)]) (fun s w' => LoI S th 10 s.oa ∧ LoI S th 10 s.oc ∧ LdI S.loan 10 s.p ∧ LdI S.loan 10 s.q ∧ (s.all = true → s.oa.ps = evs.map paO ∧ s.oc.ps = evs.reverse.map paO) ∧ Hp ⟨w, M, I⟩ [loO a.1 s.oa, loO c.1 s.oc, ledO l1 s.p, ledO l2 s.q] [Sl dueR (.slice s.oa.dv.A s.oa.dv.n s.oa.dv.c) s.oa.S.dues, EnF s.oa.h.es, Sl dueR (.slice s.oc.dv.A s.oc.dv.n s.oc.dv.c) s.oc.S.dues, EnF s.oc.h.es, LnF s.p.lns, LnF s.q.lns, Sl evR (.slice se.sv.A se.sv.n se.sv.c) evs] w') rfl rfl ⟨rfl, rfl, trivial⟩ ⟨Nat.zero_le _, h1, h2, hl0, hl0, (fun _ => ⟨no_ps h1, no_ps h2⟩), H15⟩ ?_ ?_
  · intro s j w14 hW
    have hi := hW.1
    have g1 := hW.2.1
    have g2 := hW.2.2.1
    have g3 := hW.2.2.2.1
    have g4 := hW.2.2.2.2.1
    have g5 := hW.2.2.2.2.2.1
    have G0 := hW.2.2.2.2.2.2
    refine brd (fun q2 => ?_) (fun q2 => ?_)
    · have hil : s.i < se.sv.n := Int.ofNat_lt.1 q2
      have ew : IntKind.i64.wrap ((s.i : Int) + 1) = ((s.i + 1 : Nat) : Int) := w64 (by omega) (by omega)
      have f1 := g1.few
      have f2 := g2.few
      have ej : IntKind.i64.wrap (IntKind.i64.wrap ((se.sv.n : Int) - 1) - (s.i : Int)) = ((se.sv.n - 1 - s.i : Nat) : Int) := by rw [i64w (n := (se.sv.n : Int) - 1) (by omega) (by omega)]; rw [i64w (by omega) (by omega)]; omega
      have ej0 : 0 ≤ IntKind.i64.wrap (IntKind.i64.wrap ((se.sv.n : Int) - 1) - (s.i : Int)) := by rw [ej]; omega
      have ej1 : IntKind.i64.wrap (IntKind.i64.wrap ((se.sv.n : Int) - 1) - (s.i : Int)) < (se.sv.n : Int) := by rw [ej]; omega
      have er2 : ((s.i : Int)).tmod 2 = ((s.i % 2 : Nat) : Int) := rfl
      refine idx_rule tok G0 rfl rfl rfl (Int.natCast_nonneg s.i) q2 fun eb eo e he1 G1 => ?_
      have he1 : evs[s.i]? = some e := he1
      have he := hEv.at_ s.i e he1
      have hsq : inK .u32 e.seq := ⟨by show (0 : Int) ≤ e.seq; omega, by show e.seq ≤ 4294967295; omega⟩
      refine ldp_rule tok G1 rfl rfl rfl fun _ _ G2 => ?_
      have G2 : Hp ⟨w, M, I⟩ [loO a.1 s.oa, loO c.1 s.oc, ledO l1 s.p, ledO l2 s.q] [Sl dueR (.slice s.oa.dv.A s.oa.dv.n s.oa.dv.c) s.oa.S.dues, EnF s.oa.h.es, Sl dueR (.slice s.oc.dv.A s.oc.dv.n s.oc.dv.c) s.oc.S.dues, EnF s.oc.h.es, LnF s.p.lns, LnF s.q.lns, Sl evR (.slice se.sv.A se.sv.n se.sv.c) evs] w14 := Hp.keep G2
      refine (Option.eq_none_or_eq_some (takeE s.oa e td)).elim (fun hn => ?_) (fun hsome => ?_)
      · refine call_rule G2 (fun M I _ h => takeG a.1 s.oa g1.ok (by omega) e he.2 td htd hn _ M I h) fun oa w15 hoa G3 => ?_
        have k1 := g1.take hn hsq hoa
        have G3 : Hp ⟨w, M, I⟩ [loO a.1 oa, loO c.1 s.oc, ledO l1 s.p, ledO l2 s.q] [Sl dueR (.slice oa.dv.A oa.dv.n oa.dv.c) oa.S.dues, EnF oa.h.es, Sl dueR (.slice s.oc.dv.A s.oc.dv.n s.oc.dv.c) s.oc.S.dues, EnF s.oc.h.es, LnF s.p.lns, LnF s.q.lns, Sl evR (.slice se.sv.A se.sv.n se.sv.c) evs] w15 := Hp.keep G3
        refine idx_rule tok G3 rfl rfl rfl ej0 ej1 fun eb2 eo2 e2 he2 G4 => ?_
        rw [ej] at he2
        have he2 : evs[se.sv.n - 1 - s.i]? = some e2 := he2
        have hee := hEv.at_ _ e2 he2
        have hsq2 : inK .u32 e2.seq := ⟨by show (0 : Int) ≤ e2.seq; omega, by show e2.seq ≤ 4294967295; omega⟩
        refine ldp_rule tok G4 rfl rfl rfl fun _ _ G5 => ?_
        have G5 : Hp ⟨w, M, I⟩ [loO a.1 oa, loO c.1 s.oc, ledO l1 s.p, ledO l2 s.q] [Sl dueR (.slice oa.dv.A oa.dv.n oa.dv.c) oa.S.dues, EnF oa.h.es, Sl dueR (.slice s.oc.dv.A s.oc.dv.n s.oc.dv.c) s.oc.S.dues, EnF s.oc.h.es, LnF s.p.lns, LnF s.q.lns, Sl evR (.slice se.sv.A se.sv.n se.sv.c) evs] w15 := Hp.keep G5
        refine (Option.eq_none_or_eq_some (takeE s.oc e2 td)).elim (fun hn2 => ?_) (fun hsome2 => ?_)
        · refine call_rule G5 (fun M I _ h => takeG c.1 s.oc g2.ok (by omega) e2 hee.2 td htd hn2 _ M I h) fun oc w16 hoc G6 => ?_
          have k2 := g2.take hn2 hsq2 hoc
          have G6 : Hp ⟨w, M, I⟩ [loO a.1 oa, loO c.1 oc, ledO l1 s.p, ledO l2 s.q] [Sl dueR (.slice oa.dv.A oa.dv.n oa.dv.c) oa.S.dues, EnF oa.h.es, Sl dueR (.slice oc.dv.A oc.dv.n oc.dv.c) oc.S.dues, EnF oc.h.es, LnF s.p.lns, LnF s.q.lns, Sl evR (.slice se.sv.A se.sv.n se.sv.c) evs] w16 := Hp.keep G6
          have hall : s.all = true → oa.ps = (evs.take (s.i + 1)).map paO ∧ oc.ps = (evs.reverse.take (s.i + 1)).map paO := fun ha => by
            obtain ⟨y1, y2⟩ := g5 ha
            have he2' : evs.reverse[s.i]? = some e2 := by rw [List.getElem?_reverse (by omega), ← hN]; exact he2
            refine ⟨?_, ?_⟩
            · rw [hoa.2.2.2.2.1, y1, takeS he1, List.map_append]; rfl
            · rw [hoc.2.2.2.2.1, y2, takeS he2', List.map_append]; rfl
          have t1 := k1.td (by omega) hthr
          have t2 := k2.td (by omega) hthr
          have e1 : oa.S = S := k1.s
          have e2 : oc.S = S := k2.s
          have v1 := g3.len
          have v2 := g4.len
          have v3 : oa.h.es.length ≤ 10000 := by have := t1.len; rw [List.length_map] at this; omega
          have v4 : oc.h.es.length ≤ 10000 := by have := t2.len; rw [List.length_map] at this; omega
          refine call_rule G6 (fun M I _ h => syncX a.1 oa l1 s.p g3.inv (by omega) _ _ g3.lb t1.abs (by decide) k1.ok.loan (by rw [e1]; exact t1.eok) v3 _ M I h) fun p2 w17 hp2 G7 => ?_
          rw [e1] at hp2
          have k3 := g3.step t1 hp2
          refine rem_as ((s.i % 2 : Nat) : Int) (by decide) er2 ?_
          refine br (fun _ => ?_) (fun _ => ?_)
          · have G7 : Hp ⟨w, M, I⟩ [loO a.1 oa, loO c.1 oc, ledO l1 p2, ledO l2 s.q] [Sl dueR (.slice oa.dv.A oa.dv.n oa.dv.c) oa.S.dues, EnF oa.h.es, Sl dueR (.slice oc.dv.A oc.dv.n oc.dv.c) oc.S.dues, EnF oc.h.es, LnF p2.lns, LnF s.q.lns, Sl evR (.slice se.sv.A se.sv.n se.sv.c) evs] w17 := Hp.keep G7
            refine call_rule G7 (fun M I _ h => syncX c.1 oc l2 s.q g4.inv (by omega) _ _ g4.lb t2.abs (by decide) k2.ok.loan (by rw [e2]; exact t2.eok) v4 _ M I h) fun q2' w18 hq2 G8 => ?_
            rw [e2] at hq2
            exact Exists.intro ⟨s.i + 1, oa, oc, p2, q2', s.all⟩ (And.intro ⟨rfl, congrArg (Value.int .i64) ew, trivial⟩ (And.intro (by show se.sv.n - (s.i + 1) < se.sv.n - s.i; omega) ⟨by show s.i + 1 ≤ se.sv.n; omega, k1, k2, k3, g4.step t2 hq2, hall, Hp.keep G8⟩))
          · exact Exists.intro ⟨s.i + 1, oa, oc, p2, s.q, s.all⟩ (And.intro ⟨rfl, congrArg (Value.int .i64) ew, trivial⟩ (And.intro (by show se.sv.n - (s.i + 1) < se.sv.n - s.i; omega) ⟨by show s.i + 1 ≤ se.sv.n; omega, k1, k2, k3, g4.more (Nat.le_succ s.i), hall, Hp.keep G7⟩))
        · refine Exists.elim hsome2 fun cc hcc => ?_
          refine call_rule G5 (fun M I _ h => takeB c.1 s.oc g2.ok (by omega) e2 hee.2 td htd cc hcc _ M I h) fun f w16 _ G6 => ?_
          have k2 := g2.more (Nat.le_succ s.i)
          have G6 : Hp ⟨w, M, I⟩ [loO a.1 oa, loO c.1 s.oc, ledO l1 s.p, ledO l2 s.q] [Sl dueR (.slice oa.dv.A oa.dv.n oa.dv.c) oa.S.dues, EnF oa.h.es, Sl dueR (.slice s.oc.dv.A s.oc.dv.n s.oc.dv.c) s.oc.S.dues, EnF s.oc.h.es, LnF s.p.lns, LnF s.q.lns, Sl evR (.slice se.sv.A se.sv.n se.sv.c) evs] w16 := Hp.keep G6
          have t1 := k1.td (by omega) hthr
          have t2 := k2.td (by omega) hthr
          have e1 : oa.S = S := k1.s
          have e2 : s.oc.S = S := k2.s
          have v1 := g3.len
          have v2 := g4.len
          have v3 : oa.h.es.length ≤ 10000 := by have := t1.len; rw [List.length_map] at this; omega
          have v4 : s.oc.h.es.length ≤ 10000 := by have := t2.len; rw [List.length_map] at this; omega
          refine call_rule G6 (fun M I _ h => syncX a.1 oa l1 s.p g3.inv (by omega) _ _ g3.lb t1.abs (by decide) k1.ok.loan (by rw [e1]; exact t1.eok) v3 _ M I h) fun p2 w17 hp2 G7 => ?_
          rw [e1] at hp2
          have k3 := g3.step t1 hp2
          refine rem_as ((s.i % 2 : Nat) : Int) (by decide) er2 ?_
          refine br (fun _ => ?_) (fun _ => ?_)
          · have G7 : Hp ⟨w, M, I⟩ [loO a.1 oa, loO c.1 s.oc, ledO l1 p2, ledO l2 s.q] [Sl dueR (.slice oa.dv.A oa.dv.n oa.dv.c) oa.S.dues, EnF oa.h.es, Sl dueR (.slice s.oc.dv.A s.oc.dv.n s.oc.dv.c) s.oc.S.dues, EnF s.oc.h.es, LnF p2.lns, LnF s.q.lns, Sl evR (.slice se.sv.A se.sv.n se.sv.c) evs] w17 := Hp.keep G7
            refine call_rule G7 (fun M I _ h => syncX c.1 s.oc l2 s.q g4.inv (by omega) _ _ g4.lb t2.abs (by decide) k2.ok.loan (by rw [e2]; exact t2.eok) v4 _ M I h) fun q2' w18 hq2 G8 => ?_
            rw [e2] at hq2
            exact Exists.intro ⟨s.i + 1, oa, s.oc, p2, q2', false⟩ (And.intro ⟨rfl, congrArg (Value.int .i64) ew, trivial⟩ (And.intro (by show se.sv.n - (s.i + 1) < se.sv.n - s.i; omega) ⟨by show s.i + 1 ≤ se.sv.n; omega, k1, k2, k3, g4.step t2 hq2, (fun q => by cases q), Hp.keep G8⟩))
          · exact Exists.intro ⟨s.i + 1, oa, s.oc, p2, s.q, false⟩ (And.intro ⟨rfl, congrArg (Value.int .i64) ew, trivial⟩ (And.intro (by show se.sv.n - (s.i + 1) < se.sv.n - s.i; omega) ⟨by show s.i + 1 ≤ se.sv.n; omega, k1, k2, k3, g4.more (Nat.le_succ s.i), (fun q => by cases q), Hp.keep G7⟩))
      · refine Exists.elim hsome fun cc hcc => ?_
        refine call_rule G2 (fun M I _ h => takeB a.1 s.oa g1.ok (by omega) e he.2 td htd cc hcc _ M I h) fun f w16 _ G6 => ?_
        have k1 := g1.more (Nat.le_succ s.i)
        have k2 := g2.more (Nat.le_succ s.i)
        have G6 : Hp ⟨w, M, I⟩ [loO a.1 s.oa, loO c.1 s.oc, ledO l1 s.p, ledO l2 s.q] [Sl dueR (.slice s.oa.dv.A s.oa.dv.n s.oa.dv.c) s.oa.S.dues, EnF s.oa.h.es, Sl dueR (.slice s.oc.dv.A s.oc.dv.n s.oc.dv.c) s.oc.S.dues, EnF s.oc.h.es, LnF s.p.lns, LnF s.q.lns, Sl evR (.slice se.sv.A se.sv.n se.sv.c) evs] w16 := Hp.keep G6
        have t1 := k1.td (by omega) hthr
        have t2 := k2.td (by omega) hthr
        have e1 : s.oa.S = S := k1.s
        have e2 : s.oc.S = S := k2.s
        have v1 := g3.len
        have v2 := g4.len
        have v3 : s.oa.h.es.length ≤ 10000 := by have := t1.len; rw [List.length_map] at this; omega
        have v4 : s.oc.h.es.length ≤ 10000 := by have := t2.len; rw [List.length_map] at this; omega
        refine call_rule G6 (fun M I _ h => syncX a.1 s.oa l1 s.p g3.inv (by omega) _ _ g3.lb t1.abs (by decide) k1.ok.loan (by rw [e1]; exact t1.eok) v3 _ M I h) fun p2 w17 hp2 G7 => ?_
        rw [e1] at hp2
        have k3 := g3.step t1 hp2
        refine rem_as ((s.i % 2 : Nat) : Int) (by decide) er2 ?_
        refine br (fun _ => ?_) (fun _ => ?_)
        · have G7 : Hp ⟨w, M, I⟩ [loO a.1 s.oa, loO c.1 s.oc, ledO l1 p2, ledO l2 s.q] [Sl dueR (.slice s.oa.dv.A s.oa.dv.n s.oa.dv.c) s.oa.S.dues, EnF s.oa.h.es, Sl dueR (.slice s.oc.dv.A s.oc.dv.n s.oc.dv.c) s.oc.S.dues, EnF s.oc.h.es, LnF p2.lns, LnF s.q.lns, Sl evR (.slice se.sv.A se.sv.n se.sv.c) evs] w17 := Hp.keep G7
          refine call_rule G7 (fun M I _ h => syncX c.1 s.oc l2 s.q g4.inv (by omega) _ _ g4.lb t2.abs (by decide) k2.ok.loan (by rw [e2]; exact t2.eok) v4 _ M I h) fun q2' w18 hq2 G8 => ?_
          rw [e2] at hq2
          exact Exists.intro ⟨s.i + 1, s.oa, s.oc, p2, q2', false⟩ (And.intro ⟨rfl, congrArg (Value.int .i64) ew, trivial⟩ (And.intro (by show se.sv.n - (s.i + 1) < se.sv.n - s.i; omega) ⟨by show s.i + 1 ≤ se.sv.n; omega, k1, k2, k3, g4.step t2 hq2, (fun q => by cases q), Hp.keep G8⟩))
        · exact Exists.intro ⟨s.i + 1, s.oa, s.oc, p2, s.q, false⟩ (And.intro ⟨rfl, congrArg (Value.int .i64) ew, trivial⟩ (And.intro (by show se.sv.n - (s.i + 1) < se.sv.n - s.i; omega) ⟨by show s.i + 1 ≤ se.sv.n; omega, k1, k2, k3, g4.more (Nat.le_succ s.i), (fun q => by cases q), Hp.keep G7⟩))
    · have q2 : ¬ (s.i : Int) < (se.sv.n : Int) := q2
      have e : s.i = evs.length := by omega
      refine Exists.intro s (And.intro ⟨rfl, trivial⟩ ⟨g1.more (by omega), g2.more (by omega), g3.more (by omega), g4.more (by omega), fun ha => ?_, G0⟩)
      obtain ⟨y1, y2⟩ := g5 ha
      rw [e, List.take_length] at y1
      rw [e, show evs.length = evs.reverse.length by simp, List.take_length] at y2
      exact ⟨y1, y2⟩
  intro s j2 w14 hW
  have g1 := hW.1
  have g2 := hW.2.1
  have g3 := hW.2.2.1
  have g4 := hW.2.2.2.1
  have g5 := hW.2.2.2.2.1
  have G0 := hW.2.2.2.2.2
  refine br (fun q3 => ?_) (fun q3 => ?_)
  · exact Exists.intro () (And.intro rfl (And.intro trivial (Hp.keep G0)))
  have hal : s.all = true := by
    have q3 : (!s.all) = false := q3
    simpa using q3
  have hps := g5 hal
  have t1 := g1.td (by omega) hthr
  have t2 := g2.td (by omega) hthr
  have e1 : s.oa.S = S := g1.s
  have e2 : s.oc.S = S := g2.s
  have v1 := g3.len
  have v2 := g4.len
  have v3 : s.oa.h.es.length ≤ 10000 := by have := t1.len; rw [List.length_map] at this; omega
  have v4 : s.oc.h.es.length ≤ 10000 := by have := t2.len; rw [List.length_map] at this; omega
  have hsame : s.oa.x = s.oc.x ∧ s.oa.h.es.map kl = s.oc.h.es.map kl := by
    have l1 : liveL s.oa.ps = evs := by rw [hps.1]; exact liveL_map evs
    have l2 : liveL s.oc.ps = evs.reverse := by rw [hps.2]; exact liveL_map evs.reverse
    exact told_same (by rw [l1]; exact hEv.nd) (by rw [l1, l2]; exact (List.reverse_perm evs).symm) g1.told g2.told
  refine call_rule G0 (fun M I _ h => syncX a.1 s.oa l1 s.p g3.inv (by omega) _ _ g3.lb t1.abs (by decide) g1.ok.loan (by rw [e1]; exact t1.eok) v3 _ M I h) fun p2 w15 hp2 G1 => ?_
  rw [e1] at hp2
  have G1 : Hp ⟨w, M, I⟩ [loO a.1 s.oa, loO c.1 s.oc, ledO l1 p2, ledO l2 s.q] [Sl dueR (.slice s.oa.dv.A s.oa.dv.n s.oa.dv.c) s.oa.S.dues, EnF s.oa.h.es, Sl dueR (.slice s.oc.dv.A s.oc.dv.n s.oc.dv.c) s.oc.S.dues, EnF s.oc.h.es, LnF p2.lns, LnF s.q.lns, Sl evR (.slice se.sv.A se.sv.n se.sv.c) evs] w15 := Hp.keep G1
  refine call_rule G1 (fun M I _ h => syncX c.1 s.oc l2 s.q g4.inv (by omega) _ _ g4.lb t2.abs (by decide) g2.ok.loan (by rw [e2]; exact t2.eok) v4 _ M I h) fun q2 w16 hq2 G2 => ?_
  rw [e2] at hq2
  have k3 := g3.step t1 hp2
  have k4 := g4.step t2 hq2
  have v5 := k3.len
  have v6 := k4.len
  refine call_rule G2 (fun M I _ h => stateX a.1 s.oa _ M I h) fun _ w17 _ G3 => ?_
  refine call_rule G3 (fun M I _ h => stateX c.1 s.oc _ M I h) fun _ w18 _ G4 => ?_
  refine neN_struct tok [44, 41] 2 okSt rfl guard44 (stEqV s.oa.x s.oc.x) ?_
  have h5 : (!stEq s.oa.x s.oc.x) = false := by rw [hsame.1, stEq_self]; rfl
  refine br (fun q4 => absurd (h5.symm.trans q4) (by decide)) (fun _ => ?_)
  have G4 : Hp ⟨w, M, I⟩ [loO a.1 s.oa, loO c.1 s.oc, ledO l1 p2, ledO l2 q2] [Sl dueR (.slice s.oa.dv.A s.oa.dv.n s.oa.dv.c) s.oa.S.dues, EnF s.oa.h.es, Sl dueR (.slice s.oc.dv.A s.oc.dv.n s.oc.dv.c) s.oc.S.dues, EnF s.oc.h.es, LnF p2.lns, LnF q2.lns, Sl evR (.slice se.sv.A se.sv.n se.sv.c) evs] w18 := Hp.keep G4
  refine call_rule G4 (fun M I _ h => loanGood l1 p2 k3.inv (by omega) 7 _ M I h) fun e w19 he G5 => ?_
  have G5 : Hp ⟨w, M, I⟩ [row 71 5 (.slice e.A e.es.length e.c) e.es.length (ensC e.es), loO a.1 s.oa, loO c.1 s.oc, ledO l1 p2, ledO l2 q2] [EnF e.es, LnF p2.lns, LnF q2.lns] w19 := Hp.keep G5
  refine call_rule G5 (fun M I _ h => loanGood l2 q2 k4.inv (by omega) 7 _ M I h) fun f w20 hf G6 => ?_
  have G6 : Hp ⟨w, M, I⟩ [row 71 5 (.slice e.A e.es.length e.c) e.es.length (ensC e.es), row 71 5 (.slice f.A f.es.length f.c) f.es.length (ensC f.es)] [EnF e.es, EnF f.es] w20 := Hp.keep G6
  have hkl : e.es.map kl = f.es.map kl := by
    have m1 := hp2.live
    have m2 := hq2.live
    rw [hSl] at m1 m2
    have m3 : (e.es.map kl).Perm (s.oa.h.es.map kl) := he.1.trans m1
    have m4 : (f.es.map kl).Perm (s.oa.h.es.map kl) := by rw [hsame.2]; exact hf.1.trans m2
    exact srtK_uniq (m3.trans m4.symm) (srtK_of he.2) (srtK_of hf.2) (((m3.map Prod.fst).nodup_iff).2 t1.eok.ek.nd)
  have hlen : e.es.length = f.es.length := by
    have := congrArg List.length hkl
    rwa [List.length_map, List.length_map] at this
  have h6 : (!((e.es.length : Int) == (f.es.length : Int))) = false := by rw [hlen]; simp
  refine br (fun q4 => absurd (h6.symm.trans q4) (by decide)) (fun _ => ?_)
  have hmx : e.es.length ≤ 9223372036854775807 := by
    refine Exists.elim (Hp.own (A := row 71 5 (.slice e.A e.es.length e.c) e.es.length (ensC e.es)) G6) fun fa hfa => ?_
    refine Exists.elim (row_shape hfa) fun A' h => Exists.elim h fun c' h => ?_
    have h3 := h.2.1
    have h4 := h.2.2.1
    exact Nat.le_trans h3 h4
  refine loop_rule tok (σ := Nat) 50213748892011714332969598691607030710451606077467917287680 (fun i => [(181, .int .i64 (i : Int))]) (fun i w' => i ≤ e.es.length ∧ Hp ⟨w, M, I⟩ [row 71 5 (.slice e.A e.es.length e.c) e.es.length (ensC e.es), row 71 5 (.slice f.A f.es.length f.c) f.es.length (ensC f.es)] [EnF e.es, EnF f.es] w') (fun i => e.es.length - i) 0 rfl rfl ⟨rfl, trivial⟩ ⟨Nat.zero_le _, G6⟩ ?_
  intro i j3 wb hW2
  have hil := hW2.1
  have Hb := hW2.2
  refine brd (fun z2 => ?_) (fun z2 => ?_)
  · have hi : i < e.es.length := Int.ofNat_lt.1 z2
    have ew : IntKind.i64.wrap ((i : Int) + 1) = ((i + 1 : Nat) : Int) := w64 (by omega) (by omega)
    have z3 : (i : Int) < (f.es.length : Int) := by rw [← hlen]; exact z2
    have i0 : (0 : Int) ≤ (i : Int) := Int.natCast_nonneg _
    refine Exists.elim (show ∃ u, e.es[i]? = some u from ⟨_, List.getElem?_eq_getElem hi⟩) fun u hu => ?_
    refine Exists.elim (show ∃ v, f.es[i]? = some v from ⟨_, List.getElem?_eq_getElem (by omega)⟩) fun v hv => ?_
    have huv := kl_at hkl hu hv
    refine Exists.elim (row_at (A := e.A) (n := e.es.length) (c := e.c) Hb (by omega)) fun g1 hA1 => ?_
    refine Exists.elim (row_at (A := f.A) (n := f.es.length) (c := f.c) Hb (by omega)) fun g2 hA2 => ?_
    have Hb2 := hpEn (hpEn Hb e.es hu) f.es hv
    have hnu := Hb2.sll (A := u.s.A) (n := u.s.n) (c := u.s.c) (r := legR) (xs := u.ls)
    have hnv := Hb2.sll (A := v.s.A) (n := v.s.n) (c := v.s.c) (r := legR) (xs := v.ls)
    have hul : u.ls.length ≤ 9223372036854775807 := Nat.le_trans hnu.2.1 hnu.2.2
    have hc : ∀ (w' : World) (M I : BS), Hp ⟨w', M, I⟩ [] [Sl legR (.slice u.s.A u.s.n u.s.c) u.ls, Sl legR (.slice v.s.A v.s.n v.s.c) v.ls] w' → Ctr Tryz.prog 19 [enV u, enV v] w' M I (fun _ : Unit => .bool (sameB u.k v.k u.ls v.ls)) (fun _ => True) (fun _ => []) (fun _ => []) := fun w' M I h => same_ u.k v.k u.s.A v.s.A u.s.n u.s.c v.s.n v.s.c u.ls v.ls _ M I h ⟨hnu.1, hul⟩ hnv.1
    refine draw_rule (A := []) tok tdr Hb2 [0, 1, 2, 3, 4, 5, 6, 7, 8, 9] [0, 0, 3, 7, 0, 0, 48, 112, 255, 511] rfl ?_
    refine pass_rule _ (fun w h => idx_ownA tok hA1 rfl rfl i0 z2 ⟨rfl, rfl⟩) ?_
    refine pass_rule _ (fun w h => row_ldA (A := e.A) (n := e.es.length) (c := e.c) tok h (enV u) hA1 (ens_get hu) ⟨rfl, rfl⟩) ?_
    refine pass_rule _ (fun w h => idx_ownA tok hA2 rfl rfl i0 z3 ⟨rfl, rfl⟩) ?_
    refine pass_rule _ (fun w h => row_ldA (A := f.A) (n := f.es.length) (c := f.c) tok h (enV v) hA2 (ens_get hv) ⟨rfl, rfl⟩) ?_
    refine imp_rule (fun X wx hw => call_rule hw (fun M I _ h => hc _ M I h) fun _ w1 _ H1 => imp_done H1 ?_)
    refine done_rule fun wc Hc => ?_
    have h3 : (!sameB u.k v.k u.ls v.ls) = false := by rw [huv.1, huv.2, sameSelf]; rfl
    refine br (fun z4 => absurd (h3.symm.trans z4) (by decide)) (fun _ => ?_)
    refine Exists.intro (i + 1) (And.intro ⟨congrArg (Value.int .i64) ew, trivial⟩ (And.intro ?_ ⟨?_, Hp.keep Hc⟩))
    · show e.es.length - (i + 1) < e.es.length - i
      omega
    · omega
  · exact Exists.intro () (And.intro rfl (And.intro trivial (Hp.keep Hb)))
end Go.Proofs.YtjlfjjgjghdokaaGreatDoor
