/- The order in which events arrive says nothing: the plain law, the walk. -/
import Derived.Test.YtjlfjjgjghdokaaGreatDoorE14
import Derived.Test.YtjlfjjgjghdokaaGreatDoorE15
import Derived.Test.YtjlfjjgjghdokaaGreatDoorK12
set_option linter.unusedVariables false
namespace Go.Proofs.YtjlfjjgjghdokaaGreatDoor
open Go Go.Proofs Go.Wk
theorem srt_unique : ∀ {l m : List Ev}, l.Perm m → evSrt l → evSrt m → (∀ a b, a ∈ l → b ∈ l → a.seq = b.seq → a = b) → l = m
  | [], m, hp, _, _, _ => (hp.symm.eq_nil).symm
  | a :: r, [], hp, _, _, _ => by cases hp.eq_nil
  | a :: r, b :: s, hp, h1, h2, hq => by
    have ha : a ∈ b :: s := hp.mem_iff.1 List.mem_cons_self
    have hb : b ∈ a :: r := hp.mem_iff.2 List.mem_cons_self
    obtain ⟨p1, q1⟩ := List.pairwise_cons.1 h1
    obtain ⟨p2, q2⟩ := List.pairwise_cons.1 h2
    have e : a = b := by
      rcases List.mem_cons.1 ha with e | ha
      · exact e
      · rcases List.mem_cons.1 hb with e | hb'
        · exact e.symm
        · have u := p1 b hb'
          have v := p2 a ha
          exact hq a b List.mem_cons_self hb (by unfold evLe at u v; omega)
    subst e
    rw [srt_unique (List.Perm.cons_inv hp) q1 q2 fun x y hx hy => hq x y (List.mem_cons_of_mem _ hx) (List.mem_cons_of_mem _ hy)]
theorem evT_eq (t : Tm) (ds : List Deed) (m : Nat) : evT t ds m = (evL t ds m).reverse := by
  unfold evT evTG evL
  refine List.ext_getElem (by simp) fun i h1 h2 => ?_
  simp
theorem evL_seq (t : Tm) (ds : List Deed) (m : Nat) (a b : Ev) (ha : a ∈ evL t ds m) (hb : b ∈ evL t ds m) (h : a.seq = b.seq) : a = b := by
  unfold evL at ha hb
  obtain ⟨i, hi, rfl⟩ := List.mem_map.1 ha
  obtain ⟨j, hj, rfl⟩ := List.mem_map.1 hb
  have h : (i : Int) + 1 = (j : Int) + 1 := h
  have e : i = j := by omega
  rw [e]
theorem evL_len (t : Tm) (ds : List Deed) (m : Nat) : (evL t ds m).length = m := by unfold evL; simp
def DeedOk (d : Deed) : Prop := inK .u8 d.kind ∧ inK .u16 d.beh ∧ inK .u32 d.amt
theorem evL_amt (t : Tm) (ds : List Deed) (m : Nat) (hm : m ≤ ds.length) (hok : ∀ d, d ∈ ds → DeedOk d) : ∀ e, e ∈ evL t ds m → EvA e := fun e he => by
  unfold evL at he
  obtain ⟨i, hi, rfl⟩ := List.mem_map.1 he
  have hi : i < ds.length := by rw [List.mem_range] at hi; omega
  rw [List.getElem?_eq_getElem hi]
  have h := (hok _ (List.getElem_mem hi)).2.2
  have h0 : 0 ≤ (ds[i]).amt ∧ (ds[i]).amt ≤ 4294967295 := h
  show 0 ≤ (evOf t ds[i] i).amt ∧ (evOf t ds[i] i).amt ≤ 1000000000000
  unfold evOf
  simp only
  split <;> omega
theorem deeds_ok {w : World} {B : Base} {S : List Asn} {F : List Fact} (H : Hp B S F w) {A : Option Addr} {n c : Nat} {ds : List Deed} [hp : InSl F A n c deedR ds] : ∀ x, x ∈ ds → DeedOk x := by
  obtain ⟨I, fp, _, ha, _⟩ := H.ex
  obtain ⟨A', c', e1, _, _, _, q4⟩ := ha _ hp.mem
  intro x hx
  obtain ⟨i, hi⟩ := List.mem_iff_getElem?.1 hx
  obtain ⟨_, _, _, _, p, hok, _⟩ := q4 i x hi
  exact hok
def swapE (l : List Ev) (i j : Nat) (x y : Ev) : List Ev := (l.set i y).set j x
theorem swapE_perm {l : List Ev} {i j : Nat} {x y : Ev} (hx : l[i]? = some x) (hy : l[j]? = some y) : (swapE l i j x y).Perm l := by
  obtain ⟨hi, rfl⟩ := List.getElem?_eq_some_iff.1 hx
  obtain ⟨hj, rfl⟩ := List.getElem?_eq_some_iff.1 hy
  exact List.set_set_perm hi hj
theorem guard44 : Tryz.prog.eqGuardType Tryz.prog.depth 44 = false := by kernel_rfl
theorem held44 : Tryz.prog.stoodInHeld 44 = false := by kernel_rfl
theorem okSt (t : TypeId) (h : [44, 41].contains t = true) : Tryz.prog.stoodInHeld t = false := by
  have h2 : t = 44 ∨ t = 41 := by simpa using h
  rcases h2 with e | e <;> rw [e]
  · exact held44
  · exact held41
def stEq (a b : St) : Bool := ((a.fees == b.fees) && ((a.int == b.int) && ((a.prin == b.prin) && true))) && ((a.carry == b.carry) && ((a.paid == b.paid) && ((a.susp == b.susp) && ((a.recv == b.recv) && ((a.cash == b.cash) && ((a.status == b.status) && true))))))
theorem stEq_self (a : St) : stEq a a = true := by unfold stEq; simp
theorem stEqV (a b : St) : leafN tb [44, 41] 2 44 (stV a) (stV b) = some (stEq a b) := rfl
theorem enC_len (x : En) : (enC x).length = 5 := rfl
@[reducible] def enV (x : En) : Value := .agg #[.int .u32 x.k.loan, .int .i32 x.k.day, .int .u8 x.k.kind, .int .u32 x.k.seq, .slice x.s.A x.s.n x.s.c]
theorem ens_get {es : List En} {j : Nat} {x : En} (h : es[j]? = some x) : ldV (tb 71) (ensC es) (0 + j * 5) = some (enV x) := by
  obtain ⟨hj, _⟩ := List.getElem?_eq_some_iff.1 h
  show (bif Nat.ble (0 + j * 5 + 5) (ensC es).length then some (Value.agg (((ensC es).drop (0 + j * 5)).take 5).toArray) else none) = _
  have hl : (ensC es).length = es.length * 5 := flatL_len enC_len es
  rw [Nat.zero_add, flatL_at enC_len h]
  have : Nat.ble (j * 5 + 5) (ensC es).length = true := by rw [Nat.ble_eq, hl]; omega
  rw [this]
  rfl
theorem hpEn {w : World} {B : Base} {S : List Asn} {F : List Fact} (H : Hp B S F w) (es : List En) [hp : InF F (EnF es)] {j : Nat} {x : En} (h : es[j]? = some x) : Hp B S (Sl legR (.slice x.s.A x.s.n x.s.c) x.ls :: F) w := H.facts fun I ha f hf => by
  rcases List.mem_cons.1 hf with rfl | hf
  · exact ha (EnF es) hp.mem x (List.mem_of_getElem? h)
  · exact ha f hf
theorem sameSelf (k : Key) (ls : List Leg) : sameB k k ls ls = true := by
  unfold sameB
  rw [legsEq_self, eqK_iff.2 rfl]; rfl
theorem kl_at {es fs : List En} (h : es.map kl = fs.map kl) {j : Nat} {x y : En} (hx : es[j]? = some x) (hy : fs[j]? = some y) : x.k = y.k ∧ x.ls = y.ls := by
  have e : (es.map kl)[j]? = (fs.map kl)[j]? := by rw [h]
  rw [List.getElem?_map, List.getElem?_map, hx, hy] at e
  have e : kl x = kl y := Option.some.inj e
  exact ⟨congrArg Prod.fst e, congrArg Prod.snd e⟩
set_option maxHeartbeats 4000000 in
set_option maxRecDepth 20000 in
theorem ordersWalk (t : Tm) (hin : TmIn t) (A : Option Addr) (n c : Nat) (ds : List Deed) (A2 : Option Addr) (n2 c2 : Nat) (sw : List Int) (dn : Int) (hd : inK .u16 dn) (w : World) (M I : BS) (hM : ∀ b, ¬ M b) (H : Hp ⟨w, M, I⟩ [] [Sl deedR (.slice A n c) ds, Sl u8R (.slice A2 n2 c2) sw, LibF] w) :
    Ctr Tryz.prog 4 [tmV t, .slice A n c, .slice A2 n2 c2, .int .u16 dn] w M I (fun _ : Unit => .bool true) (fun _ => True) (fun _ => []) (fun _ => []) := by
  have hd0 : 0 ≤ dn := hd.1
  have hdok := deeds_ok H (A := A) (n := n) (c := c) (ds := ds)
  obtain ⟨hn, _, _⟩ := H.sll (A := A) (n := n) (c := c) (r := deedR) (xs := ds)
  obtain ⟨hn2, hc2, hc3⟩ := H.sll (A := A2) (n := n2) (c := c2) (r := u8R) (xs := sw)
  refine Exe.of_ev tok Tryz.call4 Tryz.func4 rfl rfl rfl ?_
  refine box_as H (tmC t) rfl fun r w1 H1 => ?_
  refine call_rule H1 (fun M I h0 h => awake17 _ M I (h0 rfl) h) fun _ w2 _ H2 => ?_
  refine load_rule tok H2 (v := tmV t) rfl ?_
  refine call_rule H2 (fun M I _ h => ownTm t hin _ M I h) fun _ w3 _ H3 => ?_
  refine call_rule H3 (fun M I _ h => refRight t hin _ M I h) fun _ w4 _ H4 => ?_
  refine br (fun q => ?_) (fun q => ?_)
  · exact Exists.intro () (And.intro rfl (And.intro trivial (Hp.keep H4)))
  have q : rtB t = true := by have q : (!rtB t) = false := q; simpa using q
  have hb : tmB t = true := by rw [← rtB_eq]; exact q
  have ok := tmB_iff.1 hb
  have hst := ok.start
  have H4 : Hp ⟨w, M, I⟩ [blk r (tmC t) 28] [Sl dayR (.slice none 0 0) [], Sl deedR (.slice A n c) ds, Sl u8R (.slice A2 n2 c2) sw] w4 := Hp.keep (Hp.slNil dayR H4)
  refine load_rule tok H4 (v := tmV t) rfl ?_
  refine call_rule H4 (fun M I h0 h => storyNew 1 t hin none 0 0 [] hb (by decide) _ M I (h0 rfl) h) fun a w5 ha H5 => ?_
  have hS := sto_ok (loan := 1) hin ok ha
  refine Exists.elim (show ∃ S : Sto, S = ⟨1, t, a.2.2⟩ from ⟨_, rfl⟩) fun S eS => ?_
  rw [← eS] at hS
  have hSt : S.t = t := by rw [eS]
  have H5 : Hp ⟨w, M, I⟩ [blk a.1 (stoC S a.2.1) 120, blk r (tmC t) 28] [Sl dueR (.slice a.2.1.A a.2.1.n a.2.1.c) S.dues, Sl deedR (.slice A n c) ds, Sl u8R (.slice A2 n2 c2) sw] w5 := by
    rw [eS]
    exact Hp.keep H5
  refine load_rule tok H5 (v := tmV t) rfl ?_
  refine call_rule H5 (fun M I _ h => eventsL t hst A n c ds _ M I h) fun x w6 hx H6 => ?_
  refine Exists.elim (show ∃ m, m = min ds.length 12 from ⟨_, rfl⟩) fun m hm => ?_
  rw [← hm] at hx H6
  have hm12 : m ≤ 12 := by omega
  have H7 : Hp ⟨w, M, I⟩ [blk a.1 (stoC S a.2.1) 120, blk r (tmC t) 28] [Sl evR (.slice x.1.A x.1.n x.1.c) (evL t ds m), Sl dueR (.slice a.2.1.A a.2.1.n a.2.1.c) S.dues, Sl deedR (.slice A n c) ds, Sl u8R (.slice A2 n2 c2) sw] w6 := Hp.keep (frzEvs (v := .slice x.1.A x.1.n x.1.c) H6 (evL t ds m) hM)
  refine load_rule tok H7 (v := tmV t) rfl ?_
  refine call_rule H7 (fun M I _ h => eventsT t hst A n c ds _ M I h) fun y w7 hy H8 => ?_
  rw [← hm] at hy H8
  have H8 : Hp ⟨w, M, I⟩ [row 65 4 (.slice y.1.A y.1.n y.1.c) y.1.n (evsC (evT t ds m)), blk a.1 (stoC S a.2.1) 120, blk r (tmC t) 28] [Sl evR (.slice x.1.A x.1.n x.1.c) (evL t ds m), Sl dueR (.slice a.2.1.A a.2.1.n a.2.1.c) S.dues, Sl u8R (.slice A2 n2 c2) sw] w7 := Hp.keep H8
  have hpT : (evT t ds m).Perm (evL t ds m) := by rw [evT_eq]; exact List.reverse_perm _
  refine loop_out tok (σ := Nat × List Ev) (τ := List Ev) 309485009816841469097902080 0 (fun s => [(52, .int .i64 (s.1 : Int))]) (fun s w' => s.1 ≤ n2 ∧ s.2.Perm (evL t ds m) ∧ Hp ⟨w, M, I⟩ [row 65 4 (.slice y.1.A y.1.n y.1.c) y.1.n (evsC s.2), blk a.1 (stoC S a.2.1) 120, blk r (tmC t) 28] [Sl evR (.slice x.1.A x.1.n x.1.c) (evL t ds m), Sl dueR (.slice a.2.1.A a.2.1.n a.2.1.c) S.dues, Sl u8R (.slice A2 n2 c2) sw] w') (fun s => n2 - s.1) (0, evT t ds m)
    (fun _ => []) (fun L w' => L.Perm (evL t ds m) ∧ Hp ⟨w, M, I⟩ [row 65 4 (.slice y.1.A y.1.n y.1.c) y.1.n (evsC L), blk a.1 (stoC S a.2.1) 120, blk r (tmC t) 28] [Sl evR (.slice x.1.A x.1.n x.1.c) (evL t ds m), Sl dueR (.slice a.2.1.A a.2.1.n a.2.1.c) S.dues] w') rfl rfl ⟨rfl, trivial⟩ ⟨Nat.zero_le _, hpT, H8⟩ ?_ ?_
  · intro s j w8 hW
    have hs1 := hW.1
    have hsp := hW.2.1
    have H9 := hW.2.2
    have hsl : s.2.length = m := by rw [hsp.length_eq, evL_len]
    refine brd (fun q2 => ?_) (fun q2 => ?_)
    · refine idx_rule tok H9 rfl rfl rfl (Int.natCast_nonneg s.1) q2 fun eb eo k hk H10 => ?_
      have hk : sw[s.1]? = some k := hk
      have ew : IntKind.i64.wrap ((s.1 : Int) + 1) = ((s.1 + 1 : Nat) : Int) := w64 (by omega) (by omega)
      refine ld1_rule tok H10 (v := fun _ => .int .u8 k) rfl rfl (fun _ => rfl) fun _ hok H11 => ?_
      have hka : 0 ≤ k ∧ k ≤ 255 := hok
      have H11 : Hp ⟨w, M, I⟩ [row 65 4 (.slice y.1.A y.1.n y.1.c) y.1.n (evsC s.2), blk a.1 (stoC S a.2.1) 120, blk r (tmC t) 28] [Sl evR (.slice x.1.A x.1.n x.1.c) (evL t ds m), Sl dueR (.slice a.2.1.A a.2.1.n a.2.1.c) S.dues, Sl u8R (.slice A2 n2 c2) sw] w8 := Hp.keep H11
      refine brd (fun q3 => ?_) (fun q3 => ?_)
      · refine brd (fun q4 => ?_) (fun q4 => ?_)
        · have hm0 : 0 < y.1.n := Int.ofNat_lt.1 q4
          have em : y.1.n = m := hy
          have ez : ((y.1.n : Nat) : Int) ≠ 0 := by omega
          refine Exists.elim (row_at (A := y.1.A) (n := y.1.n) (c := y.1.c) H11 (by omega)) fun g hA => ?_
          have er1 : ((s.1 : Int)).tmod (y.1.n : Int) = ((s.1 % y.1.n : Nat) : Int) := rfl
          have er2 : (IntKind.i64.wrap k).tmod (y.1.n : Int) = ((k.toNat % y.1.n : Nat) : Int) := by
            rw [i64w (n := k) (by omega) (by omega), show k = ((k.toNat : Nat) : Int) by omega]
            rfl
          have hp1 : s.1 % y.1.n < y.1.n := Nat.mod_lt _ hm0
          have hq1 : k.toNat % y.1.n < y.1.n := Nat.mod_lt _ hm0
          refine draw_rule (A := []) tok tdr H11 [0, 1, 2, 3, 4, 5, 6, 7, 8, 9, 10] [0, 0, 2, 7, 0, 16, 0, 64, 240, 15, 1023] rfl ?_
          refine pass_rule _ (fun w h => rem_as ((s.1 % y.1.n : Nat) : Int) ez er1 ⟨rfl, rfl⟩) ?_
          refine pass_rule _ (fun w h => rem_as ((k.toNat % y.1.n : Nat) : Int) ez er2 ⟨rfl, rfl⟩) ?_
          refine done_rule fun w9 H12 => ?_
          refine Exists.elim (show ∃ P, P = s.1 % y.1.n from ⟨_, rfl⟩) fun P eP => ?_
          refine Exists.elim (show ∃ Q, Q = k.toNat % y.1.n from ⟨_, rfl⟩) fun Q eQ => ?_
          rw [← eP] at hp1
          rw [← eQ] at hq1
          refine Exists.elim (show ∃ u, s.2[P]? = some u from ⟨_, List.getElem?_eq_getElem (by omega)⟩) fun u hu => ?_
          refine Exists.elim (show ∃ v, s.2[Q]? = some v from ⟨_, List.getElem?_eq_getElem (by omega)⟩) fun v hv => ?_
          have H12 : Hp ⟨w, M, I⟩ [row 65 4 (.slice (some ⟨g, 0, none⟩) y.1.n y.1.c) y.1.n (evsC s.2), blk a.1 (stoC S a.2.1) 120, blk r (tmC t) 28] [Sl evR (.slice x.1.A x.1.n x.1.c) (evL t ds m), Sl dueR (.slice a.2.1.A a.2.1.n a.2.1.c) S.dues, Sl u8R (.slice A2 n2 c2) sw] w9 := by
            rw [← hA]
            exact Hp.keep H12
          have iP0 : (0 : Int) ≤ ((s.1 % y.1.n : Nat) : Int) := Int.natCast_nonneg _
          have iQ0 : (0 : Int) ≤ ((k.toNat % y.1.n : Nat) : Int) := Int.natCast_nonneg _
          have iP1 : ((s.1 % y.1.n : Nat) : Int) < (y.1.n : Int) := by rw [← eP]; omega
          have iQ1 : ((k.toNat % y.1.n : Nat) : Int) < (y.1.n : Int) := by rw [← eQ]; omega
          have gu : ldV (tb 65) (evsC s.2) (0 + (((s.1 % y.1.n : Nat) : Int)).toNat * 4) = some (evV u) := by rw [← eP]; exact evs_get hu
          have gv : ldV (tb 65) (evsC s.2) (0 + (((k.toNat % y.1.n : Nat) : Int)).toNat * 4) = some (evV v) := by rw [← eQ]; exact evs_get hv
          have hln : (evsC s.2).length = y.1.n * 4 := by rw [evsC_len, hsl, em]
          have hb1 : 0 + (((s.1 % y.1.n : Nat) : Int)).toNat * 4 + 4 ≤ (evsC s.2).length := by rw [hln, ← eP]; show 0 + P * 4 + 4 ≤ _; omega
          have hb2 : 0 + (((k.toNat % y.1.n : Nat) : Int)).toNat * 4 + 4 ≤ (setL (evsC s.2) (0 + (((s.1 % y.1.n : Nat) : Int)).toNat * 4) (evC v)).length := by rw [length_setL, hln, ← eQ]; show 0 + Q * 4 + 4 ≤ _; omega
          refine draw_rule (A := [row 65 4 (.slice (some ⟨g, 0, none⟩) y.1.n y.1.c) y.1.n (evsC s.2)]) tok tdr H12 [0, 1, 4, 5, 6, 7, 8, 9, 10, 11, 12, 13, 2, 3, 14, 15] [0, 0, 0, 0, 0, 0, 48, 112, 0, 0, 768, 1792, 4083, 8179, 16383, 32767] rfl ?_
          refine pass_rule _ (fun w h => idx_ownA tok hA rfl rfl iQ0 iQ1 ⟨rfl, rfl⟩) ?_
          refine pass_last _ rfl (fun X w h => row_ld tok h (evV v) gv ⟨rfl, rfl⟩) ?_
          refine pass_rule _ (fun w h => idx_ownA tok hA rfl rfl iP0 iP1 ⟨rfl, rfl⟩) ?_
          refine pass_last _ rfl (fun X w h => row_ld tok h (evV u) gu ⟨rfl, rfl⟩) ?_
          refine pass_rule _ (fun w h => idx_ownA tok hA rfl rfl iP0 iP1 ⟨rfl, rfl⟩) ?_
          refine imp_rule (fun X wx hw => row_st tok hw rfl rfl hb1 rfl fun w' H' => imp_done H' ?_)
          refine pass_rule _ (fun w h => idx_ownA tok hA rfl rfl iQ0 iQ1 ⟨rfl, rfl⟩) ?_
          refine imp_rule (fun X wx hw => row_st tok hw rfl rfl hb2 rfl fun w' H' => imp_done H' ?_)
          refine done_rule fun wa H13 => ?_
          have ee : setL (setL (evsC s.2) (0 + (((s.1 % y.1.n : Nat) : Int)).toNat * 4) (evC v)) (0 + (((k.toNat % y.1.n : Nat) : Int)).toNat * 4) (evC u) = evsC (swapE s.2 P Q u v) := by
            rw [← eP, ← eQ]
            show setL (setL (evsC s.2) (0 + P * 4) (evC v)) (0 + Q * 4) (evC u) = _
            rw [evs_set, evs_set]
            rfl
          refine Exists.intro (s.1 + 1, swapE s.2 P Q u v) (And.intro ⟨congrArg (Value.int .i64) ew, trivial⟩ (And.intro ?_ ⟨?_, (swapE_perm hu hv).trans hsp, ?_⟩))
          · show n2 - (s.1 + 1) < n2 - s.1
            omega
          · show s.1 + 1 ≤ n2
            omega
          · have H13 : Hp ⟨w, M, I⟩ [row 65 4 (.slice (some ⟨g, 0, none⟩) y.1.n y.1.c) y.1.n (setL (setL (evsC s.2) (0 + (((s.1 % y.1.n : Nat) : Int)).toNat * 4) (evC v)) (0 + (((k.toNat % y.1.n : Nat) : Int)).toNat * 4) (evC u)), blk a.1 (stoC S a.2.1) 120, blk r (tmC t) 28] [Sl evR (.slice x.1.A x.1.n x.1.c) (evL t ds m), Sl dueR (.slice a.2.1.A a.2.1.n a.2.1.c) S.dues, Sl u8R (.slice A2 n2 c2) sw] wa := H13
            show Hp ⟨w, M, I⟩ [row 65 4 (.slice y.1.A y.1.n y.1.c) y.1.n (evsC (swapE s.2 P Q u v)), blk a.1 (stoC S a.2.1) 120, blk r (tmC t) 28] [Sl evR (.slice x.1.A x.1.n x.1.c) (evL t ds m), Sl dueR (.slice a.2.1.A a.2.1.n a.2.1.c) S.dues, Sl u8R (.slice A2 n2 c2) sw] wa
            rw [hA, ← ee]
            exact Hp.keep H13
        · refine Exists.intro (s.1 + 1, s.2) (And.intro ⟨congrArg (Value.int .i64) ew, trivial⟩ (And.intro ?_ ⟨?_, hsp, H11⟩))
          · show n2 - (s.1 + 1) < n2 - s.1
            omega
          · show s.1 + 1 ≤ n2
            omega
      · refine Exists.intro (s.1 + 1, s.2) (And.intro ⟨congrArg (Value.int .i64) ew, trivial⟩ (And.intro ?_ ⟨?_, hsp, H11⟩))
        · show n2 - (s.1 + 1) < n2 - s.1
          omega
        · show s.1 + 1 ≤ n2
          omega
    · exact Exists.intro s.2 (And.intro trivial ⟨hsp, Hp.keep H9⟩)
  intro L j w8 hW
  have hLp := hW.1
  have H9 := hW.2
  have H9 : Hp ⟨w, M, I⟩ [blk a.1 (stoC S a.2.1) 120, blk r (tmC t) 28] [Sl evR (.slice y.1.A y.1.n y.1.c) L, Sl evR (.slice x.1.A x.1.n x.1.c) (evL t ds m), Sl dueR (.slice a.2.1.A a.2.1.n a.2.1.c) S.dues] w8 := Hp.keep (frzEvs (v := .slice y.1.A y.1.n y.1.c) H9 L hM)
  refine Exists.elim (show ∃ k : Nat, (k : Int) = dn % 130 from ⟨(dn % 130).toNat, by omega⟩) fun k ek => ?_
  have hk : k < 130 := by omega
  have er : dn.tmod 130 = (k : Int) := by rw [Int.tmod_eq_emod_of_nonneg hd0]; omega
  have eth : IntKind.i32.wrap (t.start + IntKind.i32.wrap (k : Int)) = t.start + (k : Int) := by rw [i32w (n := (k : Int)) (by omega) (by omega)]; exact i32w (by omega) (by omega)
  have hLlen : L.length = m := by rw [hLp.length_eq, evL_len]
  have hamt := evL_amt t ds m (by omega) hdok
  refine load_rule tok H9 (v := .int .i32 t.start) rfl ?_
  refine rem_as ((k : Nat) : Int) (by decide) er ?_
  refine call_rule H9 (fun M I _ h => eth.symm ▸ tell a.1 S hS a.2.1 x.1.A x.1.n x.1.c (evL t ds m) (by rw [evL_len]; omega) hamt (t.start + (k : Int)) (by rw [hSt]; omega) (by omega) _ M I h) fun e w9 he H10 => ?_
  refine alloc_as tok H10 (stC st0) rfl rfl rfl fun z w10 H11 => ?_
  refine store_as tok H11 (stC e.1) rfl rfl rfl rfl rfl fun w11 H12 => ?_
  refine call_rule H12 (fun M I _ h => eth.symm ▸ tell a.1 S hS a.2.1 y.1.A y.1.n y.1.c L (by omega) (fun v hv => hamt v (hLp.mem_iff.1 hv)) (t.start + (k : Int)) (by rw [hSt]; omega) (by omega) _ M I h) fun f w12 hf H13 => ?_
  refine alloc_as tok H13 (stC st0) rfl rfl rfl fun z2 w13 H14 => ?_
  refine store_as tok H14 (stC f.1) rfl rfl rfl rfl rfl fun w14 H15 => ?_
  have hsame : e.1 = f.1 ∧ e.2.es.map kl = f.2.es.map kl := by
    obtain ⟨l1, p1, s1, a1, b1⟩ := he
    obtain ⟨l2, p2, s2, a2, b2⟩ := hf
    have hll : l1 = l2 := srt_unique ((p1.trans hLp.symm).trans p2.symm) s1 s2 fun u v hu hv => evL_seq t ds m u v (p1.mem_iff.1 hu) (p1.mem_iff.1 hv)
    rw [a1, a2, b1, b2, hll]
    exact ⟨rfl, rfl⟩
  have hlen : e.2.es.length = f.2.es.length := by
    have := congrArg List.length hsame.2
    rwa [List.length_map, List.length_map] at this
  have H15 : Hp ⟨w, M, I⟩ [row 71 5 (.slice e.2.A e.2.es.length e.2.c) e.2.es.length (ensC e.2.es), row 71 5 (.slice f.2.A f.2.es.length f.2.c) f.2.es.length (ensC f.2.es), blk z (stC e.1) 44, blk z2 (stC f.1) 44] [EnF e.2.es, EnF f.2.es] w14 := Hp.keep H15
  refine load_rule tok H15 (v := stV e.1) rfl ?_
  refine load_rule tok H15 (v := stV f.1) rfl ?_
  refine neN_struct tok [44, 41] 2 okSt rfl guard44 (stEqV e.1 f.1) ?_
  have h1 : (!stEq e.1 f.1) = false := by rw [hsame.1, stEq_self]; rfl
  refine br (fun q2 => absurd (h1.symm.trans q2) (by decide)) (fun _ => ?_)
  have h2 : (!((e.2.es.length : Int) == (f.2.es.length : Int))) = false := by rw [hlen]; simp
  refine br (fun q2 => absurd (h2.symm.trans q2) (by decide)) (fun _ => ?_)
  have hmx : e.2.es.length ≤ 9223372036854775807 := by
    refine Exists.elim (Hp.own (A := row 71 5 (.slice e.2.A e.2.es.length e.2.c) e.2.es.length (ensC e.2.es)) H15) fun fa hfa => ?_
    refine Exists.elim (row_shape hfa) fun A' h => Exists.elim h fun c' h => ?_
    have h3 := h.2.1
    have h4 := h.2.2.1
    exact Nat.le_trans h3 h4
  refine loop_rule tok (σ := Nat) 21776742254944276745783071068572901966080 (fun i => [(120, .int .i64 (i : Int))]) (fun i w' => i ≤ e.2.es.length ∧ Hp ⟨w, M, I⟩ [row 71 5 (.slice e.2.A e.2.es.length e.2.c) e.2.es.length (ensC e.2.es), row 71 5 (.slice f.2.A f.2.es.length f.2.c) f.2.es.length (ensC f.2.es), blk z (stC e.1) 44, blk z2 (stC f.1) 44] [EnF e.2.es, EnF f.2.es] w') (fun i => e.2.es.length - i) 0 rfl rfl ⟨rfl, trivial⟩ ⟨Nat.zero_le _, H15⟩ ?_
  intro i j2 wb hW2
  have hil := hW2.1
  have Hb := hW2.2
  refine brd (fun q2 => ?_) (fun q2 => ?_)
  · have hi : i < e.2.es.length := Int.ofNat_lt.1 q2
    have ew : IntKind.i64.wrap ((i : Int) + 1) = ((i + 1 : Nat) : Int) := w64 (by omega) (by omega)
    have q3 : (i : Int) < (f.2.es.length : Int) := by rw [← hlen]; exact q2
    have i0 : (0 : Int) ≤ (i : Int) := Int.natCast_nonneg _
    refine Exists.elim (show ∃ u, e.2.es[i]? = some u from ⟨_, List.getElem?_eq_getElem hi⟩) fun u hu => ?_
    refine Exists.elim (show ∃ v, f.2.es[i]? = some v from ⟨_, List.getElem?_eq_getElem (by omega)⟩) fun v hv => ?_
    have huv := kl_at hsame.2 hu hv
    refine Exists.elim (row_at (A := e.2.A) (n := e.2.es.length) (c := e.2.c) Hb (by omega)) fun g1 hA1 => ?_
    refine Exists.elim (row_at (A := f.2.A) (n := f.2.es.length) (c := f.2.c) Hb (by omega)) fun g2 hA2 => ?_
    have Hb2 := hpEn (hpEn Hb e.2.es hu) f.2.es hv
    have hnu := Hb2.sll (A := u.s.A) (n := u.s.n) (c := u.s.c) (r := legR) (xs := u.ls)
    have hnv := Hb2.sll (A := v.s.A) (n := v.s.n) (c := v.s.c) (r := legR) (xs := v.ls)
    have hul : u.ls.length ≤ 9223372036854775807 := Nat.le_trans hnu.2.1 hnu.2.2
    have hc : ∀ (w' : World) (M I : BS), Hp ⟨w', M, I⟩ [] [Sl legR (.slice u.s.A u.s.n u.s.c) u.ls, Sl legR (.slice v.s.A v.s.n v.s.c) v.ls] w' → Ctr Tryz.prog 19 [enV u, enV v] w' M I (fun _ : Unit => .bool (sameB u.k v.k u.ls v.ls)) (fun _ => True) (fun _ => []) (fun _ => []) := fun w' M I h => same_ u.k v.k u.s.A v.s.A u.s.n u.s.c v.s.n v.s.c u.ls v.ls _ M I h ⟨hnu.1, hul⟩ hnv.1
    refine draw_rule (A := []) tok tdr Hb2 [0, 1, 2, 3, 4, 5, 6, 7, 8, 9] [0, 0, 3, 7, 0, 0, 48, 112, 255, 511] rfl ?_
    refine pass_rule _ (fun w h => idx_ownA tok hA1 rfl rfl i0 q2 ⟨rfl, rfl⟩) ?_
    refine pass_rule _ (fun w h => row_ldA (A := e.2.A) (n := e.2.es.length) (c := e.2.c) tok h (enV u) hA1 (ens_get hu) ⟨rfl, rfl⟩) ?_
    refine pass_rule _ (fun w h => idx_ownA tok hA2 rfl rfl i0 q3 ⟨rfl, rfl⟩) ?_
    refine pass_rule _ (fun w h => row_ldA (A := f.2.A) (n := f.2.es.length) (c := f.2.c) tok h (enV v) hA2 (ens_get hv) ⟨rfl, rfl⟩) ?_
    refine imp_rule (fun X wx hw => call_rule hw (fun M I _ h => hc _ M I h) fun _ w1 _ H1 => imp_done H1 ?_)
    refine done_rule fun wc Hc => ?_
    have h3 : (!sameB u.k v.k u.ls v.ls) = false := by rw [huv.1, huv.2, sameSelf]; rfl
    refine br (fun q4 => absurd (h3.symm.trans q4) (by decide)) (fun _ => ?_)
    refine Exists.intro (i + 1) (And.intro ⟨congrArg (Value.int .i64) ew, trivial⟩ (And.intro ?_ ⟨?_, Hp.keep Hc⟩))
    · show e.2.es.length - (i + 1) < e.2.es.length - i
      omega
    · omega
  · exact Exists.intro () (And.intro rfl (And.intro trivial (Hp.keep Hb)))
end Go.Proofs.YtjlfjjgjghdokaaGreatDoor
