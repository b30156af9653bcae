/- What happens to a loan: a payment, a fee, a waiver, a loss: the walks of pay and event. -/
import Derived.Test.YtjlfjjgjghdokaaGreatDoorLy16
set_option linter.unusedVariables false
namespace Go.Proofs.YtjlfjjgjghdokaaGreatDoor
open Go Go.Proofs Go.Wk
structure Ev where
  seq : Int
  day : Int
  kind : Int
  amt : Int
deriving DecidableEq
@[reducible] def evC (e : Ev) : List Value := [.int .u32 e.seq, .int .i32 e.day, .int .u8 e.kind, .int .i64 e.amt]
@[reducible] def evV (e : Ev) : Value := .agg #[.int .u32 e.seq, .int .i32 e.day, .int .u8 e.kind, .int .i64 e.amt]
def payF (x : St) (n : Int) : St := if x.status = 3 then { x with recv := x.recv + n, cash := x.cash + n } else
  { x with fees := x.fees - goF x.fees n, int := x.int - goI x.fees x.int n, prin := x.prin - goP x.fees x.int x.prin n, paid := x.paid + (goI x.fees x.int n + goP x.fees x.int x.prin n), susp := x.susp + goL x.fees x.int x.prin n, cash := x.cash + n }
def payL (x : St) (n : Int) : List Leg := if x.status = 3 then [⟨1, n⟩, ⟨9, -n⟩] else ptL (goF x.fees n) (goI x.fees x.int n) (goP x.fees x.int x.prin n) ++ [⟨1, n⟩, ⟨5, -goL x.fees x.int x.prin n⟩]
theorem i64in {n : Int} (h1 : -9000000000000000000 ≤ n) (h2 : n ≤ 9000000000000000000) : inK .i64 n := by show (-9223372036854775808 : Int) ≤ n ∧ n ≤ 9223372036854775807; omega
theorem okLeg {a n : Int} (h0 : 0 ≤ a ∧ a ≤ 9) (h1 : -9000000000000000000 ≤ n) (h2 : n ≤ 9000000000000000000) : inK .u8 (Leg.mk a n).acct ∧ inK .i64 (Leg.mk a n).amt := ⟨by show (0 : Int) ≤ a ∧ a ≤ 255; omega, i64in h1 h2⟩
theorem payLegs {f i p n l : Int} (hf : 0 ≤ f ∧ f ≤ 9000000000000000000) (hi : 0 ≤ i ∧ i ≤ 9000000000000000000) (hp : 0 ≤ p ∧ p ≤ 9000000000000000000) (hn : 0 ≤ n ∧ n ≤ 9000000000000000000) (hl : 0 ≤ l ∧ l ≤ 9000000000000000000) :
    ∀ x, x ∈ ptL f i p ++ [⟨1, n⟩, ⟨5, -l⟩] → inK .u8 x.acct ∧ inK .i64 x.amt := fun x hx => by
  simp only [ptL, List.cons_append, List.nil_append, List.mem_cons, List.not_mem_nil, or_false] at hx
  rcases hx with rfl | rfl | rfl | rfl | rfl
  · exact okLeg (by decide) (by omega) (by omega)
  · exact okLeg (by decide) (by omega) (by omega)
  · exact okLeg (by decide) (by omega) (by omega)
  · exact okLeg (by decide) (by omega) (by omega)
  · exact okLeg (by decide) (by omega) (by omega)
theorem offLegs {f i p n : Int} (hf : 0 ≤ f ∧ f ≤ 9000000000000000000) (hi : 0 ≤ i ∧ i ≤ 9000000000000000000) (hp : 0 ≤ p ∧ p ≤ 9000000000000000000) (hn : 0 ≤ n ∧ n ≤ 9000000000000000000) :
    ∀ x, x ∈ ptL f i p ++ [⟨8, n⟩] → inK .u8 x.acct ∧ inK .i64 x.amt := fun x hx => by
  simp only [ptL, List.cons_append, List.nil_append, List.mem_cons, List.not_mem_nil, or_false] at hx
  rcases hx with rfl | rfl | rfl | rfl
  · exact okLeg (by decide) (by omega) (by omega)
  · exact okLeg (by decide) (by omega) (by omega)
  · exact okLeg (by decide) (by omega) (by omega)
  · exact okLeg (by decide) (by omega) (by omega)
theorem frLegsE {w : World} {B : Base} {S S' : List Asn} {F : List Fact} (H : Hp B S F w) {N : Nat} {v : Value} {e n : Nat} {cs : List Value} (ls : List Leg) (hM : B.w.heap.size ≤ N) [h1 : TakeF S N v e 2 n cs S'] (hc : cs = legsC ls) (hok : ∀ x, x ∈ ls → inK .u8 x.acct ∧ inK .i64 x.amt) : Hp B S' (Sl legR v ls :: F) w := by
  subst hc
  exact frLegs H ls hM hok
set_option maxRecDepth 20000 in
set_option maxHeartbeats 2000000 in
theorem pay_ (p sb : Nat) (S : Sto) (dv : SV) (x : St) (k : Int) (hk : k ≤ 4000000000000000000) (hx : StB S k x) (day : Int) (next : Int) (h : Hd) (hl : h.es.length ≤ 1000000000) (e : Ev) (ha : 0 ≤ e.amt) (ha2 : e.amt ≤ 10000000000000) (w : World) (M I : BS)
    (H : Hp ⟨w, M, I⟩ (telA p sb S dv x day next h) [EnF h.es] w) :
    Ctr Tryz.prog 97 [.pointer (some ⟨p, 0, none⟩), evV e] w M I (fun _ : Hd => .tuple #[]) (fun h' => posted h S day 4 e.seq (payL x e.amt) h') (fun h' => telA p sb S dv (payF x e.amt) day next h') (fun h' => [EnF h'.es]) := by
  have hxf := hx.fees
  have hxi := hx.int
  have hxp := hx.prin
  have hxs := hx.susp
  have hxa := hx.paid
  have hxr := hx.recv
  have hxc := hx.cash
  have ec : IntKind.i64.wrap (x.cash + e.amt) = x.cash + e.amt := i64w (by omega) (by omega)
  have er : IntKind.i64.wrap (x.recv + e.amt) = x.recv + e.amt := i64w (by omega) (by omega)
  refine Exe.of_ev tok Tryz.call97 Tryz.func97 rfl rfl rfl ?_
  refine box_as H (evC e) rfl fun eb w1 H1 => ?_
  refine draw_rule (A := [blk p (telC sb x day next h.A h.es.length h.c) 124]) tok tdr H1 [0, 1, 2, 3, 4, 5, 6, 7, 8, 9, 10, 11] [0, 1, 3, 7, 15, 0, 32, 127, 255, 511, 1023, 2047] rfl ?_
  refine pass_kept [blk p (telC sb x day next h.A h.es.length h.c) 124] _ (fun X w h => load_rule tok h (v := .int .i64 x.cash) rfl ⟨rfl, rfl⟩) ?_
  refine pass_rule _ (fun w h => load_rule tok h (v := .int .i64 e.amt) rfl ⟨rfl, rfl⟩) ?_
  refine imp_rule (fun X wx hw => store_as tok hw (telC sb { x with cash := IntKind.i64.wrap (x.cash + e.amt) } day next h.A h.es.length h.c) rfl rfl rfl rfl rfl fun w1 H1 => imp_done H1 ?_)
  refine done_rule fun w2 H2 => ?_
  rw [ec] at H2
  refine load_rule tok H2 (v := .int .u8 x.status) rfl ?_
  refine br (fun q => ?_) (fun q => ?_)
  · have q : x.status = 3 := by simpa using q
    have e1 : payF x e.amt = { x with recv := x.recv + e.amt, cash := x.cash + e.amt } := by unfold payF; rw [if_pos q]
    have e2 : payL x e.amt = [⟨1, e.amt⟩, ⟨9, -e.amt⟩] := by unfold payL; rw [if_pos q]
    refine draw_rule (A := [blk p (telC sb { x with cash := x.cash + e.amt } day next h.A h.es.length h.c) 124]) tok tdr H2 [0, 1, 2, 3, 4, 5, 6, 7, 8, 9, 10, 11] [0, 1, 3, 7, 15, 0, 32, 127, 255, 511, 1023, 2047] rfl ?_
    refine pass_kept [blk p (telC sb { x with cash := x.cash + e.amt } day next h.A h.es.length h.c) 124] _ (fun X w h => load_rule tok h (v := .int .i64 x.recv) rfl ⟨rfl, rfl⟩) ?_
    refine pass_rule _ (fun w h => load_rule tok h (v := .int .i64 e.amt) rfl ⟨rfl, rfl⟩) ?_
    refine imp_rule (fun X wx hw => store_as tok hw (telC sb { x with recv := IntKind.i64.wrap (x.recv + e.amt), cash := x.cash + e.amt } day next h.A h.es.length h.c) rfl rfl rfl rfl rfl fun w1 H1 => imp_done H1 ?_)
    refine done_rule fun w3 H3 => ?_
    rw [er] at H3
    have H3 : Hp ⟨w, M, I⟩ [blk p (telC sb { x with recv := x.recv + e.amt, cash := x.cash + e.amt } day next h.A h.es.length h.c) 124, row 71 5 (.slice h.A h.es.length h.c) h.es.length (ensC h.es), blk sb (stoC S dv) 120, blk eb (evC e) 65] [EnF h.es] w3 := Hp.keep H3
    refine load_rule tok H3 (v := .int .u32 e.seq) rfl ?_
    refine load_rule tok H3 (v := .int .i64 e.amt) rfl ?_
    refine call_rule H3 (fun M I _ hw => both p sb S dv { x with recv := x.recv + e.amt, cash := x.cash + e.amt } day next h hl 4 e.seq 1 9 e.amt ⟨by decide, by decide⟩ ⟨by decide, by decide⟩ ⟨by omega, by omega⟩ _ M I hw) fun h' w4 hh' H4 => ?_
    refine Exists.intro h' (And.intro rfl (And.intro (e2.symm ▸ hh') ?_))
    rw [e1]
    exact Hp.keep H4
  have q : x.status ≠ 3 := by simpa using q
  have pb := pay_bd hxf.1 hxi.1 hxp.1 ha
  have b1 := pb.hf
  have b2 := pb.hi
  have b3 := pb.hp
  have b4 := pb.hl
  have b5 := pb.hs
  have hlegs := payLegs (f := goF x.fees e.amt) (i := goI x.fees x.int e.amt) (p := goP x.fees x.int x.prin e.amt) (n := e.amt) (l := goL x.fees x.int x.prin e.amt) (by omega) (by omega) (by omega) (by omega) (by omega)
  have sp := splitPay x.fees x.int x.prin e.amt hxf.1 hxi.1 hxp.1 ha (by omega)
  have sl := splitLess x.fees x.int x.prin (goF x.fees e.amt) (goI x.fees x.int e.amt) (goP x.fees x.int x.prin e.amt) (by omega) (by omega) (by omega)
  have pt := fun w M I h => parts_ (goF x.fees e.amt) (goI x.fees x.int e.amt) (goP x.fees x.int x.prin e.amt) (by omega) (by omega) (by omega) w M I h
  have e1 : payF x e.amt = { x with fees := x.fees - goF x.fees e.amt, int := x.int - goI x.fees x.int e.amt, prin := x.prin - goP x.fees x.int x.prin e.amt, paid := x.paid + (goI x.fees x.int e.amt + goP x.fees x.int x.prin e.amt), susp := x.susp + goL x.fees x.int x.prin e.amt, cash := x.cash + e.amt } := by unfold payF; rw [if_neg q]
  have e2 : payL x e.amt = ptL (goF x.fees e.amt) (goI x.fees x.int e.amt) (goP x.fees x.int x.prin e.amt) ++ [⟨1, e.amt⟩, ⟨5, -goL x.fees x.int x.prin e.amt⟩] := by unfold payL; rw [if_neg q]
  rw [e1, e2]
  clear e1 e2
  generalize goF x.fees e.amt = F at *
  generalize goI x.fees x.int e.amt = G at *
  generalize goP x.fees x.int x.prin e.amt = P at *
  generalize goL x.fees x.int x.prin e.amt = L at *
  have hcs : legsC (ptL F G P) ++ [.int .u8 1, .int .i64 e.amt, .int .u8 5, .int .i64 (IntKind.i64.wrap (0 - L))] = legsC (ptL F G P ++ [Leg.mk 1 e.amt, Leg.mk 5 (-L)]) := by rw [neg64 b4.1 (show L ≤ 9000000000000000000 by omega)]; rfl
  refine draw_rule (A := []) tok tdr H2 [0, 1, 2, 3, 4, 5, 6, 7, 8, 9, 12, 13, 10, 11, 14, 15] [0, 1, 3, 7, 15, 0, 32, 127, 255, 511, 511, 511, 0, 5119, 14335, 32767] rfl ?_
  refine pass_rule _ (fun w h => load_rule tok h (v := owV x.fees x.int x.prin) rfl ⟨rfl, rfl⟩) ?_
  refine pass_rule _ (fun w h => load_rule tok h (v := .int .i64 e.amt) rfl ⟨rfl, rfl⟩) ?_
  refine imp_rule (fun X wx hw => call_rule hw (fun M I _ h => sp _ M I h) fun _ w1 _ H1 => imp_done H1 ?_)
  refine fresh_alloc tok rfl rfl rfl fun u => ?_
  refine imp_rule (fun X wx hw => store_as tok hw (owC F G P) rfl rfl rfl rfl rfl fun w1 H1 => imp_done H1 ?_)
  refine done_rule fun w3 H3 => ?_
  have H3 : Hp ⟨w, M, I⟩ [blk p (telC sb { x with cash := x.cash + e.amt } day next h.A h.es.length h.c) 124, row 71 5 (.slice h.A h.es.length h.c) h.es.length (ensC h.es), blk sb (stoC S dv) 120, blk eb (evC e) 65, blk u (owC F G P) 41] [EnF h.es] w3 := Hp.keep H3
  refine draw_rule (A := [blk p (telC sb { x with cash := x.cash + e.amt } day next h.A h.es.length h.c) 124]) tok tdr H3 [1, 2, 3, 4, 5, 6, 7, 0, 8, 9, 11, 12, 13, 14, 10] [0, 0, 2, 6, 14, 30, 0, 126, 254, 510, 510, 1023, 3071, 7167, 15359] rfl ?_
  refine pass_kept [blk p (telC sb { x with cash := x.cash + e.amt } day next h.A h.es.length h.c) 124] _ (fun X w hw => load_rule tok hw (v := owV x.fees x.int x.prin) rfl ⟨rfl, rfl⟩) ?_
  refine pass_rule _ (fun w h => load_rule tok h (v := owV F G P) rfl ⟨rfl, rfl⟩) ?_
  refine imp_rule (fun X wx hw => call_rule hw (fun M I _ h => sl _ M I h) fun _ w1 _ H1 => imp_done H1 ?_)
  refine imp_rule (fun X wx hw => store_as tok hw (telC sb { x with fees := x.fees - F, int := x.int - G, prin := x.prin - P, cash := x.cash + e.amt } day next h.A h.es.length h.c) rfl rfl rfl rfl rfl fun w1 H1 => imp_done H1 ?_)
  refine done_rule fun w4 H4 => ?_
  have ep : IntKind.i64.wrap (x.paid + IntKind.i64.wrap (G + P)) = x.paid + (G + P) := by rw [i64w (n := G + P) (by omega) (by omega)]; exact i64w (by omega) (by omega)
  have el : IntKind.i64.wrap (x.susp + L) = x.susp + L := i64w (by omega) (by omega)
  refine draw_rule (A := [blk p (telC sb { x with fees := x.fees - F, int := x.int - G, prin := x.prin - P, cash := x.cash + e.amt } day next h.A h.es.length h.c) 124]) tok tdr H4 [0, 1, 2, 3, 4, 5, 6, 7, 8, 9, 10, 11, 12, 13, 14] [0, 1, 3, 7, 15, 0, 32, 0, 128, 480, 1023, 2047, 4095, 8191, 16383] rfl ?_
  refine pass_kept [blk p (telC sb { x with fees := x.fees - F, int := x.int - G, prin := x.prin - P, cash := x.cash + e.amt } day next h.A h.es.length h.c) 124] _ (fun X w hw => load_rule tok hw (v := .int .i64 x.paid) rfl ⟨rfl, rfl⟩) ?_
  refine pass_rule _ (fun w h => load_rule tok h (v := .int .i64 G) rfl ⟨rfl, rfl⟩) ?_
  refine pass_rule _ (fun w h => load_rule tok h (v := .int .i64 P) rfl ⟨rfl, rfl⟩) ?_
  refine imp_rule (fun X wx hw => store_as tok hw (telC sb { x with fees := x.fees - F, int := x.int - G, prin := x.prin - P, paid := IntKind.i64.wrap (x.paid + IntKind.i64.wrap (G + P)), cash := x.cash + e.amt } day next h.A h.es.length h.c) rfl rfl rfl rfl rfl fun w1 H1 => imp_done H1 ?_)
  refine done_rule fun w5 H5 => ?_
  rw [ep] at H5
  refine load_rule tok H5 (v := .int .i64 x.susp) rfl ?_
  refine store_as tok H5 (telC sb { x with fees := x.fees - F, int := x.int - G, prin := x.prin - P, paid := x.paid + (G + P), susp := IntKind.i64.wrap (x.susp + L), cash := x.cash + e.amt } day next h.A h.es.length h.c) rfl rfl rfl rfl rfl fun w6 H6 => ?_
  rw [el] at H6
  have H6 : Hp ⟨w, M, I⟩ [blk p (telC sb { x with fees := x.fees - F, int := x.int - G, prin := x.prin - P, paid := x.paid + (G + P), susp := x.susp + L, cash := x.cash + e.amt } day next h.A h.es.length h.c) 124, row 71 5 (.slice h.A h.es.length h.c) h.es.length (ensC h.es), blk sb (stoC S dv) 120, blk eb (evC e) 65, blk u (owC F G P) 41] [EnF h.es] w6 := Hp.keep H6
  refine draw_rule (A := [blk p (telC sb { x with fees := x.fees - F, int := x.int - G, prin := x.prin - P, paid := x.paid + (G + P), susp := x.susp + L, cash := x.cash + e.amt } day next h.A h.es.length h.c) 124, row 71 5 (.slice h.A h.es.length h.c) h.es.length (ensC h.es), blk sb (stoC S dv) 120]) tok tdr H6 [3, 4, 5, 6, 7, 8, 9, 10, 11, 12, 0, 1, 2, 13] [0, 0, 2, 0, 8, 0, 32, 96, 0, 256, 768, 2016, 4088, 8191] rfl ?_
  refine pass_rule _ (fun w h => load_rule tok h (v := owV F G P) rfl ⟨rfl, rfl⟩) ?_
  refine imp_rule (fun X wx hw => call_rule hw (fun M I _ h => pt _ M I h) fun g w1 _ H1 => imp_done (H1.frLe hw.size) ?_)
  refine pass_rule _ (fun w h => load_rule tok h (v := .int .i64 e.amt) rfl ⟨rfl, rfl⟩) ?_
  refine fresh_slice tok [.int .u8 1, .int .i64 e.amt, .int .u8 5, .int .i64 (IntKind.i64.wrap (0 - L))] rfl rfl rfl rfl rfl rfl rfl fun g2 => ?_
  refine imp_rule (fun X wx hw => append_fr (v := .slice (some ⟨g, 0, none⟩) 3 3) (b := g2) (m := 2) (c := 2) tok hw rfl rfl rfl rfl rfl rfl rfl rfl (by show (3 + 2) * 16 ≤ _; decide) (by decide) hw.size fun A2 c2 w1 H1 => imp_done H1 ?_)
  refine pass_rule _ (fun w h => load_rule tok h (v := .int .u32 e.seq) rfl ⟨rfl, rfl⟩) ?_
  refine imp_rule (fun X wx hw => call_rule (frLegsE (v := .slice A2 (3 + 2) c2) hw (ptL F G P ++ [Leg.mk 1 e.amt, Leg.mk 5 (-L)]) (Nat.le_refl _) hcs hlegs) (fun M I _ h' => post p sb S dv { x with fees := x.fees - F, int := x.int - G, prin := x.prin - P, paid := x.paid + (G + P), susp := x.susp + L, cash := x.cash + e.amt } day next h hl 4 e.seq A2 (3 + 2) c2 (ptL F G P ++ [Leg.mk 1 e.amt, Leg.mk 5 (-L)]) (by show 5 ≤ 12; decide) (fun z hz => (hlegs z hz).1) _ M I h') fun h' w1 hh' H1 => imp_done H1 ?_)
  refine done_rule fun w7 H7 => ?_
  exact Exists.intro h' (And.intro rfl (And.intro hh' (Hp.keep H7)))
end Go.Proofs.YtjlfjjgjghdokaaGreatDoor
set_option linter.unusedVariables false
namespace Go.Proofs.YtjlfjjgjghdokaaGreatDoor
open Go Go.Proofs Go.Wk
theorem guard41 : Tryz.prog.eqGuardType Tryz.prog.depth 41 = false := by kernel_rfl
theorem held41 : Tryz.prog.stoodInHeld 41 = false := by kernel_rfl
def closeF (x : St) : St := if x.status = 1 ∧ (x.fees = 0 ∧ x.int = 0 ∧ x.prin = 0) then { x with status := 2 } else x
theorem close_no {x : St} (h : (x.fees == 0 && (x.int == 0 && (x.prin == 0 && true))) = false) : closeF x = x := by
  unfold closeF
  rw [if_neg]
  rintro ⟨_, h1, h2, h3⟩
  rw [h1, h2, h3] at h
  simp at h
theorem close_yes {x : St} (h0 : x.status = 1) (h : (x.fees == 0 && (x.int == 0 && (x.prin == 0 && true))) = true) : closeF x = { x with status := 2 } := by
  simp only [Bool.and_eq_true, beq_iff_eq, and_true] at h
  unfold closeF
  rw [if_pos ⟨h0, h.1, h.2.1, h.2.2⟩]
def eventF (x : St) (e : Ev) : St × Option (List Leg) :=
  if e.kind = 4 then (closeF (payF x e.amt), some (payL x e.amt))
  else if x.status ≠ 1 then (x, none)
  else if e.kind = 5 then (closeF { x with fees := x.fees + e.amt }, some [⟨4, e.amt⟩, ⟨7, -e.amt⟩])
  else if e.kind = 6 then (closeF { x with fees := x.fees - mn x.fees e.amt }, some [⟨7, mn x.fees e.amt⟩, ⟨4, -mn x.fees e.amt⟩])
  else if e.kind = 7 then (closeF { x with fees := 0, int := 0, prin := 0, status := 3 }, some (ptL x.fees x.int x.prin ++ [⟨8, x.fees + x.int + x.prin⟩]))
  else (closeF x, none)
def entOf (S : Sto) (day : Int) (e : Ev) : Option (List Leg) → List (Key × List Leg)
  | none => []
  | some ls => [(⟨S.loan, day, e.kind, e.seq⟩, refMade ls)]
theorem posted_map {h h' : Hd} {S : Sto} {day : Int} {e : Ev} {k : Int} {ls : List Leg} (hk : e.kind = k) (hp : posted h S day k e.seq ls h') : h'.es.map kl = h.es.map kl ++ entOf S day e (some ls) := by
  obtain ⟨y, h1, h2⟩ := hp
  rw [h1, List.map_append, entOf, hk]
  simp [h2]
theorem ent_eq {h h' : Hd} {S : Sto} {day : Int} {x y : St} {e : Ev} {o : Option (List Leg)} (eE : eventF x e = (y, o)) (hp : h'.es.map kl = h.es.map kl ++ entOf S day e o) : h'.es.map kl = h.es.map kl ++ entOf S day e (eventF x e).2 := by rw [eE]; exact hp
theorem quote (x : St) (h1 : 0 ≤ x.fees ∧ x.fees ≤ 2000000000000000000) (h2 : 0 ≤ x.int ∧ x.int ≤ 2000000000000000000) (h3 : 0 ≤ x.prin ∧ x.prin ≤ 2000000000000000000) : CB 23 [stV x] (.int .i64 (x.fees + x.int + x.prin)) := by
  intro w M I H
  have e : IntKind.i64.wrap (IntKind.i64.wrap (x.fees + x.int) + x.prin) = x.fees + x.int + x.prin := by rw [i64w (n := x.fees + x.int) (by omega) (by omega)]; exact i64w (by omega) (by omega)
  refine Exe.of_ev tok Tryz.call23 Tryz.func23 rfl rfl rfl ?_
  refine box_as H (stC x) rfl fun r w1 H1 => ?_
  refine load_rule tok H1 (v := .int .i64 x.fees) rfl ?_
  refine load_rule tok H1 (v := .int .i64 x.int) rfl ?_
  refine load_rule tok H1 (v := .int .i64 x.prin) rfl ?_
  exact Exists.intro () (And.intro (congrArg (Value.int .i64) e) (And.intro trivial (Hp.keep H1)))
theorem ne_of_beq_false {a b : Int} (h : (a == b) = false) : a ≠ b := by simpa using h
set_option maxRecDepth 20000 in
set_option maxHeartbeats 4000000 in
theorem event_ (p sb : Nat) (S : Sto) (dv : SV) (x : St) (k : Int) (hk : k ≤ 1000000000000000000) (hx : StB S k x) (day : Int) (next : Int) (h : Hd) (hl : h.es.length ≤ 1000000000) (e : Ev) (ha : 0 ≤ e.amt) (ha2 : e.amt ≤ 10000000000000) (w : World) (M I : BS)
    (H : Hp ⟨w, M, I⟩ (telA p sb S dv x day next h) [EnF h.es] w) :
    Ctr Tryz.prog 44 [.pointer (some ⟨p, 0, none⟩), evV e] w M I (fun _ : Hd => .tuple #[]) (fun h' => h'.es.map kl = h.es.map kl ++ entOf S day e (eventF x e).2) (fun h' => telA p sb S dv (eventF x e).1 day next h') (fun h' => [EnF h'.es]) := by
  have hxf := hx.fees
  have hxi := hx.int
  have hxp := hx.prin
  refine Exe.of_ev tok Tryz.call44 Tryz.func44 rfl rfl rfl ?_
  refine box_as H (evC e) rfl fun eb w1 H1 => ?_
  refine load_rule tok H1 (v := .int .u8 e.kind) rfl ?_
  refine br (fun q4 => ?_) (fun q4 => ?_)
  · have q4 : e.kind = 4 := eq_of_beq q4
    have eE : eventF x e = (closeF (payF x e.amt), some (payL x e.amt)) := by unfold eventF; rw [if_pos q4]
    refine load_rule tok H1 (v := evV e) rfl ?_
    refine call_rule H1 (fun M I _ hw => pay_ p sb S dv x k (by omega) hx day next h hl e ha ha2 _ M I hw) fun h' w2 hh' H2 => ?_
    have close0 : (payF x e.amt).status ≠ 1 → closeF (payF x e.amt) = (payF x e.amt) := fun hh => by unfold closeF; rw [if_neg (fun hc => hh hc.1)]
    have close1 : ((payF x e.amt).fees == 0 && ((payF x e.amt).int == 0 && ((payF x e.amt).prin == 0 && true))) = false → closeF (payF x e.amt) = (payF x e.amt) := close_no
    have close2 : (payF x e.amt).status = 1 → ((payF x e.amt).fees == 0 && ((payF x e.amt).int == 0 && ((payF x e.amt).prin == 0 && true))) = true → closeF (payF x e.amt) = { (payF x e.amt) with status := 2 } := close_yes
    refine load_rule tok H2 (v := .int .u8 (payF x e.amt).status) rfl ?_
    refine br (fun s1 => ?_) (fun s1 => ?_)
    · have s1 : (payF x e.amt).status = 1 := eq_of_beq s1
      refine load_rule tok H2 (v := owV (payF x e.amt).fees (payF x e.amt).int (payF x e.amt).prin) rfl ?_
      refine eq_struct tok (r := (payF x e.amt).fees == 0 && ((payF x e.amt).int == 0 && ((payF x e.amt).prin == 0 && true))) rfl guard41 held41 rfl ?_
      refine br (fun s2 => ?_) (fun s2 => ?_)
      · refine store_as tok H2 (telC sb { (payF x e.amt) with status := 2 } day next h'.A h'.es.length h'.c) rfl rfl rfl rfl rfl fun wz Hz => ?_
        refine Exists.intro h' (And.intro rfl (And.intro (ent_eq eE (posted_map q4 hh')) ?_))
        rw [eE]
        show Hp _ (telA p sb S dv (closeF (payF x e.amt)) day next h') [EnF h'.es] _
        rw [close2 s1 s2]
        exact Hp.keep Hz
      · skip
        refine Exists.intro h' (And.intro rfl (And.intro (ent_eq eE (posted_map q4 hh')) ?_))
        rw [eE]
        show Hp _ (telA p sb S dv (closeF (payF x e.amt)) day next h') [EnF h'.es] _
        rw [close1 s2]
        exact Hp.keep H2
    · have s1 : (payF x e.amt).status ≠ 1 := ne_of_beq_false s1
      refine Exists.intro h' (And.intro rfl (And.intro (ent_eq eE (posted_map q4 hh')) ?_))
      rw [eE]
      show Hp _ (telA p sb S dv (closeF (payF x e.amt)) day next h') [EnF h'.es] _
      rw [close0 s1]
      exact Hp.keep H2
  have q4 : e.kind ≠ 4 := ne_of_beq_false q4
  refine load_rule tok H1 (v := .int .u8 x.status) rfl ?_
  refine br (fun qs => ?_) (fun qs => ?_)
  · have qs : x.status ≠ 1 := by simpa using qs
    have eE : eventF x e = (x, none) := by unfold eventF; rw [if_neg q4, if_pos qs]
    refine Exists.intro h (And.intro rfl (And.intro ?_ ?_))
    · rw [eE]
      exact (List.append_nil _).symm
    · rw [eE]
      exact Hp.keep H1
  have qs : x.status = 1 := by simpa using qs
  have qs' : ¬ x.status ≠ 1 := fun hh => hh qs
  refine load_rule tok H1 (v := .int .u8 e.kind) rfl ?_
  refine br (fun q5 => ?_) (fun q5 => ?_)
  · have q5 : e.kind = 5 := eq_of_beq q5
    have eE : eventF x e = (closeF { x with fees := x.fees + e.amt }, some [⟨4, e.amt⟩, ⟨7, -e.amt⟩]) := by unfold eventF; rw [if_neg q4, if_neg qs', if_pos q5]
    have ef : IntKind.i64.wrap (x.fees + e.amt) = x.fees + e.amt := i64w (by omega) (by omega)
    refine draw_rule (A := [blk p (telC sb x day next h.A h.es.length h.c) 124]) tok tdr H1 [0, 1, 2, 3, 4, 5, 6, 7, 8, 9, 10, 11, 12, 13] [0, 1, 3, 7, 15, 31, 0, 64, 255, 511, 1023, 2047, 4095, 8191] rfl ?_
    refine pass_kept [blk p (telC sb x day next h.A h.es.length h.c) 124] _ (fun X w hw => load_rule tok hw (v := .int .i64 x.fees) rfl ⟨rfl, rfl⟩) ?_
    refine pass_rule _ (fun w h => load_rule tok h (v := .int .i64 e.amt) rfl ⟨rfl, rfl⟩) ?_
    refine imp_rule (fun X wx hw => store_as tok hw (telC sb { x with fees := IntKind.i64.wrap (x.fees + e.amt) } day next h.A h.es.length h.c) rfl rfl rfl rfl rfl fun w1 H1 => imp_done H1 ?_)
    refine done_rule fun w2 H2 => ?_
    rw [ef] at H2
    have H2 : Hp ⟨w, M, I⟩ [blk p (telC sb { x with fees := x.fees + e.amt } day next h.A h.es.length h.c) 124, row 71 5 (.slice h.A h.es.length h.c) h.es.length (ensC h.es), blk sb (stoC S dv) 120, blk eb (evC e) 65] [EnF h.es] w2 := Hp.keep H2
    refine load_rule tok H2 (v := .int .u32 e.seq) rfl ?_
    refine load_rule tok H2 (v := .int .i64 e.amt) rfl ?_
    refine call_rule H2 (fun M I _ hw => both p sb S dv { x with fees := x.fees + e.amt } day next h hl 5 e.seq 4 7 e.amt ⟨by decide, by decide⟩ ⟨by decide, by decide⟩ ⟨by omega, by omega⟩ _ M I hw) fun h' w3 hh' H3 => ?_
    have close0 : ({ x with fees := x.fees + e.amt }).status ≠ 1 → closeF ({ x with fees := x.fees + e.amt }) = ({ x with fees := x.fees + e.amt }) := fun hh => by unfold closeF; rw [if_neg (fun hc => hh hc.1)]
    have close1 : (({ x with fees := x.fees + e.amt }).fees == 0 && (({ x with fees := x.fees + e.amt }).int == 0 && (({ x with fees := x.fees + e.amt }).prin == 0 && true))) = false → closeF ({ x with fees := x.fees + e.amt }) = ({ x with fees := x.fees + e.amt }) := close_no
    have close2 : ({ x with fees := x.fees + e.amt }).status = 1 → (({ x with fees := x.fees + e.amt }).fees == 0 && (({ x with fees := x.fees + e.amt }).int == 0 && (({ x with fees := x.fees + e.amt }).prin == 0 && true))) = true → closeF ({ x with fees := x.fees + e.amt }) = { ({ x with fees := x.fees + e.amt }) with status := 2 } := close_yes
    refine load_rule tok H3 (v := .int .u8 ({ x with fees := x.fees + e.amt }).status) rfl ?_
    refine br (fun s1 => ?_) (fun s1 => ?_)
    · have s1 : ({ x with fees := x.fees + e.amt }).status = 1 := eq_of_beq s1
      refine load_rule tok H3 (v := owV ({ x with fees := x.fees + e.amt }).fees ({ x with fees := x.fees + e.amt }).int ({ x with fees := x.fees + e.amt }).prin) rfl ?_
      refine eq_struct tok (r := ({ x with fees := x.fees + e.amt }).fees == 0 && (({ x with fees := x.fees + e.amt }).int == 0 && (({ x with fees := x.fees + e.amt }).prin == 0 && true))) rfl guard41 held41 rfl ?_
      refine br (fun s2 => ?_) (fun s2 => ?_)
      · refine store_as tok H3 (telC sb { ({ x with fees := x.fees + e.amt }) with status := 2 } day next h'.A h'.es.length h'.c) rfl rfl rfl rfl rfl fun wz Hz => ?_
        refine Exists.intro h' (And.intro rfl (And.intro (ent_eq eE (posted_map q5 hh')) ?_))
        rw [eE]
        show Hp _ (telA p sb S dv (closeF ({ x with fees := x.fees + e.amt })) day next h') [EnF h'.es] _
        rw [close2 s1 s2]
        exact Hp.keep Hz
      · skip
        refine Exists.intro h' (And.intro rfl (And.intro (ent_eq eE (posted_map q5 hh')) ?_))
        rw [eE]
        show Hp _ (telA p sb S dv (closeF ({ x with fees := x.fees + e.amt })) day next h') [EnF h'.es] _
        rw [close1 s2]
        exact Hp.keep H3
    · have s1 : ({ x with fees := x.fees + e.amt }).status ≠ 1 := ne_of_beq_false s1
      refine Exists.intro h' (And.intro rfl (And.intro (ent_eq eE (posted_map q5 hh')) ?_))
      rw [eE]
      show Hp _ (telA p sb S dv (closeF ({ x with fees := x.fees + e.amt })) day next h') [EnF h'.es] _
      rw [close0 s1]
      exact Hp.keep H3
  have q5 : e.kind ≠ 5 := ne_of_beq_false q5
  refine load_rule tok H1 (v := .int .u8 e.kind) rfl ?_
  refine br (fun q6 => ?_) (fun q6 => ?_)
  · have q6 : e.kind = 6 := eq_of_beq q6
    have eE : eventF x e = (closeF { x with fees := x.fees - mn x.fees e.amt }, some [⟨7, mn x.fees e.amt⟩, ⟨4, -mn x.fees e.amt⟩]) := by unfold eventF; rw [if_neg q4, if_neg qs', if_neg q5, if_pos q6]
    have hm := mn_bd hxf.1 ha
    have ef : IntKind.i64.wrap (x.fees - mn x.fees e.amt) = x.fees - mn x.fees e.amt := i64w (by omega) (by omega)
    refine draw_rule (A := []) tok tdr H1 [0, 1, 2, 3, 4, 5, 6, 7, 8, 9] [0, 1, 3, 7, 15, 31, 0, 64, 255, 511] rfl ?_
    refine pass_rule _ (fun w hw => load_rule tok hw (v := .int .i64 x.fees) rfl ⟨rfl, rfl⟩) ?_
    refine pass_rule _ (fun w h => load_rule tok h (v := .int .i64 e.amt) rfl ⟨rfl, rfl⟩) ?_
    refine imp_rule (fun X wx hw => call_rule hw (fun M I _ h => least x.fees e.amt _ M I h) fun _ w1 _ H1 => imp_done H1 ?_)
    refine done_rule fun w2 H2 => ?_
    have H2 : Hp ⟨w, M, I⟩ [blk p (telC sb x day next h.A h.es.length h.c) 124, row 71 5 (.slice h.A h.es.length h.c) h.es.length (ensC h.es), blk sb (stoC S dv) 120, blk eb (evC e) 65] [EnF h.es] w2 := Hp.keep H2
    refine load_rule tok H2 (v := .int .i64 x.fees) rfl ?_
    refine store_as tok H2 (telC sb { x with fees := IntKind.i64.wrap (x.fees - mn x.fees e.amt) } day next h.A h.es.length h.c) rfl rfl rfl rfl rfl fun w3 H3 => ?_
    rw [ef] at H3
    refine load_rule tok H3 (v := .int .u32 e.seq) rfl ?_
    refine call_rule H3 (fun M I _ hw => both p sb S dv { x with fees := x.fees - mn x.fees e.amt } day next h hl 6 e.seq 7 4 (mn x.fees e.amt) ⟨by decide, by decide⟩ ⟨by decide, by decide⟩ ⟨by omega, by omega⟩ _ M I hw) fun h' w4 hh' H4 => ?_
    have close0 : ({ x with fees := x.fees - mn x.fees e.amt }).status ≠ 1 → closeF ({ x with fees := x.fees - mn x.fees e.amt }) = ({ x with fees := x.fees - mn x.fees e.amt }) := fun hh => by unfold closeF; rw [if_neg (fun hc => hh hc.1)]
    have close1 : (({ x with fees := x.fees - mn x.fees e.amt }).fees == 0 && (({ x with fees := x.fees - mn x.fees e.amt }).int == 0 && (({ x with fees := x.fees - mn x.fees e.amt }).prin == 0 && true))) = false → closeF ({ x with fees := x.fees - mn x.fees e.amt }) = ({ x with fees := x.fees - mn x.fees e.amt }) := close_no
    have close2 : ({ x with fees := x.fees - mn x.fees e.amt }).status = 1 → (({ x with fees := x.fees - mn x.fees e.amt }).fees == 0 && (({ x with fees := x.fees - mn x.fees e.amt }).int == 0 && (({ x with fees := x.fees - mn x.fees e.amt }).prin == 0 && true))) = true → closeF ({ x with fees := x.fees - mn x.fees e.amt }) = { ({ x with fees := x.fees - mn x.fees e.amt }) with status := 2 } := close_yes
    refine load_rule tok H4 (v := .int .u8 ({ x with fees := x.fees - mn x.fees e.amt }).status) rfl ?_
    refine br (fun s1 => ?_) (fun s1 => ?_)
    · have s1 : ({ x with fees := x.fees - mn x.fees e.amt }).status = 1 := eq_of_beq s1
      refine load_rule tok H4 (v := owV ({ x with fees := x.fees - mn x.fees e.amt }).fees ({ x with fees := x.fees - mn x.fees e.amt }).int ({ x with fees := x.fees - mn x.fees e.amt }).prin) rfl ?_
      refine eq_struct tok (r := ({ x with fees := x.fees - mn x.fees e.amt }).fees == 0 && (({ x with fees := x.fees - mn x.fees e.amt }).int == 0 && (({ x with fees := x.fees - mn x.fees e.amt }).prin == 0 && true))) rfl guard41 held41 rfl ?_
      refine br (fun s2 => ?_) (fun s2 => ?_)
      · refine store_as tok H4 (telC sb { ({ x with fees := x.fees - mn x.fees e.amt }) with status := 2 } day next h'.A h'.es.length h'.c) rfl rfl rfl rfl rfl fun wz Hz => ?_
        refine Exists.intro h' (And.intro rfl (And.intro (ent_eq eE (posted_map q6 hh')) ?_))
        rw [eE]
        show Hp _ (telA p sb S dv (closeF ({ x with fees := x.fees - mn x.fees e.amt })) day next h') [EnF h'.es] _
        rw [close2 s1 s2]
        exact Hp.keep Hz
      · skip
        refine Exists.intro h' (And.intro rfl (And.intro (ent_eq eE (posted_map q6 hh')) ?_))
        rw [eE]
        show Hp _ (telA p sb S dv (closeF ({ x with fees := x.fees - mn x.fees e.amt })) day next h') [EnF h'.es] _
        rw [close1 s2]
        exact Hp.keep H4
    · have s1 : ({ x with fees := x.fees - mn x.fees e.amt }).status ≠ 1 := ne_of_beq_false s1
      refine Exists.intro h' (And.intro rfl (And.intro (ent_eq eE (posted_map q6 hh')) ?_))
      rw [eE]
      show Hp _ (telA p sb S dv (closeF ({ x with fees := x.fees - mn x.fees e.amt })) day next h') [EnF h'.es] _
      rw [close0 s1]
      exact Hp.keep H4
  have q6 : e.kind ≠ 6 := ne_of_beq_false q6
  refine load_rule tok H1 (v := .int .u8 e.kind) rfl ?_
  refine br (fun q7 => ?_) (fun q7 => ?_)
  · have q7 : e.kind = 7 := eq_of_beq q7
    have eE : eventF x e = (closeF { x with fees := 0, int := 0, prin := 0, status := 3 }, some (ptL x.fees x.int x.prin ++ [⟨8, x.fees + x.int + x.prin⟩])) := by unfold eventF; rw [if_neg q4, if_neg qs', if_neg q5, if_neg q6, if_pos q7]
    have pt := fun w M I h => parts_ x.fees x.int x.prin (by omega) (by omega) (by omega) w M I h
    have qt := quote x (by omega) (by omega) (by omega)
    have hlegs := offLegs (f := x.fees) (i := x.int) (p := x.prin) (n := x.fees + x.int + x.prin) (by omega) (by omega) (by omega) (by omega)
    have hcs : legsC (ptL x.fees x.int x.prin) ++ [.int .u8 8, .int .i64 (x.fees + x.int + x.prin)] = legsC (ptL x.fees x.int x.prin ++ [Leg.mk 8 (x.fees + x.int + x.prin)]) := rfl
    refine draw_rule (A := [blk p (telC sb x day next h.A h.es.length h.c) 124, row 71 5 (.slice h.A h.es.length h.c) h.es.length (ensC h.es), blk sb (stoC S dv) 120]) tok tdr H1 [3, 4, 5, 6, 7, 8, 9, 10, 11, 12, 13, 14, 15, 16, 0, 1, 2, 17] [0, 0, 2, 0, 8, 24, 56, 120, 248, 0, 512, 1536, 3584, 8184, 16376, 32760, 65528, 131071] rfl ?_
    refine pass_kept [blk p (telC sb x day next h.A h.es.length h.c) 124] _ (fun X w hw => load_rule tok hw (v := owV x.fees x.int x.prin) rfl ⟨rfl, rfl⟩) ?_
    refine imp_rule (fun X wx hw => call_rule hw (fun M I _ h => pt _ M I h) fun g w1 _ H1 => imp_done (H1.frLe hw.size) ?_)
    refine pass_kept [blk p (telC sb x day next h.A h.es.length h.c) 124] _ (fun X w hw => load_rule tok hw (v := stV x) rfl ⟨rfl, rfl⟩) ?_
    refine imp_rule (fun X wx hw => call_rule hw (fun M I _ h => qt _ M I h) fun _ w1 _ H1 => imp_done H1 ?_)
    refine fresh_slice tok [.int .u8 8, .int .i64 (x.fees + x.int + x.prin)] rfl rfl rfl rfl rfl rfl rfl fun g2 => ?_
    refine imp_rule (fun X wx hw => append_fr (v := .slice (some ⟨g, 0, none⟩) 3 3) (b := g2) (m := 1) (c := 1) tok hw rfl rfl rfl rfl rfl rfl rfl rfl (by show (3 + 1) * 16 ≤ _; decide) (by decide) hw.size fun A2 c2 w1 H1 => imp_done H1 ?_)
    refine pass_rule _ (fun w h => load_rule tok h (v := .int .u32 e.seq) rfl ⟨rfl, rfl⟩) ?_
    refine imp_rule (fun X wx hw => call_rule (frLegsE (v := .slice A2 (3 + 1) c2) hw (ptL x.fees x.int x.prin ++ [Leg.mk 8 (x.fees + x.int + x.prin)]) (Nat.le_refl _) hcs hlegs) (fun M I _ h' => post p sb S dv x day next h hl 7 e.seq A2 (3 + 1) c2 (ptL x.fees x.int x.prin ++ [Leg.mk 8 (x.fees + x.int + x.prin)]) (by show 4 ≤ 12; decide) (fun z hz => (hlegs z hz).1) _ M I h') fun h' w1 hh' H1 => imp_done H1 ?_)
    refine done_rule fun w2 H2 => ?_
    refine store_as tok H2 (telC sb { x with fees := 0, int := 0, prin := 0 } day next h'.A h'.es.length h'.c) rfl rfl rfl rfl rfl fun w3 H3 => ?_
    refine store_as tok H3 (telC sb { x with fees := 0, int := 0, prin := 0, status := 3 } day next h'.A h'.es.length h'.c) rfl rfl rfl rfl rfl fun w4 H4 => ?_
    refine load_rule tok H4 (v := .int .u8 3) rfl ?_
    refine Exists.intro h' (And.intro rfl (And.intro (ent_eq eE (posted_map q7 hh')) ?_))
    have ecl : closeF { x with fees := 0, int := 0, prin := 0, status := 3 } = { x with fees := 0, int := 0, prin := 0, status := 3 } := by unfold closeF; rw [if_neg (fun hc => absurd hc.1 (by show ¬ ((3 : Int) = 1); decide))]
    rw [eE]
    show Hp _ (telA p sb S dv (closeF { x with fees := 0, int := 0, prin := 0, status := 3 }) day next h') [EnF h'.es] _
    rw [ecl]
    exact Hp.keep H4
  have q7 : e.kind ≠ 7 := ne_of_beq_false q7
  have eE : eventF x e = (closeF x, none) := by unfold eventF; rw [if_neg q4, if_neg qs', if_neg q5, if_neg q6, if_neg q7]
  have H2 : Hp ⟨w, M, I⟩ [blk p (telC sb x day next h.A h.es.length h.c) 124, row 71 5 (.slice h.A h.es.length h.c) h.es.length (ensC h.es), blk sb (stoC S dv) 120, blk eb (evC e) 65] [EnF h.es] w1 := Hp.keep H1
  have close0 : (x).status ≠ 1 → closeF (x) = (x) := fun hh => by unfold closeF; rw [if_neg (fun hc => hh hc.1)]
  have close1 : ((x).fees == 0 && ((x).int == 0 && ((x).prin == 0 && true))) = false → closeF (x) = (x) := close_no
  have close2 : (x).status = 1 → ((x).fees == 0 && ((x).int == 0 && ((x).prin == 0 && true))) = true → closeF (x) = { (x) with status := 2 } := close_yes
  refine load_rule tok H2 (v := .int .u8 (x).status) rfl ?_
  refine br (fun s1 => ?_) (fun s1 => ?_)
  · have s1 : (x).status = 1 := eq_of_beq s1
    refine load_rule tok H2 (v := owV (x).fees (x).int (x).prin) rfl ?_
    refine eq_struct tok (r := (x).fees == 0 && ((x).int == 0 && ((x).prin == 0 && true))) rfl guard41 held41 rfl ?_
    refine br (fun s2 => ?_) (fun s2 => ?_)
    · refine store_as tok H2 (telC sb { (x) with status := 2 } day next h.A h.es.length h.c) rfl rfl rfl rfl rfl fun wz Hz => ?_
      refine Exists.intro h (And.intro rfl (And.intro (ent_eq eE ((List.append_nil _).symm)) ?_))
      rw [eE]
      show Hp _ (telA p sb S dv (closeF (x)) day next h) [EnF h.es] _
      rw [close2 s1 s2]
      exact Hp.keep Hz
    · skip
      refine Exists.intro h (And.intro rfl (And.intro (ent_eq eE ((List.append_nil _).symm)) ?_))
      rw [eE]
      show Hp _ (telA p sb S dv (closeF (x)) day next h) [EnF h.es] _
      rw [close1 s2]
      exact Hp.keep H2
  · have s1 : (x).status ≠ 1 := ne_of_beq_false s1
    refine Exists.intro h (And.intro rfl (And.intro (ent_eq eE ((List.append_nil _).symm)) ?_))
    rw [eE]
    show Hp _ (telA p sb S dv (closeF (x)) day next h) [EnF h.es] _
    rw [close0 s1]
    exact Hp.keep H2
end Go.Proofs.YtjlfjjgjghdokaaGreatDoor
set_option linter.unusedVariables false
namespace Go.Proofs.YtjlfjjgjghdokaaGreatDoor
open Go Go.Proofs Go.Wk
def evsC : List Ev → List Value
  | [] => []
  | x :: r => .int .u32 x.seq :: .int .i32 x.day :: .int .u8 x.kind :: .int .i64 x.amt :: evsC r
theorem evsC_len : ∀ ls : List Ev, (evsC ls).length = ls.length * 4
  | [] => rfl
  | x :: r => by simp only [evsC, List.length_cons, evsC_len r]; omega
theorem evsC_drop : ∀ (ls : List Ev) (j : Nat), (evsC ls).drop (j * 4) = evsC (ls.drop j)
  | ls, 0 => by simp
  | [], j + 1 => by simp [evsC]
  | x :: r, j + 1 => by
    rw [show (j + 1) * 4 = j * 4 + 1 + 1 + 1 + 1 by omega]
    simp only [evsC, List.drop_succ_cons]
    exact evsC_drop r j
theorem evs_set : ∀ (ls : List Ev) (j : Nat) (x : Ev), setL (evsC ls) (0 + j * 4) (evC x) = evsC (ls.set j x)
  | [], j, x => by simp [evsC, setL]
  | y :: r, 0, x => rfl
  | y :: r, j + 1, x => by
    have ih := evs_set r j x
    rw [show 0 + (j + 1) * 4 = 0 + j * 4 + 1 + 1 + 1 + 1 by omega]
    simp only [evsC, setL, List.set_cons_succ] at ih ⊢
    rw [← ih]
theorem evs_get {ls : List Ev} {j : Nat} {x : Ev} (h : ls[j]? = some x) : ldV (tb 65) (evsC ls) (0 + j * 4) = some (evV x) := by
  obtain ⟨hj, _⟩ := List.getElem?_eq_some_iff.1 h
  have hd : ls.drop j = x :: ls.drop (j + 1) := by
    rw [List.drop_eq_getElem_cons hj]
    rw [List.getElem?_eq_getElem hj] at h
    rw [Option.some.inj h]
  show (bif Nat.ble (0 + j * 4 + 4) (evsC ls).length then some (Value.agg (((evsC ls).drop (0 + j * 4)).take 4).toArray) else none) = _
  rw [Nat.zero_add, evsC_drop, hd]
  have : Nat.ble (j * 4 + 4) (evsC ls).length = true := by rw [Nat.ble_eq, evsC_len]; omega
  rw [this]
  rfl
def evLe (a b : Ev) : Prop := a.day < b.day ∨ (a.day = b.day ∧ a.seq ≤ b.seq)
theorem evLe.trans {a b c : Ev} (h : evLe a b) (h' : evLe b c) : evLe a c := by unfold evLe at *; omega
theorem orL2 (a b : Int) : orL [a, b] = if a = 0 then b else a := by
  show (if a ≠ 0 then a else (if b ≠ 0 then b else 0)) = _
  by_cases ha : a = 0
  · rw [if_neg (fun h => h ha), if_pos ha]
    by_cases hb : b = 0
    · rw [if_neg (fun h => h hb), hb]
    · rw [if_pos hb]
  · rw [if_pos ha, if_neg ha]
theorem ev_lt {a b : Ev} (h : orL [cmpI a.day b.day, cmpI a.seq b.seq] < 0) : evLe a b := by
  rw [orL2] at h
  unfold cmpI at h
  unfold evLe
  split at h <;> split at h <;> (try split at h) <;> (try split at h) <;> omega
theorem ev_ge {a b : Ev} (h : ¬ orL [cmpI a.day b.day, cmpI a.seq b.seq] < 0) : evLe b a := by
  rw [orL2] at h
  unfold cmpI at h
  unfold evLe
  split at h <;> split at h <;> (try split at h) <;> (try split at h) <;> omega
def evSrt (l : List Ev) : Prop := l.Pairwise evLe
theorem evCmp (a b : Ev) : CB 92 [evV a, evV b] (.int .i64 (orL [cmpI a.day b.day, cmpI a.seq b.seq])) := by
  intro w M I H
  refine Exe.of_ev tok Tryz.call92 Tryz.func92 rfl rfl rfl ?_
  refine box_as H (evC a) rfl fun x w1 H1 => ?_
  refine box_as H1 (evC b) rfl fun y w2 H2 => ?_
  refine draw_rule (A := []) tok tdr H2 [0, 1, 2, 3, 4, 5, 6, 7, 8, 9, 10, 11, 12] [0, 1, 0, 4, 15, 0, 32, 0, 128, 511, 1023, 2047, 4095] rfl ?_
  refine pass_rule _ (fun w h => load_rule tok h (v := .int .i32 a.day) rfl ⟨rfl, rfl⟩) ?_
  refine pass_rule _ (fun w h => load_rule tok h (v := .int .i32 b.day) rfl ⟨rfl, rfl⟩) ?_
  refine imp_rule (fun X wx h => call_rule h (fun M I _ h => cmp23 a.day b.day _ M I h) fun _ w1 _ H1 => imp_done H1 ?_)
  refine pass_rule _ (fun w h => load_rule tok h (v := .int .u32 a.seq) rfl ⟨rfl, rfl⟩) ?_
  refine pass_rule _ (fun w h => load_rule tok h (v := .int .u32 b.seq) rfl ⟨rfl, rfl⟩) ?_
  refine imp_rule (fun X wx h => call_rule h (fun M I _ h => cmp22 a.seq b.seq _ M I h) fun _ w1 _ H1 => imp_done H1 ?_)
  refine fresh_slice tok ([cmpI a.day b.day, cmpI a.seq b.seq].map (Value.int .i64)) rfl rfl rfl rfl rfl rfl rfl fun g => ?_
  refine imp_rule (fun X wx h => call_rule h (fun M I _ h => orOf [cmpI a.day b.day, cmpI a.seq b.seq] g (by show 2 ≤ 1000; decide) _ M I h) fun _ w1 _ H1 => imp_done H1 ?_)
  refine done_rule fun w3 H3 => ?_
  exact Exists.intro () (And.intro rfl (And.intro trivial (Hp.keep H3)))
theorem evIns (g n c : Nat) (hn : n ≤ 1000000) (ls : List Ev) (hl : ls.length = n) (w : World) (M I : BS) (H : Hp ⟨w, M, I⟩ [row 65 4 (.slice (some ⟨g, 0, none⟩) n c) n (evsC ls)] [] w) :
    Ctr Tryz.prog 213 [.slice (some ⟨g, 0, none⟩) n c, .int .i64 0, .int .i64 n, .func (.func 92) #[] #[]] w M I (fun _ : List Ev => .tuple #[]) (fun l => l.Perm ls ∧ evSrt l) (fun l => [row 65 4 (.slice (some ⟨g, 0, none⟩) n c) n (evsC l)]) (fun _ => []) := by
  refine Exe.of_ev tok Tryz.call213 Tryz.func213 rfl rfl rfl ?_
  refine loop_rule tok (σ := Nat × List Ev) 9007199254737664 (fun s => [(8, .int .i64 s.1)]) (fun s w' => 1 ≤ s.1 ∧ s.1 ≤ 1000001 ∧ s.2.Perm ls ∧ evSrt (s.2.take s.1) ∧ Hp ⟨w, M, I⟩ [row 65 4 (.slice (some ⟨g, 0, none⟩) n c) n (evsC s.2)] [] w') (fun s => n - s.1) (1, ls) rfl rfl ⟨rfl, trivial⟩ ⟨Nat.le_refl _, by simp, .refl _, ?_, H⟩ ?_
  · cases ls with
    | nil => exact List.Pairwise.nil
    | cons x r => simp [evSrt]
  rintro ⟨i, l1⟩ j0 w1 ⟨hi, hi2, hp, hs, H1⟩
  simp only at hi hi2 hp hs H1
  refine brd (fun h => ?_) (fun h => ?_)
  · have hlt : i < n := by omega
    have hl1 : l1.length = n := by rw [hp.length_eq, hl]
    obtain ⟨pre, y, rest, rfl, hpre⟩ : ∃ pre y rest, l1 = pre ++ y :: rest ∧ pre.length = i := by
      refine ⟨l1.take i, l1[i], l1.drop (i + 1), ?_, by rw [List.length_take]; omega⟩
      rw [List.getElem_cons_drop, List.take_append_drop]
    rw [← hpre, List.take_left] at hs
    refine loop_rule tok (σ := List Ev × List Ev) 9007199254479360 (fun s => [(9, .int .i64 s.1.length)]) (fun s w' => s.1 ++ s.2 = pre ∧ (∀ z, z ∈ s.2 → evLe y z) ∧ Hp ⟨w, M, I⟩ [row 65 4 (.slice (some ⟨g, 0, none⟩) n c) n (evsC (s.1 ++ y :: (s.2 ++ rest)))] [] w') (fun s => s.1.length) (pre, []) rfl rfl ⟨?_, trivial⟩ ⟨by simp, by simp, by simpa using H1⟩ ?_
    · show Value.int .i64 _ = _
      rw [hpre]
    rintro ⟨p, s⟩ j1 w2 ⟨e, hz, H2⟩
    simp only at e hz H2
    have hps := congrArg List.length e
    have hll : pre.length + 1 + rest.length = n := by rw [← hl1]; simp; omega
    simp only [List.length_append] at hps
    have fin : ∀ w3, evSrt (p ++ y :: s) → Hp ⟨w, M, I⟩ [row 65 4 (.slice (some ⟨g, 0, none⟩) n c) n (evsC (p ++ y :: (s ++ rest)))] [] w3 → (p ++ y :: (s ++ rest)).Perm ls ∧ evSrt ((p ++ y :: (s ++ rest)).take (i + 1)) := fun w3 h1 _ => by
      refine ⟨?_, ?_⟩
      · refine List.Perm.trans ?_ hp
        have e1 : pre ++ y :: rest = p ++ (s ++ y :: rest) := by rw [← e]; simp
        have e2 : p ++ y :: (s ++ rest) = p ++ (y :: s ++ rest) := by simp
        rw [e1, e2]
        refine List.Perm.append_left p ?_
        exact (List.perm_middle (a := y) (l₁ := s) (l₂ := rest)).symm
      · have e2 : p ++ y :: (s ++ rest) = (p ++ y :: s) ++ rest := by simp
        rw [e2, List.take_left' (by simp <;> omega)]
        exact h1
    have hs' : evSrt (p ++ s) := by rw [e]; exact hs
    obtain ⟨hsp, hss, hsc⟩ := List.pairwise_append.1 hs'
    rcases List.eq_nil_or_concat p with hpe | ⟨p', x, hpe⟩
    · subst hpe
      refine draw_rule (A := []) tok tdr H2 [0, 1, 2, 3, 4, 5, 6, 7, 8, 9, 10, 11, 12, 13, 14, 15, 16] [0, 0, 3, 7, 15, 15, 15, 111, 239, 15, 15, 1039, 3599, 7695, 16383, 32767, 65535] rfl ?_
      refine done_rule fun w3 H3 => ?_
      have hf := fin w3 (List.pairwise_cons.2 ⟨fun z hz' => hz z hz', hss⟩) H3
      refine Exists.intro (i + 1, [] ++ y :: (s ++ rest)) (And.intro ⟨?_, trivial⟩ (And.intro ?_ ⟨by simp only; omega, by simp only; omega, hf.1, hf.2, H3⟩))
      · show Value.int .i64 (IntKind.i64.wrap (i + 1)) = _
        rw [w64 (by omega) (by omega)]; rfl
      · simp only; omega
    · rw [List.concat_eq_append] at hpe
      subst hpe
      simp only [List.length_append, List.length_cons, List.length_nil] at hps
      have hy : (p' ++ [x] ++ y :: (s ++ rest))[(((p' ++ [x]).length : Nat) : Int).toNat]? = some y := by simp
      have hx : (p' ++ [x] ++ y :: (s ++ rest))[(IntKind.i64.wrap ((((p' ++ [x]).length : Nat) : Int) - 1)).toNat]? = some x := by
        rw [w64 (by simp <;> omega) (by simp <;> omega)]
        simp
      have i1 : (0 : Int) ≤ (((p' ++ [x]).length : Nat) : Int) := by omega
      have i2 : (((p' ++ [x]).length : Nat) : Int) < n := by simp <;> omega
      have i3 : (0 : Int) ≤ IntKind.i64.wrap ((((p' ++ [x]).length : Nat) : Int) - 1) := by rw [w64 (by simp <;> omega) (by simp <;> omega)]; simp
      have i4 : IntKind.i64.wrap ((((p' ++ [x]).length : Nat) : Int) - 1) < n := by rw [w64 (by simp <;> omega) (by simp <;> omega)]; simp <;> omega
      refine draw_rule (A := []) tok tdr H2 [0, 1, 2, 3, 4, 5, 6, 7, 8, 9, 10, 11, 12, 13, 14, 15, 16] [0, 0, 3, 7, 15, 15, 15, 111, 239, 15, 15, 1039, 3599, 7695, 16383, 32767, 65535] rfl ?_
      refine brd (fun q => ?_) (fun q => ?_)
      · refine pass_rule _ (fun w h => idx_own tok rfl rfl i1 i2 ⟨rfl, rfl⟩) ?_
        refine pass_rule _ (fun w h => row_ld tok h (evV y) (evs_get hy) ⟨rfl, rfl⟩) ?_
        refine pass_rule _ (fun w h => idx_own tok rfl rfl i3 i4 ⟨rfl, rfl⟩) ?_
        refine pass_rule _ (fun w h => row_ld tok h (evV x) (evs_get hx) ⟨rfl, rfl⟩) ?_
        refine imp_rule (fun X w h => call_rule h (fun M I _ h => evCmp y x _ M I h) fun _ w1 _ H1 => imp_done H1 ?_)
        refine done_rule fun w3 H3 => ?_
        refine brd (fun q2 => ?_) (fun q2 => ?_)
        · have hlt : evLe y x := by
            exact ev_lt q2
          have hln : (evsC (p' ++ [x] ++ y :: (s ++ rest))).length = n * 4 := by rw [evsC_len]; simp; omega
          have hb1 : 0 + (((p' ++ [x]).length : Nat) : Int).toNat * 4 + 4 ≤ (evsC (p' ++ [x] ++ y :: (s ++ rest))).length := by rw [hln]; omega
          have hb2 : 0 + (IntKind.i64.wrap ((((p' ++ [x]).length : Nat) : Int) - 1)).toNat * 4 + 4 ≤ (setL (evsC (p' ++ [x] ++ y :: (s ++ rest))) (0 + (((p' ++ [x]).length : Nat) : Int).toNat * 4) (evC x)).length := by rw [length_setL, hln]; omega
          refine draw_rule (A := [row 65 4 (.slice (some ⟨g, 0, none⟩) n c) n (evsC (p' ++ [x] ++ y :: (s ++ rest)))]) tok tdr H3 [0, 1, 5, 6, 7, 8, 9, 10, 11, 12, 13, 14, 15, 2, 3, 4, 16, 17] [0, 0, 0, 0, 8, 0, 0, 64, 224, 480, 0, 0, 3072, 7168, 16355, 32739, 65535, 131071] rfl ?_
          refine pass_rule _ (fun w h => idx_own tok rfl rfl i3 i4 ⟨rfl, rfl⟩) ?_
          refine pass_last _ rfl (fun X w h => row_ld tok h (evV x) (evs_get hx) ⟨rfl, rfl⟩) ?_
          refine pass_rule _ (fun w h => idx_own tok rfl rfl i1 i2 ⟨rfl, rfl⟩) ?_
          refine pass_last _ rfl (fun X w h => row_ld tok h (evV y) (evs_get hy) ⟨rfl, rfl⟩) ?_
          refine pass_rule _ (fun w h => idx_own tok rfl rfl i1 i2 ⟨rfl, rfl⟩) ?_
          refine imp_rule (fun X w h => row_st tok h rfl rfl hb1 rfl fun w' H' => imp_done H' ?_)
          refine pass_rule _ (fun w h => idx_own tok rfl rfl i3 i4 ⟨rfl, rfl⟩) ?_
          refine imp_rule (fun X w h => row_st tok h rfl rfl hb2 rfl fun w' H' => imp_done H' ?_)
          refine done_rule fun w4 H4 => ?_
          refine Exists.intro (p', x :: s) (And.intro ⟨?_, trivial⟩ (And.intro ?_ ⟨?_, ?_, ?_⟩))
          · show Value.int .i64 (IntKind.i64.wrap _) = _
            rw [w64 (by simp <;> omega) (by simp <;> omega)]; simp
          · simp
          · simpa using e
          · intro z hz'
            rcases List.mem_cons.1 hz' with rfl | hz'
            · exact hlt
            · exact hz z hz'
          · have ee : setL (setL (evsC (p' ++ [x] ++ y :: (s ++ rest))) (0 + (((p' ++ [x]).length : Nat) : Int).toNat * 4) (evC x)) (0 + (IntKind.i64.wrap ((((p' ++ [x]).length : Nat) : Int) - 1)).toNat * 4) (evC y) = evsC (p' ++ y :: (x :: s ++ rest)) := by
              rw [evs_set, evs_set, w64 (by simp <;> omega) (by simp <;> omega)]
              congr 1
              simp
            rw [← ee]
            exact H4
        · have hle : evLe x y := by
            exact ev_ge q2
          have hf := fin w3 (by
            refine List.pairwise_append.2 ⟨hsp, List.pairwise_cons.2 ⟨fun z hz' => hz z hz', hss⟩, fun u hu v hv => ?_⟩
            rcases List.mem_cons.1 hv with rfl | hv
            · rcases List.mem_append.1 hu with hu | hu
              · exact evLe.trans ((List.pairwise_append.1 hsp).2.2 u hu x (by simp)) hle
              · simp only [List.mem_singleton] at hu; subst hu; exact hle
            · exact hsc u hu v hv) H3
          refine Exists.intro (i + 1, p' ++ [x] ++ y :: (s ++ rest)) (And.intro ⟨?_, trivial⟩ (And.intro ?_ ⟨by simp only; omega, by simp only; omega, hf.1, hf.2, H3⟩))
          · show Value.int .i64 (IntKind.i64.wrap (i + 1)) = _
            rw [w64 (by omega) (by omega)]; rfl
          · simp only; omega
      · exact absurd q (by simp <;> omega)
  · exact Exists.intro l1 (And.intro rfl (And.intro ⟨hp, by rwa [List.take_of_length_le (by have := hp.length_eq; omega)] at hs⟩ H1))
theorem evInsNil (A : Option Addr) (c : Nat) : CB 213 [.slice A 0 c, .int .i64 0, .int .i64 0, .func (.func 92) #[] #[]] (.tuple #[]) := by
  intro w M I H
  refine Exe.of_ev tok Tryz.call213 Tryz.func213 rfl rfl rfl ?_
  refine loop_rule tok (σ := Unit) 9007199254737664 (fun s => [(8, .int .i64 1)]) (fun _ w' => Hp ⟨w, M, I⟩ [] [] w') (fun _ => 0) () rfl rfl ⟨rfl, trivial⟩ H ?_
  rintro ⟨⟩ j0 w1 H1
  exact Exists.intro () (And.intro rfl (And.intro trivial H1))
theorem evStable (g n c : Nat) (hn : n ≤ 19) (ls : List Ev) (hl : ls.length = n) (w : World) (M I : BS) (H : Hp ⟨w, M, I⟩ [row 65 4 (.slice (some ⟨g, 0, none⟩) n c) n (evsC ls)] [] w) :
    Ctr Tryz.prog 157 [.slice (some ⟨g, 0, none⟩) n c, .int .i64 n, .func (.func 92) #[] #[]] w M I (fun _ : List Ev => .tuple #[]) (fun l => l.Perm ls ∧ evSrt l) (fun l => [row 65 4 (.slice (some ⟨g, 0, none⟩) n c) n (evsC l)]) (fun _ => []) := by
  have h20 : ¬ ((20 : Int) ≤ (n : Int)) := by omega
  have h21 : ¬ ((20 : Int) < (n : Int)) := by omega
  refine Exe.of_ev tok Tryz.call157 Tryz.func157 rfl rfl rfl ?_
  refine loop_rule tok (σ := Unit) 8386944 (fun _ => [(7, .int .i64 0), (8, .int .i64 20)]) (fun _ w' => Hp ⟨w, M, I⟩ [row 65 4 (.slice (some ⟨g, 0, none⟩) n c) n (evsC ls)] [] w') (fun _ => 0) () rfl rfl ⟨rfl, rfl, trivial⟩ H ?_
  intro _ j0 w1 H1
  refine brd (fun q => absurd q h20) (fun _ => ?_)
  refine call_rule H1 (fun M I _ h => evIns g n c (by omega) ls hl _ M I h) fun l w2 hl2 H2 => ?_
  refine loop_rule tok (σ := Unit) 9223372036586341312 (fun _ => [(6, .int .i64 20)]) (fun _ w' => Hp ⟨w, M, I⟩ [row 65 4 (.slice (some ⟨g, 0, none⟩) n c) n (evsC l)] [] w') (fun _ => 0) () rfl rfl ⟨rfl, trivial⟩ H2 ?_
  intro _ j1 w3 H3
  refine brd (fun q => absurd q h21) (fun _ => ?_)
  exact Exists.intro l (And.intro rfl (And.intro hl2 H3))
theorem evStableNil (A : Option Addr) (c : Nat) : CB 157 [.slice A 0 c, .int .i64 0, .func (.func 92) #[] #[]] (.tuple #[]) := by
  intro w M I H
  refine Exe.of_ev tok Tryz.call157 Tryz.func157 rfl rfl rfl ?_
  refine loop_rule tok (σ := Unit) 8386944 (fun _ => [(7, .int .i64 0), (8, .int .i64 20)]) (fun _ w' => Hp ⟨w, M, I⟩ [] [] w') (fun _ => 0) () rfl rfl ⟨rfl, rfl, trivial⟩ H ?_
  intro _ j0 w1 H1
  refine call_rule H1 (fun M I _ h => evInsNil A c _ M I h) fun l w2 hl2 H2 => ?_
  refine loop_rule tok (σ := Unit) 9223372036586341312 (fun _ => [(6, .int .i64 20)]) (fun _ w' => Hp ⟨w, M, I⟩ [] [] w') (fun _ => 0) () rfl rfl ⟨rfl, trivial⟩ H2 ?_
  intro _ j1 w3 H3
  exact Exists.intro () (And.intro rfl (And.intro trivial H3))
theorem evSortS (g n c : Nat) (hn : n ≤ 19) (ls : List Ev) (hl : ls.length = n) (w : World) (M I : BS) (H : Hp ⟨w, M, I⟩ [row 65 4 (.slice (some ⟨g, 0, none⟩) n c) n (evsC ls)] [] w) :
    Ctr Tryz.prog 91 [.slice (some ⟨g, 0, none⟩) n c, .func (.func 92) #[] #[]] w M I (fun _ : List Ev => .tuple #[]) (fun l => l.Perm ls ∧ evSrt l) (fun l => [row 65 4 (.slice (some ⟨g, 0, none⟩) n c) n (evsC l)]) (fun _ => []) := by
  refine Exe.of_ev tok Tryz.call91 Tryz.func91 rfl rfl rfl ?_
  refine call_rule H (fun M I _ h => evStable g n c hn ls hl _ M I h) fun l w2 hl2 H2 => ?_
  exact Exists.intro l (And.intro rfl (And.intro hl2 H2))
theorem evSortNil (A : Option Addr) (c : Nat) : CB 91 [.slice A 0 c, .func (.func 92) #[] #[]] (.tuple #[]) := by
  intro w M I H
  refine Exe.of_ev tok Tryz.call91 Tryz.func91 rfl rfl rfl ?_
  refine call_rule H (fun M I _ h => evStableNil A c _ M I h) fun l w2 hl2 H2 => ?_
  exact Exists.intro () (And.intro rfl (And.intro trivial H2))
@[reducible] def evR : Rp Ev := ⟨4, Unit, fun x _ => evC x, fun _ _ => True, fun _ _ => [], fun _ _ => rfl⟩
theorem evs_at {xs : List Ev} {i : Nat} {x : Ev} (h : xs[i]? = some x) : ((evsC xs).drop (i * 4)).take 4 = evC x := by
  obtain ⟨hj, _⟩ := List.getElem?_eq_some_iff.1 h
  rw [evsC_drop, List.drop_eq_getElem_cons hj]
  rw [List.getElem?_eq_getElem hj] at h
  rw [Option.some.inj h]
  rfl
theorem ev_one (x : Ev) (p : Unit) (_ : evR.ok x p) (u : Value) (hu : u ∈ evR.cells x p) : u.oneCell' = true := by
  simp only [evC, List.mem_cons, List.not_mem_nil, or_false] at hu
  rcases hu with rfl | rfl | rfl | rfl <;> rfl
/-- What a row of events reads asx. -/
theorem cl_evs {cs : List Value} : ∀ {ls : List Ev} {w : World} {I : BS}, (Cl evR cs ls).holds w I → cs = evsC ls := by
  intro ls w I ⟨h1, h2⟩
  refine List.ext_getElem? fun j => ?_
  by_cases hj : j < ls.length * 4
  · have hi : j / 4 < ls.length := by omega
    obtain ⟨p, _, h3, _⟩ := h2 (j / 4) ls[j / 4] (List.getElem?_eq_getElem hi)
    have h4 := evs_at (List.getElem?_eq_getElem hi)
    have h5 : ((cs.drop (j / 4 * 4)).take 4)[j % 4]? = (((evsC ls).drop (j / 4 * 4)).take 4)[j % 4]? := by rw [h4]; exact congrArg (fun l : List Value => l[j % 4]?) h3
    rw [List.getElem?_take_of_lt (Nat.mod_lt _ (by decide)), List.getElem?_take_of_lt (Nat.mod_lt _ (by decide)), List.getElem?_drop, List.getElem?_drop] at h5
    rwa [show j / 4 * 4 + j % 4 = j by omega] at h5
  · rw [List.getElem?_eq_none (by rw [h1]; show ls.length * 4 ≤ j; omega), List.getElem?_eq_none (by rw [evsC_len]; omega)]
theorem evClone (ad : Addr) (n c : Nat) (es : List Ev) (hn : es.length ≤ 1000000) (w : World) (M I : BS) (H : Hp ⟨w, M, I⟩ [] [Sl evR (.slice (some ad) n c) es] w) :
    Ctr Tryz.prog 90 [.slice (some ad) n c] w M I (fun a : SV => .slice a.A a.n a.c) (fun a => a.n = n) (fun a => [row 65 4 (.slice a.A a.n a.c) a.n (evsC es)]) (fun _ => []) := by
  obtain ⟨hl, _, _⟩ := H.sll (A := some ad) (n := n) (c := c)
  refine Exe.of_ev tok Tryz.call90 Tryz.func90 rfl rfl rfl ?_
  refine slice_as tok H [] rfl rfl rfl rfl rfl rfl fun g w1 H1 => ?_
  have H2 : Hp ⟨w, M, I⟩ [row 65 4 (.slice (some ⟨g, 0, none⟩) 0 0) 0 []] [Sl evR (.slice (some ad) n c) es] w1 := H1.toRow 4 0 rfl (by decide)
  refine append_sl (v := .slice (some ⟨g, 0, none⟩) 0 0) (A := some ad) (m := n) (c := c) tok H2 rfl rfl rfl rfl rfl rfl rfl ev_one (by show (0 + n) * 24 ≤ _; omega) (by omega) fun A2 c2 news w4 H4 => ?_
  have H4' : Hp ⟨w, M, I⟩ [row 65 4 (.slice A2 (0 + n) c2) (0 + n) news] [Cl evR news es, Sl evR (.slice (some ad) n c) es] w4 := H4
  have hcl := H4'.fact (f := Cl evR news es)
  have hnews : news = evsC es := Exists.elim hcl fun I' hI' => cl_evs hI'
  rw [hnews] at H4'
  exact Exists.intro ⟨A2, 0 + n, c2⟩ (And.intro rfl (And.intro (Nat.zero_add n) (Hp.keep H4')))
theorem evCloneNil : CB 90 [.slice none 0 0] (.slice none 0 0) := by
  intro w M I H
  refine Exe.of_ev tok Tryz.call90 Tryz.func90 rfl rfl rfl ?_
  exact Exists.intro () (And.intro rfl (And.intro trivial (Hp.keep H)))
theorem perm_nil {l : List Ev} {n : Nat} (hn : n = 0) (hl : n = l.length) : ([] : List Ev).Perm l ∧ evSrt [] := by
  have : l = [] := List.eq_nil_of_length_eq_zero (by omega)
  rw [this]
  exact ⟨.refl _, List.Pairwise.nil⟩
theorem frzEvs {w : World} {B : Base} {S S' : List Asn} {F : List Fact} (H : Hp B S F w) {v : Value} {e n : Nat} (ls : List Ev) (hM : ∀ b, ¬ B.M b) [h1 : TakeR S v e 4 n (evsC ls) S'] : Hp B S' (Sl evR v ls :: F) w := by
  have H2 := (H.addCl evR (cs := evsC ls) (xs := ls) (evsC_len ls) (fun i x hx => ⟨(), trivial, evs_at hx, rfl⟩)).frzRow (v := v) (xs := ls) evR hM rfl (by decide)
  refine H2.facts fun I ha f hf => ha f ?_
  rcases List.mem_cons.1 hf with rfl | hf
  · exact List.mem_cons_self
  · exact List.mem_cons_of_mem _ (List.mem_cons_of_mem _ hf)
theorem sortEv (A : Option Addr) (n c : Nat) (es : List Ev) (hn : es.length ≤ 19) (w : World) (M I : BS) (hM : ∀ b, ¬ M b) (H : Hp ⟨w, M, I⟩ [] [Sl evR (.slice A n c) es] w) :
    Ctr Tryz.prog 42 [.slice A n c] w M I (fun a : SV × List Ev => .slice a.1.A a.1.n a.1.c) (fun a => a.2.Perm es ∧ evSrt a.2) (fun _ => []) (fun a => [Sl evR (.slice a.1.A a.1.n a.1.c) a.2]) := by
  obtain ⟨hl, _, _⟩ := H.sll (A := A) (n := n) (c := c)
  cases A with
  | none =>
    have h0 : n = 0 ∧ c = 0 := by
      obtain ⟨I', _, _, ha, _⟩ := H.ex
      obtain ⟨A', c', e1, _, q2, q3, _⟩ := ha _ List.mem_cons_self
      injection e1 with e1 e2 e3
      have := q3 e1.symm
      omega
    obtain ⟨rfl, rfl⟩ := h0
    refine Exe.of_ev tok Tryz.call42 Tryz.func42 rfl rfl rfl ?_
    refine call_rule H (fun M I _ h => evCloneNil _ M I h) fun _ w1 _ H1 => ?_
    refine call_rule H1 (fun M I _ h => evSortNil none 0 _ M I h) fun _ w2 _ H2 => ?_
    exact Exists.intro (⟨none, 0, 0⟩, []) (And.intro rfl (And.intro (perm_nil rfl hl) (Hp.keep (Hp.slNil evR H2))))
  | some ad =>
    refine Exe.of_ev tok Tryz.call42 Tryz.func42 rfl rfl rfl ?_
    refine call_rule H (fun M I _ h => evClone ad n c es (by omega) _ M I h) fun a w1 ha H1 => ?_
    by_cases h0 : n = 0
    · have e0 : a.n = 0 := by rw [ha, h0]
      have H1' := H1
      rw [e0] at H1'
      refine call_rule H1 (fun M I _ h => e0.symm ▸ evSortNil a.A a.c _ M I h) fun _ w2 _ H2 => ?_
      have hp := perm_nil h0 hl
      have hes : es = [] := List.eq_nil_of_length_eq_zero (by omega)
      refine Exists.intro (a, es) (And.intro rfl (And.intro ⟨.refl _, by rw [hes]; exact List.Pairwise.nil⟩ (Hp.keep (frzEvs (v := .slice a.A a.n a.c) H2 es hM))))
    · have hg : ∃ b, a.A = some ⟨b, 0, none⟩ := by
        obtain ⟨fa, hfa⟩ := Hp.own (A := row 65 4 (.slice a.A a.n a.c) a.n (evsC es)) H1
        obtain ⟨A', c', e1, _, _, hb⟩ := row_shape hfa
        injection e1 with e1 e2 e3
        rw [e1]
        exact hb (by omega)
      refine Exists.elim hg fun b hb => ?_
      rw [hb] at H1
      refine call_rule H1 (fun M I _ h => hb.symm ▸ evSortS b a.n a.c (by omega) es (by omega) _ M I h) fun l w2 hl2 H2 => ?_
      exact Exists.intro (a, l) (And.intro rfl (And.intro hl2 (Hp.keep (frzEvs (v := .slice a.A a.n a.c) H2 l hM))))
end Go.Proofs.YtjlfjjgjghdokaaGreatDoor
