/- What happens to a loan: a payment, a fee, a waiver, a loss: the walks of pay and event. -/
import Derived.Test.YtjlfjjgjghdokaaGreatDoorE6
set_option linter.unusedVariables false
namespace Go.Proofs.YtjlfjjgjghdokaaGreatDoor
open Go Go.Proofs Go.Wk
structure Ev where
  seq : Int
  day : Int
  kind : Int
  amt : Int
deriving DecidableEq
@[reducible] def evC (e : Ev) : List Value := [.int .u32 e.seq, .int .i32 e.day, .int .u8 e.kind, .int .i64 e.amt]
@[reducible] def evV (e : Ev) : Value := .agg #[.int .u32 e.seq, .int .i32 e.day, .int .u8 e.kind, .int .i64 e.amt]
def payF (x : St) (n : Int) : St := if x.status = 3 then { x with recv := x.recv + n, cash := x.cash + n } else
  { x with fees := x.fees - goF x.fees n, int := x.int - goI x.fees x.int n, prin := x.prin - goP x.fees x.int x.prin n, paid := x.paid + (goI x.fees x.int n + goP x.fees x.int x.prin n), susp := x.susp + goL x.fees x.int x.prin n, cash := x.cash + n }
def payL (x : St) (n : Int) : List Leg := if x.status = 3 then [⟨1, n⟩, ⟨9, -n⟩] else ptL (goF x.fees n) (goI x.fees x.int n) (goP x.fees x.int x.prin n) ++ [⟨1, n⟩, ⟨5, -goL x.fees x.int x.prin n⟩]
theorem i64in {n : Int} (h1 : -9000000000000000000 ≤ n) (h2 : n ≤ 9000000000000000000) : inK .i64 n := by show (-9223372036854775808 : Int) ≤ n ∧ n ≤ 9223372036854775807; omega
theorem okLeg {a n : Int} (h0 : 0 ≤ a ∧ a ≤ 9) (h1 : -9000000000000000000 ≤ n) (h2 : n ≤ 9000000000000000000) : inK .u8 (Leg.mk a n).acct ∧ inK .i64 (Leg.mk a n).amt := ⟨by show (0 : Int) ≤ a ∧ a ≤ 255; omega, i64in h1 h2⟩
theorem payLegs {f i p n l : Int} (hf : 0 ≤ f ∧ f ≤ 9000000000000000000) (hi : 0 ≤ i ∧ i ≤ 9000000000000000000) (hp : 0 ≤ p ∧ p ≤ 9000000000000000000) (hn : 0 ≤ n ∧ n ≤ 9000000000000000000) (hl : 0 ≤ l ∧ l ≤ 9000000000000000000) :
    ∀ x, x ∈ ptL f i p ++ [⟨1, n⟩, ⟨5, -l⟩] → inK .u8 x.acct ∧ inK .i64 x.amt := fun x hx => by
  simp only [ptL, List.cons_append, List.nil_append, List.mem_cons, List.not_mem_nil, or_false] at hx
  rcases hx with rfl | rfl | rfl | rfl | rfl
  · exact okLeg (by decide) (by omega) (by omega)
  · exact okLeg (by decide) (by omega) (by omega)
  · exact okLeg (by decide) (by omega) (by omega)
  · exact okLeg (by decide) (by omega) (by omega)
  · exact okLeg (by decide) (by omega) (by omega)
theorem offLegs {f i p n : Int} (hf : 0 ≤ f ∧ f ≤ 9000000000000000000) (hi : 0 ≤ i ∧ i ≤ 9000000000000000000) (hp : 0 ≤ p ∧ p ≤ 9000000000000000000) (hn : 0 ≤ n ∧ n ≤ 9000000000000000000) :
    ∀ x, x ∈ ptL f i p ++ [⟨8, n⟩] → inK .u8 x.acct ∧ inK .i64 x.amt := fun x hx => by
  simp only [ptL, List.cons_append, List.nil_append, List.mem_cons, List.not_mem_nil, or_false] at hx
  rcases hx with rfl | rfl | rfl | rfl
  · exact okLeg (by decide) (by omega) (by omega)
  · exact okLeg (by decide) (by omega) (by omega)
  · exact okLeg (by decide) (by omega) (by omega)
  · exact okLeg (by decide) (by omega) (by omega)
theorem frLegsE {w : World} {B : Base} {S S' : List Asn} {F : List Fact} (H : Hp B S F w) {N : Nat} {v : Value} {e n : Nat} {cs : List Value} (ls : List Leg) (hM : B.w.heap.size ≤ N) [h1 : TakeF S N v e 2 n cs S'] (hc : cs = legsC ls) (hok : ∀ x, x ∈ ls → inK .u8 x.acct ∧ inK .i64 x.amt) : Hp B S' (Sl legR v ls :: F) w := by
  subst hc
  exact frLegs H ls hM hok
set_option maxRecDepth 20000 in
set_option maxHeartbeats 2000000 in
theorem pay_ (p sb : Nat) (S : Sto) (dv : SV) (x : St) (k : Int) (hk : k ≤ 4000000000000000000) (hx : StB S k x) (day : Int) (next : Int) (h : Hd) (hl : h.es.length ≤ 1000000000) (e : Ev) (ha : 0 ≤ e.amt) (ha2 : e.amt ≤ 10000000000000) (w : World) (M I : BS)
    (H : Hp ⟨w, M, I⟩ (telA p sb S dv x day next h) [EnF h.es] w) :
    Ctr Tryz.prog 97 [.pointer (some ⟨p, 0, none⟩), evV e] w M I (fun _ : Hd => .tuple #[]) (fun h' => posted h S day 4 e.seq (payL x e.amt) h') (fun h' => telA p sb S dv (payF x e.amt) day next h') (fun h' => [EnF h'.es]) := by
  have hxf := hx.fees
  have hxi := hx.int
  have hxp := hx.prin
  have hxs := hx.susp
  have hxa := hx.paid
  have hxr := hx.recv
  have hxc := hx.cash
  have ec : IntKind.i64.wrap (x.cash + e.amt) = x.cash + e.amt := i64w (by omega) (by omega)
  have er : IntKind.i64.wrap (x.recv + e.amt) = x.recv + e.amt := i64w (by omega) (by omega)
  refine Exe.of_ev tok Tryz.call97 Tryz.func97 rfl rfl rfl ?_
  refine box_as H (evC e) rfl fun eb w1 H1 => ?_
  refine draw_rule (A := [blk p (telC sb x day next h.A h.es.length h.c) 124]) tok tdr H1 [0, 1, 2, 3, 4, 5, 6, 7, 8, 9, 10, 11] [0, 1, 3, 7, 15, 0, 32, 127, 255, 511, 1023, 2047] rfl ?_
  refine pass_kept [blk p (telC sb x day next h.A h.es.length h.c) 124] _ (fun X w h => load_rule tok h (v := .int .i64 x.cash) rfl ⟨rfl, rfl⟩) ?_
  refine pass_rule _ (fun w h => load_rule tok h (v := .int .i64 e.amt) rfl ⟨rfl, rfl⟩) ?_
  refine imp_rule (fun X wx hw => store_as tok hw (telC sb { x with cash := IntKind.i64.wrap (x.cash + e.amt) } day next h.A h.es.length h.c) rfl rfl rfl rfl rfl fun w1 H1 => imp_done H1 ?_)
  refine done_rule fun w2 H2 => ?_
  rw [ec] at H2
  refine load_rule tok H2 (v := .int .u8 x.status) rfl ?_
  refine br (fun q => ?_) (fun q => ?_)
  · have q : x.status = 3 := by simpa using q
    have e1 : payF x e.amt = { x with recv := x.recv + e.amt, cash := x.cash + e.amt } := by unfold payF; rw [if_pos q]
    have e2 : payL x e.amt = [⟨1, e.amt⟩, ⟨9, -e.amt⟩] := by unfold payL; rw [if_pos q]
    refine draw_rule (A := [blk p (telC sb { x with cash := x.cash + e.amt } day next h.A h.es.length h.c) 124]) tok tdr H2 [0, 1, 2, 3, 4, 5, 6, 7, 8, 9, 10, 11] [0, 1, 3, 7, 15, 0, 32, 127, 255, 511, 1023, 2047] rfl ?_
    refine pass_kept [blk p (telC sb { x with cash := x.cash + e.amt } day next h.A h.es.length h.c) 124] _ (fun X w h => load_rule tok h (v := .int .i64 x.recv) rfl ⟨rfl, rfl⟩) ?_
    refine pass_rule _ (fun w h => load_rule tok h (v := .int .i64 e.amt) rfl ⟨rfl, rfl⟩) ?_
    refine imp_rule (fun X wx hw => store_as tok hw (telC sb { x with recv := IntKind.i64.wrap (x.recv + e.amt), cash := x.cash + e.amt } day next h.A h.es.length h.c) rfl rfl rfl rfl rfl fun w1 H1 => imp_done H1 ?_)
    refine done_rule fun w3 H3 => ?_
    rw [er] at H3
    have H3 : Hp ⟨w, M, I⟩ [blk p (telC sb { x with recv := x.recv + e.amt, cash := x.cash + e.amt } day next h.A h.es.length h.c) 124, row 71 5 (.slice h.A h.es.length h.c) h.es.length (ensC h.es), blk sb (stoC S dv) 120, blk eb (evC e) 65] [EnF h.es] w3 := Hp.keep H3
    refine load_rule tok H3 (v := .int .u32 e.seq) rfl ?_
    refine load_rule tok H3 (v := .int .i64 e.amt) rfl ?_
    refine call_rule H3 (fun M I _ hw => both p sb S dv { x with recv := x.recv + e.amt, cash := x.cash + e.amt } day next h hl 4 e.seq 1 9 e.amt ⟨by decide, by decide⟩ ⟨by decide, by decide⟩ ⟨by omega, by omega⟩ _ M I hw) fun h' w4 hh' H4 => ?_
    refine Exists.intro h' (And.intro rfl (And.intro (e2.symm ▸ hh') ?_))
    rw [e1]
    exact Hp.keep H4
  have q : x.status ≠ 3 := by simpa using q
  have pb := pay_bd hxf.1 hxi.1 hxp.1 ha
  have b1 := pb.hf
  have b2 := pb.hi
  have b3 := pb.hp
  have b4 := pb.hl
  have b5 := pb.hs
  have hlegs := payLegs (f := goF x.fees e.amt) (i := goI x.fees x.int e.amt) (p := goP x.fees x.int x.prin e.amt) (n := e.amt) (l := goL x.fees x.int x.prin e.amt) (by omega) (by omega) (by omega) (by omega) (by omega)
  have sp := splitPay x.fees x.int x.prin e.amt hxf.1 hxi.1 hxp.1 ha (by omega)
  have sl := splitLess x.fees x.int x.prin (goF x.fees e.amt) (goI x.fees x.int e.amt) (goP x.fees x.int x.prin e.amt) (by omega) (by omega) (by omega)
  have pt := fun w M I h => parts_ (goF x.fees e.amt) (goI x.fees x.int e.amt) (goP x.fees x.int x.prin e.amt) (by omega) (by omega) (by omega) w M I h
  have e1 : payF x e.amt = { x with fees := x.fees - goF x.fees e.amt, int := x.int - goI x.fees x.int e.amt, prin := x.prin - goP x.fees x.int x.prin e.amt, paid := x.paid + (goI x.fees x.int e.amt + goP x.fees x.int x.prin e.amt), susp := x.susp + goL x.fees x.int x.prin e.amt, cash := x.cash + e.amt } := by unfold payF; rw [if_neg q]
  have e2 : payL x e.amt = ptL (goF x.fees e.amt) (goI x.fees x.int e.amt) (goP x.fees x.int x.prin e.amt) ++ [⟨1, e.amt⟩, ⟨5, -goL x.fees x.int x.prin e.amt⟩] := by unfold payL; rw [if_neg q]
  rw [e1, e2]
  clear e1 e2
  generalize goF x.fees e.amt = F at *
  generalize goI x.fees x.int e.amt = G at *
  generalize goP x.fees x.int x.prin e.amt = P at *
  generalize goL x.fees x.int x.prin e.amt = L at *
  have hcs : legsC (ptL F G P) ++ [.int .u8 1, .int .i64 e.amt, .int .u8 5, .int .i64 (IntKind.i64.wrap (0 - L))] = legsC (ptL F G P ++ [Leg.mk 1 e.amt, Leg.mk 5 (-L)]) := by rw [neg64 b4.1 (show L ≤ 9000000000000000000 by omega)]; rfl
  refine draw_rule (A := []) tok tdr H2 [0, 1, 2, 3, 4, 5, 6, 7, 8, 9, 12, 13, 10, 11, 14, 15] [0, 1, 3, 7, 15, 0, 32, 127, 255, 511, 511, 511, 0, 5119, 14335, 32767] rfl ?_
  refine pass_rule _ (fun w h => load_rule tok h (v := owV x.fees x.int x.prin) rfl ⟨rfl, rfl⟩) ?_
  refine pass_rule _ (fun w h => load_rule tok h (v := .int .i64 e.amt) rfl ⟨rfl, rfl⟩) ?_
  refine imp_rule (fun X wx hw => call_rule hw (fun M I _ h => sp _ M I h) fun _ w1 _ H1 => imp_done H1 ?_)
  refine fresh_alloc tok rfl rfl rfl fun u => ?_
  refine imp_rule (fun X wx hw => store_as tok hw (owC F G P) rfl rfl rfl rfl rfl fun w1 H1 => imp_done H1 ?_)
  refine done_rule fun w3 H3 => ?_
  have H3 : Hp ⟨w, M, I⟩ [blk p (telC sb { x with cash := x.cash + e.amt } day next h.A h.es.length h.c) 124, row 71 5 (.slice h.A h.es.length h.c) h.es.length (ensC h.es), blk sb (stoC S dv) 120, blk eb (evC e) 65, blk u (owC F G P) 41] [EnF h.es] w3 := Hp.keep H3
  refine draw_rule (A := [blk p (telC sb { x with cash := x.cash + e.amt } day next h.A h.es.length h.c) 124]) tok tdr H3 [1, 2, 3, 4, 5, 6, 7, 0, 8, 9, 11, 12, 13, 14, 10] [0, 0, 2, 6, 14, 30, 0, 126, 254, 510, 510, 1023, 3071, 7167, 15359] rfl ?_
  refine pass_kept [blk p (telC sb { x with cash := x.cash + e.amt } day next h.A h.es.length h.c) 124] _ (fun X w hw => load_rule tok hw (v := owV x.fees x.int x.prin) rfl ⟨rfl, rfl⟩) ?_
  refine pass_rule _ (fun w h => load_rule tok h (v := owV F G P) rfl ⟨rfl, rfl⟩) ?_
  refine imp_rule (fun X wx hw => call_rule hw (fun M I _ h => sl _ M I h) fun _ w1 _ H1 => imp_done H1 ?_)
  refine imp_rule (fun X wx hw => store_as tok hw (telC sb { x with fees := x.fees - F, int := x.int - G, prin := x.prin - P, cash := x.cash + e.amt } day next h.A h.es.length h.c) rfl rfl rfl rfl rfl fun w1 H1 => imp_done H1 ?_)
  refine done_rule fun w4 H4 => ?_
  have ep : IntKind.i64.wrap (x.paid + IntKind.i64.wrap (G + P)) = x.paid + (G + P) := by rw [i64w (n := G + P) (by omega) (by omega)]; exact i64w (by omega) (by omega)
  have el : IntKind.i64.wrap (x.susp + L) = x.susp + L := i64w (by omega) (by omega)
  refine draw_rule (A := [blk p (telC sb { x with fees := x.fees - F, int := x.int - G, prin := x.prin - P, cash := x.cash + e.amt } day next h.A h.es.length h.c) 124]) tok tdr H4 [0, 1, 2, 3, 4, 5, 6, 7, 8, 9, 10, 11, 12, 13, 14] [0, 1, 3, 7, 15, 0, 32, 0, 128, 480, 1023, 2047, 4095, 8191, 16383] rfl ?_
  refine pass_kept [blk p (telC sb { x with fees := x.fees - F, int := x.int - G, prin := x.prin - P, cash := x.cash + e.amt } day next h.A h.es.length h.c) 124] _ (fun X w hw => load_rule tok hw (v := .int .i64 x.paid) rfl ⟨rfl, rfl⟩) ?_
  refine pass_rule _ (fun w h => load_rule tok h (v := .int .i64 G) rfl ⟨rfl, rfl⟩) ?_
  refine pass_rule _ (fun w h => load_rule tok h (v := .int .i64 P) rfl ⟨rfl, rfl⟩) ?_
  refine imp_rule (fun X wx hw => store_as tok hw (telC sb { x with fees := x.fees - F, int := x.int - G, prin := x.prin - P, paid := IntKind.i64.wrap (x.paid + IntKind.i64.wrap (G + P)), cash := x.cash + e.amt } day next h.A h.es.length h.c) rfl rfl rfl rfl rfl fun w1 H1 => imp_done H1 ?_)
  refine done_rule fun w5 H5 => ?_
  rw [ep] at H5
  refine load_rule tok H5 (v := .int .i64 x.susp) rfl ?_
  refine store_as tok H5 (telC sb { x with fees := x.fees - F, int := x.int - G, prin := x.prin - P, paid := x.paid + (G + P), susp := IntKind.i64.wrap (x.susp + L), cash := x.cash + e.amt } day next h.A h.es.length h.c) rfl rfl rfl rfl rfl fun w6 H6 => ?_
  rw [el] at H6
  have H6 : Hp ⟨w, M, I⟩ [blk p (telC sb { x with fees := x.fees - F, int := x.int - G, prin := x.prin - P, paid := x.paid + (G + P), susp := x.susp + L, cash := x.cash + e.amt } day next h.A h.es.length h.c) 124, row 71 5 (.slice h.A h.es.length h.c) h.es.length (ensC h.es), blk sb (stoC S dv) 120, blk eb (evC e) 65, blk u (owC F G P) 41] [EnF h.es] w6 := Hp.keep H6
  refine draw_rule (A := [blk p (telC sb { x with fees := x.fees - F, int := x.int - G, prin := x.prin - P, paid := x.paid + (G + P), susp := x.susp + L, cash := x.cash + e.amt } day next h.A h.es.length h.c) 124, row 71 5 (.slice h.A h.es.length h.c) h.es.length (ensC h.es), blk sb (stoC S dv) 120]) tok tdr H6 [3, 4, 5, 6, 7, 8, 9, 10, 11, 12, 0, 1, 2, 13] [0, 0, 2, 0, 8, 0, 32, 96, 0, 256, 768, 2016, 4088, 8191] rfl ?_
  refine pass_rule _ (fun w h => load_rule tok h (v := owV F G P) rfl ⟨rfl, rfl⟩) ?_
  refine imp_rule (fun X wx hw => call_rule hw (fun M I _ h => pt _ M I h) fun g w1 _ H1 => imp_done (H1.frLe hw.size) ?_)
  refine pass_rule _ (fun w h => load_rule tok h (v := .int .i64 e.amt) rfl ⟨rfl, rfl⟩) ?_
  refine fresh_slice tok [.int .u8 1, .int .i64 e.amt, .int .u8 5, .int .i64 (IntKind.i64.wrap (0 - L))] rfl rfl rfl rfl rfl rfl rfl fun g2 => ?_
  refine imp_rule (fun X wx hw => append_fr (v := .slice (some ⟨g, 0, none⟩) 3 3) (b := g2) (m := 2) (c := 2) tok hw rfl rfl rfl rfl rfl rfl rfl rfl (by show (3 + 2) * 16 ≤ _; decide) (by decide) hw.size fun A2 c2 w1 H1 => imp_done H1 ?_)
  refine pass_rule _ (fun w h => load_rule tok h (v := .int .u32 e.seq) rfl ⟨rfl, rfl⟩) ?_
  refine imp_rule (fun X wx hw => call_rule (frLegsE (v := .slice A2 (3 + 2) c2) hw (ptL F G P ++ [Leg.mk 1 e.amt, Leg.mk 5 (-L)]) (Nat.le_refl _) hcs hlegs) (fun M I _ h' => post p sb S dv { x with fees := x.fees - F, int := x.int - G, prin := x.prin - P, paid := x.paid + (G + P), susp := x.susp + L, cash := x.cash + e.amt } day next h hl 4 e.seq A2 (3 + 2) c2 (ptL F G P ++ [Leg.mk 1 e.amt, Leg.mk 5 (-L)]) (by show 5 ≤ 12; decide) (fun z hz => (hlegs z hz).1) _ M I h') fun h' w1 hh' H1 => imp_done H1 ?_)
  refine done_rule fun w7 H7 => ?_
  exact Exists.intro h' (And.intro rfl (And.intro hh' (Hp.keep H7)))
end Go.Proofs.YtjlfjjgjghdokaaGreatDoor
