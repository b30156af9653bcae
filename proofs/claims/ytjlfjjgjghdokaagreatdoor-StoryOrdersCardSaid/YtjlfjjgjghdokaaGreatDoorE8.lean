/- An event: the walk of event. Printed by gen8.py. -/
import Derived.Test.YtjlfjjgjghdokaaGreatDoorE7
set_option linter.unusedVariables false
namespace Go.Proofs.YtjlfjjgjghdokaaGreatDoor
open Go Go.Proofs Go.Wk
theorem guard41 : Tryz.prog.eqGuardType Tryz.prog.depth 41 = false := by kernel_rfl
theorem held41 : Tryz.prog.stoodInHeld 41 = false := by kernel_rfl
def closeF (x : St) : St := if x.status = 1 ∧ (x.fees = 0 ∧ x.int = 0 ∧ x.prin = 0) then { x with status := 2 } else x
theorem close_no {x : St} (h : (x.fees == 0 && (x.int == 0 && (x.prin == 0 && true))) = false) : closeF x = x := by
  unfold closeF
  rw [if_neg]
  rintro ⟨_, h1, h2, h3⟩
  rw [h1, h2, h3] at h
  simp at h
theorem close_yes {x : St} (h0 : x.status = 1) (h : (x.fees == 0 && (x.int == 0 && (x.prin == 0 && true))) = true) : closeF x = { x with status := 2 } := by
  simp only [Bool.and_eq_true, beq_iff_eq, and_true] at h
  unfold closeF
  rw [if_pos ⟨h0, h.1, h.2.1, h.2.2⟩]
def eventF (x : St) (e : Ev) : St × Option (List Leg) :=
  if e.kind = 4 then (closeF (payF x e.amt), some (payL x e.amt))
  else if x.status ≠ 1 then (x, none)
  else if e.kind = 5 then (closeF { x with fees := x.fees + e.amt }, some [⟨4, e.amt⟩, ⟨7, -e.amt⟩])
  else if e.kind = 6 then (closeF { x with fees := x.fees - mn x.fees e.amt }, some [⟨7, mn x.fees e.amt⟩, ⟨4, -mn x.fees e.amt⟩])
  else if e.kind = 7 then (closeF { x with fees := 0, int := 0, prin := 0, status := 3 }, some (ptL x.fees x.int x.prin ++ [⟨8, x.fees + x.int + x.prin⟩]))
  else (closeF x, none)
def entOf (S : Sto) (day : Int) (e : Ev) : Option (List Leg) → List (Key × List Leg)
  | none => []
  | some ls => [(⟨S.loan, day, e.kind, e.seq⟩, refMade ls)]
theorem posted_map {h h' : Hd} {S : Sto} {day : Int} {e : Ev} {k : Int} {ls : List Leg} (hk : e.kind = k) (hp : posted h S day k e.seq ls h') : h'.es.map kl = h.es.map kl ++ entOf S day e (some ls) := by
  obtain ⟨y, h1, h2⟩ := hp
  rw [h1, List.map_append, entOf, hk]
  simp [h2]
theorem ent_eq {h h' : Hd} {S : Sto} {day : Int} {x y : St} {e : Ev} {o : Option (List Leg)} (eE : eventF x e = (y, o)) (hp : h'.es.map kl = h.es.map kl ++ entOf S day e o) : h'.es.map kl = h.es.map kl ++ entOf S day e (eventF x e).2 := by rw [eE]; exact hp
theorem quote (x : St) (h1 : 0 ≤ x.fees ∧ x.fees ≤ 2000000000000000000) (h2 : 0 ≤ x.int ∧ x.int ≤ 2000000000000000000) (h3 : 0 ≤ x.prin ∧ x.prin ≤ 2000000000000000000) : CB 23 [stV x] (.int .i64 (x.fees + x.int + x.prin)) := by
  intro w M I H
  have e : IntKind.i64.wrap (IntKind.i64.wrap (x.fees + x.int) + x.prin) = x.fees + x.int + x.prin := by rw [i64w (n := x.fees + x.int) (by omega) (by omega)]; exact i64w (by omega) (by omega)
  refine Exe.of_ev tok Tryz.call23 Tryz.func23 rfl rfl rfl ?_
  refine box_as H (stC x) rfl fun r w1 H1 => ?_
  refine load_rule tok H1 (v := .int .i64 x.fees) rfl ?_
  refine load_rule tok H1 (v := .int .i64 x.int) rfl ?_
  refine load_rule tok H1 (v := .int .i64 x.prin) rfl ?_
  exact Exists.intro () (And.intro (congrArg (Value.int .i64) e) (And.intro trivial (Hp.keep H1)))
theorem ne_of_beq_false {a b : Int} (h : (a == b) = false) : a ≠ b := by simpa using h
set_option maxRecDepth 20000 in
set_option maxHeartbeats 4000000 in
theorem event_ (p sb : Nat) (S : Sto) (dv : SV) (x : St) (k : Int) (hk : k ≤ 1000000000000000000) (hx : StB S k x) (day : Int) (next : Int) (h : Hd) (hl : h.es.length ≤ 1000000000) (e : Ev) (ha : 0 ≤ e.amt) (ha2 : e.amt ≤ 10000000000000) (w : World) (M I : BS)
    (H : Hp ⟨w, M, I⟩ (telA p sb S dv x day next h) [EnF h.es] w) :
    Ctr Tryz.prog 44 [.pointer (some ⟨p, 0, none⟩), evV e] w M I (fun _ : Hd => .tuple #[]) (fun h' => h'.es.map kl = h.es.map kl ++ entOf S day e (eventF x e).2) (fun h' => telA p sb S dv (eventF x e).1 day next h') (fun h' => [EnF h'.es]) := by
  have hxf := hx.fees
  have hxi := hx.int
  have hxp := hx.prin
  refine Exe.of_ev tok Tryz.call44 Tryz.func44 rfl rfl rfl ?_
  refine box_as H (evC e) rfl fun eb w1 H1 => ?_
  refine load_rule tok H1 (v := .int .u8 e.kind) rfl ?_
  refine br (fun q4 => ?_) (fun q4 => ?_)
  · have q4 : e.kind = 4 := eq_of_beq q4
    have eE : eventF x e = (closeF (payF x e.amt), some (payL x e.amt)) := by unfold eventF; rw [if_pos q4]
    refine load_rule tok H1 (v := evV e) rfl ?_
    refine call_rule H1 (fun M I _ hw => pay_ p sb S dv x k (by omega) hx day next h hl e ha ha2 _ M I hw) fun h' w2 hh' H2 => ?_
    have close0 : (payF x e.amt).status ≠ 1 → closeF (payF x e.amt) = (payF x e.amt) := fun hh => by unfold closeF; rw [if_neg (fun hc => hh hc.1)]
    have close1 : ((payF x e.amt).fees == 0 && ((payF x e.amt).int == 0 && ((payF x e.amt).prin == 0 && true))) = false → closeF (payF x e.amt) = (payF x e.amt) := close_no
    have close2 : (payF x e.amt).status = 1 → ((payF x e.amt).fees == 0 && ((payF x e.amt).int == 0 && ((payF x e.amt).prin == 0 && true))) = true → closeF (payF x e.amt) = { (payF x e.amt) with status := 2 } := close_yes
    refine load_rule tok H2 (v := .int .u8 (payF x e.amt).status) rfl ?_
    refine br (fun s1 => ?_) (fun s1 => ?_)
    · have s1 : (payF x e.amt).status = 1 := eq_of_beq s1
      refine load_rule tok H2 (v := owV (payF x e.amt).fees (payF x e.amt).int (payF x e.amt).prin) rfl ?_
      refine eq_struct tok (r := (payF x e.amt).fees == 0 && ((payF x e.amt).int == 0 && ((payF x e.amt).prin == 0 && true))) rfl guard41 held41 rfl ?_
      refine br (fun s2 => ?_) (fun s2 => ?_)
      · refine store_as tok H2 (telC sb { (payF x e.amt) with status := 2 } day next h'.A h'.es.length h'.c) rfl rfl rfl rfl rfl fun wz Hz => ?_
        refine Exists.intro h' (And.intro rfl (And.intro (ent_eq eE (posted_map q4 hh')) ?_))
        rw [eE]
        show Hp _ (telA p sb S dv (closeF (payF x e.amt)) day next h') [EnF h'.es] _
        rw [close2 s1 s2]
        exact Hp.keep Hz
      · skip
        refine Exists.intro h' (And.intro rfl (And.intro (ent_eq eE (posted_map q4 hh')) ?_))
        rw [eE]
        show Hp _ (telA p sb S dv (closeF (payF x e.amt)) day next h') [EnF h'.es] _
        rw [close1 s2]
        exact Hp.keep H2
    · have s1 : (payF x e.amt).status ≠ 1 := ne_of_beq_false s1
      refine Exists.intro h' (And.intro rfl (And.intro (ent_eq eE (posted_map q4 hh')) ?_))
      rw [eE]
      show Hp _ (telA p sb S dv (closeF (payF x e.amt)) day next h') [EnF h'.es] _
      rw [close0 s1]
      exact Hp.keep H2
  have q4 : e.kind ≠ 4 := ne_of_beq_false q4
  refine load_rule tok H1 (v := .int .u8 x.status) rfl ?_
  refine br (fun qs => ?_) (fun qs => ?_)
  · have qs : x.status ≠ 1 := by simpa using qs
    have eE : eventF x e = (x, none) := by unfold eventF; rw [if_neg q4, if_pos qs]
    refine Exists.intro h (And.intro rfl (And.intro ?_ ?_))
    · rw [eE]
      exact (List.append_nil _).symm
    · rw [eE]
      exact Hp.keep H1
  have qs : x.status = 1 := by simpa using qs
  have qs' : ¬ x.status ≠ 1 := fun hh => hh qs
  refine load_rule tok H1 (v := .int .u8 e.kind) rfl ?_
  refine br (fun q5 => ?_) (fun q5 => ?_)
  · have q5 : e.kind = 5 := eq_of_beq q5
    have eE : eventF x e = (closeF { x with fees := x.fees + e.amt }, some [⟨4, e.amt⟩, ⟨7, -e.amt⟩]) := by unfold eventF; rw [if_neg q4, if_neg qs', if_pos q5]
    have ef : IntKind.i64.wrap (x.fees + e.amt) = x.fees + e.amt := i64w (by omega) (by omega)
    refine draw_rule (A := [blk p (telC sb x day next h.A h.es.length h.c) 124]) tok tdr H1 [0, 1, 2, 3, 4, 5, 6, 7, 8, 9, 10, 11, 12, 13] [0, 1, 3, 7, 15, 31, 0, 64, 255, 511, 1023, 2047, 4095, 8191] rfl ?_
    refine pass_kept [blk p (telC sb x day next h.A h.es.length h.c) 124] _ (fun X w hw => load_rule tok hw (v := .int .i64 x.fees) rfl ⟨rfl, rfl⟩) ?_
    refine pass_rule _ (fun w h => load_rule tok h (v := .int .i64 e.amt) rfl ⟨rfl, rfl⟩) ?_
    refine imp_rule (fun X wx hw => store_as tok hw (telC sb { x with fees := IntKind.i64.wrap (x.fees + e.amt) } day next h.A h.es.length h.c) rfl rfl rfl rfl rfl fun w1 H1 => imp_done H1 ?_)
    refine done_rule fun w2 H2 => ?_
    rw [ef] at H2
    have H2 : Hp ⟨w, M, I⟩ [blk p (telC sb { x with fees := x.fees + e.amt } day next h.A h.es.length h.c) 124, row 71 5 (.slice h.A h.es.length h.c) h.es.length (ensC h.es), blk sb (stoC S dv) 120, blk eb (evC e) 65] [EnF h.es] w2 := Hp.keep H2
    refine load_rule tok H2 (v := .int .u32 e.seq) rfl ?_
    refine load_rule tok H2 (v := .int .i64 e.amt) rfl ?_
    refine call_rule H2 (fun M I _ hw => both p sb S dv { x with fees := x.fees + e.amt } day next h hl 5 e.seq 4 7 e.amt ⟨by decide, by decide⟩ ⟨by decide, by decide⟩ ⟨by omega, by omega⟩ _ M I hw) fun h' w3 hh' H3 => ?_
    have close0 : ({ x with fees := x.fees + e.amt }).status ≠ 1 → closeF ({ x with fees := x.fees + e.amt }) = ({ x with fees := x.fees + e.amt }) := fun hh => by unfold closeF; rw [if_neg (fun hc => hh hc.1)]
    have close1 : (({ x with fees := x.fees + e.amt }).fees == 0 && (({ x with fees := x.fees + e.amt }).int == 0 && (({ x with fees := x.fees + e.amt }).prin == 0 && true))) = false → closeF ({ x with fees := x.fees + e.amt }) = ({ x with fees := x.fees + e.amt }) := close_no
    have close2 : ({ x with fees := x.fees + e.amt }).status = 1 → (({ x with fees := x.fees + e.amt }).fees == 0 && (({ x with fees := x.fees + e.amt }).int == 0 && (({ x with fees := x.fees + e.amt }).prin == 0 && true))) = true → closeF ({ x with fees := x.fees + e.amt }) = { ({ x with fees := x.fees + e.amt }) with status := 2 } := close_yes
    refine load_rule tok H3 (v := .int .u8 ({ x with fees := x.fees + e.amt }).status) rfl ?_
    refine br (fun s1 => ?_) (fun s1 => ?_)
    · have s1 : ({ x with fees := x.fees + e.amt }).status = 1 := eq_of_beq s1
      refine load_rule tok H3 (v := owV ({ x with fees := x.fees + e.amt }).fees ({ x with fees := x.fees + e.amt }).int ({ x with fees := x.fees + e.amt }).prin) rfl ?_
      refine eq_struct tok (r := ({ x with fees := x.fees + e.amt }).fees == 0 && (({ x with fees := x.fees + e.amt }).int == 0 && (({ x with fees := x.fees + e.amt }).prin == 0 && true))) rfl guard41 held41 rfl ?_
      refine br (fun s2 => ?_) (fun s2 => ?_)
      · refine store_as tok H3 (telC sb { ({ x with fees := x.fees + e.amt }) with status := 2 } day next h'.A h'.es.length h'.c) rfl rfl rfl rfl rfl fun wz Hz => ?_
        refine Exists.intro h' (And.intro rfl (And.intro (ent_eq eE (posted_map q5 hh')) ?_))
        rw [eE]
        show Hp _ (telA p sb S dv (closeF ({ x with fees := x.fees + e.amt })) day next h') [EnF h'.es] _
        rw [close2 s1 s2]
        exact Hp.keep Hz
      · skip
        refine Exists.intro h' (And.intro rfl (And.intro (ent_eq eE (posted_map q5 hh')) ?_))
        rw [eE]
        show Hp _ (telA p sb S dv (closeF ({ x with fees := x.fees + e.amt })) day next h') [EnF h'.es] _
        rw [close1 s2]
        exact Hp.keep H3
    · have s1 : ({ x with fees := x.fees + e.amt }).status ≠ 1 := ne_of_beq_false s1
      refine Exists.intro h' (And.intro rfl (And.intro (ent_eq eE (posted_map q5 hh')) ?_))
      rw [eE]
      show Hp _ (telA p sb S dv (closeF ({ x with fees := x.fees + e.amt })) day next h') [EnF h'.es] _
      rw [close0 s1]
      exact Hp.keep H3
  have q5 : e.kind ≠ 5 := ne_of_beq_false q5
  refine load_rule tok H1 (v := .int .u8 e.kind) rfl ?_
  refine br (fun q6 => ?_) (fun q6 => ?_)
  · have q6 : e.kind = 6 := eq_of_beq q6
    have eE : eventF x e = (closeF { x with fees := x.fees - mn x.fees e.amt }, some [⟨7, mn x.fees e.amt⟩, ⟨4, -mn x.fees e.amt⟩]) := by unfold eventF; rw [if_neg q4, if_neg qs', if_neg q5, if_pos q6]
    have hm := mn_bd hxf.1 ha
    have ef : IntKind.i64.wrap (x.fees - mn x.fees e.amt) = x.fees - mn x.fees e.amt := i64w (by omega) (by omega)
    refine draw_rule (A := []) tok tdr H1 [0, 1, 2, 3, 4, 5, 6, 7, 8, 9] [0, 1, 3, 7, 15, 31, 0, 64, 255, 511] rfl ?_
    refine pass_rule _ (fun w hw => load_rule tok hw (v := .int .i64 x.fees) rfl ⟨rfl, rfl⟩) ?_
    refine pass_rule _ (fun w h => load_rule tok h (v := .int .i64 e.amt) rfl ⟨rfl, rfl⟩) ?_
    refine imp_rule (fun X wx hw => call_rule hw (fun M I _ h => least x.fees e.amt _ M I h) fun _ w1 _ H1 => imp_done H1 ?_)
    refine done_rule fun w2 H2 => ?_
    have H2 : Hp ⟨w, M, I⟩ [blk p (telC sb x day next h.A h.es.length h.c) 124, row 71 5 (.slice h.A h.es.length h.c) h.es.length (ensC h.es), blk sb (stoC S dv) 120, blk eb (evC e) 65] [EnF h.es] w2 := Hp.keep H2
    refine load_rule tok H2 (v := .int .i64 x.fees) rfl ?_
    refine store_as tok H2 (telC sb { x with fees := IntKind.i64.wrap (x.fees - mn x.fees e.amt) } day next h.A h.es.length h.c) rfl rfl rfl rfl rfl fun w3 H3 => ?_
    rw [ef] at H3
    refine load_rule tok H3 (v := .int .u32 e.seq) rfl ?_
    refine call_rule H3 (fun M I _ hw => both p sb S dv { x with fees := x.fees - mn x.fees e.amt } day next h hl 6 e.seq 7 4 (mn x.fees e.amt) ⟨by decide, by decide⟩ ⟨by decide, by decide⟩ ⟨by omega, by omega⟩ _ M I hw) fun h' w4 hh' H4 => ?_
    have close0 : ({ x with fees := x.fees - mn x.fees e.amt }).status ≠ 1 → closeF ({ x with fees := x.fees - mn x.fees e.amt }) = ({ x with fees := x.fees - mn x.fees e.amt }) := fun hh => by unfold closeF; rw [if_neg (fun hc => hh hc.1)]
    have close1 : (({ x with fees := x.fees - mn x.fees e.amt }).fees == 0 && (({ x with fees := x.fees - mn x.fees e.amt }).int == 0 && (({ x with fees := x.fees - mn x.fees e.amt }).prin == 0 && true))) = false → closeF ({ x with fees := x.fees - mn x.fees e.amt }) = ({ x with fees := x.fees - mn x.fees e.amt }) := close_no
    have close2 : ({ x with fees := x.fees - mn x.fees e.amt }).status = 1 → (({ x with fees := x.fees - mn x.fees e.amt }).fees == 0 && (({ x with fees := x.fees - mn x.fees e.amt }).int == 0 && (({ x with fees := x.fees - mn x.fees e.amt }).prin == 0 && true))) = true → closeF ({ x with fees := x.fees - mn x.fees e.amt }) = { ({ x with fees := x.fees - mn x.fees e.amt }) with status := 2 } := close_yes
    refine load_rule tok H4 (v := .int .u8 ({ x with fees := x.fees - mn x.fees e.amt }).status) rfl ?_
    refine br (fun s1 => ?_) (fun s1 => ?_)
    · have s1 : ({ x with fees := x.fees - mn x.fees e.amt }).status = 1 := eq_of_beq s1
      refine load_rule tok H4 (v := owV ({ x with fees := x.fees - mn x.fees e.amt }).fees ({ x with fees := x.fees - mn x.fees e.amt }).int ({ x with fees := x.fees - mn x.fees e.amt }).prin) rfl ?_
      refine eq_struct tok (r := ({ x with fees := x.fees - mn x.fees e.amt }).fees == 0 && (({ x with fees := x.fees - mn x.fees e.amt }).int == 0 && (({ x with fees := x.fees - mn x.fees e.amt }).prin == 0 && true))) rfl guard41 held41 rfl ?_
      refine br (fun s2 => ?_) (fun s2 => ?_)
      · refine store_as tok H4 (telC sb { ({ x with fees := x.fees - mn x.fees e.amt }) with status := 2 } day next h'.A h'.es.length h'.c) rfl rfl rfl rfl rfl fun wz Hz => ?_
        refine Exists.intro h' (And.intro rfl (And.intro (ent_eq eE (posted_map q6 hh')) ?_))
        rw [eE]
        show Hp _ (telA p sb S dv (closeF ({ x with fees := x.fees - mn x.fees e.amt })) day next h') [EnF h'.es] _
        rw [close2 s1 s2]
        exact Hp.keep Hz
      · skip
        refine Exists.intro h' (And.intro rfl (And.intro (ent_eq eE (posted_map q6 hh')) ?_))
        rw [eE]
        show Hp _ (telA p sb S dv (closeF ({ x with fees := x.fees - mn x.fees e.amt })) day next h') [EnF h'.es] _
        rw [close1 s2]
        exact Hp.keep H4
    · have s1 : ({ x with fees := x.fees - mn x.fees e.amt }).status ≠ 1 := ne_of_beq_false s1
      refine Exists.intro h' (And.intro rfl (And.intro (ent_eq eE (posted_map q6 hh')) ?_))
      rw [eE]
      show Hp _ (telA p sb S dv (closeF ({ x with fees := x.fees - mn x.fees e.amt })) day next h') [EnF h'.es] _
      rw [close0 s1]
      exact Hp.keep H4
  have q6 : e.kind ≠ 6 := ne_of_beq_false q6
  refine load_rule tok H1 (v := .int .u8 e.kind) rfl ?_
  refine br (fun q7 => ?_) (fun q7 => ?_)
  · have q7 : e.kind = 7 := eq_of_beq q7
    have eE : eventF x e = (closeF { x with fees := 0, int := 0, prin := 0, status := 3 }, some (ptL x.fees x.int x.prin ++ [⟨8, x.fees + x.int + x.prin⟩])) := by unfold eventF; rw [if_neg q4, if_neg qs', if_neg q5, if_neg q6, if_pos q7]
    have pt := fun w M I h => parts_ x.fees x.int x.prin (by omega) (by omega) (by omega) w M I h
    have qt := quote x (by omega) (by omega) (by omega)
    have hlegs := offLegs (f := x.fees) (i := x.int) (p := x.prin) (n := x.fees + x.int + x.prin) (by omega) (by omega) (by omega) (by omega)
    have hcs : legsC (ptL x.fees x.int x.prin) ++ [.int .u8 8, .int .i64 (x.fees + x.int + x.prin)] = legsC (ptL x.fees x.int x.prin ++ [Leg.mk 8 (x.fees + x.int + x.prin)]) := rfl
    refine draw_rule (A := [blk p (telC sb x day next h.A h.es.length h.c) 124, row 71 5 (.slice h.A h.es.length h.c) h.es.length (ensC h.es), blk sb (stoC S dv) 120]) tok tdr H1 [3, 4, 5, 6, 7, 8, 9, 10, 11, 12, 13, 14, 15, 16, 0, 1, 2, 17] [0, 0, 2, 0, 8, 24, 56, 120, 248, 0, 512, 1536, 3584, 8184, 16376, 32760, 65528, 131071] rfl ?_
    refine pass_kept [blk p (telC sb x day next h.A h.es.length h.c) 124] _ (fun X w hw => load_rule tok hw (v := owV x.fees x.int x.prin) rfl ⟨rfl, rfl⟩) ?_
    refine imp_rule (fun X wx hw => call_rule hw (fun M I _ h => pt _ M I h) fun g w1 _ H1 => imp_done (H1.frLe hw.size) ?_)
    refine pass_kept [blk p (telC sb x day next h.A h.es.length h.c) 124] _ (fun X w hw => load_rule tok hw (v := stV x) rfl ⟨rfl, rfl⟩) ?_
    refine imp_rule (fun X wx hw => call_rule hw (fun M I _ h => qt _ M I h) fun _ w1 _ H1 => imp_done H1 ?_)
    refine fresh_slice tok [.int .u8 8, .int .i64 (x.fees + x.int + x.prin)] rfl rfl rfl rfl rfl rfl rfl fun g2 => ?_
    refine imp_rule (fun X wx hw => append_fr (v := .slice (some ⟨g, 0, none⟩) 3 3) (b := g2) (m := 1) (c := 1) tok hw rfl rfl rfl rfl rfl rfl rfl rfl (by show (3 + 1) * 16 ≤ _; decide) (by decide) hw.size fun A2 c2 w1 H1 => imp_done H1 ?_)
    refine pass_rule _ (fun w h => load_rule tok h (v := .int .u32 e.seq) rfl ⟨rfl, rfl⟩) ?_
    refine imp_rule (fun X wx hw => call_rule (frLegsE (v := .slice A2 (3 + 1) c2) hw (ptL x.fees x.int x.prin ++ [Leg.mk 8 (x.fees + x.int + x.prin)]) (Nat.le_refl _) hcs hlegs) (fun M I _ h' => post p sb S dv x day next h hl 7 e.seq A2 (3 + 1) c2 (ptL x.fees x.int x.prin ++ [Leg.mk 8 (x.fees + x.int + x.prin)]) (by show 4 ≤ 12; decide) (fun z hz => (hlegs z hz).1) _ M I h') fun h' w1 hh' H1 => imp_done H1 ?_)
    refine done_rule fun w2 H2 => ?_
    refine store_as tok H2 (telC sb { x with fees := 0, int := 0, prin := 0 } day next h'.A h'.es.length h'.c) rfl rfl rfl rfl rfl fun w3 H3 => ?_
    refine store_as tok H3 (telC sb { x with fees := 0, int := 0, prin := 0, status := 3 } day next h'.A h'.es.length h'.c) rfl rfl rfl rfl rfl fun w4 H4 => ?_
    refine load_rule tok H4 (v := .int .u8 3) rfl ?_
    refine Exists.intro h' (And.intro rfl (And.intro (ent_eq eE (posted_map q7 hh')) ?_))
    have ecl : closeF { x with fees := 0, int := 0, prin := 0, status := 3 } = { x with fees := 0, int := 0, prin := 0, status := 3 } := by unfold closeF; rw [if_neg (fun hc => absurd hc.1 (by show ¬ ((3 : Int) = 1); decide))]
    rw [eE]
    show Hp _ (telA p sb S dv (closeF { x with fees := 0, int := 0, prin := 0, status := 3 }) day next h') [EnF h'.es] _
    rw [ecl]
    exact Hp.keep H4
  have q7 : e.kind ≠ 7 := ne_of_beq_false q7
  have eE : eventF x e = (closeF x, none) := by unfold eventF; rw [if_neg q4, if_neg qs', if_neg q5, if_neg q6, if_neg q7]
  have H2 : Hp ⟨w, M, I⟩ [blk p (telC sb x day next h.A h.es.length h.c) 124, row 71 5 (.slice h.A h.es.length h.c) h.es.length (ensC h.es), blk sb (stoC S dv) 120, blk eb (evC e) 65] [EnF h.es] w1 := Hp.keep H1
  have close0 : (x).status ≠ 1 → closeF (x) = (x) := fun hh => by unfold closeF; rw [if_neg (fun hc => hh hc.1)]
  have close1 : ((x).fees == 0 && ((x).int == 0 && ((x).prin == 0 && true))) = false → closeF (x) = (x) := close_no
  have close2 : (x).status = 1 → ((x).fees == 0 && ((x).int == 0 && ((x).prin == 0 && true))) = true → closeF (x) = { (x) with status := 2 } := close_yes
  refine load_rule tok H2 (v := .int .u8 (x).status) rfl ?_
  refine br (fun s1 => ?_) (fun s1 => ?_)
  · have s1 : (x).status = 1 := eq_of_beq s1
    refine load_rule tok H2 (v := owV (x).fees (x).int (x).prin) rfl ?_
    refine eq_struct tok (r := (x).fees == 0 && ((x).int == 0 && ((x).prin == 0 && true))) rfl guard41 held41 rfl ?_
    refine br (fun s2 => ?_) (fun s2 => ?_)
    · refine store_as tok H2 (telC sb { (x) with status := 2 } day next h.A h.es.length h.c) rfl rfl rfl rfl rfl fun wz Hz => ?_
      refine Exists.intro h (And.intro rfl (And.intro (ent_eq eE ((List.append_nil _).symm)) ?_))
      rw [eE]
      show Hp _ (telA p sb S dv (closeF (x)) day next h) [EnF h.es] _
      rw [close2 s1 s2]
      exact Hp.keep Hz
    · skip
      refine Exists.intro h (And.intro rfl (And.intro (ent_eq eE ((List.append_nil _).symm)) ?_))
      rw [eE]
      show Hp _ (telA p sb S dv (closeF (x)) day next h) [EnF h.es] _
      rw [close1 s2]
      exact Hp.keep H2
  · have s1 : (x).status ≠ 1 := ne_of_beq_false s1
    refine Exists.intro h (And.intro rfl (And.intro (ent_eq eE ((List.append_nil _).symm)) ?_))
    rw [eE]
    show Hp _ (telA p sb S dv (closeF (x)) day next h) [EnF h.es] _
    rw [close0 s1]
    exact Hp.keep H2
end Go.Proofs.YtjlfjjgjghdokaaGreatDoor
