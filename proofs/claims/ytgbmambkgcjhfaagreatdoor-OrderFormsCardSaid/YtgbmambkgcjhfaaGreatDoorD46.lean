/- Orders are read of bytes: plain law and walk; the document's bytes of an order. Printed by gen46.py. -/
import Derived.Test.YtgbmambkgcjhfaaGreatDoorD41
import Derived.Test.YtgbmambkgcjhfaaGreatDoorD35
set_option linter.unusedVariables false
namespace Go.Proofs.YtgbmambkgcjhfaaGreatDoor
open Go Go.Proofs Go.Wk Go.Pl
/-! A string as bytes. -/
theorem slI_bytes {w : World} {I : BS} {v : Value} {bs : List Nat} (hb : byteIn bs) (h : (Sl (Go.Wk.intR .u8) v (bs.map fun x : Nat => (x : Int))).holds w I) : (Sl byteR v bs).holds w I := by
  obtain ⟨A, c, e, h1, h2, h3, hel⟩ := h
  rw [List.length_map] at e h1
  refine ⟨A, c, e, h1, h2, h3, fun i x hx => ?_⟩
  obtain ⟨b, o, e1, e2, p, ok, hc, hf⟩ := hel i (x : Int) (by rw [List.getElem?_map, hx]; rfl)
  exact ⟨b, o, e1, e2, p, hb x (List.mem_of_getElem? hx), hc, hf⟩
theorem bytesI_bsS {bs : List Nat} (hb : byteIn bs) : bytesI (bsS bs) = bs.map fun x : Nat => (x : Int) := by
  unfold bytesI bsS
  rw [strOf_data, List.map_map]
  refine List.map_congr_left fun x hx => ?_
  have := hb x hx
  simp; omega
theorem convBn {K : Value → World → Prop} {w : World} {B : Base} {S : List Asn} {F : List Fact} (H : Hp B S F w) {bs : List Nat} (hb : byteIn bs) (hz : bs.length ≤ 9223372036854775807)
    (k : ∀ g c w', Hp B S (Sl byteR (.slice (some ⟨g, 0, none⟩) bs.length c) bs :: F) w' → K (.slice (some ⟨g, 0, none⟩) bs.length c) w') : ConvK Tryz.prog K w 9 43 (.string (bsS bs)) := by
  refine convB_rule tok H rfl rfl rfl (by rw [bsS_size]; exact hz) fun g c w' H' => ?_
  rw [bsS_size] at H' ⊢
  rw [bytesI_bsS hb] at H'
  refine k g c w' (H'.facts fun I ha f hf => ?_)
  rcases List.mem_cons.1 hf with rfl | hf
  · exact slI_bytes hb (ha _ List.mem_cons_self)
  · exact ha f (List.mem_cons_of_mem _ hf)
/-! A text is read. -/
theorem uintL_as (l : Nat) (s : SV) (t : LS) (m : Nat) (v : Int) (hv : v = (m : Int)) (hp : byteIn t.p) (w : World) (M I : BS) (H : Hp ⟨w, M, I⟩ (lensA l s t.bad) [Sl byteR (svV s) t.p] w) :
    Ctr Tryz.prog 76 [.pointer (some ⟨l, 0, none⟩), .int .u64 v] w M I (fun _ : SV => .int .u64 ((uintR m t).1 : Nat)) (fun _ => True) (fun a => lensA l a (uintR m t).2.bad) (fun a => [Sl byteR (svV a) (uintR m t).2.p]) := by
  subst hv; exact uintL l s t m hp w M I H
theorem take_as (l : Nat) (s : SV) (bad : Bool) (p : List Nat) (k : Nat) (v : Int) (hv : v = (k : Int)) (w : World) (M I : BS) (H : Hp ⟨w, M, I⟩ (lensA l s bad) [Sl byteR (svV s) p] w) :
    Ctr Tryz.prog 126 [.pointer (some ⟨l, 0, none⟩), .int .i64 v] w M I (fun a : SV × SV => .tuple #[svV a.2, .bool (takeOk p bad k)]) (fun _ => True) (fun a => lensA l a.1 (!takeOk p bad k)) (fun a => [Sl byteR (svV a.1) (if takeOk p bad k = true then p.drop k else []), Sl byteR (svV a.2) (if takeOk p bad k = true then p.take k else [])]) := by
  subst hv; exact take_ l s bad p k w M I H
def textOk (m : Nat) (t : LS) : Bool := takeOk (uintR m t).2.p (uintR m t).2.bad (uintR m t).1
def textR (m : Nat) (t : LS) : List Nat × LS :=
  (if textOk m t = true then (uintR m t).2.p.take (uintR m t).1 else [], ⟨if textOk m t = true then (uintR m t).2.p.drop (uintR m t).1 else [], !textOk m t⟩)
theorem numR_len (p : List Nat) (bad : Bool) : (numR p bad).rest.length ≤ p.length := by
  unfold numR
  cases p with
  | nil => exact Nat.le_refl _
  | cons h r =>
    simp only
    split
    · exact Nat.zero_le _
    · simp only [List.length_drop, List.length_cons]; omega
theorem uintR_len (m : Nat) (t : LS) : (uintR m t).2.p.length ≤ t.p.length := by
  unfold uintR
  split
  · exact Nat.zero_le _
  · exact numR_len _ _
theorem textR_in {m : Nat} {t : LS} (h : byteIn t.p) : byteIn (textR m t).1 ∧ byteIn (textR m t).2.p := by
  have h1 := uintR_in (m := m) (s := t) h
  unfold textR
  constructor
  · intro x hx
    simp only at hx
    split at hx
    · exact h1 x (List.mem_of_mem_take hx)
    · cases hx
  · intro x hx
    simp only at hx
    split at hx
    · exact h1 x (List.mem_of_mem_drop hx)
    · cases hx
theorem textR_len (m : Nat) (t : LS) : (textR m t).1.length ≤ t.p.length := by
  have h1 := uintR_len m t
  unfold textR
  simp only
  split
  · rw [List.length_take]; omega
  · exact Nat.zero_le _
theorem textR_numB {ts rest : List Nat} {m : Nat} (h : ts.length ≤ m) (hl : ts.length < 18446744073709551616) : textR m ⟨numB ts.length 0 ++ (ts ++ rest), false⟩ = (ts, ⟨rest, false⟩) := by
  have e := uintR_numB (n := ts.length) (m := m) (rest := ts ++ rest) hl h
  have eo : textOk m ⟨numB ts.length 0 ++ (ts ++ rest), false⟩ = true := by
    unfold textOk takeOk
    rw [e]
    simp
  unfold textR
  rw [eo, e]
  simp
theorem textR_eq {m : Nat} {t : LS} (hp : byteIn t.p) (h : (textR m t).2.bad = false) : t.bad = false ∧ t.p = numB (textR m t).1.length 0 ++ ((textR m t).1 ++ (textR m t).2.p) := by
  have eo : textOk m t = true := by
    unfold textR at h
    simpa using h
  have e2 := eo
  unfold textOk takeOk at e2
  rw [Bool.and_eq_true] at e2
  have hb : (uintR m t).2.bad = false := by simpa using e2.1
  have hl : (uintR m t).1 ≤ (uintR m t).2.p.length := Nat.le_of_ble_eq_true e2.2
  obtain ⟨h1, h2⟩ := uintR_eq hp hb
  refine ⟨h1, ?_⟩
  unfold textR
  rw [eo]
  simp only [if_true]
  rw [List.length_take, Nat.min_eq_left hl, List.take_append_drop]
  exact h2
set_option maxHeartbeats 2000000 in
set_option maxRecDepth 20000 in
theorem textL (l : Nat) (s : SV) (t : LS) (m : Nat) (hm : m ≤ 1000000) (hl : t.p.length ≤ 1000000) (hp : byteIn t.p) (w : World) (M I : BS) (H : Hp ⟨w, M, I⟩ (lensA l s t.bad) [Sl byteR (svV s) t.p] w) :
    Ctr Tryz.prog 77 [.pointer (some ⟨l, 0, none⟩), .int .i64 (m : Int)] w M I (fun _ : SV => .string (bsS (textR m t).1)) (fun _ => True) (fun a => lensA l a (textR m t).2.bad) (fun a => [Sl byteR (svV a) (textR m t).2.p]) := by
  have hk := uintR_le m t
  have hul := uintR_len m t
  have em : IntKind.u64.wrap (if (m : Int) < 0 then 0 else (m : Int)) = (m : Int) := by
    rw [if_neg (by omega)]
    exact wrap_id ⟨by show (0 : Int) ≤ _; omega, by show _ ≤ (18446744073709551615 : Int); omega⟩
  refine Exe.of_ev tok Tryz.call77 Tryz.func77 rfl rfl rfl ?_
  refine call_rule H (fun M I _ h => uintL_as l s t m _ em hp _ M I h) fun a w1 _ H1 => ?_
  obtain ⟨hn, hc, _⟩ := H1.sll (A := a.A) (n := a.n) (c := a.c)
  have en : IntKind.u64.wrap ((a.n : Nat) : Int) = (a.n : Int) := wrap_id ⟨by show (0 : Int) ≤ _; omega, by show _ ≤ (18446744073709551615 : Int); omega⟩
  have ek : IntKind.i64.wrap (((uintR m t).1 : Nat) : Int) = ((uintR m t).1 : Nat) := w64 (by omega) (by omega)
  refine load_rule tok H1 (v := .slice a.A a.n a.c) rfl ?_
  refine brd (fun q => ?_) (fun q => ?_)
  · have q : IntKind.u64.wrap ((a.n : Nat) : Int) < (((uintR m t).1 : Nat) : Int) := q
    rw [en] at q
    have eo : textOk m t = false := by
      unfold textOk takeOk
      have : Nat.ble (uintR m t).1 (uintR m t).2.p.length = false := by
        cases hq : Nat.ble (uintR m t).1 (uintR m t).2.p.length
        · rfl
        · have := Nat.le_of_ble_eq_true hq; omega
      rw [this, Bool.and_false]
    have e1 : textR m t = ([], ⟨[], true⟩) := by unfold textR; rw [eo]; rfl
    refine call_rule H1 (fun M I _ h => fail l a (uintR m t).2.bad _ M I h) fun _ w2 _ H2 => ?_
    have H3 : Hp ⟨w, M, I⟩ (lensA l ⟨none, 0, 0⟩ true) [Sl byteR (.slice none 0 0) []] w2 := Hp.keep (Hp.slNil byteR H2)
    refine Exists.intro (⟨none, 0, 0⟩ : SV) (And.intro (congrArg Value.string (by rw [e1]; rfl)) (And.intro trivial ?_))
    rw [e1]
    exact H3
  · refine call_rule H1 (fun M I _ h => take_as l a (uintR m t).2.bad (uintR m t).2.p (uintR m t).1 _ ek _ M I h) fun b w2 _ H2 => ?_
    refine convSl H2 (A := b.2.A) (n := b.2.n) (c := b.2.c) (bs := if takeOk (uintR m t).2.p (uintR m t).2.bad (uintR m t).1 = true then (uintR m t).2.p.take (uintR m t).1 else []) ?_
    have H3 : Hp ⟨w, M, I⟩ (lensA l b.1 (!takeOk (uintR m t).2.p (uintR m t).2.bad (uintR m t).1)) [Sl byteR (svV b.1) (if takeOk (uintR m t).2.p (uintR m t).2.bad (uintR m t).1 = true then (uintR m t).2.p.drop (uintR m t).1 else [])] w2 := Hp.keep H2
    exact Exists.intro b.1 (And.intro rfl (And.intro trivial H3))
/-! What bytes say. -/
@[reducible] def oq1 (bs : List Nat) : Nat × LS := uintR 4 ⟨bs, false⟩
@[reducible] def oq2 (bs : List Nat) : Nat × LS := uintR 4294967295 (oq1 bs).2
@[reducible] def ot3 (bs : List Nat) : List Nat × LS := textR bs.length (oq2 bs).2
@[reducible] def oe3 (bs : List Nat) : Nat × LS := uintR 4294967295 (oq2 bs).2
@[reducible] def oe4 (bs : List Nat) : Nat × LS := uintR 3652058 (oe3 bs).2
@[reducible] def oe5 (bs : List Nat) : Nat × LS := uintR 7 (oe4 bs).2
@[reducible] def oe6 (bs : List Nat) : Nat × LS := uintR 1000000000000 (oe5 bs).2
theorem oq1_le (bs : List Nat) : (oq1 bs).1 ≤ 4 := uintR_le _ _
theorem oq2_le (bs : List Nat) : (oq2 bs).1 ≤ 4294967295 := uintR_le _ _
theorem oe3_le (bs : List Nat) : (oe3 bs).1 ≤ 4294967295 := uintR_le _ _
theorem oe4_le (bs : List Nat) : (oe4 bs).1 ≤ 3652058 := uintR_le _ _
theorem oe5_le (bs : List Nat) : (oe5 bs).1 ≤ 7 := uintR_le _ _
theorem oe6_le (bs : List Nat) : (oe6 bs).1 ≤ 1000000000000 := uintR_le _ _
def poTm (ts : List Nat) : Tm := if (paEnd ts && tmB (paT ts)) = true then paT ts else tm0
def poOd (bs : List Nat) : Od :=
  if (oq1 bs).1 = 1 then ⟨((oq1 bs).1 : Nat), ((oq2 bs).1 : Nat), poTm (ot3 bs).1, ev0⟩
  else if (oq1 bs).1 = 2 then ⟨((oq1 bs).1 : Nat), ((oq2 bs).1 : Nat), tm0, ⟨((oe3 bs).1 : Nat), ((oe4 bs).1 : Nat), ((oe5 bs).1 : Nat), ((oe6 bs).1 : Nat)⟩⟩
  else if (oq1 bs).1 = 3 then ⟨((oq1 bs).1 : Nat), ((oq2 bs).1 : Nat), tm0, ⟨((oe3 bs).1 : Nat), 0, 0, 0⟩⟩
  else ⟨((oq1 bs).1 : Nat), ((oq2 bs).1 : Nat), tm0, ev0⟩
def poLs (bs : List Nat) : LS := if (oq1 bs).1 = 1 then (ot3 bs).2 else if (oq1 bs).1 = 2 then (oe6 bs).2 else if (oq1 bs).1 = 3 then (oe3 bs).2 else (oq2 bs).2
def poEnd (bs : List Nat) : Bool := endOk (poLs bs)
theorem tm0In2 : TmIn tm0 := ⟨⟨by decide, by decide⟩, ⟨by decide, by decide⟩, ⟨by decide, by decide⟩, ⟨by decide, by decide⟩, ⟨by decide, by decide⟩, ⟨by decide, by decide⟩, ⟨by decide, by decide⟩, ⟨by decide, by decide⟩⟩
theorem poTm_in (ts : List Nat) : TmIn (poTm ts) := by
  unfold poTm
  split
  · exact paT_in ts
  · exact tm0In2
theorem u8N {n : Nat} (h : n ≤ 255) : inK .u8 ((n : Nat) : Int) := ⟨by show (0 : Int) ≤ _; omega, by show _ ≤ (255 : Int); omega⟩
theorem u32N {n : Nat} (h : n ≤ 4294967295) : inK .u32 ((n : Nat) : Int) := ⟨by show (0 : Int) ≤ _; omega, by show _ ≤ (4294967295 : Int); omega⟩
theorem i32N {n : Nat} (h : n ≤ 2147483647) : inK .i32 ((n : Nat) : Int) := ⟨by show (-2147483648 : Int) ≤ _; omega, by show _ ≤ (2147483647 : Int); omega⟩
theorem i64N {n : Nat} (h : n ≤ 9223372036854775807) : inK .i64 ((n : Nat) : Int) := ⟨by show (-9223372036854775808 : Int) ≤ _; omega, by show _ ≤ (9223372036854775807 : Int); omega⟩
theorem ev0In2 : EvIn ev0 := ⟨⟨by decide, by decide⟩, ⟨by decide, by decide⟩, ⟨by decide, by decide⟩, ⟨by decide, by decide⟩⟩
theorem poOd_in (bs : List Nat) : OdIn (poOd bs) := by
  have h1 := oq1_le bs
  have h2 := oq2_le bs
  have h3 := oe3_le bs
  have h4 := oe4_le bs
  have h5 := oe5_le bs
  have h6 := oe6_le bs
  unfold poOd
  split
  · exact ⟨u8N (n := (oq1 bs).1) (by omega), u32N h2, poTm_in _, ev0In2⟩
  · split
    · exact ⟨u8N (n := (oq1 bs).1) (by omega), u32N h2, tm0In2, ⟨u32N h3, i32N (n := (oe4 bs).1) (by omega), u8N (n := (oe5 bs).1) (by omega), i64N (n := (oe6 bs).1) (by omega)⟩⟩
    · split
      · exact ⟨u8N (n := (oq1 bs).1) (by omega), u32N h2, tm0In2, ⟨u32N h3, ev0In2.day, ev0In2.kind, ev0In2.amt⟩⟩
      · exact ⟨u8N (n := (oq1 bs).1) (by omega), u32N h2, tm0In2, ev0In2⟩
theorem poTm_of {t : Tm} (ok : TmOk t) (hin : TmIn t) : poTm (tmBytes t) = t := by
  obtain ⟨e1, e2⟩ := pa_tm ok hin
  unfold poTm
  rw [e2, e1, tmB_iff.2 ok]; rfl
theorem natI {x : Int} (h : 0 ≤ x) : ((x.toNat : Nat) : Int) = x := by omega
theorem po_od {o : Od} (ho : odB o = true) (hin : OdIn o) : poOd (odBytes o) = o ∧ poEnd (odBytes o) = true := by
  have hk : 0 ≤ o.kind ∧ o.kind ≤ 255 := hin.kind
  have hl : 0 ≤ o.loan ∧ o.loan ≤ 4294967295 := hin.loan
  have hs : 0 ≤ o.ev.seq ∧ o.ev.seq ≤ 4294967295 := hin.ev.seq
  have hk4 : o.kind ≤ 4 := by rcases od_cases ho with ⟨k, _⟩ | ⟨k, _⟩ | ⟨k, _⟩ | ⟨k, _⟩ <;> omega
  have hb : odBytes o = numB o.kind.toNat 0 ++ (numB o.loan.toNat 0 ++ odTail o) := by unfold odBytes; rw [List.append_assoc]
  have e1 : oq1 (odBytes o) = (o.kind.toNat, ⟨numB o.loan.toNat 0 ++ odTail o, false⟩) := by
    unfold oq1
    rw [hb]
    exact uintR_numB (by omega) (by omega)
  have e2 : oq2 (odBytes o) = (o.loan.toNat, ⟨odTail o, false⟩) := by
    unfold oq2
    rw [e1]
    exact uintR_numB (by omega) (by omega)
  rcases od_cases ho with ⟨k, ht, hv⟩ | ⟨k, he, hv⟩ | ⟨k, hv, he⟩ | ⟨k, hv, he, hz⟩
  · have ok := tmB_iff.1 ht
    have hf := tm_fit ok hin.tm
    have hlen := tmBytes_len hf
    have htl : odTail o = numB (tmBytes o.tm).length 0 ++ (tmBytes o.tm ++ []) := by unfold odTail; rw [if_pos k, List.append_nil]
    have hle : (tmBytes o.tm).length ≤ (odBytes o).length := by rw [hb, htl]; simp only [List.length_append]; omega
    have e3 : ot3 (odBytes o) = (tmBytes o.tm, ⟨[], false⟩) := by
      unfold ot3
      rw [e2, htl]
      exact textR_numB hle (by omega)
    have k1 : (oq1 (odBytes o)).1 = 1 := by rw [e1]; show o.kind.toNat = 1; omega
    constructor
    · unfold poOd
      rw [if_pos k1, e1, e2, e3]
      exact od_ext (natI hk.1) (natI hl.1) (poTm_of ok hin.tm) hv.symm
    · unfold poEnd poLs
      rw [if_pos k1, e3]; rfl
  · have ok := evB_iff.1 he
    have h1 := ok.kind
    have h2 := ok.day
    have h3 := ok.amt
    have htl : odTail o = numB o.ev.seq.toNat 0 ++ (numB o.ev.day.toNat 0 ++ (numB o.ev.kind.toNat 0 ++ (numB o.ev.amt.toNat 0 ++ []))) := by unfold odTail; rw [if_neg (by omega), if_pos k]; simp only [List.append_assoc, List.append_nil]
    have e3 : oe3 (odBytes o) = (o.ev.seq.toNat, ⟨numB o.ev.day.toNat 0 ++ (numB o.ev.kind.toNat 0 ++ (numB o.ev.amt.toNat 0 ++ [])), false⟩) := by
      unfold oe3
      rw [e2, htl]
      exact uintR_numB (by omega) (by omega)
    have e4 : oe4 (odBytes o) = (o.ev.day.toNat, ⟨numB o.ev.kind.toNat 0 ++ (numB o.ev.amt.toNat 0 ++ []), false⟩) := by
      unfold oe4
      rw [e3]
      exact uintR_numB (by omega) (by omega)
    have e5 : oe5 (odBytes o) = (o.ev.kind.toNat, ⟨numB o.ev.amt.toNat 0 ++ [], false⟩) := by
      unfold oe5
      rw [e4]
      exact uintR_numB (by omega) (by omega)
    have e6 : oe6 (odBytes o) = (o.ev.amt.toNat, ⟨[], false⟩) := by
      unfold oe6
      rw [e5]
      exact uintR_numB (by omega) (by omega)
    have k1 : (oq1 (odBytes o)).1 = 2 := by rw [e1]; show o.kind.toNat = 2; omega
    constructor
    · unfold poOd
      rw [if_neg (by omega), if_pos k1, e1, e2, e3, e4, e5, e6]
      exact od_ext (natI hk.1) (natI hl.1) hv.symm (ev_ext (natI hs.1) (natI h2.1) (natI (by omega)) (natI h3.1))
    · unfold poEnd poLs
      rw [if_neg (by omega), if_pos k1, e6]; rfl
  · have htl : odTail o = numB o.ev.seq.toNat 0 ++ [] := by unfold odTail; rw [if_neg (by omega), if_neg (by omega), if_pos k, List.append_nil]
    have e3 : oe3 (odBytes o) = (o.ev.seq.toNat, ⟨[], false⟩) := by
      unfold oe3
      rw [e2, htl]
      exact uintR_numB (by omega) (by omega)
    have k1 : (oq1 (odBytes o)).1 = 3 := by rw [e1]; show o.kind.toNat = 3; omega
    constructor
    · unfold poOd
      rw [if_neg (by omega), if_neg (by omega), if_pos k1, e1, e2, e3]
      refine od_ext (natI hk.1) (natI hl.1) hv.symm ?_
      rw [he]
      exact ev_ext (natI hs.1) rfl rfl rfl
    · unfold poEnd poLs
      rw [if_neg (by omega), if_neg (by omega), if_pos k1, e3]; rfl
  · have htl : odTail o = [] := by unfold odTail; rw [if_neg (by omega), if_neg (by omega), if_neg (by omega)]
    have k1 : (oq1 (odBytes o)).1 = 4 := by rw [e1]; show o.kind.toNat = 4; omega
    constructor
    · unfold poOd
      rw [if_neg (by omega), if_neg (by omega), if_neg (by omega), e1, e2]
      exact od_ext (natI hk.1) (natI hl.1) hv.symm he.symm
    · unfold poEnd poLs
      rw [if_neg (by omega), if_neg (by omega), if_neg (by omega), e2, htl]; rfl
theorem endOk_iff {t : LS} (h : endOk t = true) : t.bad = false ∧ t.p = [] := by
  unfold endOk at h
  rw [Bool.and_eq_true] at h
  exact ⟨by simpa using h.1, List.length_eq_zero_iff.1 (by simpa using h.2)⟩
theorem po_eq {bs : List Nat} (hb : byteIn bs) (h : poEnd bs = true) (ho : odB (poOd bs) = true) : bs = odBytes (poOd bs) := by
  have b1 : byteIn (oq1 bs).2.p := uintR_in (s := ⟨bs, false⟩) hb
  have b2 : byteIn (oq2 bs).2.p := uintR_in b1
  have h12 : (oq2 bs).2.bad = false → bs = numB (oq1 bs).1 0 ++ (numB (oq2 bs).1 0 ++ (oq2 bs).2.p) := fun e => by
    obtain ⟨f1, f2⟩ := uintR_eq b1 e
    obtain ⟨_, f3⟩ := uintR_eq (t := ⟨bs, false⟩) hb f1
    have f3 : bs = numB (oq1 bs).1 0 ++ (oq1 bs).2.p := f3
    rw [← f2]; exact f3
  unfold poEnd poLs at h
  unfold poOd at ho ⊢
  split at h
  · rename_i k
    rw [if_pos k] at ho ⊢
    obtain ⟨hbad, hp⟩ := endOk_iff h
    obtain ⟨g1, g2⟩ := textR_eq b2 hbad
    have ein := (textR_in (m := bs.length) b2).1
    have e := h12 g1
    rcases od_cases ho with ⟨_, ht, _⟩ | ⟨k', _⟩ | ⟨k', _⟩ | ⟨k', _⟩
    · have ht : tmB (poTm (ot3 bs).1) = true := ht
      have hpa : (paEnd (ot3 bs).1 && tmB (paT (ot3 bs).1)) = true := by
        cases hq : (paEnd (ot3 bs).1 && tmB (paT (ot3 bs).1)) with
        | true => rfl
        | false =>
          unfold poTm at ht
          rw [hq] at ht
          rw [if_neg (by simp)] at ht
          rcases (tmB_iff.1 ht).kind with h2 | h2 <;> exact absurd h2 (by decide)
      have htm : poTm (ot3 bs).1 = paT (ot3 bs).1 := by unfold poTm; rw [if_pos hpa]
      have hpe : paEnd (ot3 bs).1 = true := (Bool.and_eq_true _ _ ▸ hpa : _ ∧ _).1
      have hts := pa_eq ein hpe
      unfold odBytes odTail
      rw [if_pos (by show (((oq1 bs).1 : Nat) : Int) = 1; omega)]
      show bs = numB (((oq1 bs).1 : Nat) : Int).toNat 0 ++ numB (((oq2 bs).1 : Nat) : Int).toNat 0 ++ (numB (tmBytes (poTm (ot3 bs).1)).length 0 ++ tmBytes (poTm (ot3 bs).1))
      rw [htm, ← hts, Int.toNat_natCast, Int.toNat_natCast, List.append_assoc]
      rw [hp, List.append_nil] at g2
      rw [← g2]; exact e
    all_goals (have k' : (((oq1 bs).1 : Nat) : Int) = _ := k'; omega)
  · rename_i k
    rw [if_neg k] at ho ⊢
    split at h
    · rename_i k2
      rw [if_pos k2] at ho ⊢
      obtain ⟨hbad, hp⟩ := endOk_iff h
      have b3 : byteIn (oe3 bs).2.p := uintR_in b2
      have b4 : byteIn (oe4 bs).2.p := uintR_in b3
      have b5 : byteIn (oe5 bs).2.p := uintR_in b4
      obtain ⟨g5, c6⟩ := uintR_eq b5 hbad
      obtain ⟨g4, c5⟩ := uintR_eq b4 g5
      obtain ⟨g3, c4⟩ := uintR_eq b3 g4
      obtain ⟨g2, c3⟩ := uintR_eq b2 g3
      have e := h12 g2
      have c3 : (oq2 bs).2.p = numB (oe3 bs).1 0 ++ (oe3 bs).2.p := c3
      have c4 : (oe3 bs).2.p = numB (oe4 bs).1 0 ++ (oe4 bs).2.p := c4
      have c5 : (oe4 bs).2.p = numB (oe5 bs).1 0 ++ (oe5 bs).2.p := c5
      have c6 : (oe5 bs).2.p = numB (oe6 bs).1 0 ++ (oe6 bs).2.p := c6
      unfold odBytes odTail
      rw [if_neg (by show ¬ (((oq1 bs).1 : Nat) : Int) = 1; omega), if_pos (by show (((oq1 bs).1 : Nat) : Int) = 2; omega)]
      show bs = numB (((oq1 bs).1 : Nat) : Int).toNat 0 ++ numB (((oq2 bs).1 : Nat) : Int).toNat 0 ++ (numB (((oe3 bs).1 : Nat) : Int).toNat 0 ++ numB (((oe4 bs).1 : Nat) : Int).toNat 0 ++ numB (((oe5 bs).1 : Nat) : Int).toNat 0 ++ numB (((oe6 bs).1 : Nat) : Int).toNat 0)
      simp only [Int.toNat_natCast, List.append_assoc]
      have hp : (oe6 bs).2.p = [] := hp
      rw [hp, List.append_nil] at c6
      rw [← c6, ← c5, ← c4, ← c3]; exact e
    · rename_i k2
      rw [if_neg k2] at ho ⊢
      split at h
      · rename_i k3
        rw [if_pos k3] at ho ⊢
        obtain ⟨hbad, hp⟩ := endOk_iff h
        obtain ⟨g2, c3⟩ := uintR_eq b2 hbad
        have e := h12 g2
        have c3 : (oq2 bs).2.p = numB (oe3 bs).1 0 ++ (oe3 bs).2.p := c3
        unfold odBytes odTail
        rw [if_neg (by show ¬ (((oq1 bs).1 : Nat) : Int) = 1; omega), if_neg (by show ¬ (((oq1 bs).1 : Nat) : Int) = 2; omega), if_pos (by show (((oq1 bs).1 : Nat) : Int) = 3; omega)]
        show bs = numB (((oq1 bs).1 : Nat) : Int).toNat 0 ++ numB (((oq2 bs).1 : Nat) : Int).toNat 0 ++ numB (((oe3 bs).1 : Nat) : Int).toNat 0
        simp only [Int.toNat_natCast, List.append_assoc]
        have hp : (oe3 bs).2.p = [] := hp
        rw [hp, List.append_nil] at c3
        rw [← c3]; exact e
      · rename_i k3
        rw [if_neg k3] at ho ⊢
        obtain ⟨hbad, hp⟩ := endOk_iff h
        have e := h12 hbad
        have hp : (oq2 bs).2.p = [] := hp
        unfold odBytes odTail
        rw [if_neg (by show ¬ (((oq1 bs).1 : Nat) : Int) = 1; omega), if_neg (by show ¬ (((oq1 bs).1 : Nat) : Int) = 2; omega), if_neg (by show ¬ (((oq1 bs).1 : Nat) : Int) = 3; omega)]
        show bs = numB (((oq1 bs).1 : Nat) : Int).toNat 0 ++ numB (((oq2 bs).1 : Nat) : Int).toNat 0 ++ []
        simp only [Int.toNat_natCast, List.append_assoc]
        rw [hp] at e
        exact e
/-- What a reader of bytes says. -/
def OdPa (bs : List Nat) (a : Od × Er) : Prop :=
  (a.2 = none ∧ a.1 = poOd bs ∧ poEnd bs = true ∧ odB (poOd bs) = true) ∨ (a.2 = erN 2 ∧ a.1 = od0 ∧ (poEnd bs && odB (poOd bs)) = false)
@[reducible] def opV (a : Od × Er) : Value := .tuple #[odV a.1, erV a.2]
set_option maxHeartbeats 8000000 in
set_option maxRecDepth 20000 in
theorem odParse (A : Option Addr) (n c : Nat) (bs : List Nat) (hn : bs.length ≤ 1000000) (hp : byteIn bs) (w : World) (M I : BS) (H : Hp ⟨w, M, I⟩ [] [Sl byteR (.slice A n c) bs] w) :
    Ctr Tryz.prog 32 [.slice A n c] w M I opV (OdPa bs) (fun _ => []) (fun _ => []) := by
  obtain ⟨hnn, _, _⟩ := H.sll (A := A) (n := n) (c := c)
  subst hnn
  have l1 := oq1_le bs
  have l2 := oq2_le bs
  have l3 := oe3_le bs
  have l4 := oe4_le bs
  have l5 := oe5_le bs
  have l6 := oe6_le bs
  have b1 : byteIn (oq1 bs).2.p := uintR_in (s := ⟨bs, false⟩) hp
  have b2 : byteIn (oq2 bs).2.p := uintR_in b1
  have b3 : byteIn (oe3 bs).2.p := uintR_in b2
  have b4 : byteIn (oe4 bs).2.p := uintR_in b3
  have b5 : byteIn (oe5 bs).2.p := uintR_in b4
  have n1 : (oq1 bs).2.p.length ≤ bs.length := uintR_len 4 ⟨bs, false⟩
  have n2 : (oq2 bs).2.p.length ≤ (oq1 bs).2.p.length := uintR_len _ _
  have n3 : (ot3 bs).1.length ≤ (oq2 bs).2.p.length := textR_len _ _
  have bt : byteIn (ot3 bs).1 := (textR_in (m := bs.length) b2).1
  have hz3 : (ot3 bs).1.length ≤ 9223372036854775807 := by omega
  have hz4 : (ot3 bs).1.length ≤ 1000000 := by omega
  have e1 : IntKind.u8.wrap ((oq1 bs).1 : Nat) = ((oq1 bs).1 : Nat) := wrap_id (u8N (n := (oq1 bs).1) (by omega))
  have e2 : IntKind.u32.wrap ((oq2 bs).1 : Nat) = ((oq2 bs).1 : Nat) := wrap_id (u32N l2)
  have e3 : IntKind.u32.wrap ((oe3 bs).1 : Nat) = ((oe3 bs).1 : Nat) := wrap_id (u32N l3)
  have e4 : IntKind.i32.wrap ((oe4 bs).1 : Nat) = ((oe4 bs).1 : Nat) := wrap_id (i32N (n := (oe4 bs).1) (by omega))
  have e5 : IntKind.u8.wrap ((oe5 bs).1 : Nat) = ((oe5 bs).1 : Nat) := wrap_id (u8N (n := (oe5 bs).1) (by omega))
  have e6 : IntKind.i64.wrap ((oe6 bs).1 : Nat) = ((oe6 bs).1 : Nat) := wrap_id (i64N (n := (oe6 bs).1) (by omega))
  refine Exe.of_ev tok Tryz.call32 Tryz.func32 rfl rfl rfl ?_
  refine alloc_as tok H (odC od0) rfl rfl rfl fun rr w1 H1 => ?_
  refine call_rule H1 (fun M I h0 h => look A bs.length c bs hn _ M I h) fun a w2 _ H2 => ?_
  refine call_rule H2 (fun M I _ h => uintL a.1 a.2 ⟨bs, false⟩ 4 hp _ M I h) fun s1 w3 _ H3 => ?_
  refine call_rule H3 (fun M I _ h => uintL a.1 s1 (oq1 bs).2 4294967295 b1 _ M I h) fun s2 w4 _ H4 => ?_
  refine alloc_as tok H4 (odC od0) rfl rfl rfl fun b w5 H5 => ?_
  refine store_as tok H5 (odC ⟨IntKind.u8.wrap ((oq1 bs).1 : Nat), IntKind.u32.wrap ((oq2 bs).1 : Nat), tm0, ev0⟩) rfl rfl rfl rfl rfl fun w6 H6 => ?_
  rw [e1, e2] at H6
  have H6 : Hp ⟨w, M, I⟩ [blk b (odC ⟨((oq1 bs).1 : Nat), ((oq2 bs).1 : Nat), tm0, ev0⟩) 32, blk a.1 [.slice s2.A s2.n s2.c, .bool (oq2 bs).2.bad] 202, blk rr (odC od0) 32] [Sl byteR (svV s2) (oq2 bs).2.p, Sl byteR (.slice A bs.length c) bs] w6 := H6.keep
  refine load_rule tok H6 (v := .int .u8 ((oq1 bs).1 : Nat)) rfl ?_
  refine Or.elim (show (oq1 bs).1 = 1 ∨ (oq1 bs).1 = 2 ∨ (oq1 bs).1 = 3 ∨ ((oq1 bs).1 ≠ 1 ∧ (oq1 bs).1 ≠ 2 ∧ (oq1 bs).1 ≠ 3) by omega) (fun k => ?_) (fun c => Or.elim c (fun k => ?_) (fun c => Or.elim c (fun k => ?_) (fun k => ?_)))
  · skip
    refine br (fun _ => ?_) (fun q => absurd (show ((((oq1 bs).1 : Nat) : Int) == 1) = false from q) (by rw [k]; decide))
    refine call_rule H6 (fun M I _ h => textL a.1 s2 (oq2 bs).2 bs.length hn (by omega) b2 _ M I h) fun s3 w7 _ H7 => ?_
    refine convBn H7 (bs := (ot3 bs).1) bt hz3 fun g cc w8 H8 => ?_
    refine call_rule H8 (fun M I _ h => tmParse (some ⟨g, 0, none⟩) (ot3 bs).1.length cc (ot3 bs).1 hz4 bt _ M I h) fun t w9 ht H9 => ?_
    have et : t.1 = poTm (ot3 bs).1 := by
      unfold poTm
      rcases ht with ⟨_, f2, f3, f4⟩ | ⟨_, f2, f3⟩
      · rw [f3, f4, f2]; rfl
      · rw [f3, f2]; rfl
    refine store_as tok H9 (odC ⟨((oq1 bs).1 : Nat), ((oq2 bs).1 : Nat), t.1, ev0⟩) rfl rfl rfl rfl rfl fun wk Hk => ?_
    rw [et] at Hk
    have hO : poOd bs = (⟨((oq1 bs).1 : Nat), ((oq2 bs).1 : Nat), poTm (ot3 bs).1, ev0⟩ : Od) := by unfold poOd; rw [if_pos k]
    have hE : poEnd bs = endOk (ot3 bs).2 := by unfold poEnd poLs; rw [if_pos k]
    have HX : Hp ⟨w, M, I⟩ [blk a.1 [.slice s3.A s3.n s3.c, .bool (ot3 bs).2.bad] 202, blk b (odC (⟨((oq1 bs).1 : Nat), ((oq2 bs).1 : Nat), poTm (ot3 bs).1, ev0⟩ : Od)) 32, blk rr (odC od0) 32] [Sl byteR (svV s3) (ot3 bs).2.p] _ := Hk.keep
    refine Or.elim (show endOk (ot3 bs).2 = true ∨ endOk (ot3 bs).2 = false by cases endOk (ot3 bs).2 <;> simp) (fun he => ?_) (fun he => ?_)
    · have ee : (if endOk (ot3 bs).2 = true then Value.nilIface else .iface 55 (.int .i64 2)) = .nilIface := if_pos he
      refine call_rule HX (fun M I _ h => ee ▸ endL a.1 s3 (ot3 bs).2 _ M I h) fun _ wa _ Ha => ?_
      refine load_rule tok Ha (v := odV (⟨((oq1 bs).1 : Nat), ((oq2 bs).1 : Nat), poTm (ot3 bs).1, ev0⟩ : Od)) rfl ?_
      refine Or.elim (show odB (⟨((oq1 bs).1 : Nat), ((oq2 bs).1 : Nat), poTm (ot3 bs).1, ev0⟩ : Od) = true ∨ odB (⟨((oq1 bs).1 : Nat), ((oq2 bs).1 : Nat), poTm (ot3 bs).1, ev0⟩ : Od) = false by cases odB (⟨((oq1 bs).1 : Nat), ((oq2 bs).1 : Nat), poTm (ot3 bs).1, ev0⟩ : Od) <;> simp) (fun hb => ?_) (fun hb => ?_)
      · refine call_rule Ha (fun M I _ h => odRightT hb _ M I h) fun _ wb _ Hb => ?_
        refine load_rule tok Hb (v := odV (⟨((oq1 bs).1 : Nat), ((oq2 bs).1 : Nat), poTm (ot3 bs).1, ev0⟩ : Od)) rfl ?_
        refine store_as tok Hb (odC (⟨((oq1 bs).1 : Nat), ((oq2 bs).1 : Nat), poTm (ot3 bs).1, ev0⟩ : Od)) rfl rfl rfl rfl rfl fun wc Hc => ?_
        refine Exists.intro ⟨rr, 0, none⟩ (Exists.intro (odV (⟨((oq1 bs).1 : Nat), ((oq2 bs).1 : Nat), poTm (ot3 bs).1, ev0⟩ : Od)) (And.intro rfl (And.intro (Hp.ld (T := tb) tok Hc rfl) ?_)))
        exact Exists.intro ((⟨((oq1 bs).1 : Nat), ((oq2 bs).1 : Nat), poTm (ot3 bs).1, ev0⟩ : Od), none) (And.intro rfl (And.intro (.inl ⟨rfl, hO.symm, hE.trans he, hO ▸ hb⟩) (Hp.keep Hc)))
      · refine call_rule Ha (fun M I _ h => odRightF hb _ M I h) fun _ wb _ Hb => ?_
        refine store_as tok Hb (odC od0) rfl rfl rfl rfl rfl fun wc Hc => ?_
        refine Exists.intro ⟨rr, 0, none⟩ (Exists.intro (odV od0) (And.intro rfl (And.intro (Hp.ld (T := tb) tok Hc rfl) ?_)))
        exact Exists.intro (od0, erN 2) (And.intro rfl (And.intro (.inr ⟨rfl, rfl, by rw [hO, hb, Bool.and_false]⟩) (Hp.keep Hc)))
    · have ee : (if endOk (ot3 bs).2 = true then Value.nilIface else .iface 55 (.int .i64 2)) = .iface 55 (.int .i64 2) := if_neg (by rw [he]; simp)
      refine call_rule HX (fun M I _ h => ee ▸ endL a.1 s3 (ot3 bs).2 _ M I h) fun _ wa _ Ha => ?_
      refine store_as tok Ha (odC od0) rfl rfl rfl rfl rfl fun wc Hc => ?_
      refine Exists.intro ⟨rr, 0, none⟩ (Exists.intro (odV od0) (And.intro rfl (And.intro (Hp.ld (T := tb) tok Hc rfl) ?_)))
      exact Exists.intro (od0, erN 2) (And.intro rfl (And.intro (.inr ⟨rfl, rfl, by rw [hE, he, Bool.false_and]⟩) (Hp.keep Hc)))
  · skip
    refine br (fun q => absurd (show ((((oq1 bs).1 : Nat) : Int) == 1) = true from q) (by simp; omega)) (fun _ => ?_)
    refine br (fun _ => ?_) (fun q => absurd (show ((((oq1 bs).1 : Nat) : Int) == 2) = false from q) (by rw [k]; decide))
    refine call_rule H6 (fun M I _ h => uintL a.1 s2 (oq2 bs).2 4294967295 b2 _ M I h) fun s3 w7 _ H7 => ?_
    refine call_rule H7 (fun M I _ h => uintL a.1 s3 (oe3 bs).2 3652058 b3 _ M I h) fun s4 w8 _ H8 => ?_
    refine store_as tok H8 (odC ⟨((oq1 bs).1 : Nat), ((oq2 bs).1 : Nat), tm0, ⟨IntKind.u32.wrap ((oe3 bs).1 : Nat), 0, 0, 0⟩⟩) rfl rfl rfl rfl rfl fun w9 H9 => ?_
    refine store_as tok H9 (odC ⟨((oq1 bs).1 : Nat), ((oq2 bs).1 : Nat), tm0, ⟨IntKind.u32.wrap ((oe3 bs).1 : Nat), IntKind.i32.wrap ((oe4 bs).1 : Nat), 0, 0⟩⟩) rfl rfl rfl rfl rfl fun w10 H10 => ?_
    refine call_rule H10 (fun M I _ h => uintL a.1 s4 (oe4 bs).2 7 b4 _ M I h) fun s5 w11 _ H11 => ?_
    refine call_rule H11 (fun M I _ h => uintL a.1 s5 (oe5 bs).2 1000000000000 b5 _ M I h) fun s6 w12 _ H12 => ?_
    refine store_as tok H12 (odC ⟨((oq1 bs).1 : Nat), ((oq2 bs).1 : Nat), tm0, ⟨IntKind.u32.wrap ((oe3 bs).1 : Nat), IntKind.i32.wrap ((oe4 bs).1 : Nat), IntKind.u8.wrap ((oe5 bs).1 : Nat), 0⟩⟩) rfl rfl rfl rfl rfl fun w13 H13 => ?_
    refine store_as tok H13 (odC ⟨((oq1 bs).1 : Nat), ((oq2 bs).1 : Nat), tm0, ⟨IntKind.u32.wrap ((oe3 bs).1 : Nat), IntKind.i32.wrap ((oe4 bs).1 : Nat), IntKind.u8.wrap ((oe5 bs).1 : Nat), IntKind.i64.wrap ((oe6 bs).1 : Nat)⟩⟩) rfl rfl rfl rfl rfl fun wk Hk => ?_
    rw [e3, e4, e5, e6] at Hk
    have hO : poOd bs = (⟨((oq1 bs).1 : Nat), ((oq2 bs).1 : Nat), tm0, ⟨((oe3 bs).1 : Nat), ((oe4 bs).1 : Nat), ((oe5 bs).1 : Nat), ((oe6 bs).1 : Nat)⟩⟩ : Od) := by unfold poOd; rw [if_neg (by omega), if_pos k]
    have hE : poEnd bs = endOk (oe6 bs).2 := by unfold poEnd poLs; rw [if_neg (by omega), if_pos k]
    have HX : Hp ⟨w, M, I⟩ [blk a.1 [.slice s6.A s6.n s6.c, .bool (oe6 bs).2.bad] 202, blk b (odC (⟨((oq1 bs).1 : Nat), ((oq2 bs).1 : Nat), tm0, ⟨((oe3 bs).1 : Nat), ((oe4 bs).1 : Nat), ((oe5 bs).1 : Nat), ((oe6 bs).1 : Nat)⟩⟩ : Od)) 32, blk rr (odC od0) 32] [Sl byteR (svV s6) (oe6 bs).2.p] _ := Hk.keep
    refine Or.elim (show endOk (oe6 bs).2 = true ∨ endOk (oe6 bs).2 = false by cases endOk (oe6 bs).2 <;> simp) (fun he => ?_) (fun he => ?_)
    · have ee : (if endOk (oe6 bs).2 = true then Value.nilIface else .iface 55 (.int .i64 2)) = .nilIface := if_pos he
      refine call_rule HX (fun M I _ h => ee ▸ endL a.1 s6 (oe6 bs).2 _ M I h) fun _ wa _ Ha => ?_
      refine load_rule tok Ha (v := odV (⟨((oq1 bs).1 : Nat), ((oq2 bs).1 : Nat), tm0, ⟨((oe3 bs).1 : Nat), ((oe4 bs).1 : Nat), ((oe5 bs).1 : Nat), ((oe6 bs).1 : Nat)⟩⟩ : Od)) rfl ?_
      refine Or.elim (show odB (⟨((oq1 bs).1 : Nat), ((oq2 bs).1 : Nat), tm0, ⟨((oe3 bs).1 : Nat), ((oe4 bs).1 : Nat), ((oe5 bs).1 : Nat), ((oe6 bs).1 : Nat)⟩⟩ : Od) = true ∨ odB (⟨((oq1 bs).1 : Nat), ((oq2 bs).1 : Nat), tm0, ⟨((oe3 bs).1 : Nat), ((oe4 bs).1 : Nat), ((oe5 bs).1 : Nat), ((oe6 bs).1 : Nat)⟩⟩ : Od) = false by cases odB (⟨((oq1 bs).1 : Nat), ((oq2 bs).1 : Nat), tm0, ⟨((oe3 bs).1 : Nat), ((oe4 bs).1 : Nat), ((oe5 bs).1 : Nat), ((oe6 bs).1 : Nat)⟩⟩ : Od) <;> simp) (fun hb => ?_) (fun hb => ?_)
      · refine call_rule Ha (fun M I _ h => odRightT hb _ M I h) fun _ wb _ Hb => ?_
        refine load_rule tok Hb (v := odV (⟨((oq1 bs).1 : Nat), ((oq2 bs).1 : Nat), tm0, ⟨((oe3 bs).1 : Nat), ((oe4 bs).1 : Nat), ((oe5 bs).1 : Nat), ((oe6 bs).1 : Nat)⟩⟩ : Od)) rfl ?_
        refine store_as tok Hb (odC (⟨((oq1 bs).1 : Nat), ((oq2 bs).1 : Nat), tm0, ⟨((oe3 bs).1 : Nat), ((oe4 bs).1 : Nat), ((oe5 bs).1 : Nat), ((oe6 bs).1 : Nat)⟩⟩ : Od)) rfl rfl rfl rfl rfl fun wc Hc => ?_
        refine Exists.intro ⟨rr, 0, none⟩ (Exists.intro (odV (⟨((oq1 bs).1 : Nat), ((oq2 bs).1 : Nat), tm0, ⟨((oe3 bs).1 : Nat), ((oe4 bs).1 : Nat), ((oe5 bs).1 : Nat), ((oe6 bs).1 : Nat)⟩⟩ : Od)) (And.intro rfl (And.intro (Hp.ld (T := tb) tok Hc rfl) ?_)))
        exact Exists.intro ((⟨((oq1 bs).1 : Nat), ((oq2 bs).1 : Nat), tm0, ⟨((oe3 bs).1 : Nat), ((oe4 bs).1 : Nat), ((oe5 bs).1 : Nat), ((oe6 bs).1 : Nat)⟩⟩ : Od), none) (And.intro rfl (And.intro (.inl ⟨rfl, hO.symm, hE.trans he, hO ▸ hb⟩) (Hp.keep Hc)))
      · refine call_rule Ha (fun M I _ h => odRightF hb _ M I h) fun _ wb _ Hb => ?_
        refine store_as tok Hb (odC od0) rfl rfl rfl rfl rfl fun wc Hc => ?_
        refine Exists.intro ⟨rr, 0, none⟩ (Exists.intro (odV od0) (And.intro rfl (And.intro (Hp.ld (T := tb) tok Hc rfl) ?_)))
        exact Exists.intro (od0, erN 2) (And.intro rfl (And.intro (.inr ⟨rfl, rfl, by rw [hO, hb, Bool.and_false]⟩) (Hp.keep Hc)))
    · have ee : (if endOk (oe6 bs).2 = true then Value.nilIface else .iface 55 (.int .i64 2)) = .iface 55 (.int .i64 2) := if_neg (by rw [he]; simp)
      refine call_rule HX (fun M I _ h => ee ▸ endL a.1 s6 (oe6 bs).2 _ M I h) fun _ wa _ Ha => ?_
      refine store_as tok Ha (odC od0) rfl rfl rfl rfl rfl fun wc Hc => ?_
      refine Exists.intro ⟨rr, 0, none⟩ (Exists.intro (odV od0) (And.intro rfl (And.intro (Hp.ld (T := tb) tok Hc rfl) ?_)))
      exact Exists.intro (od0, erN 2) (And.intro rfl (And.intro (.inr ⟨rfl, rfl, by rw [hE, he, Bool.false_and]⟩) (Hp.keep Hc)))
  · skip
    refine br (fun q => absurd (show ((((oq1 bs).1 : Nat) : Int) == 1) = true from q) (by simp; omega)) (fun _ => ?_)
    refine br (fun q => absurd (show ((((oq1 bs).1 : Nat) : Int) == 2) = true from q) (by simp; omega)) (fun _ => ?_)
    refine br (fun _ => ?_) (fun q => absurd (show ((((oq1 bs).1 : Nat) : Int) == 3) = false from q) (by rw [k]; decide))
    refine call_rule H6 (fun M I _ h => uintL a.1 s2 (oq2 bs).2 4294967295 b2 _ M I h) fun s3 w7 _ H7 => ?_
    refine store_as tok H7 (odC ⟨((oq1 bs).1 : Nat), ((oq2 bs).1 : Nat), tm0, ⟨IntKind.u32.wrap ((oe3 bs).1 : Nat), 0, 0, 0⟩⟩) rfl rfl rfl rfl rfl fun wk Hk => ?_
    rw [e3] at Hk
    have hO : poOd bs = (⟨((oq1 bs).1 : Nat), ((oq2 bs).1 : Nat), tm0, ⟨((oe3 bs).1 : Nat), 0, 0, 0⟩⟩ : Od) := by unfold poOd; rw [if_neg (by omega), if_neg (by omega), if_pos k]
    have hE : poEnd bs = endOk (oe3 bs).2 := by unfold poEnd poLs; rw [if_neg (by omega), if_neg (by omega), if_pos k]
    have HX : Hp ⟨w, M, I⟩ [blk a.1 [.slice s3.A s3.n s3.c, .bool (oe3 bs).2.bad] 202, blk b (odC (⟨((oq1 bs).1 : Nat), ((oq2 bs).1 : Nat), tm0, ⟨((oe3 bs).1 : Nat), 0, 0, 0⟩⟩ : Od)) 32, blk rr (odC od0) 32] [Sl byteR (svV s3) (oe3 bs).2.p] _ := Hk.keep
    refine Or.elim (show endOk (oe3 bs).2 = true ∨ endOk (oe3 bs).2 = false by cases endOk (oe3 bs).2 <;> simp) (fun he => ?_) (fun he => ?_)
    · have ee : (if endOk (oe3 bs).2 = true then Value.nilIface else .iface 55 (.int .i64 2)) = .nilIface := if_pos he
      refine call_rule HX (fun M I _ h => ee ▸ endL a.1 s3 (oe3 bs).2 _ M I h) fun _ wa _ Ha => ?_
      refine load_rule tok Ha (v := odV (⟨((oq1 bs).1 : Nat), ((oq2 bs).1 : Nat), tm0, ⟨((oe3 bs).1 : Nat), 0, 0, 0⟩⟩ : Od)) rfl ?_
      refine Or.elim (show odB (⟨((oq1 bs).1 : Nat), ((oq2 bs).1 : Nat), tm0, ⟨((oe3 bs).1 : Nat), 0, 0, 0⟩⟩ : Od) = true ∨ odB (⟨((oq1 bs).1 : Nat), ((oq2 bs).1 : Nat), tm0, ⟨((oe3 bs).1 : Nat), 0, 0, 0⟩⟩ : Od) = false by cases odB (⟨((oq1 bs).1 : Nat), ((oq2 bs).1 : Nat), tm0, ⟨((oe3 bs).1 : Nat), 0, 0, 0⟩⟩ : Od) <;> simp) (fun hb => ?_) (fun hb => ?_)
      · refine call_rule Ha (fun M I _ h => odRightT hb _ M I h) fun _ wb _ Hb => ?_
        refine load_rule tok Hb (v := odV (⟨((oq1 bs).1 : Nat), ((oq2 bs).1 : Nat), tm0, ⟨((oe3 bs).1 : Nat), 0, 0, 0⟩⟩ : Od)) rfl ?_
        refine store_as tok Hb (odC (⟨((oq1 bs).1 : Nat), ((oq2 bs).1 : Nat), tm0, ⟨((oe3 bs).1 : Nat), 0, 0, 0⟩⟩ : Od)) rfl rfl rfl rfl rfl fun wc Hc => ?_
        refine Exists.intro ⟨rr, 0, none⟩ (Exists.intro (odV (⟨((oq1 bs).1 : Nat), ((oq2 bs).1 : Nat), tm0, ⟨((oe3 bs).1 : Nat), 0, 0, 0⟩⟩ : Od)) (And.intro rfl (And.intro (Hp.ld (T := tb) tok Hc rfl) ?_)))
        exact Exists.intro ((⟨((oq1 bs).1 : Nat), ((oq2 bs).1 : Nat), tm0, ⟨((oe3 bs).1 : Nat), 0, 0, 0⟩⟩ : Od), none) (And.intro rfl (And.intro (.inl ⟨rfl, hO.symm, hE.trans he, hO ▸ hb⟩) (Hp.keep Hc)))
      · refine call_rule Ha (fun M I _ h => odRightF hb _ M I h) fun _ wb _ Hb => ?_
        refine store_as tok Hb (odC od0) rfl rfl rfl rfl rfl fun wc Hc => ?_
        refine Exists.intro ⟨rr, 0, none⟩ (Exists.intro (odV od0) (And.intro rfl (And.intro (Hp.ld (T := tb) tok Hc rfl) ?_)))
        exact Exists.intro (od0, erN 2) (And.intro rfl (And.intro (.inr ⟨rfl, rfl, by rw [hO, hb, Bool.and_false]⟩) (Hp.keep Hc)))
    · have ee : (if endOk (oe3 bs).2 = true then Value.nilIface else .iface 55 (.int .i64 2)) = .iface 55 (.int .i64 2) := if_neg (by rw [he]; simp)
      refine call_rule HX (fun M I _ h => ee ▸ endL a.1 s3 (oe3 bs).2 _ M I h) fun _ wa _ Ha => ?_
      refine store_as tok Ha (odC od0) rfl rfl rfl rfl rfl fun wc Hc => ?_
      refine Exists.intro ⟨rr, 0, none⟩ (Exists.intro (odV od0) (And.intro rfl (And.intro (Hp.ld (T := tb) tok Hc rfl) ?_)))
      exact Exists.intro (od0, erN 2) (And.intro rfl (And.intro (.inr ⟨rfl, rfl, by rw [hE, he, Bool.false_and]⟩) (Hp.keep Hc)))
  · have k1 := k.1
    have k2 := k.2.1
    have k3 := k.2.2
    refine br (fun q => absurd (show ((((oq1 bs).1 : Nat) : Int) == 1) = true from q) (by simp; omega)) (fun _ => ?_)
    refine br (fun q => absurd (show ((((oq1 bs).1 : Nat) : Int) == 2) = true from q) (by simp; omega)) (fun _ => ?_)
    refine br (fun q => absurd (show ((((oq1 bs).1 : Nat) : Int) == 3) = true from q) (by simp; omega)) (fun _ => ?_)
    have hO : poOd bs = (⟨((oq1 bs).1 : Nat), ((oq2 bs).1 : Nat), tm0, ev0⟩ : Od) := by unfold poOd; rw [if_neg k1, if_neg k2, if_neg k3]
    have hE : poEnd bs = endOk (oq2 bs).2 := by unfold poEnd poLs; rw [if_neg k1, if_neg k2, if_neg k3]
    have HX : Hp ⟨w, M, I⟩ [blk a.1 [.slice s2.A s2.n s2.c, .bool (oq2 bs).2.bad] 202, blk b (odC (⟨((oq1 bs).1 : Nat), ((oq2 bs).1 : Nat), tm0, ev0⟩ : Od)) 32, blk rr (odC od0) 32] [Sl byteR (svV s2) (oq2 bs).2.p] _ := H6.keep
    refine Or.elim (show endOk (oq2 bs).2 = true ∨ endOk (oq2 bs).2 = false by cases endOk (oq2 bs).2 <;> simp) (fun he => ?_) (fun he => ?_)
    · have ee : (if endOk (oq2 bs).2 = true then Value.nilIface else .iface 55 (.int .i64 2)) = .nilIface := if_pos he
      refine call_rule HX (fun M I _ h => ee ▸ endL a.1 s2 (oq2 bs).2 _ M I h) fun _ wa _ Ha => ?_
      refine load_rule tok Ha (v := odV (⟨((oq1 bs).1 : Nat), ((oq2 bs).1 : Nat), tm0, ev0⟩ : Od)) rfl ?_
      refine Or.elim (show odB (⟨((oq1 bs).1 : Nat), ((oq2 bs).1 : Nat), tm0, ev0⟩ : Od) = true ∨ odB (⟨((oq1 bs).1 : Nat), ((oq2 bs).1 : Nat), tm0, ev0⟩ : Od) = false by cases odB (⟨((oq1 bs).1 : Nat), ((oq2 bs).1 : Nat), tm0, ev0⟩ : Od) <;> simp) (fun hb => ?_) (fun hb => ?_)
      · refine call_rule Ha (fun M I _ h => odRightT hb _ M I h) fun _ wb _ Hb => ?_
        refine load_rule tok Hb (v := odV (⟨((oq1 bs).1 : Nat), ((oq2 bs).1 : Nat), tm0, ev0⟩ : Od)) rfl ?_
        refine store_as tok Hb (odC (⟨((oq1 bs).1 : Nat), ((oq2 bs).1 : Nat), tm0, ev0⟩ : Od)) rfl rfl rfl rfl rfl fun wc Hc => ?_
        refine Exists.intro ⟨rr, 0, none⟩ (Exists.intro (odV (⟨((oq1 bs).1 : Nat), ((oq2 bs).1 : Nat), tm0, ev0⟩ : Od)) (And.intro rfl (And.intro (Hp.ld (T := tb) tok Hc rfl) ?_)))
        exact Exists.intro ((⟨((oq1 bs).1 : Nat), ((oq2 bs).1 : Nat), tm0, ev0⟩ : Od), none) (And.intro rfl (And.intro (.inl ⟨rfl, hO.symm, hE.trans he, hO ▸ hb⟩) (Hp.keep Hc)))
      · refine call_rule Ha (fun M I _ h => odRightF hb _ M I h) fun _ wb _ Hb => ?_
        refine store_as tok Hb (odC od0) rfl rfl rfl rfl rfl fun wc Hc => ?_
        refine Exists.intro ⟨rr, 0, none⟩ (Exists.intro (odV od0) (And.intro rfl (And.intro (Hp.ld (T := tb) tok Hc rfl) ?_)))
        exact Exists.intro (od0, erN 2) (And.intro rfl (And.intro (.inr ⟨rfl, rfl, by rw [hO, hb, Bool.and_false]⟩) (Hp.keep Hc)))
    · have ee : (if endOk (oq2 bs).2 = true then Value.nilIface else .iface 55 (.int .i64 2)) = .iface 55 (.int .i64 2) := if_neg (by rw [he]; simp)
      refine call_rule HX (fun M I _ h => ee ▸ endL a.1 s2 (oq2 bs).2 _ M I h) fun _ wa _ Ha => ?_
      refine store_as tok Ha (odC od0) rfl rfl rfl rfl rfl fun wc Hc => ?_
      refine Exists.intro ⟨rr, 0, none⟩ (Exists.intro (odV od0) (And.intro rfl (And.intro (Hp.ld (T := tb) tok Hc rfl) ?_)))
      exact Exists.intro (od0, erN 2) (And.intro rfl (And.intro (.inr ⟨rfl, rfl, by rw [hE, he, Bool.false_and]⟩) (Hp.keep Hc)))
/-! The document's bytes. -/
theorem refQText (ts : List Nat) (hb : byteIn ts) (hl : ts.length ≤ 1000) (w : World) (M I : BS) (hM : ∀ b, ¬ M b) (H : Hp ⟨w, M, I⟩ [] [] w) :
    Ctr Tryz.prog 80 [.string (bsS ts)] w M I (fun a : SV => .slice a.A a.n a.c) (fun a => a.n = (numB ts.length 0 ++ ts).length) (fun a => [row 5 1 (.slice a.A a.n a.c) a.n (byC (numB ts.length 0 ++ ts))]) (fun _ => []) := by
  have ew : IntKind.u64.wrap (((bsS ts).size : Nat) : Int) = ((ts.length : Nat) : Int) := by rw [bsS_size]; exact wrap_id ⟨by show (0 : Int) ≤ _; omega, by show _ ≤ (18446744073709551615 : Int); omega⟩
  have ly := numB_lt (n := ts.length) (m := 0) (by omega) (by omega)
  have ny := numB_len (n := ts.length) (m := 0) (by omega)
  have efl : [numB ts.length 0, ts].flatten = numB ts.length 0 ++ ts := by simp
  refine Exe.of_ev tok Tryz.call80 Tryz.func80 rfl rfl rfl ?_
  refine call_rule H (fun M I h0 h => uintRef_as ts.length _ ew (by omega) _ M I (h0 rfl) h) fun s7 w1 _ H1 => ?_
  have H2 := frzBytes H1 (v := .slice s7.A s7.n s7.c) (numB ts.length 0) hM ly
  refine convBn H2 hb (by omega) fun g cc w3 H3 => ?_
  refine slice_as tok H3 [.slice s7.A s7.n s7.c, .slice (some ⟨g, 0, none⟩) ts.length cc] rfl rfl rfl rfl rfl rfl fun g2 w5 H10 => ?_
  have H11 := frzSl H10 (g := g2) [(s7, numB ts.length 0), (⟨some ⟨g, 0, none⟩, ts.length, cc⟩, ts)] 2 [numB ts.length 0, ts] rfl rfl rfl hM rfl (fun q hq => by
    simp only [List.mem_cons, List.not_mem_nil, or_false] at hq
    rcases hq with rfl | rfl
    · simp
    · simp)
  refine call_rule H11 (fun M I _ h => join (some ⟨g2, 0, none⟩) 2 2 [numB ts.length 0, ts] (by rw [efl, List.length_append]; omega) _ M I h) fun s8 w6 h8 H12 => ?_
  rw [efl] at h8 H12
  exact Exists.intro s8 (And.intro rfl (And.intro h8 (Hp.keep H12)))
set_option maxHeartbeats 8000000 in
set_option maxRecDepth 20000 in
theorem refOdBytes (o : Od) (hin : OdIn o) (ho : odB o = true) (w : World) (M I : BS) (hM : ∀ b, ¬ M b) (H : Hp ⟨w, M, I⟩ [] [] w) :
    Ctr Tryz.prog 33 [roV o] w M I (fun a : SV => .slice a.A a.n a.c) (fun _ => True) (fun _ => []) (fun a => [Sl byteR (.slice a.A a.n a.c) (odBytes o)]) := by
  have hlt := odBytes_lt ho hin
  have hk : 0 ≤ o.kind ∧ o.kind ≤ 255 := hin.kind
  have hl : 0 ≤ o.loan ∧ o.loan ≤ 4294967295 := hin.loan
  have hs : 0 ≤ o.ev.seq ∧ o.ev.seq ≤ 4294967295 := hin.ev.seq
  have e0 := u64_of (v := o.kind) (by omega) (by omega)
  have e1 := u64_of (v := o.loan) (by omega) (by omega)
  have e2 := u64_of (v := o.ev.seq) (by omega) (by omega)
  have n0 := numB_len (n := o.kind.toNat) (m := 0) (by omega)
  have n1 := numB_len (n := o.loan.toNat) (m := 0) (by omega)
  have n2 := numB_len (n := o.ev.seq.toNat) (m := 0) (by omega)
  have y0 := numB_lt (n := o.kind.toNat) (m := 0) (by omega) (by omega)
  have y1 := numB_lt (n := o.loan.toNat) (m := 0) (by omega) (by omega)
  have y2 := numB_lt (n := o.ev.seq.toNat) (m := 0) (by omega) (by omega)
  have ef0 : [numB o.kind.toNat 0, numB o.loan.toNat 0].flatten = (numB o.kind.toNat 0 ++ numB o.loan.toNat 0) := by simp
  have yh : ∀ x, x ∈ (numB o.kind.toNat 0 ++ numB o.loan.toNat 0) → x < 256 := fun x hx => by
    rcases List.mem_append.1 hx with hx | hx
    · exact y0 x hx
    · exact y1 x hx
  refine Exe.of_ev tok Tryz.call33 Tryz.func33 rfl rfl rfl ?_
  refine box_as H (roC o) rfl fun x w1 H1 => ?_
  have H2 : Hp ⟨w, M, I⟩ [blk x (roC o) 40] [] w1 := H1.keep
  refine draw_rule (A := []) tok tdr H2 [0, 1, 2, 3, 4, 5, 6, 7, 8, 9, 10] [0, 1, 3, 7, 0, 16, 48, 127, 255, 511, 1023] rfl ?_
  refine pass_rule _ (fun w h => load_rule tok h (v := .int .u8 o.kind) rfl ⟨rfl, rfl⟩) ?_
  refine imp_rule (fun X wx h => call_rule h (fun M I h0 h => uintRef_as o.kind.toNat _ e0 (by omega) _ M I (h0 rfl) h) fun s0 w1 hs0 H1 => imp_done H1 ?_)
  refine pass_rule _ (fun w h => load_rule tok h (v := .int .u32 o.loan) rfl ⟨rfl, rfl⟩) ?_
  refine imp_rule (fun X wx h => call_rule h (fun M I h0 h => uintRef_as o.loan.toNat _ e1 (by omega) _ M I (h0 rfl) h) fun s1 w1 hs1 H1 => imp_done H1 ?_)
  refine fresh_slice tok [.slice s0.A s0.n s0.c, .slice s1.A s1.n s1.c] rfl rfl rfl rfl rfl rfl rfl fun g => ?_
  refine imp_rule (fun X wx h => ?_)
  have h2 := frzBytes h (v := .slice s0.A s0.n s0.c) (numB o.kind.toNat 0) hM y0
  have h3 := frzBytes h2 (v := .slice s1.A s1.n s1.c) (numB o.loan.toNat 0) hM y1
  have h4 := frzSl h3 (g := g) [(s0, numB o.kind.toNat 0), (s1, numB o.loan.toNat 0)] 2 [numB o.kind.toNat 0, numB o.loan.toNat 0] rfl rfl rfl hM rfl (fun q hq => by
    simp only [List.mem_cons, List.not_mem_nil, or_false] at hq
    rcases hq with rfl | rfl
    · simp
    · simp)
  refine call_rule h4 (fun M I _ h => join (some ⟨g, 0, none⟩) 2 2 [numB o.kind.toNat 0, numB o.loan.toNat 0] (by rw [ef0, List.length_append]; omega) _ M I h) fun s2 w4 hs2 H4 => imp_done H4 ?_
  refine done_rule fun w5 H5 => ?_
  rw [ef0] at H5
  have H6 := frzBytes H5 (v := .slice s2.A s2.n s2.c) (numB o.kind.toNat 0 ++ numB o.loan.toNat 0) hM yh
  have H6 : Hp ⟨w, M, I⟩ [blk x (roC o) 40] [Sl byteR (.slice s2.A s2.n s2.c) (numB o.kind.toNat 0 ++ numB o.loan.toNat 0)] w5 := H6.keep
  refine load_rule tok H6 (v := .int .u8 o.kind) rfl ?_
  refine Or.elim (od_cases ho) (fun c1 => ?_) (fun c => Or.elim c (fun c2 => ?_) (fun c => Or.elim c (fun c3 => ?_) (fun c4 => ?_)))
  · have k := c1.1
    have ht := c1.2.1
    have hf := tm_fit (tmB_iff.1 ht) hin.tm
    have htl := tmBytes_len hf
    have htb := tmBytes_lt hf
    have n3 := numB_len (n := (tmBytes o.tm).length) (m := 0) (by omega)
    have y3 := numB_lt (n := (tmBytes o.tm).length) (m := 0) (by omega) (by omega)
    have ef : [(numB o.kind.toNat 0 ++ numB o.loan.toNat 0), numB (tmBytes o.tm).length 0 ++ tmBytes o.tm].flatten = odBytes o := by unfold odBytes odTail; rw [if_pos k]; simp
    have yt : ∀ x, x ∈ numB (tmBytes o.tm).length 0 ++ tmBytes o.tm → x < 256 := fun x hx => by
      rcases List.mem_append.1 hx with hx | hx
      · exact y3 x hx
      · exact htb x hx
    refine br (fun _ => ?_) (fun q => absurd (show (o.kind == 1) = false from q) (by rw [k]; decide))
    refine load_rule tok H6 (v := rtV o.tm) rfl ?_
    refine call_rule H6 (fun M I h0 h => refBytes o.tm hf _ M I (h0 rfl) h) fun p w7 _ H7 => ?_
    refine convSl H7 (A := p.A) (n := p.n) (c := p.c) (bs := tmBytes o.tm) ?_
    refine call_rule H7 (fun M I h0 h => refQText (tmBytes o.tm) htb (by omega) _ M I (h0 rfl) h) fun s3 w8 _ H8 => ?_
    have H9 := frzBytes H8 (v := .slice s3.A s3.n s3.c) (numB (tmBytes o.tm).length 0 ++ tmBytes o.tm) hM yt
    refine slice_as tok H9 [.slice s2.A s2.n s2.c, .slice s3.A s3.n s3.c] rfl rfl rfl rfl rfl rfl fun g2 w9 H10 => ?_
    have H11 := frzSl H10 (g := g2) [(s2, (numB o.kind.toNat 0 ++ numB o.loan.toNat 0)), (s3, numB (tmBytes o.tm).length 0 ++ tmBytes o.tm)] 2 [(numB o.kind.toNat 0 ++ numB o.loan.toNat 0), numB (tmBytes o.tm).length 0 ++ tmBytes o.tm] rfl rfl rfl hM rfl (fun q hq => by
      simp only [List.mem_cons, List.not_mem_nil, or_false] at hq
      rcases hq with rfl | rfl
      · simp
      · simp)
    refine call_rule H11 (fun M I _ h => join (some ⟨g2, 0, none⟩) 2 2 [(numB o.kind.toNat 0 ++ numB o.loan.toNat 0), numB (tmBytes o.tm).length 0 ++ tmBytes o.tm] (by rw [ef]; omega) _ M I h) fun s8 wa h8 Ha => ?_
    rw [ef] at Ha
    have Hb := frzBytes Ha (v := .slice s8.A s8.n s8.c) (odBytes o) hM hlt.1
    exact Exists.intro s8 (And.intro rfl (And.intro trivial (Hp.keep Hb)))
  · have k := c2.1
    have ok := evB_iff.1 c2.2.1
    have a1 := ok.kind
    have a2 := ok.day
    have a3 := ok.amt
    have e3 := u64_of (v := o.ev.day) (by omega) (by omega)
    have e4 := u64_of (v := o.ev.kind) (by omega) (by omega)
    have e5 := u64_of (v := o.ev.amt) (by omega) (by omega)
    have n3 := numB_len (n := o.ev.day.toNat) (m := 0) (by omega)
    have n4 := numB_len (n := o.ev.kind.toNat) (m := 0) (by omega)
    have n5 := numB_len (n := o.ev.amt.toNat) (m := 0) (by omega)
    have y3 := numB_lt (n := o.ev.day.toNat) (m := 0) (by omega) (by omega)
    have y4 := numB_lt (n := o.ev.kind.toNat) (m := 0) (by omega) (by omega)
    have y5 := numB_lt (n := o.ev.amt.toNat) (m := 0) (by omega) (by omega)
    have ef : [(numB o.kind.toNat 0 ++ numB o.loan.toNat 0), numB o.ev.seq.toNat 0, numB o.ev.day.toNat 0, numB o.ev.kind.toNat 0, numB o.ev.amt.toNat 0].flatten = odBytes o := by unfold odBytes odTail; rw [if_neg (by omega), if_pos k]; simp
    refine br (fun q => absurd (show (o.kind == 1) = true from q) (by rw [k]; decide)) (fun _ => ?_)
    refine br (fun _ => ?_) (fun q => absurd (show (o.kind == 2) = false from q) (by rw [k]; decide))
    refine draw_rule (A := []) tok tdr H6 [1, 2, 3, 4, 5, 6, 7, 8, 9, 10, 11, 12, 13, 14, 15, 16, 17, 18, 19, 20, 0, 21, 22, 23] [0, 0, 2, 6, 14, 30, 0, 64, 192, 448, 1022, 0, 2048, 6144, 14336, 32766, 0, 65536, 196608, 458752, 1048574, 2097151, 4194303, 8388607] rfl ?_
    refine pass_rule _ (fun w h => load_rule tok h (v := .int .u32 o.ev.seq) rfl ⟨rfl, rfl⟩) ?_
    refine imp_rule (fun X wx h => call_rule h (fun M I h0 h => uintRef_as o.ev.seq.toNat _ e2 (by omega) _ M I (h0 rfl) h) fun s3 w1 hs3 H1 => imp_done H1 ?_)
    refine pass_rule _ (fun w h => load_rule tok h (v := .int .i64 o.ev.day) rfl ⟨rfl, rfl⟩) ?_
    refine imp_rule (fun X wx h => call_rule h (fun M I h0 h => uintRef_as o.ev.day.toNat _ e3 (by omega) _ M I (h0 rfl) h) fun s4 w1 hs4 H1 => imp_done H1 ?_)
    refine pass_rule _ (fun w h => load_rule tok h (v := .int .u8 o.ev.kind) rfl ⟨rfl, rfl⟩) ?_
    refine imp_rule (fun X wx h => call_rule h (fun M I h0 h => uintRef_as o.ev.kind.toNat _ e4 (by omega) _ M I (h0 rfl) h) fun s5 w1 hs5 H1 => imp_done H1 ?_)
    refine pass_rule _ (fun w h => load_rule tok h (v := .int .i64 o.ev.amt) rfl ⟨rfl, rfl⟩) ?_
    refine imp_rule (fun X wx h => call_rule h (fun M I h0 h => uintRef_as o.ev.amt.toNat _ e5 (by omega) _ M I (h0 rfl) h) fun s6 w1 hs6 H1 => imp_done H1 ?_)
    refine fresh_slice tok [.slice s2.A s2.n s2.c, .slice s3.A s3.n s3.c, .slice s4.A s4.n s4.c, .slice s5.A s5.n s5.c, .slice s6.A s6.n s6.c] rfl rfl rfl rfl rfl rfl rfl fun g5 => ?_
    refine imp_rule (fun X wx h => ?_)
    have h3 := frzBytes h (v := .slice s3.A s3.n s3.c) (numB o.ev.seq.toNat 0) hM y2
    have h4 := frzBytes h3 (v := .slice s4.A s4.n s4.c) (numB o.ev.day.toNat 0) hM y3
    have h5 := frzBytes h4 (v := .slice s5.A s5.n s5.c) (numB o.ev.kind.toNat 0) hM y4
    have h6 := frzBytes h5 (v := .slice s6.A s6.n s6.c) (numB o.ev.amt.toNat 0) hM y5
    have h7 := frzSl h6 (g := g5) [(s2, (numB o.kind.toNat 0 ++ numB o.loan.toNat 0)), (s3, numB o.ev.seq.toNat 0), (s4, numB o.ev.day.toNat 0), (s5, numB o.ev.kind.toNat 0), (s6, numB o.ev.amt.toNat 0)] 5 [(numB o.kind.toNat 0 ++ numB o.loan.toNat 0), numB o.ev.seq.toNat 0, numB o.ev.day.toNat 0, numB o.ev.kind.toNat 0, numB o.ev.amt.toNat 0] rfl rfl rfl hM rfl (fun q hq => by
      simp only [List.mem_cons, List.not_mem_nil, or_false] at hq
      rcases hq with rfl | rfl | rfl | rfl | rfl <;> simp)
    refine call_rule h7 (fun M I _ h => join (some ⟨g5, 0, none⟩) 5 5 [(numB o.kind.toNat 0 ++ numB o.loan.toNat 0), numB o.ev.seq.toNat 0, numB o.ev.day.toNat 0, numB o.ev.kind.toNat 0, numB o.ev.amt.toNat 0] (by rw [ef]; omega) _ M I h) fun s8 w4 hs8 H4 => imp_done H4 ?_
    refine done_rule fun wa Ha => ?_
    rw [ef] at Ha
    have Hb := frzBytes Ha (v := .slice s8.A s8.n s8.c) (odBytes o) hM hlt.1
    exact Exists.intro s8 (And.intro rfl (And.intro trivial (Hp.keep Hb)))
  · have k := c3.1
    have ef : [(numB o.kind.toNat 0 ++ numB o.loan.toNat 0), numB o.ev.seq.toNat 0].flatten = odBytes o := by unfold odBytes odTail; rw [if_neg (by omega), if_neg (by omega), if_pos k]; simp
    refine br (fun q => absurd (show (o.kind == 1) = true from q) (by rw [k]; decide)) (fun _ => ?_)
    refine br (fun q => absurd (show (o.kind == 2) = true from q) (by rw [k]; decide)) (fun _ => ?_)
    refine br (fun _ => ?_) (fun q => absurd (show (o.kind == 3) = false from q) (by rw [k]; decide))
    refine load_rule tok H6 (v := .int .u32 o.ev.seq) rfl ?_
    refine call_rule H6 (fun M I h0 h => uintRef_as o.ev.seq.toNat _ e2 (by omega) _ M I (h0 rfl) h) fun s3 w7 _ H7 => ?_
    have H9 := frzBytes H7 (v := .slice s3.A s3.n s3.c) (numB o.ev.seq.toNat 0) hM y2
    refine slice_as tok H9 [.slice s2.A s2.n s2.c, .slice s3.A s3.n s3.c] rfl rfl rfl rfl rfl rfl fun g2 w9 H10 => ?_
    have H11 := frzSl H10 (g := g2) [(s2, (numB o.kind.toNat 0 ++ numB o.loan.toNat 0)), (s3, numB o.ev.seq.toNat 0)] 2 [(numB o.kind.toNat 0 ++ numB o.loan.toNat 0), numB o.ev.seq.toNat 0] rfl rfl rfl hM rfl (fun q hq => by
      simp only [List.mem_cons, List.not_mem_nil, or_false] at hq
      rcases hq with rfl | rfl
      · simp
      · simp)
    refine call_rule H11 (fun M I _ h => join (some ⟨g2, 0, none⟩) 2 2 [(numB o.kind.toNat 0 ++ numB o.loan.toNat 0), numB o.ev.seq.toNat 0] (by rw [ef]; omega) _ M I h) fun s8 wa h8 Ha => ?_
    rw [ef] at Ha
    have Hb := frzBytes Ha (v := .slice s8.A s8.n s8.c) (odBytes o) hM hlt.1
    exact Exists.intro s8 (And.intro rfl (And.intro trivial (Hp.keep Hb)))
  · have k := c4.1
    have ef : (numB o.kind.toNat 0 ++ numB o.loan.toNat 0) = odBytes o := by unfold odBytes odTail; rw [if_neg (by omega), if_neg (by omega), if_neg (by omega)]; simp
    refine br (fun q => absurd (show (o.kind == 1) = true from q) (by rw [k]; decide)) (fun _ => ?_)
    refine br (fun q => absurd (show (o.kind == 2) = true from q) (by rw [k]; decide)) (fun _ => ?_)
    refine br (fun q => absurd (show (o.kind == 3) = true from q) (by rw [k]; decide)) (fun _ => ?_)
    rw [ef] at H6
    exact Exists.intro s2 (And.intro rfl (And.intro trivial (Hp.keep H6)))
end Go.Proofs.YtgbmambkgcjhfaaGreatDoor
