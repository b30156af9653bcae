/- May an entry be: the walk. -/
import Derived.Test.YtenpgmnknmnofaaDoorT8
namespace Go.Proofs.YtenpgmnknmnofaaDoor
open Go Go.Proofs Go.Wk
def dayB (d : Int) : Bool := decide (0 ≤ d) && decide (d ≤ 3652058)
theorem dayRight (d : Int) : CB 27 [.int .i32 d] (.bool (dayB d)) := by
  intro w M I H
  refine Exe.of_ev tok Tryd.call27 Tryd.func27 rfl rfl rfl ?_
  refine brd (fun h => ?_) (fun h => ?_)
  · refine Exists.intro () (And.intro (congrArg Value.bool ?_) (And.intro trivial H))
    unfold dayB
    rw [decide_eq_true h]; rfl
  · refine Exists.intro () (And.intro (congrArg Value.bool ?_) (And.intro trivial H))
    unfold dayB
    rw [decide_eq_false h]; rfl
def noB (s : ByteArray) : Bool := s.toList == (⟨#[]⟩ : ByteArray).toList
def rightGo (s last : Int) : List Leg → Bool
  | [] => s == 0
  | l :: r => bif in64 (s + l.amt) then (bif decide (l.acct ≤ last) then false else bif noB (accName l.acct) then false else rightGo (s + l.amt) l.acct r) else false
def rightB (k : Key) (ls : List Leg) : Bool := bif noB (kindName k.kind) then false else bif !dayB k.day then false else bif (ls.length : Int) == 0 then false else bif decide (8 < (ls.length : Int)) then false else rightGo 0 0 ls
theorem right (k : Key) (hk : inK .u8 k.kind) (A : Option Addr) (n c : Nat) (ls : List Leg) (w : World) (M I : BS) (H : Hp ⟨w, M, I⟩ [] [Sl legR (.slice A n c) ls] w) :
    Ctr Tryd.prog 9 [.agg #[.int .u32 k.loan, .int .i32 k.day, .int .u8 k.kind, .int .u32 k.seq, .slice A n c]] w M I (fun _ : Unit => .bool (rightB k ls)) (fun _ => True) (fun _ => []) (fun _ => []) := by
  obtain ⟨hn, hc, hc2⟩ := H.sll (A := A) (n := n) (c := c)
  refine Exe.of_ev tok Tryd.call9 Tryd.func9 rfl rfl rfl ?_
  refine box_as H (entC k A n c) rfl fun b w1 H1 => ?_
  refine load_rule tok H1 rfl ?_
  refine call_rule H1 (fun M I _ h => kind k.kind hk.1 hk.2 _ M I h) fun _ w2 _ H2 => ?_
  refine br (fun h => ?_) (fun h => ?_)
  · have h : noB (kindName k.kind) = true := h
    refine Exists.intro () (And.intro (congrArg Value.bool ?_) (And.intro trivial (Hp.keep H2)))
    unfold rightB; rw [h]; rfl
  have h : noB (kindName k.kind) = false := h
  refine load_rule tok H2 rfl ?_
  refine call_rule H2 (fun M I _ h => dayRight k.day _ M I h) fun _ w3 _ H3 => ?_
  refine br (fun h2 => ?_) (fun h2 => ?_)
  · refine Exists.intro () (And.intro (congrArg Value.bool ?_) (And.intro trivial (Hp.keep H3)))
    unfold rightB; rw [h, h2]; rfl
  refine load_rule tok H3 rfl ?_
  refine br (fun h3 => ?_) (fun h3 => ?_)
  · have h3 : ((ls.length : Int) == 0) = true := by rw [← hn]; exact h3
    refine Exists.intro () (And.intro (congrArg Value.bool ?_) (And.intro trivial (Hp.keep H3)))
    unfold rightB; rw [h, h2, h3]; rfl
  have h3 : ((ls.length : Int) == 0) = false := by rw [← hn]; exact h3
  refine load_rule tok H3 rfl ?_
  refine brd (fun h4 => ?_) (fun h4 => ?_)
  · have h4 : decide (8 < (ls.length : Int)) = true := by rw [← hn]; exact decide_eq_true h4
    refine Exists.intro () (And.intro (congrArg Value.bool ?_) (And.intro trivial (Hp.keep H3)))
    unfold rightB; rw [h, h2, h3, h4]; rfl
  have h4 : decide (8 < (ls.length : Int)) = false := by rw [← hn]; exact decide_eq_false h4
  have hR : rightB k ls = rightGo 0 0 ls := by unfold rightB; rw [h, h2, h3, h4]; rfl
  rw [hR]
  refine load_rule tok H3 rfl ?_
  refine loop_rule tok (σ := Nat × Int × Int) 9223372002495037660 (fun s => [(3, .int .i64 s.2.1), (4, .int .u8 s.2.2), (35, .int .i64 s.1)])
    (fun s w' => s.1 ≤ ls.length ∧ inK .i64 s.2.1 ∧ inK .u8 s.2.2 ∧ rightGo 0 0 ls = rightGo s.2.1 s.2.2 (ls.drop s.1) ∧ Hp ⟨w, M, I⟩ [blk b (entC k A n c) 29] [Sl legR (.slice A n c) ls] w') (fun s => ls.length - s.1) (0, 0, 0) rfl rfl ⟨rfl, rfl, rfl, trivial⟩ ?_ ?_
  · exact ⟨Nat.zero_le _, ⟨by simp [kLo], by simp [kHi]⟩, ⟨by simp [kLo], by simp [kHi]⟩, rfl, H3⟩
  rintro ⟨i, s, last⟩ j w4 ⟨hi, hs, hl, hg, H4⟩
  simp only at hi hs hl hg H4
  refine brd (fun h5 => ?_) (fun h5 => ?_)
  · refine idx_rule tok H4 rfl rfl rfl (by omega) h5 fun eb eo x hx H5 => ?_
    refine ldp_rule tok H5 rfl rfl rfl fun _ hok H6 => ?_
    refine alloc_rule tok H6 rfl rfl fun lb w5 H7 => ?_
    refine store_as tok H7 [.int .u8 x.acct, .int .i64 x.amt] rfl rfl rfl rfl rfl fun w6 H8 => ?_
    refine load_rule tok H8 rfl ?_
    have hx' : ls[i]? = some x := by simpa using hx
    have hd : ls.drop i = x :: ls.drop (i + 1) := by
      obtain ⟨hj, _⟩ := List.getElem?_eq_some_iff.1 hx'
      rw [List.drop_eq_getElem_cons hj]
      rw [List.getElem?_eq_getElem hj] at hx'
      rw [Option.some.inj hx']
    rcases (show in64 (s + x.amt) = true ∨ in64 (s + x.amt) = false by cases in64 (s + x.amt) <;> simp) with en | en
    · refine call_rule H8 (fun M I _ h => (addV_ok en).symm ▸ add _ _ hs hok.2 _ M I h) fun _ w7 _ H9 => ?_
      refine load_rule tok H9 rfl ?_
      refine brd (fun h6 => ?_) (fun h6 => ?_)
      · refine Exists.intro () (And.intro (congrArg Value.bool ?_) (And.intro trivial (Hp.keep H9)))
        rw [hg, hd, rightGo, en, decide_eq_true h6]; rfl
      · refine load_rule tok H9 rfl ?_
        refine call_rule H9 (fun M I _ h => account x.acct hok.1.1 hok.1.2 _ M I h) fun _ w8 _ H10 => ?_
        refine br (fun h7 => ?_) (fun h7 => ?_)
        · have h7 : noB (accName x.acct) = true := h7
          refine Exists.intro () (And.intro (congrArg Value.bool ?_) (And.intro trivial (Hp.keep H10)))
          rw [hg, hd, rightGo, en, decide_eq_false h6, h7]; rfl
        · have h7 : noB (accName x.acct) = false := h7
          refine load_rule tok H10 rfl ?_
          have en' := en
          simp only [in64, Bool.and_eq_true, decide_eq_true_eq] at en'
          refine Exists.intro (i + 1, s + x.amt, x.acct) (And.intro ⟨rfl, rfl, ?_, trivial⟩ (And.intro ?_ ⟨?_, ?_, hok.1, ?_, Hp.keep H10⟩))
          · show Value.int .i64 (IntKind.i64.wrap (i + 1)) = _
            rw [w64 (by omega) (by omega)]; rfl
          · simp only; omega
          · simp only; omega
          · exact ⟨en'.1, en'.2⟩
          · rw [hg, hd, rightGo, en, decide_eq_false h6, h7]; rfl
    · refine call_rule H8 (fun M I _ h => (addV_no en).symm ▸ add _ _ hs hok.2 _ M I h) fun _ w7 _ H9 => ?_
      refine Exists.intro () (And.intro (congrArg Value.bool ?_) (And.intro trivial (Hp.keep H9)))
      rw [hg, hd, rightGo, en]; rfl
  · refine Exists.intro () (And.intro (congrArg Value.bool ?_) (And.intro trivial (Hp.keep H4)))
    have : ls.length ≤ i := by omega
    rw [hg, List.drop_eq_nil_of_le this]; rfl
@[reducible] def zeroK : List Value := [.int .u32 0, .int .i32 0, .int .u8 0, .int .u32 0]
theorem frzLegs {w : World} {B : Base} {S S' : List Asn} {F : List Fact} (H : Hp B S F w) {n : Nat} {cs : List Value} {t : TypeId} (ls : List Leg) [h1 : TakeB S n cs t S'] (hM : ∀ b, ¬ B.M b) (hc : cs = legsC ls) (hl : ls.length ≤ 100) (hok : ∀ x, x ∈ ls → inK .u8 x.acct ∧ inK .i64 x.amt) :
    Hp B S' (Sl legR (.slice (some ⟨n, 0, none⟩) ls.length ls.length) ls :: F) w := by
  refine H.frzBlk legR ls hM (by omega) (by rw [hc]; exact legsC_len ls) fun i x hx => ?_
  obtain ⟨hj, _⟩ := List.getElem?_eq_some_iff.1 hx
  refine ⟨(), hok x (List.mem_of_getElem? hx), ?_, rfl⟩
  subst hc
  show ((legsC ls).drop (i * 2)).take 2 = _
  rw [legsC_drop, List.drop_eq_getElem_cons hj]
  rw [List.getElem?_eq_getElem hj] at hx
  rw [Option.some.inj hx]
  rfl
theorem perm_two {α : Type} {l : List α} {u v : α} (h : l.Perm [u, v]) : l = [u, v] ∨ l = [v, u] := by
  have hl := h.length_eq
  match l, hl with
  | [a, b], _ =>
    have ha : a ∈ [u, v] := h.mem_iff.1 (by simp)
    rcases List.mem_cons.1 ha with rfl | ha
    · have := List.perm_singleton.1 (List.Perm.cons_inv h)
      left; rw [List.cons.inj this |>.1]
    · obtain rfl : a = v := by simpa using ha
      have h2 : ([a, b] : List α).Perm [a, u] := h.trans (.swap _ _ _)
      have := List.perm_singleton.1 (List.Perm.cons_inv h2)
      right; rw [List.cons.inj this |>.1]
theorem made_two {out : List Leg} (h : made [⟨2, 100⟩, ⟨1, -100⟩] out) : out = [⟨1, -100⟩, ⟨2, 100⟩] := by
  have e : sumGo [⟨2, 100⟩, ⟨1, -100⟩] [] = some [(2, 100), (1, -100)] := by decide
  unfold made at h
  rw [e] at h
  rcases perm_two h.1 with rfl | rfl
  · have := h.2
    simp [srt, pairL] at this
  · rfl
theorem made_one {out : List Leg} (h : made [⟨1, -100⟩] out) : out = [⟨1, -100⟩] := by
  have e : sumGo [⟨1, -100⟩] [] = some [(1, -100)] := by decide
  unfold made at h
  rw [e] at h
  exact List.perm_singleton.1 h.1
/-- The laws' own beginning. -/
theorem awake (w : World) (M I : BS) (hM : ∀ b, ¬ M b) (H : Hp ⟨w, M, I⟩ [] [] w) : Ctr Tryd.prog 5 [] w M I (fun _ : Unit => .bool true) (fun _ => True) (fun _ => []) (fun _ => []) := by
  refine Exe.of_ev tok Tryd.call5 Tryd.func5 rfl rfl rfl ?_
  refine alloc_as tok H zeroK rfl rfl rfl fun x w1 H1 => ?_
  refine store_as tok H1 (keyC ⟨0, 0, 1, 0⟩) rfl rfl rfl rfl rfl fun w2 H2 => ?_
  refine load_rule tok H2 (v := keyV ⟨0, 0, 1, 0⟩) rfl ?_
  refine slice_as tok H2 [.int .u8 2, .int .i64 100, .int .u8 1, .int .i64 (-100)] rfl rfl rfl rfl rfl rfl fun g w3 H3 => ?_
  have H4 : Hp ⟨w, M, I⟩ [blk x (keyC ⟨0, 0, 1, 0⟩) 25] [Sl legR (.slice (some ⟨g, 0, none⟩) 2 2) [⟨2, 100⟩, ⟨1, -100⟩]] w3 := frzLegs H3 [⟨2, 100⟩, ⟨1, -100⟩] hM rfl (by simp) (by simp [inK, kLo, kHi])
  refine call_rule H4 (fun M I h0 h => make ⟨0, 0, 1, 0⟩ (some ⟨g, 0, none⟩) 2 2 [⟨2, 100⟩, ⟨1, -100⟩] (by simp) _ M I (h0 rfl) h) fun a w4 hφ H5 => ?_
  obtain ⟨⟨A1, n1, c1⟩, out⟩ := a
  obtain rfl := made_two hφ
  refine call_rule H5 (fun M I _ h => right ⟨0, 0, 1, 0⟩ (by simp [inK, kLo, kHi]) A1 n1 c1 [⟨1, -100⟩, ⟨2, 100⟩] _ M I h) fun _ w5 _ H6 => ?_
  refine br (fun q1 => ?_) (fun q1 => ?_)
  rotate_left
  · exact absurd q1 (by rw [show rightB ⟨0, 0, 1, 0⟩ [⟨1, -100⟩, ⟨2, 100⟩] = true by decide +kernel]; simp)
  refine load_rule tok H6 (v := keyV ⟨0, 0, 1, 0⟩) rfl ?_
  refine slice_as tok H6 [.int .u8 1, .int .i64 (-100)] rfl rfl rfl rfl rfl rfl fun g2 w7 H7 => ?_
  have H8 : Hp ⟨w, M, I⟩ [blk x (keyC ⟨0, 0, 1, 0⟩) 25] [Sl legR (.slice (some ⟨g2, 0, none⟩) 1 1) [⟨1, -100⟩]] w7 := (frzLegs (n := g2) (cs := [.int .u8 1, .int .i64 (-100)]) H7 [⟨1, -100⟩] hM rfl (by simp) (by simp [inK, kLo, kHi])).keep
  refine call_rule H8 (fun M I h0 h => make ⟨0, 0, 1, 0⟩ (some ⟨g2, 0, none⟩) 1 1 [⟨1, -100⟩] (by simp) _ M I (h0 rfl) h) fun a w8 hφ2 H9 => ?_
  obtain ⟨⟨A2, n2, c2⟩, out2⟩ := a
  obtain rfl := made_one hφ2
  refine call_rule H9 (fun M I _ h => right ⟨0, 0, 1, 0⟩ (by simp [inK, kLo, kHi]) A2 n2 c2 [⟨1, -100⟩] _ M I h) fun _ w9 _ H10 => ?_
  refine br (fun q2 => ?_) (fun q2 => ?_)
  rotate_left
  · exact absurd q2 (by rw [show rightB ⟨0, 0, 1, 0⟩ [⟨1, -100⟩] = false by decide +kernel]; simp)
  refine call_rule H10 (fun M I _ h => account 1 (by omega) (by omega) _ M I h) fun _ w10 _ H11 => ?_
  refine Exists.intro () (And.intro (congrArg Value.bool ?_) (And.intro trivial (Hp.keep H11)))
  exact (by decide +kernel : ((accName 1).toList == (⟨#[99, 97, 115, 104]⟩ : ByteArray).toList) = true)
end Go.Proofs.YtenpgmnknmnofaaDoor
