/- An order in words: the walk; words tell the order. -/
import Derived.Test.YtgbmambkgcjhfaaGreatDoorD41
import Derived.Test.YtgbmambkgcjhfaaGreatDoorD38
set_option linter.unusedVariables false
namespace Go.Proofs.YtgbmambkgcjhfaaGreatDoor
open Go Go.Proofs Go.Wk Go.Pl
/-- strings.Join of a row of one's own. -/
theorem joinR (A : Option Addr) (n c : Nat) (xs : List ByteArray) (hx : xs.length = n) (h1 : 1 ≤ n) (hn : n ≤ 1000) (hlen : (Lib.join (xs.map (·.data.toList)) [32]).length ≤ 140737488355328) (w : World) (M I : BS) (H : Hp ⟨w, M, I⟩ [row 9 1 (.slice A n c) n (xs.map Value.string)] [] w) :
    Ctr Tryz.prog 50 [.slice A n c, .string ⟨#[32]⟩] w M I (fun _ : Unit => .string (strOf (Lib.join (xs.map (·.data.toList)) [32]))) (fun _ => True) (fun _ => []) (fun _ => []) := by
  subst hx
  obtain ⟨fa, ha⟩ := Hp.own (A := row 9 1 (.slice A xs.length c) xs.length (xs.map Value.string)) (S' := []) (hp := ⟨.refl _⟩) H
  obtain ⟨A', c', e, hcn, hcm, hb⟩ := row_shape ha
  injection e with e1 e2 e3
  subst e1 e3
  obtain ⟨b, rfl⟩ := hb (by omega)
  obtain ⟨_, _, hcells, hnc, hfb⟩ := row_cells ha rfl
  have hlt : b < w.heap.size := (row 9 1 _ _ _).lt ha hfb
  have hc : Ctr Tryz.prog 50 [.slice (some ⟨b, 0, none⟩) xs.length c, .string ⟨#[32]⟩] w M I (fun _ : Unit => .string (strOf (Lib.join (xs.map (·.data.toList)) [32]))) (fun _ => True) (fun _ => [row 9 1 (.slice (some ⟨b, 0, none⟩) xs.length c) xs.length (xs.map Value.string)]) (fun _ => []) := Ctr.of_below H Tryz.call50 ((Tryz.strings_Join b 0 c xs ⟨#[32]⟩ w (fun j x hj => by
    have := hcells j (.string x) (by rw [List.getElem?_map, hj]; rfl)
    rwa [Nat.zero_add] at this ⊢) hlt (by omega) hnc hlen).mono fun e w' hh => ⟨(), hh.1, trivial, hh.2⟩)
  exact hc.imp fun a w' hφ hh => ⟨(), rfl, trivial, Hp.keep hh⟩
theorem fmtW (n : Int) (h0 : 0 ≤ n) (h1 : n < 18446744073709551616) (w : World) (M I : BS) (H : Hp ⟨w, M, I⟩ [] [LibF] w) :
    Ctr Tryz.prog 46 [.int .u64 (IntKind.u64.wrap n), .int .i64 10] w M I (fun _ : Unit => .string (strOf (Lib.itoa n))) (fun _ => True) (fun _ => []) (fun _ => []) := by
  rw [u64_of h0 h1, itoa_nat h0]; exact formatUint n.toNat (by omega) w M I H
def wBoard : List UInt8 := [98, 111, 97, 114, 100]
def wRev : List UInt8 := [114, 101, 118, 101, 114, 115, 101]
def wStep : List UInt8 := [115, 116, 101, 112]
def odW2 (o : Od) (dl : List UInt8) : List (List UInt8) := bsL (kindName o.ev.kind) :: Lib.itoa o.loan :: Lib.itoa o.ev.seq :: dl :: (if o.ev.kind = 7 then [] else [coinL o.ev.amt])
/-- An order's words. -/
def OdW (o : Od) (l : List (List UInt8)) : Prop :=
  (o.kind = 1 ∧ ∃ y m d, Dat y m d ∧ numD y m d = o.tm.start ∧ l = wBoard :: Lib.itoa o.loan :: tmWords o.tm (datL y m d)) ∨
  (o.kind = 2 ∧ ∃ y m d, Dat y m d ∧ numD y m d = o.ev.day ∧ l = odW2 o (datL y m d)) ∨
  (o.kind = 3 ∧ l = [wRev, Lib.itoa o.loan, Lib.itoa o.ev.seq]) ∨
  (o.kind = 4 ∧ l = [wStep])
def OdT (o : Od) (s : ByteArray) : Prop := ∃ l, OdW o l ∧ s = strOf (Lib.join l [32])
theorem OdW.uniq {o : Od} {l l' : List (List UInt8)} (h : OdW o l) (h' : OdW o l') : l = l' := by
  rcases h with ⟨k, y, m, d, hd, hn, e⟩ | ⟨k, y, m, d, hd, hn, e⟩ | ⟨k, e⟩ | ⟨k, e⟩ <;> rcases h' with ⟨k', y', m', d', hd', hn', e'⟩ | ⟨k', y', m', d', hd', hn', e'⟩ | ⟨k', e'⟩ | ⟨k', e'⟩ <;> try (exfalso; omega)
  · obtain ⟨e1, e2, e3⟩ := num_inj hd hd' (hn.trans hn'.symm)
    rw [e, e', e1, e2, e3]
  · obtain ⟨e1, e2, e3⟩ := num_inj hd hd' (hn.trans hn'.symm)
    rw [e, e', e1, e2, e3]
  · rw [e, e']
  · rw [e, e']
theorem OdT.uniq {o : Od} {s s' : ByteArray} (h : OdT o s) (h' : OdT o s') : s = s' := by
  obtain ⟨l, hl, e⟩ := h
  obtain ⟨l', hl', e'⟩ := h'
  rw [e, e', hl.uniq hl']
theorem kind_sp (k : Int) (h : 4 ≤ k ∧ k ≤ 7) : (32 : UInt8) ∉ bsL (kindName k) ∧ (bsL (kindName k)).length ≤ 10 ∧ bsL (kindName k) ≠ wBoard ∧ bsL (kindName k) ≠ wRev ∧ bsL (kindName k) ≠ wStep := by
  have : k = 4 ∨ k = 5 ∨ k = 6 ∨ k = 7 := by omega
  rcases this with rfl | rfl | rfl | rfl <;> decide
theorem kind_inj {a b : Int} (ha : 4 ≤ a ∧ a ≤ 7) (hb : 4 ≤ b ∧ b ≤ 7) (h : bsL (kindName a) = bsL (kindName b)) : a = b := by
  have h1 : a = 4 ∨ a = 5 ∨ a = 6 ∨ a = 7 := by omega
  have h2 : b = 4 ∨ b = 5 ∨ b = 6 ∨ b = 7 := by omega
  rcases h1 with rfl | rfl | rfl | rfl <;> rcases h2 with rfl | rfl | rfl | rfl <;> first | rfl | exact absurd h (by decide)
theorem OdW.sp {o : Od} {l : List (List UInt8)} (ho : odB o = true) (hin : OdIn o) (h : OdW o l) : ∀ x, x ∈ l → (32 : UInt8) ∉ x := by
  have hl : 0 ≤ o.loan ∧ o.loan ≤ 4294967295 := hin.loan
  have hs : 0 ≤ o.ev.seq ∧ o.ev.seq ≤ 4294967295 := hin.ev.seq
  intro x hx
  rcases h with ⟨k, y, m, d, hd, hn, e⟩ | ⟨k, y, m, d, hd, hn, e⟩ | ⟨k, e⟩ | ⟨k, e⟩ <;> rcases od_cases ho with ⟨k', ht, _⟩ | ⟨k', he, _⟩ | ⟨k', _, _⟩ | ⟨k', _, _, _⟩ <;> try (exfalso; omega)
  · rw [e] at hx
    rcases List.mem_cons.1 hx with h | hx
    · rw [h]; decide
    rcases List.mem_cons.1 hx with h | hx
    · rw [h]; exact num_sp hl.1
    exact words_sp (tmB_iff.1 ht) hin.tm.parts.1 hd x hx
  · have ok := evB_iff.1 he
    rw [e] at hx
    unfold odW2 at hx
    rcases List.mem_cons.1 hx with h | hx
    · rw [h]; exact (kind_sp _ ok.kind).1
    rcases List.mem_cons.1 hx with h | hx
    · rw [h]; exact num_sp hl.1
    rcases List.mem_cons.1 hx with h | hx
    · rw [h]; exact num_sp hs.1
    rcases List.mem_cons.1 hx with h | hx
    · rw [h]; exact dat_sp hd
    split at hx
    · cases hx
    · rw [List.mem_singleton.1 hx]; exact coin_sp ok.amt.1
  · rw [e] at hx
    simp only [List.mem_cons, List.not_mem_nil, or_false] at hx
    rcases hx with h | h | h <;> rw [h]
    · decide
    · exact num_sp hl.1
    · exact num_sp hs.1
  · rw [e] at hx
    rw [List.mem_singleton.1 hx]; decide
theorem od_ext' {o p : Od} (h1 : o.kind = p.kind) (h2 : o.loan = p.loan) (h3 : o.tm = p.tm) (h4 : o.ev = p.ev) : o = p := od_ext h1 h2 h3 h4
theorem OdW.inj {o p : Od} {l : List (List UInt8)} (ho : odB o = true) (io : OdIn o) (hp : odB p = true) (ip : OdIn p) (h : OdW o l) (h' : OdW p l) : o = p := by
  have hl : 0 ≤ o.loan ∧ o.loan ≤ 4294967295 := io.loan
  have hl2 : 0 ≤ p.loan ∧ p.loan ≤ 4294967295 := ip.loan
  have hs : 0 ≤ o.ev.seq ∧ o.ev.seq ≤ 4294967295 := io.ev.seq
  have hs2 : 0 ≤ p.ev.seq ∧ p.ev.seq ≤ 4294967295 := ip.ev.seq
  rcases od_cases ho with ⟨k, ht, hv⟩ | ⟨k, he, hv⟩ | ⟨k, hv, he⟩ | ⟨k, hv, he, hz⟩ <;> rcases h with ⟨j, y, m, d, hd, hn, e⟩ | ⟨j, y, m, d, hd, hn, e⟩ | ⟨j, e⟩ | ⟨j, e⟩ <;> try (exfalso; omega)
  all_goals rcases od_cases hp with ⟨k', ht', hv'⟩ | ⟨k', he', hv'⟩ | ⟨k', hv', he'⟩ | ⟨k', hv', he', hz'⟩ <;> rcases h' with ⟨j', y', m', d', hd', hn', e'⟩ | ⟨j', y', m', d', hd', hn', e'⟩ | ⟨j', e'⟩ | ⟨j', e'⟩ <;> try (exfalso; omega)
  all_goals rw [e] at e'
  · injection e' with _ e'
    injection e' with e2 e3
    exact od_ext (k.trans k'.symm) (num_inj2 hl.1 (by omega) hl2.1 (by omega) e2) (TmT.inj (tmB_iff.1 ht) io.tm.parts.1 (tmB_iff.1 ht') ip.tm.parts.1 (s := strOf (Lib.join (tmWords o.tm (datL y m d)) [32])) ⟨y, m, d, hd, hn, rfl⟩ ⟨y', m', d', hd', hn', by rw [e3]⟩) (hv.trans hv'.symm)
  · injection e' with e1 _
    exact absurd e1.symm (kind_sp _ (evB_iff.1 he').kind).2.2.1
  · injection e' with e1 _
    exact absurd e1 (by decide)
  · injection e' with e1 _
    exact absurd e1 (by decide)
  · injection e' with e1 _
    exact absurd e1 (kind_sp _ (evB_iff.1 he).kind).2.2.1
  · have ok := evB_iff.1 he
    have ok' := evB_iff.1 he'
    unfold odW2 at e'
    injection e' with e1 e'
    injection e' with e2 e'
    injection e' with e3 e'
    injection e' with e4 e'
    have f1 := kind_inj ok.kind ok'.kind e1
    have f2 := num_inj2 hl.1 (by omega) hl2.1 (by omega) e2
    have f3 := num_inj2 hs.1 (by omega) hs2.1 (by omega) e3
    obtain ⟨d1, d2, d3⟩ := dat_inj hd hd' e4
    have f4 : o.ev.day = p.ev.day := by rw [← hn, ← hn', d1, d2, d3]
    refine od_ext (k.trans k'.symm) f2 (hv.trans hv'.symm) (ev_ext f3 f4 f1 ?_)
    by_cases h7 : o.ev.kind = 7
    · rw [ok.off h7, ok'.off (f1 ▸ h7)]
    · rw [if_neg h7, if_neg (f1 ▸ h7)] at e'
      injection e' with e5 _
      have a1 := ok.amt
      have a2 := ok'.amt
      exact coin_inj a1.1 (by omega) a2.1 (by omega) e5
  · injection e' with e1 _
    exact absurd e1 (kind_sp _ (evB_iff.1 he).kind).2.2.2.1
  · injection e' with e1 _
    exact absurd e1 (kind_sp _ (evB_iff.1 he).kind).2.2.2.2
  · injection e' with e1 _
    exact absurd e1 (by decide)
  · injection e' with e1 _
    exact absurd e1.symm (kind_sp _ (evB_iff.1 he').kind).2.2.2.1
  · injection e' with e1 e'
    injection e' with e2 e'
    injection e' with e3 e'
    have f3 := num_inj2 hs.1 (by omega) hs2.1 (by omega) e3
    exact od_ext (k.trans k'.symm) (num_inj2 hl.1 (by omega) hl2.1 (by omega) e2) (hv.trans hv'.symm) (by rw [he, he', f3])
  · injection e' with e1 _
    exact absurd e1 (by decide)
  · injection e' with e1 _
    exact absurd e1 (by decide)
  · injection e' with e1 _
    exact absurd e1.symm (kind_sp _ (evB_iff.1 he').kind).2.2.2.2
  · injection e' with e1 _
    exact absurd e1 (by decide)
  · exact od_ext (k.trans k'.symm) (hz.trans hz'.symm) (hv.trans hv'.symm) (he.trans he'.symm)
theorem OdW.ne {o : Od} {l : List (List UInt8)} (h : OdW o l) : ∃ a r, l = a :: r := by
  rcases h with ⟨k, y, m, d, hd, hn, e⟩ | ⟨k, y, m, d, hd, hn, e⟩ | ⟨k, e⟩ | ⟨k, e⟩ <;> exact ⟨_, _, e⟩
/-- Words, split, are the words. -/
theorem OdW.split {o : Od} {l : List (List UInt8)} (ho : odB o = true) (hin : OdIn o) (h : OdW o l) : Lib.splitK [32] 0 (Lib.count (Lib.join l [32]) [32]) (Lib.join l [32]) = l := by
  obtain ⟨a, r, e⟩ := h.ne
  have hs := h.sp ho hin
  subst e
  exact split_join a r hs
theorem OdT.inj {o p : Od} {s : ByteArray} (ho : odB o = true) (io : OdIn o) (hp : odB p = true) (ip : OdIn p) (h : OdT o s) (h' : OdT p s) : o = p := by
  obtain ⟨l, hl, e⟩ := h
  obtain ⟨l', hl', e'⟩ := h'
  have ej := strOf_inj (e.symm.trans e')
  have s1 := hl.split ho io
  rw [ej, hl'.split hp ip] at s1
  exact OdW.inj ho io hp ip (s1 ▸ hl) hl'
theorem join_len3 (c : UInt8) : ∀ (l : List (List UInt8)), (∀ x, x ∈ l → x.length ≤ 300) → (Lib.join l [c]).length ≤ 301 * l.length
  | [], _ => by simp [Lib.join, List.intercalate]
  | [a], h => by
    rw [join_one]
    have := h a List.mem_cons_self
    simp; omega
  | a :: b :: l, h => by
    rw [join_cons, List.length_append, List.length_cons]
    have h1 := h a List.mem_cons_self
    have h2 := join_len3 c (b :: l) fun x hx => h x (List.mem_cons_of_mem _ hx)
    simp only [List.length_cons] at h2 ⊢
    omega
theorem join_bs (xs : List ByteArray) (h : ∀ x, x ∈ xs → x.size ≤ 300) (hn : xs.length ≤ 10) : (Lib.join (xs.map (·.data.toList)) [32]).length ≤ 140737488355328 := by
  have := join_len3 32 (xs.map (·.data.toList)) fun x hx => by
    obtain ⟨y, hy, rfl⟩ := List.mem_map.1 hx
    have := h y hy
    simpa using this
  rw [List.length_map] at this
  omega
theorem num_len {n : Int} (h0 : 0 ≤ n) (h1 : n ≤ 4294967295) : (strOf (Lib.itoa n)).size ≤ 300 := by
  rw [strOf_size]
  exact Nat.le_trans (Lib.itoa_length_le n (by omega) (by omega)) (by decide)
theorem odT1 {o : Od} (k : o.kind = 1) {s : ByteArray} (hs : TmT o.tm s) : OdT o (strOf (Lib.join ([⟨#[98, 111, 97, 114, 100]⟩, strOf (Lib.itoa o.loan), s].map (·.data.toList)) [32])) := by
  obtain ⟨y, m, d, hd, hn, e⟩ := hs
  refine ⟨_, .inl ⟨k, y, m, d, hd, hn, rfl⟩, ?_⟩
  rw [e]
  simp only [List.map_cons, List.map_nil, strOf_data, join_cons, join_one]
  rfl
theorem odT2 {o : Od} (k : o.kind = 2) {y m d : Int} (hd : Dat y m d) (hn : numD y m d = o.ev.day) (h7 : o.ev.kind ≠ 7) : OdT o (strOf (Lib.join ([kindName o.ev.kind, strOf (Lib.itoa o.loan), strOf (Lib.itoa o.ev.seq), strOf (datL y m d), strOf (coinL o.ev.amt)].map (·.data.toList)) [32])) := by
  refine ⟨_, .inr (.inl ⟨k, y, m, d, hd, hn, rfl⟩), ?_⟩
  unfold odW2
  rw [if_neg h7]
  simp only [List.map_cons, List.map_nil, strOf_data]
  rfl
theorem odT2' {o : Od} (k : o.kind = 2) {y m d : Int} (hd : Dat y m d) (hn : numD y m d = o.ev.day) (h7 : o.ev.kind = 7) : OdT o (strOf (Lib.join ([kindName o.ev.kind, strOf (Lib.itoa o.loan), strOf (Lib.itoa o.ev.seq), strOf (datL y m d)].map (·.data.toList)) [32])) := by
  refine ⟨_, .inr (.inl ⟨k, y, m, d, hd, hn, rfl⟩), ?_⟩
  unfold odW2
  rw [if_pos h7]
  simp only [List.map_cons, List.map_nil, strOf_data]
  rfl
theorem odT3 {o : Od} (k : o.kind = 3) : OdT o (strOf (Lib.join ([⟨#[114, 101, 118, 101, 114, 115, 101]⟩, strOf (Lib.itoa o.loan), strOf (Lib.itoa o.ev.seq)].map (·.data.toList)) [32])) := by
  refine ⟨_, .inr (.inr (.inl ⟨k, rfl⟩)), ?_⟩
  simp only [List.map_cons, List.map_nil, strOf_data]
  rfl
theorem odT4 {o : Od} (k : o.kind = 4) : OdT o (strOf (Lib.join (([⟨#[115, 116, 101, 112]⟩] : List ByteArray).map (·.data.toList)) [32])) := ⟨_, .inr (.inr (.inr ⟨k, rfl⟩)), rfl⟩
theorem kindSize (k : Int) (h : 4 ≤ k ∧ k ≤ 7) : (kindName k).size ≤ 300 := by
  have := (kind_sp k h).2.1
  have e : (bsL (kindName k)).length = (kindName k).size := by unfold bsL; simp
  omega
set_option maxHeartbeats 4000000 in
set_option maxRecDepth 20000 in
/-- An order in words. -/
theorem odText (o : Od) (hin : OdIn o) (ho : odB o = true) (w : World) (M I : BS) (H : Hp ⟨w, M, I⟩ [] [LibF] w) :
    Ctr Tryz.prog 18 [odV o] w M I (fun s : ByteArray => .string s) (fun s => OdT o s) (fun _ => []) (fun _ => []) := by
  have hl : 0 ≤ o.loan ∧ o.loan ≤ 4294967295 := hin.loan
  have hs : 0 ≤ o.ev.seq ∧ o.ev.seq ≤ 4294967295 := hin.ev.seq
  have nl := num_len hl.1 hl.2
  have ns := num_len hs.1 hs.2
  refine Exe.of_ev tok Tryz.call18 Tryz.func18 rfl rfl rfl ?_
  refine box_as H (odC o) rfl fun x w1 H1 => ?_
  refine load_rule tok H1 (v := odV o) rfl ?_
  refine call_rule H1 (fun M I _ h => odRightT ho _ M I h) fun _ w2 _ H2 => ?_
  have H2 : Hp ⟨w, M, I⟩ [blk x (odC o) 32] [LibF] w2 := H2.keep
  refine draw_rule (A := []) tok tdr H2 [0, 1, 2, 3, 4, 5, 6, 7, 8, 9, 10] [0, 1, 3, 7, 15, 0, 32, 96, 255, 511, 1023] rfl ?_
  refine pass_rule _ (fun w h => load_rule tok h (v := .int .u32 o.ev.seq) rfl ⟨rfl, rfl⟩) ?_
  refine imp_rule (fun X wx h => call_rule h (fun M I _ h => fmtW o.ev.seq hs.1 (by omega) _ M I h) fun _ w1 _ H1 => imp_done H1 ?_)
  refine pass_rule _ (fun w h => load_rule tok h (v := .int .u32 o.loan) rfl ⟨rfl, rfl⟩) ?_
  refine imp_rule (fun X wx h => call_rule h (fun M I _ h => fmtW o.loan hl.1 (by omega) _ M I h) fun _ w1 _ H1 => imp_done H1 ?_)
  refine done_rule fun w3 H3 => ?_
  have H3 : Hp ⟨w, M, I⟩ [blk x (odC o) 32] [LibF] w3 := H3.keep
  refine load_rule tok H3 (v := .int .u8 o.kind) rfl ?_
  refine Or.elim (od_cases ho) (fun c1 => ?_) (fun c => Or.elim c (fun c2 => ?_) (fun c => Or.elim c (fun c3 => ?_) (fun c4 => ?_)))
  · have k := c1.1
    have ht := c1.2.1
    refine br (fun _ => ?_) (fun q => absurd (show (o.kind == 1) = false from q) (by rw [k]; decide))
    refine load_rule tok H3 (v := tmV o.tm) rfl ?_
    refine call_rule H3 (fun M I _ h => tmText o.tm hin.tm ht (tmB_iff.1 ht) _ M I h) fun s w4 hs4 H4 => ?_
    have hz := tmT_size hin.tm hs4
    refine slice_as tok H4 [.string ⟨#[98, 111, 97, 114, 100]⟩, .string (strOf (Lib.itoa o.loan)), .string s] rfl rfl rfl rfl rfl rfl fun g w5 H5 => ?_
    have H6 : Hp ⟨w, M, I⟩ [row 9 1 (.slice (some ⟨g, 0, none⟩) 3 3) 3 (List.map Value.string [⟨#[98, 111, 97, 114, 100]⟩, strOf (Lib.itoa o.loan), s]), blk x (odC o) 32] [LibF] w5 := Hp.toRow (H5.keep (S := [blk g [.string ⟨#[98, 111, 97, 114, 100]⟩, .string (strOf (Lib.itoa o.loan)), .string s] 9, blk x (odC o) 32])) (g := g) 1 3 rfl (by decide)
    refine call_rule H6 (fun M I _ h => joinR (some ⟨g, 0, none⟩) 3 3 [⟨#[98, 111, 97, 114, 100]⟩, strOf (Lib.itoa o.loan), s] rfl (by decide) (by decide) (join_bs _ (by simp only [List.mem_cons, List.not_mem_nil, or_false]; rintro x (h | h | h) <;> rw [h]; exact (by decide); exact nl; omega) (by show 3 ≤ 10; decide)) _ M I h) fun _ w7 _ H7 => ?_
    exact Exists.intro _ (And.intro rfl (And.intro (odT1 k hs4) (Hp.keep H7)))
  · have k := c2.1
    have ok := evB_iff.1 c2.2.1
    have hk := ok.kind
    have hday : dayB o.ev.day = true := by
      have := ok.day
      simp only [dayB, Bool.and_eq_true, decide_eq_true_eq]; omega
    refine br (fun q => absurd (show (o.kind == 1) = true from q) (by rw [k]; decide)) (fun _ => ?_)
    refine br (fun _ => ?_) (fun q => absurd (show (o.kind == 2) = false from q) (by rw [k]; decide))
    refine draw_rule (A := []) tok tdr H3 [0, 1, 2, 3, 6, 7, 8, 9, 4, 5, 10, 11] [0, 1, 3, 7, 0, 0, 0, 64, 192, 463, 1023, 2047] rfl ?_
    refine pass_rule _ (fun w h => load_rule tok h (v := .int .u8 o.ev.kind) rfl ⟨rfl, rfl⟩) ?_
    refine imp_rule (fun X wx h => call_rule h (fun M I _ h => kind o.ev.kind (by omega) (by omega) _ M I h) fun _ w1 _ H1 => imp_done H1 ?_)
    refine pass_rule _ (fun w h => load_rule tok h (v := .int .i32 o.ev.day) rfl ⟨rfl, rfl⟩) ?_
    refine imp_rule (fun X wx h => call_rule h (fun M I _ h => dayText o.ev.day hday _ M I h) fun a w1 ha H1 => imp_done H1 ?_)
    refine fresh_slice tok [.string (kindName o.ev.kind), .string (strOf (Lib.itoa o.loan)), .string (strOf (Lib.itoa o.ev.seq)), .string (strOf (datL a.1 a.2.1 a.2.2))] rfl rfl rfl rfl rfl rfl rfl fun g => ?_
    refine done_rule fun w4 H4 => ?_
    have nd : (strOf (datL a.1 a.2.1 a.2.2)).size ≤ 300 := by rw [strOf_size, dat_length ha.1]; decide
    have nk := kindSize _ hk
    refine load_rule tok H4 (v := .int .u8 o.ev.kind) rfl ?_
    have H5 : Hp ⟨w, M, I⟩ [row 9 1 (.slice (some ⟨g, 0, none⟩) 4 4) 4 (List.map Value.string [kindName o.ev.kind, strOf (Lib.itoa o.loan), strOf (Lib.itoa o.ev.seq), strOf (datL a.1 a.2.1 a.2.2)]), blk x (odC o) 32] [LibF] w4 := Hp.toRow (H4.keep (S := [blk g [.string (kindName o.ev.kind), .string (strOf (Lib.itoa o.loan)), .string (strOf (Lib.itoa o.ev.seq)), .string (strOf (datL a.1 a.2.1 a.2.2))] 9, blk x (odC o) 32])) (g := g) 1 4 rfl (by decide)
    refine br (fun q => ?_) (fun q => ?_)
    · have q : (!(o.ev.kind == 7)) = true := q
      have h7 : o.ev.kind ≠ 7 := by simpa using q
      have nc : (strOf (coinL o.ev.amt)).size ≤ 300 := by rw [strOf_size]; exact Nat.le_trans (coin_len _ hin.ev.amt) (by decide)
      refine load_rule tok H5 (v := .int .i64 o.ev.amt) rfl ?_
      refine call_rule H5 (fun M I _ h => coinText o.ev.amt hin.ev.amt _ M I h) fun _ w6 _ H6 => ?_
      refine slice_as tok H6 [.string (strOf (coinL o.ev.amt))] rfl rfl rfl rfl rfl rfl fun g2 w7 H7 => ?_
      refine append_rule (v := .slice (some ⟨g, 0, none⟩) 4 4) (b := g2) (m := 1) (c := 1) tok H7 rfl rfl rfl rfl rfl rfl rfl rfl (by decide) (by decide) fun A c w8 H8 => ?_
      have H8 : Hp ⟨w, M, I⟩ [row 9 1 (.slice A 5 c) 5 (List.map Value.string [kindName o.ev.kind, strOf (Lib.itoa o.loan), strOf (Lib.itoa o.ev.seq), strOf (datL a.1 a.2.1 a.2.2), strOf (coinL o.ev.amt)]), blk x (odC o) 32] [LibF] w8 := H8
      refine call_rule H8 (fun M I _ h => joinR A 5 c [kindName o.ev.kind, strOf (Lib.itoa o.loan), strOf (Lib.itoa o.ev.seq), strOf (datL a.1 a.2.1 a.2.2), strOf (coinL o.ev.amt)] rfl (by decide) (by decide) (join_bs _ (by simp only [List.mem_cons, List.not_mem_nil, or_false]; rintro x (h | h | h | h | h) <;> rw [h]; exact nk; exact nl; exact ns; exact nd; exact nc) (by show 5 ≤ 10; decide)) _ M I h) fun _ w9 _ H9 => ?_
      exact Exists.intro _ (And.intro rfl (And.intro (odT2 k ha.1 ha.2 h7) (Hp.keep H9)))
    · have q : (!(o.ev.kind == 7)) = false := q
      have h7 : o.ev.kind = 7 := by simpa using q
      refine call_rule H5 (fun M I _ h => joinR (some ⟨g, 0, none⟩) 4 4 [kindName o.ev.kind, strOf (Lib.itoa o.loan), strOf (Lib.itoa o.ev.seq), strOf (datL a.1 a.2.1 a.2.2)] rfl (by decide) (by decide) (join_bs _ (by simp only [List.mem_cons, List.not_mem_nil, or_false]; rintro x (h | h | h | h) <;> rw [h]; exact nk; exact nl; exact ns; exact nd) (by show 4 ≤ 10; decide)) _ M I h) fun _ w9 _ H9 => ?_
      exact Exists.intro _ (And.intro rfl (And.intro (odT2' k ha.1 ha.2 h7) (Hp.keep H9)))
  · have k := c3.1
    refine br (fun q => absurd (show (o.kind == 1) = true from q) (by rw [k]; decide)) (fun _ => ?_)
    refine br (fun q => absurd (show (o.kind == 2) = true from q) (by rw [k]; decide)) (fun _ => ?_)
    refine br (fun _ => ?_) (fun q => absurd (show (o.kind == 3) = false from q) (by rw [k]; decide))
    refine slice_as tok H3 [.string ⟨#[114, 101, 118, 101, 114, 115, 101]⟩, .string (strOf (Lib.itoa o.loan)), .string (strOf (Lib.itoa o.ev.seq))] rfl rfl rfl rfl rfl rfl fun g w5 H5 => ?_
    have H6 : Hp ⟨w, M, I⟩ [row 9 1 (.slice (some ⟨g, 0, none⟩) 3 3) 3 (List.map Value.string [⟨#[114, 101, 118, 101, 114, 115, 101]⟩, strOf (Lib.itoa o.loan), strOf (Lib.itoa o.ev.seq)]), blk x (odC o) 32] [LibF] w5 := Hp.toRow (H5.keep (S := [blk g [.string ⟨#[114, 101, 118, 101, 114, 115, 101]⟩, .string (strOf (Lib.itoa o.loan)), .string (strOf (Lib.itoa o.ev.seq))] 9, blk x (odC o) 32])) (g := g) 1 3 rfl (by decide)
    refine call_rule H6 (fun M I _ h => joinR (some ⟨g, 0, none⟩) 3 3 [⟨#[114, 101, 118, 101, 114, 115, 101]⟩, strOf (Lib.itoa o.loan), strOf (Lib.itoa o.ev.seq)] rfl (by decide) (by decide) (join_bs _ (by simp only [List.mem_cons, List.not_mem_nil, or_false]; rintro x (h | h | h) <;> rw [h]; exact (by decide); exact nl; exact ns) (by show 3 ≤ 10; decide)) _ M I h) fun _ w7 _ H7 => ?_
    exact Exists.intro _ (And.intro rfl (And.intro (odT3 k) (Hp.keep H7)))
  · have k := c4.1
    refine br (fun q => absurd (show (o.kind == 1) = true from q) (by rw [k]; decide)) (fun _ => ?_)
    refine br (fun q => absurd (show (o.kind == 2) = true from q) (by rw [k]; decide)) (fun _ => ?_)
    refine br (fun q => absurd (show (o.kind == 3) = true from q) (by rw [k]; decide)) (fun _ => ?_)
    refine slice_as tok H3 [.string ⟨#[115, 116, 101, 112]⟩] rfl rfl rfl rfl rfl rfl fun g w5 H5 => ?_
    have H6 : Hp ⟨w, M, I⟩ [row 9 1 (.slice (some ⟨g, 0, none⟩) 1 1) 1 (List.map Value.string [⟨#[115, 116, 101, 112]⟩]), blk x (odC o) 32] [LibF] w5 := Hp.toRow (H5.keep (S := [blk g [.string ⟨#[115, 116, 101, 112]⟩] 9, blk x (odC o) 32])) (g := g) 1 1 rfl (by decide)
    refine call_rule H6 (fun M I _ h => joinR (some ⟨g, 0, none⟩) 1 1 [⟨#[115, 116, 101, 112]⟩] rfl (by decide) (by decide) (join_bs _ (by simp only [List.mem_cons, List.not_mem_nil, or_false]; rintro x h; rw [h]; exact (by decide)) (by show 1 ≤ 10; decide)) _ M I h) fun _ w7 _ H7 => ?_
    exact Exists.intro _ (And.intro rfl (And.intro (odT4 k) (Hp.keep H7)))
theorem odTextNo (o : Od) (ho : odB o = false) (w : World) (M I : BS) (H : Hp ⟨w, M, I⟩ [] [] w) :
    Ctr Tryz.prog 18 [odV o] w M I (fun _ : Unit => .string ⟨#[]⟩) (fun _ => True) (fun _ => []) (fun _ => []) := by
  refine Exe.of_ev tok Tryz.call18 Tryz.func18 rfl rfl rfl ?_
  refine box_as H (odC o) rfl fun b w1 H1 => ?_
  refine load_rule tok H1 (v := odV o) rfl ?_
  refine call_rule H1 (fun M I _ h => odRightF ho _ M I h) fun _ w2 _ H2 => ?_
  exact Exists.intro () (And.intro rfl (And.intro trivial (Hp.keep H2)))
end Go.Proofs.YtgbmambkgcjhfaaGreatDoor
