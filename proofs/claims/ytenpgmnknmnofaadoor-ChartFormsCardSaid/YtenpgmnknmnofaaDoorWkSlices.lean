/- Slices that are read, pointers to their elements; rows of the call's own. -/
import Derived.Test.YtenpgmnknmnofaaDoorWkRules
set_option linter.unusedVariables false
set_option linter.unusedSimpArgs false
namespace Go.Wk

/-! ### 1. How data lie in cells -/
structure Rp (α : Type) where
  sz : Nat
  π : Type
  cells : α → π → List Value
  ok : α → π → Prop
  facts : α → π → List Fact
  len : ∀ x p, (cells x p).length = sz
/-- Whole numbers of a kind, within its range. -/
def kLo : IntKind → Int
  | .i8 => -128 | .i16 => -32768 | .i32 => -2147483648 | .i64 => -9223372036854775808 | .u8 => 0 | .u16 => 0 | .u32 => 0 | .u64 => 0
def kHi : IntKind → Int
  | .i8 => 127 | .i16 => 32767 | .i32 => 2147483647 | .i64 => 9223372036854775807 | .u8 => 255 | .u16 => 65535 | .u32 => 4294967295 | .u64 => 18446744073709551615
def inK (k : IntKind) (n : Int) : Prop := kLo k ≤ n ∧ n ≤ kHi k
theorem wrap_id {k : IntKind} {n : Int} (h : inK k n) : k.wrap n = n := by
  obtain ⟨h1, h2⟩ := h
  cases k <;> simp only [kLo, kHi] at h1 h2 <;> simp [IntKind.wrap, IntKind.signed, IntKind.bits] <;> omega
theorem w64 {n : Int} (h1 : -9223372036854775808 ≤ n) (h2 : n ≤ 9223372036854775807) : IntKind.i64.wrap n = n := wrap_id ⟨h1, h2⟩
theorem wrap_in (k : IntKind) (n : Int) : inK k (k.wrap n) := by
  cases k <;> simp only [inK, kLo, kHi, IntKind.wrap, IntKind.signed, IntKind.bits] <;> simp <;> (try split) <;> omega
@[reducible] def intR (k : IntKind) : Rp Int := ⟨1, Unit, fun x _ => [.int k x], fun x _ => inK k x, fun _ _ => [], fun _ _ => rfl⟩
@[reducible] def boolR : Rp Bool := ⟨1, Unit, fun x _ => [.bool x], fun _ _ => True, fun _ _ => [], fun _ _ => rfl⟩
@[reducible] def strR : Rp ByteArray := ⟨1, Unit, fun x _ => [.string x], fun x _ => x.size ≤ 140737488355328, fun _ _ => [], fun _ _ => rfl⟩
section
variable {α : Type} (r : Rp α)
def Rp.At (w : World) (I : BS) (b o : Nat) (x : α) : Prop := ∃ p, r.ok x p ∧ CellsAt w b o (r.cells x p) ∧ All (r.facts x p) w I
theorem CellsAt.keep {w w' : World} {b o : Nat} {vs : List Value} (h : CellsAt w b o vs) (hk : w'.heap[b]? = w.heap[b]?) : CellsAt w' b o vs := fun j v hj => by
  rw [← h j v hj]; simp only [World.cell?, hk]
theorem All.keep {F : List Fact} {w w' : World} {I I' : BS} (h : All F w I) (hI : ∀ b, I b → I' b) (hw : ∀ b, I b → w'.heap[b]? = w.heap[b]?) : All F w' I' := fun f hf => f.mono (h f hf) hI hw
variable {r} in
theorem Rp.At.keep {w w' : World} {I I' : BS} {b o : Nat} {x : α} (h : r.At w I b o x) (hb : I b) (hI : ∀ b, I b → I' b) (hw : ∀ b, I b → w'.heap[b]? = w.heap[b]?) : r.At w' I' b o x :=
  let ⟨p, h1, h2, h3⟩ := h
  ⟨p, h1, h2.keep (hw b hb), h3.keep hI hw⟩
/-- An element lies at an address. -/
def Ptr (b o : Nat) (x : α) : Fact := ⟨fun w I => I b ∧ r.At w I b o x, fun ⟨h1, h2⟩ hI hw => ⟨hI _ h1, h2.keep h1 hI hw⟩⟩
/-- A slice reads as a list. -/
def Sl (v : Value) (xs : List α) : Fact where
  holds w I := ∃ A c, v = .slice A xs.length c ∧ xs.length ≤ c ∧ c ≤ 9223372036854775807 ∧ (A = none → c = 0) ∧ ∀ (i : Nat) x, xs[i]? = some x → ∃ b o, A = some ⟨b, o, none⟩ ∧ I b ∧ r.At w I b (o + i * r.sz) x
  mono := fun ⟨A, c, h1, h2, h3, h0, h4⟩ hI hw => ⟨A, c, h1, h2, h3, h0, fun i x hx => let ⟨b, o, e, hb, ha⟩ := h4 i x hx; ⟨b, o, e, hI _ hb, ha.keep hb hI hw⟩⟩
/-- A list of cells reads as a list. -/
def Cl (cs : List Value) (xs : List α) : Fact where
  holds w I := cs.length = xs.length * r.sz ∧ ∀ (i : Nat) x, xs[i]? = some x → ∃ p, r.ok x p ∧ (cs.drop (i * r.sz)).take r.sz = r.cells x p ∧ All (r.facts x p) w I
  mono := fun ⟨h1, h2⟩ hI hw => ⟨h1, fun i x hx => let ⟨p, a, b, c⟩ := h2 i x hx; ⟨p, a, b, c.keep hI hw⟩⟩
end
class InSl (F : List Fact) (A : Option Addr) (n c : Nat) {α : outParam Type} (r : outParam (Rp α)) (xs : outParam (List α)) : Prop where
  mem : Sl r (.slice A n c) xs ∈ F
instance (priority := 2000) InSl.here {α : Type} (r : Rp α) (A : Option Addr) (n c : Nat) (xs : List α) (F : List Fact) : InSl (Sl r (.slice A n c) xs :: F) A n c r xs := ⟨List.mem_cons_self⟩
instance (priority := 1000) InSl.there {α : Type} (r : Rp α) (A : Option Addr) (n c : Nat) (xs : List α) (f : Fact) (F : List Fact) [h : InSl F A n c r xs] : InSl (f :: F) A n c r xs := ⟨List.mem_cons_of_mem _ h.mem⟩
class InPtr (F : List Fact) (b o : Nat) {α : outParam Type} (r : outParam (Rp α)) (x : outParam α) : Prop where
  mem : Ptr r b o x ∈ F
instance (priority := 2000) InPtr.here {α : Type} (r : Rp α) (b o : Nat) (x : α) (F : List Fact) : InPtr (Ptr r b o x :: F) b o r x := ⟨List.mem_cons_self⟩
instance (priority := 1000) InPtr.there {α : Type} (r : Rp α) (b o : Nat) (x : α) (f : Fact) (F : List Fact) [h : InPtr F b o r x] : InPtr (f :: F) b o r x := ⟨List.mem_cons_of_mem _ h.mem⟩
/-- The shape of a slice that reads. -/
theorem Hp.sl {B : Base} {S : List Asn} {F : List Fact} {w : World} {α : Type} {r : Rp α} {v : Value} {xs : List α} (H : Hp B S F w) [hp : InF F (Sl r v xs)] : ∃ A c, v = .slice A xs.length c ∧ xs.length ≤ c ∧ c ≤ 9223372036854775807 := by
  obtain ⟨I, A, c, h1, h2, h3, _, _⟩ := H.fact (f := Sl r v xs)
  exact ⟨A, c, h1, h2, h3⟩
theorem Hp.sll {B : Base} {S : List Asn} {F : List Fact} {w : World} {α : Type} {r : Rp α} {A : Option Addr} {n c : Nat} {xs : List α} (H : Hp B S F w) [hp : InSl F A n c r xs] : n = xs.length ∧ xs.length ≤ c ∧ c ≤ 9223372036854775807 := by
  have hp' : InF F (Sl r (.slice A n c) xs) := ⟨hp.mem⟩
  obtain ⟨A, c, h1, h2, h3⟩ := H.sl (r := r) (v := .slice A n c) (xs := xs)
  injection h1 with e1 e2 e3
  subst e2 e3
  exact ⟨rfl, h2, h3⟩
section
variable {P : Program} {T : Tab} {K : Value → World → Prop} {w : World} {B : Base} {S : List Asn} {F : List Fact}
theorem idx_rule (hT : T.Ok P) (H : Hp B S F w) {α : Type} {r : Rp α} {A : Option Addr} {n c : Nat} {xs : List α} [hp : InSl F A n c r xs] {t e : TypeId} {it : TypeInfo} {de : TD} {kd : IntKind} {j : Int}
    (ht : T t = some ⟨.slice e, it⟩) (he : T e = some de) (hz : de.info.size = r.sz) (h0 : 0 ≤ j) (h1 : j < n)
    (k : ∀ b o x, xs[j.toNat]? = some x → Hp B S (Ptr r b o x :: F) w → K (.pointer (some ⟨b, o, none⟩)) w) : IdxAddrK P K w t (.slice A n c) (.int kd j) := by
  obtain ⟨h2, h3, h4, h5, h6, I, fp, hs, ha, q⟩ := H
  obtain ⟨A', c', e1, q1, q2, _, q3⟩ := ha _ hp.mem
  injection e1 with e1 e2 e3
  subst e1 e2 e3
  obtain ⟨x, hx⟩ : ∃ x, xs[j.toNat]? = some x := ⟨xs[j.toNat]'(by omega), List.getElem?_eq_getElem _⟩
  obtain ⟨b, o, rfl, hb, hat⟩ := q3 _ x hx
  refine IdxAddrK.of (v := .pointer (some ⟨b, o + j.toNat * r.sz, none⟩)) (w' := w) ?_ (k b _ x hx ⟨h2, h3, h4, h5, h6, I, fp, hs, ?_, q⟩)
  · simp [Instr.indexAt, asIntOf, run_und hT ht, h0, h1, run_szOf hT he, hz, add_plain]
  · intro f hf
    rcases List.mem_cons.1 hf with rfl | hf
    · exact ⟨hb, hat⟩
    · exact ha f hf
theorem ldp_rule (hT : T.Ok P) (H : Hp B S F w) {α : Type} {r : Rp α} {b o : Nat} {x : α} [hp : InPtr F b o r x] {t : TypeId} {d : TD} (ht : T t = some d) (ha : isAggD d.desc = true) (hz : d.info.size = r.sz)
    {N : r.π → List Fact} [hn : ∀ p, AppL (r.facts x p) F (N p)] (k : ∀ p, r.ok x p → Hp B S (N p) w → K (.agg (r.cells x p).toArray) w) : LoadK P K w t (.pointer (some ⟨b, o, none⟩)) := by
  obtain ⟨h2, h3, h4, h5, h6, I, fp, hs, hall, q⟩ := H
  obtain ⟨hb, p, hok, hc, hf⟩ := hall _ hp.mem
  refine (LdV.agg hT ht ha hc (by rw [r.len, hz])).load (k p hok ⟨h2, h3, h4, h5, h6, I, fp, hs, fun f hf' => ?_, q⟩)
  rw [(hn p).eq] at hf'
  rcases List.mem_append.1 hf' with h | h
  · exact hf f h
  · exact hall f h
theorem ldp1_rule (hT : T.Ok P) (H : Hp B S F w) {α : Type} {r : Rp α} {b o : Nat} {x : α} [hp : InPtr F b o r x] {t : TypeId} {d : TD} (ht : T t = some d) (ha : isAggD d.desc = false) (hz : 1 = r.sz)
    {N : r.π → List Fact} [hn : ∀ p, AppL (r.facts x p) F (N p)] (k : ∀ p v, r.ok x p → r.cells x p = [v] → Hp B S (N p) w → K v w) : LoadK P K w t (.pointer (some ⟨b, o, none⟩)) := by
  obtain ⟨h2, h3, h4, h5, h6, I, fp, hs, hall, q⟩ := H
  obtain ⟨hb, p, hok, hc, hf⟩ := hall _ hp.mem
  obtain ⟨v, hv⟩ : ∃ v, r.cells x p = [v] := List.length_eq_one_iff.1 (by rw [r.len, ← hz])
  have hcell : w.cell? ⟨b, o, none⟩ = some v := by have := hc 0 v (by rw [hv]; rfl); rwa [Nat.add_zero] at this
  refine (LdV.one hT ht ha hcell).load (k p v hok hv ⟨h2, h3, h4, h5, h6, I, fp, hs, fun f hf' => ?_, q⟩)
  rw [(hn p).eq] at hf'
  rcases List.mem_append.1 hf' with h | h
  · exact hf f h
  · exact hall f h

/-! ### 2. Rows of the call's own -/
theorem ownBlock_some {A : Option Addr} {n c k : Nat} (h : (Value.slice A n c).ownBlock = some k) : ∃ a, A = some a ∧ a.block = k := by
  cases A with
  | none => cases h
  | some a => exact ⟨a, rfl, by simpa [Value.ownBlock] using h⟩
def row (e sz : Nat) (v : Value) (n : Nat) (cs : List Value) : Asn where
  at_ w fp := w.ownsRow 0 e sz v n cs ∧ ∀ b, fp b ↔ v.ownBlock = some b
  loc := by
    rintro w w' fp ⟨⟨h1, h2⟩, h3⟩ hk
    refine ⟨⟨h1, ?_⟩, h3⟩
    rcases h2 with h2 | ⟨g, cap, cur, rfl, hb, hh, r⟩
    · exact .inl h2
    · exact .inr ⟨g, cap, cur, rfl, hb, by rw [hk g ((h3 g).2 (by simp [Value.ownBlock]))]; exact hh, r⟩
  lt := fun ⟨h1, h2⟩ hb => (h1.lt _ ((h2 _).1 hb)).2
class TakeR (S : List Asn) (v : Value) (e sz n : outParam Nat) (cs : outParam (List Value)) (S' : outParam (List Asn)) : Prop where
  perm : S.Perm (row e sz v n cs :: S')
instance (priority := 2000) TakeR.here (v : Value) (e sz n : Nat) (cs : List Value) (S : List Asn) : TakeR (row e sz v n cs :: S) v e sz n cs S := ⟨.refl _⟩
instance (priority := 1000) TakeR.there (v : Value) (e sz n : Nat) (cs : List Value) (b : Asn) (S S' : List Asn) [h : TakeR S v e sz n cs S'] : TakeR (b :: S) v e sz n cs (b :: S') := ⟨(h.perm.cons b).trans (.swap _ b S')⟩
theorem nil_row {w : World} {e sz : Nat} : (row e sz (.slice none 0 0) 0 []).at_ w fun _ => False := ⟨⟨by simp, .inl ⟨rfl, rfl⟩⟩, fun b => by simp [Value.ownBlock]⟩
/-- A nil slice is a row with nothing in it. -/
theorem Hp.nil (H : Hp B S F w) (e sz : Nat) : Hp B (row e sz (.slice none 0 0) 0 [] :: S) F w := by
  obtain ⟨h2, h3, h4, h5, h6, I, fp, hs, q⟩ := H
  exact ⟨h2, h3, h4, h5, h6, I, fp, ⟨_, fp, nil_row, fun _ h => h.elim, fun _ h => h.elim, fun b => by simp, hs⟩, q⟩
theorem row_cells {w : World} {e sz n : Nat} {v : Value} {cs : List Value} {fp : BS} (h : (row e sz v n cs).at_ w fp) {b o m c : Nat} (hv : v = .slice (some ⟨b, o, none⟩) m c) : o = 0 ∧ m = n ∧ CellsAt w b 0 cs ∧ n ≤ c ∧ fp b := by
  subst hv
  obtain ⟨h1, h2⟩ := h
  rcases h1.2 with ⟨h, _⟩ | ⟨g, cap, cur, he, _, hh, hn, hm, hz, hc⟩
  · cases h
  · injection he with e1 e2 e3
    injection e1 with e1
    injection e1 with e1 e4
    subst e1 e2 e3 e4
    refine ⟨rfl, rfl, fun j u hj => ?_, hn, (h2 b).2 (by simp [Value.ownBlock])⟩
    have := h1.cells (g := b) (by simp [Value.ownBlock]) j u hj
    rwa [add_plain] at this
theorem row_shape {w : World} {e sz n : Nat} {v : Value} {cs : List Value} {fp : BS} (h : (row e sz v n cs).at_ w fp) : ∃ A c, v = .slice A n c ∧ n ≤ c ∧ c ≤ maxLen ∧ (n ≠ 0 → ∃ b, A = some ⟨b, 0, none⟩) := by
  rcases h.1.2 with ⟨rfl, rfl⟩ | ⟨g, cap, cur, rfl, _, hh, hn, hm, _⟩
  · exact ⟨none, 0, rfl, Nat.le_refl _, by decide, fun h => absurd rfl h⟩
  · exact ⟨_, cap, rfl, hn, hm, fun _ => ⟨g, rfl⟩⟩
/-- **append(v, x..)**: v a row of one's own, x.. a block of one's own. -/
theorem append_rule (hT : T.Ok P) (H : Hp B S F w) {e sz n m c b : Nat} {v : Value} {cs news : List Value} {S1 S2 : List Asn} {t t0 ty : TypeId} {it : TypeInfo} {de : TD} {z : Value} [h1 : TakeR S v e sz n cs S1] [h2 : TakeB S1 b news t0 S2]
    {cst : List Bool} (ht : T t = some ⟨.slice e, it⟩) (he : T e = some de) (hz : de.info.zero = some z) (hzs : Nat.beq z.cells.size sz = true) (hsz : Nat.beq de.info.size sz = true) (hp : Nat.ble 1 sz = true) (hl : Nat.beq news.length (m * sz) = true) (ho : allOne news = true)
    (hb : (n + m) * de.info.bytes ≤ 140737488355328) (hm : n + m ≤ 140737488355328)
    (k : ∀ A c w', Hp B (row e sz (.slice A (n + m) c) (n + m) (cs ++ news) :: S2) F w' → K (.slice A (n + m) c) w') : BuiltinK P K w .append [t, t] ty cst [v, .slice (some ⟨b, 0, none⟩) m c] := by
  have H1 := H.perm h1.perm
  obtain ⟨fb, hfb⟩ := Hp.own (A := blk b news t0) (S' := row e sz v n cs :: S2) (hp := ⟨(h2.perm.cons _).trans (.swap _ _ _)⟩) H1
  obtain ⟨fa, hfa⟩ := Hp.own (A := row e sz v n cs) (S' := S1) (hp := ⟨.refl _⟩) H1
  have ho' : ∀ u ∈ news, u.oneCell' = true := by
    intro u hu
    clear k hfb H1 h2 H h1 hl
    induction news with
    | nil => cases hu
    | cons a r ih =>
      simp only [allOne, Bool.and_eq_true] at ho
      rcases List.mem_cons.1 hu with rfl | hu
      · exact ho.1
      · exact ih ho.2 hu
  have hsz' := Nat.eq_of_beq_eq_true hsz
  obtain ⟨v', w', hr, hown, hg, _, hat⟩ := run_append_own_at (P := P) w 0 t ty e de.info z sz de.info.bytes (hT t _ ht).1 (hT e _ he).2 hz hsz' rfl (Nat.eq_of_beq_eq_true hzs) (Nat.le_of_ble_eq_true hp) v n cs hfa.1 ⟨b, 0, none⟩ m c news (Nat.eq_of_beq_eq_true hl)
    (fun j u hj => by rw [add_plain]; exact blk_cells hfb j u hj) ho' (by unfold maxLen; omega) hb (Nat.zero_le _)
  have H2 : Hp B (row e sz v' (n + m) (cs ++ news) :: S1) F w' := by
    refine Hp.step (A := row e sz v n cs) (hp := ⟨.refl _⟩) H1 hg.os hg.tape hg.output hg.size fun fa ha => ⟨fun k hk hn => hg.block k hk fun e => hn ((ha.2 k).2 e.symm), fun k => v'.ownBlock = some k, ⟨hown, fun _ => Iff.rfl⟩, fun k hk => ?_⟩
    rcases hat with h | h
    · exact .inl ((ha.2 k).2 (h ▸ hk))
    · rw [h] at hk
      injection hk with hk
      subst hk
      exact .inr (Nat.le_refl _)
  obtain ⟨A, c', rfl, _⟩ := row_shape (w := w') (fp := fun k => v'.ownBlock = some k) ⟨hown, fun _ => Iff.rfl⟩
  refine BuiltinK.of (v := .slice A (n + m) c') (w' := w') ?_ (k A c' w' ?_)
  · simp only [builtin]
    rw [Sem.run_bind]
    have hr' : (Builtin.append_ [t, t].toArray ty [v, .slice (some ⟨b, 0, none⟩) m c].toArray).run P w = .ok (.slice A (n + m) c') w' := hr
    rw [hr']; rfl
  · exact (H2.perm ((h2.perm.cons _).trans (.swap _ _ _))).drop
/-- A row that nobody appends to any more reads as a list. -/
theorem Hp.frzRow (H : Hp B S F w) {S' : List Asn} {e sz n : Nat} {v : Value} {cs : List Value} {α : Type} (r : Rp α) {xs : List α} [h1 : TakeR S v e sz n cs S'] [h2 : InF F (Cl r cs xs)] (hM : ∀ b, ¬ B.M b) (hsz : sz = r.sz) (hp : 0 < sz) : Hp B S' (Sl r v xs :: F) w := by
  refine ((H.perm h1.perm).freeze hM).facts fun I ha f hf => ?_
  rcases List.mem_cons.1 hf with rfl | hf
  · obtain ⟨fp, hrow, hi⟩ := ha _ List.mem_cons_self
    obtain ⟨q1, q2⟩ := ha _ (List.mem_cons_of_mem _ h2.mem)
    obtain ⟨A, c, rfl, hn, hcm, hA⟩ := row_shape hrow
    have hml : maxLen = 9223372036854775807 := rfl
    have hl := hrow.1.1
    subst hsz
    have hnx : n = xs.length := Nat.eq_of_mul_eq_mul_right hp (by rw [← hl, q1])
    refine ⟨A, c, by rw [← hnx], by omega, by omega, fun hA0 => ?_, fun i x hx => ?_⟩
    · subst hA0
      rcases hrow.1.2 with ⟨h, _⟩ | ⟨g, cap, cur, h, _⟩
      · injection h
      · injection h with h; cases h
    have hix : i < xs.length := (List.getElem?_eq_some_iff.1 hx).1
    obtain ⟨b, rfl⟩ := hA (by omega)
    obtain ⟨_, _, hcells, _, hfb⟩ := row_cells hrow rfl
    obtain ⟨p, ok, hcx, hfx⟩ := q2 i x hx
    refine ⟨b, 0, rfl, hi b hfb, p, ok, fun j u hj => ?_, hfx⟩
    rw [← hcx, List.getElem?_take] at hj
    split at hj
    · rw [List.getElem?_drop] at hj
      have := hcells _ _ hj
      rwa [Nat.zero_add] at this ⊢
    · cases hj
  · exact ha f (List.mem_cons_of_mem _ hf)

/-! ### 3. Literals; indices into one's own -/
/-- The parts of a literal, one behind the other: their cells. -/
def seqParts (sz : Nat) : Nat → List (Nat × Value) → Option (List Value)
  | _, [] => some []
  | k, (i, v) :: r => bif Nat.beq i k && Nat.beq v.cells.toList.length sz then (seqParts sz (k + 1) r).map (v.cells.toList ++ ·) else none
theorem foldl_set (vs : List Value) : ∀ (k : Nat) (pre mid post : List Value) (j0 : Nat), mid.length = vs.length → pre.length = k + j0 →
    ((vs.zipIdx j0).foldl (fun (cs : Array Value) (c, j) => cs.setIfInBounds (k + j) c) (pre ++ mid ++ post).toArray) = (pre ++ vs ++ post).toArray := by
  induction vs with
  | nil =>
    intro k pre mid post j0 h _
    obtain rfl := List.length_eq_zero_iff.1 h
    rfl
  | cons v vs ih =>
    intro k pre mid post j0 h hp
    obtain ⟨m, mid, rfl⟩ : ∃ m r, mid = m :: r := by cases mid with
      | nil => cases h
      | cons m r => exact ⟨m, r, rfl⟩
    simp only [List.zipIdx_cons, List.foldl_cons]
    have e : (pre ++ m :: mid ++ post).toArray.setIfInBounds (k + j0) v = ((pre ++ [v]) ++ mid ++ post).toArray := by
      apply Array.ext'
      simp only [Array.toList_setIfInBounds, List.append_assoc]
      rw [← hp, List.set_append_right _ _ (Nat.le_refl _)]
      simp
    rw [e, ih k (pre ++ [v]) mid post (j0 + 1) (by simpa using h) (by simp; omega)]
    simp
theorem fill_seq {sz : Nat} : ∀ (parts : List (Nat × Value)) (k : Nat) (pre rest cs : List Value), seqParts sz k parts = some cs → pre.length = k * sz → rest.length = parts.length * sz →
    Instr.fill (fun i => some (i * sz, sz)) (pre ++ rest).toArray parts = some (pre ++ cs).toArray
  | [], k, pre, rest, cs, h, hp, hr => by
    simp only [seqParts, Option.some.injEq] at h
    subst h
    obtain rfl := List.length_eq_zero_iff.1 (by simpa using hr)
    rfl
  | (i, v) :: r, k, pre, rest, cs, h, hp, hr => by
    simp only [seqParts] at h
    cases hb : Nat.beq i k && Nat.beq v.cells.toList.length sz with
    | false => rw [hb] at h; cases h
    | true =>
      rw [hb] at h
      simp only [cond_true] at h
      simp only [Bool.and_eq_true] at hb
      obtain rfl := Nat.eq_of_beq_eq_true hb.1
      have hv := Nat.eq_of_beq_eq_true hb.2
      obtain ⟨cs', hcs, rfl⟩ := Option.map_eq_some_iff.1 h
      have hr' : rest.length = sz + r.length * sz := by simp only [List.length_cons, Nat.add_mul, Nat.one_mul] at hr; omega
      have hv' : v.cells.size = sz := by simpa using hv
      have e0 : (v.cells.size ≠ sz || decide (i * sz + v.cells.size > (pre ++ rest).toArray.size)) = false := by simp [hv', hp]; omega
      simp only [Instr.fill]
      rw [if_neg (by simpa using e0)]
      have e1 : v.cells.zipIdx.foldl (fun (cs : Array Value) (c, j) => cs.setIfInBounds (i * sz + j) c) (pre ++ rest).toArray = ((pre ++ v.cells.toList) ++ rest.drop sz).toArray := by
        have h3 := foldl_set v.cells.toList (i * sz) pre (rest.take sz) (rest.drop sz) 0 (by rw [List.length_take, hv]; omega) (by simpa using hp)
        rw [List.append_assoc, List.take_append_drop] at h3
        rw [← h3, ← Array.foldl_toList]
        simp
      have ih := fill_seq r (i + 1) (pre ++ v.cells.toList) (rest.drop sz) cs' hcs (by rw [List.length_append, hp, hv, Nat.add_mul, Nat.one_mul]) (by rw [List.length_drop]; omega)
      rw [List.append_assoc] at ih
      rw [List.append_assoc] at e1
      rw [e1, ih]
      simp
theorem run_buildSlice (hT : T.Ok P) {t e : TypeId} {it : TypeInfo} {de : TD} {z : Value} {n : Nat} {parts : List (Nat × Value)} {cs : List Value} (ht : T t = some ⟨.slice e, it⟩) (he : T e = some de) (hz : de.info.zero = some z)
    (hs : seqParts de.info.size 0 parts = some cs) (hn : Nat.beq parts.length n = true) (hb : Nat.ble (n * de.info.size) 16777216 = true) (w : World) : (Instr.buildSlice t n parts.toArray).run P w = .ok (.slice (some ⟨w.heap.size, 0, none⟩) n n) (w.alloc (.cells cs.toArray e)) := by
  have hn' := Nat.eq_of_beq_eq_true hn
  have hb' := Nat.le_of_ble_eq_true hb
  have hfill : ∀ zs : Array Value, zs.size = n * de.info.size → Instr.fill (fun i => some (i * de.info.size, de.info.size)) zs parts = some cs.toArray := fun zs hzs => by
    have := fill_seq parts 0 [] zs.toList cs hs (by simp) (by rw [Array.length_toList, hzs, hn'])
    simpa using this
  have h16 : ¬ (n * de.info.size > 2 ^ 24) := by omega
  simp only [Instr.buildSlice, Sem.run_bind, run_und hT ht, Result.andThen_ok, run_szOf hT he, h16, if_false, Sem.run_ite]
  by_cases h0 : n * de.info.size = 0
  · simp only [h0, if_true, Sem.run_pure, Result.andThen_ok]
    rw [hfill _ (by simp [h0])]
    simp [newRow]
  · simp only [h0, if_false, Sem.run_bind, zero_rule hT he hz, Result.andThen_ok, Sem.run_pure]
    rw [hfill _ (by simp)]
    simp [newRow]
theorem buildSlice_rule (hT : T.Ok P) (H : Hp B S F w) {t e : TypeId} {it : TypeInfo} {de : TD} {z : Value} {n : Nat} {parts : List (Nat × Value)} {cs : List Value} (ht : T t = some ⟨.slice e, it⟩) (he : T e = some de) (hz : de.info.zero = some z)
    (hs : seqParts de.info.size 0 parts = some cs) (hn : Nat.beq parts.length n = true) (hb : Nat.ble (n * de.info.size) 16777216 = true) (k : ∀ g w', Hp B (blk g cs e :: S) F w' → K (.slice (some ⟨g, 0, none⟩) n n) w') : BuildSliceK P K w t n parts :=
  BuildSliceK.of (run_buildSlice hT ht he hz hs hn hb w) (k _ _ (H.alloc _))
theorem idx_own (hT : T.Ok P) {t e : TypeId} {it : TypeInfo} {de : TD} {b o n c : Nat} {kd : IntKind} {j : Int} (ht : T t = some ⟨.slice e, it⟩) (he : T e = some de) (h0 : 0 ≤ j) (h1 : j < n)
    (k : K (.pointer (some ⟨b, o + j.toNat * de.info.size, none⟩)) w) : IdxAddrK P K w t (.slice (some ⟨b, o, none⟩) n c) (.int kd j) := by
  refine IdxAddrK.of ?_ k
  simp [Instr.indexAt, asIntOf, run_und hT ht, h0, h1, run_szOf hT he, add_plain]
end
end Go.Wk
