/- What a law that is true leaves: each argument reads as it read. -/
import Derived.Test.YtenpgmnknmnofaaDoorWkRow
import Derived.ProofKit
import Derived.OpenShut
import Derived.Lib.SmallJoins
namespace Go.Wk
open Go.ChangeShapes Go.WideShapes Go.ChangeAt Go.RowKit Go.Joins
section
variable {H : Type} {enc : TypeId × Value → H} {P : Program} {w w' : World} {base : Nat} {spare : Nat → Bool} {held : Bool}
theorem trod_carry {t : TypeId} {v : Value} {d : DataW H} {ps : List MemPlace} (h : DataW.Trod enc P w base spare held t v d ps) (hs : ∀ p ∈ ps, w.sameAt w' p) : DataW.Trod enc P w' base spare held t v d ps := by
  obtain ⟨n, hn⟩ := h
  exact ⟨n, DataW.trod_carry n _ _ _ hn hs⟩
theorem trodAll_carry : ∀ {ts : List TypeId} {vs : List Value} {ds : List (DataW H)} {ps : List MemPlace}, DataW.TrodAll enc P w base spare held ts vs ds ps → (∀ p ∈ ps, w.sameAt w' p) → DataW.TrodAll enc P w' base spare held ts vs ds ps
  | [], [], [], _, h, _ => h
  | _ :: _, _ :: _, _ :: _, _, ⟨p, q, h1, h2, e⟩, hs => ⟨p, q, trod_carry h1 (fun x hx => hs x (by rw [e]; exact List.mem_append_left _ hx)), trodAll_carry h2 (fun x hx => hs x (by rw [e]; exact List.mem_append_right _ hx)), e⟩
end
theorem sameAt_of {W W' : World} {p : MemPlace} (h : W'.heap[p.block]? = W.heap[p.block]?) : W.sameAt W' p := by
  cases p with
  | cell b off => show W'.cell? _ = W.cell? _; unfold World.cell?; simp only [MemPlace.block] at h; simp only [h]
  | map b => exact h
theorem hp_kept {W W' : World} {I : BS} {S : List Asn} {F : List Fact} (h : Hp ⟨W, fun _ => False, I⟩ S F W') (may : MemPlace → Prop) : W.keptBut W' may := by
  refine ⟨h.os, h.output, fun i hi => ?_⟩
  have hf : W'.heap[i]? = W.heap[i]? := h.frame i hi id
  rw [hf]
  cases hq : W.heap[i]? with
  | none => rfl
  | some o => cases o <;> first | exact ⟨rfl, rfl, rfl, fun _ _ => rfl⟩ | exact Or.inr ⟨rfl, rfl⟩ | rfl
theorem post_true {H : Type} {enc : TypeId × Value → H} {P : Program} {f : Func} {s : ChangeSpec} {apart fresh handsOn : Bool} {W W' : World} {args : Array Value} {ds gs : List (DataW H)} {before : List MemPlace} {I : BS} {S : List Asn} {F : List Fact}
    (K : Kids P (· < P.types.size)) (hz : ∀ t e, t < P.types.size → P.underlying t = some (.slice e) → 0 < P.cellsOf e) (hv : s.vars = []) (hp : ∀ t ∈ f.params.toList, t < P.types.size) {tb : TypeId} (htb : P.underlying tb = some .bool) (hr : f.resultTypes = #[tb])
    (hW : DataW.Whole enc P f.params.toList s.vars apart W args.toList ds gs before) (hfn : gs = [] → s.fn H ds = { results := [.lit (.bool true)], args := ds }) (h : Hp ⟨W, fun _ => False, I⟩ S F W') : s.post enc P f apart fresh handsOn false W args (.bool true) W' := by
  have hlt := hW.lt
  have hW0 := hW
  obtain ⟨p, q, hA, hV, rfl, _, _⟩ := hW
  rw [hv] at hV
  obtain ⟨rfl, rfl⟩ := trodVars_none hV
  have e : s.fn H (ds ++ []) = { results := [.lit (.bool true)], args := ds } := by rw [List.append_nil]; exact hfn rfl
  refine ⟨ds, [], _, [], p, [], hW0, ?_, ?_, ?_, hp_kept h _, fun h => by cases h⟩
  · rw [e, hr]
    exact trodAll_mk1 ⟨1, by simp [DataW.trod, Value.cells, htb]⟩
  · rw [e]
    refine DataW.TrodAll.respare K hz hp (trodAll_carry hA fun x hx => ?_) fun x hx => ?_
    · exact sameAt_of (h.frame _ (hlt x (List.mem_append_left _ hx)) id)
    · have := hlt x (List.mem_append_left _ hx)
      exact decide_eq_true this
  · rw [e, hv]; exact rfl
@[reducible] def oldB (w : World) : BS := fun b => b < w.heap.size
theorem cell_lt {w : World} {a : Addr} {v : Value} (h : w.cell? a = some v) : a.block < w.heap.size ∧ a.spot = none := by
  unfold World.cell? at h
  cases hb : w.heap[a.block]? with
  | none => rw [hb] at h; cases h
  | some o =>
    refine ⟨(Array.getElem?_eq_some_iff.1 hb).1, ?_⟩
    rw [hb] at h
    cases o <;> simp only at h
    · cases hs : a.spot with
      | none => rfl
      | some x => rw [hs] at h; simp at h
    all_goals cases h
section
variable {H : Type} {enc : TypeId × Value → H} {P : Program} {w : World} {base : Nat} {spare : Nat → Bool} {held : Bool} {α : Type}
theorem sl_of_cells [Inhabited α] {r : Rp α} {t e : TypeId} (ht : P.underlying t = some (.slice e)) (hc : P.cellsOf e = r.sz) (h1 : 1 ≤ r.sz)
    (hel : ∀ n cs x, DataW.trod enc P w base spare held n e cs = some x → ∃ y p, r.ok y p ∧ cs = r.cells y p ∧ All (r.facts y p) w (oldB w)) {n : Nat} {cs : List Value} {x : DataW H × List MemPlace} (h : DataW.trod enc P w base spare held n t cs = some x) :
    ∃ A n c ls, cs = [.slice A n c] ∧ (Sl r (.slice A n c) ls).holds w (oldB w) := by
  rcases Deep.open_slice ht h with ⟨rfl, _⟩ | ⟨a, len, cap, m, n, D, Pl, rfl, hb, hl, hm, hmm, _, hx⟩
  · exact ⟨none, 0, 0, [], rfl, none, 0, rfl, Nat.le_refl _, by decide, fun _ => rfl, fun i x h => by simp at h⟩
  · have hle : len ≤ m := by rw [hmm]; split <;> omega
    obtain ⟨f, hf⟩ := Deep.choose_lt (α := α) (n := len) (p := fun i y => ∃ b o, a = ⟨b, o, none⟩ ∧ oldB w b ∧ r.At w (oldB w) b (o + i * r.sz) y) fun i hi => by
      obtain ⟨cs', g1, g2⟩ := hx i (by omega)
      obtain ⟨y, p, ok, rfl, hfa⟩ := hel _ _ _ g2
      obtain ⟨_, hlen, hcell⟩ := World.cells?_some g1
      rw [hc] at hcell hlen
      have c0 : w.cell? (a.add (0 * P.cellsOf e)) ≠ none := by
        obtain ⟨cs0, g0, _⟩ := hx 0 (by omega)
        obtain ⟨_, hl0, hc0⟩ := World.cells?_some g0
        have := hc0 0 (by omega)
        rw [show (a.add (0 * P.cellsOf e)).add 0 = a.add (0 * P.cellsOf e) from rfl] at this
        rw [this, List.getElem?_eq_getElem (by omega)]
        simp
      obtain ⟨v0, hv0⟩ := Option.ne_none_iff_exists'.1 c0
      rw [Nat.zero_mul] at hv0
      have := cell_lt (show w.cell? a = some v0 from hv0)
      obtain ⟨ab, ao, as⟩ := a
      obtain ⟨this, rfl⟩ : ab < w.heap.size ∧ as = none := this
      refine ⟨y, ab, ao, rfl, this, p, ok, fun j v hj => ?_, hfa⟩
      have hjl : j < r.sz := by have := (List.getElem?_eq_some_iff.1 hj).1; omega
      have := hcell j hjl
      rw [add_plain, add_plain] at this
      rw [this, hj]
    refine ⟨some a, len, cap, (List.range len).map f, rfl, some a, cap, (by simp), (by simpa using hl), hm, (fun h => by cases h), fun i x hi => ?_⟩
    simp only [List.getElem?_map, Option.map_eq_some_iff] at hi
    obtain ⟨j, hj, rfl⟩ := hi
    obtain ⟨hj1, rfl⟩ := List.getElem?_eq_some_iff.1 hj
    rw [List.length_range] at hj1
    obtain ⟨b, o, rfl, hb, hat⟩ := hf i hj1
    simp only [List.getElem_range]
    exact ⟨b, o, rfl, hb, hat⟩
theorem sl_of_trod [Inhabited α] {r : Rp α} {t e : TypeId} (ht : P.underlying t = some (.slice e)) (hc : P.cellsOf e = r.sz) (h1 : 1 ≤ r.sz)
    (hel : ∀ n cs x, DataW.trod enc P w base spare held n e cs = some x → ∃ y p, r.ok y p ∧ cs = r.cells y p ∧ All (r.facts y p) w (oldB w)) {v : Value} {d : DataW H} {ps : List MemPlace} (h : DataW.Trod enc P w base spare held t v d ps) (hv : ∀ cs, v ≠ .agg cs) :
    ∃ A n c ls, v = .slice A n c ∧ (Sl r (.slice A n c) ls).holds w (oldB w) := by
  obtain ⟨n, hn⟩ := h
  obtain ⟨A, m, c, ls, e, h⟩ := sl_of_cells ht hc h1 hel hn
  refine ⟨A, m, c, ls, ?_, h⟩
  have : Value.cells v = #[v] := by cases v <;> first | rfl | exact absurd rfl (hv _)
  rw [this] at e
  simpa using e
theorem hp_old (w : World) (F : List Fact) (hF : All F w (oldB w)) : Hp ⟨w, fun _ => False, oldB w⟩ [] F w :=
  ⟨rfl, rfl, rfl, Nat.le_refl _, fun _ _ _ => rfl, oldB w, fun _ => False, fun _ h => h, hF, fun b hb => .inl hb, fun b hb => hb, fun b hb => hb, fun b hb => hb.elim, fun b hb => hb.elim⟩
end
theorem not_agg {P : Program} {w : World} {r : Reach} {b : Nat} {t e : TypeId} {v : Value} (ht : P.underlying t = some (.slice e)) (hv : Value.okWide P w r b t v) : ∀ cs, v ≠ .agg cs := by
  intro cs h
  subst h
  unfold Value.okWide at hv
  simp only [ht] at hv
  unfold Cell.okWide Cell.ok at hv
  simp [ht] at hv
theorem inK_of_wf {k : IntKind} {n : Int} (h : (Lit.int k n).wf = true) : inK k n := by
  have h1 : k.min ≤ n ∧ n ≤ k.max := by
    simp only [Lit.wf, Bool.and_eq_true, decide_eq_true_eq] at h
    exact h
  have e : k.min = kLo k ∧ k.max = kHi k := by cases k <;> exact ⟨rfl, rfl⟩
  rw [e.1, e.2] at h1
  exact h1
theorem wf_of_inK {k : IntKind} {n : Int} (h : inK k n) : (Lit.int k n).wf = true := by
  have e : k.min = kLo k ∧ k.max = kHi k := by cases k <;> exact ⟨rfl, rfl⟩
  simp only [Lit.wf, Bool.and_eq_true, decide_eq_true_eq, e.1, e.2]
  exact h
end Go.Wk
