/- What a law that is true leaves: each argument reads as it read. -/
import Derived.Test.YtjlfjjgjghdokaaGreatDoorK4
import Derived.ProofKit
import Derived.OpenShut
import Derived.Lib.SmallJoins
set_option linter.unusedVariables false
namespace Go.Wk
open Go.ChangeShapes Go.WideShapes Go.ChangeAt Go.RowKit Go.Joins
section
variable {H : Type} {enc : TypeId × Value → H} {P : Program} {w w' : World} {base : Nat} {spare : Nat → Bool} {held : Bool}
theorem trod_carry {t : TypeId} {v : Value} {d : DataW H} {ps : List MemPlace} (h : DataW.Trod enc P w base spare held t v d ps) (hs : ∀ p ∈ ps, w.sameAt w' p) : DataW.Trod enc P w' base spare held t v d ps := by
  obtain ⟨n, hn⟩ := h
  exact ⟨n, DataW.trod_carry n _ _ _ hn hs⟩
theorem trodAll_carry : ∀ {ts : List TypeId} {vs : List Value} {ds : List (DataW H)} {ps : List MemPlace}, DataW.TrodAll enc P w base spare held ts vs ds ps → (∀ p ∈ ps, w.sameAt w' p) → DataW.TrodAll enc P w' base spare held ts vs ds ps
  | [], [], [], _, h, _ => h
  | _ :: _, _ :: _, _ :: _, _, ⟨p, q, h1, h2, e⟩, hs => ⟨p, q, trod_carry h1 (fun x hx => hs x (by rw [e]; exact List.mem_append_left _ hx)), trodAll_carry h2 (fun x hx => hs x (by rw [e]; exact List.mem_append_right _ hx)), e⟩
end
theorem sameAt_of {W W' : World} {p : MemPlace} (h : W'.heap[p.block]? = W.heap[p.block]?) : W.sameAt W' p := by
  cases p with
  | cell b off => show W'.cell? _ = W.cell? _; unfold World.cell?; simp only [MemPlace.block] at h; simp only [h]
  | map b => exact h
theorem hp_kept {W W' : World} {I : BS} {S : List Asn} {F : List Fact} (h : Hp ⟨W, fun _ => False, I⟩ S F W') (may : MemPlace → Prop) : W.keptBut W' may := by
  refine ⟨h.os, h.output, fun i hi => ?_⟩
  have hf : W'.heap[i]? = W.heap[i]? := h.frame i hi id
  rw [hf]
  cases hq : W.heap[i]? with
  | none => rfl
  | some o => cases o <;> first | exact ⟨rfl, rfl, rfl, fun _ _ => rfl⟩ | exact Or.inr ⟨rfl, rfl⟩ | rfl
theorem post_true {H : Type} {enc : TypeId × Value → H} {P : Program} {f : Func} {s : ChangeSpec} {apart fresh handsOn : Bool} {W W' : World} {args : Array Value} {ds gs : List (DataW H)} {before : List MemPlace} {I : BS} {S : List Asn} {F : List Fact}
    (K : Kids P (· < P.types.size)) (hz : ∀ t e, t < P.types.size → P.underlying t = some (.slice e) → 0 < P.cellsOf e) (hv : s.vars = []) (hp : ∀ t ∈ f.params.toList, t < P.types.size) {tb : TypeId} (htb : P.underlying tb = some .bool) (hr : f.resultTypes = #[tb])
    (hW : DataW.Whole enc P f.params.toList s.vars apart W args.toList ds gs before) (hfn : gs = [] → s.fn H ds = { results := [.lit (.bool true)], args := ds }) (h : Hp ⟨W, fun _ => False, I⟩ S F W') : s.post enc P f apart fresh handsOn false W args (.bool true) W' := by
  have hlt := hW.lt
  have hW0 := hW
  obtain ⟨p, q, hA, hV, rfl, _, _⟩ := hW
  rw [hv] at hV
  obtain ⟨rfl, rfl⟩ := trodVars_none hV
  have e : s.fn H (ds ++ []) = { results := [.lit (.bool true)], args := ds } := by rw [List.append_nil]; exact hfn rfl
  refine ⟨ds, [], _, [], p, [], hW0, ?_, ?_, ?_, hp_kept h _, fun h => by cases h⟩
  · rw [e, hr]
    exact trodAll_mk1 ⟨1, by simp [DataW.trod, Value.cells, htb]⟩
  · rw [e]
    refine DataW.TrodAll.respare K hz hp (trodAll_carry hA fun x hx => ?_) fun x hx => ?_
    · exact sameAt_of (h.frame _ (hlt x (List.mem_append_left _ hx)) id)
    · have := hlt x (List.mem_append_left _ hx)
      exact decide_eq_true this
  · rw [e, hv]; exact rfl
@[reducible] def oldB (w : World) : BS := fun b => b < w.heap.size
theorem cell_lt {w : World} {a : Addr} {v : Value} (h : w.cell? a = some v) : a.block < w.heap.size ∧ a.spot = none := by
  unfold World.cell? at h
  cases hb : w.heap[a.block]? with
  | none => rw [hb] at h; cases h
  | some o =>
    refine ⟨(Array.getElem?_eq_some_iff.1 hb).1, ?_⟩
    rw [hb] at h
    cases o <;> simp only at h
    · cases hs : a.spot with
      | none => rfl
      | some x => rw [hs] at h; simp at h
    all_goals cases h
section
variable {H : Type} {enc : TypeId × Value → H} {P : Program} {w : World} {base : Nat} {spare : Nat → Bool} {held : Bool} {α : Type}
theorem sl_of_cells [Inhabited α] {r : Rp α} {t e : TypeId} (ht : P.underlying t = some (.slice e)) (hc : P.cellsOf e = r.sz) (h1 : 1 ≤ r.sz)
    (hel : ∀ n cs x, DataW.trod enc P w base spare held n e cs = some x → ∃ y p, r.ok y p ∧ cs = r.cells y p ∧ All (r.facts y p) w (oldB w)) {n : Nat} {cs : List Value} {x : DataW H × List MemPlace} (h : DataW.trod enc P w base spare held n t cs = some x) :
    ∃ A n c ls, cs = [.slice A n c] ∧ (Sl r (.slice A n c) ls).holds w (oldB w) := by
  rcases Deep.open_slice ht h with ⟨rfl, _⟩ | ⟨a, len, cap, m, n, D, Pl, rfl, hb, hl, hm, hmm, _, hx⟩
  · exact ⟨none, 0, 0, [], rfl, none, 0, rfl, Nat.le_refl _, by decide, fun _ => rfl, fun i x h => by simp at h⟩
  · have hle : len ≤ m := by rw [hmm]; split <;> omega
    obtain ⟨f, hf⟩ := Deep.choose_lt (α := α) (n := len) (p := fun i y => ∃ b o, a = ⟨b, o, none⟩ ∧ oldB w b ∧ r.At w (oldB w) b (o + i * r.sz) y) fun i hi => by
      obtain ⟨cs', g1, g2⟩ := hx i (by omega)
      obtain ⟨y, p, ok, rfl, hfa⟩ := hel _ _ _ g2
      obtain ⟨_, hlen, hcell⟩ := World.cells?_some g1
      rw [hc] at hcell hlen
      have c0 : w.cell? (a.add (0 * P.cellsOf e)) ≠ none := by
        obtain ⟨cs0, g0, _⟩ := hx 0 (by omega)
        obtain ⟨_, hl0, hc0⟩ := World.cells?_some g0
        have := hc0 0 (by omega)
        rw [show (a.add (0 * P.cellsOf e)).add 0 = a.add (0 * P.cellsOf e) from rfl] at this
        rw [this, List.getElem?_eq_getElem (by omega)]
        simp
      obtain ⟨v0, hv0⟩ := Option.ne_none_iff_exists'.1 c0
      rw [Nat.zero_mul] at hv0
      have := cell_lt (show w.cell? a = some v0 from hv0)
      obtain ⟨ab, ao, as⟩ := a
      obtain ⟨this, rfl⟩ : ab < w.heap.size ∧ as = none := this
      refine ⟨y, ab, ao, rfl, this, p, ok, fun j v hj => ?_, hfa⟩
      have hjl : j < r.sz := by have := (List.getElem?_eq_some_iff.1 hj).1; omega
      have := hcell j hjl
      rw [add_plain, add_plain] at this
      rw [this, hj]
    refine ⟨some a, len, cap, (List.range len).map f, rfl, some a, cap, (by simp), (by simpa using hl), hm, (fun h => by cases h), fun i x hi => ?_⟩
    simp only [List.getElem?_map, Option.map_eq_some_iff] at hi
    obtain ⟨j, hj, rfl⟩ := hi
    obtain ⟨hj1, rfl⟩ := List.getElem?_eq_some_iff.1 hj
    rw [List.length_range] at hj1
    obtain ⟨b, o, rfl, hb, hat⟩ := hf i hj1
    simp only [List.getElem_range]
    exact ⟨b, o, rfl, hb, hat⟩
theorem sl_of_trod [Inhabited α] {r : Rp α} {t e : TypeId} (ht : P.underlying t = some (.slice e)) (hc : P.cellsOf e = r.sz) (h1 : 1 ≤ r.sz)
    (hel : ∀ n cs x, DataW.trod enc P w base spare held n e cs = some x → ∃ y p, r.ok y p ∧ cs = r.cells y p ∧ All (r.facts y p) w (oldB w)) {v : Value} {d : DataW H} {ps : List MemPlace} (h : DataW.Trod enc P w base spare held t v d ps) (hv : ∀ cs, v ≠ .agg cs) :
    ∃ A n c ls, v = .slice A n c ∧ (Sl r (.slice A n c) ls).holds w (oldB w) := by
  obtain ⟨n, hn⟩ := h
  obtain ⟨A, m, c, ls, e, h⟩ := sl_of_cells ht hc h1 hel hn
  refine ⟨A, m, c, ls, ?_, h⟩
  have : Value.cells v = #[v] := by cases v <;> first | rfl | exact absurd rfl (hv _)
  rw [this] at e
  simpa using e
theorem hp_old (w : World) (F : List Fact) (hF : All F w (oldB w)) : Hp ⟨w, fun _ => False, oldB w⟩ [] F w :=
  ⟨rfl, rfl, rfl, Nat.le_refl _, fun _ _ _ => rfl, oldB w, fun _ => False, fun _ h => h, hF, fun b hb => .inl hb, fun b hb => hb, fun b hb => hb, fun b hb => hb.elim, fun b hb => hb.elim⟩
end
theorem not_agg {P : Program} {w : World} {r : Reach} {b : Nat} {t e : TypeId} {v : Value} (ht : P.underlying t = some (.slice e)) (hv : Value.okWide P w r b t v) : ∀ cs, v ≠ .agg cs := by
  intro cs h
  subst h
  unfold Value.okWide at hv
  simp only [ht] at hv
  unfold Cell.okWide Cell.ok at hv
  simp [ht] at hv
theorem inK_of_wf {k : IntKind} {n : Int} (h : (Lit.int k n).wf = true) : inK k n := by
  have h1 : k.min ≤ n ∧ n ≤ k.max := by
    simp only [Lit.wf, Bool.and_eq_true, decide_eq_true_eq] at h
    exact h
  have e : k.min = kLo k ∧ k.max = kHi k := by cases k <;> exact ⟨rfl, rfl⟩
  rw [e.1, e.2] at h1
  exact h1
theorem wf_of_inK {k : IntKind} {n : Int} (h : inK k n) : (Lit.int k n).wf = true := by
  have e : k.min = kLo k ∧ k.max = kHi k := by cases k <;> exact ⟨rfl, rfl⟩
  simp only [Lit.wf, Bool.and_eq_true, decide_eq_true_eq, e.1, e.2]
  exact h
end Go.Wk
/- Readings of many arguments. -/
namespace Go.Wk
open Go.ChangeShapes
section
variable {H : Type} {enc : TypeId × Value → H} {P : Program} {w : World} {base : Nat} {spare : Nat → Bool} {held : Bool}
theorem trodAll_five {t0 t1 t2 t3 t4 : TypeId} {args : Array Value} {ds : List (DataW H)} {ps : List MemPlace} (h : DataW.TrodAll enc P w base spare held [t0, t1, t2, t3, t4] args.toList ds ps) :
    ∃ v0 v1 v2 v3 v4 d0 d1 d2 d3 d4 p0 p1 p2 p3 p4, args = #[v0, v1, v2, v3, v4] ∧ ds = [d0, d1, d2, d3, d4] ∧ DataW.Trod enc P w base spare held t0 v0 d0 p0 ∧ DataW.Trod enc P w base spare held t1 v1 d1 p1 ∧ DataW.Trod enc P w base spare held t2 v2 d2 p2 ∧ DataW.Trod enc P w base spare held t3 v3 d3 p3 ∧ DataW.Trod enc P w base spare held t4 v4 d4 p4 := by
  obtain ⟨v0, vs0, d0, ds0, p0, q0, hargs, rfl, rfl, h0, r0⟩ := trodAll_cons h
  obtain ⟨v1, vs1, d1, ds1, p1, q1, rfl, rfl, rfl, h1, r1⟩ := trodAll_cons r0
  obtain ⟨v2, vs2, d2, ds2, p2, q2, rfl, rfl, rfl, h2, r2⟩ := trodAll_cons r1
  obtain ⟨v3, vs3, d3, ds3, p3, q3, rfl, rfl, rfl, h3, r3⟩ := trodAll_cons r2
  obtain ⟨v4, vs4, d4, ds4, p4, q4, rfl, rfl, rfl, h4, r4⟩ := trodAll_cons r3
  obtain ⟨rfl, rfl, rfl⟩ := trodAll_nil r4
  exact ⟨v0, v1, v2, v3, v4, d0, d1, d2, d3, d4, p0, p1, p2, p3, p4, by cases args; simp_all, rfl, h0, h1, h2, h3, h4⟩
theorem trodAll_six {t0 t1 t2 t3 t4 t5 : TypeId} {args : Array Value} {ds : List (DataW H)} {ps : List MemPlace} (h : DataW.TrodAll enc P w base spare held [t0, t1, t2, t3, t4, t5] args.toList ds ps) :
    ∃ v0 v1 v2 v3 v4 v5 d0 d1 d2 d3 d4 d5 p0 p1 p2 p3 p4 p5, args = #[v0, v1, v2, v3, v4, v5] ∧ ds = [d0, d1, d2, d3, d4, d5] ∧ DataW.Trod enc P w base spare held t0 v0 d0 p0 ∧ DataW.Trod enc P w base spare held t1 v1 d1 p1 ∧ DataW.Trod enc P w base spare held t2 v2 d2 p2 ∧ DataW.Trod enc P w base spare held t3 v3 d3 p3 ∧ DataW.Trod enc P w base spare held t4 v4 d4 p4 ∧ DataW.Trod enc P w base spare held t5 v5 d5 p5 := by
  obtain ⟨v0, vs0, d0, ds0, p0, q0, hargs, rfl, rfl, h0, r0⟩ := trodAll_cons h
  obtain ⟨v1, vs1, d1, ds1, p1, q1, rfl, rfl, rfl, h1, r1⟩ := trodAll_cons r0
  obtain ⟨v2, vs2, d2, ds2, p2, q2, rfl, rfl, rfl, h2, r2⟩ := trodAll_cons r1
  obtain ⟨v3, vs3, d3, ds3, p3, q3, rfl, rfl, rfl, h3, r3⟩ := trodAll_cons r2
  obtain ⟨v4, vs4, d4, ds4, p4, q4, rfl, rfl, rfl, h4, r4⟩ := trodAll_cons r3
  obtain ⟨v5, vs5, d5, ds5, p5, q5, rfl, rfl, rfl, h5, r5⟩ := trodAll_cons r4
  obtain ⟨rfl, rfl, rfl⟩ := trodAll_nil r5
  exact ⟨v0, v1, v2, v3, v4, v5, d0, d1, d2, d3, d4, d5, p0, p1, p2, p3, p4, p5, by cases args; simp_all, rfl, h0, h1, h2, h3, h4, h5⟩
theorem trodAll_seven {t0 t1 t2 t3 t4 t5 t6 : TypeId} {args : Array Value} {ds : List (DataW H)} {ps : List MemPlace} (h : DataW.TrodAll enc P w base spare held [t0, t1, t2, t3, t4, t5, t6] args.toList ds ps) :
    ∃ v0 v1 v2 v3 v4 v5 v6 d0 d1 d2 d3 d4 d5 d6 p0 p1 p2 p3 p4 p5 p6, args = #[v0, v1, v2, v3, v4, v5, v6] ∧ ds = [d0, d1, d2, d3, d4, d5, d6] ∧ DataW.Trod enc P w base spare held t0 v0 d0 p0 ∧ DataW.Trod enc P w base spare held t1 v1 d1 p1 ∧ DataW.Trod enc P w base spare held t2 v2 d2 p2 ∧ DataW.Trod enc P w base spare held t3 v3 d3 p3 ∧ DataW.Trod enc P w base spare held t4 v4 d4 p4 ∧ DataW.Trod enc P w base spare held t5 v5 d5 p5 ∧ DataW.Trod enc P w base spare held t6 v6 d6 p6 := by
  obtain ⟨v0, vs0, d0, ds0, p0, q0, hargs, rfl, rfl, h0, r0⟩ := trodAll_cons h
  obtain ⟨v1, vs1, d1, ds1, p1, q1, rfl, rfl, rfl, h1, r1⟩ := trodAll_cons r0
  obtain ⟨v2, vs2, d2, ds2, p2, q2, rfl, rfl, rfl, h2, r2⟩ := trodAll_cons r1
  obtain ⟨v3, vs3, d3, ds3, p3, q3, rfl, rfl, rfl, h3, r3⟩ := trodAll_cons r2
  obtain ⟨v4, vs4, d4, ds4, p4, q4, rfl, rfl, rfl, h4, r4⟩ := trodAll_cons r3
  obtain ⟨v5, vs5, d5, ds5, p5, q5, rfl, rfl, rfl, h5, r5⟩ := trodAll_cons r4
  obtain ⟨v6, vs6, d6, ds6, p6, q6, rfl, rfl, rfl, h6, r6⟩ := trodAll_cons r5
  obtain ⟨rfl, rfl, rfl⟩ := trodAll_nil r6
  exact ⟨v0, v1, v2, v3, v4, v5, v6, d0, d1, d2, d3, d4, d5, d6, p0, p1, p2, p3, p4, p5, p6, by cases args; simp_all, rfl, h0, h1, h2, h3, h4, h5, h6⟩
theorem trodAll_eight {t0 t1 t2 t3 t4 t5 t6 t7 : TypeId} {args : Array Value} {ds : List (DataW H)} {ps : List MemPlace} (h : DataW.TrodAll enc P w base spare held [t0, t1, t2, t3, t4, t5, t6, t7] args.toList ds ps) :
    ∃ v0 v1 v2 v3 v4 v5 v6 v7 d0 d1 d2 d3 d4 d5 d6 d7 p0 p1 p2 p3 p4 p5 p6 p7, args = #[v0, v1, v2, v3, v4, v5, v6, v7] ∧ ds = [d0, d1, d2, d3, d4, d5, d6, d7] ∧ DataW.Trod enc P w base spare held t0 v0 d0 p0 ∧ DataW.Trod enc P w base spare held t1 v1 d1 p1 ∧ DataW.Trod enc P w base spare held t2 v2 d2 p2 ∧ DataW.Trod enc P w base spare held t3 v3 d3 p3 ∧ DataW.Trod enc P w base spare held t4 v4 d4 p4 ∧ DataW.Trod enc P w base spare held t5 v5 d5 p5 ∧ DataW.Trod enc P w base spare held t6 v6 d6 p6 ∧ DataW.Trod enc P w base spare held t7 v7 d7 p7 := by
  obtain ⟨v0, vs0, d0, ds0, p0, q0, hargs, rfl, rfl, h0, r0⟩ := trodAll_cons h
  obtain ⟨v1, vs1, d1, ds1, p1, q1, rfl, rfl, rfl, h1, r1⟩ := trodAll_cons r0
  obtain ⟨v2, vs2, d2, ds2, p2, q2, rfl, rfl, rfl, h2, r2⟩ := trodAll_cons r1
  obtain ⟨v3, vs3, d3, ds3, p3, q3, rfl, rfl, rfl, h3, r3⟩ := trodAll_cons r2
  obtain ⟨v4, vs4, d4, ds4, p4, q4, rfl, rfl, rfl, h4, r4⟩ := trodAll_cons r3
  obtain ⟨v5, vs5, d5, ds5, p5, q5, rfl, rfl, rfl, h5, r5⟩ := trodAll_cons r4
  obtain ⟨v6, vs6, d6, ds6, p6, q6, rfl, rfl, rfl, h6, r6⟩ := trodAll_cons r5
  obtain ⟨v7, vs7, d7, ds7, p7, q7, rfl, rfl, rfl, h7, r7⟩ := trodAll_cons r6
  obtain ⟨rfl, rfl, rfl⟩ := trodAll_nil r7
  exact ⟨v0, v1, v2, v3, v4, v5, v6, v7, d0, d1, d2, d3, d4, d5, d6, d7, p0, p1, p2, p3, p4, p5, p6, p7, by cases args; simp_all, rfl, h0, h1, h2, h3, h4, h5, h6, h7⟩
theorem trodAll_nine {t0 t1 t2 t3 t4 t5 t6 t7 t8 : TypeId} {args : Array Value} {ds : List (DataW H)} {ps : List MemPlace} (h : DataW.TrodAll enc P w base spare held [t0, t1, t2, t3, t4, t5, t6, t7, t8] args.toList ds ps) :
    ∃ v0 v1 v2 v3 v4 v5 v6 v7 v8 d0 d1 d2 d3 d4 d5 d6 d7 d8 p0 p1 p2 p3 p4 p5 p6 p7 p8, args = #[v0, v1, v2, v3, v4, v5, v6, v7, v8] ∧ ds = [d0, d1, d2, d3, d4, d5, d6, d7, d8] ∧ DataW.Trod enc P w base spare held t0 v0 d0 p0 ∧ DataW.Trod enc P w base spare held t1 v1 d1 p1 ∧ DataW.Trod enc P w base spare held t2 v2 d2 p2 ∧ DataW.Trod enc P w base spare held t3 v3 d3 p3 ∧ DataW.Trod enc P w base spare held t4 v4 d4 p4 ∧ DataW.Trod enc P w base spare held t5 v5 d5 p5 ∧ DataW.Trod enc P w base spare held t6 v6 d6 p6 ∧ DataW.Trod enc P w base spare held t7 v7 d7 p7 ∧ DataW.Trod enc P w base spare held t8 v8 d8 p8 := by
  obtain ⟨v0, vs0, d0, ds0, p0, q0, hargs, rfl, rfl, h0, r0⟩ := trodAll_cons h
  obtain ⟨v1, vs1, d1, ds1, p1, q1, rfl, rfl, rfl, h1, r1⟩ := trodAll_cons r0
  obtain ⟨v2, vs2, d2, ds2, p2, q2, rfl, rfl, rfl, h2, r2⟩ := trodAll_cons r1
  obtain ⟨v3, vs3, d3, ds3, p3, q3, rfl, rfl, rfl, h3, r3⟩ := trodAll_cons r2
  obtain ⟨v4, vs4, d4, ds4, p4, q4, rfl, rfl, rfl, h4, r4⟩ := trodAll_cons r3
  obtain ⟨v5, vs5, d5, ds5, p5, q5, rfl, rfl, rfl, h5, r5⟩ := trodAll_cons r4
  obtain ⟨v6, vs6, d6, ds6, p6, q6, rfl, rfl, rfl, h6, r6⟩ := trodAll_cons r5
  obtain ⟨v7, vs7, d7, ds7, p7, q7, rfl, rfl, rfl, h7, r7⟩ := trodAll_cons r6
  obtain ⟨v8, vs8, d8, ds8, p8, q8, rfl, rfl, rfl, h8, r8⟩ := trodAll_cons r7
  obtain ⟨rfl, rfl, rfl⟩ := trodAll_nil r8
  exact ⟨v0, v1, v2, v3, v4, v5, v6, v7, v8, d0, d1, d2, d3, d4, d5, d6, d7, d8, p0, p1, p2, p3, p4, p5, p6, p7, p8, by cases args; simp_all, rfl, h0, h1, h2, h3, h4, h5, h6, h7, h8⟩
end
end Go.Wk
