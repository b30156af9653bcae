/- Parts of a slice that reads; elements that are slices themselves. -/
import Derived.Test.YtenpgmnknmnofaaDoorWkExt
set_option linter.unusedVariables false
namespace Go.Wk
section
variable {P : Program} {T : Tab} {K : Value → World → Prop} {w : World} {B : Base} {S S' : List Asn} {F : List Fact}
theorem andNot_as {t : TypeId} {ox oy : Operand} {k : IntKind} {x y : Int} (v : Int) (hv : k.wrap (BitVec.ofInt k.bits x &&& ~~~BitVec.ofInt k.bits y).toNat = v) (h : K (.int k v) w) : BinK P K w .andNot t ox oy (.int k x) (.int k y) := by
  subst hv
  refine BinK.of ?_ h
  simp [binS, eqGuard, binOp, Op.intBits]
theorem or_as {t : TypeId} {ox oy : Operand} {k : IntKind} {x y : Int} (v : Int) (hv : k.wrap (BitVec.ofInt k.bits x ||| BitVec.ofInt k.bits y).toNat = v) (h : K (.int k v) w) : BinK P K w .or t ox oy (.int k x) (.int k y) := by
  subst hv; exact or_rule h
theorem xor_as {t : TypeId} {ox oy : Operand} {k : IntKind} {x y : Int} (v : Int) (hv : k.wrap (BitVec.ofInt k.bits x ^^^ BitVec.ofInt k.bits y).toNat = v) (h : K (.int k v) w) : BinK P K w .xor t ox oy (.int k x) (.int k y) := by
  subst hv; exact xor_rule h
theorem shl_as {t : TypeId} {ox oy : Operand} {k k' : IntKind} {x y : Int} (v : Int) (hy : 0 ≤ y) (hv : k.wrap (x * 2 ^ min y.toNat k.bits) = v) (h : K (.int k v) w) : BinK P K w .shl t ox oy (.int k x) (.int k' y) := by
  subst hv; exact shl_rule hy h
/-- v[k:] of a slice that reads. -/
theorem slice_lo (hT : T.Ok P) (H : Hp B S F w) {A : Option Addr} {n c k : Nat} {t : TypeId} {α : Type} {r : Rp α} {xs : List α} {lo : Value} {kd : IntKind} {e : TypeId} {it : TypeInfo} [h2 : InSl F A n c r xs] {de : TD} (ht : T t = some ⟨.slice e, it⟩) (hte : T e = some de) (hlo : lo = .int kd k) (hk : k ≤ n) (hsz : de.info.size = r.sz)
    (kk : ∀ A', Hp B S (Sl r (.slice A' (n - k) (c - k)) (xs.drop k) :: F) w → K (.slice A' (n - k) (c - k)) w) : SliceK P K w t (.slice A n c) (some lo) none none := by
  subst hlo
  obtain ⟨hnx, hc, hc2⟩ := H.sll (A := A) (n := n) (c := c)
  have hel : P.underlying t = some (.slice (P.elem t)) := by unfold Program.elem; rw [(hT t _ ht).1]
  have he : P.elem t = e := by unfold Program.elem; rw [(hT t _ ht).1]
  have hs : (sizeOf (P.elem t)).run P w = .ok r.sz w := by rw [he, ← hsz]; exact run_szOf hT hte w
  refine SliceK.of (v := .slice (if c = k then A else A.map (·.add (k * r.sz))) (n - k) (c - k)) (w' := w) ?_ (kk _ (H.facts fun I ha f hf => ?_))
  · rw [run_sliceAt_slice w t _ _ _ _ hel, run_slice_l w t A n c hel kd k (by omega) (by omega), hs]
    simp only [Result.andThen_ok, sliced, Int.toNat_natCast]
  · rcases List.mem_cons.1 hf with rfl | hf
    · obtain ⟨A', c', e1, q1, q2, q3, q4⟩ := ha _ h2.mem
      injection e1 with e1 e2 e3
      subst e1 e3
      refine ⟨_, c - k, by rw [List.length_drop, ← hnx], by rw [List.length_drop]; omega, by omega, fun hA => ?_, fun i x hx => ?_⟩
      · split at hA
        · have := q3 hA; omega
        · cases A with
          | none => have := q3 rfl; omega
          | some a => cases hA
      · rw [List.getElem?_drop] at hx
        obtain ⟨b, o, rfl, hb, hat⟩ := q4 (k + i) x hx
        have hlt := (List.getElem?_eq_some_iff.1 hx).1
        rw [if_neg (by omega)]
        refine ⟨b, o + k * r.sz, by simp [add_plain], hb, ?_⟩
        rwa [Nat.add_mul, ← Nat.add_assoc] at hat
    · exact ha f hf
/-- v[:k:k] of a slice that reads. -/
theorem slice_hm (hT : T.Ok P) (H : Hp B S F w) {A : Option Addr} {n c k : Nat} {t : TypeId} {α : Type} {r : Rp α} {xs : List α} {hi mx : Value} {kd kd' : IntKind} {e : TypeId} {it : TypeInfo} [h2 : InSl F A n c r xs] {de : TD} (ht : T t = some ⟨.slice e, it⟩) (hte : T e = some de) (hhi : hi = .int kd k) (hmx : mx = .int kd' k) (hk : k ≤ n)
    (kk : Hp B S (Sl r (.slice A k k) (xs.take k) :: F) w → K (.slice A k k) w) : SliceK P K w t (.slice A n c) none (some hi) (some mx) := by
  subst hhi hmx
  obtain ⟨hnx, hc, hc2⟩ := H.sll (A := A) (n := n) (c := c)
  have hel : P.underlying t = some (.slice (P.elem t)) := by unfold Program.elem; rw [(hT t _ ht).1]
  have he : P.elem t = e := by unfold Program.elem; rw [(hT t _ ht).1]
  have hs : ∃ s, (sizeOf (P.elem t)).run P w = .ok s w := by rw [he]; exact ⟨_, run_szOf hT hte w⟩
  obtain ⟨s, hs⟩ := hs
  refine SliceK.of (v := .slice A k k) (w' := w) ?_ (kk (H.facts fun I ha f hf => ?_))
  · rw [run_sliceAt_slice w t _ _ _ _ hel, run_slice_hm w t A n c hel kd kd' k k (by omega) (by omega) (by omega), hs]
    simp only [Result.andThen_ok, sliced, Int.toNat_natCast, Nat.zero_mul, Nat.sub_zero]
    congr 2
    split
    · rfl
    · cases A with
      | none => rfl
      | some a => exact congrArg some (addr_zero a)
  · rcases List.mem_cons.1 hf with rfl | hf
    · obtain ⟨A', c', e1, q1, q2, q3, q4⟩ := ha _ h2.mem
      injection e1 with e1 e2 e3
      subst e1 e3
      refine ⟨A, k, by rw [List.length_take, Nat.min_eq_left (by omega)], by rw [List.length_take]; omega, by omega, fun hA => by have := q3 hA; omega, fun i x hx => q4 i x ?_⟩
      rw [List.getElem?_take] at hx
      split at hx
      · exact hx
      · cases hx
    · exact ha f hf
/-- Reading an element of one cell: what it says comes with it. -/
theorem ld1_rule (hT : T.Ok P) (H : Hp B S F w) {α : Type} {r : Rp α} {b o : Nat} {x : α} [hp : InPtr F b o r x] {t : TypeId} {d : TD} (v : r.π → Value) (ht : T t = some d) (ha : isAggD d.desc = false) (hc : ∀ p, r.cells x p = [v p])
    {N : r.π → List Fact} [hn : ∀ p, AppL (r.facts x p) F (N p)] (k : ∀ p, r.ok x p → Hp B S (N p) w → K (v p) w) : LoadK P K w t (.pointer (some ⟨b, o, none⟩)) := by
  obtain ⟨h2, h3, h4, h5, h6, I, fp, hs, hall, q⟩ := H
  obtain ⟨hb, p, hok, hcc, hf⟩ := hall _ hp.mem
  have hcell : w.cell? ⟨b, o, none⟩ = some (v p) := by
    have := hcc 0 (v p) (by rw [hc p]; rfl)
    simpa using this
  refine (LdV.one hT ht ha hcell).load (k p hok ⟨h2, h3, h4, h5, h6, I, fp, hs, fun f hf' => ?_, q⟩)
  rw [(hn p).eq] at hf'
  rcases List.mem_append.1 hf' with h | h
  · exact hf f h
  · exact hall f h
end
end Go.Wk
