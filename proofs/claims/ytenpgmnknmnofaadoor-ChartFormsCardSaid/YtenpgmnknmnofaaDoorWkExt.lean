/- Calls of functions that the model itself answers; methods of interface values; package-level variables that nobody writes. -/
import Derived.Test.YtenpgmnknmnofaaDoorWkOps
import Derived.Laws.Externs
import Derived.Stop.Asserts
set_option linter.unusedVariables false
namespace Go.Wk
section
variable {P : Program} {T : Tab} {K : Value → World → Prop} {w : World} {B : Base} {S S' : List Asn} {F : List Fact}
theorem CallK_ext {g : Nat} {fn : Func} {e : Array Value → Sem Value} {args : List Value} {v : Value} {w' : World} (hf : P.funcs[g]? = some fn) (hname : (fn.name == "runtime.NumGoroutine") = false)
    (hb : fn.body.isNone = true) (hn : Extern.findNext fn = none) (he : Extern.find fn = some e) (hr : (e args.toArray).run P w = .ok v w') (k : K v w') : CallK P K w (.func (.func g) #[] #[]) args := by
  refine ⟨?_⟩
  have h := run_callFunc_extern hf hname hb hn he args.toArray w
  rw [hr] at h
  unfold NK
  simp only [Deferred.ofValue, invoke, Sem.run_bind, Sem.run_pure, Result.andThen_ok, Array.append_empty, Array.empty_append]
  rw [h]
  exact k
theorem InvokeK_ext {t : TypeId} {x r : Value} {m : String} {g : Nat} {fn : Func} {e : Array Value → Sem Value} {args : List Value} {v : Value} {w' : World} (hm : (Go.method (P.types.size + Made.depth) t x m).run P w = .ok (g, r) w) (hf : P.funcs[g]? = some fn) (hname : (fn.name == "runtime.NumGoroutine") = false)
    (hb : fn.body.isNone = true) (hn : Extern.findNext fn = none) (he : Extern.find fn = some e) (hr : (e (#[r] ++ args.toArray)).run P w = .ok v w') (k : K v w') : InvokeK P K w (.iface t x) m args := by
  refine ⟨?_⟩
  have h := run_callFunc_extern hf hname hb hn he (#[r] ++ args.toArray) w
  rw [hr] at h
  have ha : (#[Value.iface t x] ++ args.toArray).extract 1 (#[Value.iface t x] ++ args.toArray).size = args.toArray := by simp
  have hz : (#[Value.iface t x] ++ args.toArray)[0]? = some (.iface t x) := by simp
  have hp : (program).run P w = .ok P w := rfl
  unfold NK
  simp only [invoke, hz, ha, callMethod, Sem.run_bind, hp, Result.andThen_ok, hm]
  rw [h]
  exact k
theorem InvokeK_fn {t : TypeId} {x r : Value} {m : String} {g : Nat} {args : List Value} (hm : (Go.method (P.types.size + Made.depth) t x m).run P w = .ok (g, r) w) (h : Exe P g (r :: args) w K) : InvokeK P K w (.iface t x) m args := by
  refine ⟨?_⟩
  have ha : (#[Value.iface t x] ++ args.toArray).extract 1 (#[Value.iface t x] ++ args.toArray).size = args.toArray := by simp
  have hz : (#[Value.iface t x] ++ args.toArray)[0]? = some (.iface t x) := by simp
  have hp : (program).run P w = .ok P w := rfl
  have hc : #[r] ++ args.toArray = (r :: args).toArray := by simp
  unfold NK
  simp only [invoke, hz, ha, callMethod, Sem.run_bind, hp, Result.andThen_ok, hm, hc, h.1]
  exact h.2
/-- A package-level variable of one cell that nobody writes. -/
def Glob (g : Nat) (v : Value) : Fact where
  holds w I := I g ∧ w.cell? ⟨g, 0, none⟩ = some v
  mono := fun ⟨h1, h2⟩ hI hw => ⟨hI _ h1, by rw [← h2]; simp only [World.cell?, hw _ h1]⟩
theorem glob_rule (hT : T.Ok P) (H : Hp B S F w) {g : Nat} (v : Value) [hp : InF F (Glob g v)] {t : TypeId} {d : TD} (ht : T t = some d) (ha : isAggD d.desc = false) (k : K v w) : LoadK P K w t (.pointer (some ⟨g, 0, none⟩)) := by
  obtain ⟨I, h⟩ := H.fact (f := Glob g v)
  exact (LdV.one hT ht ha h.2).load k
/-- Nothing is said. -/
def ttF : Fact := ⟨fun _ _ => True, fun _ _ _ => trivial⟩
theorem Hp.addTt (H : Hp B S F w) : Hp B S (ttF :: F) w := H.facts fun I ha f hf => by
  rcases List.mem_cons.1 hf with rfl | hf
  · trivial
  · exact ha f hf
theorem AssertK.run {x : Value} {t a : TypeId} {ok : Bool} {v : Value} (h : (Instr.typeAssert x t a ok).run P w = .ok v w) (k : K v w) : AssertK P K w x t a ok := AssertK.of h k
end
end Go.Wk
