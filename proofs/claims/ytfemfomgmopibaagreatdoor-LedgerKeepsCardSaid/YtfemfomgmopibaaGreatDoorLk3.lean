/- Regions that draw their order: one walk in one order serves all, where what writes is chained. -/
import Derived.Test.YtfemfomgmopibaaGreatDoorLk2
set_option linter.unusedVariables false
set_option linter.unusedSimpArgs false
namespace Go.Wk

def isFresh : Op → Bool
  | .alloc _ | .box .. | .buildSlice .. | .makeMap _ none => true
  | _ => false
def freshV : Op → Nat → Value
  | .buildSlice _ len _, n => .slice (some ⟨n, 0, none⟩) len len
  | .makeMap .., n => .map (some n)
  | _, n => .pointer (some ⟨n, 0, none⟩)
/-- What may write. -/
def isImp : Op → Bool
  | .alloc _ | .box .. | .buildSlice .. | .makeMap _ none => false
  | .move _ | .assign _ | .pick .. | .binOp .. | .unOp .. | .convert .. | .makeInterface .. | .makeFunc .. | .field .. | .fieldAddr .. | .nilCheck _ | .extract .. | .build .. | .load .. | .indexAddr .. | .index .. | .slice .. | .lookup .. | .typeAssert .. => false
  | .call { callee := .builtin .len, .. } | .call { callee := .builtin .cap, .. } | .call { callee := .builtin .min, .. } | .call { callee := .builtin .max, .. } => false
  | _ => true
inductive It where
  | op (i : Nat) (o : Oper)
  | had (k : Nat) (a : Asn)
structure DS where
  A : List Asn
  GF : List Fact
  last : Option Nat
  A0 : List Asn
  hist : List (List Asn)
  born : List (Nat × Asn)
/-- Memory asx the last writer left it, and more. -/
def Cur [Mode] (B : Base) (S : List Asn) (s : DS) (w : World) : Prop := ∃ X, Hp B (s.A0 ++ (S ++ X)) s.GF w
/-- What holds of memory whenever in the region: of what no writer has turned till then. -/
def Steady [Mode] (B : Base) (S : List Asn) (F : List Fact) (hist : List (List Asn)) (f : World → Prop) : Prop := ∀ A, A ∈ hist → ∀ X w, Hp B (A ++ (S ++ X)) F w → f w
theorem Steady.mono [Mode] {B : Base} {S : List Asn} {F : List Fact} {h h' : List (List Asn)} {f : World → Prop} (hs : Steady B S F h f) (hh : ∀ A, A ∈ h' → A ∈ h) : Steady B S F h' f :=
  fun A hA => hs A (hh A hA)
theorem Steady.at_ [Mode] {B : Base} {S : List Asn} {F : List Fact} {s : DS} {f : World → Prop} (hs : Steady B S F s.hist f) (hA : s.A0 ∈ s.hist) (hF : ∀ f, f ∈ F → f ∈ s.GF) {w : World} (hc : Cur B S s w) : f w := by
  obtain ⟨X, hx⟩ := hc
  exact hs _ hA X w (hx.facts fun I ha f hf => ha f (hF f hf))
/-- What holds wherever a block stands that is fresh and waited for. -/
def BornAt [Mode] (B : Base) (S : List Asn) (F : List Fact) (m : Nat) (born : List (Nat × Asn)) (f : World → Prop) : Prop := ∃ k a, (k, a) ∈ born ∧ inM m k = true ∧ ∀ X w, Hp B (a :: (S ++ X)) F w → f w
theorem BornAt.mono [Mode] {B : Base} {S : List Asn} {F : List Fact} {m : Nat} {b b' : List (Nat × Asn)} {f : World → Prop} (h : BornAt B S F m b f) (hb : ∀ x, x ∈ b → x ∈ b') : BornAt B S F m b' f :=
  let ⟨k, a, h1, h2, h3⟩ := h; ⟨k, a, hb _ h1, h2, h3⟩
theorem BornAt.skip [Mode] {B : Base} {S : List Asn} {F : List Fact} {m : Nat} {l b : List (Nat × Asn)} {k : Nat} {a : Asn} {f : World → Prop} (h : BornAt B S F m (l ++ (k, a) :: b) f) (hk : inM m k = false) : BornAt B S F m (l ++ b) f := by
  obtain ⟨k', a', h1, h2, h3⟩ := h
  refine ⟨k', a', ?_, h2, h3⟩
  rcases List.mem_append.1 h1 with h | h
  · exact List.mem_append_left _ h
  · rcases List.mem_cons.1 h with h | h
    · injection h with e1 e2; subst e1; rw [hk] at h2; cases h2
    · exact List.mem_append_right _ h
def bornC (i : Nat) : List Asn → List (Nat × Asn) → List (Nat × Asn)
  | a :: _, b => (i, a) :: b
  | [], b => b
def lastIn (cl : Nat → Nat) (i : Nat) : Option Nat → Prop
  | none => True
  | some k => inM (cl i) k = true
def guardB (all : List Oper) (o : Oper) (e : Env) : Option Bool := match o.guard with
  | none => some true
  | some (j, want) => match dstOf all j with
    | some d => match e d with
      | .bool b => some (b == want)
      | .tuple _ => some false
      | _ => none
    | none => none
def pend : List It → List Asn
  | [] => []
  | .had _ a :: l => a :: pend l
  | .op .. :: l => pend l
theorem pend_app : ∀ l l' : List It, pend (l ++ l') = pend l ++ pend l'
  | [], _ => rfl
  | .had _ a :: l, l' => by simp [pend, pend_app l l']
  | .op .. :: l, l' => by simp [pend, pend_app l l']
def hads : List It → List (Nat × Asn)
  | [] => []
  | .had k a :: l => (k, a) :: hads l
  | .op .. :: l => hads l
theorem hads_pend : ∀ {l : List It} {k : Nat} {a : Asn}, (k, a) ∈ hads l → a ∈ pend l
  | .had k' a' :: l, k, a, h => by
    rcases List.mem_cons.1 h with h | h
    · injection h with e1 e2; subst e2; exact List.mem_cons_self
    · exact List.mem_cons_of_mem _ (hads_pend h)
  | .op .. :: l, k, a, h => hads_pend (l := l) h
theorem BornAt.at_ [Mode] {B : Base} {S : List Asn} {F : List Fact} {m : Nat} {l1 l2 : List It} {s : DS} {f : World → Prop} (h : BornAt B S F m (hads l1 ++ s.born) f) (hF : ∀ f, f ∈ F → f ∈ s.GF) (hB : ∀ k a, (k, a) ∈ s.born → a ∈ s.A) {X : List Asn} {w : World} (hw : Hp B (s.A ++ (S ++ (pend (l1 ++ l2) ++ X))) s.GF w) : f w := by
  obtain ⟨k, a, h1, _, h3⟩ := h
  have hm : a ∈ s.A ++ pend (l1 ++ l2) := by
    rcases List.mem_append.1 h1 with h | h
    · refine List.mem_append_right _ ?_
      rw [pend_app]; exact List.mem_append_left _ (hads_pend h)
    · exact List.mem_append_left _ (hB _ _ h)
  have e1 : (s.A ++ (S ++ (pend (l1 ++ l2) ++ X))).Perm ((s.A ++ pend (l1 ++ l2)) ++ (S ++ X)) := by
    rw [List.append_assoc]
    exact List.Perm.append_left _ (List.perm_append_comm_assoc _ _ _)
  have h2 := (hw.perm e1).facts fun I ha f hf => ha f (hF f hf)
  obtain ⟨r1, r2, e⟩ := List.append_of_mem hm
  rw [e] at h2
  refine h3 (r1 ++ r2 ++ X) w (h2.perm ?_)
  have e3 : r1 ++ a :: r2 ++ (S ++ X) = r1 ++ a :: (r2 ++ (S ++ X)) := by simp
  rw [e3]
  refine List.perm_middle.trans (List.Perm.cons a ?_)
  have e4 : r1 ++ (r2 ++ (S ++ X)) = (r1 ++ r2) ++ (S ++ X) := by simp
  rw [e4]
  exact (List.perm_append_comm_assoc _ _ _)
section
variable (P : Program) (ops : Array Oper) (cl : Nat → Nat) (B : Base) (S : List Asn) (F : List Fact) (Q : Env → World → Prop)
def D [Mode] : List It → Env → DS → Prop
  | [], e, s => ∀ X w, Hp B (s.A ++ (S ++ X)) s.GF w → Q e w
  | .had k a :: l, e, s => D l e ⟨a :: s.A, s.GF, s.last, s.A0, s.hist, (k, a) :: s.born⟩
  | .op i o :: l, e, s => match guardB ops.toList o e with
    | none => False
    | some false => D l (put e o.dst undef) s
    | some true => match isImp o.op with
      | true => ∀ X w, Hp B (s.A ++ (S ++ (pend l ++ X))) s.GF w → NK P (execOp (val e) o) (fun v w' => ∃ A' G', Hp B (A' ++ (S ++ (pend l ++ X))) (G' ++ s.GF) w' ∧ D l (put e o.dst v) ⟨A', G' ++ s.GF, some i, A', A' :: s.hist, []⟩) w
      | false => match isFresh o.op with
        | true => ∃ ob, (∀ w, (execOp (val e) o).run P w = .ok (.value (freshV o.op w.heap.size)) (w.alloc ob)) ∧ ∀ n, (∃ X w, Hp B (blkO n ob :: s.A ++ (S ++ (pend l ++ X))) s.GF w) → D l (put e o.dst (freshV o.op n)) ⟨blkO n ob :: s.A, s.GF, s.last, s.A0, s.hist, (i, blkO n ob) :: s.born⟩
        | false => ∃ c, ((Steady B S F s.hist fun w => (execOp (val e) o).run P w = .ok (.value c) w) ∨ (lastIn cl i s.last ∧ ∀ w, Cur B S s w → (execOp (val e) o).run P w = .ok (.value c) w) ∨ BornAt B S F (cl i) s.born fun w => (execOp (val e) o).run P w = .ok (.value c) w) ∧ D l (put e o.dst c) s
/-- The operation, taken first. -/
def Pulled [Mode] (i : Nat) (o : Oper) (l1 l2 : List It) (e : Env) (s : DS) : Prop := match guardB ops.toList o e with
  | none => False
  | some false => D P ops cl B S F Q (l1 ++ l2) (put e o.dst undef) s
  | some true => match isFresh o.op with
    | true => ∃ ob, (∀ w, (execOp (val e) o).run P w = .ok (.value (freshV o.op w.heap.size)) (w.alloc ob)) ∧ ∀ n, (∃ X w, Hp B (blkO n ob :: s.A ++ (S ++ (pend (l1 ++ l2) ++ X))) s.GF w) → D P ops cl B S F Q (l1 ++ .had i (blkO n ob) :: l2) (put e o.dst (freshV o.op n)) s
    | false => ∃ c, ((Steady B S F s.hist fun w => (execOp (val e) o).run P w = .ok (.value c) w) ∨ (lastIn cl i s.last ∧ (∀ w, Cur B S s w → (execOp (val e) o).run P w = .ok (.value c) w)) ∨ BornAt B S F (cl i) (hads l1 ++ s.born) fun w => (execOp (val e) o).run P w = .ok (.value c) w) ∧ D P ops cl B S F Q (l1 ++ l2) (put e o.dst c) s
end
/-- Two operations that don't look at what the other writes. -/
def apartO (ops : Array Oper) (p o : Oper) : Prop := (∀ d, p.dst = some d → d ∉ o.looksAt ops) ∧ (∀ d, p.dst = some d → o.dst ≠ some d) ∧ (∀ d, o.dst = some d → d ∉ p.looksAt ops)
def noSel (o : Oper) : Prop := ∀ cs b, o.op ≠ .select cs b
theorem val_put {e : Env} {d : Option Nat} {v : Value} {x : Operand} (h : ∀ k, d = some k → x ≠ .tmp k) : val (put e d v) x = val e x := by
  cases d with
  | none => rfl
  | some k =>
    cases x with
    | tmp t =>
      show upd e k v t = e t
      unfold upd
      cases hb : Nat.beq t k with
      | true => exact absurd (by rw [Nat.eq_of_beq_eq_true hb]) (h k rfl)
      | false => rfl
    | _ => rfl
theorem exec_put {ops : Array Oper} {o : Oper} (hs : noSel o) (e : Env) {d : Option Nat} (v : Value) (h : ∀ k, d = some k → k ∉ o.looksAt ops) : execOp (val (put e d v)) o = execOp (val e) o :=
  execOp_congr o hs fun x hx => val_put fun k hk hxk => h k hk (by
    subst hxk
    exact List.mem_append_left _ (List.mem_filterMap.2 ⟨.tmp k, by simpa using hx, rfl⟩))
theorem guard_put {ops : Array Oper} {o : Oper} (e : Env) {d : Option Nat} (v : Value) (h : ∀ k, d = some k → k ∉ o.looksAt ops) : guardB ops.toList o (put e d v) = guardB ops.toList o e := by
  unfold guardB
  cases hg : o.guard with
  | none => rfl
  | some g =>
    obtain ⟨j, want⟩ := g
    simp only
    cases hd : dstOf ops.toList j with
    | none => rfl
    | some t =>
      simp only
      have ht : t ∈ o.looksAt ops := by
        refine List.mem_append_right _ ?_
        rw [hg]
        rw [dstOf_eq] at hd
        simp only [Array.getElem?_toList] at hd
        simp [hd]
      have : put e d v t = e t := val_put (x := .tmp t) fun k hk hkt => h k hk (by injection hkt with hkt; rw [← hkt]; exact ht)
      rw [this]
theorem put_comm (e : Env) {a b : Option Nat} (v u : Value) (h : ∀ d, a = some d → b ≠ some d) : put (put e a v) b u = put (put e b u) a v := by
  cases a with
  | none => rfl
  | some x =>
    cases b with
    | none => rfl
    | some y =>
      have hne : x ≠ y := fun he => h x rfl (by rw [he])
      funext t
      show upd (upd e x v) y u t = upd (upd e y u) x v t
      unfold upd
      cases hx : Nat.beq t x with
      | true =>
        have := Nat.eq_of_beq_eq_true hx
        cases hy : Nat.beq t y with
        | true => exact absurd (this.symm.trans (Nat.eq_of_beq_eq_true hy)) hne
        | false => rfl
      | false => rfl
theorem NK_ex {P : Program} {s : Sem Next} {K : Value → World → Prop} {w : World} (h : NK P s K w) : ∃ v w', K v w' := by
  unfold NK at h
  generalize s.run P w = r at h
  cases r with
  | ok x w' =>
    cases x <;> simp only at h
    · exact ⟨_, _, h⟩
    · exact ⟨_, _, h⟩
    · obtain ⟨e, w'', fr, ⟨v, _, hv⟩, _⟩ := h []
      exact ⟨v, w'', hv⟩
    · obtain ⟨e, w'', ⟨v, _, hv⟩, _⟩ := h.2 default [] (room_wide _)
      exact ⟨v, w'', hv⟩
  | halt x w' => simp only at h
theorem Hp.dropL [Mode] {B : Base} {GF : List Fact} {w : World} : ∀ (Y Z : List Asn), Hp B (Y ++ Z) GF w → Hp B Z GF w
  | [], _, h => h
  | a :: Y, Z, h => Hp.dropL Y Z h.drop
theorem Hp.weak [Mode] {B : Base} {A S X : List Asn} {GF F : List Fact} {w : World} (h : Hp B (A ++ (S ++ X)) GF w) (hF : ∀ f, f ∈ F → f ∈ GF) : Hp B S F w := by
  have h1 : Hp B (S ++ X) GF w := h.dropL A _
  have h2 : Hp B S GF w := Hp.dropL X S (h1.perm List.perm_append_comm)
  exact h2.facts fun I ha f hf => ha f (hF f hf)
theorem mid_perm (A S Y X : List Asn) (a : Asn) : (A ++ (S ++ (Y ++ a :: X))).Perm (a :: A ++ (S ++ (Y ++ X))) := by
  have e1 : A ++ (S ++ (Y ++ a :: X)) = (A ++ S ++ Y) ++ a :: X := by simp
  have e2 : a :: A ++ (S ++ (Y ++ X)) = a :: ((A ++ S ++ Y) ++ X) := by simp
  rw [e1, e2]; exact List.perm_middle
theorem alloc_inj {w : World} {a b : Obj} (h : w.alloc a = w.alloc b) : a = b := by
  have h1 := heap_alloc_at w a
  rw [h, heap_alloc_at w b] at h1
  exact (Option.some.inj h1).symm
section
variable {P : Program} {ops : Array Oper} {cl : Nat → Nat} {B : Base} {S : List Asn} {F : List Fact} {Q : Env → World → Prop}
/-- The block that is pending may stand anywhere. -/
theorem pend_had (l1 l2 : List It) (k : Nat) (a : Asn) (A X : List Asn) : (A ++ (S ++ (pend (l1 ++ .had k a :: l2) ++ X))).Perm (A ++ (S ++ (pend (l1 ++ l2) ++ a :: X))) := by
  simp only [pend_app, pend]
  refine List.Perm.append_left _ (List.Perm.append_left _ ?_)
  have e1 : pend l1 ++ a :: pend l2 ++ X = pend l1 ++ a :: (pend l2 ++ X) := by simp
  have e2 : pend l1 ++ pend l2 ++ a :: X = (pend l1 ++ pend l2) ++ a :: X := rfl
  rw [e1, e2]
  exact List.perm_middle.trans (by rw [← List.append_assoc]; exact List.perm_middle.symm)
theorem pend_op (l1 l2 : List It) (i : Nat) (o : Oper) : pend (l1 ++ .op i o :: l2) = pend (l1 ++ l2) := by simp [pend_app, pend]
theorem pull [Mode] {i : Nat} {o : Oper} (hi : isImp o.op = false) (hs : noSel o) : ∀ (l1 l2 : List It) (e : Env) (s : DS), (∀ k p, It.op k p ∈ l1 → apartO ops p o ∧ noSel p ∧ inM (cl i) k = false) → (∀ f, f ∈ F → f ∈ s.GF) → (∀ X w, Hp B (s.A ++ (S ++ X)) s.GF w → Cur B S s w) → s.A0 ∈ s.hist → (∀ k a, (k, a) ∈ s.born → a ∈ s.A) →
    (∃ X w, Hp B (s.A ++ (S ++ (pend (l1 ++ l2) ++ X))) s.GF w) → D P ops cl B S F Q (l1 ++ .op i o :: l2) e s → Pulled P ops cl B S F Q i o l1 l2 e s
  | [], l2, e, s, hap, hF, hC, hA, hBn, hw, h => by
    unfold Pulled
    simp only [List.nil_append, D] at h
    cases hg : guardB ops.toList o e with
    | none => rw [hg] at h; exact h
    | some b =>
      rw [hg] at h
      cases b with
      | false => exact h
      | true =>
        simp only [hi] at h
        simp only
        cases hf : isFresh o.op with
        | true => rw [hf] at h; simp only at h; obtain ⟨ob, h1, h2⟩ := h; exact ⟨ob, h1, fun n hx => h2 n hx⟩
        | false =>
          rw [hf] at h
          simp only at h
          exact h
  | .had kk a :: l1, l2, e, s, hap, hF, hC, hA, hBn, hw, h => by
    obtain ⟨X, w, hw⟩ := hw
    have hw' : Hp B ((a :: s.A) ++ (S ++ (pend (l1 ++ l2) ++ X))) s.GF w := hw.perm (mid_perm s.A S [] (pend (l1 ++ l2) ++ X) a)
    have hB' : ∀ k' a', (k', a') ∈ (kk, a) :: s.born → a' ∈ a :: s.A := fun k' a' h => by
      rcases List.mem_cons.1 h with h | h
      · injection h with e1 e2; subst e2; exact List.mem_cons_self
      · exact List.mem_cons_of_mem _ (hBn _ _ h)
    have ih := pull hi hs l1 l2 e ⟨a :: s.A, s.GF, s.last, s.A0, s.hist, (kk, a) :: s.born⟩ (fun k p hm => hap k p (List.mem_cons_of_mem _ hm)) hF (fun X w h => hC X w h.drop) hA hB' ⟨X, w, hw'⟩ h
    unfold Pulled at ih ⊢
    cases hg : guardB ops.toList o e with
    | none => rw [hg] at ih; exact ih
    | some b =>
      rw [hg] at ih
      cases b with
      | false => exact ih
      | true =>
        simp only at ih ⊢
        cases hf : isFresh o.op with
        | false =>
          rw [hf] at ih
          obtain ⟨c, h1, h2⟩ := ih
          refine ⟨c, h1.imp id (Or.imp id fun h => h.mono fun x hx => ?_), h2⟩
          show x ∈ (kk, a) :: (hads l1 ++ s.born)
          rcases List.mem_append.1 hx with hx | hx
          · exact List.mem_cons_of_mem _ (List.mem_append_left _ hx)
          · rcases List.mem_cons.1 hx with hx | hx
            · rw [hx]; exact List.mem_cons_self
            · exact List.mem_cons_of_mem _ (List.mem_append_right _ hx)
        | true =>
          rw [hf] at ih
          obtain ⟨ob, h1, h2⟩ := ih
          refine ⟨ob, h1, fun n ⟨X, w, hx⟩ => h2 n ⟨X, w, hx.perm ?_⟩⟩
          have := mid_perm (blkO n ob :: s.A) S [] (pend (l1 ++ l2) ++ X) a
          exact this.trans (.swap _ _ _)
  | .op k p :: l1, l2, e, s, hap, hF, hC, hA, hBn, ⟨X0, w0, hw0⟩, h => by
    obtain ⟨⟨ha1, ha2, ha3⟩, hsp, hcl⟩ := hap k p List.mem_cons_self
    have hapt : ∀ k' p', It.op k' p' ∈ l1 → apartO ops p' o ∧ noSel p' ∧ inM (cl i) k' = false := fun k' p' hm => hap k' p' (List.mem_cons_of_mem _ hm)
    have gp : ∀ c, guardB ops.toList p (put e o.dst c) = guardB ops.toList p e := fun c => guard_put e c ha3
    have xp : ∀ c, execOp (val (put e o.dst c)) p = execOp (val e) p := fun c => exec_put hsp e c ha3
    have go : ∀ c, guardB ops.toList o (put e p.dst c) = guardB ops.toList o e := fun c => guard_put e c ha1
    have xo : ∀ c, execOp (val (put e p.dst c)) o = execOp (val e) o := fun c => exec_put hs e c ha1
    have pc : ∀ v c, put (put e p.dst v) o.dst c = put (put e o.dst c) p.dst v := fun v c => put_comm e v c ha2
    -- one object
    have obu : ∀ {a b : Obj}, (∀ w, (execOp (val e) o).run P w = .ok (.value (freshV o.op w.heap.size)) (w.alloc a)) → (∀ w, (execOp (val e) o).run P w = .ok (.value (freshV o.op w.heap.size)) (w.alloc b)) → a = b := fun ha hb => by
      have := (ha w0).symm.trans (hb w0)
      injection this with _ this
      exact alloc_inj this
    simp only [List.cons_append, D] at h
    cases hgp : guardB ops.toList p e with
    | none => rw [hgp] at h; exact h.elim
    | some b =>
      rw [hgp] at h
      cases b with
      | false =>
        simp only at h
        have ih := pull hi hs l1 l2 _ s hapt hF hC hA hBn ⟨X0, w0, hw0⟩ h
        unfold Pulled at ih ⊢
        rw [go] at ih
        cases hg : guardB ops.toList o e with
        | none => rw [hg] at ih; exact ih
        | some b =>
          rw [hg] at ih
          cases b with
          | false => simp only [List.cons_append, D, gp, hgp] at ih ⊢; rw [← pc]; exact ih
          | true =>
            simp only at ih ⊢
            cases hf : isFresh o.op with
            | true =>
              rw [hf] at ih
              obtain ⟨ob, h1, h2⟩ := ih
              refine ⟨ob, fun w => by rw [← xo undef]; exact h1 w, fun n hx => ?_⟩
              simp only [List.cons_append, D, gp, hgp]; rw [← pc]; exact h2 n hx
            | false =>
              rw [hf] at ih
              obtain ⟨c, h1, h2⟩ := ih
              simp only [xo] at h1
              refine ⟨c, h1, ?_⟩
              simp only [List.cons_append, D, gp, hgp]; rw [← pc]; exact h2
      | true =>
        simp only at h
        cases hip : isImp p.op with
        | false =>
          rw [hip] at h
          simp only at h
          cases hfp : isFresh p.op with
          | false =>
            rw [hfp] at h
            simp only at h
            obtain ⟨c0, hrun, h⟩ := h
            have ih := pull hi hs l1 l2 _ s hapt hF hC hA hBn ⟨X0, w0, hw0⟩ h
            unfold Pulled at ih ⊢
            rw [go] at ih
            cases hg : guardB ops.toList o e with
            | none => rw [hg] at ih; exact ih
            | some b =>
              rw [hg] at ih
              cases b with
              | false => simp only [List.cons_append, D, gp, hgp, hip, hfp, xp] at ih ⊢; exact ⟨c0, hrun, by rw [← pc]; exact ih⟩
              | true =>
                simp only at ih ⊢
                cases hf : isFresh o.op with
                | true =>
                  rw [hf] at ih
                  obtain ⟨ob, h1, h2⟩ := ih
                  refine ⟨ob, fun w => by rw [← xo c0]; exact h1 w, fun n hx => ?_⟩
                  simp only [List.cons_append, D, gp, hgp, hip, hfp, xp]; exact ⟨c0, hrun, by rw [← pc]; exact h2 n hx⟩
                | false =>
                  rw [hf] at ih
                  obtain ⟨c, h1, h2⟩ := ih
                  simp only [xo] at h1
                  refine ⟨c, h1, ?_⟩
                  simp only [List.cons_append, D, gp, hgp, hip, hfp, xp]; exact ⟨c0, hrun, by rw [← pc]; exact h2⟩
          | true =>
            rw [hfp] at h
            simp only [pend_op] at h
            obtain ⟨obp, hrun, h⟩ := h
            have key : ∀ n, (∃ X' w', Hp B (blkO n obp :: s.A ++ (S ++ (pend (l1 ++ l2) ++ X'))) s.GF w') → Pulled P ops cl B S F Q i o l1 l2 (put e p.dst (freshV p.op n)) ⟨blkO n obp :: s.A, s.GF, s.last, s.A0, s.hist, (k, blkO n obp) :: s.born⟩ := fun n hx =>
              pull hi hs l1 l2 _ ⟨blkO n obp :: s.A, s.GF, s.last, s.A0, s.hist, (k, blkO n obp) :: s.born⟩ hapt hF (fun X w h => hC X w h.drop) hA (fun k' a' h => by
                rcases List.mem_cons.1 h with h | h
                · injection h with e1 e2; subst e2; exact List.mem_cons_self
                · exact List.mem_cons_of_mem _ (hBn _ _ h)) hx (h n hx)
            have k0 := key _ ⟨X0, _, hw0.alloc obp⟩
            unfold Pulled at k0 key ⊢
            simp only [go, xo] at k0 key
            cases hg : guardB ops.toList o e with
            | none => rw [hg] at k0; exact k0
            | some b =>
              rw [hg] at k0
              simp only [hg] at key
              cases b with
              | false =>
                simp only [List.cons_append, D, gp, hgp, hip, hfp, xp] at k0 key ⊢
                exact ⟨obp, hrun, fun n hx => by rw [← pc]; exact key n hx⟩
              | true =>
                simp only at k0 key ⊢
                cases hf : isFresh o.op with
                | true =>
                  rw [hf] at k0
                  simp only [hf] at key
                  obtain ⟨ob, h1, _⟩ := k0
                  refine ⟨ob, h1, fun m hm => ?_⟩
                  simp only [List.cons_append, D, gp, hgp, hip, hfp, xp]
                  refine ⟨obp, hrun, fun n ⟨X, w, hx⟩ => ?_⟩
                  have hx1 := hx.perm (pend_had l1 l2 i (blkO m ob) (blkO n obp :: s.A) X)
                  obtain ⟨ob', q1, q2⟩ := key n ⟨_, w, hx1⟩
                  obtain rfl := obu h1 q1
                  rw [← pc]
                  exact q2 m ⟨X, w, hx1.perm (mid_perm (blkO n obp :: s.A) S (pend (l1 ++ l2)) X _)⟩
                | false =>
                  rw [hf] at k0
                  simp only [hf] at key
                  obtain ⟨c, h1, _⟩ := k0
                  have h1 := h1.imp id (Or.imp id fun h => h.skip hcl)
                  refine ⟨c, h1, ?_⟩
                  simp only [List.cons_append, D, gp, hgp, hip, hfp, xp]
                  refine ⟨obp, hrun, fun n hx => ?_⟩
                  obtain ⟨c', q1, q2⟩ := key n hx
                  obtain ⟨X, w, hx⟩ := hx
                  have q1 := q1.imp id (Or.imp id fun h => h.skip hcl)
                  have wG : Cur B S s w := hC _ w hx.drop
                  have r1 : (execOp (val e) o).run P w = .ok (.value c) w := h1.elim (fun h => Steady.at_ (s := s) h hA hF wG) fun h => h.elim (fun h => h.2 w wG) fun h => h.at_ (l2 := l2) hF hBn hx.drop
                  have r2 : (execOp (val e) o).run P w = .ok (.value c') w := q1.elim (fun h => Steady.at_ (s := s) h hA hF wG) fun h => h.elim (fun h => h.2 w wG) fun h => h.at_ (l2 := l2) hF hBn hx.drop
                  have ec : c = c' := by
                    have := r1.symm.trans r2
                    injection this with this
                    injection this
                  rw [← pc, ec]
                  exact q2
        | true =>
          rw [hip] at h
          simp only [pend_op] at h
          have key : ∀ v w' A' G' X, Hp B (A' ++ (S ++ (pend (l1 ++ l2) ++ X))) (G' ++ s.GF) w' → D P ops cl B S F Q (l1 ++ .op i o :: l2) (put e p.dst v) ⟨A', G' ++ s.GF, some k, A', A' :: s.hist, []⟩ → Pulled P ops cl B S F Q i o l1 l2 (put e p.dst v) ⟨A', G' ++ s.GF, some k, A', A' :: s.hist, []⟩ := fun v w' A' G' X hx hd =>
            pull hi hs l1 l2 _ ⟨A', G' ++ s.GF, some k, A', A' :: s.hist, []⟩ hapt (fun f hf => List.mem_append_right _ (hF f hf)) (fun X w h => ⟨X, h⟩) List.mem_cons_self (fun _ _ h => by cases h) ⟨X, w', hx⟩ hd
          obtain ⟨v0, w0', A0, G0, hx0, hd0⟩ := NK_ex (h X0 w0 hw0)
          have k0 := key _ _ _ _ _ hx0 hd0
          unfold Pulled at k0 key ⊢
          simp only [go, xo] at k0 key
          cases hg : guardB ops.toList o e with
          | none => rw [hg] at k0; exact k0
          | some b =>
            rw [hg] at k0
            simp only [hg] at key
            cases b with
            | false =>
              simp only [List.cons_append, D, gp, hgp, hip, xp] at k0 key ⊢
              exact fun X w hx => NK_mono (h X w hx) fun v w' ⟨A', G', h1, h2⟩ => ⟨A', G', h1, by rw [← pc]; exact key _ _ _ _ _ h1 h2⟩
            | true =>
              simp only at k0 key ⊢
              cases hf : isFresh o.op with
              | true =>
                rw [hf] at k0
                simp only [hf] at key
                obtain ⟨ob, h1, _⟩ := k0
                refine ⟨ob, h1, fun m hm => ?_⟩
                simp only [List.cons_append, D, gp, hgp, hip, xp]
                intro X w hx
                have hx1 := hx.perm (pend_had l1 l2 i (blkO m ob) s.A X)
                refine NK_mono (h _ w hx1) fun v w' ⟨A', G', q1, q2⟩ => ⟨A', G', q1.perm (pend_had l1 l2 i (blkO m ob) A' X).symm, ?_⟩
                obtain ⟨ob', q3, q4⟩ := key _ _ _ _ _ q1 q2
                obtain rfl := obu h1 q3
                rw [← pc]
                exact q4 m ⟨X, w', q1.perm (mid_perm A' S (pend (l1 ++ l2)) X _)⟩
              | false =>
                rw [hf] at k0
                simp only [hf] at key
                have base : ∀ {c A' G'}, ((Steady B S F (A' :: s.hist) fun w => (execOp (val e) o).run P w = .ok (.value c) w) ∨ (lastIn cl i (DS.mk A' (G' ++ s.GF) (some k) A' (A' :: s.hist) []).last ∧ ∀ w, Cur B S (DS.mk A' (G' ++ s.GF) (some k) A' (A' :: s.hist) []) w → (execOp (val e) o).run P w = .ok (.value c) w) ∨ BornAt B S F (cl i) (hads l1 ++ []) fun w => (execOp (val e) o).run P w = .ok (.value c) w) → (Steady B S F s.hist fun w => (execOp (val e) o).run P w = .ok (.value c) w) ∨ BornAt B S F (cl i) (hads l1 ++ s.born) fun w => (execOp (val e) o).run P w = .ok (.value c) w := fun hh => hh.elim (fun h => .inl (h.mono fun A hA => List.mem_cons_of_mem _ hA)) fun h => h.elim (fun ⟨h1, _⟩ => by
                  have h1 : inM (cl i) k = true := h1
                  rw [hcl] at h1; cases h1) fun h => .inr (h.mono fun x hx => List.mem_append_left _ (by simpa using hx))
                obtain ⟨c, h1, _⟩ := k0
                have h1 := base (A' := A0) h1
                refine ⟨c, h1.imp id .inr, ?_⟩
                simp only [List.cons_append, D, gp, hgp, hip, xp]
                intro X w hx
                refine NK_mono (h X w hx) fun v w' ⟨A', G', q1, q2⟩ => ⟨A', G', q1, ?_⟩
                obtain ⟨c', q3, q4⟩ := key _ _ _ _ _ q1 q2
                have wG : Cur B S s w := hC _ w hx
                have ec : c = c' := by
                  have r1 : (execOp (val e) o).run P w = .ok (.value c) w := h1.elim (fun h => Steady.at_ (s := s) h hA hF wG) fun h => h.at_ (l2 := l2) hF hBn hx
                  have r2 : (execOp (val e) o).run P w = .ok (.value c') w := (base (A' := A') q3).elim (fun h => Steady.at_ (s := s) h hA hF wG) fun h => h.at_ (l2 := l2) hF hBn hx
                  have := r1.symm.trans r2
                  injection this with this
                  injection this
                rw [← pc, ec]
                exact q4

/-! ### Whatever order is drawn -/
def opCount : List It → Nat
  | [] => 0
  | .had _ _ :: l => opCount l
  | .op .. :: l => opCount l + 1
theorem opCount_app : ∀ l l' : List It, opCount (l ++ l') = opCount l + opCount l'
  | [], _ => by simp [opCount]
  | .had _ _ :: l, l' => by simp [opCount, opCount_app l l']
  | .op .. :: l, l' => by simp [opCount, opCount_app l l']; omega
def EdgeOk (seen : Nat → Prop) : List It → Prop
  | [] => True
  | .had _ _ :: l => EdgeOk seen l
  | .op j o :: l => (∀ e ∈ o.after, Region.binds .any e = true → seen e.on) ∧ EdgeOk (fun q => seen q ∨ q = j) l
theorem EdgeOk.mono {seen seen' : Nat → Prop} : ∀ {l : List It}, EdgeOk seen l → (∀ q, seen q → seen' q) → EdgeOk seen' l
  | [], _, _ => trivial
  | .had _ _ :: l, h, k => EdgeOk.mono (l := l) h k
  | .op j o :: l, ⟨h1, h2⟩, k => ⟨fun e he hb => k _ (h1 e he hb), h2.mono fun q hq => hq.imp (k q) id⟩
theorem EdgeOk.remove {j : Nat} {o : Oper} : ∀ {seen : Nat → Prop} (l1 : List It) {l2 : List It}, EdgeOk seen (l1 ++ .op j o :: l2) → EdgeOk (fun q => seen q ∨ q = j) (l1 ++ l2)
  | seen, [], l2, h => h.2
  | seen, .had _ _ :: l1, l2, h => EdgeOk.remove l1 h
  | seen, .op k p :: l1, l2, ⟨h1, h2⟩ => ⟨fun e he hb => .inl (h1 e he hb), (EdgeOk.remove l1 h2).mono fun q hq => by
      rcases hq with (h | h) | h
      · exact .inl (.inl h)
      · exact .inr h
      · exact .inl (.inr h)⟩
theorem EdgeOk.had {k : Nat} {a : Asn} : ∀ {seen : Nat → Prop} (l1 : List It) {l2 : List It}, EdgeOk seen (l1 ++ l2) → EdgeOk seen (l1 ++ .had k a :: l2)
  | seen, [], l2, h => h
  | seen, .had _ _ :: l1, l2, h => EdgeOk.had l1 h
  | seen, .op k p :: l1, l2, ⟨h1, h2⟩ => ⟨h1, EdgeOk.had l1 h2⟩
/-- Of two operations, the first ahead: the second waits for it, or they are apart and the second doesn't write. -/
def PairR (ops : Array Oper) (cl : Nat → Nat) : It → It → Prop
  | .op p q, .op j o => p ≠ j ∧ (inM (cl j) p = true ∨ (isImp o.op = false ∧ apartO ops q o))
  | _, _ => True
theorem D_hads [Mode] : ∀ (l1 l : List It) (e : Env) (s : DS), opCount l1 = 0 → D P ops cl B S F Q (l1 ++ l) e s → D P ops cl B S F Q l e ⟨(pend l1).reverse ++ s.A, s.GF, s.last, s.A0, s.hist, (hads l1).reverse ++ s.born⟩
  | [], l, e, s, _, h => h
  | .had k a :: l1, l, e, s, hc, h => by
    have := D_hads l1 l e ⟨a :: s.A, s.GF, s.last, s.A0, s.hist, (k, a) :: s.born⟩ hc h
    simpa [pend, hads] using this
  | .op .. :: l1, l, e, s, hc, h => by simp [opCount] at hc
theorem first_op : ∀ (l : List It), 0 < opCount l → ∃ l1 i o l2, l = l1 ++ .op i o :: l2 ∧ opCount l1 = 0
  | [], h => by simp [opCount] at h
  | .had k a :: l, h => by
    obtain ⟨l1, i, o, l2, rfl, hc⟩ := first_op l h
    exact ⟨.had k a :: l1, i, o, l2, rfl, hc⟩
  | .op i o :: l, _ => ⟨[], i, o, l, rfl, rfl⟩
theorem no_op : ∀ {l : List It}, opCount l = 0 → ∀ i o, It.op i o ∉ l
  | [], _, _, _, h => by cases h
  | .had _ a :: l, hc, i, o, h => by
    rcases List.mem_cons.1 h with h | h
    · cases h
    · exact no_op (l := l) hc i o h
  | .op .. :: l, hc, _, _, _ => by simp [opCount] at hc
theorem EdgeOk.at_ {seen : Nat → Prop} : ∀ (l1 : List It) {l2 : List It} {j : Nat} {o : Oper}, EdgeOk seen (l1 ++ .op j o :: l2) → opCount l1 = 0 → ∀ e ∈ o.after, Region.binds .any e = true → seen e.on
  | [], l2, j, o, h, _ => h.1
  | .had _ a :: l1, l2, j, o, h, hc => EdgeOk.at_ l1 (j := j) (o := o) h hc
  | .op .. :: l1, _, _, _, _, hc => by simp [opCount] at hc
theorem wanted_of {ds : List Deferred} {n : Nat} {e : Env} {a : Act} {o : Oper} {b : Bool} (hf : Fits ds n e a) (h : guardB ops.toList o e = some b) : Region.wanted o (yielded ops a.tmps) = b := by
  unfold guardB at h
  cases hg : o.guard with
  | none => rw [hg] at h; simp only [Option.some.injEq] at h; simp [Region.wanted, hg, h]
  | some g =>
    obtain ⟨j, want⟩ := g
    rw [hg] at h
    simp only at h
    cases hj : dstOf ops.toList j with
    | none => rw [hj] at h; cases h
    | some d =>
      rw [hj] at h
      simp only at h
      have hj' : (ops[j]?).bind (·.dst) = some d := by rw [dstOf_eq] at hj; simpa using hj
      split at h
      · rename_i c hb
        simp only [Option.some.injEq] at h
        have hy : yielded ops a.tmps j = some c := by
          have hd' := hf.2.2 d
          rw [hb] at hd'
          unfold yielded
          rw [hj']
          simp only [Option.bind_some]
          rw [Array.getD_eq_getD_getElem?] at hd'
          cases hq : a.tmps[d]? with
          | none => rw [hq] at hd'; simp [undef] at hd'
          | some u => rw [hq] at hd'; simp at hd'; subst hd'; rfl
        simp [Region.wanted, hg, hy, h]
      · rename_i vs hb
        simp only [Option.some.injEq] at h
        have hy : yielded ops a.tmps j = none := by
          have hd' := hf.2.2 d
          rw [hb] at hd'
          unfold yielded
          rw [hj']
          simp only [Option.bind_some]
          rw [Array.getD_eq_getD_getElem?] at hd'
          cases hq : a.tmps[d]? with
          | none => rfl
          | some u => rw [hq] at hd'; simp at hd'; subst hd'; rfl
        simp [Region.wanted, hg, hy, ← h]
      · cases h
theorem inM_ops {d : Nat} : ∀ {l : List Oper} {o : Oper}, o ∈ l → o.dst = some d → inM (opsMask l) d = true
  | [], _, h, _ => by cases h
  | q :: l, o, h, hd => by
    show inM (Nat.lor _ (opsMask l)) d = true
    rw [inM_lor, Bool.or_eq_true]
    rcases List.mem_cons.1 h with rfl | h
    · left; rw [hd]; exact inM_one d
    · right; exact inM_ops h hd
theorem Off.putIn {m : Nat} {e e' : Env} {d : Option Nat} {v : Value} (h : Off m e e') (hd : ∀ k, d = some k → inM m k = true) : Off m e (Wk.put e' d v) := by
  intro t ht
  cases d with
  | none => exact h t ht
  | some k =>
    show upd e' k v t = e t
    unfold upd
    cases hb : Nat.beq t k with
    | true => rw [Nat.eq_of_beq_eq_true hb, hd k rfl] at ht; cases ht
    | false => exact h t ht
theorem D_sound [Mode] {ro : Option Nat} {ds : List Deferred} {n : Nat} {Qx : Exit → Env → World → Prop} {e0 : Env} (hn : ∀ o, o ∈ ops.toList → ∀ d, o.dst = some d → d < n) (hsel : ∀ o, o ∈ ops.toList → noSel o)
    (hclE : ∀ j o, ops[j]? = some o → ∀ r, inM (cl j) r = true → ∃ e ∈ o.after, Region.binds .any e = true ∧ (r = e.on ∨ inM (cl e.on) r = true)) :
    ∀ (k : Nat) (rem : List It) (listed : Array Bool) (e : Env) (s : DS) (a : Act) (w : World), opCount rem = k → listed.size = ops.size →
      (∀ i o, It.op i o ∈ rem → ops[i]? = some o ∧ listed.getD i true = false) → (∀ i, i < ops.size → listed.getD i true = false → ∃ o, It.op i o ∈ rem) → rem.Pairwise (PairR ops cl) →
      EdgeOk (fun q => listed.getD q false = true) rem → (∀ q, listed.getD q false = true → ∀ r, inM (cl q) r = true → listed.getD r false = true) → Fits ds n e a → Wk.Off (opsMask ops.toList) e0 e → (∀ f, f ∈ F → f ∈ s.GF) → (∀ X w, Hp B (s.A ++ (S ++ X)) s.GF w → Cur B S s w) → s.A0 ∈ s.hist → (∀ k a, (k, a) ∈ s.born → a ∈ s.A) →
      (∃ X, Hp B (s.A ++ (S ++ (pend rem ++ X))) s.GF w) → D P ops cl B S F (Qx .normal) rem e s → wpAnyIn (WF ro) 0 P .any ops (lift ds n fun x e' w' => Qx x e' w' ∧ Off (opsMask ops.toList) e0 e') k listed a w := by
  intro k
  induction k with
  | zero =>
    intro rem listed e s a w hc hsz hidx hcov hpr hedge hclo hf hoff hF hC hA hBn ⟨X, hw⟩ hD
    refine ⟨?_, e, hf, ?_, hoff⟩
    · cases hr : Region.ready .any ops listed with
      | nil => rfl
      | cons j r =>
        have hj : j ∈ Region.ready .any ops listed := by rw [hr]; exact List.mem_cons_self
        obtain ⟨hu, o, ho, _⟩ := mem_ready.1 hj
        obtain ⟨o', hm⟩ := hcov j (Array.getElem?_eq_some_iff.1 ho).1 hu
        exact absurd hm (no_op hc _ _)
    · have := D_hads rem [] e s hc (by simpa using hD)
      refine this X w (hw.perm ?_)
      have e1 : (s.A ++ (S ++ (pend rem ++ X))).Perm (pend rem ++ (s.A ++ (S ++ X))) := by
        have : s.A ++ (S ++ (pend rem ++ X)) = (s.A ++ S) ++ (pend rem ++ X) := by simp
        rw [this]
        refine (List.perm_append_comm_assoc _ _ _).trans (by simp)
      refine e1.trans ?_
      simp only [List.append_assoc]
      exact (List.reverse_perm _).symm.append_right _
  | succ k ih =>
    intro rem listed e s a w hc hsz hidx hcov hpr hedge hclo hf hoff hF hC hA hBn ⟨X, hw⟩ hD
    refine ⟨fun hr => ?_, fun j hj => ?_⟩
    · obtain ⟨l1, i, o, l2, rfl, hc1⟩ := first_op rem (by omega)
      obtain ⟨ho, hu⟩ := hidx i o (by simp)
      have : i ∈ Region.ready .any ops listed := mem_ready.2 ⟨hu, o, ho, fun e he hb => EdgeOk.at_ l1 hedge hc1 e he hb⟩
      rw [hr] at this; cases this
    · obtain ⟨hu, o, ho, hrd⟩ := mem_ready.1 hj
      have hjs := (Array.getElem?_eq_some_iff.1 ho).1
      obtain ⟨o', hm⟩ := hcov j hjs hu
      obtain rfl : o = o' := by have := (hidx j o' hm).1; rw [ho] at this; exact Option.some.inj this
      have homem : o ∈ ops.toList := by
        obtain ⟨h1, h2⟩ := Array.getElem?_eq_some_iff.1 ho
        rw [← h2]; simp
      obtain ⟨l1, l2, rfl⟩ := List.append_of_mem hm
      obtain ⟨pr1, pr2, pr3⟩ := List.pairwise_append.1 hpr
      obtain ⟨pr4, pr5⟩ := List.pairwise_cons.1 pr2
      -- what stands ahead of it and hasn't come up: it doesn't wait for that
      have hfree : ∀ k p, It.op k p ∈ l1 → inM (cl j) k = false := fun k p hk => by
        cases hin : inM (cl j) k with
        | false => rfl
        | true =>
          have hku : listed.getD k true = false := (hidx k p (by simp [hk])).2
          have hk0 := (hidx k p (by simp [hk])).1
          have hks := (Array.getElem?_eq_some_iff.1 hk0).1
          obtain ⟨eg, heg, hb, hr⟩ := hclE j o ho k hin
          have hlk : listed.getD k false = true := by
            rcases hr with rfl | hr
            · exact hrd eg heg hb
            · exact hclo _ (hrd eg heg hb) _ hr
          rw [Array.getD_eq_getD_getElem?, Array.getElem?_eq_getElem (by omega)] at hku hlk
          simp only [Option.getD_some] at hku hlk
          rw [hku] at hlk; cases hlk
      have hpair : ∀ k p, It.op k p ∈ l1 → isImp o.op = false ∧ apartO ops p o := fun k p hk => by
        have := pr3 _ hk _ List.mem_cons_self
        simp only [PairR] at this
        rcases this.2 with h | h
        · rw [hfree k p hk] at h; cases h
        · exact h
      have hne : ∀ i p, It.op i p ∈ l1 ++ l2 → i ≠ j := fun i p hi => by
        rcases List.mem_append.1 hi with h | h
        · have := pr3 _ h _ List.mem_cons_self; exact this.1
        · have := pr4 _ h; exact fun he => this.1 he.symm
      -- what holds of the rest
      have hidx' : ∀ i p, It.op i p ∈ l1 ++ l2 → ops[i]? = some p ∧ (listed.setIfInBounds j true).getD i true = false := fun i p hi => by
        have h1 := hidx i p (by rcases List.mem_append.1 hi with h | h <;> simp [h])
        exact ⟨h1.1, by rw [getD_set_ne true (Ne.symm (hne i p hi))]; exact h1.2⟩
      have hcov' : ∀ i, i < ops.size → (listed.setIfInBounds j true).getD i true = false → ∃ p, It.op i p ∈ l1 ++ l2 := fun i hi hu' => by
        by_cases hij : j = i
        · subst hij
          rw [Array.getD_eq_getD_getElem?] at hu'
          simp [hsz, hjs] at hu'
        · rw [getD_set_ne true hij] at hu'
          obtain ⟨p, hp⟩ := hcov i hi hu'
          refine ⟨p, ?_⟩
          rcases List.mem_append.1 hp with h | h
          · exact List.mem_append_left _ h
          · rcases List.mem_cons.1 h with h | h
            · injection h with h1 h2; exact absurd h1.symm hij
            · exact List.mem_append_right _ h
      have hseen : ∀ q, (listed.getD q false = true ∨ q = j) → (listed.setIfInBounds j true).getD q false = true := fun q hq => by
        rcases hq with h | rfl
        · exact getD_set_true h
        · rw [Array.getD_eq_getD_getElem?]; simp [hsz, hjs]
      have hedge' : EdgeOk (fun q => (listed.setIfInBounds j true).getD q false = true) (l1 ++ l2) := (EdgeOk.remove l1 hedge).mono hseen
      have hclo' : ∀ q, (listed.setIfInBounds j true).getD q false = true → ∀ r, inM (cl q) r = true → (listed.setIfInBounds j true).getD r false = true := fun q hq r hr => by
        by_cases hqj : j = q
        · subst hqj
          obtain ⟨eg, heg, hb, h⟩ := hclE j o ho r hr
          rcases h with rfl | h
          · exact getD_set_true (hrd eg heg hb)
          · exact getD_set_true (hclo _ (hrd eg heg hb) _ h)
        · rw [getD_set_ne false hqj] at hq
          exact getD_set_true (hclo q hq r hr)
      have hcnt : opCount (l1 ++ l2) = k := by
        have := hc
        simp only [opCount_app, opCount] at this ⊢
        omega
      have hpr' : (l1 ++ l2).Pairwise (PairR ops cl) := hpr.sublist (List.Sublist.append_left (List.sublist_cons_self _ _) _)
      have hdn : ∀ d, o.dst = some d → d < n := hn o homem
      have hoff' : ∀ v, Off (opsMask ops.toList) e0 (put e o.dst v) := fun v => Off.putIn hoff fun d hd => inM_ops homem hd
      have step : ∀ {e' : Env} {s' : DS} {w' : World} (rem' : List It) (v : Value), e' = put e o.dst v → opCount rem' = k → (∀ i p, It.op i p ∈ rem' ↔ It.op i p ∈ l1 ++ l2) → rem'.Pairwise (PairR ops cl) → EdgeOk (fun q => (listed.setIfInBounds j true).getD q false = true) rem' →
          (∀ f, f ∈ F → f ∈ s'.GF) → (∀ X w, Hp B (s'.A ++ (S ++ X)) s'.GF w → Cur B S s' w) → s'.A0 ∈ s'.hist → (∀ k a, (k, a) ∈ s'.born → a ∈ s'.A) → (∃ X, Hp B (s'.A ++ (S ++ (pend rem' ++ X))) s'.GF w') → D P ops cl B S F (Qx .normal) rem' e' s' →
          wpAnyIn (WF ro) 0 P .any ops (lift ds n fun x e' w' => Qx x e' w' ∧ Off (opsMask ops.toList) e0 e') k (listed.setIfInBounds j true) (a.put o.dst v) w' := fun {e' s' w'} rem' v he hc' hm' hp' hed hF' hC' hA' hB' hw' hD' => by
        subst he
        exact ih rem' _ _ s' _ w' hc' (by simp [hsz]) (fun i p hi => hidx' i p ((hm' i p).1 hi)) (fun i hi hu' => by obtain ⟨p, hp⟩ := hcov' i hi hu'; exact ⟨p, (hm' i p).2 hp⟩) hp' hed hclo' (hf.put hdn v) (hoff' v) hF' hC' hA' hB' hw' hD'
      unfold wpOpIn
      simp only [ho]
      cases hi : isImp o.op with
      | true =>
        -- it writes: nothing stands ahead of it
        have hc1 : opCount l1 = 0 := by
          rcases Nat.eq_zero_or_pos (opCount l1) with h | h
          · exact h
          · obtain ⟨m1, i, p, m2, rfl, _⟩ := first_op l1 h
            have := (hpair i p (by simp)).1
            rw [hi] at this; cases this
        have hD1 := D_hads l1 _ e s hc1 hD
        simp only [D] at hD1
        have hmem : ∀ i p, It.op i p ∈ l2 ↔ It.op i p ∈ l1 ++ l2 := fun i p => ⟨fun h => List.mem_append_right _ h, fun h => by
          rcases List.mem_append.1 h with h | h
          · exact absurd h (no_op hc1 i p)
          · exact h⟩
        have hc2 : opCount l2 = k := by simp only [opCount_app, hc1] at hcnt; omega
        have hed2 : EdgeOk (fun q => (listed.setIfInBounds j true).getD q false = true) l2 := by
          clear hD1 hpr hpr' hm hidx hcov hedge hw hD hc pr1 pr3 hfree hpair hne hidx' hcov' hcnt step hmem
          induction l1 with
          | nil => exact hedge'
          | cons x l1 ihl =>
            cases x with
            | had _ a => exact ihl hedge' hc1
            | op _ _ => simp [opCount] at hc1
        have hw1 : Hp B ((pend l1).reverse ++ s.A ++ (S ++ (pend l2 ++ X))) s.GF w := hw.perm (by
          simp only [pend_app, pend]
          have e1 : s.A ++ (S ++ (pend l1 ++ pend l2 ++ X)) = (s.A ++ S) ++ (pend l1 ++ (pend l2 ++ X)) := by simp
          rw [e1]
          refine (List.perm_append_comm_assoc _ _ _).trans ?_
          simp only [List.append_assoc]
          exact (List.reverse_perm _).symm.append_right _)
        cases hg : guardB ops.toList o e with
        | none => rw [hg] at hD1; exact hD1.elim
        | some b =>
          rw [hg] at hD1
          cases b with
          | false =>
            simp only at hD1
            rw [if_neg (by rw [wanted_of hf hg]; decide)]
            refine ⟨fun _ _ => trivial, ?_⟩
            exact step (s' := ⟨(pend l1).reverse ++ s.A, s.GF, s.last, s.A0, s.hist, (hads l1).reverse ++ s.born⟩) l2 undef rfl hc2 hmem pr5 hed2 hF (fun X w h => hC X w (Hp.dropL (pend l1).reverse _ (by simpa using h))) hA (fun k a h => by
              rcases List.mem_append.1 h with h | h
              · exact List.mem_append_left _ (List.mem_reverse.2 (hads_pend (List.mem_reverse.1 h)))
              · exact List.mem_append_right _ (hBn _ _ h)) ⟨X, hw1⟩ hD1
          | true =>
            simp only [hi] at hD1
            rw [if_pos (wanted_of hf hg)]
            refine (upon_of_NK hf.eval (hD1 X w hw1) ?_)
            rintro v w' ⟨A', G', h1, h2⟩
            exact step l2 v rfl hc2 hmem pr5 hed2 (fun f hf' => List.mem_append_right _ (hF f hf')) (fun X w h => ⟨X, h⟩) List.mem_cons_self (fun _ _ h => by cases h) ⟨X, h1⟩ h2
      | false =>
        have hpl := pull hi (hsel o homem) l1 l2 e s (fun k p hk => ⟨(hpair k p hk).2, hsel p (by
          have h0 := (hidx k p (by simp [hk])).1
          obtain ⟨h1, h2⟩ := Array.getElem?_eq_some_iff.1 h0
          rw [← h2]; simp), hfree k p hk⟩) hF hC hA hBn ⟨X, w, by rw [← pend_op l1 l2 j o]; exact hw⟩ hD
        rw [pend_op] at hw
        unfold Pulled at hpl
        cases hg : guardB ops.toList o e with
        | none => rw [hg] at hpl; exact hpl.elim
        | some b =>
          rw [hg] at hpl
          cases b with
          | false =>
            simp only at hpl
            rw [if_neg (by rw [wanted_of hf hg]; decide)]
            refine ⟨fun _ _ => trivial, ?_⟩
            exact step (l1 ++ l2) undef rfl hcnt (fun _ _ => Iff.rfl) hpr' hedge' hF hC hA hBn ⟨X, hw⟩ hpl
          | true =>
            simp only at hpl
            rw [if_pos (wanted_of hf hg)]
            cases hfr : isFresh o.op with
            | true =>
              rw [hfr] at hpl
              obtain ⟨ob, h1, h2⟩ := hpl
              refine (upon_of_NK (K := fun v w' => v = freshV o.op w.heap.size ∧ w' = w.alloc ob) hf.eval (by unfold NK; rw [h1 w]; exact ⟨rfl, rfl⟩) ?_)
              rintro v w' ⟨rfl, rfl⟩
              have hx := hw.alloc ob
              refine step (l1 ++ .had j (blkO w.heap.size ob) :: l2) _ rfl ?_ ?_ ?_ (EdgeOk.had l1 hedge') hF hC hA hBn ⟨X, ?_⟩ (h2 _ ⟨X, _, hx⟩)
              · simp only [opCount_app, opCount] at hcnt ⊢; exact hcnt
              · intro i p; simp
              · refine List.pairwise_append.2 ⟨(List.pairwise_append.1 hpr').1, List.pairwise_cons.2 ⟨fun _ _ => by simp [PairR], pr5⟩, fun x hx y hy => ?_⟩
                rcases List.mem_cons.1 hy with rfl | hy
                · cases x <;> simp [PairR]
                · exact (List.pairwise_append.1 hpr').2.2 x hx y hy
              · refine hx.perm ?_
                have e1 : blkO w.heap.size ob :: (s.A ++ (S ++ (pend (l1 ++ l2) ++ X))) = blkO w.heap.size ob :: ((s.A ++ S ++ pend l1) ++ (pend l2 ++ X)) := by simp [pend_app]
                have e2 : s.A ++ (S ++ (pend (l1 ++ .had j (blkO w.heap.size ob) :: l2) ++ X)) = (s.A ++ S ++ pend l1) ++ blkO w.heap.size ob :: (pend l2 ++ X) := by simp [pend_app, pend]
                rw [e1, e2]
                exact List.perm_middle.symm
            | false =>
              rw [hfr] at hpl
              obtain ⟨c, h1, h2⟩ := hpl
              have hr : (execOp (val e) o).run P w = .ok (.value c) w := h1.elim (fun h => Steady.at_ (s := s) h hA hF (hC _ w hw)) fun h => h.elim (fun h => h.2 w (hC _ w hw)) fun h => h.at_ (l2 := l2) hF hBn hw
              refine (upon_of_NK (K := fun v w' => v = c ∧ w' = w) hf.eval (by unfold NK; rw [hr]; exact ⟨rfl, rfl⟩) ?_)
              rintro v w' ⟨rfl, rfl⟩
              exact step (l1 ++ l2) _ rfl hcnt (fun _ _ => Iff.rfl) hpr' hedge' hF hC hA hBn ⟨X, hw⟩ h2
end

/-! ### What is typed of a region -/
def passB : Op → Bool
  | .load .. | .indexAddr .. | .index .. | .slice .. | .lookup .. | .typeAssert .. | .binOp .. | .unOp .. | .convert .. => true
  | .call { callee := .builtin .len, .. } => true
  | _ => false
def lastB (m : Nat) : Option Nat → Bool
  | none => true
  | some k => inM m k
structure PassK [Mode] (P : Program) (B : Base) (S A0 : List Asn) (hist : List (List Asn)) (born : List (Nat × Asn)) (F GF : List Fact) (m : Nat) (last : Option Nat) (o : Oper) (ρ : Operand → Value) (K : Value → Prop) : Prop where
  out : ∃ c, ((Steady B S F hist fun w => stopOp P o ρ w fun v w' => v = c ∧ w' = w) ∨ (lastB m last = true ∧ ∀ X w, Hp B (A0 ++ (S ++ X)) GF w → stopOp P o ρ w fun v w' => v = c ∧ w' = w) ∨ BornAt B S F m born fun w => stopOp P o ρ w fun v w' => v = c ∧ w' = w) ∧ K c
structure FreshK [Mode] (P : Program) (B : Base) (S A : List Asn) (GF : List Fact) (o : Oper) (ρ : Operand → Value) (K : Nat → List Asn → Prop) : Prop where
  out : ∃ ob, (∀ w, (execOp ρ o).run P w = .ok (.value (freshV o.op w.heap.size)) (w.alloc ob)) ∧ ∀ n, (∃ X w, Hp B (blkO n ob :: A ++ (S ++ X)) GF w) → K n (blkO n ob :: A)
structure ImpE [Mode] (B : Base) (S X : List Asn) (GF : List Fact) (w : World) (K : List Asn → List Fact → Prop) : Prop where
  out : ∃ A G, Hp B (A ++ (S ++ X)) (G ++ GF) w ∧ K A (G ++ GF)
structure ImpK [Mode] (P : Program) (B : Base) (S A : List Asn) (GF : List Fact) (o : Oper) (ρ : Operand → Value) (K : Value → List Asn → List Fact → Prop) : Prop where
  out : ∀ X w, Hp B (A ++ (S ++ X)) GF w → stopOp P o ρ w fun v w' => ImpE B S X GF w' (K v)
structure DoneK [Mode] (B : Base) (S A : List Asn) (GF : List Fact) (K : World → Prop) : Prop where
  out : ∀ w, Hp B (A ++ S) GF w → K w
abbrev DK := Env → List Asn → List Fact → Option Nat → List Asn → List (List Asn) → List (Nat × Asn) → Prop
def dAct [Mode] (P : Program) (T : Tab) (B : Base) (S : List Asn) (F : List Fact) (m i : Nat) (o : Oper) (ih : DK) (e : Env) (A : List Asn) (GF : List Fact) (last : Option Nat) (A0 : List Asn) (hist : List (List Asn)) (born : List (Nat × Asn)) : Prop :=
  match pureOp T (val e) o.op with
  | some v => ih (put e o.dst v) A GF last A0 hist born
  | none => match isImp o.op with
    | true => ImpK P B S A GF o (val e) fun v A' G' => ih (put e o.dst v) A' G' (some i) A' (A' :: hist) []
    | false => match isFresh o.op with
      | true => FreshK P B S A GF o (val e) fun n A' => ih (put e o.dst (freshV o.op n)) A' GF last A0 hist (bornC i A' born)
      | false => match passB o.op with
        | true => PassK P B S A0 hist born F GF m last o (val e) fun c => ih (put e o.dst c) A GF last A0 hist born
        | false => False
def opAt (all : List Oper) (j : Nat) : Option Oper := match all, j with
  | [], _ => none
  | o :: _, 0 => some o
  | _ :: r, j + 1 => opAt r j
theorem opAt_eq : ∀ (all : List Oper) (j : Nat), opAt all j = all[j]?
  | [], _ => rfl
  | o :: r, 0 => rfl
  | o :: r, j + 1 => by simp [opAt, opAt_eq r j]
def natAt (l : List Nat) (j : Nat) : Nat := match l, j with
  | [], _ => 0
  | o :: _, 0 => o
  | _ :: r, j + 1 => natAt r j
def dStep [Mode] (P : Program) (T : Tab) (all : List Oper) (cl : List Nat) (B : Base) (S : List Asn) (F : List Fact) (i : Nat) (ih : DK) (e : Env) (A : List Asn) (GF : List Fact) (last : Option Nat) (A0 : List Asn) (hist : List (List Asn)) (born : List (Nat × Asn)) : Prop :=
  match opAt all i with
  | none => False
  | some o => match o.guard with
    | none => dAct P T B S F (natAt cl i) i o ih e A GF last A0 hist born
    | some (j, want) => match dstOf all j with
      | some d => match e d with
        | .bool b => condP' want b (dAct P T B S F (natAt cl i) i o ih (upd e d (.bool want)) A GF last A0 hist born) (ih (put (upd e d (.bool !want)) o.dst undef) A GF last A0 hist born)
        | .tuple _ => ih (put e o.dst undef) A GF last A0 hist born
        | _ => False
      | none => False
noncomputable def evD [Mode] (P : Program) (T : Tab) (all : List Oper) (cl : List Nat) (B : Base) (S : List Asn) (F : List Fact) (Q : Env → World → Prop) (π : List Nat) : DK :=
  List.rec (motive := fun _ => DK) (fun e A GF _ _ _ _ => DoneK B S A GF (Q e)) (fun i _ ih => dStep P T all cl B S F i ih) π
def its (all : List Oper) : List Nat → List It
  | [] => []
  | i :: π => match opAt all i with
    | some o => .op i o :: its all π
    | none => its all π
theorem pend_its (all : List Oper) : ∀ π, pend (its all π) = []
  | [] => rfl
  | i :: π => by
    unfold its
    split
    · simp [pend, pend_its all π]
    · exact pend_its all π
theorem pure_kind {T : Tab} {ρ : Operand → Value} {op : Op} {v : Value} (h : pureOp T ρ op = some v) : isImp op = false ∧ isFresh op = false := by
  unfold pureOp at h
  split at h <;> first | exact ⟨rfl, rfl⟩ | cases h
theorem upd_put {e : Env} {d : Nat} {b : Bool} (h : e d = .bool b) : upd e d (.bool b) = e := upd_same h
theorem NK_run {P : Program} {ρ : Operand → Value} {o : Oper} {w : World} {c : Value} (hp : passB o.op = true) (h : NK P (execOp ρ o) (fun v w' => v = c ∧ w' = w) w) : (execOp ρ o).run P w = .ok (.value c) w := by
  have key : ∀ s : Sem Value, execOp ρ o = (do pure (.value (← s))) → (execOp ρ o).run P w = .ok (.value c) w := fun s hs => by
    rw [hs] at h ⊢
    unfold NK at h
    simp only [Sem.run_bind] at h ⊢
    cases hr : s.run P w with
    | ok v w' =>
      rw [hr] at h
      simp only [Result.andThen_ok, Sem.run_pure] at h ⊢
      obtain ⟨rfl, rfl⟩ := h
      rfl
    | halt x w' =>
      rw [hr] at h
      simp only [Result.andThen_halt] at h
  obtain ⟨dst, op, type, pos, after, guard⟩ := o
  cases op
  case call c =>
    obtain ⟨callee, args, argTypes⟩ := c
    cases callee
    case builtin b => cases b <;> first | exact key _ rfl | (simp only [passB] at hp; cases hp; done)
    all_goals (simp only [passB] at hp; cases hp; done)
  all_goals first | exact key _ rfl | (simp only [passB] at hp; cases hp; done)
theorem NK_stop {P : Program} {o : Oper} {ρ : Operand → Value} {w : World} {K : Value → World → Prop} (h : stopOp P o ρ w K) : NK P (execOp ρ o) K w := stopOp_sound h
section
variable {P : Program} {T : Tab} {ops : Array Oper} {cl : List Nat} {B : Base} {S : List Asn} {F : List Fact} {Q : Env → World → Prop}
theorem guardB_of {all : List Oper} {o : Oper} {e : Env} {j d : Nat} {want b : Bool} (hg : o.guard = some (j, want)) (hd : dstOf all j = some d) (hb : e d = .bool b) : guardB all o e = some (b == want) := by
  simp [guardB, hg, hd, hb]
theorem D_act [Mode] (hT : T.Ok P) {i : Nat} {o : Oper} {l : List It} {ih : DK} {e : Env} {A : List Asn} {GF : List Fact} {last : Option Nat} {A0 : List Asn} {hist : List (List Asn)} {born : List (Nat × Asn)} (hl : pend l = [])
    (hi : ∀ e A GF last A0 hist born, ih e A GF last A0 hist born → D P ops (natAt cl) B S F Q l e ⟨A, GF, last, A0, hist, born⟩) (hg : guardB ops.toList o e = some true)
    (h : dAct P T B S F (natAt cl i) i o ih e A GF last A0 hist born) : D P ops (natAt cl) B S F Q (.op i o :: l) e ⟨A, GF, last, A0, hist, born⟩ := by
  unfold dAct at h
  simp only [D, hg]
  cases hp : pureOp T (val e) o.op with
  | some v =>
    rw [hp] at h
    simp only at h
    obtain ⟨k1, k2⟩ := pure_kind hp
    simp only [k1, k2]
    exact ⟨v, .inl fun _ _ _ w _ => pureOp_sound hT hp w, hi _ _ _ _ _ _ _ h⟩
  | none =>
    rw [hp] at h
    simp only at h
    cases k1 : isImp o.op with
    | true =>
      rw [k1] at h
      simp only at h ⊢
      intro X w hw
      rw [hl] at hw
      refine NK_mono (NK_stop (h.out X w hw)) ?_
      rintro v w' ⟨A', G', h1, h2⟩
      rw [hl]
      exact ⟨A', G', h1, hi _ _ _ _ _ _ _ h2⟩
    | false =>
      rw [k1] at h
      simp only at h ⊢
      cases k2 : isFresh o.op with
      | true =>
        rw [k2] at h
        simp only at h ⊢
        obtain ⟨ob, h1, h2⟩ := h.out
        refine ⟨ob, h1, fun n hx => hi _ _ _ _ _ _ _ (h2 n ?_)⟩
        rwa [hl] at hx
      | false =>
        rw [k2] at h
        simp only at h ⊢
        cases k3 : passB o.op with
        | false => rw [k3] at h; exact h.elim
        | true =>
          rw [k3] at h
          simp only at h
          obtain ⟨c, h1, h2⟩ := h.out
          refine ⟨c, h1.imp (fun q2 A hA X w hw => NK_run k3 (NK_stop (q2 A hA X w hw))) (Or.imp (fun ⟨h3, h4⟩ => ⟨?_, fun w ⟨X, hw⟩ => NK_run k3 (NK_stop (h4 X w hw))⟩) fun ⟨k, a, q1, q2, q3⟩ => ⟨k, a, q1, q2, fun X w hw => NK_run k3 (NK_stop (q3 X w hw))⟩), hi _ _ _ _ _ _ _ h2⟩
          cases last with
          | none => trivial
          | some k => exact h3
theorem D_of_evD [Mode] (hT : T.Ok P) : ∀ (π : List Nat) (e : Env) (A : List Asn) (GF : List Fact) (last : Option Nat) (A0 : List Asn) (hist : List (List Asn)) (born : List (Nat × Asn)), evD P T ops.toList cl B S F Q π e A GF last A0 hist born → D P ops (natAt cl) B S F Q (its ops.toList π) e ⟨A, GF, last, A0, hist, born⟩
  | [], e, A, GF, last, A0, hist, born, h => by
    intro X w hw
    have h : DoneK B S A GF (Q e) := h
    refine h.out w (Hp.dropL X _ (hw.perm ?_))
    have : A ++ (S ++ X) = (A ++ S) ++ X := by simp
    rw [this]
    exact List.perm_append_comm
  | i :: π, e, A, GF, last, A0, hist, born, h => by
    have h : dStep P T ops.toList cl B S F i (evD P T ops.toList cl B S F Q π) e A GF last A0 hist born := h
    have ih := D_of_evD hT π
    unfold dStep at h
    unfold its
    cases ho : opAt ops.toList i with
    | none => rw [ho] at h; exact h.elim
    | some o =>
      rw [ho] at h
      simp only at h ⊢
      cases hg : o.guard with
      | none =>
        rw [hg] at h
        exact D_act hT (pend_its _ _) ih (by simp [guardB, hg]) h
      | some g =>
        obtain ⟨j, want⟩ := g
        rw [hg] at h
        simp only at h
        cases hd : dstOf ops.toList j with
        | none => rw [hd] at h; exact h.elim
        | some d =>
          rw [hd] at h
          simp only at h
          split at h
          · rename_i b hb
            have go := guardB_of (o := o) hg hd hb
            have skip : ∀ c, b = !want → c = (!want) → evD P T ops.toList cl B S F Q π (put (upd e d (.bool c)) o.dst undef) A GF last A0 hist born → D P ops (natAt cl) B S F Q (.op i o :: its ops.toList π) e ⟨A, GF, last, A0, hist, born⟩ := fun c hb1 hc hz => by
              subst hc
              rw [upd_put (by rw [hb, hb1])] at hz
              rw [hb1] at go
              have : guardB ops.toList o e = some false := by rw [go]; cases want <;> rfl
              simp only [D, this]
              exact ih _ _ _ _ _ _ _ hz
            have act : b = want → dAct P T B S F (natAt cl i) i o (evD P T ops.toList cl B S F Q π) (upd e d (.bool want)) A GF last A0 hist born → D P ops (natAt cl) B S F Q (.op i o :: its ops.toList π) e ⟨A, GF, last, A0, hist, born⟩ := fun hb1 hz => by
              rw [upd_put (by rw [hb, hb1])] at hz
              exact D_act hT (pend_its _ _) ih (by rw [go, hb1]; simp) hz
            cases want <;> cases b
            · exact act rfl h
            · exact skip _ rfl rfl h
            · exact skip _ rfl rfl h
            · exact act rfl h
          · rename_i vs hb
            have : guardB ops.toList o e = some false := by simp [guardB, hg, hd, hb]
            simp only [D, this]
            exact ih _ _ _ _ _ _ _ h
          · exact h.elim
/-! What the text must look like. -/
def lookM (o : Oper) (all : List Oper) : Nat :=
  Nat.lor (o.op.operands.toList.foldr (fun x m => match x with
    | .tmp t => Nat.lor (Nat.shiftLeft 1 t) m
    | _ => m) 0) (match o.guard with
    | some (g, _) => match dstOf all g with
      | some d => Nat.shiftLeft 1 d
      | none => 0
    | none => 0)
def dstM : Option Nat → Nat
  | some d => Nat.shiftLeft 1 d
  | none => 0
def noSelB (o : Oper) : Bool := match o.op with
  | .select .. => false
  | _ => true
/-- One operation: its number, whether it writes, its slot, what it looks at, what it waits for. -/
structure Row where
  i : Nat
  imp : Bool
  dst : Nat
  look : Nat
  cl : Nat
def rowOf (all : List Oper) (cl : List Nat) (i : Nat) (o : Oper) : Row := ⟨i, isImp o.op, dstM o.dst, lookM o all, natAt cl i⟩
def rows (all : List Oper) (cl : List Nat) : List Nat → List Row
  | [] => []
  | i :: π => match opAt all i with
    | some o => rowOf all cl i o :: rows all cl π
    | none => rows all cl π
def pairB (p o : Row) : Bool := !Nat.beq p.i o.i && (inM o.cl p.i || (!o.imp && Nat.beq (Nat.land p.dst o.look) 0 && Nat.beq (Nat.land p.dst o.dst) 0 && Nat.beq (Nat.land o.dst p.look) 0))
def pairsB : List Row → Bool
  | [] => true
  | r :: l => l.all (pairB r) && pairsB l
def clOf (cl : List Nat) : List Edge → Nat
  | [] => 0
  | e :: l => Nat.lor (bif Region.binds .any e then Nat.lor (Nat.shiftLeft 1 e.on) (natAt cl e.on) else 0) (clOf cl l)
def clsB (cl : List Nat) : List Oper → Nat → Bool
  | [], _ => true
  | o :: l, j => Nat.beq (natAt cl j) (clOf cl o.after.toList) && noSelB o && clsB cl l (j + 1)
def edgesB (all : List Oper) (seen : Nat) : List Nat → Bool
  | [] => true
  | j :: π => (match opAt all j with
    | some o => o.after.toList.all (fun e => bif Region.binds .any e then inM seen e.on else true)
    | none => false) && edgesB all (Nat.lor seen (Nat.shiftLeft 1 j)) π
def hasAll (π : List Nat) : Nat → Bool
  | 0 => true
  | k + 1 => π.any (Nat.beq k) && hasAll π k
def drawOk (n : Nat) (all : List Oper) (cl π : List Nat) : Bool :=
  Nat.beq π.length all.length && hasAll π all.length && dstsOk n all && clsB cl all 0 && edgesB all 0 π && pairsB (rows all cl π)
theorem inM_zero (t : Nat) : inM 0 t = false := by rw [inM_eq]; simp
theorem inM_shift {d t : Nat} : inM (Nat.shiftLeft 1 d) t = true ↔ d = t := by
  rw [inM_eq]
  show (1 <<< d).testBit t = true ↔ _
  rw [Nat.one_shiftLeft, Nat.testBit_two_pow]
  simp
theorem land_zero {a b t : Nat} (h : Nat.beq (Nat.land a b) 0 = true) (ha : inM a t = true) : inM b t = false := by
  have h := Nat.eq_of_beq_eq_true h
  rw [inM_eq] at ha ⊢
  have h1 : (a &&& b).testBit t = false := by
    have : a &&& b = 0 := h
    rw [this]; simp
  rw [Nat.testBit_and, ha] at h1
  simpa using h1
theorem inM_dstM {d : Option Nat} {t : Nat} : inM (dstM d) t = true ↔ d = some t := by
  cases d with
  | none => simp [dstM, inM_zero]
  | some k =>
    show inM (Nat.shiftLeft 1 k) t = true ↔ _
    rw [inM_shift]; simp
theorem inM_look {ops : Array Oper} {o : Oper} {t : Nat} (h : t ∈ o.looksAt ops) : inM (lookM o ops.toList) t = true := by
  unfold lookM
  rw [inM_lor, Bool.or_eq_true]
  unfold Oper.looksAt at h
  rcases List.mem_append.1 h with h | h
  · left
    revert h
    generalize o.op.operands.toList = l
    induction l with
    | nil => intro h; cases h
    | cons x l ih =>
      intro h
      cases x with
      | tmp k =>
        simp only [List.filterMap_cons, List.mem_cons] at h
        show inM (Nat.lor (Nat.shiftLeft 1 k) _) t = true
        rw [inM_lor, Bool.or_eq_true]
        rcases h with h | h
        · left; exact inM_shift.2 h.symm
        · right; exact ih h
      | _ => exact ih (by simpa [List.filterMap_cons] using h)
  · right
    cases hg : o.guard with
    | none => rw [hg] at h; cases h
    | some g =>
      obtain ⟨j, want⟩ := g
      rw [hg] at h
      simp only at h ⊢
      rw [dstOf_eq]
      simp only [Array.getElem?_toList]
      cases hd : (ops[j]?).bind (·.dst) with
      | none => rw [hd] at h; simp at h
      | some d => rw [hd] at h; simp at h; subst h; exact inM_shift.2 rfl
theorem mem_rows {all : List Oper} {cl : List Nat} : ∀ {π : List Nat} {i : Nat} {o : Oper}, It.op i o ∈ its all π → rowOf all cl i o ∈ rows all cl π
  | [], _, _, h => by cases h
  | k :: π, i, o, h => by
    unfold its at h
    unfold rows
    cases hk : opAt all k with
    | none => rw [hk] at h; exact mem_rows (π := π) h
    | some p =>
      rw [hk] at h
      rcases List.mem_cons.1 h with h | h
      · injection h with h1 h2
        subst h1; subst h2
        exact List.mem_cons_self
      · exact List.mem_cons_of_mem _ (mem_rows (π := π) h)
theorem pairR_of {ops : Array Oper} {cl : List Nat} {p j : Nat} {q o : Oper} (h : pairB (rowOf ops.toList cl p q) (rowOf ops.toList cl j o) = true) : PairR ops (natAt cl) (.op p q) (.op j o) := by
  simp only [pairB, rowOf, Bool.and_eq_true, Bool.or_eq_true, Bool.not_eq_true'] at h
  obtain ⟨h1, h2⟩ := h
  refine ⟨fun e => by subst e; simp at h1, h2.imp id fun ⟨⟨⟨h3, h4⟩, h5⟩, h6⟩ => ⟨h3, ?_, ?_, ?_⟩⟩
  · intro d hd hm
    have := land_zero h4 (inM_dstM.2 hd)
    rw [inM_look hm] at this; cases this
  · intro d hd ho
    have := land_zero h5 (inM_dstM.2 hd)
    rw [inM_dstM.2 ho] at this; cases this
  · intro d hd hm
    have := land_zero h6 (inM_dstM.2 hd)
    rw [inM_look hm] at this; cases this
theorem pairs_of {ops : Array Oper} {cl : List Nat} : ∀ {π : List Nat}, pairsB (rows ops.toList cl π) = true → (its ops.toList π).Pairwise (PairR ops (natAt cl))
  | [], _ => List.Pairwise.nil
  | k :: π, h => by
    unfold rows at h
    unfold its
    cases hk : opAt ops.toList k with
    | none => rw [hk] at h; exact pairs_of (π := π) h
    | some p =>
      rw [hk] at h
      simp only [pairsB, Bool.and_eq_true, List.all_eq_true] at h
      refine List.pairwise_cons.2 ⟨fun x hx => ?_, pairs_of (π := π) h.2⟩
      cases x with
      | had a => trivial
      | op j o => exact pairR_of (h.1 _ (mem_rows hx))
theorem mem_its {all : List Oper} : ∀ {π : List Nat} {i : Nat} {o : Oper}, It.op i o ∈ its all π → all[i]? = some o ∧ i ∈ π
  | [], _, _, h => by cases h
  | k :: π, i, o, h => by
    unfold its at h
    cases hk : opAt all k with
    | none => rw [hk] at h; exact (mem_its (π := π) h).imp id (List.mem_cons_of_mem _)
    | some p =>
      rw [hk] at h
      rcases List.mem_cons.1 h with h | h
      · injection h with h1 h2
        subst h1; subst h2
        exact ⟨by rw [← opAt_eq]; exact hk, List.mem_cons_self⟩
      · exact (mem_its (π := π) h).imp id (List.mem_cons_of_mem _)
theorem its_mem {all : List Oper} : ∀ {π : List Nat} {i : Nat} {o : Oper}, all[i]? = some o → i ∈ π → It.op i o ∈ its all π
  | [], _, _, _, h => by cases h
  | k :: π, i, o, ho, h => by
    unfold its
    rcases List.mem_cons.1 h with rfl | h
    · rw [opAt_eq, ho]; exact List.mem_cons_self
    · have := its_mem (π := π) ho h
      split
      · exact List.mem_cons_of_mem _ this
      · exact this
theorem edge_of {all : List Oper} : ∀ {π : List Nat} {m : Nat} {seen : Nat → Prop}, (∀ t, inM m t = true → seen t) → edgesB all m π = true → EdgeOk seen (its all π) ∧ opCount (its all π) = π.length
  | [], _, _, _, _ => ⟨trivial, rfl⟩
  | j :: π, m, seen, hs, h => by
    simp only [edgesB, Bool.and_eq_true] at h
    obtain ⟨h1, h2⟩ := h
    unfold its
    cases hk : opAt all j with
    | none => rw [hk] at h1; cases h1
    | some o =>
      rw [hk] at h1
      simp only [List.all_eq_true] at h1 ⊢
      have ih := edge_of (π := π) (seen := fun q => seen q ∨ q = j) (fun t ht => by
        rw [inM_lor, Bool.or_eq_true] at ht
        exact ht.imp (hs t) fun h => (inM_shift.1 h).symm) h2
      refine ⟨⟨fun e he hb => ?_, ih.1⟩, by simp only [opCount, List.length_cons]; omega⟩
      have := h1 e (by simpa using he)
      rw [hb] at this
      exact hs _ this
theorem hasAll_of {π : List Nat} : ∀ {k : Nat}, hasAll π k = true → ∀ i, i < k → i ∈ π
  | 0, _, i, h => by omega
  | k + 1, h, i, hi => by
    simp only [hasAll, Bool.and_eq_true, List.any_eq_true] at h
    rcases Nat.lt_or_ge i k with h1 | h1
    · exact hasAll_of h.2 i h1
    · obtain rfl : i = k := by omega
      obtain ⟨x, hx, hb⟩ := h.1
      rw [Nat.eq_of_beq_eq_true hb]; exact hx
theorem dstsOk_of {n : Nat} : ∀ {l : List Oper}, dstsOk n l = true → ∀ o, o ∈ l → ∀ d, o.dst = some d → d < n
  | [], _, _, h, _, _ => by cases h
  | q :: l, h, o, ho, d, hd => by
    simp only [dstsOk, Bool.and_eq_true] at h
    rcases List.mem_cons.1 ho with rfl | ho
    · have := h.1
      rw [hd] at this
      simp only [Nat.blt_eq] at this
      exact this
    · exact dstsOk_of h.2 o ho d hd
theorem clOf_of {cl : List Nat} {r : Nat} : ∀ {l : List Edge}, inM (clOf cl l) r = true → ∃ e ∈ l, Region.binds .any e = true ∧ (r = e.on ∨ inM (natAt cl e.on) r = true)
  | [], h => by rw [clOf, inM_zero] at h; cases h
  | e :: l, h => by
    rw [clOf, inM_lor, Bool.or_eq_true] at h
    rcases h with h | h
    · cases hb : Region.binds .any e with
      | false => rw [hb] at h; simp only [cond_false, inM_zero] at h; cases h
      | true =>
        rw [hb] at h
        simp only [cond_true] at h
        rw [inM_lor, Bool.or_eq_true] at h
        exact ⟨e, List.mem_cons_self, hb, h.imp (fun h => (inM_shift.1 h).symm) id⟩
    · obtain ⟨e', h1, h2⟩ := clOf_of h
      exact ⟨e', List.mem_cons_of_mem _ h1, h2⟩
theorem cls_of {cl : List Nat} : ∀ {l : List Oper} {k : Nat}, clsB cl l k = true → ∀ j o, l[j]? = some o → natAt cl (k + j) = clOf cl o.after.toList ∧ noSel o
  | [], _, _, j, o, h => by simp at h
  | q :: l, k, h, j, o, hj => by
    simp only [clsB, Bool.and_eq_true] at h
    cases j with
    | zero =>
      simp only [List.getElem?_cons_zero, Option.some.injEq] at hj
      subst hj
      refine ⟨Nat.eq_of_beq_eq_true h.1.1, fun cs b he => ?_⟩
      have := h.1.2
      simp only [noSelB, he] at this
      cases this
    | succ j =>
      have := cls_of h.2 j o (by simpa using hj)
      rwa [Nat.add_assoc, Nat.add_comm 1 j] at this
/-- A REGION THAT DRAWS: one order, chosen by whoever types; what else may come in between is checked by evaluation. -/
theorem draw_rule [Mode] {n id : Nat} {Q : Exit → Env → World → Prop} {e : Env} {w : World} (hT : T.Ok P) (hm : P.follows .mixedOrders = true) {L S A : List Asn} (H : Hp B L F w) [hp : Pick L A S] (π cl : List Nat)
    (hk : drawOk n ops.toList cl π = true) (h : evD P T ops.toList cl B S F (Q .normal) π e A F none A [A] []) : CodeK P n (.region id ops true) Q e w := by
  refine ⟨fun ro ds a hf => wpIn_region_any hm ?_⟩
  simp only [drawOk, Bool.and_eq_true] at hk
  obtain ⟨⟨⟨⟨⟨h1, h2⟩, h3⟩, h4⟩, h5⟩, h6⟩ := hk
  have h1 := Nat.eq_of_beq_eq_true h1
  have hcl := cls_of h4
  have hed := edge_of (seen := fun q => (Array.replicate ops.size false).getD q false = true) (fun t ht => by rw [inM_zero] at ht; cases ht) h5
  have hlen : ops.toList.length = ops.size := by simp
  have hgd : ∀ q b, q < ops.size → (Array.replicate ops.size false).getD q b = false := fun q b hq => by
    rw [Array.getD_eq_getD_getElem?]; simp [hq]
  refine D_sound (n := n) (cl := natAt cl) (B := B) (S := S) (F := F) (Qx := Q) (e0 := e) (dstsOk_of h3) (fun o ho => ?_) (fun j o hj r hr => ?_) ops.size (its ops.toList π) _ e ⟨A, F, none, A, [A], []⟩ a _ ?_ (by simp) (fun i o hi => ?_) (fun i hi _ => ?_) (pairs_of h6) hed.1 ?_ hf (Off.refl _ _) (fun f hf => hf) (fun X w h => ⟨X, h⟩) List.mem_cons_self (fun _ _ h => by cases h) ⟨[], ?_⟩ (D_of_evD hT _ _ _ _ _ _ _ _ h)
  · obtain ⟨j, hj, rfl⟩ := List.mem_iff_getElem.1 ho
    exact (hcl j _ (List.getElem?_eq_getElem hj)).2
  · have := (hcl j o (by simpa using hj)).1
    rw [Nat.zero_add] at this
    rw [this] at hr
    obtain ⟨e, he, hx⟩ := clOf_of hr
    exact ⟨e, by simpa using he, hx⟩
  · rw [hed.2, h1, hlen]
  · have := (mem_its hi).1
    have hlt := (List.getElem?_eq_some_iff.1 this).1
    exact ⟨by simpa using this, hgd i true (by omega)⟩
  · have hi' : i < ops.toList.length := by omega
    exact ⟨_, its_mem (List.getElem?_eq_getElem hi') (hasAll_of h2 i hi')⟩
  · intro q hq
    rcases Nat.lt_or_ge q ops.size with hlt | hge
    · rw [hgd q false hlt] at hq; cases hq
    · rw [Array.getD_eq_getD_getElem?, Array.getElem?_eq_none (by simpa using hge)] at hq; simp at hq
  · rw [pend_its]
    have := H.perm hp.perm
    simp only [List.append_nil, List.nil_append]
    obtain ⟨q1, q2, q3, q4, q5, I, fp, hs, ha, r⟩ := this
    exact ⟨q1, q2, ⟨q3.1, fun q => Nat.le_succ_of_le (q3.2 q)⟩, q4, q5, I, fp, hs.keep (fun _ _ => rfl) fun b hb => r.2.2.2.2 b hb, fun f hf => f.mono (ha f hf) (fun _ h => h) fun _ _ => rfl, r⟩
end
/-! ### Rules -/
class TailX (L X : List Asn) (A : outParam (List Asn)) : Prop where
  eq : L = A ++ X
instance (priority := 2000) TailX.here (X : List Asn) : TailX X X [] := ⟨rfl⟩
instance (priority := 1000) TailX.there (a : Asn) (L X A : List Asn) [h : TailX L X A] : TailX (a :: L) X (a :: A) := ⟨by rw [h.eq]; rfl⟩
class TailF (L X : List Fact) (A : outParam (List Fact)) : Prop where
  eq : L = A ++ X
instance (priority := 2000) TailF.here (X : List Fact) : TailF X X [] := ⟨rfl⟩
instance (priority := 1000) TailF.there (a : Fact) (L X A : List Fact) [h : TailF L X A] : TailF (a :: L) X (a :: A) := ⟨by rw [h.eq]; rfl⟩
section
variable {P : Program} {T : Tab} {B : Base} {S A A0 : List Asn} {hist : List (List Asn)} {born : List (Nat × Asn)} {F GF : List Fact}
/-- An operation that may write: asx everywhere, at what is left of memory (X is somebody else's). -/
theorem imp_rule [Mode] {o : Oper} {ρ : Operand → Value} {K : Value → List Asn → List Fact → Prop} {SX R : List Asn → List Asn} [h1 : ∀ X, AppL S X (SX X)] [h2 : ∀ X, AppL A (SX X) (R X)]
    (h : ∀ X w, Hp B (R X) GF w → stopOp P o ρ w fun v w' => ImpE B S X GF w' (K v)) : ImpK P B S A GF o ρ K :=
  ⟨fun X w hw => h X w (by rw [(h2 X).eq, (h1 X).eq]; exact hw)⟩
theorem imp_done [Mode] {X : List Asn} {w : World} {K : List Asn → List Fact → Prop} {L L' A' : List Asn} {N G' : List Fact} (H : Hp B L N w) [hp : Pick L S L'] [ht : TailX L' X A'] [hf : TailF N GF G'] (k : K A' N) : ImpE B S X GF w K := by
  refine ⟨A', G', ?_, by rw [← hf.eq]; exact k⟩
  rw [← hf.eq]
  have e : (S ++ (A' ++ X)).Perm (A' ++ (S ++ X)) := (List.perm_append_comm_assoc _ _ _)
  have := hp.perm
  rw [ht.eq] at this
  exact H.perm (this.trans e)
theorem pass_rule [Mode] {m : Nat} {last : Option Nat} {o : Oper} {ρ : Operand → Value} {K : Value → Prop} (c : Value) (h : ∀ w, Hp B S F w → stopOp P o ρ w fun v w' => v = c ∧ w' = w) (k : K c) : PassK P B S A0 hist born F GF m last o ρ K := ⟨⟨c, .inl fun A _ X w hw => h w (Hp.weak hw fun _ h => h), k⟩⟩
/-- The same at memory asx the last writer left it (which it waits for: hm by evaluation). -/
theorem pass_last [Mode] {m : Nat} {last : Option Nat} {o : Oper} {ρ : Operand → Value} {K : Value → Prop} {SX R : List Asn → List Asn} [h1 : ∀ X, AppL S X (SX X)] [h2 : ∀ X, AppL A0 (SX X) (R X)] (c : Value) (hm : lastB m last = true)
    (h : ∀ X w, Hp B (R X) GF w → stopOp P o ρ w fun v w' => v = c ∧ w' = w) (k : K c) : PassK P B S A0 hist born F GF m last o ρ K := ⟨⟨c, .inr (.inl ⟨hm, fun X w hw => h X w (by rw [(h2 X).eq, (h1 X).eq]; exact hw)⟩), k⟩⟩
class SubAll (Q : List Asn) (hist : List (List Asn)) : Prop where
  sub : ∀ A, A ∈ hist → ∃ R, A.Perm (Q ++ R)
instance SubAll.nil (Q : List Asn) : SubAll Q [] := ⟨fun A h => by cases h⟩
instance SubAll.cons (Q A R : List Asn) (hist : List (List Asn)) [h1 : Pick A Q R] [h2 : SubAll Q hist] : SubAll Q (A :: hist) := ⟨fun A h => by
  rcases List.mem_cons.1 h with rfl | h
  · exact ⟨R, h1.perm⟩
  · exact h2.sub A h⟩
/-- The same at what no writer has turned till then (Q). -/
theorem pass_kept [Mode] (Q : List Asn) {m : Nat} {last : Option Nat} {o : Oper} {ρ : Operand → Value} {K : Value → Prop} {SX R : List Asn → List Asn} [hs : SubAll Q hist] [h1 : ∀ X, AppL S X (SX X)] [h2 : ∀ X, AppL Q (SX X) (R X)] (c : Value)
    (h : ∀ X w, Hp B (R X) F w → stopOp P o ρ w fun v w' => v = c ∧ w' = w) (k : K c) : PassK P B S A0 hist born F GF m last o ρ K :=
  ⟨⟨c, .inl fun A hA X w hw => by
    obtain ⟨R', hp⟩ := hs.sub A hA
    refine h (R' ++ X) w ?_
    rw [(h2 _).eq, (h1 _).eq]
    refine hw.perm ((hp.append_right _).trans ?_)
    rw [List.append_assoc]
    exact List.Perm.append_left Q (List.perm_append_comm_assoc _ _ _), k⟩⟩
class InBorn (k : Nat) (born : List (Nat × Asn)) (a : outParam Asn) : Prop where
  mem : (k, a) ∈ born
instance (priority := 2000) InBorn.headC (k : Nat) (a : Asn) (A : List Asn) (b : List (Nat × Asn)) : InBorn k (bornC k (a :: A) b) a := ⟨List.mem_cons_self⟩
instance (priority := 2000) InBorn.head (k : Nat) (a : Asn) (b : List (Nat × Asn)) : InBorn k ((k, a) :: b) a := ⟨List.mem_cons_self⟩
instance InBorn.tailC (k i : Nat) (a c : Asn) (A : List Asn) (b : List (Nat × Asn)) [h : InBorn k b a] : InBorn k (bornC i (c :: A) b) a := ⟨List.mem_cons_of_mem _ h.mem⟩
instance InBorn.tail (k : Nat) (a : Asn) (x : Nat × Asn) (b : List (Nat × Asn)) [h : InBorn k b a] : InBorn k (x :: b) a := ⟨List.mem_cons_of_mem _ h.mem⟩
theorem done_rule [Mode] {K : World → Prop} {R : List Asn} [h : AppL A S R] (k : ∀ w, Hp B R GF w → K w) : DoneK B S A GF K := ⟨fun w hw => k w (by rw [h.eq]; exact hw)⟩
theorem fresh_rule [Mode] {o : Oper} {ρ : Operand → Value} {K : Nat → List Asn → Prop} (ob : Obj) (h : ∀ w, (execOp ρ o).run P w = .ok (.value (freshV o.op w.heap.size)) (w.alloc ob)) (k : ∀ n, K n (blkO n ob :: A)) : FreshK P B S A GF o ρ K := ⟨⟨ob, h, fun n _ => k n⟩⟩
theorem fresh_alloc [Mode] {o : Oper} {ρ : Operand → Value} {K : Nat → List Asn → Prop} (hT : T.Ok P) {t : TypeId} {d : TypeDesc} {i : TypeInfo} {z : Value} (ho : o.op = .alloc t) (ht : T t = some ⟨d, i⟩) (hz : i.zero = some z) (k : ∀ n, K n (blk n z.cells.toList t :: A)) : FreshK P B S A GF o ρ K :=
  fresh_rule (.cells z.cells t) (fun w => by
    obtain ⟨dst, op, type, pos, after, guard⟩ := o
    simp only at ho
    subst ho
    simp [execOp, freshV, Instr.alloc, zeroValue, run_info hT ht, hz, newVar, newRow]) (by simpa [blk] using k)
theorem fresh_box [Mode] {o : Oper} {ρ : Operand → Value} {K : Nat → List Asn → Prop} {t : TypeId} {x : Operand} (ho : o.op = .box t x) (k : ∀ n, K n (blk n (ρ x).cells.toList t :: A)) : FreshK P B S A GF o ρ K :=
  fresh_rule (.cells (ρ x).cells t) (fun w => by
    obtain ⟨dst, op, type, pos, after, guard⟩ := o
    simp only at ho
    subst ho
    simp [execOp, freshV, Instr.box, newVar, newRow]) (by simpa [blk] using k)
theorem fresh_slice [Mode] {o : Oper} {ρ : Operand → Value} {K : Nat → List Asn → Prop} (hT : T.Ok P) {t e : TypeId} {it : TypeInfo} {de : TD} {z : Value} {n : Nat} {parts : Array (Nat × Operand)} (cs : List Value) (ho : o.op = .buildSlice t n parts) (ht : T t = some ⟨.slice e, it⟩) (he : T e = some de) (hz : de.info.zero = some z)
    (hs : seqParts de.info.size 0 (parts.toList.map fun p => (p.1, ρ p.2)) = some cs) (hn : Nat.beq parts.toList.length n = true) (hb : Nat.ble (n * de.info.size) 16777216 = true) (k : ∀ g, K g (blk g cs e :: A)) : FreshK P B S A GF o ρ K :=
  fresh_rule (.cells cs.toArray e) (fun w => by
    obtain ⟨dst, op, type, pos, after, guard⟩ := o
    simp only at ho
    subst ho
    have h := run_buildSlice (P := P) hT ht he hz hs (by rw [List.length_map]; exact hn) hb w
    have e1 : (parts.toList.map fun p => (p.1, ρ p.2)).toArray = parts.map fun p => (p.1, ρ p.2) := by
      apply Array.ext' ; simp
    rw [e1] at h
    simp [execOp, freshV, h]) k
end
theorem box_as [Mode] {P : Program} {K : Value → World → Prop} {w : World} {B : Base} {S : List Asn} {F : List Fact} (H : Hp B S F w) {t : TypeId} {x : Value} (cs : List Value) (hc : x.cells.toList = cs) (k : ∀ n w', Hp B (blk n cs t :: S) F w' → K (.pointer (some ⟨n, 0, none⟩)) w') : BoxK P K w t x := by
  subst hc; exact box_rule H k
theorem slice_as [Mode] {P : Program} {T : Tab} {K : Value → World → Prop} {w : World} {B : Base} {S : List Asn} {F : List Fact} (hT : T.Ok P) (H : Hp B S F w) {t e : TypeId} {it : TypeInfo} {de : TD} {z : Value} {n : Nat} {parts : List (Nat × Value)} (cs : List Value) (ht : T t = some ⟨.slice e, it⟩) (he : T e = some de) (hz : de.info.zero = some z)
    (hs : seqParts de.info.size 0 parts = some cs) (hn : Nat.beq parts.length n = true) (hb : Nat.ble (n * de.info.size) 16777216 = true) (k : ∀ g w', Hp B (blk g cs e :: S) F w' → K (.slice (some ⟨g, 0, none⟩) n n) w') : BuildSliceK P K w t n parts :=
  buildSlice_rule hT H ht he hz hs hn hb k
end Go.Wk
