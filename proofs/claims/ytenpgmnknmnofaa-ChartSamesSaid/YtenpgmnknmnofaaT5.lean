/- Keys, their order, names. -/
import Derived.Test.YtenpgmnknmnofaaWkTab
import Derived.Test.YtenpgmnknmnofaaWkRow
namespace Go.Proofs.Ytenpgmnknmnofaa
open Go Go.Proofs Go.Wk
@[reducible] def CB (g : Nat) (args : List Value) (v : Value) : Prop := ∀ (w : World) (M I : BS), Hp ⟨w, M, I⟩ [] [] w → Ctr Try.prog g args w M I (fun _ : Unit => v) (fun _ => True) (fun _ => []) (fun _ => [])
theorem tdr : Try.prog.follows .mixedOrders = true := by kernel_rfl
theorem nan5 (a : Int) : CB 39 [.int .u8 a] (.bool false) := by
  intro w M I H
  refine Exe.of_ev tok Try.call39 Try.func39 rfl rfl rfl ?_
  refine Exists.intro () (And.intro (congrArg Value.bool ?_) (And.intro trivial H))
  simp
theorem nan22 (a : Int) : CB 40 [.int .u32 a] (.bool false) := by
  intro w M I H
  refine Exe.of_ev tok Try.call40 Try.func40 rfl rfl rfl ?_
  refine Exists.intro () (And.intro (congrArg Value.bool ?_) (And.intro trivial H))
  simp
theorem nan23 (a : Int) : CB 41 [.int .i32 a] (.bool false) := by
  intro w M I H
  refine Exe.of_ev tok Try.call41 Try.func41 rfl rfl rfl ?_
  refine Exists.intro () (And.intro (congrArg Value.bool ?_) (And.intro trivial H))
  simp
def cmpI (a b : Int) : Int := if a < b then -1 else if b < a then 1 else 0
theorem cmp5 (a b : Int) : CB 27 [.int .u8 a, .int .u8 b] (.int .i64 (cmpI a b)) := by
  intro w M I H
  refine Exe.of_ev tok Try.call27 Try.func27 rfl rfl rfl ?_
  refine call_rule H (fun M I _ h => nan5 a _ M I h) fun _ w1 _ H1 => ?_
  refine call_rule H1 (fun M I _ h => nan5 b _ M I h) fun _ w2 _ H2 => ?_
  refine brd (fun h => ?_) (fun h => ?_)
  · exact Exists.intro () (And.intro (congrArg (Value.int .i64) (by simp [cmpI, h])) (And.intro trivial H2))
  · refine brd (fun h2 => ?_) (fun h2 => ?_)
    · exact Exists.intro () (And.intro (congrArg (Value.int .i64) (by simp [cmpI, h, h2])) (And.intro trivial H2))
    · exact Exists.intro () (And.intro (congrArg (Value.int .i64) (by simp [cmpI, h, h2])) (And.intro trivial H2))
theorem cmp22 (a b : Int) : CB 31 [.int .u32 a, .int .u32 b] (.int .i64 (cmpI a b)) := by
  intro w M I H
  refine Exe.of_ev tok Try.call31 Try.func31 rfl rfl rfl ?_
  refine call_rule H (fun M I _ h => nan22 a _ M I h) fun _ w1 _ H1 => ?_
  refine call_rule H1 (fun M I _ h => nan22 b _ M I h) fun _ w2 _ H2 => ?_
  refine brd (fun h => ?_) (fun h => ?_)
  · exact Exists.intro () (And.intro (congrArg (Value.int .i64) (by simp [cmpI, h])) (And.intro trivial H2))
  · refine brd (fun h2 => ?_) (fun h2 => ?_)
    · exact Exists.intro () (And.intro (congrArg (Value.int .i64) (by simp [cmpI, h, h2])) (And.intro trivial H2))
    · exact Exists.intro () (And.intro (congrArg (Value.int .i64) (by simp [cmpI, h, h2])) (And.intro trivial H2))
theorem cmp23 (a b : Int) : CB 32 [.int .i32 a, .int .i32 b] (.int .i64 (cmpI a b)) := by
  intro w M I H
  refine Exe.of_ev tok Try.call32 Try.func32 rfl rfl rfl ?_
  refine call_rule H (fun M I _ h => nan23 a _ M I h) fun _ w1 _ H1 => ?_
  refine call_rule H1 (fun M I _ h => nan23 b _ M I h) fun _ w2 _ H2 => ?_
  refine brd (fun h => ?_) (fun h => ?_)
  · exact Exists.intro () (And.intro (congrArg (Value.int .i64) (by simp [cmpI, h])) (And.intro trivial H2))
  · refine brd (fun h2 => ?_) (fun h2 => ?_)
    · exact Exists.intro () (And.intro (congrArg (Value.int .i64) (by simp [cmpI, h, h2])) (And.intro trivial H2))
    · exact Exists.intro () (And.intro (congrArg (Value.int .i64) (by simp [cmpI, h, h2])) (And.intro trivial H2))
structure Key where
  loan : Int
  day : Int
  kind : Int
  seq : Int
deriving DecidableEq
@[reducible] def keyC (k : Key) : List Value := [.int .u32 k.loan, .int .i32 k.day, .int .u8 k.kind, .int .u32 k.seq]
@[reducible] def keyV (k : Key) : Value := .agg #[.int .u32 k.loan, .int .i32 k.day, .int .u8 k.kind, .int .u32 k.seq]
def orL : List Int → Int
  | [] => 0
  | x :: r => if x ≠ 0 then x else orL r
theorem orOf (l : List Int) (n : Nat) (hl : l.length ≤ 1000) (w : World) (M I : BS) (H : Hp ⟨w, M, I⟩ [blk n (l.map (Value.int .i64)) 3] [] w) :
    Ctr Try.prog 30 [.slice (some ⟨n, 0, none⟩) l.length l.length] w M I (fun _ : Unit => .int .i64 (orL l)) (fun _ => True) (fun _ => []) (fun _ => []) := by
  refine Exe.of_ev tok Try.call30 Try.func30 rfl rfl rfl ?_
  refine loop_rule tok (σ := Nat) 130852 (fun i => [(3, .int .i64 0), (8, .int .i64 i)]) (fun i w' => i ≤ l.length ∧ orL l = orL (l.drop i) ∧ Hp ⟨w, M, I⟩ [blk n (l.map (Value.int .i64)) 3] [] w') (fun i => l.length - i) 0 rfl rfl ⟨rfl, rfl, trivial⟩ ⟨Nat.zero_le _, rfl, H⟩ ?_
  rintro i j w1 ⟨hi, ho, H1⟩
  refine brd (fun h => ?_) (fun h => ?_)
  · have hlt : i < l.length := by omega
    obtain ⟨x, hx⟩ : ∃ x, l[i]? = some x := ⟨_, List.getElem?_eq_getElem hlt⟩
    have hd : l.drop i = x :: l.drop (i + 1) := by
      rw [List.drop_eq_getElem_cons hlt]
      rw [List.getElem?_eq_getElem hlt] at hx
      rw [Option.some.inj hx]
    refine idx_own tok rfl rfl (by omega) (by omega) ?_
    refine load_rule tok H1 (v := .int .i64 x) ?_ ?_
    · show (l.map (Value.int .i64))[0 + (Int.toNat (i : Int)) * 1]? = _
      simp [hx]
    · refine br (fun h2 => ?_) (fun h2 => ?_)
      · refine Exists.intro () (And.intro (congrArg (Value.int .i64) ?_) (And.intro trivial H1.drop))
        rw [ho, hd, orL, if_pos (by simpa using h2)]
      · refine Exists.intro (i + 1) (And.intro ⟨rfl, ?_, trivial⟩ (And.intro (by omega) ⟨by omega, ?_, H1⟩))
        · show Value.int .i64 (IntKind.i64.wrap (i + 1)) = _
          rw [w64 (by omega) (by omega)]; rfl
        · rw [ho, hd, orL, if_neg (by simpa using h2)]
  · refine Exists.intro () (And.intro (congrArg (Value.int .i64) ?_) (And.intro trivial H1.drop))
    rw [ho, List.drop_eq_nil_of_le (by omega), orL]
theorem or4 (a b c d : Int) (n : Nat) (w : World) (M I : BS) (H : Hp ⟨w, M, I⟩ [blk n [.int .i64 a, .int .i64 b, .int .i64 c, .int .i64 d] 3] [] w) :
    Ctr Try.prog 30 [.slice (some ⟨n, 0, none⟩) 4 4] w M I (fun _ : Unit => .int .i64 (orL [a, b, c, d])) (fun _ => True) (fun _ => []) (fun _ => []) := orOf [a, b, c, d] n (by simp) w M I H
def lessB (a b : Key) : Bool := decide (orL [cmpI a.loan b.loan, cmpI a.day b.day, cmpI a.kind b.kind, cmpI a.seq b.seq] < 0)
theorem less (a b : Key) : CB 16 [keyV a, keyV b] (.bool (lessB a b)) := by
  intro w M I H
  refine Exe.of_ev tok Try.call16 Try.func16 rfl rfl rfl ?_
  refine box_as H (keyC a) rfl fun x w1 H1 => ?_
  refine box_as H1 (keyC b) rfl fun y w2 H2 => ?_
  refine draw_rule (A := []) tok tdr H2 [0, 1, 2, 3, 4, 5, 6, 7, 8, 9, 10, 11, 12, 13, 14, 15, 16, 17, 18, 19, 20, 21, 22, 23] [0, 1, 0, 4, 15, 0, 32, 0, 128, 511, 0, 1024, 0, 4096, 16383, 0, 32768, 0, 131072, 524287, 1048575, 2097151, 4194303, 8388607] rfl ?_
  refine pass_rule _ (fun w h => load_rule tok h rfl ⟨rfl, rfl⟩) ?_
  refine pass_rule _ (fun w h => load_rule tok h rfl ⟨rfl, rfl⟩) ?_
  refine imp_rule (fun X w h => call_rule h (fun M I _ h => cmp22 a.loan b.loan _ M I h) fun _ w1 _ H1 => imp_done H1 ?_)
  refine pass_rule _ (fun w h => load_rule tok h rfl ⟨rfl, rfl⟩) ?_
  refine pass_rule _ (fun w h => load_rule tok h rfl ⟨rfl, rfl⟩) ?_
  refine imp_rule (fun X w h => call_rule h (fun M I _ h => cmp23 a.day b.day _ M I h) fun _ w1 _ H1 => imp_done H1 ?_)
  refine pass_rule _ (fun w h => load_rule tok h rfl ⟨rfl, rfl⟩) ?_
  refine pass_rule _ (fun w h => load_rule tok h rfl ⟨rfl, rfl⟩) ?_
  refine imp_rule (fun X w h => call_rule h (fun M I _ h => cmp5 a.kind b.kind _ M I h) fun _ w1 _ H1 => imp_done H1 ?_)
  refine pass_rule _ (fun w h => load_rule tok h rfl ⟨rfl, rfl⟩) ?_
  refine pass_rule _ (fun w h => load_rule tok h rfl ⟨rfl, rfl⟩) ?_
  refine imp_rule (fun X w h => call_rule h (fun M I _ h => cmp22 a.seq b.seq _ M I h) fun _ w1 _ H1 => imp_done H1 ?_)
  refine fresh_slice tok [.int .i64 (cmpI a.loan b.loan), .int .i64 (cmpI a.day b.day), .int .i64 (cmpI a.kind b.kind), .int .i64 (cmpI a.seq b.seq)] rfl rfl rfl rfl rfl rfl rfl fun n => ?_
  refine imp_rule (fun X w h => call_rule h (fun M I _ h => or4 (cmpI a.loan b.loan) (cmpI a.day b.day) (cmpI a.kind b.kind) (cmpI a.seq b.seq) n _ M I h) fun _ w1 _ H1 => imp_done H1 ?_)
  refine done_rule fun w3 H3 => ?_
  exact Exists.intro () (And.intro rfl (And.intro trivial H3.dropAll))
theorem key_ (a : Key) : CB 11 [keyV a] (keyV a) := by
  intro w M I H
  refine Exe.of_ev tok Try.call11 Try.func11 rfl rfl rfl ?_
  refine box_as H (keyC a) rfl fun x w1 H1 => ?_
  refine alloc_rule tok H1 rfl rfl fun n w2 H2 => ?_
  refine load_rule tok H2 rfl ?_
  refine load_rule tok H2 rfl ?_
  refine load_rule tok H2 rfl ?_
  refine load_rule tok H2 rfl ?_
  refine store_rule tok H2 rfl rfl rfl rfl fun w3 H3 => ?_
  refine Exists.intro ⟨n, 0, none⟩ (Exists.intro (keyV a) (And.intro rfl (And.intro (Hp.ld (T := tb) tok H3 rfl) ?_)))
  exact Exists.intro () (And.intro rfl (And.intro trivial H3.dropAll))
theorem lessR (a b : Key) : CB 17 [keyV a, keyV b] (.bool (lessB a b)) := by
  intro w M I H
  refine Exe.of_ev tok Try.call17 Try.func17 rfl rfl rfl ?_
  refine box_as H (keyC a) rfl fun x w1 H1 => ?_
  refine box_as H1 (keyC b) rfl fun y w2 H2 => ?_
  refine load_rule tok H2 rfl ?_
  refine load_rule tok H2 rfl ?_
  refine br (fun h => ?_) (fun h => ?_)
  · refine load_rule tok H2 rfl ?_
    refine load_rule tok H2 rfl ?_
    refine Exists.intro () (And.intro (congrArg Value.bool ?_) (And.intro trivial H2.dropAll))
    have h : a.loan ≠ b.loan := by simpa using h
    unfold lessB orL cmpI
    by_cases h1 : a.loan < b.loan
    · simp [h1]
    · have : b.loan < a.loan := by omega
      simp [h1, this]
  · have h : a.loan = b.loan := by simpa using h
    have e0 : cmpI a.loan b.loan = 0 := by simp [cmpI, h]
    refine load_rule tok H2 rfl ?_
    refine load_rule tok H2 rfl ?_
    refine br (fun h => ?_) (fun h => ?_)
    · refine load_rule tok H2 rfl ?_
      refine load_rule tok H2 rfl ?_
      refine Exists.intro () (And.intro (congrArg Value.bool ?_) (And.intro trivial H2.dropAll))
      have h : a.day ≠ b.day := by simpa using h
      unfold lessB
      rw [e0]
      unfold orL orL cmpI
      by_cases h1 : a.day < b.day
      · simp [h1]
      · have : b.day < a.day := by omega
        simp [h1, this]
    · have h : a.day = b.day := by simpa using h
      have e1 : cmpI a.day b.day = 0 := by simp [cmpI, h]
      refine load_rule tok H2 rfl ?_
      refine load_rule tok H2 rfl ?_
      refine br (fun h => ?_) (fun h => ?_)
      · refine load_rule tok H2 rfl ?_
        refine load_rule tok H2 rfl ?_
        refine Exists.intro () (And.intro (congrArg Value.bool ?_) (And.intro trivial H2.dropAll))
        have h : a.kind ≠ b.kind := by simpa using h
        unfold lessB
        rw [e0, e1]
        unfold orL orL orL cmpI
        by_cases h1 : a.kind < b.kind
        · simp [h1]
        · have : b.kind < a.kind := by omega
          simp [h1, this]
      · have h : a.kind = b.kind := by simpa using h
        have e2 : cmpI a.kind b.kind = 0 := by simp [cmpI, h]
        refine load_rule tok H2 rfl ?_
        refine load_rule tok H2 rfl ?_
        refine Exists.intro () (And.intro (congrArg Value.bool ?_) (And.intro trivial H2.dropAll))
        unfold lessB
        rw [e0, e1, e2]
        unfold cmpI
        simp only [orL, ne_eq, not_true_eq_false, if_false]
        by_cases h1 : a.seq < b.seq
        · simp [h1]
        · by_cases h2 : b.seq < a.seq
          · simp [h1, h2]
          · simp [h1, h2]
def accL : List ByteArray := [⟨#[]⟩, ⟨#[99, 97, 115, 104]⟩, ⟨#[112, 114, 105, 110, 99, 105, 112, 97, 108]⟩, ⟨#[105, 110, 116, 101, 114, 101, 115, 116]⟩, ⟨#[102, 101, 101, 115]⟩, ⟨#[115, 117, 115, 112, 101, 110, 115, 101]⟩, ⟨#[105, 110, 99, 111, 109, 101]⟩, ⟨#[99, 104, 97, 114, 103, 101, 115]⟩, ⟨#[108, 111, 115, 115]⟩, ⟨#[114, 101, 99, 111, 118, 101, 114, 101, 100]⟩]
def kindL : List ByteArray := [⟨#[]⟩, ⟨#[98, 111, 97, 114, 100]⟩, ⟨#[97, 99, 99, 114, 117, 101]⟩, ⟨#[108, 97, 116, 101]⟩, ⟨#[112, 97, 121]⟩, ⟨#[102, 101, 101]⟩, ⟨#[119, 97, 105, 118, 101]⟩, ⟨#[111, 102, 102]⟩]
def accName (k : Int) : ByteArray := (accL[k.toNat]?).getD ⟨#[]⟩
def kindName (k : Int) : ByteArray := (kindL[k.toNat]?).getD ⟨#[]⟩
theorem account (k : Int) (h0 : 0 ≤ k) (h1 : k ≤ 255) : CB 18 [.int .u8 k] (.string (accName k)) := by
  intro w M I H
  refine Exe.of_ev tok Try.call18 Try.func18 rfl rfl rfl ?_
  refine slice_as tok H (accL.map Value.string) rfl rfl rfl rfl rfl rfl fun g w1 H1 => ?_
  have e : IntKind.i64.wrap k = k := w64 (by omega) (by omega)
  refine brd (fun h => ?_) (fun h => ?_)
  · refine Exists.intro () (And.intro (congrArg Value.string ?_) (And.intro trivial H1.drop))
    rw [e] at h
    have : accL.length ≤ k.toNat := by show 10 ≤ _; omega
    simp [accName, List.getElem?_eq_none this]
  · rw [e] at h
    refine idx_own tok rfl rfl h0 (by omega) ?_
    have hlt : k.toNat < accL.length := by show _ < 10; omega
    refine load_rule tok H1 (v := .string (accName k)) ?_ ?_
    · show (accL.map Value.string)[0 + k.toNat * 1]? = _
      simp [accName, List.getElem?_eq_getElem hlt]
    · exact Exists.intro () (And.intro rfl (And.intro trivial H1.drop))
theorem kind (k : Int) (h0 : 0 ≤ k) (h1 : k ≤ 255) : CB 19 [.int .u8 k] (.string (kindName k)) := by
  intro w M I H
  refine Exe.of_ev tok Try.call19 Try.func19 rfl rfl rfl ?_
  refine slice_as tok H (kindL.map Value.string) rfl rfl rfl rfl rfl rfl fun g w1 H1 => ?_
  have e : IntKind.i64.wrap k = k := w64 (by omega) (by omega)
  refine brd (fun h => ?_) (fun h => ?_)
  · refine Exists.intro () (And.intro (congrArg Value.string ?_) (And.intro trivial H1.drop))
    rw [e] at h
    have : kindL.length ≤ k.toNat := by show 8 ≤ _; omega
    simp [kindName, List.getElem?_eq_none this]
  · rw [e] at h
    refine idx_own tok rfl rfl h0 (by omega) ?_
    have hlt : k.toNat < kindL.length := by show _ < 8; omega
    refine load_rule tok H1 (v := .string (kindName k)) ?_ ?_
    · show (kindL.map Value.string)[0 + k.toNat * 1]? = _
      simp [kindName, List.getElem?_eq_getElem hlt]
    · exact Exists.intro () (And.intro rfl (And.intro trivial H1.drop))
end Go.Proofs.Ytenpgmnknmnofaa
