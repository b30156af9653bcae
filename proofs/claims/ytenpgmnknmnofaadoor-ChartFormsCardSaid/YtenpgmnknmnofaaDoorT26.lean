/- Numbers with a sign as bytes; all of it; bytes of one's own: the walks. -/
import Derived.Test.YtenpgmnknmnofaaDoorT25
namespace Go.Proofs.YtenpgmnknmnofaaDoor
open Go Go.Proofs Go.Wk
def intB (v : Int) : List Nat := if v < 0 then numB (-1 - v).toNat 128 else numB v.toNat 0
theorem uint (q : Nat) (a : SV) (bs : List Nat) (hl : bs.length = a.n) (hn : a.n ≤ 1000000) (n : Nat) (hx : n < 18446744073709551616) (w : World) (M I : BS) (H : Hp ⟨w, M, I⟩ (quillA q a bs) [] w) :
    Ctr Tryd.prog 29 [.pointer (some ⟨q, 0, none⟩), .int .u64 n] w M I (fun _ : SV => .pointer (some ⟨q, 0, none⟩)) (fun b => b.n = a.n + (numB n 0).length) (fun b => quillA q b (bs ++ numB n 0)) (fun _ => []) := by
  refine Exe.of_ev tok Tryd.call29 Tryd.func29 rfl rfl rfl ?_
  refine call_rule H (fun M I _ h => number q a bs hl hn n 0 hx (by omega) _ M I h) fun b w1 hb H1 => ?_
  exact Exists.intro b (And.intro rfl (And.intro hb H1))
theorem uint_as (q : Nat) (a : SV) (bs : List Nat) (hl : bs.length = a.n) (hn : a.n ≤ 1000000) (n : Nat) (v : Int) (hv : v = (n : Int)) (hx : n < 18446744073709551616) (w : World) (M I : BS) (H : Hp ⟨w, M, I⟩ (quillA q a bs) [] w) :
    Ctr Tryd.prog 29 [.pointer (some ⟨q, 0, none⟩), .int .u64 v] w M I (fun _ : SV => .pointer (some ⟨q, 0, none⟩)) (fun b => b.n = a.n + (numB n 0).length) (fun b => quillA q b (bs ++ numB n 0)) (fun _ => []) := by
  subst hv; exact uint q a bs hl hn n hx w M I H
theorem int_ (q : Nat) (a : SV) (bs : List Nat) (hl : bs.length = a.n) (hn : a.n ≤ 1000000) (v : Int) (hx : inK .i64 v) (w : World) (M I : BS) (H : Hp ⟨w, M, I⟩ (quillA q a bs) [] w) :
    Ctr Tryd.prog 30 [.pointer (some ⟨q, 0, none⟩), .int .i64 v] w M I (fun _ : SV => .pointer (some ⟨q, 0, none⟩)) (fun b => b.n = a.n + (intB v).length) (fun b => quillA q b (bs ++ intB v)) (fun _ => []) := by
  have hx : -9223372036854775808 ≤ v ∧ v ≤ 9223372036854775807 := hx
  refine Exe.of_ev tok Tryd.call30 Tryd.func30 rfl rfl rfl ?_
  refine brd (fun h => ?_) (fun h => ?_)
  · have ei : intB v = numB (-1 - v).toNat 128 := by rw [intB, if_pos h]
    have ev : IntKind.u64.wrap (IntKind.i64.wrap (-1 - v)) = (((-1 - v).toNat : Nat) : Int) := by
      rw [w64 (by omega) (by omega), wrap_id (k := .u64) ⟨by show (0 : Int) ≤ _; omega, by show _ ≤ (18446744073709551615 : Int); omega⟩]; omega
    refine call_rule H (fun M I _ h => ev ▸ number q a bs hl hn (-1 - v).toNat 128 (by omega) (by omega) _ M I h) fun b w1 hb H1 => ?_
    rw [← ei] at hb H1
    exact Exists.intro b (And.intro rfl (And.intro hb H1))
  · have ei : intB v = numB v.toNat 0 := by rw [intB, if_neg h]
    have ev : IntKind.u64.wrap v = ((v.toNat : Nat) : Int) := by
      rw [wrap_id (k := .u64) ⟨by show (0 : Int) ≤ _; omega, by show _ ≤ (18446744073709551615 : Int); omega⟩]; omega
    refine call_rule H (fun M I _ h => ev ▸ number q a bs hl hn v.toNat 0 (by omega) (by omega) _ M I h) fun b w1 hb H1 => ?_
    rw [← ei] at hb H1
    exact Exists.intro b (And.intro rfl (And.intro hb H1))
@[reducible] def byteR : Rp Nat := ⟨1, Unit, fun x _ => [.int .u8 (x : Int)], fun x _ => x < 256, fun _ _ => [], fun _ _ => rfl⟩
theorem byC_at {bs : List Nat} {i b : Nat} (h : bs[i]? = some b) : ((byC bs).drop (i * 1)).take 1 = [.int .u8 (b : Int)] := by
  obtain ⟨hi, rfl⟩ := List.getElem?_eq_some_iff.1 h
  rw [Nat.mul_one]
  have hl : i < (byC bs).length := by simpa [byC] using hi
  rw [List.drop_eq_getElem_cons hl]
  simp [byC]
theorem frzBytes {w : World} {B : Base} {S S' : List Asn} {F : List Fact} (H : Hp B S F w) {v : Value} {e n : Nat} (bs : List Nat) (hM : ∀ b, ¬ B.M b) [h1 : TakeR S v e 1 n (byC bs) S'] (hok : ∀ x, x ∈ bs → x < 256) : Hp B S' (Sl byteR v bs :: F) w := by
  have hcl : ∀ (i x : Nat), bs[i]? = some x → ∃ p : Unit, x < 256 ∧ ((byC bs).drop (i * 1)).take 1 = [.int .u8 (x : Int)] ∧ ([] : List Fact) = [] := fun i x hx => ⟨(), hok x (List.mem_of_getElem? hx), byC_at hx, rfl⟩
  have H2 := (H.addCl byteR (cs := byC bs) (xs := bs) (by simp [byC]) hcl).frzRow (v := v) (xs := bs) byteR hM rfl (by decide)
  refine H2.facts fun I ha f hf => ha f ?_
  rcases List.mem_cons.1 hf with rfl | hf
  · exact List.mem_cons_self
  · exact List.mem_cons_of_mem _ (List.mem_cons_of_mem _ hf)
theorem clone (ad : Addr) (n c : Nat) (bs : List Nat) (hn : n ≤ 1000000) (w : World) (M I : BS) (hM : ∀ b, ¬ M b) (H : Hp ⟨w, M, I⟩ [] [Sl byteR (.slice (some ad) n c) bs] w) :
    Ctr Tryd.prog 48 [.slice (some ad) n c] w M I (fun a : SV => .slice a.A a.n a.c) (fun _ => True) (fun _ => []) (fun a => [Sl byteR (.slice a.A a.n a.c) bs]) := by
  refine Exe.of_ev tok Tryd.call48 Tryd.func48 rfl rfl rfl ?_
  refine slice_as tok H [] rfl rfl rfl rfl rfl rfl fun g w1 H1 => ?_
  have H2 : Hp ⟨w, M, I⟩ [row 5 1 (.slice (some ⟨g, 0, none⟩) 0 0) 0 []] [Sl byteR (.slice (some ad) n c) bs] w1 := H1.toRow 1 0 rfl (by decide)
  refine append_sl (v := .slice (some ⟨g, 0, none⟩) 0 0) (A := some ad) (m := n) (c := c) tok H2 rfl rfl rfl rfl rfl rfl rfl ?_ ?_ (by omega) fun A2 c2 news w4 H4 => ?_
  · intro x p _ u hu
    rw [List.mem_singleton] at hu
    subst hu; rfl
  · show (0 + n) * 1 ≤ _
    omega
  have H4' : Hp ⟨w, M, I⟩ [row 5 1 (.slice A2 (0 + n) c2) (0 + n) news] [Cl byteR news bs, Sl byteR (.slice (some ad) n c) bs] w4 := H4
  have H5 := H4'.frzRow (v := .slice A2 (0 + n) c2) (xs := bs) byteR hM rfl (by decide)
  exact Exists.intro ⟨A2, 0 + n, c2⟩ (And.intro rfl (And.intro trivial (Hp.keep H5)))
theorem done_ (q : Nat) (ad : Addr) (n c : Nat) (bs : List Nat) (hn : n ≤ 1000000) (w : World) (M I : BS) (H : Hp ⟨w, M, I⟩ [blk q [.slice (some ad) n c] 71] [Sl byteR (.slice (some ad) n c) bs] w) :
    Ctr Tryd.prog 31 [.pointer (some ⟨q, 0, none⟩)] w M I (fun a : SV => .slice a.A a.n a.c) (fun _ => True) (fun _ => []) (fun a => [Sl byteR (.slice a.A a.n a.c) bs]) := by
  refine Exe.of_ev tok Tryd.call31 Tryd.func31 rfl rfl rfl ?_
  refine load_rule tok H (v := .slice (some ad) n c) rfl ?_
  refine call_rule H (fun M I h0 h => clone ad n c bs hn _ M I (h0 rfl) h) fun a w1 _ H1 => ?_
  exact Exists.intro a (And.intro rfl (And.intro trivial (Hp.keep H1)))
end Go.Proofs.YtenpgmnknmnofaaDoor
