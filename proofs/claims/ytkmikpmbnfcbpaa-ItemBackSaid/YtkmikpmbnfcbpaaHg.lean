/- The contract of the reader's item: where it is no list. -/
import Derived.Test.YtkmikpmbnfcbpaaHf
import Derived.Deep.RegionLaw
namespace Go.Proofs.Ytkmikpmbnfcbpaa
open Go.RowKit Go.Lib
set_option linter.unusedVariables false
open Tree

def RdP (w : World) (g : Nat) (d L : Int) (bs : List UInt8) (e : Ending) (w' : World) : Prop :=
  ∃ t a c, e = .returned (val t a c) ∧ At w' (fun b => w.heap.size ≤ b ∧ b < w'.heap.size) t a c ∧ Moved w w' (· = g) ∧
    ((∃ r, Pz d L bs t r ∧ RdAt w' g r (L - t.count) false) ∨ (∃ r M, RdAt w' g r M true ∧ ∀ u x, ¬ Pz d L bs u x))

theorem RdAt.keep {w w' : World} {g : Nat} {bs : List UInt8} {L : Int} {b : Bool} (h : RdAt w g bs L b) (hk : ∀ i, i ≤ g → w'.heap[i]? = w.heap[i]?) : RdAt w' g bs L b := by
  obtain ⟨A, n, cap, h1, h2, h3, h4⟩ := h
  exact ⟨A, n, cap, (hk g (Nat.le_refl _)).trans h1, h2.keep fun b o hb => World.cell?_of_block (w := w) (a := ⟨b, o, none⟩) (hk b (by omega)), h3, h4⟩
theorem RdAt.set_bad {w : World} {g : Nat} {bs : List UInt8} {L : Int} {b : Bool} (h : RdAt w g bs L b) : RdAt (w.setCell ⟨g, 2, none⟩ (.bool true)) g bs L true := by
  have hl := h.lt
  obtain ⟨A, n, cap, h1, h2, h3, h4⟩ := h
  have hmv : Moved w (w.setCell ⟨g, 2, none⟩ (.bool true)) (· = g) := (Moved.refl w _).at_ 2 _
  exact ⟨A, n, cap, h1.set_ 2 _, h2.moved hmv (by omega), h3, h4⟩
theorem RdAt.alloc {w : World} {g : Nat} {bs : List UInt8} {L : Int} {b : Bool} (h : RdAt w g bs L b) (o : Obj) : RdAt (w.alloc o) g bs L b := h.below ((Below.refl _ _).alloc (Nat.le_refl _) _)
/-- The reader after its first two steps. -/
def began (w : World) (g : Nat) (L : Int) (bad : Bool) : World := ((w.setCell ⟨g, 1, none⟩ (.int .i64 L)).setCell ⟨g, 2, none⟩ (.bool bad)).alloc (.cells #[.int .i64 0, .int .i64 0, .string ⟨#[]⟩, .slice none 0 0] 26)
theorem began_at {w : World} {g : Nat} {bs : List UInt8} {L L' : Int} {b : Bool} (h : RdAt w g bs L false) : RdAt (began w g L' b) g bs L' b ∧ Moved w (began w g L' b) (· = g) ∧ (began w g L' b).heap.size = w.heap.size + 1 ∧ Blk (began w g L' b) w.heap.size 26 #[.int .i64 0, .int .i64 0, .string ⟨#[]⟩, .slice none 0 0] := by
  have hl := h.lt
  obtain ⟨A, n, cap, h1, h2, h3, h4⟩ := h
  have hmv : Moved w (began w g L' b) (· = g) := (((Moved.refl w _).at_ 1 _).at_ 2 _).alloc _
  have hs : ((w.setCell ⟨g, 1, none⟩ (.int .i64 L')).setCell ⟨g, 2, none⟩ (.bool b)).heap.size = w.heap.size := by simp [World.setCell]
  refine ⟨⟨A, n, cap, ((h1.set_ 1 _).set_ 2 _).alloc _, h2.moved hmv (by omega), h3, h4⟩, hmv, by unfold began; rw [size_alloc, hs], ?_⟩
  have := Blk.new ((w.setCell ⟨g, 1, none⟩ (.int .i64 L')).setCell ⟨g, 2, none⟩ (.bool b)) 26 #[.int .i64 0, .int .i64 0, .string ⟨#[]⟩, .slice none 0 0]
  rw [hs] at this
  exact this
theorem Moved.put4_ {w w2 : World} {g : Nat} {a b c d : Value} (hM : Moved w w2 (· = g)) : Moved w (put4 w2 w.heap.size a b c d) (· = g) :=
  (((hM.setCell (fun h => absurd h (Nat.lt_irrefl _)) _).setCell (fun h => absurd h (Nat.lt_irrefl _)) _).setCell (fun h => absurd h (Nat.lt_irrefl _)) _).setCell (fun h => absurd h (Nat.lt_irrefl _)) _
theorem RdAt.put4_ {w2 : World} {g k : Nat} {bs : List UInt8} {L : Int} {x : Bool} {a b c d : Value} (h : RdAt w2 g bs L x) (hk : g < k) : RdAt (put4 w2 k a b c d) g bs L x := h.keep fun i hi => put4_block (by omega)
theorem wrap_i64N (n : Nat) (h : n < 18446744073709551616) : IntKind.i64.wrap (n : Int) = i64N n := by
  rw [IntKind.wrap_i64]; unfold i64N; split <;> omega
theorem num1_ok (w : World) (g : Nat) (b : UInt8) (bs : List UInt8) (left K : Int) (h : RdAt w g (b :: bs) left false) (hK : (b.toNat : Int) = K) :
    Calls Try.prog 52 #[.pointer (some ⟨g, 0, none⟩), .int .i64 1] w fun e w' => e = .returned (.int .u64 K) ∧ RdAt w' g bs left false ∧ Moved w w' (· = g) ∧ w'.heap.size = w.heap.size := by
  have e : ofBe ((b :: bs).take 1) = b.toNat := by simp [ofBe]
  have := num_ok w g 1 (b :: bs) left h (by simp) (by omega)
  rw [e, hK] at this
  exact this

set_option maxHeartbeats 2000000 in
theorem item_bad (d : Nat) (w : World) (g : Nat) (bs : List UInt8) (L : Int) (hd : d ≤ 20) (h0 : 0 ≤ L) (h1 : L ≤ 20000) (hR : RdAt w g bs L false) (hb : L = 0 ∨ d = 0 ∨ bs.length < 1) :
    Calls Try.prog 38 #[.pointer (some ⟨g, 0, none⟩), .int .i64 d] w (RdP w g d L bs) := by
  have HR := Lib.hid hR
  have hg := hR.lt
  obtain ⟨A, n, cap, hk, hB, hx1, hx2⟩ := hR
  have hc0 : w.cell? ⟨g, 0, none⟩ = some _ := hk.cell 0
  have hc1 : w.cell? ⟨g, 1, none⟩ = some _ := hk.cell 1
  have hc2 : w.cell? ⟨g, 2, none⟩ = some _ := hk.cell 2
  have hf0 := hk.frozen 0
  have hf1 := hk.frozen 1
  have hf2 := hk.frozen 2
  have hwL : IntKind.i64.wrap (L - 1) = L - 1 := IntWalk.i64_in _ (by omega)
  clear hk hB hx1 hx2
  have HNO : Hid (∀ u x, ¬ Pz d L bs u x) := fun u x => by
    rcases hb with h | h | h
    · exact pz_no_L (by omega)
    · exact pz_no_d (by omega)
    · exact pz_no_nil h
  have hb' : L - 1 < 0 ∨ (¬ (L - 1 < 0) ∧ d = 0) ∨ (¬ (L - 1 < 0) ∧ ¬ ((d : Int) = 0) ∧ Hid (bs.length < 1)) := by
    rcases hb with h | h | h
    · omega
    · omega
    · by_cases h1 : L - 1 < 0
      · exact .inl h1
      · by_cases h2 : d = 0
        · exact .inr (.inl ⟨h1, h2⟩)
        · exact .inr (.inr ⟨h1, by omega, h⟩)
  clear hb
  rcases hb' with hb | ⟨hb, rfl⟩ | ⟨hb, hd0, hlen⟩
  rotate_left 2
  have hdz : ((d : Int) == 0) = false := beq_eq_false_iff_ne.2 hd0
  rotate_left 1
  · go_enter Try.func38, Try.ntmps38
    go_wp2_with fail
    obtain ⟨hR1, hM1, hS1, hK1⟩ := began_at (L' := L - 1) (b := true) HR.out
    refine (num_bad (began w g (L - 1) true) g 1 bs (L - 1) true hR1 (.inl rfl) (by omega)).mono ?_
    rintro e w2 ⟨rfl, hR2, hM2, hS2⟩
    have HR2 := Lib.hid hR2
    have HM2 : Hid (Moved w w2 (· = g)) := hM1.trans hM2 (fun i _ h => h)
    have hk2 : Blk w2 w.heap.size 26 #[.int .i64 0, .int .i64 0, .string ⟨#[]⟩, .slice none 0 0] := (hM2.block w.heap.size (by omega) (by omega)).trans hK1
    have HK2 := Lib.hid hk2
    have hs2 : w2.heap.size = w.heap.size + 1 := by omega
    have hg2 : w.heap.size < w2.heap.size := by omega
    have hgg : g < w2.heap.size := by omega
    obtain ⟨A, n, cap, hk, hB, hx1, hx2⟩ := hR2
    have h2c2 : w2.cell? ⟨g, 2, none⟩ = some _ := hk.cell 2
    have h2fr := hk.frozen 2
    have h20 := hk2.c0
    have h21 := hk2.c1
    have h22 := hk2.c2
    have h23 := hk2.c3
    have h2f0 := hk2.frozen 0
    have h2f1 := hk2.frozen 1
    have h2f2 := hk2.frozen 2
    have h2f3 := hk2.frozen 3
    clear hR1 hM1 hS1 hK1 hM2 hS2 hk2 hk hB hx1 hx2
    go_wp2_with fail
    exact bodyPost_ret (res_cell rfl ((Blk.put4 HK2.out).alloc _) rfl) rfl ⟨.mk 0 0 ⟨#[]⟩ [], none, 0, rfl, at_leaf _ _ _ _ _, HM2.out.put4_.alloc _, .inr ⟨bs, L - 1, (HR2.out.put4_ hg).alloc _, HNO.out⟩⟩
  · go_enter Try.func38, Try.ntmps38
    go_wp2_with fail
    obtain ⟨hR1, hM1, hS1, hK1⟩ := began_at (L' := L - 1) (b := true) HR.out
    refine (num_bad (began w g (L - 1) true) g 1 bs (L - 1) true hR1 (.inl rfl) (by omega)).mono ?_
    rintro e w2 ⟨rfl, hR2, hM2, hS2⟩
    have HR2 := Lib.hid hR2
    have HM2 : Hid (Moved w w2 (· = g)) := hM1.trans hM2 (fun i _ h => h)
    have hk2 : Blk w2 w.heap.size 26 #[.int .i64 0, .int .i64 0, .string ⟨#[]⟩, .slice none 0 0] := (hM2.block w.heap.size (by omega) (by omega)).trans hK1
    have HK2 := Lib.hid hk2
    have hs2 : w2.heap.size = w.heap.size + 1 := by omega
    have hg2 : w.heap.size < w2.heap.size := by omega
    have hgg : g < w2.heap.size := by omega
    obtain ⟨A, n, cap, hk, hB, hx1, hx2⟩ := hR2
    have h2c2 : w2.cell? ⟨g, 2, none⟩ = some _ := hk.cell 2
    have h2fr := hk.frozen 2
    have h20 := hk2.c0
    have h21 := hk2.c1
    have h22 := hk2.c2
    have h23 := hk2.c3
    have h2f0 := hk2.frozen 0
    have h2f1 := hk2.frozen 1
    have h2f2 := hk2.frozen 2
    have h2f3 := hk2.frozen 3
    clear hR1 hM1 hS1 hK1 hM2 hS2 hk2 hk hB hx1 hx2
    go_wp2_with fail
    exact bodyPost_ret (res_cell rfl ((Blk.put4 HK2.out).alloc _) rfl) rfl ⟨.mk 0 0 ⟨#[]⟩ [], none, 0, rfl, at_leaf _ _ _ _ _, HM2.out.put4_.alloc _, .inr ⟨bs, L - 1, (HR2.out.put4_ hg).alloc _, HNO.out⟩⟩
  · go_enter Try.func38, Try.ntmps38
    go_wp2_with fail
    obtain ⟨hR1, hM1, hS1, hK1⟩ := began_at (L' := L - 1) (b := false) HR.out
    refine (num_bad (began w g (L - 1) false) g 1 bs (L - 1) false hR1 (.inr hlen) (by omega)).mono ?_
    rintro e w2 ⟨rfl, hR2, hM2, hS2⟩
    have HR2 := Lib.hid hR2
    have HM2 : Hid (Moved w w2 (· = g)) := hM1.trans hM2 (fun i _ h => h)
    have hk2 : Blk w2 w.heap.size 26 #[.int .i64 0, .int .i64 0, .string ⟨#[]⟩, .slice none 0 0] := (hM2.block w.heap.size (by omega) (by omega)).trans hK1
    have HK2 := Lib.hid hk2
    have hs2 : w2.heap.size = w.heap.size + 1 := by omega
    have hg2 : w.heap.size < w2.heap.size := by omega
    have hgg : g < w2.heap.size := by omega
    obtain ⟨A, n, cap, hk, hB, hx1, hx2⟩ := hR2
    have h2c2 : w2.cell? ⟨g, 2, none⟩ = some _ := hk.cell 2
    have h2fr := hk.frozen 2
    have h20 := hk2.c0
    have h21 := hk2.c1
    have h22 := hk2.c2
    have h23 := hk2.c3
    have h2f0 := hk2.frozen 0
    have h2f1 := hk2.frozen 1
    have h2f2 := hk2.frozen 2
    have h2f3 := hk2.frozen 3
    clear hR1 hM1 hS1 hK1 hM2 hS2 hk2 hk hB hx1 hx2
    go_wp2_with fail
    exact bodyPost_ret (res_cell rfl ((Blk.put4 HK2.out).alloc _) rfl) rfl ⟨.mk 0 0 ⟨#[]⟩ [], none, 0, rfl, at_leaf _ _ _ _ _, HM2.out.put4_.alloc _, .inr ⟨bs, L - 1, (HR2.out.put4_ hg).alloc _, HNO.out⟩⟩

set_option maxHeartbeats 2000000 in
theorem item_kind (d : Nat) (w : World) (g : Nat) (b : UInt8) (bs : List UInt8) (L : Int) (hd : d ≤ 20) (h0 : ¬ (L - 1 < 0)) (h1 : L ≤ 20000) (hd0 : ¬ ((d : Int) = 0)) (hR : RdAt w g (b :: bs) L false) (hb : b.toNat ≠ 1 ∧ b.toNat ≠ 2 ∧ b.toNat ≠ 3) :
    Calls Try.prog 38 #[.pointer (some ⟨g, 0, none⟩), .int .i64 d] w (RdP w g d L (b :: bs)) := by
  have HR := Lib.hid hR
  have hg := hR.lt
  obtain ⟨A, n, cap, hk, hB, hx1, hx2⟩ := hR
  have hc0 : w.cell? ⟨g, 0, none⟩ = some _ := hk.cell 0
  have hc1 : w.cell? ⟨g, 1, none⟩ = some _ := hk.cell 1
  have hc2 : w.cell? ⟨g, 2, none⟩ = some _ := hk.cell 2
  have hf0 := hk.frozen 0
  have hf1 := hk.frozen 1
  have hf2 := hk.frozen 2
  have hwL : IntKind.i64.wrap (L - 1) = L - 1 := IntWalk.i64_in _ (by omega)
  clear hk hB hx1 hx2
  have HNO : Hid (∀ u x, ¬ Pz d L (b :: bs) u x) := fun u x => pz_no_kind hb
  obtain ⟨K, hK⟩ : ∃ K : Int, (b.toNat : Int) = K := ⟨_, rfl⟩
  have hdz : ((d : Int) == 0) = false := beq_eq_false_iff_ne.2 hd0
  have hk1 : ¬ (K = 1) := by omega
  have hk2 : ¬ (K = 2) := by omega
  have hk3 : ¬ (K = 3) := by omega
  have hwK : IntKind.i64.wrap K = K := IntWalk.i64_in _ (by have := b.toNat_lt; omega)
  have hbx := hb
  replace hb := hK
  clear hK hbx
  go_enter Try.func38, Try.ntmps38
  go_wp2_with fail
  obtain ⟨hR1, hM1, hS1, hK1⟩ := began_at (L' := L - 1) (b := false) HR.out
  refine (num1_ok (began w g (L - 1) false) g b bs (L - 1) K hR1 hb).mono ?_
  rintro e w2 ⟨rfl, hR2, hM2, hS2⟩
  have HR2 := Lib.hid hR2
  have HM2 : Hid (Moved w w2 (· = g)) := hM1.trans hM2 (fun i _ h => h)
  have hk2 : Blk w2 w.heap.size 26 #[.int .i64 0, .int .i64 0, .string ⟨#[]⟩, .slice none 0 0] := (hM2.block w.heap.size (by omega) (by omega)).trans hK1
  have HK2 := Lib.hid hk2
  have hs2 : w2.heap.size = w.heap.size + 1 := by omega
  have hg2 : w.heap.size < w2.heap.size := by omega
  have hgg : g < w2.heap.size := by omega
  obtain ⟨A, n, cap, hk, hB, hx1, hx2⟩ := hR2
  have h2c2 : w2.cell? ⟨g, 2, none⟩ = some _ := hk.cell 2
  have h2fr := hk.frozen 2
  have h20 := hk2.c0
  have h21 := hk2.c1
  have h22 := hk2.c2
  have h23 := hk2.c3
  have h2f0 := hk2.frozen 0
  have h2f1 := hk2.frozen 1
  have h2f2 := hk2.frozen 2
  have h2f3 := hk2.frozen 3
  clear hR1 hM1 hS1 hK1 hM2 hS2 hk2 hk hB hx1 hx2
  go_wp2_with fail
  exact bodyPost_ret (res_cell rfl ((Blk.put4 (HK2.out.far (by show w.heap.size ≠ g; omega) _)).alloc _) rfl) rfl ⟨.mk K 0 ⟨#[]⟩ [], none, 0, rfl, at_leaf _ _ _ _ _, (HM2.out.at_ 2 _).put4_.alloc _, .inr ⟨bs, L - 1, (HR2.out.set_bad.put4_ hg).alloc _, HNO.out⟩⟩

set_option maxHeartbeats 2000000 in
theorem item_num_bad (d : Nat) (w : World) (g : Nat) (b : UInt8) (bs : List UInt8) (L : Int) (hd : d ≤ 20) (h0 : ¬ (L - 1 < 0)) (h1 : L ≤ 20000) (hd0 : ¬ ((d : Int) = 0)) (hR : RdAt w g (b :: bs) L false) (hb : b.toNat = 1) (hn : bs.length < 8) :
    Calls Try.prog 38 #[.pointer (some ⟨g, 0, none⟩), .int .i64 d] w (RdP w g d L (b :: bs)) := by
  have HR := Lib.hid hR
  have hg := hR.lt
  obtain ⟨A, n, cap, hk, hB, hx1, hx2⟩ := hR
  have hc0 : w.cell? ⟨g, 0, none⟩ = some _ := hk.cell 0
  have hc1 : w.cell? ⟨g, 1, none⟩ = some _ := hk.cell 1
  have hc2 : w.cell? ⟨g, 2, none⟩ = some _ := hk.cell 2
  have hf0 := hk.frozen 0
  have hf1 := hk.frozen 1
  have hf2 := hk.frozen 2
  have hwL : IntKind.i64.wrap (L - 1) = L - 1 := IntWalk.i64_in _ (by omega)
  clear hk hB hx1 hx2
  have HPZ : Hid (∀ u x, ¬ Pz d L (b :: bs) u x) := fun u x => pz_no_num hb hn
  have HHN := Lib.hid hn
  skip
  have hdz : ((d : Int) == 0) = false := beq_eq_false_iff_ne.2 hd0
  replace hb : (b.toNat : Int) = 1 := by omega
  clear hn
  go_enter Try.func38, Try.ntmps38
  go_wp2_with fail
  obtain ⟨hR1, hM1, hS1, hK1⟩ := began_at (L' := L - 1) (b := false) HR.out
  refine (num1_ok (began w g (L - 1) false) g b bs (L - 1) 1 hR1 hb).mono ?_
  rintro e w2 ⟨rfl, hR2, hM2, hS2⟩
  have HR2 := Lib.hid hR2
  have HM2 : Hid (Moved w w2 (· = g)) := hM1.trans hM2 (fun i _ h => h)
  have hk2 : Blk w2 w.heap.size 26 #[.int .i64 0, .int .i64 0, .string ⟨#[]⟩, .slice none 0 0] := (hM2.block w.heap.size (by omega) (by omega)).trans hK1
  have HK2 := Lib.hid hk2
  have hs2 : w2.heap.size = w.heap.size + 1 := by omega
  have hg2 : w.heap.size < w2.heap.size := by omega
  have hgg : g < w2.heap.size := by omega
  obtain ⟨A, n, cap, hk, hB, hx1, hx2⟩ := hR2
  have h2c2 : w2.cell? ⟨g, 2, none⟩ = some _ := hk.cell 2
  have h2fr := hk.frozen 2
  have h20 := hk2.c0
  have h21 := hk2.c1
  have h22 := hk2.c2
  have h23 := hk2.c3
  have h2f0 := hk2.frozen 0
  have h2f1 := hk2.frozen 1
  have h2f2 := hk2.frozen 2
  have h2f3 := hk2.frozen 3
  clear hR1 hM1 hS1 hK1 hM2 hS2 hk2 hk hB hx1 hx2
  go_wp2_with fail
  have HK2x : Hid (Blk (w2.alloc (.cells #[.int .i64 1, .int .i64 0, .string ⟨#[]⟩, .slice none 0 0] 26)) w.heap.size 26 #[.int .i64 0, .int .i64 0, .string ⟨#[]⟩, .slice none 0 0]) := HK2.out.alloc _
  have HX2 : Hid (Blk (w2.alloc (.cells #[.int .i64 1, .int .i64 0, .string ⟨#[]⟩, .slice none 0 0] 26)) (w.heap.size + 1) 26 #[.int .i64 1, .int .i64 0, .string ⟨#[]⟩, .slice none 0 0]) := by have := Blk.new w2 26 #[.int .i64 1, .int .i64 0, .string ⟨#[]⟩, .slice none 0 0]; rw [hs2] at this; exact this
  have HM2x : Hid (Moved w (w2.alloc (.cells #[.int .i64 1, .int .i64 0, .string ⟨#[]⟩, .slice none 0 0] 26)) (· = g)) := HM2.out.alloc _
  have HR2x : Hid (RdAt (w2.alloc (.cells #[.int .i64 1, .int .i64 0, .string ⟨#[]⟩, .slice none 0 0] 26)) g bs (L - 1) false) := HR2.out.alloc _
  refine (num_bad _ g 8 bs (L - 1) false HR2x.out (.inr HHN.out) (by omega)).mono ?_
  rintro e w3 ⟨rfl, hR3, hM3, hS3⟩
  have HR3 := Lib.hid hR3
  have HM3 : Hid (Moved w w3 (· = g)) := HM2x.out.trans hM3 (fun i _ h => h)
  have hk3 : Blk w3 w.heap.size 26 #[.int .i64 0, .int .i64 0, .string ⟨#[]⟩, .slice none 0 0] := (hM3.block w.heap.size (by rw [size_alloc]; omega) (by omega)).trans HK2x.out
  have hx3 : Blk w3 (w.heap.size + 1) 26 #[.int .i64 1, .int .i64 0, .string ⟨#[]⟩, .slice none 0 0] := (hM3.block (w.heap.size + 1) (by rw [size_alloc]; omega) (by omega)).trans HX2.out
  have HK3 := Lib.hid hk3
  have HX3 := Lib.hid hx3
  have hs3 : w3.heap.size = w.heap.size + 2 := by rw [hS3, size_alloc]; omega
  obtain ⟨A, n, cap, hk, hB, hx1, hx2⟩ := hR3
  have h3c2 : w3.cell? ⟨g, 2, none⟩ = some _ := hk.cell 2
  have h30 := hk3.c0
  have h31 := hk3.c1
  have h32 := hk3.c2
  have h33 := hk3.c3
  have h3f0 := hk3.frozen 0
  have h3f1 := hk3.frozen 1
  have h3f2 := hk3.frozen 2
  have h3f3 := hk3.frozen 3
  have h3x0 := hx3.c0
  have h3x1 := hx3.c1
  have h3x2 := hx3.c2
  have h3x3 := hx3.c3
  have h3g1 := hx3.frozen 1
  have h3g2 := hx3.frozen 2
  clear hM3 hS3 hk3 hx3 hk hB hx1 hx2
  skip
  go_wp2_with fail
  exact bodyPost_ret (res_cell rfl (Blk.put4 (HK3.out.far (by show w.heap.size ≠ w.heap.size + 1; omega) _)) rfl) rfl ⟨.mk 1 0 ⟨#[]⟩ [], none, 0, rfl, at_leaf _ _ _ _ _, (HM3.out.setCell (p := ⟨w.heap.size + 1, 1, none⟩) (fun h => absurd h (by show ¬ (w.heap.size + 1 < w.heap.size); omega)) _).put4_, .inr ⟨bs, L - 1, ((HR3.out.keep fun i hi => Below.heap_setCell w3 ⟨w.heap.size + 1, 1, none⟩ _ i (by show i ≠ w.heap.size + 1; omega)).put4_ hg), HPZ.out⟩⟩

set_option maxHeartbeats 2000000 in
theorem item_num_ok (d : Nat) (w : World) (g : Nat) (b : UInt8) (bs : List UInt8) (L : Int) (hd : d ≤ 20) (h0 : ¬ (L - 1 < 0)) (h1 : L ≤ 20000) (hd0 : ¬ ((d : Int) = 0)) (hR : RdAt w g (b :: bs) L false) (hb : b.toNat = 1) (hn : 8 ≤ bs.length) :
    Calls Try.prog 38 #[.pointer (some ⟨g, 0, none⟩), .int .i64 d] w (RdP w g d L (b :: bs)) := by
  have HR := Lib.hid hR
  have hg := hR.lt
  obtain ⟨A, n, cap, hk, hB, hx1, hx2⟩ := hR
  have hc0 : w.cell? ⟨g, 0, none⟩ = some _ := hk.cell 0
  have hc1 : w.cell? ⟨g, 1, none⟩ = some _ := hk.cell 1
  have hc2 : w.cell? ⟨g, 2, none⟩ = some _ := hk.cell 2
  have hf0 := hk.frozen 0
  have hf1 := hk.frozen 1
  have hf2 := hk.frozen 2
  have hwL : IntKind.i64.wrap (L - 1) = L - 1 := IntWalk.i64_in _ (by omega)
  clear hk hB hx1 hx2
  have HPZ : Hid (Pz d L (b :: bs) (.mk 1 (i64N (ofBe (bs.take 8))) ⟨#[]⟩ []) (bs.drop 8)) := pz_num hb (by omega) (by omega) hn
  have HHN := Lib.hid hn
  have hXl : ofBe (bs.take 8) < 18446744073709551616 := by
    have h := ofBe_lt (bs.take 8)
    have hl : (bs.take 8).length = 8 := by rw [List.length_take]; omega
    rw [hl] at h
    exact h
  obtain ⟨X, hX⟩ : ∃ X, ofBe (bs.take 8) = X := ⟨_, rfl⟩
  rw [hX] at hXl HPZ
  have hwX := wrap_i64N X hXl
  have HXX := Lib.hid hX
  clear hX
  have hdz : ((d : Int) == 0) = false := beq_eq_false_iff_ne.2 hd0
  replace hb : (b.toNat : Int) = 1 := by omega
  clear hn
  go_enter Try.func38, Try.ntmps38
  go_wp2_with fail
  obtain ⟨hR1, hM1, hS1, hK1⟩ := began_at (L' := L - 1) (b := false) HR.out
  refine (num1_ok (began w g (L - 1) false) g b bs (L - 1) 1 hR1 hb).mono ?_
  rintro e w2 ⟨rfl, hR2, hM2, hS2⟩
  have HR2 := Lib.hid hR2
  have HM2 : Hid (Moved w w2 (· = g)) := hM1.trans hM2 (fun i _ h => h)
  have hk2 : Blk w2 w.heap.size 26 #[.int .i64 0, .int .i64 0, .string ⟨#[]⟩, .slice none 0 0] := (hM2.block w.heap.size (by omega) (by omega)).trans hK1
  have HK2 := Lib.hid hk2
  have hs2 : w2.heap.size = w.heap.size + 1 := by omega
  have hg2 : w.heap.size < w2.heap.size := by omega
  have hgg : g < w2.heap.size := by omega
  obtain ⟨A, n, cap, hk, hB, hx1, hx2⟩ := hR2
  have h2c2 : w2.cell? ⟨g, 2, none⟩ = some _ := hk.cell 2
  have h2fr := hk.frozen 2
  have h20 := hk2.c0
  have h21 := hk2.c1
  have h22 := hk2.c2
  have h23 := hk2.c3
  have h2f0 := hk2.frozen 0
  have h2f1 := hk2.frozen 1
  have h2f2 := hk2.frozen 2
  have h2f3 := hk2.frozen 3
  clear hR1 hM1 hS1 hK1 hM2 hS2 hk2 hk hB hx1 hx2
  go_wp2_with fail
  have HK2x : Hid (Blk (w2.alloc (.cells #[.int .i64 1, .int .i64 0, .string ⟨#[]⟩, .slice none 0 0] 26)) w.heap.size 26 #[.int .i64 0, .int .i64 0, .string ⟨#[]⟩, .slice none 0 0]) := HK2.out.alloc _
  have HX2 : Hid (Blk (w2.alloc (.cells #[.int .i64 1, .int .i64 0, .string ⟨#[]⟩, .slice none 0 0] 26)) (w.heap.size + 1) 26 #[.int .i64 1, .int .i64 0, .string ⟨#[]⟩, .slice none 0 0]) := by have := Blk.new w2 26 #[.int .i64 1, .int .i64 0, .string ⟨#[]⟩, .slice none 0 0]; rw [hs2] at this; exact this
  have HM2x : Hid (Moved w (w2.alloc (.cells #[.int .i64 1, .int .i64 0, .string ⟨#[]⟩, .slice none 0 0] 26)) (· = g)) := HM2.out.alloc _
  have HR2x : Hid (RdAt (w2.alloc (.cells #[.int .i64 1, .int .i64 0, .string ⟨#[]⟩, .slice none 0 0] 26)) g bs (L - 1) false) := HR2.out.alloc _
  refine (num_ok _ g 8 bs (L - 1) HR2x.out HHN.out (by omega)).mono ?_
  rintro e w3 ⟨rfl, hR3, hM3, hS3⟩
  have HR3 := Lib.hid hR3
  have HM3 : Hid (Moved w w3 (· = g)) := HM2x.out.trans hM3 (fun i _ h => h)
  have hk3 : Blk w3 w.heap.size 26 #[.int .i64 0, .int .i64 0, .string ⟨#[]⟩, .slice none 0 0] := (hM3.block w.heap.size (by rw [size_alloc]; omega) (by omega)).trans HK2x.out
  have hx3 : Blk w3 (w.heap.size + 1) 26 #[.int .i64 1, .int .i64 0, .string ⟨#[]⟩, .slice none 0 0] := (hM3.block (w.heap.size + 1) (by rw [size_alloc]; omega) (by omega)).trans HX2.out
  have HK3 := Lib.hid hk3
  have HX3 := Lib.hid hx3
  have hs3 : w3.heap.size = w.heap.size + 2 := by rw [hS3, size_alloc]; omega
  obtain ⟨A, n, cap, hk, hB, hx1, hx2⟩ := hR3
  have h3c2 : w3.cell? ⟨g, 2, none⟩ = some _ := hk.cell 2
  have h30 := hk3.c0
  have h31 := hk3.c1
  have h32 := hk3.c2
  have h33 := hk3.c3
  have h3f0 := hk3.frozen 0
  have h3f1 := hk3.frozen 1
  have h3f2 := hk3.frozen 2
  have h3f3 := hk3.frozen 3
  have h3x0 := hx3.c0
  have h3x1 := hx3.c1
  have h3x2 := hx3.c2
  have h3x3 := hx3.c3
  have h3g1 := hx3.frozen 1
  have h3g2 := hx3.frozen 2
  clear hM3 hS3 hk3 hx3 hk hB hx1 hx2
  rw [HXX.out]
  go_wp2_with fail
  exact bodyPost_ret (res_cell rfl (Blk.put4 (HK3.out.far (by show w.heap.size ≠ w.heap.size + 1; omega) _)) rfl) rfl ⟨.mk 1 (i64N X) ⟨#[]⟩ [], none, 0, rfl, at_leaf _ _ _ _ _, (HM3.out.setCell (p := ⟨w.heap.size + 1, 1, none⟩) (fun h => absurd h (by show ¬ (w.heap.size + 1 < w.heap.size); omega)) _).put4_, .inl ⟨bs.drop 8, HPZ.out, by have e : L - ((Tree.mk 1 (i64N X) ⟨#[]⟩ []).count : Nat) = L - 1 := rfl; rw [e]; exact ((HR3.out.keep fun i hi => Below.heap_setCell w3 ⟨w.heap.size + 1, 1, none⟩ _ i (by show i ≠ w.heap.size + 1; omega)).put4_ hg)⟩⟩
end Go.Proofs.Ytkmikpmbnfcbpaa
