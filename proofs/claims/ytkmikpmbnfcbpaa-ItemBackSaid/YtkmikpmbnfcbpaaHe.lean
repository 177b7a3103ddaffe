/- The reader: contracts of cut and num. -/
import Derived.Test.YtkmikpmbnfcbpaaHd
import Derived.Laws.BitsAllLaws
namespace Go.Proofs.Ytkmikpmbnfcbpaa
open Go.RowKit Go.Lib
set_option linter.unusedVariables false
open Tree

/-- A reader in block g: the bytes that are left lie below it. -/
def RdAt (w : World) (g : Nat) (bs : List UInt8) (left : Int) (bad : Bool) : Prop :=
  ∃ A n cap, Blk w g 69 #[.slice A n cap, .int .i64 left, .bool bad] ∧ Byt w g A n bs ∧ n ≤ cap ∧ cap ≤ 9223372036854775807
theorem RdAt.lt {w : World} {g : Nat} {bs : List UInt8} {left : Int} {bad : Bool} (h : RdAt w g bs left bad) : g < w.heap.size := by obtain ⟨_, _, _, h, _⟩ := h; exact h.lt
theorem RdAt.below {w w' : World} {g : Nat} {bs : List UInt8} {left : Int} {bad : Bool} (h : RdAt w g bs left bad) (hb : Below w.heap.size w w') : RdAt w' g bs left bad := by
  have hl := h.lt
  obtain ⟨A, n, cap, h1, h2, h3, h4⟩ := h
  exact ⟨A, n, cap, h1.below hb hl, h2.below (hb.mono (by omega)), h3, h4⟩
theorem Byt.moved {w w' : World} {g n : Nat} {a : Option Addr} {bs : List UInt8} (h : Byt w g a n bs) (hm : Moved w w' (· = g)) (hg : g ≤ w.heap.size) : Byt w' g a n bs :=
  h.keep fun b o hb => World.cell?_of_block (w := w) (a := ⟨b, o, none⟩) (hm.block b (by omega) (by omega))

theorem Moved.at_ {w W : World} {g : Nat} (h : Moved w W (· = g)) (i : Nat) (v : Value) : Moved w (W.setCell ⟨g, i, none⟩ v) (· = g) := h.setCell (p := ⟨g, i, none⟩) (fun _ => rfl) v

set_option maxHeartbeats 1000000 in
theorem cut_bad (w : World) (g m : Nat) (bs : List UInt8) (left : Int) (bad : Bool) (h : RdAt w g bs left bad) (hm : bad = true ∨ bs.length < m) (hmm : m ≤ 4294967295) :
    Calls Try.prog 53 #[.pointer (some ⟨g, 0, none⟩), .int .i64 m] w fun e w' => e = .returned (.slice none 0 0) ∧ RdAt w' g bs left true ∧ Moved w w' (· = g) ∧ w'.heap.size = w.heap.size := by
  obtain ⟨A, n, cap, hk, hB, h1, h2⟩ := h
  have HK := Lib.hid hk
  have HB := Lib.hid hB
  have hg := hk.lt
  have hc0 : w.cell? ⟨g, 0, none⟩ = some _ := hk.cell 0
  have hc1 : w.cell? ⟨g, 1, none⟩ = some _ := hk.cell 1
  have hc2 : w.cell? ⟨g, 2, none⟩ = some _ := hk.cell 2
  have hf0 := hk.frozen 0
  have hf2 := hk.frozen 2
  have hn : bs.length = n := hB.1
  rw [hn] at hm
  have hfin : ∀ W, W = w.setCell ⟨g, 2, none⟩ (.bool true) → RdAt W g bs left true ∧ Moved w W (· = g) ∧ W.heap.size = w.heap.size := fun W e => by
    subst e
    have hmv : Moved w (w.setCell ⟨g, 2, none⟩ (.bool true)) (· = g) := (Moved.refl w _).at_ 2 _
    exact ⟨⟨A, n, cap, HK.out.set_ 2 _, HB.out.moved hmv (by omega), h1, h2⟩, hmv, by simp [World.setCell]⟩
  have HFIN := Lib.hid hfin
  clear hk hB hfin hn
  cases bad with
  | true =>
    clear hm
    go_enter Try.func53, Try.ntmps53
    go_wp2_with fail
    go_ret
    exact ⟨rfl, HFIN.out _ rfl⟩
  | false =>
    have hlt : (n : Int) < (m : Int) := by rcases hm with h | h; cases h; omega
    clear hm
    go_enter Try.func53, Try.ntmps53
    go_wp2_with fail
    go_ret
    exact ⟨rfl, HFIN.out _ rfl⟩

set_option maxHeartbeats 1000000 in
theorem cut_ok (w : World) (g m : Nat) (bs : List UInt8) (left : Int) (h : RdAt w g bs left false) (hm : m ≤ bs.length) :
    Calls Try.prog 53 #[.pointer (some ⟨g, 0, none⟩), .int .i64 m] w fun e w' => ∃ A cap, e = .returned (.slice A m cap) ∧ m ≤ cap ∧ cap ≤ 9223372036854775807 ∧ Byt w' g A m (bs.take m) ∧ RdAt w' g (bs.drop m) left false ∧ Moved w w' (· = g) ∧ w'.heap.size = w.heap.size := by
  obtain ⟨A, n, cap, hk, hB, h1, h2⟩ := h
  have HK := Lib.hid hk
  have hg := hk.lt
  have hc0 : w.cell? ⟨g, 0, none⟩ = some _ := hk.cell 0
  have hc1 : w.cell? ⟨g, 1, none⟩ = some _ := hk.cell 1
  have hc2 : w.cell? ⟨g, 2, none⟩ = some _ := hk.cell 2
  have hf0 := hk.frozen 0
  have hf2 := hk.frozen 2
  have hn : bs.length = n := hB.1
  rw [hn] at hm
  obtain ⟨A1, r1, y1⟩ := cut_to hB h1 m hm
  obtain ⟨A2, r2, y2⟩ := cut_from hB h1 m hm
  have Y1 := Lib.hid y1
  have Y2 := Lib.hid y2
  have hlt : ¬ ((n : Int) < (m : Int)) := by omega
  clear hk hB y1 y2 hn
  go_enter Try.func53, Try.ntmps53
  go_wp2_with fail
  go_ret
  have hmv : Moved w ((w.setCell ⟨g, 2, none⟩ (.bool false)).setCell ⟨g, 0, none⟩ (.slice A2 (n - m) (cap - m))) (· = g) := ((Moved.refl w _).at_ 2 _).at_ 0 _
  exact ⟨A1, cap, rfl, by omega, h2, Y1.out.moved hmv (by omega), ⟨A2, n - m, cap - m, (HK.out.set_ 2 _).set_ 0 _, Y2.out.moved hmv (by omega), by omega, by omega⟩, hmv, by simp [World.setCell]⟩

set_option maxHeartbeats 1000000 in
theorem num_bad (w : World) (g m : Nat) (bs : List UInt8) (left : Int) (bad : Bool) (h : RdAt w g bs left bad) (hm : bad = true ∨ bs.length < m) (hmm : m ≤ 8) :
    Calls Try.prog 52 #[.pointer (some ⟨g, 0, none⟩), .int .i64 m] w fun e w' => e = .returned (.int .u64 0) ∧ RdAt w' g bs left true ∧ Moved w w' (· = g) ∧ w'.heap.size = w.heap.size := by
  have HC := Lib.hid (cut_bad w g m bs left bad h hm (by omega))
  clear h hm
  go_enter Try.func52, Try.ntmps52
  go_wp2_with fail
  refine HC.out.mono ?_
  rintro e w2 ⟨rfl, h2, h3, h4⟩
  have H2 := Lib.hid h2
  have H3 := Lib.hid h3
  have H4 := Lib.hid h4
  clear h2 h3 h4
  go_wp2_with fail
  refine wp_loop_rounds 1 ?_
  rw [rounds_succ]
  go_wp2_with fail
  go_ret
  exact ⟨rfl, H2.out, H3.out, H4.out⟩

theorem or_256 (n c : Nat) (hc : c < 256) : n * 256 ||| c = n * 256 + c := by
  have h := Nat.two_pow_add_eq_or_of_lt (i := 8) (b := c) hc n
  rw [Nat.mul_comm n 256]
  exact h.symm
theorem or_step (n c : Nat) (hc : c < 256) (h : n * 256 + c < 18446744073709551616) : bits BinOp.or IntKind.u64 ((n : Int) * 256) (c : Int) = ((n * 256 + c : Nat) : Int) := by
  have e : ((n : Int) * 256) = ((n * 256 : Nat) : Int) := (Int.natCast_mul n 256).symm
  have hn : n * 256 < 18446744073709551616 := Nat.lt_of_le_of_lt (Nat.le_add_right _ _) h
  have hc' : c < 18446744073709551616 := Nat.lt_of_le_of_lt (Nat.le_add_left _ _) h
  rw [e, u64_or_nat (n * 256) c hn hc', or_256 n c hc]

set_option maxHeartbeats 2000000 in
theorem num_ok' (w : World) (g m : Nat) (bs xs : List UInt8) (left : Int) (h : RdAt w g bs left false) (hm : m ≤ bs.length) (hmm : m ≤ 8) (hxs : bs.take m = xs) :
    Calls Try.prog 52 #[.pointer (some ⟨g, 0, none⟩), .int .i64 m] w fun e w' => e = .returned (.int .u64 (ofBe xs : Nat)) ∧ RdAt w' g (bs.drop m) left false ∧ Moved w w' (· = g) ∧ w'.heap.size = w.heap.size := by
  have HC := Lib.hid (cut_ok w g m bs left h hm)
  have HL : Hid (xs.length = m) := by unfold Hid; rw [← hxs, List.length_take]; omega
  rw [hxs] at HC
  clear h hm hxs
  go_enter Try.func52, Try.ntmps52
  go_wp2_with fail
  refine HC.out.mono ?_
  rintro e w2 ⟨A, cap, rfl, h1, h2, hB, hR, hM, hS⟩
  have HB := Lib.hid hB
  have HF : Hid (RdAt w2 g (bs.drop m) left false ∧ Moved w w2 (· = g) ∧ w2.heap.size = w.heap.size) := ⟨hR, hM, hS⟩
  clear hB hR hM hS
  go_wp2_with fail
  go_loopw [5, 12] (fun u i wr => ∃ q, q ≤ m ∧ i = .int .i64 (q : Nat) ∧ u = .int .u64 (ofBe (xs.take q) : Nat) ∧ wr = w2) (fun _ i _ => m - (intOf i).toNat)
  case atStart => exact ⟨0, Nat.zero_le _, rfl, rfl, rfl⟩
  case round =>
    obtain ⟨q, hq, rfl, rfl, rfl⟩ := hrel
    by_cases hlt : q < m
    · obtain ⟨b, off, rfl, hb, hc⟩ := HB.out.at_ hlt
      have f1 := hc q hlt
      have hcu := (xs.getD q 0).toNat_lt
      have htk : ofBe (xs.take (q + 1)) = ofBe (xs.take q) * 256 + (xs.getD q 0).toNat := by rw [take_snoc _ _ (by rw [HL.out]; exact hlt), ofBe_snoc]
      have hlt8 : ofBe (xs.take (q + 1)) < 18446744073709551616 := by
        have h1 := ofBe_lt (xs.take (q + 1))
        rw [List.length_take, HL.out, Nat.min_eq_left (by omega)] at h1
        exact Nat.lt_of_lt_of_le h1 (Nat.pow_le_pow_right (n := 256) (by omega) (by omega : q + 1 ≤ 8))
      generalize (xs.getD q 0).toNat = c at f1 hcu htk
      generalize ofBe (xs.take q) = n0 at htk ⊢
      have HST : Hid (bits BinOp.or IntKind.u64 ((n0 : Int) * 256) (c : Int) = ((ofBe (xs.take (q + 1)) : Nat) : Int)) := by
        unfold Hid; rw [htk]; exact or_step n0 c hcu (by omega)
      have hn0 : n0 * 256 < 18446744073709551616 := by omega
      clear hc htk hlt8
      go_wp2_with fail
      go_roundw
      case rel => exact ⟨q + 1, by omega, by go_num, by rw [HST.out], by trivial⟩
      case measure => simp [intOf]; omega
    · obtain rfl : q = m := by omega
      have HQ : Hid (xs.take q = xs) := by unfold Hid; exact List.take_of_length_le (by rw [HL.out]; exact Nat.le_refl _)
      rw [HQ.out]
      go_wp2_with fail
      go_ret
      exact ⟨rfl, HF.out.1, HF.out.2.1, HF.out.2.2⟩
theorem num_ok (w : World) (g m : Nat) (bs : List UInt8) (left : Int) (h : RdAt w g bs left false) (hm : m ≤ bs.length) (hmm : m ≤ 8) :
    Calls Try.prog 52 #[.pointer (some ⟨g, 0, none⟩), .int .i64 m] w fun e w' => e = .returned (.int .u64 (ofBe (bs.take m) : Nat)) ∧ RdAt w' g (bs.drop m) left false ∧ Moved w w' (· = g) ∧ w'.heap.size = w.heap.size :=
  num_ok' w g m bs _ left h hm hmm rfl
end Go.Proofs.Ytkmikpmbnfcbpaa
