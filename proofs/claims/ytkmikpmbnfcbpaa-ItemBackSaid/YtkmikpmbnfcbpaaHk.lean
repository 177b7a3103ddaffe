/- The contract of Decode. -/
import Derived.Test.YtkmikpmbnfcbpaaHj
namespace Go.Proofs.Ytkmikpmbnfcbpaa
open Go.RowKit Go.Lib
set_option linter.unusedVariables false
open Tree

theorem dec_yes {bs : List UInt8} {t : Tree} (h : Pz 20 20000 bs t []) : Dec bs t 0 := .inl ⟨rfl, ⟨h.right, by have := h.deep; simpa using this, by have := h.cnt; omega⟩, h.wf, by have := h.eq; simpa using this⟩
theorem dec_no {bs : List UInt8} (h : ∀ u, ¬ Pz 20 20000 bs u []) : Dec bs (.mk 0 0 ⟨#[]⟩ []) 5 := .inr ⟨rfl, rfl, fun u hf hw he => h u ⟨hf.1, hw, hf.2.1, by have := hf.2.2; omega, by simpa using he⟩⟩

set_option maxHeartbeats 2000000 in
theorem decode13 (w : World) (A : Option Addr) (n cap : Nat) (bs : List UInt8) (hB : Byt w w.heap.size A n bs) (h1 : n ≤ cap) (h2 : cap ≤ 9223372036854775807) (hl : n ≤ 4194304) :
    Calls Try.prog 13 #[.slice A n cap] w (RetD w bs) := by
  have HB := Lib.hid hB
  have hn : ¬ ((4194304 : Int) < (n : Int)) := by omega
  have HLN : Hid (bs.length = n) := hB.1
  clear hB
  go_enter Try.func13, Try.ntmps13
  go_wp2_with fail
  obtain ⟨W1, hW1⟩ : ∃ W1, World.alloc (World.alloc w (.cells #[.int .i64 0, .int .i64 0, .string ⟨#[]⟩, .slice none 0 0] 26)) (.cells #[.slice A n cap, .int .i64 20000, .bool false] 69) = W1 := ⟨_, rfl⟩
  rw [hW1]
  have hB1 : Below w.heap.size w W1 := by rw [← hW1]; exact ((Below.refl _ _).alloc (Nat.le_refl _) _).alloc (by simp) _
  have hs1 : W1.heap.size = w.heap.size + 2 := by rw [← hW1]; simp
  have hk1 : Blk W1 w.heap.size 26 #[.int .i64 0, .int .i64 0, .string ⟨#[]⟩, .slice none 0 0] := by rw [← hW1]; exact (Blk.new w 26 _).alloc _
  have hg1 : Blk W1 (w.heap.size + 1) 69 #[.slice A n cap, .int .i64 20000, .bool false] := by rw [← hW1, ← size_alloc w (.cells #[.int .i64 0, .int .i64 0, .string ⟨#[]⟩, .slice none 0 0] 26)]; exact Blk.new _ 69 _
  have hR1 : RdAt W1 (w.heap.size + 1) bs 20000 false := ⟨A, n, cap, hg1, (HB.out.below hB1).more (by omega), h1, h2⟩
  refine (item_calls (w.heap.size + 1) 20 (by omega) W1 bs 20000 (by rw [HLN.out]; exact hl) (by omega) (by omega) hR1).mono ?_
  rintro e w2 ⟨t, a, c, rfl, hAt, hM, hP⟩
  have HAT := Lib.hid hAt
  have HBL : Hid (Below w.heap.size w w2) := hB1.trans (hM.below (fun k hk => by omega) (by omega))
  have hk2 : Blk w2 w.heap.size 26 #[.int .i64 0, .int .i64 0, .string ⟨#[]⟩, .slice none 0 0] := (hM.block _ (by omega) (by omega)).trans hk1
  have hs2 := hM.size
  rw [hs1] at hs2
  have HS1 := Lib.hid hs1
  have HK2 := Lib.hid hk2
  have c0 := hk2.c0
  have c1 := hk2.c1
  have c2 := hk2.c2
  have c3 := hk2.c3
  have f0 := hk2.frozen 0
  have f1 := hk2.frozen 1
  have f2 := hk2.frozen 2
  have f3 := hk2.frozen 3
  have hlt0 : w.heap.size < w2.heap.size := by omega
  have hlt1 : w.heap.size + 1 < w2.heap.size := by omega
  clear hW1 hB1 hk1 hg1 hR1 hAt hM hk2 hs1
  unfold val
  rcases hP with ⟨r, hpz, hrd⟩ | ⟨r, M, hrd, hno⟩
  · have HPZ := Lib.hid hpz
    obtain ⟨A', n', cap', hk, hB', hx1, hx2⟩ := hrd
    have g0 : w2.cell? ⟨w.heap.size + 1, 0, none⟩ = some _ := hk.cell 0
    have g2 : w2.cell? ⟨w.heap.size + 1, 2, none⟩ = some _ := hk.cell 2
    have hrl := hB'.1
    clear hk hB' hpz
    by_cases h0 : 0 < n'
    · have hz : (0 : Int) < (n' : Int) := by omega
      have HNO : Hid (∀ u, ¬ Pz 20 20000 bs u []) := fun u hu => by
        have := (pz_one_only (by rw [HLN.out]; omega) HPZ.out hu).2
        rw [this] at hrl
        simp at hrl; omega
      clear hrl
      go_wp2_with fail
      exact bodyPost_ret (res_cell_tmp rfl ((Blk.put4 HK2.out).alloc _) rfl rfl) rfl ⟨.mk 0 0 ⟨#[]⟩ [], none, 0, 5, rfl, at_leaf _ _ _ _ _, (Below.put4_ HBL.out (Nat.le_refl _)).alloc (by rw [put4_size]; omega) _, dec_no HNO.out⟩
    · have hz : ¬ ((0 : Int) < (n' : Int)) := by omega
      have HD : Hid (Dec bs t 0) := by
        have : r = [] := List.length_eq_zero_iff.1 (by omega)
        rw [this] at HPZ
        exact dec_yes HPZ.out
      clear hrl
      go_wp2_with fail
      refine bodyPost_ret (res_cell_tmp rfl ((Blk.put4 HK2.out).alloc _) rfl rfl) rfl ⟨t, a, c, 0, rfl, ?_, (Below.put4_ HBL.out (Nat.le_refl _)).alloc (by rw [put4_size]; omega) _, HD.out⟩
      show At (World.alloc (put4 w2 w.heap.size _ _ _ _) _) (fun b => w.heap.size ≤ b ∧ b < (World.alloc (put4 w2 w.heap.size _ _ _ _) _).heap.size) _ _ _
      refine (HAT.out.keep fun b hb => ?_).imp fun b hb => ⟨by have := hb.1; have := HS1.out; omega, ?_⟩
      · exact (((Below.refl _ _).alloc (Nat.le_refl _) _).block b (by rw [put4_size]; exact hb.2)).trans (put4_block (by have := hb.1; have := HS1.out; omega))
      · rw [size_alloc, put4_size]; have := hb.2; omega
  · have HNO : Hid (∀ u, ¬ Pz 20 20000 bs u []) := fun u => hno u []
    obtain ⟨A', n', cap', hk, hB', hx1, hx2⟩ := hrd
    have g0 : w2.cell? ⟨w.heap.size + 1, 0, none⟩ = some _ := hk.cell 0
    have g2 : w2.cell? ⟨w.heap.size + 1, 2, none⟩ = some _ := hk.cell 2
    clear hk hB' hno
    go_wp2_with fail
    exact bodyPost_ret (res_cell_tmp rfl ((Blk.put4 HK2.out).alloc _) rfl rfl) rfl ⟨.mk 0 0 ⟨#[]⟩ [], none, 0, 5, rfl, at_leaf _ _ _ _ _, (Below.put4_ HBL.out (Nat.le_refl _)).alloc (by rw [put4_size]; omega) _, dec_no HNO.out⟩
end Go.Proofs.Ytkmikpmbnfcbpaa
