/- The contract of known. -/
import Derived.Test.YtnolmcdahpkcnaaFk
import Derived.Lib.SmallJoins
namespace Go.Proofs.Ytnolmcdahpkcnaa
open Go.RowKit
set_option linter.unusedVariables false

theorem sum_abc : sumN [97, 98, 99] = 38600999 := by decide
theorem sum_none : sumN [] = 1 := by decide

/-- A slice of bytes in a new block that was written out (marked behind its end, as a constant's bytes are). -/
theorem lit_cell {W : World} {n : Nat} {bs : List UInt8} {fr : Nat × Nat} (h : n = W.heap.size) {i : Nat} (hi : i < bs.length) : (W.alloc (.cells (cells bs).toArray 5 fr)).cell? ⟨n, i, none⟩ = some (.int .u8 (bs.getD i 0).toNat) := by
  rw [cell_new h, List.getElem?_toArray, cells_get hi]

theorem jrn_of_add {w w' : World} {base g : Nat} {vb vl : Value} {bs : List UInt8} {bss : List (List UInt8)} {e : Ending} (h : AddPost w base g vb vl bs bss e w') : Jrn w' base g bs bss := by
  obtain ⟨vb', vl', rows', _, hJ, _⟩ := h
  exact ⟨_, _, _, hJ⟩

set_option maxHeartbeats 1000000 in
theorem known_calls (w : World) : Calls Try.prog 10 #[] w fun e w' => e = .returned (.bool true) ∧ Below w.heap.size w w' := by
  go_enter Try.func10, Try.ntmps10
  go_wp2_with fail
  refine (new_calls w).mono ?_
  rintro e w1 ⟨rfl, hw1⟩
  have hJ : JrnV w1 w.heap.size w.heap.size (.slice none 0 0) (.slice none 0 0) [] [] [] := by rw [← hw1]; exact new_jrn w
  have hb1 : Below w.heap.size w w1 := by rw [← hw1]; exact (Below.refl _ _).alloc (Nat.le_refl _) _
  have hs1 : w.heap.size < w1.heap.size := hJ.blk.lt
  clear hw1
  have HJ := Lib.hid hJ
  have HB1 := Lib.hid hb1
  clear hJ hb1
  have hconv : ∀ (W : World) (C : Array Value) (n c g : Nat), g = W.heap.size → (convert 22 22 (.slice (some ⟨g, 0, none⟩) n c)).run Try.prog (W.alloc (.cells C 5)) = .ok (.slice (some ⟨g, 0, none⟩) n c) (W.alloc (.cells C 5 (C.size, C.size + 1))) :=
    fun W C n c g hg => Joins.run_convert_bytes_const_at (P := Try.prog) W 22 5 C n c g hg Try.underlying22 Try.underlying5
  have HS := Lib.hid sum_abc
  have HS0 := Lib.hid sum_none
  go_wp2_with fail
  obtain ⟨w2, hw2⟩ : ∃ w2, w2 = (w1.alloc (.cells (cells [97, 98, 99]).toArray 5 (3, 4))).alloc (.cells #[.slice (some ⟨w1.heap.size, 0, none⟩) 3 3] 22) := ⟨_, rfl⟩
  have hb2 : Below w1.heap.size w1 w2 := by rw [hw2]; exact ((Below.refl _ _).alloc (Nat.le_refl _) _).alloc (by simp) _
  have hk1 : ∀ i, i < 3 → w2.cell? ⟨w1.heap.size, i, none⟩ = some (.int .u8 (([97, 98, 99] : List UInt8).getD i 0).toNat) := fun i hi => by
    rw [hw2, World.cell?_alloc_lt _ _ ⟨w1.heap.size, i, none⟩ (by simp)]; exact lit_cell rfl hi
  have hk2 : w2.cell? ⟨w1.heap.size + 1, 0, none⟩ = some (.slice (some ⟨w1.heap.size, 0, none⟩) 3 3) := by rw [hw2, cell_new (by simp)]; rfl
  have hs2 : w2.heap.size = w1.heap.size + 2 := by rw [hw2]; simp
  have hl : LsK w2 (fun b => b < w2.heap.size ∧ b ≠ w.heap.size) (some ⟨w1.heap.size + 1, 0, none⟩) 1 [[97, 98, 99]] := by
    refine ⟨rfl, .inr ⟨w1.heap.size + 1, 0, rfl, ⟨by omega, by omega⟩, fun i hi => ?_⟩⟩
    obtain rfl : i = 0 := by omega
    exact ⟨_, 3, 3, hk2, by omega, by omega, rfl, .inr ⟨_, 0, rfl, ⟨by omega, by omega⟩, fun i hi => by rw [Nat.zero_add]; exact hk1 i hi⟩⟩
  have hJ2 : JrnV w2 w.heap.size w.heap.size (.slice none 0 0) (.slice none 0 0) [] [] [] := HJ.out.keep fun k _ hk => hb2.block k hk
  have hA0 := add_calls w2 _ _ _ _ _ _ _ hJ2 _ (fun b hb => ⟨hb.1, fun h => by
      rcases h with h | h | h
      · exact hb.2 h
      · cases h
      · cases h⟩) _ _ 1 [[97, 98, 99]] hl (fun i hi => by
      have : i = 0 := by simp at hi; omega
      subst this; show 3 ≤ _; omega) (by decide) (by simp)
  rw [hw2] at hA0
  refine hA0.mono ?_
  rw [← hw2]
  intro e w3 hA
  have hJ3 := jrn_of_add hA
  obtain ⟨vb', vl', rows', rfl, _, hM, _⟩ := hA
  have hb3 : Below w.heap.size w w3 := (HB1.out.trans (hb2.mono (by omega))).trans (hM.below (fun k h => by
    rcases h with h | h | h
    · omega
    · cases h
    · cases h) (by omega))
  have HJ3 := Lib.hid hJ3
  have HB3 := Lib.hid hb3
  have hs3 := hb3.size
  clear hA0 hl hJ2 hJ3 hb3 hM hb2 hk1 hk2 hs2 hw2
  go_wp2_with fail
  obtain ⟨w4, hw4⟩ : ∃ w4, w4 = (w3.alloc (.cells (cells [97]).toArray 5 (1, 2))).alloc (.cells (cells [98, 99]).toArray 5 (2, 3)) := ⟨_, rfl⟩
  have hb4 : Below w3.heap.size w3 w4 := by rw [hw4]; exact ((Below.refl _ _).alloc (Nat.le_refl _) _).alloc (by simp) _
  have hs4 : w4.heap.size = w3.heap.size + 2 := by rw [hw4]; simp
  have k1 : Byt w4 w4.heap.size (some ⟨w3.heap.size, 0, none⟩) 1 [97] := ⟨rfl, .inr ⟨_, 0, rfl, by omega, fun i hi => by
    rw [Nat.zero_add, hw4, World.cell?_alloc_lt _ _ ⟨w3.heap.size, i, none⟩ (by simp)]; exact lit_cell rfl hi⟩⟩
  have k2 : Byt w4 w4.heap.size (some ⟨w3.heap.size + 1, 0, none⟩) 2 [98, 99] := ⟨rfl, .inr ⟨_, 0, rfl, by omega, fun i hi => by
    rw [Nat.zero_add, hw4]; exact lit_cell (by simp) hi⟩⟩
  have hS := sum_calls _ _ _ 2 2 [[97], [98, 99]] (lst_two k1 (c := 1) (by omega) (by omega) k2 (c' := 2) (by omega) (by omega)) (by omega)
  rw [show w4.heap.size = w3.heap.size + 1 + 1 by omega, show [[97], [98, 99]].flatten = ([97, 98, 99] : List UInt8) from rfl, HS.out, hw4] at hS
  have HB4 : Hid (Below w.heap.size w w4) := HB3.out.trans (hb4.mono hs3)
  have HJ4 : Hid (Jrn (w4.alloc (.cells #[.slice (some ⟨w3.heap.size, 0, none⟩) 1 1, .slice (some ⟨w3.heap.size + 1, 0, none⟩) 2 2] 22)) w.heap.size w.heap.size ([] ++ framesL [[97, 98, 99]]) ([] ++ [[97, 98, 99]])) :=
    (HJ3.out.below hb4).below ((Below.refl _ _).alloc (Nat.le_refl _) _)
  rw [hw4] at HB4 HJ4
  refine hS.mono ?_
  rintro e w' ⟨rfl, rfl⟩
  clear hb4 hs4 k1 k2 hS hw4
  go_wp2_with fail
  refine (sum_calls _ 0 none 0 0 [] Lst.nil (by omega)).mono ?_
  rintro e w' ⟨rfl, rfl⟩
  rw [show ([] : List (List UInt8)).flatten = [] from rfl, HS0.out]
  go_wp2_with fail
  refine (len_calls _ _ _ _ _ HJ4.out).mono ?_
  rintro e w' ⟨rfl, rfl⟩
  go_wp2_with fail
  refine (add_nil _ _).mono ?_
  rintro e w' ⟨rfl, rfl⟩
  go_wp2_with fail
  go_ret
  exact ⟨rfl, HB4.out.alloc (by have := HB3.out.size; simp; omega) _⟩
end Go.Proofs.Ytnolmcdahpkcnaa
