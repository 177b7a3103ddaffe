/- ClockOrders: the walk. -/
import Derived.Test.YtgbombimkpkbpaaPa
import Derived.OpenShut
namespace Go.Proofs.Ytgbombimkpkbpaa
open Go.RowKit
set_option linter.unusedVariables false

theorem ints2 {w : World} {g : Nat} {x y : Int} (h0 : w.cell? ⟨g, 0, none⟩ = some (.int .i64 x)) (h1 : w.cell? ⟨g, 1, none⟩ = some (.int .i64 y)) : IsInts w (some ⟨g, 0, none⟩) 2 [x, y] := by
  refine ⟨rfl, .inr ⟨g, 0, rfl, fun i hi => ?_⟩⟩
  have : i = 0 ∨ i = 1 := by omega
  rcases this with rfl | rfl
  · exact h0
  · exact h1

theorem cell_new {W : World} {n j : Nat} {C : Array Value} {t : TypeId} {fr : Nat × Nat} (h : n = W.heap.size) : (W.alloc (.cells C t fr)).cell? ⟨n, j, none⟩ = C[j]? := by
  subst h; exact World.cell?_alloc_mark _ _ _ _ _

set_option maxHeartbeats 1000000 in
theorem walk_clockOrders (a0 a1 a2 : Int) (w0 : (Lit.int .i64 a0).wf = true) (w1 : (Lit.int .i64 a1).wf = true) (w2 : (Lit.int .i64 a2).wf = true) (w : World) :
    Calls Try.prog 6 #[.int .i64 a0, .int .i64 a1, .int .i64 a2] w fun e w' => e = .returned (.bool true) ∧ Below w.heap.size w w' := by
  obtain ⟨b0, b1⟩ := bounds_i64 w0
  obtain ⟨b2, b3⟩ := bounds_i64 w2
  have H1 := Lib.hid (add_swap a0 a1 a2)
  have H2 := Lib.hid (clip_swap a0 a1 a2)
  clear w0 w1 w2
  go_enter Try.func6, Try.ntmps6
  go_wp2_with fail
  refine (add_calls a0 _ _ _ [a1, a2] _ (ints2 (by rw [cell_new (by simp)]; rfl) (by rw [cell_new (by simp)]; rfl)) (by omega) b0 b1).mono ?_
  rintro e w' ⟨rfl, rfl⟩
  rw [H1.out]
  go_wp2_with fail
  refine (add_calls a2 _ _ _ [a0, a1] _ (ints2 (by rw [cell_new (by simp)]; rfl) (by rw [cell_new (by simp)]; rfl)) (by omega) b2 b3).mono ?_
  rintro e w' ⟨rfl, rfl⟩
  go_wp2_with fail
  refine (clip_calls a0 _ _ _ [a1, a2] _ (ints2 (by rw [cell_new (by simp)]; rfl) (by rw [cell_new (by simp)]; rfl)) (by omega)).mono ?_
  rintro e w' ⟨rfl, rfl⟩
  rw [show clipAt a0 [a1, a2] [a1, a2].length = clipAt a2 [a1, a0] [a1, a0].length from H2.out]
  go_wp2_with fail
  refine (clip_calls a2 _ _ _ [a1, a0] _ (ints2 (by rw [cell_new (by simp)]; rfl) (by rw [cell_new (by simp)]; rfl)) (by omega)).mono ?_
  rintro e w' ⟨rfl, rfl⟩
  go_wp2_with fail
  refine (known_calls _).mono ?_
  rintro e w3 ⟨rfl, hb3⟩
  go_wp2_with fail
  go_ret
  refine ⟨rfl, Below.trans ?_ (hb3.mono (B' := w.heap.size) (by simp; omega))⟩
  repeat (first | exact Below.refl _ _ | refine Below.alloc ?_ (by simp; try omega) _)
end Go.Proofs.Ytgbombimkpkbpaa
