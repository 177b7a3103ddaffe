/- Contracts of the small functions of clock and of its reference. -/
import Derived.Test.YtgbombimkpkbpaaRows
import Derived.WalkKit
import Derived.WalkSpells
import Derived.WalkLawsBesides
import Derived.Lib.Hide
namespace Go.Proofs.Ytgbombimkpkbpaa
open Go.RowKit

def isT (t : Int) : Bool := decide (0 ≤ t ∧ t ≤ 1099511627775)
def one (t : Int) : Int := if t < 0 then 0 else if t > 1099511627775 then 1099511627775 else t

theorem is_any (t : Int) (w : World) : Calls Try.prog 20 #[.int .i64 t] w fun e w' => e = .returned (.bool (isT t)) ∧ w = w' := by
  by_cases h0 : 0 ≤ t
  · go_enter Try.func20, Try.ntmps20
    go_wp2
    go_ret
    exact ⟨by congr 2; simp only [isT]; simp; omega, rfl⟩
  · go_enter Try.func20, Try.ntmps20
    go_wp2
    go_ret
    exact ⟨by congr 2; simp only [isT]; simp; omega, rfl⟩

theorem ris_any (t : Int) (w : World) : Calls Try.prog 25 #[.int .i64 t] w fun e w' => e = .returned (.bool (isT t)) ∧ w = w' := by
  by_cases h0 : 0 ≤ t
  · go_enter Try.func25, Try.ntmps25
    go_wp2
    go_ret
    exact ⟨by congr 2; simp only [isT]; simp; omega, rfl⟩
  · go_enter Try.func25, Try.ntmps25
    go_wp2
    go_ret
    exact ⟨by congr 2; simp only [isT]; simp; omega, rfl⟩

theorem clip_any (t : Int) (w : World) : Calls Try.prog 26 #[.int .i64 t] w fun e w' => e = .returned (.int .i64 (one t)) ∧ w = w' := by
  go_enter Try.func26, Try.ntmps26
  go_wp2
  all_goals go_ret
  all_goals exact ⟨by simp [one]; omega, rfl⟩

theorem one_any (t : Int) (w : World) : Calls Try.prog 27 #[.int .i64 t] w fun e w' => e = .returned (.int .i64 (one t)) ∧ w = w' := by
  go_enter Try.func27, Try.ntmps27
  go_wp2
  all_goals go_ret
  all_goals exact ⟨by simp [one]; omega, rfl⟩
end Go.Proofs.Ytgbombimkpkbpaa
