/- The contract of the reference's read, of bytes that are no value. -/
import Derived.Test.YtkmikpmbnfcbpaaHm
namespace Go.Proofs.Ytkmikpmbnfcbpaa
open Go.RowKit Go.Lib
set_option linter.unusedVariables false
open Tree

set_option maxHeartbeats 2000000 in
theorem read_bad (w : World) (n cap p dp K : Nat) (A : Option Addr) (bs : List UInt8) (hB : Byt w w.heap.size A n bs) (hn : n ≤ 4194304) (hdp : dp ≤ 20) (hpn : p < n) (hb : (bs.getD p 0).toNat = K)
    (hk : (K = 1 ∧ n < p + 9) ∨ (K = 2 ∧ n < p + 5) ∨ (K = 3 ∧ n < p + 5) ∨ K = 0 ∨ 3 < K) :
    Calls Try.prog 39 #[.slice A n cap, .int .i64 p, .int .i64 dp] w (RdQ w (21 - dp) bs p) := by
  have hbl := hB.1
  have HNO : Hid (∀ L u x, ¬ Pz (21 - dp) L (bs.drop p) u x) := fun L u x => by
    rw [drop_at (by omega)]
    rcases hk with ⟨h, h'⟩ | ⟨h, h'⟩ | ⟨h, h'⟩ | h | h
    · exact pz_no_num (by omega) (by rw [List.length_drop]; omega)
    · exact pz_no_four (by omega) (by rw [List.length_drop]; omega)
    · exact pz_no_four (by omega) (by rw [List.length_drop]; omega)
    · exact pz_no_kind (by omega)
    · exact pz_no_kind (by omega)
  obtain ⟨b0, off, rfl, hb0, hc⟩ := hB.at_ hpn
  have f0 : w.cell? ⟨b0, off + p, none⟩ = some (.int .u8 K) := by rw [hc p hpn, hb]
  have hK256 : K < 256 := by rw [← hb]; exact (bs.getD p 0).toNat_lt
  have hw1 : IntKind.i64.wrap ((p : Int) + 1) = (p : Int) + 1 := IntWalk.i64_in _ (by omega)
  have hw9 : IntKind.i64.wrap ((p : Int) + 1 + 8) = (p : Int) + 1 + 8 := IntWalk.i64_in _ (by omega)
  have hw4 : IntKind.i64.wrap ((p : Int) + 1 + 4) = (p : Int) + 1 + 4 := IntWalk.i64_in _ (by omega)
  have hq1 : ¬ ((n : Int) ≤ (p : Int)) := by omega
  have hq2 : ¬ ((20 : Int) < (dp : Int)) := by omega
  have hk' : (K = 1 ∧ ¬ ((p : Int) + 1 + 8 ≤ (n : Int))) ∨ (K = 2 ∧ (n : Int) < (p : Int) + 1 + 4) ∨ (K = 3 ∧ (n : Int) < (p : Int) + 1 + 4) ∨ K = 0 ∨ (¬ ((K : Int) = 1) ∧ ¬ ((K : Int) < 2) ∧ (3 : Int) < (K : Int)) := by omega
  clear hB hc hb hk hbl
  rcases hk' with ⟨rfl, hz⟩ | ⟨rfl, hz⟩ | ⟨rfl, hz⟩ | rfl | ⟨hz1, hz2, hz3⟩
  all_goals
    go_enter Try.func39, Try.ntmps39
    go_wp2_with fail
    exact bodyPost_ret (res_cell_tmp rfl (Blk.new w 26 _) rfl rfl) rfl ⟨.mk 0 0 ⟨#[]⟩ [], none, 0, -1, rfl, at_leaf _ _ _ _ _, (Below.refl _ _).alloc (Nat.le_refl _) _, .inr ⟨rfl, HNO.out⟩⟩
end Go.Proofs.Ytkmikpmbnfcbpaa
