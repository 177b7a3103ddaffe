/- The contract of the reference's read: texts, and what is too long. -/
import Derived.Test.YtkmikpmbnfcbpaaHn
namespace Go.Proofs.Ytkmikpmbnfcbpaa
open Go.RowKit Go.Lib
set_option linter.unusedVariables false
open Tree

theorem pz_no_lst {d L : Int} {b : UInt8} {bs r : List UInt8} {t : Tree} (hb : b.toNat = 3) (hs : bs.length ≤ 4294967295) (hn : (bs.drop 4).length < ofBe (bs.take 4)) : ¬ Pz d L (b :: bs) t r := fun h => by
  obtain ⟨h1, h2⟩ := pz_lst hb hs h
  have := encL_len t.list
  have e := congrArg List.length h1.eq
  rw [List.length_append] at e
  omega

set_option maxHeartbeats 2000000 in
theorem read_long (w : World) (n cap p dp K : Nat) (A : Option Addr) (bs : List UInt8) (hB : Byt w w.heap.size A n bs) (hn : n ≤ 4194304) (hdp : dp ≤ 20) (hpn : p + 5 ≤ n) (hb : (bs.getD p 0).toNat = K)
    (hk : K = 2 ∨ K = 3) (hX : n - (p + 5) < ofBe ((bs.drop (p + 1)).take 4)) :
    Calls Try.prog 39 #[.slice A n cap, .int .i64 p, .int .i64 dp] w (RdQ w (21 - dp) bs p) := by
  have hbl := hB.1
  have hlen : ((bs.drop (p + 1)).drop 4).length = n - (p + 5) := by rw [List.length_drop, List.length_drop]; omega
  have HNO : Hid (∀ L u x, ¬ Pz (21 - dp) L (bs.drop p) u x) := fun L u x => by
    rw [drop_at (by omega)]
    rcases hk with h | h
    · exact pz_no_txt (by omega) (by rw [List.length_drop]; omega) (by omega)
    · exact pz_no_lst (by omega) (by rw [List.length_drop]; omega) (by omega)
  have hXl : ofBe ((bs.drop (p + 1)).take 4) < 4294967296 := by
    have h := ofBe_lt ((bs.drop (p + 1)).take 4)
    have hl : ((bs.drop (p + 1)).take 4).length = 4 := by rw [List.length_take, List.length_drop]; omega
    rw [hl] at h
    exact h
  obtain ⟨b0, off, rfl, hb0, hc⟩ := hB.at_ (i := p) (by omega)
  have f0 : w.cell? ⟨b0, off + p, none⟩ = some (.int .u8 K) := by rw [hc p (by omega), hb]
  have HC : Hid (∀ W, Below w.heap.size w W → Calls Try.prog 54 #[.slice (some ⟨b0, off, none⟩) n cap, .int .i64 ((p : Int) + 1), .int .i64 4] W fun e w' => e = .returned (.int .u64 (ofBe ((bs.drop (p + 1)).take 4) : Nat)) ∧ w' = W) := fun W hW =>
    get54 W w.heap.size n cap (p + 1) 4 _ bs _ (hB.below hW) hn (by omega) (by omega) rfl
  obtain ⟨X, hXX⟩ : ∃ X, ofBe ((bs.drop (p + 1)).take 4) = X := ⟨_, rfl⟩
  rw [hXX] at hXl hX HC
  have hwX : IntKind.i64.wrap (X : Int) = X := IntWalk.i64_in _ (by omega)
  have hw1 : IntKind.i64.wrap ((p : Int) + 1) = (p : Int) + 1 := IntWalk.i64_in _ (by omega)
  have hw4 : IntKind.i64.wrap ((p : Int) + 1 + 4) = (p : Int) + 1 + 4 := IntWalk.i64_in _ (by omega)
  have hw5 : IntKind.i64.wrap ((n : Int) - ((p : Int) + 1 + 4)) = (n : Int) - ((p : Int) + 1 + 4) := IntWalk.i64_in _ (by omega)
  have hq1 : ¬ ((n : Int) ≤ (p : Int)) := by omega
  have hq2 : ¬ ((20 : Int) < (dp : Int)) := by omega
  have hq4 : ¬ ((n : Int) < (p : Int) + 1 + 4) := by omega
  have hq5 : (n : Int) - ((p : Int) + 1 + 4) < (X : Int) := by omega
  clear hB hc hb hbl hlen hXX hX
  rcases hk with rfl | rfl
  all_goals
    go_enter Try.func39, Try.ntmps39
    go_wp2_with fail
    refine (HC.out _ ((Below.refl _ _).alloc (Nat.le_refl _) _)).mono ?_
    rintro e w2 ⟨rfl, rfl⟩
    go_wp2_with fail
    exact bodyPost_ret (res_cell_tmp rfl (Blk.new w 26 _) rfl rfl) rfl ⟨.mk 0 0 ⟨#[]⟩ [], none, 0, -1, rfl, at_leaf _ _ _ _ _, (Below.refl _ _).alloc (Nat.le_refl _) _, .inr ⟨rfl, HNO.out⟩⟩
end Go.Proofs.Ytkmikpmbnfcbpaa
