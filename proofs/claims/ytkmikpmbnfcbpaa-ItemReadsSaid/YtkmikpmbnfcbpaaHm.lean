/- The contract of the reference's read, where it is no list. -/
import Derived.Test.YtkmikpmbnfcbpaaHl
namespace Go.Proofs.Ytkmikpmbnfcbpaa
open Go.RowKit Go.Lib
set_option linter.unusedVariables false
open Tree

def RdQ (w : World) (d : Int) (bs : List UInt8) (p : Nat) (e : Ending) (w' : World) : Prop :=
  ∃ t a c z, e = .returned (.tuple #[val t a c, .int .i64 z]) ∧ At w' (fun b => w.heap.size ≤ b ∧ b < w'.heap.size) t a c ∧ Below w.heap.size w w' ∧
    ((∃ k : Nat, z = k ∧ p < k ∧ k ≤ bs.length ∧ Pz d t.count (bs.drop p) t (bs.drop k)) ∨ (z = -1 ∧ ∀ L u x, ¬ Pz d L (bs.drop p) u x))

set_option maxHeartbeats 2000000 in
theorem read_end (w : World) (n cap p dp : Nat) (A : Option Addr) (bs : List UInt8) (hB : Byt w w.heap.size A n bs) (hn : n ≤ 4194304) (hdp : dp ≤ 21) (hp : n ≤ p ∨ 20 < dp) (hpn : p ≤ n) :
    Calls Try.prog 39 #[.slice A n cap, .int .i64 p, .int .i64 dp] w (RdQ w (21 - dp) bs p) := by
  have HNO : Hid (∀ L u x, ¬ Pz (21 - dp) L (bs.drop p) u x) := fun L u x => by
    have := hB.1
    rcases hp with h | h
    · exact pz_no_nil (by rw [List.length_drop]; omega)
    · exact pz_no_d (by omega)
  clear hB
  have hc : (n : Int) ≤ (p : Int) ∨ (¬ ((n : Int) ≤ (p : Int)) ∧ (20 : Int) < (dp : Int)) := by omega
  clear hp
  rcases hc with hc | ⟨hc, hc2⟩
  all_goals
    go_enter Try.func39, Try.ntmps39
    go_wp2_with fail
    exact bodyPost_ret (res_cell_tmp rfl (Blk.new w 26 _) rfl rfl) rfl ⟨.mk 0 0 ⟨#[]⟩ [], none, 0, -1, rfl, at_leaf _ _ _ _ _, (Below.refl _ _).alloc (Nat.le_refl _) _, .inr ⟨rfl, HNO.out⟩⟩
theorem drop_at {bs : List UInt8} {p : Nat} (h : p < bs.length) : bs.drop p = bs.getD p 0 :: bs.drop (p + 1) := by
  rw [List.drop_eq_getElem_cons h]; simp [h]

set_option maxHeartbeats 2000000 in
theorem read_num (w : World) (n cap p dp : Nat) (A : Option Addr) (bs : List UInt8) (hB : Byt w w.heap.size A n bs) (hn : n ≤ 4194304) (hdp : dp ≤ 20) (hpn : p < n) (hb : (bs.getD p 0).toNat = 1) (h8 : p + 1 + 8 ≤ n) :
    Calls Try.prog 39 #[.slice A n cap, .int .i64 p, .int .i64 dp] w (RdQ w (21 - dp) bs p) := by
  have hbl := hB.1
  have HBL := Lib.hid hbl
  have hXl : ofBe ((bs.drop (p + 1)).take 8) < 18446744073709551616 := by
    have h := ofBe_lt ((bs.drop (p + 1)).take 8)
    have hl : ((bs.drop (p + 1)).take 8).length = 8 := by rw [List.length_take, List.length_drop]; omega
    rw [hl] at h
    exact h
  have HPZ : Hid (Pz (21 - dp) 1 (bs.drop p) (.mk 1 (i64N (ofBe ((bs.drop (p + 1)).take 8))) ⟨#[]⟩ []) (bs.drop (p + 9))) := by
    unfold Hid
    rw [drop_at (by omega)]
    have := pz_num (d := 21 - dp) (L := 1) (bs := bs.drop (p + 1)) hb (by omega) (by omega) (by rw [List.length_drop]; omega)
    rw [List.drop_drop] at this
    exact this
  obtain ⟨b0, off, rfl, hb0, hc⟩ := hB.at_ hpn
  have f0 : w.cell? ⟨b0, off + p, none⟩ = some (.int .u8 1) := by rw [hc p hpn, hb]; rfl
  have HC : Hid (∀ W, Below w.heap.size w W → Calls Try.prog 54 #[.slice (some ⟨b0, off, none⟩) n cap, .int .i64 ((p : Int) + 1), .int .i64 8] W fun e w' => e = .returned (.int .u64 (ofBe ((bs.drop (p + 1)).take 8) : Nat)) ∧ w' = W) := fun W hW =>
    get54 W w.heap.size n cap (p + 1) 8 _ bs _ (hB.below hW) hn (by omega) (by omega) rfl
  obtain ⟨X, hX⟩ : ∃ X, ofBe ((bs.drop (p + 1)).take 8) = X := ⟨_, rfl⟩
  rw [hX] at hXl HPZ HC
  have hwX := wrap_i64N X hXl
  have hw1 : IntKind.i64.wrap ((p : Int) + 1) = (p : Int) + 1 := IntWalk.i64_in _ (by omega)
  have hw9 : IntKind.i64.wrap ((p : Int) + 1 + 8) = (p : Int) + 1 + 8 := IntWalk.i64_in _ (by omega)
  have hq1 : ¬ ((n : Int) ≤ (p : Int)) := by omega
  have hq2 : ¬ ((20 : Int) < (dp : Int)) := by omega
  have hq3 : (p : Int) + 1 + 8 ≤ (n : Int) := by omega
  clear hB hc hX hb
  go_enter Try.func39, Try.ntmps39
  go_wp2_with fail
  refine (HC.out _ ((Below.refl _ _).alloc (Nat.le_refl _) _)).mono ?_
  rintro e w2 ⟨rfl, rfl⟩
  go_wp2_with fail
  exact bodyPost_ret (res_cell_tmp rfl (Blk.new w 26 _) rfl rfl) rfl ⟨.mk 1 (i64N X) ⟨#[]⟩ [], none, 0, _, rfl, at_leaf _ _ _ _ _, (Below.refl _ _).alloc (Nat.le_refl _) _, .inl ⟨p + 9, by omega, by omega, by have := HBL.out; omega, HPZ.out⟩⟩
end Go.Proofs.Ytkmikpmbnfcbpaa
