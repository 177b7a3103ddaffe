/- The contract of the reference's read, of a text. -/
import Derived.Test.YtkmikpmbnfcbpaaHo
namespace Go.Proofs.Ytkmikpmbnfcbpaa
open Go.RowKit Go.Lib
set_option linter.unusedVariables false
open Tree

theorem byt_mid {w : World} {B b off n : Nat} {bs : List UInt8} (h : Byt w B (some ⟨b, off, none⟩) n bs) (lo m : Nat) (hm : lo + m ≤ n) : Byt w B (some ⟨b, off + lo, none⟩) m ((bs.drop lo).take m) := by
  refine ⟨by rw [List.length_take, List.length_drop, h.1]; omega, ?_⟩
  rcases Nat.eq_zero_or_pos m with h0 | h0
  · exact .inl h0
  · obtain ⟨b', off', e, hb, hc⟩ := h.at_ (i := lo) (by omega)
    injection e with e
    injection e with e1 e2 e3
    subst e1 e2
    refine .inr ⟨_, _, rfl, hb, fun i hi => ?_⟩
    rw [Nat.add_assoc, hc (lo + i) (by omega), ← getD_drop]
    rw [List.getD_eq_getElem?_getD, List.getD_eq_getElem?_getD, List.getElem?_take, if_pos hi]

set_option maxHeartbeats 2000000 in
theorem read_txt (w : World) (n cap p dp K : Nat) (A : Option Addr) (bs : List UInt8) (hB : Byt w w.heap.size A n bs) (hcap : n ≤ cap) (hn : n ≤ 4194304) (hdp : dp ≤ 20) (hpn : p + 5 ≤ n) (hb : (bs.getD p 0).toNat = K)
    (hk : K = 2) (hX : ofBe ((bs.drop (p + 1)).take 4) ≤ n - (p + 5)) :
    Calls Try.prog 39 #[.slice A n cap, .int .i64 p, .int .i64 dp] w (RdQ w (21 - dp) bs p) := by
  have hbl := hB.1
  have hlen : ((bs.drop (p + 1)).drop 4).length = n - (p + 5) := by rw [List.length_drop, List.length_drop]; omega
  have HPZ : Hid (Pz (21 - dp) 1 (bs.drop p) (.mk 2 0 ⟨(((bs.drop (p + 1)).drop 4).take (ofBe ((bs.drop (p + 1)).take 4))).toArray⟩ []) (bs.drop (p + 5 + ofBe ((bs.drop (p + 1)).take 4)))) := by
    unfold Hid
    rw [drop_at (by omega)]
    have := pz_txt (d := 21 - dp) (L := 1) (bs := bs.drop (p + 1)) (hb.trans hk) (by omega) (by omega) (by rw [List.length_drop]; omega) (by rw [List.length_drop]; omega) (by omega)
    have e : ((bs.drop (p + 1)).drop 4).drop (ofBe ((bs.drop (p + 1)).take 4)) = bs.drop (p + 5 + ofBe ((bs.drop (p + 1)).take 4)) := by rw [List.drop_drop, List.drop_drop]; congr 1; omega
    rw [e] at this
    exact this
  have HBL := Lib.hid hbl
  have hXl : ofBe ((bs.drop (p + 1)).take 4) < 4294967296 := by
    have h := ofBe_lt ((bs.drop (p + 1)).take 4)
    have hl : ((bs.drop (p + 1)).take 4).length = 4 := by rw [List.length_take, List.length_drop]; omega
    rw [hl] at h
    exact h
  obtain ⟨b0, off, rfl, hb0, hc⟩ := hB.at_ (i := p) (by omega)
  have f0 : w.cell? ⟨b0, off + p, none⟩ = some (.int .u8 K) := by rw [hc p (by omega), hb]
  have HC : Hid (∀ W, Below w.heap.size w W → Calls Try.prog 54 #[.slice (some ⟨b0, off, none⟩) n cap, .int .i64 ((p : Int) + 1), .int .i64 4] W fun e w' => e = .returned (.int .u64 (ofBe ((bs.drop (p + 1)).take 4) : Nat)) ∧ w' = W) := fun W hW =>
    get54 W w.heap.size n cap (p + 1) 4 _ bs _ (hB.below hW) hn (by omega) (by omega) rfl
  obtain ⟨X, hXX⟩ : ∃ X, ofBe ((bs.drop (p + 1)).take 4) = X := ⟨_, rfl⟩
  rw [hXX] at hXl hX HC HPZ
  have e1 : (bs.drop (p + 1)).drop 4 = bs.drop (p + 5) := by rw [List.drop_drop]
  rw [e1] at HPZ
  have hcv : (convert 22 9 (.slice (some ⟨b0, off + (p + 1 + 4), none⟩) X (cap - (p + 1 + 4)))).run Try.prog (w.alloc (.cells #[.int .i64 0, .int .i64 0, .string ⟨#[]⟩, .slice none 0 0] 26)) = .ok (.string ⟨((bs.drop (p + 5)).take X).toArray⟩) (w.alloc (.cells #[.int .i64 0, .int .i64 0, .string ⟨#[]⟩, .slice none 0 0] 26)) := conv_byt ((byt_mid hB (p + 5) X (by omega)).alloc (Nat.le_refl _) _)
  have hcv0 : cap = p + 1 + 4 → (convert 22 9 (.slice (some ⟨b0, off, none⟩) X 0)).run Try.prog (w.alloc (.cells #[.int .i64 0, .int .i64 0, .string ⟨#[]⟩, .slice none 0 0] 26)) = .ok (.string ⟨((bs.drop (p + 5)).take X).toArray⟩) (w.alloc (.cells #[.int .i64 0, .int .i64 0, .string ⟨#[]⟩, .slice none 0 0] 26)) := fun hc0 => by
    have h0 : X = 0 := by omega
    subst h0
    exact conv_byt (w := (w.alloc (.cells #[.int .i64 0, .int .i64 0, .string ⟨#[]⟩, .slice none 0 0] 26))) (B := 0) (bs := (bs.drop (p + 5)).take 0) ⟨by simp, .inl rfl⟩
  have hcc : (cap = p + 1 + 4 ∧ (convert 22 9 (.slice (some ⟨b0, off, none⟩) X 0)).run Try.prog (w.alloc (.cells #[.int .i64 0, .int .i64 0, .string ⟨#[]⟩, .slice none 0 0] 26)) = .ok (.string ⟨((bs.drop (p + 5)).take X).toArray⟩) (w.alloc (.cells #[.int .i64 0, .int .i64 0, .string ⟨#[]⟩, .slice none 0 0] 26))) ∨ ¬ (cap = p + 1 + 4) := by
    by_cases h : cap = p + 1 + 4
    · exact .inl ⟨h, hcv0 h⟩
    · exact .inr h
  clear hcv0
  have hwX : IntKind.i64.wrap (X : Int) = X := IntWalk.i64_in _ (by omega)
  have hw1 : IntKind.i64.wrap ((p : Int) + 1) = (p : Int) + 1 := IntWalk.i64_in _ (by omega)
  have hw4 : IntKind.i64.wrap ((p : Int) + 1 + 4) = (p : Int) + 1 + 4 := IntWalk.i64_in _ (by omega)
  have hw5 : IntKind.i64.wrap ((n : Int) - ((p : Int) + 1 + 4)) = (n : Int) - ((p : Int) + 1 + 4) := IntWalk.i64_in _ (by omega)
  have hq1 : ¬ ((n : Int) ≤ (p : Int)) := by omega
  have hq2 : ¬ ((20 : Int) < (dp : Int)) := by omega
  have hq4 : ¬ ((n : Int) < (p : Int) + 1 + 4) := by omega
  have hwz : IntKind.i64.wrap ((p : Int) + 1 + 4 + (X : Int)) = (p : Int) + 1 + 4 + (X : Int) := IntWalk.i64_in _ (by omega)
  have hq5 : ¬ ((n : Int) - ((p : Int) + 1 + 4) < (X : Int)) := by omega
  have HX := Lib.hid hX
  clear hB hc hb hbl hlen hXX hX e1
  subst hk
  rcases hcc with ⟨rfl, hcv0⟩ | hcc
  all_goals
    go_enter Try.func39, Try.ntmps39
    go_wp2_with fail
    refine (HC.out _ ((Below.refl _ _).alloc (Nat.le_refl _) _)).mono ?_
    rintro e w2 ⟨rfl, rfl⟩
    go_wp2_with fail
    exact bodyPost_ret (res_cell_tmp rfl (Blk.new w 26 _) rfl rfl) rfl ⟨.mk 2 0 ⟨((bs.drop (p + 5)).take X).toArray⟩ [], none, 0, _, rfl, at_leaf _ _ _ _ _, (Below.refl _ _).alloc (Nat.le_refl _) _, .inl ⟨p + 5 + X, by omega, by omega, by have := HBL.out; have := HX.out; omega, HPZ.out⟩⟩
end Go.Proofs.Ytkmikpmbnfcbpaa
