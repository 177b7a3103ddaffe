/- The contracts of the reference's read and Decode. -/
import Derived.Test.YtkmikpmbnfcbpaaHq
namespace Go.Proofs.Ytkmikpmbnfcbpaa
open Go.RowKit Go.Lib
set_option linter.unusedVariables false
open Tree

theorem read_calls (n cap : Nat) (A : Option Addr) (bs : List UInt8) (hcap : n ≤ cap) (hc2 : cap ≤ 9223372036854775807) (hn : n ≤ 4194304) : ∀ (m dp : Nat), dp + m = 21 → ∀ (w : World) (p : Nat), p ≤ n → Byt w w.heap.size A n bs →
    Calls Try.prog 39 #[.slice A n cap, .int .i64 p, .int .i64 dp] w (RdQ w (21 - dp) bs p) := by
  intro m
  induction m with
  | zero => intro dp hd w p hp hB; exact read_end w n cap p dp A bs hB hn (by omega) (.inr (by omega)) hp
  | succ m ih =>
    intro dp hd w p hp hB
    by_cases hpn : n ≤ p
    · exact read_end w n cap p dp A bs hB hn (by omega) (.inl hpn) hp
    have hpn : p < n := by omega
    have hdp : dp ≤ 20 := by omega
    by_cases hb1 : (bs.getD p 0).toNat = 1
    · by_cases h9 : n < p + 9
      · exact read_bad w n cap p dp 1 A bs hB hn hdp hpn hb1 (.inl ⟨rfl, h9⟩)
      · exact read_num w n cap p dp A bs hB hn hdp hpn hb1 (by omega)
    by_cases hb2 : (bs.getD p 0).toNat = 2
    · by_cases h5 : n < p + 5
      · exact read_bad w n cap p dp 2 A bs hB hn hdp hpn hb2 (.inr (.inl ⟨rfl, h5⟩))
      · by_cases hX : n - (p + 5) < ofBe ((bs.drop (p + 1)).take 4)
        · exact read_long w n cap p dp 2 A bs hB hn hdp (by omega) hb2 (.inl rfl) hX
        · exact read_txt w n cap p dp 2 A bs hB hcap hn hdp (by omega) hb2 rfl (by omega)
    by_cases hb3 : (bs.getD p 0).toNat = 3
    · by_cases h5 : n < p + 5
      · exact read_bad w n cap p dp 3 A bs hB hn hdp hpn hb3 (.inr (.inr (.inl ⟨rfl, h5⟩)))
      · by_cases hX : n - (p + 5) < ofBe ((bs.drop (p + 1)).take 4)
        · exact read_long w n cap p dp 3 A bs hB hn hdp (by omega) hb3 (.inr rfl) hX
        · refine read_lst w n cap p dp 3 A bs hB hn hdp (by omega) hb3 rfl (by omega) fun W q hq hBW => ?_
          have := ih (dp + 1) (by omega) W q hq hBW
          have e1 : ((dp + 1 : Nat) : Int) = (dp : Int) + 1 := by omega
          have e2 : (21 : Int) - ((dp : Int) + 1) = 20 - dp := by omega
          rw [e1, e2] at this
          exact this
    · exact read_bad w n cap p dp _ A bs hB hn hdp hpn rfl (by omega)

theorem count_enc : ∀ N, ∀ t : Tree, t.count ≤ N → Right t → t.count ≤ (enc t).length := by
  intro N
  induction N with
  | zero => intro t h; rw [count_eq] at h; omega
  | succ N ih =>
    intro t h hr
    have f := (right_eq t).1 hr
    have hl : ∀ l : List Tree, countL l ≤ N → RightL l → countL l ≤ (encL l).length := by
      intro l
      induction l with
      | nil => intro _ _; simp [countL]
      | cons u r ih2 =>
        intro h hr
        simp only [countL] at h
        have h1 := ih u (by omega) hr.1
        have h2 := ih2 (by omega) hr.2
        simp only [encL, List.length_append, countL]; omega
    rw [count_eq] at h
    have h1 := hl t.list (by omega) f.2
    rw [enc_eq, count_eq]
    simp only [List.length_cons]
    rcases f.1.1 with e | e | e
    · have h0 := f.1.2.2.2 (by omega)
      rw [h0]; simp only [countL]; omega
    · have h0 := f.1.2.2.2 (by omega)
      rw [h0]; simp only [countL]; omega
    · rw [if_neg (by omega), if_neg (by omega), List.length_append]; omega

set_option maxHeartbeats 2000000 in
theorem refDecode14 (w : World) (A : Option Addr) (n cap : Nat) (bs : List UInt8) (hB : Byt w w.heap.size A n bs) (h1 : n ≤ cap) (h2 : cap ≤ 9223372036854775807) (hl : n ≤ 4194304) :
    Calls Try.prog 14 #[.slice A n cap] w (RetD w bs) := by
  have HB := Lib.hid hB
  have hn : ¬ ((4194304 : Int) < (n : Int)) := by omega
  have HLN : Hid (bs.length = n) := hB.1
  have HR : Hid (∀ W, Below w.heap.size w W → Calls Try.prog 39 #[.slice A n cap, .int .i64 0, .int .i64 1] W (RdQ W 20 bs 0)) := fun W hW =>
    read_calls n cap A bs h1 h2 hl 20 1 rfl W 0 (Nat.zero_le _) ((hB.below hW).more hW.size)
  clear hB h1 h2 hl
  go_enter Try.func14, Try.ntmps14
  go_wp2_with fail
  refine (HR.out _ ((Below.refl _ _).alloc (Nat.le_refl _) _)).mono ?_
  rintro e w2 ⟨t, a, c, z, rfl, hAt, hb2', hP⟩
  have hb2 : Below w.heap.size w w2 := ((Below.refl _ _).alloc (Nat.le_refl _) _).trans (hb2'.mono (by simp))
  have hk2 : Blk w2 w.heap.size 26 #[.int .i64 0, .int .i64 0, .string ⟨#[]⟩, .slice none 0 0] := (Blk.new w 26 _).below hb2' (by simp)
  have hs2 : w.heap.size < w2.heap.size := by have := hb2'.size; rw [size_alloc] at this; omega
  have HAT : Hid (At w2 (fun b => w.heap.size + 1 ≤ b ∧ b < w2.heap.size) t a c) := by
    have := hAt; rw [size_alloc] at this; exact this
  have HBL := Lib.hid hb2
  have HK2 := Lib.hid hk2
  have c0 := hk2.c0
  have c1 := hk2.c1
  have c2 := hk2.c2
  have c3 := hk2.c3
  have f0 := hk2.frozen 0
  have f1 := hk2.frozen 1
  have f2 := hk2.frozen 2
  have f3 := hk2.frozen 3
  have HPP := Lib.hid hP
  clear hAt hb2' hb2 hk2 hP
  unfold val
  by_cases hz : z = n
  · subst hz
    have hpz : Pz 20 t.count bs t [] := by
      rcases HPP.out with ⟨k, e, h1, h2, h3⟩ | ⟨e, _⟩
      · have : k = n := by omega
        subst this
        have hd : bs.drop k = [] := List.drop_eq_nil_iff.2 (by have := HLN.out; omega)
        rw [hd] at h3
        simpa using h3
      · omega
    have HPZ := Lib.hid hpz
    have hcnt : t.count ≤ 1000000000 := by
      have h3 := count_enc t.count t (Nat.le_refl _) hpz.right
      have h4 := congrArg List.length hpz.eq
      have h5 := HLN.out
      rw [List.length_append] at h4
      omega
    have HC : Hid (∀ r, ((Fits t 20 ∧ r = 0) ∨ (¬ Fits t 20 ∧ r = 2)) → ∀ W, Below w2.heap.size w2 W → Calls Try.prog 25 #[.agg #[.int .i64 t.kind, .int .i64 t.num, .string t.text, .slice a t.list.length c]] W (Ret1 W (.int .i64 r))) := fun r h W hW =>
      refCheck25 t a c W r ((HAT.out.keep fun b hb => hW.block b hb.2).imp fun b hb => Nat.lt_of_lt_of_le hb.2 hW.size) hcnt h
    clear hpz hcnt
    by_cases hf : Fits t 20
    · have HD : Hid (Dec bs t 0) := dec_yes (HPZ.out.mono (by have := hf.2.2; omega))
      have HCC := Lib.hid (HC.out 0 (.inl ⟨hf, rfl⟩))
      clear hf
      go_wp2_with fail
      generalize hW4 : World.alloc w2 _ = w4
      have HB4 : Hid (Below w2.heap.size w2 w4) := by unfold Hid; rw [← hW4]; exact (Below.refl _ _).alloc (Nat.le_refl _) _
      have hk4 : Blk w4 w2.heap.size 26 #[.int .i64 t.kind, .int .i64 t.num, .string t.text, .slice a t.list.length c] := by rw [← hW4]; exact Blk.new w2 26 _
      have hk40 : Blk w4 w.heap.size 26 #[.int .i64 0, .int .i64 0, .string ⟨#[]⟩, .slice none 0 0] := HK2.out.below HB4.out (by omega)
      have hs4 : w4.heap.size = w2.heap.size + 1 := by rw [← hW4]; simp
      have HK4 := Lib.hid hk4
      have HK40 := Lib.hid hk40
      clear hW4 hk4 hk40 c0 c1 c2 c3 f0 f1 f2 f3
      refine (HCC.out w4 HB4.out).mono ?_
      rintro e w5 ⟨rfl, hb5⟩
      have HB25 : Hid (Below w2.heap.size w2 w5) := HB4.out.trans (hb5.mono (by omega))
      have HB5 : Hid (Below w.heap.size w w5) := HBL.out.trans (HB25.out.mono (by omega))
      have hs5 := hb5.size
      have hk5 := HK4.out.below hb5 (by omega)
      have hk50 := HK40.out.below hb5 (by omega)
      have HK50 := Lib.hid hk50
      have c0 := hk5.c0
      have c1 := hk5.c1
      have c2 := hk5.c2
      have c3 := hk5.c3
      have d0 := hk50.c0
      have d1 := hk50.c1
      have d2 := hk50.c2
      have d3 := hk50.c3
      have f0 := hk50.frozen 0
      have f1 := hk50.frozen 1
      have f2 := hk50.frozen 2
      have f3 := hk50.frozen 3
      have hlt0 : w.heap.size < w5.heap.size := by omega
      have hlt2 : w2.heap.size < w5.heap.size := by omega
      clear hb5 hk5 hk50
      go_wp2_with fail
      refine bodyPost_ret (res_cell_tmp (e := .int .i64 0) rfl (Blk.put4 HK50.out) rfl rfl) rfl ⟨t, a, c, 0, rfl, ?_, Below.put4_ HB5.out (Nat.le_refl _), HD.out⟩
      refine (HAT.out.keep (w' := put4 w5 w.heap.size _ _ _ _) fun b hb => (put4_block (by have := hb.1; omega)).trans (HB25.out.block b hb.2)).imp fun b hb => ⟨by have := hb.1; omega, ?_⟩
      have := hb.2
      exact Nat.lt_of_lt_of_eq (by omega) put4_size.symm
    · have HD : Hid (Dec bs (.mk 0 0 ⟨#[]⟩ []) 5) := dec_no fun u hu => by
        have e := (pz_one_only (by have := HLN.out; omega) HPZ.out hu).1
        subst e
        exact hf ⟨hu.right, hu.deep, by have := hu.cnt; omega⟩
      have HCC := Lib.hid (HC.out 2 (.inr ⟨hf, rfl⟩))
      clear hf
      go_wp2_with fail
      generalize hW4 : World.alloc w2 _ = w4
      have HB4 : Hid (Below w2.heap.size w2 w4) := by unfold Hid; rw [← hW4]; exact (Below.refl _ _).alloc (Nat.le_refl _) _
      have hk4 : Blk w4 w2.heap.size 26 #[.int .i64 t.kind, .int .i64 t.num, .string t.text, .slice a t.list.length c] := by rw [← hW4]; exact Blk.new w2 26 _
      have hk40 : Blk w4 w.heap.size 26 #[.int .i64 0, .int .i64 0, .string ⟨#[]⟩, .slice none 0 0] := HK2.out.below HB4.out (by omega)
      have hs4 : w4.heap.size = w2.heap.size + 1 := by rw [← hW4]; simp
      have HK4 := Lib.hid hk4
      have HK40 := Lib.hid hk40
      clear hW4 hk4 hk40 c0 c1 c2 c3 f0 f1 f2 f3
      refine (HCC.out w4 HB4.out).mono ?_
      rintro e w5 ⟨rfl, hb5⟩
      have HB25 : Hid (Below w2.heap.size w2 w5) := HB4.out.trans (hb5.mono (by omega))
      have HB5 : Hid (Below w.heap.size w w5) := HBL.out.trans (HB25.out.mono (by omega))
      have hs5 := hb5.size
      have hk5 := HK4.out.below hb5 (by omega)
      have hk50 := HK40.out.below hb5 (by omega)
      have HK50 := Lib.hid hk50
      have c0 := hk5.c0
      have c1 := hk5.c1
      have c2 := hk5.c2
      have c3 := hk5.c3
      have d0 := hk50.c0
      have d1 := hk50.c1
      have d2 := hk50.c2
      have d3 := hk50.c3
      have f0 := hk50.frozen 0
      have f1 := hk50.frozen 1
      have f2 := hk50.frozen 2
      have f3 := hk50.frozen 3
      have hlt0 : w.heap.size < w5.heap.size := by omega
      have hlt2 : w2.heap.size < w5.heap.size := by omega
      clear hb5 hk5 hk50
      go_wp2_with fail
      exact bodyPost_ret (res_cell_tmp (e := .int .i64 5) rfl (Blk.put4 HK50.out) rfl rfl) rfl ⟨.mk 0 0 ⟨#[]⟩ [], none, 0, 5, rfl, at_leaf _ _ _ _ _, Below.put4_ HB5.out (Nat.le_refl _), HD.out⟩
  · have hzz : (z == (n : Int)) = false := beq_eq_false_iff_ne.2 hz
    have HD : Hid (Dec bs (.mk 0 0 ⟨#[]⟩ []) 5) := dec_no fun u hu => by
      rcases HPP.out with ⟨k, e, h1, h2, h3⟩ | ⟨e, h3⟩
      · have := (pz_one_only (by have := HLN.out; rw [List.length_drop]; omega) h3 (by simpa using hu)).2
        have h4 := congrArg List.length this
        rw [List.length_drop] at h4
        have := HLN.out
        simp at h4
        omega
      · exact h3 20000 u [] (by simpa using hu)
    go_wp2_with fail
    exact bodyPost_ret (res_cell_tmp rfl ((Blk.put4 HK2.out).alloc _) rfl rfl) rfl ⟨.mk 0 0 ⟨#[]⟩ [], none, 0, 5, rfl, at_leaf _ _ _ _ _, (Below.put4_ HBL.out (Nat.le_refl _)).alloc (by rw [put4_size]; omega) _, HD.out⟩
end Go.Proofs.Ytkmikpmbnfcbpaa
