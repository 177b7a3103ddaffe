/- ItemWrites: the walk. -/
import Derived.Test.YtkmikpmbnfcbpaaGt
namespace Go.Proofs.Ytkmikpmbnfcbpaa
open Go.RowKit Go.Lib
set_option linter.unusedVariables false
open Tree Anyv

theorem enc_le : ∀ N, ∀ t : Tree, t.count ≤ N → (enc t).length ≤ 9 * t.count + t.letters := by
  intro N
  induction N with
  | zero => intro t h; rw [count_eq] at h; omega
  | succ N ih =>
    intro t h
    have hl : ∀ l : List Tree, countL l ≤ N → (encL l).length ≤ 9 * countL l + lettersL l := by
      intro l
      induction l with
      | nil => intro _; simp [encL]
      | cons u r ih2 =>
        intro h
        simp only [countL] at h
        have h1 := ih u (by omega)
        have h2 := ih2 (by omega)
        simp only [encL, List.length_append, countL, lettersL]; omega
    rw [count_eq] at h
    have h1 := hl t.list (by omega)
    rw [enc_eq, count_eq, letters_eq]
    simp only [List.length_cons]
    split
    · rw [be_len]; omega
    · split
      · rw [List.length_append, be_len, txt_len]; omega
      · rw [List.length_append, be_len]; omega

set_option maxHeartbeats 4000000 in
theorem walk_itemWrites (t : Tree) (a : Option Addr) (c : Nat) (w : World) (hA : At w (· < w.heap.size) t a c) (hF : Wf t) (hbulk : (t.count + t.letters) ≤ 1048576) :
    Calls Try.prog 5 #[val t a c] w fun e w' => e = .returned (.bool true) ∧ Below w.heap.size w w' := by
  have hN : t.count ≤ 1000000000 := by omega
  have hlen : (enc t).length ≤ 100000000000 := by have := enc_le t.count t (Nat.le_refl _); omega
  have hbx := boxed (w := w) (k := t.kind) (n := t.num) (s := t.text) (L := .slice a t.list.length c)
  generalize hW : w.alloc (.cells #[.int .i64 t.kind, .int .i64 t.num, .string t.text, .slice a t.list.length c] 26) = W1 at hbx
  have hA1 : At W1 (· < W1.heap.size) t a c := by rw [← hW]; exact at_alloc hA _
  have hb1 : Below w.heap.size w W1 := by rw [← hW]; exact (Below.refl _ _).alloc (Nat.le_refl _) _
  have hg : w.heap.size < W1.heap.size := hbx.lt
  have HBX := Lib.hid hbx
  have HB1 := Lib.hid hb1
  have HWW := Lib.hid hW
  have HA := Lib.hid hA1
  have HLONG : Hid (Calls Try.prog 16 #[val t a c] W1 (RetQ W1 (Long t))) := long16 t a c W1 hA1 hN
  have HKN : Hid (∀ W, Calls Try.prog 12 #[] W (Ret1 W (.bool true))) := fun W => known12 W
  have HC24 : Hid (∀ r, (Fits t 20 ∧ r = 0) ∨ (¬ Fits t 20 ∧ r = 2) → ∀ W, Below W1.heap.size W1 W → Calls Try.prog 24 #[val t a c] W (Ret1 W (.int .i64 r))) := fun r h W hb => check24 t a c W r (at_later hA1 hb) h
  have HC25 : Hid (∀ r, (Fits t 20 ∧ r = 0) ∨ (¬ Fits t 20 ∧ r = 2) → ∀ W, Below W1.heap.size W1 W → Calls Try.prog 25 #[val t a c] W (Ret1 W (.int .i64 r))) := fun r h W hb => refCheck25 t a c W r (at_later hA1 hb) hN h
  have HE1 : Hid (Fits t 20 → ∀ W, Below W1.heap.size W1 W → Calls Try.prog 18 #[val t a c] W (RetB2 W (enc t))) := fun hf W hb => encode18_yes t a c W (at_later hA1 hb) hf hlen
  have HE2 : Hid (Fits t 20 → ∀ W, Below W1.heap.size W1 W → Calls Try.prog 23 #[val t a c] W (RetB2 W (enc t))) := fun hf W hb => refEncode23_yes t a c W (at_later hA1 hb) hf hlen
  have HE3 : Hid (¬ Fits t 20 → ∀ W, Below W1.heap.size W1 W → Calls Try.prog 18 #[val t a c] W (Ret1 W (.tuple #[.slice none 0 0, .int .i64 2]))) := fun hf W hb => encode18_no t a c W (at_later hA1 hb) hf
  have HE4 : Hid (¬ Fits t 20 → ∀ W, Below W1.heap.size W1 W → Calls Try.prog 23 #[val t a c] W (Ret1 W (.tuple #[.slice none 0 0, .int .i64 2]))) := fun hf W hb => refEncode23_no t a c W (at_later hA1 hb) hN hf
  unfold val at HLONG HC24 HC25 HE1 HE2 HE3 HE4 ⊢
  obtain ⟨en, hen⟩ : ∃ en, (enc t).length = en := ⟨_, rfl⟩
  have HEN := Lib.hid hen
  clear hA hA1 hbx hb1 hW hbulk hlen hen
  go_enter Try.func5, Try.ntmps5
  go_wp2_with fail
  rw [HWW.out]
  refine HLONG.out.mono ?_
  rintro e w2 ⟨br, rfl, _, hb2⟩
  have HB2 := Lib.hid hb2
  have HK2 := Lib.hid (HBX.out.below hb2 hg)
  have hs2 := hb2.size
  have hd0 := HK2.out.c0
  have hd1 := HK2.out.c1
  have hd2 := HK2.out.c2
  have hd3 := HK2.out.c3
  have hg2 : w.heap.size < w2.heap.size := by omega
  clear hb2
  cases br with
  | true =>
    go_wp2_with fail
    refine (HKN.out _).mono ?_
    rintro e w3 ⟨rfl, hb3⟩
    have HB3 : Hid (Below w.heap.size w w3) := HB1.out.trans ((HB2.out.trans (hb3.mono hs2)).mono (by omega))
    clear hb3
    go_wp2_with fail
    go_ret
    exact ⟨rfl, HB3.out⟩
  | false =>
    by_cases hf : Fits t 20
    · go_wp2_with fail
      refine (HE1.out hf w2 HB2.out).mono ?_
      rintro e w3 ⟨v3, rfl, hO3, hb3⟩
      obtain ⟨A3, c3, rfl, _, _, hy3⟩ := hO3.form_ HEN.out
      have HB3 : Hid (Below W1.heap.size W1 w3) := HB2.out.trans (hb3.mono hs2)
      have HY3 := Lib.hid hy3
      have HK3 := Lib.hid (HK2.out.below hb3 hg2)
      have hs3 := hb3.size
      have he0 := HK3.out.c0
      have he1 := HK3.out.c1
      have he2 := HK3.out.c2
      have he3 := HK3.out.c3
      have hg3 : w.heap.size < w3.heap.size := by omega
      clear hb3 hO3 hy3
      go_wp2_with fail
      refine (HE2.out hf w3 HB3.out).mono ?_
      rintro e w4 ⟨v4, rfl, hO4, hb4⟩
      obtain ⟨A4, c4, rfl, _, _, hy4⟩ := hO4.form_ HEN.out
      have HB4 : Hid (Below W1.heap.size W1 w4) := HB3.out.trans (hb4.mono HB3.out.size)
      have HY4 := Lib.hid hy4
      have HY34 : Hid (Byt w4 w4.heap.size A3 en (enc t)) := (HY3.out.below hb4).more hb4.size
      have HK4 := Lib.hid (HK3.out.below hb4 hg3)
      clear hb4 hO4 hy4
      have hS0 := held_of HK4.out ((Below.refl w4.heap.size w4).drew)
      have H22 : Hid (∀ x x' W, Below w4.heap.size w4 W → Calls Try.prog 22 #[.slice A3 en x, .slice A4 en x'] W _) := fun x x' W hb => calls_held (Q := fun e => e = .returned (.bool true)) HK4.out hb (same_held HY34.out HY4.out hb)
      have H24 : Hid (∀ W, Below w4.heap.size w4 W → Calls Try.prog 24 #[.agg #[.int .i64 t.kind, .int .i64 t.num, .string t.text, .slice a t.list.length c]] W _) := fun W hb => calls_held (Q := fun e => e = .returned (.int .i64 0)) HK4.out hb (HC24.out 0 (.inl ⟨hf, rfl⟩) W (HB4.out.trans (hb.mono HB4.out.size)))
      have H25 : Hid (∀ W, Below w4.heap.size w4 W → Calls Try.prog 25 #[.agg #[.int .i64 t.kind, .int .i64 t.num, .string t.text, .slice a t.list.length c]] W _) := fun W hb => calls_held (Q := fun e => e = .returned (.int .i64 0)) HK4.out hb (HC25.out 0 (.inl ⟨hf, rfl⟩) W (HB4.out.trans (hb.mono HB4.out.size)))
      have H12 : Hid (∀ W, Below w4.heap.size w4 W → Calls Try.prog 12 #[] W _) := fun W hb => calls_held (Q := fun e => e = .returned (.bool true)) HK4.out hb (HKN.out W)
      clear hf
      go_wp2_with fail
      go_region_held3 (fun w' => Below w4.heap.size w4 w' ∧ w'.cell? ⟨w.heap.size, 0, none⟩ = some (.int .i64 t.kind) ∧ w'.cell? ⟨w.heap.size, 1, none⟩ = some (.int .i64 t.num) ∧ w'.cell? ⟨w.heap.size, 2, none⟩ = some (.string t.text) ∧ w'.cell? ⟨w.heap.size, 3, none⟩ = some (.slice a t.list.length c)) (assumption) (first
        | (go_at_call 22; refine (H22.out _ _ _ ?_).mono ?_; (go_split_ands; assumption); rintro e w5 ⟨rfl, hS5⟩)
        | (go_at_call 24; refine (H24.out _ ?_).mono ?_; (go_split_ands; assumption); rintro e w5 ⟨rfl, hS5⟩)
        | (go_at_call 25; refine (H25.out _ ?_).mono ?_; (go_split_ands; assumption); rintro e w5 ⟨rfl, hS5⟩)
        | (go_at_call 12; refine (H12.out _ ?_).mono ?_; (go_split_ands; assumption); rintro e w5 ⟨rfl, hS5⟩))
      all_goals go_wp2_with fail
      all_goals go_ret
      all_goals
        refine ⟨rfl, HB1.out.trans ((HB4.out.trans (Below.mono ?_ HB4.out.size)).mono HB1.out.size)⟩
        go_split_ands
        assumption
    · go_wp2_with fail
      refine (HE3.out hf w2 HB2.out).mono ?_
      rintro e w3 ⟨rfl, hb3⟩
      have HB3 : Hid (Below W1.heap.size W1 w3) := HB2.out.trans (hb3.mono hs2)
      have HK3 := Lib.hid (HK2.out.below hb3 hg2)
      have hs3 := hb3.size
      have he0 := HK3.out.c0
      have he1 := HK3.out.c1
      have he2 := HK3.out.c2
      have he3 := HK3.out.c3
      have hg3 : w.heap.size < w3.heap.size := by omega
      clear hb3
      go_wp2_with fail
      refine (HE4.out hf w3 HB3.out).mono ?_
      rintro e w4 ⟨rfl, hb4⟩
      have HB4 : Hid (Below W1.heap.size W1 w4) := HB3.out.trans (hb4.mono HB3.out.size)
      have HK4 := Lib.hid (HK3.out.below hb4 hg3)
      clear hb4
      have hS0 := held_of HK4.out ((Below.refl w4.heap.size w4).drew)
      have H22 : Hid (∀ x x' W, Below w4.heap.size w4 W → Calls Try.prog 22 #[.slice none 0 x, .slice none 0 x'] W _) := fun x x' W hb => calls_held (Q := fun e => e = .returned (.bool true)) HK4.out hb (same_held Byt.nil Byt.nil hb)
      have H24 : Hid (∀ W, Below w4.heap.size w4 W → Calls Try.prog 24 #[.agg #[.int .i64 t.kind, .int .i64 t.num, .string t.text, .slice a t.list.length c]] W _) := fun W hb => calls_held (Q := fun e => e = .returned (.int .i64 2)) HK4.out hb (HC24.out 2 (.inr ⟨hf, rfl⟩) W (HB4.out.trans (hb.mono HB4.out.size)))
      have H25 : Hid (∀ W, Below w4.heap.size w4 W → Calls Try.prog 25 #[.agg #[.int .i64 t.kind, .int .i64 t.num, .string t.text, .slice a t.list.length c]] W _) := fun W hb => calls_held (Q := fun e => e = .returned (.int .i64 2)) HK4.out hb (HC25.out 2 (.inr ⟨hf, rfl⟩) W (HB4.out.trans (hb.mono HB4.out.size)))
      have H12 : Hid (∀ W, Below w4.heap.size w4 W → Calls Try.prog 12 #[] W _) := fun W hb => calls_held (Q := fun e => e = .returned (.bool true)) HK4.out hb (HKN.out W)
      clear hf
      go_wp2_with fail
      go_region_held3 (fun w' => Below w4.heap.size w4 w' ∧ w'.cell? ⟨w.heap.size, 0, none⟩ = some (.int .i64 t.kind) ∧ w'.cell? ⟨w.heap.size, 1, none⟩ = some (.int .i64 t.num) ∧ w'.cell? ⟨w.heap.size, 2, none⟩ = some (.string t.text) ∧ w'.cell? ⟨w.heap.size, 3, none⟩ = some (.slice a t.list.length c)) (assumption) (first
        | (go_at_call 22; refine (H22.out _ _ _ ?_).mono ?_; (go_split_ands; assumption); rintro e w5 ⟨rfl, hS5⟩)
        | (go_at_call 24; refine (H24.out _ ?_).mono ?_; (go_split_ands; assumption); rintro e w5 ⟨rfl, hS5⟩)
        | (go_at_call 25; refine (H25.out _ ?_).mono ?_; (go_split_ands; assumption); rintro e w5 ⟨rfl, hS5⟩)
        | (go_at_call 12; refine (H12.out _ ?_).mono ?_; (go_split_ands; assumption); rintro e w5 ⟨rfl, hS5⟩))
      all_goals go_wp2_with fail
      all_goals go_ret
      all_goals
        refine ⟨rfl, HB1.out.trans ((HB4.out.trans (Below.mono ?_ HB4.out.size)).mono HB1.out.size)⟩
        go_split_ands
        assumption
end Go.Proofs.Ytkmikpmbnfcbpaa
