/- Contracts of the reference's Count and Deep. -/
import Derived.Test.YtkmikpmbnfcbpaaGb
namespace Go.Proofs.Ytkmikpmbnfcbpaa
open Go.RowKit
set_option linter.unusedVariables false
open Tree

theorem countL_take {l : List Tree} {k : Nat} (h : k < l.length) : countL (l.take (k + 1)) = countL (l.take k) + l[k].count := by
  rw [List.take_succ_eq_append_getElem h, countL_append]; simp [countL]
theorem countL_le (l : List Tree) (k : Nat) : countL (l.take k) ≤ countL l := by
  conv => rhs; rw [← List.take_append_drop k l, countL_append]
  omega

set_option maxHeartbeats 1000000 in
theorem count_calls (N : Nat) : ∀ (t : Tree) (a : Option Addr) (c : Nat) (w : World), t.count ≤ N → N ≤ 1000000000 → At w (· < w.heap.size) t a c →
    Calls Try.prog 41 #[val t a c] w fun e w' => e = .returned (.int .i64 t.count) ∧ Below w.heap.size w w' := by
  induction N with
  | zero => intro t a c w h _ _; rw [count_eq] at h; omega
  | succ N ih =>
    intro t a c w hN hM hA
    rw [at_eq] at hA
    rw [count_eq] at hN ⊢
    obtain ⟨hc1, hc2, hl⟩ := hA
    unfold val
    obtain ⟨l, hL⟩ : ∃ l, t.list = l := ⟨_, rfl⟩
    rw [hL] at hc1 hl hN ⊢
    obtain ⟨n, hn⟩ : ∃ n, l.length = n := ⟨_, rfl⟩
    have HN := Lib.hid hn
    rw [hn] at hc1 ⊢
    generalize t.kind = k0
    generalize t.num = n0
    generalize t.text = s0
    have HCL := Lib.hid hN
    have hcl : countL l ≤ 1000000000 := by omega
    clear hL hn hN
    go_enter Try.func41, Try.ntmps41
    go_wp2_with fail
    obtain ⟨W1, hW1⟩ : ∃ W1, W1 = w.alloc (.cells #[.int .i64 k0, .int .i64 n0, .string s0, .slice a n c] 26) := ⟨_, rfl⟩
    have hbox : W1.cell? ⟨w.heap.size, 3, none⟩ = some (.slice a n c) := by rw [hW1, cell_new rfl]; rfl
    have hB1 : Below w.heap.size w W1 := by rw [hW1]; exact (Below.refl _ _).alloc (Nat.le_refl _) _
    have hs1 : W1.heap.size = w.heap.size + 1 := by rw [hW1]; simp
    have HB1 := Lib.hid hB1
    rw [← hW1]
    clear hW1 hB1
    go_loopw [3, 4] (fun u i wr => ∃ m q, q ≤ n ∧ u = .int .i64 (m : Nat) ∧ i = .int .i64 (q : Nat) ∧ m = 1 + countL (l.take q) ∧ Below W1.heap.size W1 wr) (fun _ i _ => n - (intOf i).toNat)
    case atStart => exact ⟨1, 0, Nat.zero_le _, rfl, rfl, by simp [countL], Below.refl _ _⟩
    case round =>
      obtain ⟨m, q, hq, rfl, rfl, hm, hbl⟩ := hrel
      have HMM := Lib.hid hm
      have HBL := Lib.hid hbl
      have hsz := hbl.size
      have hboxr : wr.cell? ⟨w.heap.size, 3, none⟩ = some (.slice a n c) := (hbl.cell (p := ⟨w.heap.size, 3, none⟩) (by show w.heap.size < _; omega)).trans hbox
      have HBW : Hid (Below w.heap.size w wr) := HB1.out.trans (hbl.mono (by omega))
      clear hm hbl
      by_cases hlt : q < n
      · rcases hl with h0 | ⟨b, off, rfl, hb, hAL⟩
        · rw [h0] at HN; have := HN.out; simp at this; omega
        have hq' : q < l.length := by rw [HN.out]; exact hlt
        obtain ⟨a', c', e0, e1, e2, e3, hAt⟩ := AtL.get l b off hAL q hq'
        have cell : ∀ o v, w.cell? ⟨b, o, none⟩ = some v → wr.cell? ⟨b, o, none⟩ = some v := fun o v h => (HBW.out.cell (p := ⟨b, o, none⟩) hb).trans h
        have f0 := cell _ _ e0
        have f1 := cell _ _ e1
        have f2 := cell _ _ e2
        have f3 := cell _ _ e3
        have hct := countL_take hq'
        have hcl2 := countL_le l (q + 1)
        have HIH : Hid (∀ W, W = wr → Calls Try.prog 41 #[val l[q] a' c'] W fun e w' => e = .returned (.int .i64 l[q].count) ∧ Below W.heap.size W w') := fun W e => by
          subst e
          exact ih _ _ _ _ (by have := HCL.out; omega) (by omega) ((hAt.below HBW.out).more HBW.out.size)
        obtain ⟨x, hx⟩ : ∃ x, l[q].count = x := ⟨_, rfl⟩
        rw [hx] at hct HIH
        unfold val at HIH
        have HCT := Lib.hid hct
        have hmb : m + x ≤ 1000000001 := by have := HMM.out; omega
        clear hAL e0 e1 e2 e3 hAt cell hct hcl2
        go_wp2_with fail
        refine (HIH.out _ rfl).mono ?_
        rintro e w2 ⟨rfl, hb2⟩
        have HB2 : Hid (Below W1.heap.size W1 w2) := HBL.out.trans (hb2.mono hsz)
        clear hb2
        go_wp2_with fail
        go_roundw
        case rel => exact ⟨m + x, q + 1, by omega, by go_num, by go_num, by rw [HCT.out, HMM.out]; omega, HB2.out⟩
        case measure => simp [intOf]; omega
      · obtain rfl : q = n := by omega
        have HE : Hid (m = 1 + countL l) := by
          unfold Hid
          rw [HMM.out, List.take_of_length_le (by rw [HN.out]; exact Nat.le_refl _)]
        go_wp2_with fail
        go_ret
        exact ⟨by rw [HE.out]; rfl, HBW.out⟩

theorem depthL_take {l : List Tree} {k : Nat} (h : k < l.length) : depthL (l.take (k + 1)) = max (depthL (l.take k)) l[k].depth := by
  rw [List.take_succ_eq_append_getElem h, depthL_append]; simp [depthL]
theorem depthL_le (l : List Tree) (k : Nat) : depthL (l.take k) ≤ depthL l := by
  conv => rhs; rw [← List.take_append_drop k l, depthL_append]
  omega
mutual
theorem depth_count : ∀ t : Tree, t.depth ≤ t.count
  | .mk k n s l => by have := depthL_count l; simp only [depth, count]; omega
theorem depthL_count : ∀ l : List Tree, depthL l ≤ countL l
  | [] => by simp [depthL, countL]
  | t :: r => by have := depth_count t; have := depthL_count r; simp only [depthL, countL]; omega
end

set_option maxHeartbeats 1000000 in
theorem deep_calls (N : Nat) : ∀ (t : Tree) (a : Option Addr) (c : Nat) (w : World), t.count ≤ N → N ≤ 1000000000 → At w (· < w.heap.size) t a c →
    Calls Try.prog 40 #[val t a c] w fun e w' => e = .returned (.int .i64 t.depth) ∧ Below w.heap.size w w' := by
  induction N with
  | zero => intro t a c w h _ _; rw [count_eq] at h; omega
  | succ N ih =>
    intro t a c w hN hM hA
    rw [at_eq] at hA
    rw [count_eq] at hN
    rw [depth_eq]
    obtain ⟨hc1, hc2, hl⟩ := hA
    unfold val
    obtain ⟨l, hL⟩ : ∃ l, t.list = l := ⟨_, rfl⟩
    rw [hL] at hc1 hl hN ⊢
    obtain ⟨n, hn⟩ : ∃ n, l.length = n := ⟨_, rfl⟩
    have HN := Lib.hid hn
    rw [hn] at hc1 ⊢
    generalize t.kind = k0
    generalize t.num = n0
    generalize t.text = s0
    have HCL := Lib.hid hN
    have hdl : depthL l ≤ 1000000000 := by have := depthL_count l; omega
    clear hL hn hN
    go_enter Try.func40, Try.ntmps40
    go_wp2_with fail
    obtain ⟨W1, hW1⟩ : ∃ W1, W1 = w.alloc (.cells #[.int .i64 k0, .int .i64 n0, .string s0, .slice a n c] 26) := ⟨_, rfl⟩
    have hbox : W1.cell? ⟨w.heap.size, 3, none⟩ = some (.slice a n c) := by rw [hW1, cell_new rfl]; rfl
    have hB1 : Below w.heap.size w W1 := by rw [hW1]; exact (Below.refl _ _).alloc (Nat.le_refl _) _
    have hs1 : W1.heap.size = w.heap.size + 1 := by rw [hW1]; simp
    have HB1 := Lib.hid hB1
    rw [← hW1]
    clear hW1 hB1
    go_loopw [3, 4] (fun u i wr => ∃ m q, q ≤ n ∧ u = .int .i64 (m : Nat) ∧ i = .int .i64 (q : Nat) ∧ m = depthL (l.take q) ∧ Below W1.heap.size W1 wr) (fun _ i _ => n - (intOf i).toNat)
    case atStart => exact ⟨0, 0, Nat.zero_le _, rfl, rfl, by simp [depthL], Below.refl _ _⟩
    case round =>
      obtain ⟨m, q, hq, rfl, rfl, hm, hbl⟩ := hrel
      have HMM := Lib.hid hm
      have HBL := Lib.hid hbl
      have hsz := hbl.size
      have hboxr : wr.cell? ⟨w.heap.size, 3, none⟩ = some (.slice a n c) := (hbl.cell (p := ⟨w.heap.size, 3, none⟩) (by show w.heap.size < _; omega)).trans hbox
      have HBW : Hid (Below w.heap.size w wr) := HB1.out.trans (hbl.mono (by omega))
      have hmd : m ≤ 1000000000 := by have := depthL_le l q; omega
      clear hm hbl
      by_cases hlt : q < n
      · rcases hl with h0 | ⟨b, off, rfl, hb, hAL⟩
        · rw [h0] at HN; have := HN.out; simp at this; omega
        have hq' : q < l.length := by rw [HN.out]; exact hlt
        obtain ⟨a', c', e0, e1, e2, e3, hAt⟩ := AtL.get l b off hAL q hq'
        have cell : ∀ o v, w.cell? ⟨b, o, none⟩ = some v → wr.cell? ⟨b, o, none⟩ = some v := fun o v h => (HBW.out.cell (p := ⟨b, o, none⟩) hb).trans h
        have f0 := cell _ _ e0
        have f1 := cell _ _ e1
        have f2 := cell _ _ e2
        have f3 := cell _ _ e3
        have hct := countL_take hq'
        have hdt := depthL_take hq'
        have hcl2 := countL_le l (q + 1)
        have hdl2 := depthL_le l (q + 1)
        have HIH : Hid (∀ W, W = wr → Calls Try.prog 40 #[val l[q] a' c'] W fun e w' => e = .returned (.int .i64 l[q].depth) ∧ Below W.heap.size W w') := fun W e => by
          subst e
          exact ih _ _ _ _ (by have := HCL.out; omega) (by omega) ((hAt.below HBW.out).more HBW.out.size)
        obtain ⟨x, hx⟩ : ∃ x, l[q].depth = x := ⟨_, rfl⟩
        rw [hx] at hdt HIH
        unfold val at HIH
        have HDT := Lib.hid hdt
        have hxb : x ≤ 1000000000 := by omega
        clear hAL e0 e1 e2 e3 hAt cell hct hcl2 hdt hdl2
        go_wp2_with fail
        refine (HIH.out _ rfl).mono ?_
        rintro e w2 ⟨rfl, hb2⟩
        have HB2 : Hid (Below W1.heap.size W1 w2) := HBL.out.trans (hb2.mono hsz)
        clear hb2
        go_wp2_with fail
        have hmax : (if m < x then (x : Int) else (m : Int)) = ((max m x : Nat) : Int) := by
          by_cases h : m < x
          · rw [if_pos h, Nat.max_eq_right (by omega)]
          · rw [if_neg h, Nat.max_eq_left (by omega)]
        have HMAX := Lib.hid hmax
        clear hmax
        go_roundw
        case rel => exact ⟨max m x, q + 1, by omega, by rw [HMAX.out], by go_num, by rw [HDT.out, HMM.out], HB2.out⟩
        case measure => simp [intOf]; omega
      · obtain rfl : q = n := by omega
        have HE : Hid (m = depthL l) := by
          unfold Hid
          rw [HMM.out, List.take_of_length_le (by rw [HN.out]; exact Nat.le_refl _)]
        go_wp2_with fail
        go_ret
        exact ⟨by rw [← HE.out]; rfl, HBW.out⟩
end Go.Proofs.Ytkmikpmbnfcbpaa
