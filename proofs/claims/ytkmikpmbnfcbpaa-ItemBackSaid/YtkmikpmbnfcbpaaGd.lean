/- The contract of the reference's right. -/
import Derived.Test.YtkmikpmbnfcbpaaGc
namespace Go.Proofs.Ytkmikpmbnfcbpaa
open Go.RowKit
set_option linter.unusedVariables false
open Tree

def RetQ (w : World) (p : Prop) (e : Ending) (w' : World) : Prop := ∃ b : Bool, e = .returned (.bool b) ∧ (b = true ↔ p) ∧ Below w.heap.size w w'
theorem retQ_no {w w' : World} {p : Prop} (h : ¬ p) (hb : Below w.heap.size w w') : RetQ w p (.returned (.bool false)) w' := ⟨false, rfl, by simp [h], hb⟩
theorem retQ_yes {w w' : World} {p : Prop} (h : p) (hb : Below w.heap.size w w') : RetQ w p (.returned (.bool true)) w' := ⟨true, rfl, by simp [h], hb⟩
theorem rightL_all {l : List Tree} (h : ∀ i (hi : i < l.length), Right l[i]) : RightL l := by
  induction l with
  | nil => trivial
  | cons t r ih => exact ⟨h 0 (by simp), ih fun i hi => h (i + 1) (by simpa using hi)⟩

theorem bytes_some {s : ByteArray} (h : ¬ s = ⟨#[]⟩) : (s.toList == []) = false := by
  obtain ⟨d⟩ := s
  rw [ByteArray.toList_mk]
  simp only [beq_eq_false_iff_ne, ne_eq]
  intro e
  apply h
  congr 1
  exact Array.toList_eq_nil_iff.1 e

set_option maxHeartbeats 2000000 in
theorem right_calls (N : Nat) : ∀ (t : Tree) (a : Option Addr) (c : Nat) (w : World), t.count ≤ N → At w (· < w.heap.size) t a c →
    Calls Try.prog 49 #[val t a c] w (RetQ w (Right t)) := by
  induction N with
  | zero => intro t a c w h _; rw [count_eq] at h; omega
  | succ N ih =>
    intro t a c w hN hA
    rw [at_eq] at hA
    rw [count_eq] at hN
    obtain ⟨hc1, hc2, hl⟩ := hA
    obtain ⟨p, hp⟩ : ∃ p, p = Right t := ⟨_, rfl⟩
    have hpe := right_eq t
    rw [← hp] at hpe ⊢
    have hfe : fields t ↔ ((t.kind = 1 ∨ t.kind = 2 ∨ t.kind = 3) ∧ (t.kind ≠ 1 → t.num = 0) ∧ (t.kind ≠ 2 → t.text = ⟨#[]⟩) ∧ (t.kind ≠ 3 → t.list = [])) := Iff.rfl
    unfold val
    obtain ⟨l, hL⟩ : ∃ l, t.list = l := ⟨_, rfl⟩
    rw [hL] at hc1 hl hN hpe hfe ⊢
    obtain ⟨n, hn⟩ : ∃ n, l.length = n := ⟨_, rfl⟩
    have HN := Lib.hid hn
    rw [hn] at hc1 ⊢
    generalize t.kind = k0 at hfe ⊢
    generalize t.num = n0 at hfe ⊢
    generalize t.text = s0 at hfe ⊢
    have HCL := Lib.hid hN
    have HFE := Lib.hid hfe
    have HPE := Lib.hid hpe
    have hnl : l = [] ↔ n = 0 := by rw [← hn]; exact List.length_eq_zero_iff.symm
    have HNL := Lib.hid hnl
    clear hL hn hN hfe hpe hp hnl
    by_cases hf : fields t
    · have hcase := HFE.out.1 hf
      have HF := Lib.hid hf
      have h3 : ∃ q : Prop, q ∧ ((k0 = 1 ∧ s0 = ⟨#[]⟩ ∧ ¬ ((0 : Int) < (n : Int))) ∨ (k0 = 2 ∧ n0 = 0 ∧ ¬ ((0 : Int) < (n : Int))) ∨ (k0 = 3 ∧ n0 = 0 ∧ s0 = ⟨#[]⟩)) := by
        obtain ⟨h1, h2, h3, h4⟩ := hcase
        refine ⟨True, trivial, ?_⟩
        rcases h1 with h1 | h1 | h1
        · have := HNL.out.1 (h4 (by omega))
          exact .inl ⟨h1, h3 (by omega), by omega⟩
        · have := HNL.out.1 (h4 (by omega))
          exact .inr (.inl ⟨h1, h2 (by omega), by omega⟩)
        · exact .inr (.inr ⟨h1, h2 (by omega), h3 (by omega)⟩)
      clear hcase hf
      obtain ⟨_, _, h3⟩ := h3
      have hz : True := trivial
      rcases h3 with ⟨rfl, rfl, hz⟩ | ⟨rfl, rfl, hz⟩ | ⟨rfl, rfl, rfl⟩
      all_goals go_enter Try.func49, Try.ntmps49
      all_goals go_wp2_with fail
      all_goals
        generalize hW1 : World.alloc w _ = W1
        have hbox : W1.cell? ⟨w.heap.size, 3, none⟩ = some (.slice a n c) := by rw [← hW1, cell_new rfl]; rfl
        have hB1 : Below w.heap.size w W1 := by rw [← hW1]; exact (Below.refl _ _).alloc (Nat.le_refl _) _
        have hs1 : W1.heap.size = w.heap.size + 1 := by rw [← hW1]; simp
        have HB1 := Lib.hid hB1
        clear hW1 hB1 hz
        go_loopw [3] (fun i wr => ∃ q, q ≤ n ∧ i = .int .i64 (q : Nat) ∧ (∀ j (hj : j < l.length), j < q → Right l[j]) ∧ Below W1.heap.size W1 wr) (fun i _ => n - (intOf i).toNat)
        case atStart => exact ⟨0, Nat.zero_le _, rfl, fun j _ hj => by omega, Below.refl _ _⟩
        case round =>
          obtain ⟨q, hq, rfl, hm, hbl⟩ := hrel
          have HMM := Lib.hid hm
          have HBL := Lib.hid hbl
          have hsz := hbl.size
          have hboxr : wr.cell? ⟨w.heap.size, 3, none⟩ = some (.slice a n c) := (hbl.cell (p := ⟨w.heap.size, 3, none⟩) (by show w.heap.size < _; omega)).trans hbox
          have HBW : Hid (Below w.heap.size w wr) := HB1.out.trans (hbl.mono (by omega))
          clear hm hbl
          by_cases hlt : q < n
          · first
            | (exfalso; omega)
            | (rcases hl with h0 | ⟨b, off, rfl, hb, hAL⟩
               · rw [h0] at HN; have := HN.out; simp at this; omega
               have hq' : q < l.length := by rw [HN.out]; exact hlt
               obtain ⟨a', c', e0, e1, e2, e3, hAt⟩ := AtL.get l b off hAL q hq'
               have cell : ∀ o v, w.cell? ⟨b, o, none⟩ = some v → wr.cell? ⟨b, o, none⟩ = some v := fun o v h => (HBW.out.cell (p := ⟨b, o, none⟩) hb).trans h
               have f0 := cell _ _ e0
               have f1 := cell _ _ e1
               have f2 := cell _ _ e2
               have f3 := cell _ _ e3
               have hct := countL_take hq'
               have hcl2 := countL_le l (q + 1)
               have HIH : Hid (∀ W, W = wr → Calls Try.prog 49 #[val l[q] a' c'] W (RetQ W (Right l[q]))) := fun W e => by
                 subst e
                 exact ih _ _ _ _ (by have := HCL.out; omega) ((hAt.below HBW.out).more HBW.out.size)
               unfold val at HIH
               have HQ' := Lib.hid hq'
               clear hAL e0 e1 e2 e3 hAt cell hct hcl2
               go_wp2_with fail
               refine (HIH.out _ rfl).mono ?_
               rintro e w2 ⟨br, rfl, hbr, hb2⟩
               have HB2 : Hid (Below W1.heap.size W1 w2) := HBL.out.trans (hb2.mono hsz)
               have HBR := Lib.hid hbr
               clear hb2 hbr
               cases br with
               | true =>
                 go_wp2_with fail
                 go_roundw
                 case rel => exact ⟨q + 1, by omega, by go_num, fun j hj hjq => by
                   rcases Nat.lt_or_ge j q with h | h
                   · exact HMM.out j hj h
                   · have e : j = q := by omega
                     subst e
                     exact HBR.out.1 (by simp), HB2.out⟩
                 case measure => simp [intOf]; omega
               | false =>
                 have hno : ¬ p := fun hp => by
                   have h1 := rightL_mem (HPE.out.1 hp).2 l[q] (List.getElem_mem HQ'.out)
                   have := HBR.out.2 h1
                   simp at this
                 have HNO := Lib.hid hno
                 clear hno
                 go_wp2_with fail
                 try rw [Exit.noGoto_ret]
                 go_ret
                 exact retQ_no HNO.out (HB1.out.trans (HB2.out.mono (by omega))))
          · obtain rfl : q = n := by omega
            have hyes : p := HPE.out.2 ⟨HF.out, rightL_all fun j hj => HMM.out j hj (by rw [← HN.out]; exact hj)⟩
            have HYES := Lib.hid hyes
            clear hyes
            go_wp2_with fail
            go_ret
            exact retQ_yes HYES.out HBW.out
    · have HF := Lib.hid hf
      have hno : ¬ p := fun hp => hf (HPE.out.1 hp).1
      have HNO := Lib.hid hno
      have h3 : k0 < 1 ∨ 3 < k0 ∨ (k0 = 1 ∧ (s0.toList == []) = false) ∨ (k0 = 1 ∧ s0 = ⟨#[]⟩ ∧ (0 : Int) < (n : Int)) ∨ (k0 = 2 ∧ n0 ≠ 0) ∨ (k0 = 2 ∧ n0 = 0 ∧ (0 : Int) < (n : Int)) ∨ (k0 = 3 ∧ n0 ≠ 0) ∨ (k0 = 3 ∧ n0 = 0 ∧ (s0.toList == []) = false) := by
        have hx : ¬ ((k0 = 1 ∨ k0 = 2 ∨ k0 = 3) ∧ (k0 ≠ 1 → n0 = 0) ∧ (k0 ≠ 2 → s0 = ⟨#[]⟩) ∧ (k0 ≠ 3 → l = [])) := fun h => hf (HFE.out.2 h)
        by_cases e1 : k0 < 1
        · exact .inl e1
        by_cases e2 : 3 < k0
        · exact .inr (.inl e2)
        have e3 : k0 = 1 ∨ k0 = 2 ∨ k0 = 3 := by omega
        by_cases es : s0 = ⟨#[]⟩ <;> by_cases en : n0 = 0 <;> by_cases el : (0 : Int) < (n : Int)
        all_goals rcases e3 with e3 | e3 | e3
        all_goals first
          | exact .inr (.inr (.inl ⟨e3, bytes_some es⟩))
          | exact .inr (.inr (.inr (.inl ⟨e3, es, el⟩)))
          | exact .inr (.inr (.inr (.inr (.inl ⟨e3, en⟩))))
          | exact .inr (.inr (.inr (.inr (.inr (.inl ⟨e3, en, el⟩)))))
          | exact .inr (.inr (.inr (.inr (.inr (.inr (.inl ⟨e3, en⟩))))))
          | exact .inr (.inr (.inr (.inr (.inr (.inr (.inr ⟨e3, en, bytes_some es⟩))))))
          | exact (hx ⟨.inl e3, fun h => absurd e3 h, fun _ => es, fun _ => HNL.out.2 (by omega)⟩).elim
          | exact (hx ⟨.inr (.inl e3), fun _ => en, fun h => absurd e3 h, fun _ => HNL.out.2 (by omega)⟩).elim
          | exact (hx ⟨.inr (.inr e3), fun _ => en, fun _ => es, fun h => absurd e3 h⟩).elim
      clear hf hno
      rcases h3 with h | h | ⟨rfl, h⟩ | ⟨rfl, rfl, h⟩ | ⟨rfl, h⟩ | ⟨rfl, rfl, h⟩ | ⟨rfl, h⟩ | ⟨rfl, rfl, h⟩
      all_goals go_enter Try.func49, Try.ntmps49
      all_goals go_wp2_with fail
      all_goals go_ret
      all_goals exact retQ_no HNO.out ((Below.refl _ _).alloc (Nat.le_refl _) _)
end Go.Proofs.Ytkmikpmbnfcbpaa
