/- Plain laws of digits, sums and clipped sums. -/
import Derived.Test.YtgbombimkpkbpaaFk
namespace Go.Proofs.Ytgbombimkpkbpaa

theorem digs_ne (n : Nat) : digs n ≠ [] := fun h => by have := (digs_len n).1; rw [h] at this; simp at this
theorem ofNat_toNat {d : Nat} (h : d < 10) : (UInt8.ofNat (48 + d)).toNat = 48 + d := by
  rw [UInt8.toNat_ofNat']; omega
theorem digs_isD (n : Nat) : ∀ c ∈ digs n, isD c = true := by
  induction n using Nat.strongRecOn with
  | _ n ih =>
    rw [digs]
    by_cases h : n < 10
    · rw [if_pos h]; intro c hc; rw [List.mem_singleton.1 hc]; simp only [isD, ofNat_toNat h, decide_eq_true_eq]; omega
    · rw [if_neg h]
      intro c hc
      rcases List.mem_append.1 hc with hc | hc
      · exact ih (n / 10) (by omega) c hc
      · rw [List.mem_singleton.1 hc]; simp only [isD, ofNat_toNat (show n % 10 < 10 by omega), decide_eq_true_eq]; omega
theorem val_digs (n : Nat) : val (digs n) = n := by
  induction n using Nat.strongRecOn with
  | _ n ih =>
    rw [digs]
    by_cases h : n < 10
    · rw [if_pos h]; show 10 * 0 + ((UInt8.ofNat (48 + n)).toNat - 48) = n; rw [ofNat_toNat h]; omega
    · rw [if_neg h, val_snoc, ih (n / 10) (by omega), ofNat_toNat (by omega)]; omega
theorem digs_head (n : Nat) (h : (digs n).head? = some 48) : n = 0 := by
  induction n using Nat.strongRecOn with
  | _ n ih =>
    rw [digs] at h
    by_cases hn : n < 10
    · rw [if_pos hn] at h
      simp only [List.head?_cons, Option.some.injEq] at h
      have := congrArg UInt8.toNat h
      rw [ofNat_toNat hn] at this
      have e : (48 : UInt8).toNat = 48 := rfl
      omega
    · rw [if_neg hn] at h
      have h' : (digs (n / 10)).head? = some 48 := by
        cases hd : digs (n / 10) with
        | nil => exact absurd hd (digs_ne _)
        | cons c l => rw [hd] at h; simpa using h
      have := ih (n / 10) (by omega) h'
      omega
theorem digs_val (l : List UInt8) (hn : l ≠ []) (hd : ∀ c ∈ l, isD c = true) (hh : ¬ (l.head? = some 48 ∧ 1 < l.length)) : digs (val l) = l := by
  have key : ∀ k, 0 < k → k ≤ l.length → digs (val (l.take k)) = l.take k := by
    intro k
    induction k with
    | zero => intro h; omega
    | succ k ih =>
      intro _ hk
      have hc : isD (l.getD k 0) = true := hd _ (by rw [List.getD_eq_getElem?_getD, List.getElem?_eq_getElem hk]; exact List.getElem_mem _)
      have hb := isD_bd hc
      have hcc : UInt8.ofNat (48 + ((l.getD k 0).toNat - 48)) = l.getD k 0 := by
        rw [show 48 + ((l.getD k 0).toNat - 48) = (l.getD k 0).toNat by omega]; exact UInt8.ofNat_toNat
      rw [take_snoc l k hk, val_snoc]
      by_cases h0 : k = 0
      · subst h0
        have hz : val (l.take 0) = 0 := rfl
        rw [hz, digs, if_pos (by omega), show 48 + (10 * 0 + ((l.getD 0 0).toNat - 48)) = 48 + ((l.getD 0 0).toNat - 48) by omega, hcc]
        rfl
      · have hv := ih (by omega) (by omega)
        have hpos : 0 < val (l.take k) := by
          rcases Nat.eq_zero_or_pos (val (l.take k)) with e | e
          · rw [e] at hv
            exfalso
            apply hh
            refine ⟨?_, by omega⟩
            have h2 : digs 0 = [48] := by rw [digs]; rfl
            rw [h2] at hv
            cases l with
            | nil => exact absurd rfl hn
            | cons c l =>
              cases k with
              | zero => omega
              | succ k => rw [List.take_succ_cons] at hv; injection hv with hv _; rw [← hv]; rfl
          · exact e
        rw [digs, if_neg (by omega), show (10 * val (l.take k) + ((l.getD k 0).toNat - 48)) / 10 = val (l.take k) by omega, hv,
          show (10 * val (l.take k) + ((l.getD k 0).toNat - 48)) % 10 = (l.getD k 0).toNat - 48 by omega, hcc]
  have hl : 0 < l.length := by cases l with
    | nil => exact absurd rfl hn
    | cons c l => simp
  have := key l.length hl (Nat.le_refl _)
  rwa [List.take_length] at this

theorem read_digs (n : Nat) (h : (n : Int) ≤ 1099511627775) : readSpec (digs n) = ((n : Int), 0) := by
  unfold readSpec
  rw [if_neg, val_digs, if_neg (by omega)]
  rintro (e | e | ⟨e, e2⟩)
  · exact digs_ne n e
  · exact e (digs_isD n)
  · have h0 := digs_head n e
    subst h0
    have h2 : digs 0 = [48] := by rw [digs]; rfl
    rw [h2] at e2
    simp at e2
theorem digs_read {l : List UInt8} {b : Int} (h : readSpec l = (b, 0)) : isT b = true ∧ digs b.toNat = l := by
  unfold readSpec at h
  split at h
  · simp at h
  · rename_i hc
    split at h
    · simp at h
    · simp only [Prod.mk.injEq, and_true] at h
      subst h
      refine ⟨by simp [isT]; omega, ?_⟩
      rw [Int.toNat_natCast]
      exact digs_val l (fun e => hc (.inl e)) (fun c hcm => Decidable.byContradiction fun e => hc (.inr (.inl fun a => e (a c hcm)))) (fun e => hc (.inr (.inr e)))
theorem readSpec_snd (l : List UInt8) : (readSpec l).2 = 0 ∨ (readSpec l).2 = 5 ∨ (readSpec l).2 = 6 := by
  unfold readSpec; split
  · simp
  · split <;> simp

theorem one_of {x : Int} (h : 0 ≤ x) : one x = if 1099511627775 < x then 1099511627775 else x := by
  unfold one; rw [if_neg (by omega)]
theorem clip2 (a b c : Int) : clipAt a [b, c] 2 = one (one (one a + one b) + one c) := rfl
theorem one_two (x y z : Int) (hx : 0 ≤ x) (hy : 0 ≤ y) (hz : 0 ≤ z) : one (one (x + y) + z) = one (x + y + z) := by
  rw [one_of (show 0 ≤ x + y by omega), one_of (show 0 ≤ x + y + z by omega)]
  by_cases h : 1099511627775 < x + y
  · rw [if_pos h, one_of (by omega), if_pos (show 1099511627775 < x + y + z by omega)]
    by_cases h2 : 1099511627775 < 1099511627775 + z
    · rw [if_pos h2]
    · rw [if_neg h2]; omega
  · rw [if_neg h, one_of (by omega)]
theorem clip_swap (a b c : Int) : clipAt a [b, c] 2 = clipAt c [b, a] 2 := by
  rw [clip2, clip2]
  have ha := (one_bd a).1
  have hb := (one_bd b).1
  have hc := (one_bd c).1
  rw [one_two _ _ _ ha hb hc, one_two _ _ _ hc hb ha]
  congr 1
  omega
theorem add_swap (a b c : Int) : addSpec [a, b, c] = addSpec [c, a, b] := by
  have hs : [a, b, c].sum = [c, a, b].sum := by simp only [List.sum_cons, List.sum_nil]; omega
  have ha : [a, b, c].all isT = [c, a, b].all isT := by
    simp only [List.all_cons, List.all_nil]
    cases isT a <;> cases isT b <;> cases isT c <;> rfl
  unfold addSpec
  rw [hs, ha]
theorem clip_more (t u : Int) (zs : List Int) : clipAt t zs zs.length ≤ clipAt t (zs ++ [u]) (zs ++ [u]).length := by
  have : clipAt t (zs ++ [u]) (zs ++ [u]).length = one (clipAt t zs zs.length + one u) := by
    unfold clipAt
    rw [List.take_length, List.take_length, List.foldl_append]; rfl
  rw [this]
  have h1 := clipAt_bd t zs zs.length
  have h2 := one_bd u
  rw [one_of (by omega)]
  split <;> omega
theorem clip_isT (t : Int) (zs : List Int) (k : Nat) : isT (clipAt t zs k) = true := by
  have := clipAt_bd t zs k
  simp only [isT, decide_eq_true_eq]; exact this
end Go.Proofs.Ytgbombimkpkbpaa
