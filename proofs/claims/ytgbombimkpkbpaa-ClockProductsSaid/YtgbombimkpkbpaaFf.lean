/- What is read of digits: the plain part. -/
import Derived.Test.YtgbombimkpkbpaaFe
namespace Go.Proofs.Ytgbombimkpkbpaa

def isD (c : UInt8) : Bool := decide (48 ≤ c.toNat ∧ c.toNat ≤ 57)
def val (l : List UInt8) : Nat := l.foldl (fun t c => 10 * t + (c.toNat - 48)) 0
def readSpec (l : List UInt8) : Int × Int :=
  if l = [] ∨ ¬ (∀ c ∈ l, isD c = true) ∨ (l.head? = some 48 ∧ 1 < l.length) then (0, 5) else if 1099511627775 < val l then (0, 6) else (val l, 0)

theorem val_snoc (l : List UInt8) (c : UInt8) : val (l ++ [c]) = 10 * val l + (c.toNat - 48) := by simp [val, List.foldl_append]
theorem take_snoc (l : List UInt8) (k : Nat) (h : k < l.length) : l.take (k + 1) = l.take k ++ [l.getD k 0] := by
  rw [List.take_succ_eq_append_getElem h]; simp [h]

/-- What is known when the first pos bytes were read. -/
def RI (l : List UInt8) (pos : Nat) (t : Int) (ov : Bool) : Prop :=
  (∀ c ∈ l.take pos, isD c = true) ∧ (2 ≤ pos → l.head? ≠ some 48) ∧ 0 ≤ t ∧ t ≤ 10995116277759 ∧
    (ov = true → 1099511627775 < val (l.take pos)) ∧ (ov = false → t = val (l.take pos) ∧ t ≤ 1099511627775)

theorem RI_start (l : List UInt8) : RI l 0 0 false :=
  ⟨fun c h => by simp at h, fun h => by omega, by omega, by omega, fun h => (by cases h), fun _ => ⟨by simp [val], by omega⟩⟩

theorem all_snoc {l : List UInt8} {pos : Nat} (h : ∀ c ∈ l.take pos, isD c = true) (hp : pos < l.length) (hd : isD (l.getD pos 0) = true) : ∀ c ∈ l.take (pos + 1), isD c = true := by
  rw [take_snoc l pos hp]
  intro c hc
  rcases List.mem_append.1 hc with hc | hc
  · exact h c hc
  · rw [List.mem_singleton.1 hc]; exact hd

theorem val_small (l : List UInt8) (hl : ∀ c ∈ l, isD c = true) : val l < 10 ^ l.length := by
  have key : ∀ n, n ≤ l.length → val (l.take n) < 10 ^ n := by
    intro n
    induction n with
    | zero => intro _; simp [val]
    | succ n ih =>
      intro h
      have := ih (by omega)
      rw [take_snoc l n (by omega), val_snoc]
      have hd : isD (l.getD n 0) = true := hl _ (by rw [List.getD_eq_getElem?_getD, List.getElem?_eq_getElem (by omega)]; exact List.getElem_mem _)
      simp only [isD, decide_eq_true_eq] at hd
      rw [Nat.pow_succ]; omega
  have := key l.length (Nat.le_refl _)
  rwa [List.take_length] at this

theorem isD_bd {c : UInt8} (h : isD c = true) : 48 ≤ c.toNat ∧ c.toNat ≤ 57 := by simpa [isD] using h

theorem RI_over {l : List UInt8} {pos : Nat} {t : Int} (h : RI l pos t true) (hp : pos < l.length) (hd : isD (l.getD pos 0) = true) : RI l (pos + 1) t true := by
  obtain ⟨h1, h2, h3, h4, h5, _⟩ := h
  have hv := h5 rfl
  refine ⟨all_snoc h1 hp hd, fun _ => ?_, h3, h4, fun _ => ?_, fun h => (by cases h)⟩
  · refine h2 ?_
    have hs := val_small (l.take pos) h1
    have hlen : (l.take pos).length = pos := by rw [List.length_take]; omega
    rw [hlen] at hs
    rcases pos with _ | _ | pos
    · simp at hs; omega
    · have : val (l.take (0 + 1)) < 10 := by simpa using hs
      omega
    · omega
  · rw [take_snoc l pos hp, val_snoc]; omega

theorem head_of_val {l : List UInt8} (h : 0 < l.length) (hd : isD (l.getD 0 0) = true) : val (l.take 1) = 0 ↔ l.head? = some 48 := by
  cases l with
  | nil => simp at h
  | cons c l =>
    simp only [List.getD_cons_zero] at hd
    have := isD_bd hd
    simp only [val, List.take_succ_cons, List.take_zero, List.foldl_cons, List.foldl_nil, List.head?_cons, Option.some.injEq]
    constructor
    · intro h; apply UInt8.toNat_inj.1; show c.toNat = 48; omega
    · rintro rfl; rfl

theorem RI_step {l : List UInt8} {pos : Nat} {t : Int} (h : RI l pos t false) (hp : pos < l.length) (hd : isD (l.getD pos 0) = true) (hz : ¬ (pos = 1 ∧ t = 0)) :
    RI l (pos + 1) (10 * t + ((l.getD pos 0).toNat - 48 : Int)) (decide (1099511627775 < 10 * t + ((l.getD pos 0).toNat - 48 : Int))) := by
  obtain ⟨h1, h2, h3, h4, _, h6⟩ := h
  obtain ⟨ht, htm⟩ := h6 rfl
  have hb := isD_bd hd
  have hv : val (l.take (pos + 1)) = 10 * val (l.take pos) + ((l.getD pos 0).toNat - 48) := by rw [take_snoc l pos hp, val_snoc]
  have hv' : (val (l.take (pos + 1)) : Int) = 10 * t + ((l.getD pos 0).toNat - 48 : Int) := by rw [hv, ht]; omega
  refine ⟨all_snoc h1 hp hd, fun hpos => ?_, by omega, by omega, fun h => ?_, fun h => ?_⟩
  · by_cases e : pos = 1
    · subst e
      have hd0 : isD (l.getD 0 0) = true := h1 _ (by
        cases l with
        | nil => simp at hp
        | cons c l => simp)
      intro hh
      have h0 := (head_of_val (by omega) hd0).2 hh
      exact hz ⟨rfl, by rw [ht, h0]; rfl⟩
    · exact h2 (by omega)
  · simp only [decide_eq_true_eq] at h; omega
  · simp only [decide_eq_false_iff_not] at h
    exact ⟨hv'.symm, by omega⟩

theorem spec_bad {l : List UInt8} {pos : Nat} (hp : pos < l.length) (hd : ¬ isD (l.getD pos 0) = true) : readSpec l = (0, 5) := by
  unfold readSpec
  rw [if_pos]
  refine .inr (.inl fun h => hd (h _ ?_))
  rw [List.getD_eq_getElem?_getD, List.getElem?_eq_getElem hp]
  exact List.getElem_mem hp
theorem spec_zero {l : List UInt8} {t : Int} (h : RI l 1 t false) (hp : 1 < l.length) (ht : t = 0) : readSpec l = (0, 5) := by
  unfold readSpec
  rw [if_pos]
  obtain ⟨h1, _, _, _, _, h6⟩ := h
  obtain ⟨h6, _⟩ := h6 rfl
  have hd0 : isD (l.getD 0 0) = true := h1 _ (by
    cases l with
    | nil => simp at hp
    | cons c l => simp)
  exact .inr (.inr ⟨(head_of_val (by omega) hd0).1 (by omega), hp⟩)
theorem spec_nil : readSpec [] = (0, 5) := by unfold readSpec; rw [if_pos (.inl rfl)]
theorem spec_neg {l : List UInt8} {t : Int} {ov : Bool} (h : RI l l.length t ov) (hn : l ≠ []) : ¬ (l = [] ∨ ¬ (∀ c ∈ l, isD c = true) ∨ (l.head? = some 48 ∧ 1 < l.length)) := by
  obtain ⟨h1, h2, _⟩ := h
  rw [List.take_length] at h1
  rintro (h | h | ⟨h, h'⟩)
  · exact hn h
  · exact h h1
  · exact h2 h' h
theorem spec_over {l : List UInt8} {t : Int} (h : RI l l.length t true) (hn : l ≠ []) : readSpec l = (0, 6) := by
  unfold readSpec
  rw [if_neg (spec_neg h hn), if_pos (by have := h.2.2.2.2.1 rfl; rwa [List.take_length] at this)]
theorem spec_ok {l : List UInt8} {t : Int} (h : RI l l.length t false) (hn : l ≠ []) : readSpec l = (t, 0) := by
  have h6 := h.2.2.2.2.2 rfl
  rw [List.take_length] at h6
  unfold readSpec
  rw [if_neg (spec_neg h hn), if_neg (by omega), h6.1]
end Go.Proofs.Ytgbombimkpkbpaa
