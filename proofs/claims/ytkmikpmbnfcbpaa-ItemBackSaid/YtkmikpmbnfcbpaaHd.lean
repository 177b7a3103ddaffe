/- The bytes of a value are a prefix code. -/
import Derived.Test.YtkmikpmbnfcbpaaHc
namespace Go.Proofs.Ytkmikpmbnfcbpaa
open Go.RowKit Go.Lib
set_option linter.unusedVariables false
open Tree

/-- The number that bytes are, the highest first. -/
def ofBe : List UInt8 → Nat
  | [] => 0
  | b :: r => b.toNat * 256 ^ r.length + ofBe r
theorem ofBe_snoc (l : List UInt8) (b : UInt8) : ofBe (l ++ [b]) = ofBe l * 256 + b.toNat := by
  induction l with
  | nil => simp [ofBe]
  | cons a r ih =>
    simp only [List.cons_append, ofBe, List.length_append, List.length_singleton, ih, Nat.pow_succ, Nat.add_mul]
    rw [Nat.mul_assoc]; omega
theorem ofBe_lt (l : List UInt8) : ofBe l < 256 ^ l.length := by
  induction l with
  | nil => simp [ofBe]
  | cons a r ih =>
    have h := a.toNat_lt
    simp only [ofBe, List.length_cons, Nat.pow_succ]
    have : a.toNat * 256 ^ r.length ≤ 255 * 256 ^ r.length := Nat.mul_le_mul_right _ (by omega)
    omega
theorem ofBe_be (n k : Nat) : ofBe (be n k) = n % 256 ^ k := by
  induction k generalizing n with
  | zero => simp [be, ofBe, Nat.mod_one]
  | succ k ih =>
    rw [be, ofBe_snoc, ih, toNat_ofNat (Nat.mod_lt _ (by omega)), Nat.pow_succ]
    rw [Nat.mul_comm (256 ^ k) 256, Nat.mod_mul]
    omega
theorem be_ofBe (l : List UInt8) : be (ofBe l) l.length = l := by
  have key : ∀ (k : Nat) (l : List UInt8), l.length = k → be (ofBe l) k = l := by
    intro k
    induction k with
    | zero => intro l h; rw [List.length_eq_zero_iff.1 h]; rfl
    | succ k ih =>
      intro l h
      obtain ⟨r, b, rfl⟩ : ∃ r b, l = r ++ [b] := ⟨l.dropLast, l.getLast (by intro e; rw [e] at h; simp at h), (List.dropLast_concat_getLast _).symm⟩
      have hr : r.length = k := by simp at h; omega
      have hb := b.toNat_lt
      rw [be, ofBe_snoc]
      have e1 : (ofBe r * 256 + b.toNat) / 256 = ofBe r := by omega
      have e2 : (ofBe r * 256 + b.toNat) % 256 = b.toNat := by omega
      rw [e1, e2, ih r hr]
      simp
  exact key _ l rfl
theorem be_inj {a b k : Nat} (h : be a k = be b k) (ha : a < 256 ^ k) (hb : b < 256 ^ k) : a = b := by
  have h1 := congrArg ofBe h
  rwa [ofBe_be, ofBe_be, Nat.mod_eq_of_lt ha, Nat.mod_eq_of_lt hb] at h1
/-- int's number back from uint64's. -/
def i64N (n : Nat) : Int := if n < 9223372036854775808 then (n : Int) else (n : Int) - 18446744073709551616
theorem i64N_u64N {n : Int} (h : -9223372036854775808 ≤ n ∧ n ≤ 9223372036854775807) : i64N (u64N n) = n := by unfold i64N u64N; split <;> omega
theorem u64N_i64N {n : Nat} (h : n < 18446744073709551616) : u64N (i64N n) = n := by unfold i64N u64N; split <;> omega
theorem u64N_inj {a b : Int} (ha : -9223372036854775808 ≤ a ∧ a ≤ 9223372036854775807) (hb : -9223372036854775808 ≤ b ∧ b ≤ 9223372036854775807) (h : u64N a = u64N b) : a = b := by
  rw [← i64N_u64N ha, ← i64N_u64N hb, h]
theorem txt_inj {s s' : ByteArray} (h : txt s = txt s') : s = s' := by
  obtain ⟨d⟩ := s
  obtain ⟨d'⟩ := s'
  simp only [txt] at h
  congr 1
  exact Array.toList_inj.1 h

theorem app_inj {a b c d : List UInt8} (h : a ++ b = c ++ d) (hl : a.length = c.length) : a = c ∧ b = d := List.append_inj h hl

/-- A prefix code: what a value's bytes are, and what is behind them, is known from all of them. -/
theorem enc_prefix (N : Nat) : ∀ (t u : Tree) (r r' : List UInt8), t.count ≤ N → Right t → Right u → Wf t → Wf u → (enc t).length ≤ 4294967295 → (enc u).length ≤ 4294967295 → enc t ++ r = enc u ++ r' → t = u ∧ r = r' := by
  induction N with
  | zero => intro t u r r' h; rw [count_eq] at h; omega
  | succ N ih =>
    have ihL : ∀ (l m : List Tree) (r r' : List UInt8), countL l ≤ N → l.length = m.length → RightL l → RightL m → WfL l → WfL m → (encL l).length ≤ 4294967295 → (encL m).length ≤ 4294967295 → encL l ++ r = encL m ++ r' → l = m ∧ r = r' := by
      intro l
      induction l with
      | nil =>
        intro m r r' _ hlen _ _ _ _ _ _ h
        have : m = [] := List.length_eq_zero_iff.1 hlen.symm
        subst this
        exact ⟨rfl, by simpa [encL] using h⟩
      | cons t l ihl =>
        intro m r r' hc hlen h1 h2 h3 h4 h5 h6 h
        cases m with
        | nil => simp at hlen
        | cons u m =>
          simp only [countL] at hc
          simp only [encL, List.append_assoc] at h
          simp only [encL, List.length_append] at h5 h6
          obtain ⟨e1, e2⟩ := ih t u _ _ (by omega) h1.1 h2.1 h3.1 h4.1 (by omega) (by omega) h
          obtain ⟨e3, e4⟩ := ihl m r r' (by omega) (by simpa using hlen) h1.2 h2.2 h3.2 h4.2 (by omega) (by omega) e2
          exact ⟨by rw [e1, e3], e4⟩
    intro t u r r' hN hr hr' hw hw' hl hl' h
    rw [count_eq] at hN
    have f := (right_eq t).1 hr
    have f' := (right_eq u).1 hr'
    have g := (wf_eq t).1 hw
    have g' := (wf_eq u).1 hw'
    rw [enc_eq] at h hl
    rw [enc_eq u] at h hl'
    simp only [List.cons_append, List.cons.injEq] at h
    simp only [List.length_cons] at hl hl'
    obtain ⟨hk, h⟩ := h
    have hkk : t.kind = u.kind := by
      have h1 := congrArg UInt8.toNat hk
      rcases f.1.1 with e | e | e <;> rcases f'.1.1 with e' | e' | e' <;> rw [e, e'] at h1 ⊢ <;> first | rfl | (exact absurd h1 (by decide))
    have goal : t.num = u.num ∧ t.text = u.text ∧ t.list = u.list ∧ r = r' := by
      rcases f.1.1 with e | e | e
      · have e' : u.kind = 1 := by omega
        rw [if_pos e, if_pos e'] at h
        obtain ⟨h1, h2⟩ := app_inj h (by rw [be_len, be_len])
        refine ⟨u64N_inj g.2.1 g'.2.1 (be_inj h1 (u64N_lt _) (u64N_lt _)), ?_, ?_, h2⟩
        · rw [f.1.2.2.1 (by omega), f'.1.2.2.1 (by omega)]
        · rw [f.1.2.2.2 (by omega), f'.1.2.2.2 (by omega)]
      · have e' : u.kind = 2 := by omega
        rw [if_neg (by omega), if_pos e] at h hl
        rw [if_neg (by omega), if_pos e'] at h hl'
        rw [List.length_append, be_len, txt_len] at hl hl'
        rw [List.append_assoc, List.append_assoc] at h
        obtain ⟨h1, h2⟩ := app_inj h (by rw [be_len, be_len])
        have hs := be_inj h1 (by omega) (by omega)
        obtain ⟨h3, h4⟩ := app_inj h2 (by rw [txt_len, txt_len, hs])
        refine ⟨?_, txt_inj h3, ?_, h4⟩
        · rw [f.1.2.1 (by omega), f'.1.2.1 (by omega)]
        · rw [f.1.2.2.2 (by omega), f'.1.2.2.2 (by omega)]
      · have e' : u.kind = 3 := by omega
        rw [if_neg (by omega), if_neg (by omega)] at h hl
        rw [if_neg (by omega), if_neg (by omega)] at h hl'
        rw [List.length_append, be_len] at hl hl'
        rw [List.append_assoc, List.append_assoc] at h
        obtain ⟨h1, h2⟩ := app_inj h (by rw [be_len, be_len])
        have hln := encL_len t.list
        have hlm := encL_len u.list
        have hs := be_inj h1 (by omega) (by omega)
        obtain ⟨h3, h4⟩ := ihL t.list u.list r r' (by omega) hs f.2 f'.2 g.2.2.2 g'.2.2.2 (by omega) (by omega) h2
        refine ⟨?_, ?_, h3, h4⟩
        · rw [f.1.2.1 (by omega), f'.1.2.1 (by omega)]
        · rw [f.1.2.2.1 (by omega), f'.1.2.2.1 (by omega)]
    exact ⟨(tree_ext t u).2 ⟨hkk, goal.1, goal.2.1, goal.2.2.1⟩, goal.2.2.2⟩
end Go.Proofs.Ytkmikpmbnfcbpaa
