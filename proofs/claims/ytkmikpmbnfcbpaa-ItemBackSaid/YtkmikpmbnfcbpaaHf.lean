/- What bytes say: the plain law of decoding. -/
import Derived.Test.YtkmikpmbnfcbpaaHe
namespace Go.Proofs.Ytkmikpmbnfcbpaa
open Go.RowKit
set_option linter.unusedVariables false
open Tree

/-- The bytes bs begin with the bytes of t, so deep, of so many values; r is what is behind them. -/
structure Pz (d L : Int) (bs : List UInt8) (t : Tree) (r : List UInt8) : Prop where
  right : Right t
  wf : Wf t
  deep : (t.depth : Int) ≤ d
  cnt : (t.count : Int) ≤ L
  eq : enc t ++ r = bs
structure PzL (d L : Int) (bs : List UInt8) (l : List Tree) (r : List UInt8) : Prop where
  right : RightL l
  wf : WfL l
  deep : (depthL l : Int) ≤ d
  cnt : (countL l : Int) ≤ L
  eq : encL l ++ r = bs

theorem kind_byte {k : Int} (h : k = 1 ∨ k = 2 ∨ k = 3) : ((UInt8.ofNat k.toNat).toNat : Int) = k := by
  rcases h with rfl | rfl | rfl <;> rfl
theorem pz_one {d L : Int} {bs r : List UInt8} {t : Tree} (h : Pz d L bs t r) : 1 ≤ d ∧ 1 ≤ L ∧ 1 ≤ bs.length := by
  have h1 := h.deep
  have h2 := h.cnt
  have h3 := enc_pos t
  have h4 := congrArg List.length h.eq
  rw [depth_eq] at h1
  rw [count_eq] at h2
  rw [List.length_append] at h4
  omega
theorem pz_shape {d L : Int} {b : UInt8} {bs r : List UInt8} {t : Tree} (h : Pz d L (b :: bs) t r) :
    (b.toNat = 1 ∧ ∃ n, be n 8 ++ r = bs) ∨ (b.toNat = 2 ∧ be t.text.size 4 ++ (txt t.text ++ r) = bs) ∨ (b.toNat = 3 ∧ be t.list.length 4 ++ (encL t.list ++ r) = bs ∧ RightL t.list ∧ WfL t.list ∧ (depthL t.list : Int) ≤ d - 1 ∧ (countL t.list : Int) ≤ L - 1) := by
  have f := (right_eq t).1 h.right
  have g := (wf_eq t).1 h.wf
  have h1 := h.deep
  have h2 := h.cnt
  have h4 := h.eq
  rw [depth_eq] at h1
  rw [count_eq] at h2
  rw [enc_eq] at h4
  simp only [List.cons_append, List.cons.injEq] at h4
  obtain ⟨hk, h4⟩ := h4
  have hkk := kind_byte f.1.1
  rw [hk] at hkk
  rcases f.1.1 with e | e | e
  · rw [if_pos e] at h4
    exact .inl ⟨by omega, _, h4⟩
  · rw [if_neg (by omega), if_pos e, List.append_assoc] at h4
    exact .inr (.inl ⟨by omega, h4⟩)
  · rw [if_neg (by omega), if_neg (by omega), List.append_assoc] at h4
    exact .inr (.inr ⟨by omega, h4, f.2, g.2.2.2, by omega, by omega⟩)
theorem pz_no_d {d L : Int} {bs r : List UInt8} {t : Tree} (hd : d ≤ 0) : ¬ Pz d L bs t r := fun h => by have := pz_one h; omega
theorem pz_no_L {d L : Int} {bs r : List UInt8} {t : Tree} (hd : L ≤ 0) : ¬ Pz d L bs t r := fun h => by have := pz_one h; omega
theorem pz_no_nil {d L : Int} {bs r : List UInt8} {t : Tree} (hd : bs.length < 1) : ¬ Pz d L bs t r := fun h => by have := pz_one h; omega
theorem pz_no_kind {d L : Int} {b : UInt8} {bs r : List UInt8} {t : Tree} (hb : b.toNat ≠ 1 ∧ b.toNat ≠ 2 ∧ b.toNat ≠ 3) : ¬ Pz d L (b :: bs) t r := fun h => by
  rcases pz_shape h with h | h | h <;> omega
theorem pz_no_num {d L : Int} {b : UInt8} {bs r : List UInt8} {t : Tree} (hb : b.toNat = 1) (hn : bs.length < 8) : ¬ Pz d L (b :: bs) t r := fun h => by
  rcases pz_shape h with ⟨h1, n, h2⟩ | h | h
  · have := congrArg List.length h2
    rw [List.length_append, be_len] at this
    omega
  · omega
  · omega
theorem pz_no_four {d L : Int} {b : UInt8} {bs r : List UInt8} {t : Tree} (hb : b.toNat = 2 ∨ b.toNat = 3) (hn : bs.length < 4) : ¬ Pz d L (b :: bs) t r := fun h => by
  rcases pz_shape h with ⟨h1, n, h2⟩ | ⟨h1, h2⟩ | ⟨h1, h2, _⟩
  · omega
  · have := congrArg List.length h2
    rw [List.length_append, be_len] at this
    omega
  · have := congrArg List.length h2
    rw [List.length_append, be_len] at this
    omega
theorem four_split {n : Nat} {bs x : List UInt8} (h : be n 4 ++ x = bs) (hn : n ≤ 4294967295) : ofBe (bs.take 4) = n ∧ x = bs.drop 4 := by
  subst h
  have hl := be_len n 4
  refine ⟨?_, ?_⟩
  · rw [List.take_left' hl, ofBe_be]
    exact Nat.mod_eq_of_lt (by omega)
  · rw [List.drop_left' hl]
theorem pz_no_txt {d L : Int} {b : UInt8} {bs r : List UInt8} {t : Tree} (hb : b.toNat = 2) (hs : bs.length ≤ 4294967295) (hn : (bs.drop 4).length < ofBe (bs.take 4)) : ¬ Pz d L (b :: bs) t r := fun h => by
  rcases pz_shape h with ⟨h1, n, h2⟩ | ⟨h1, h2⟩ | ⟨h1, h2, _⟩
  · omega
  · have hl := congrArg List.length h2
    rw [List.length_append, List.length_append, be_len, txt_len] at hl
    obtain ⟨e1, e2⟩ := four_split h2 (by omega)
    rw [e1, ← e2, List.length_append, txt_len] at hn
    omega
  · omega
theorem pz_lst {d L : Int} {b : UInt8} {bs r : List UInt8} {t : Tree} (hb : b.toNat = 3) (hs : bs.length ≤ 4294967295) (h : Pz d L (b :: bs) t r) : PzL (d - 1) (L - 1) (bs.drop 4) t.list r ∧ t.list.length = ofBe (bs.take 4) := by
  rcases pz_shape h with ⟨h1, n, h2⟩ | ⟨h1, h2⟩ | ⟨h1, h2, h3, h4, h5, h6⟩
  · omega
  · omega
  · have hl := congrArg List.length h2
    rw [List.length_append, List.length_append, be_len] at hl
    have := encL_len t.list
    obtain ⟨e1, e2⟩ := four_split h2 (by omega)
    exact ⟨⟨h3, h4, h5, h6, e2⟩, e1.symm⟩

theorem byte_eq {b : UInt8} {n : Nat} (h : b.toNat = n) : b = UInt8.ofNat n := by subst h; simp
theorem pz_num {d L : Int} {b : UInt8} {bs : List UInt8} (hb : b.toNat = 1) (hd : 1 ≤ d) (hL : 1 ≤ L) (hn : 8 ≤ bs.length) : Pz d L (b :: bs) (.mk 1 (i64N (ofBe (bs.take 8))) ⟨#[]⟩ []) (bs.drop 8) := by
  have hl : (bs.take 8).length = 8 := by rw [List.length_take]; omega
  have hlt := ofBe_lt (bs.take 8)
  rw [hl] at hlt
  have hlt' : ofBe (bs.take 8) < 18446744073709551616 := hlt
  have he := be_ofBe (bs.take 8)
  rw [hl] at he
  refine ⟨?_, ?_, ?_, ?_, ?_⟩
  · rw [right_eq]; exact ⟨⟨.inl rfl, fun h => absurd rfl h, fun _ => rfl, fun _ => rfl⟩, trivial⟩
  · rw [wf_eq]; refine ⟨by simp only [kind]; omega, ?_, Nat.zero_le _, trivial⟩
    simp only [Tree.num]
    unfold i64N; split <;> omega
  · rw [depth_eq]; simp only [list, depthL]; omega
  · rw [count_eq]; simp only [list, countL]; omega
  · have e : ∀ n, enc (.mk 1 n ⟨#[]⟩ []) = UInt8.ofNat 1 :: be (u64N n) 8 := fun n => by simp [enc]
    rw [e, u64N_i64N hlt', he, byte_eq hb, List.cons_append, List.take_append_drop]
theorem txt_mk (l : List UInt8) : txt ⟨l.toArray⟩ = l := rfl
theorem size_mk (l : List UInt8) : (⟨l.toArray⟩ : ByteArray).size = l.length := rfl
theorem pz_txt {d L : Int} {b : UInt8} {bs : List UInt8} (hb : b.toNat = 2) (hd : 1 ≤ d) (hL : 1 ≤ L) (hn : 4 ≤ bs.length) (hs : bs.length ≤ 4294967295) (hm : ofBe (bs.take 4) ≤ (bs.drop 4).length) :
    Pz d L (b :: bs) (.mk 2 0 ⟨((bs.drop 4).take (ofBe (bs.take 4))).toArray⟩ []) ((bs.drop 4).drop (ofBe (bs.take 4))) := by
  have hl : (bs.take 4).length = 4 := by rw [List.length_take]; omega
  have he := be_ofBe (bs.take 4)
  rw [hl] at he
  have hz : ((bs.drop 4).take (ofBe (bs.take 4))).length = ofBe (bs.take 4) := by rw [List.length_take]; omega
  refine ⟨?_, ?_, ?_, ?_, ?_⟩
  · rw [right_eq]; exact ⟨⟨.inr (.inl rfl), fun _ => rfl, fun h => absurd rfl h, fun _ => rfl⟩, trivial⟩
  · rw [wf_eq]; refine ⟨by simp only [kind]; omega, by simp only [Tree.num]; omega, ?_, trivial⟩
    simp only [text]
    rw [size_mk, hz]
    rw [List.length_drop] at hm
    omega
  · rw [depth_eq]; simp only [list, depthL]; omega
  · rw [count_eq]; simp only [list, countL]; omega
  · have e : ∀ s, enc (.mk 2 0 s []) = UInt8.ofNat 2 :: (be s.size 4 ++ txt s) := fun s => by simp [enc]
    rw [e, size_mk, txt_mk, hz, he, byte_eq hb, List.cons_append, List.append_assoc, List.take_append_drop, List.take_append_drop]
theorem pz_list {d L : Int} {b : UInt8} {bs r : List UInt8} {l : List Tree} (hb : b.toNat = 3) (hn : 4 ≤ bs.length) (hl : l.length = ofBe (bs.take 4)) (h : PzL (d - 1) (L - 1) (bs.drop 4) l r) : Pz d L (b :: bs) (.mk 3 0 ⟨#[]⟩ l) r := by
  have hl4 : (bs.take 4).length = 4 := by rw [List.length_take]; omega
  have he := be_ofBe (bs.take 4)
  rw [hl4] at he
  refine ⟨?_, ?_, ?_, ?_, ?_⟩
  · rw [right_eq]; exact ⟨⟨.inr (.inr rfl), fun _ => rfl, fun _ => rfl, fun h => absurd rfl h⟩, h.right⟩
  · rw [wf_eq]; exact ⟨by simp only [kind]; omega, by simp only [Tree.num]; omega, Nat.zero_le _, h.wf⟩
  · have := h.deep
    rw [depth_eq]; simp only [list]; omega
  · have := h.cnt
    rw [count_eq]; simp only [list]; omega
  · have e : enc (.mk 3 0 ⟨#[]⟩ l) = UInt8.ofNat 3 :: (be l.length 4 ++ encL l) := by simp [enc]
    rw [e, hl, he, byte_eq hb, List.cons_append, List.append_assoc, h.eq, List.take_append_drop]
theorem pzL_nil {d L : Int} (bs : List UInt8) (hd : 0 ≤ d) (hL : 0 ≤ L) : PzL d L bs [] bs := ⟨trivial, trivial, by simp [depthL]; omega, by simp [countL]; omega, rfl⟩
theorem wfL_append {l m : List Tree} : WfL l → WfL m → WfL (l ++ m) := fun h k => wfL_all fun t ht => by
  rcases List.mem_append.1 ht with h1 | h1
  · exact wfL_mem h t h1
  · exact wfL_mem k t h1
theorem pzL_snoc {d L : Int} {bs r r' : List UInt8} {l : List Tree} {t : Tree} (h : PzL d L bs l r) (k : Pz d (L - countL l) r t r') : PzL d L bs (l ++ [t]) r' := by
  have h1 := h.deep
  have h2 := h.cnt
  have k1 := k.deep
  have k2 := k.cnt
  refine ⟨(rightL_append _ _).2 ⟨h.right, k.right, trivial⟩, wfL_append h.wf ⟨k.wf, trivial⟩, ?_, ?_, ?_⟩
  · rw [depthL_append]; simp only [depthL]; omega
  · rw [countL_append]; simp only [countL]; omega
  · rw [encL_append, List.append_assoc, ← h.eq, ← k.eq]; simp [encL]
theorem pzL_prefix : ∀ (l m : List Tree) (r r' : List UInt8), l.length ≤ m.length → RightL l → RightL m → WfL l → WfL m → (encL l).length ≤ 4294967295 → (encL m).length ≤ 4294967295 → encL l ++ r = encL m ++ r' → ∃ m2, m = l ++ m2 ∧ r = encL m2 ++ r' := by
  intro l
  induction l with
  | nil => intro m r r' _ _ _ _ _ _ _ h; exact ⟨m, rfl, by simpa [encL] using h⟩
  | cons t l ih =>
    intro m r r' hlen h1 h2 h3 h4 h5 h6 h
    cases m with
    | nil => simp at hlen
    | cons u m =>
      simp only [encL, List.append_assoc] at h
      simp only [encL, List.length_append] at h5 h6
      obtain ⟨e1, e2⟩ := enc_prefix t.count t u _ _ (Nat.le_refl _) h1.1 h2.1 h3.1 h4.1 (by omega) (by omega) h
      obtain ⟨m2, e3, e4⟩ := ih m r r' (by simpa using hlen) h1.2 h2.2 h3.2 h4.2 (by omega) (by omega) e2
      exact ⟨m2, by rw [e1, e3]; rfl, e4⟩
theorem pzL_no {d L : Int} {bs r r' : List UInt8} {l m : List Tree} (hs : bs.length ≤ 4294967295) (h : PzL d L bs l r) (hlt : l.length < m.length) (hno : ∀ t x, ¬ Pz d (L - countL l) r t x) : ¬ PzL d L bs m r' := fun k => by
  have e1 := congrArg List.length h.eq
  have e2 := congrArg List.length k.eq
  rw [List.length_append] at e1 e2
  obtain ⟨m2, rfl, e⟩ := pzL_prefix l m r r' (by omega) h.right k.right h.wf k.wf (by omega) (by omega) (h.eq.trans k.eq.symm)
  cases m2 with
  | nil => simp at hlt
  | cons u m2 =>
    have k1 := ((rightL_append _ _).1 k.right).2
    have k2 := k.deep
    have k3 := k.cnt
    rw [depthL_append] at k2
    rw [countL_append] at k3
    simp only [depthL, countL] at k2 k3
    refine hno u (encL m2 ++ r') ⟨k1.1, wfL_mem k.wf u (by simp), by omega, by omega, ?_⟩
    rw [e]; simp [encL]
/-- Of bytes one value at most. -/
theorem pz_one_only {d d' L L' : Int} {bs r r' : List UInt8} {t u : Tree} (hs : bs.length ≤ 4294967295) (h : Pz d L bs t r) (k : Pz d' L' bs u r') : t = u ∧ r = r' := by
  have e1 := congrArg List.length h.eq
  have e2 := congrArg List.length k.eq
  rw [List.length_append] at e1 e2
  exact enc_prefix t.count t u r r' (Nat.le_refl _) h.right k.right h.wf k.wf (by omega) (by omega) (h.eq.trans k.eq.symm)
end Go.Proofs.Ytkmikpmbnfcbpaa
