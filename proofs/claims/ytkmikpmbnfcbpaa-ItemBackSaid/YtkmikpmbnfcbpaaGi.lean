/- Rows of the call's own whose elements are items. -/
import Derived.Test.YtkmikpmbnfcbpaaGh
namespace Go.Proofs.Ytkmikpmbnfcbpaa
open Go.RowKit Go.Lib
set_option linter.unusedVariables false
open Tree
namespace Tree
def item (t : Tree) (a : Option Addr) (c : Nat) : List Value := [.int .i64 t.kind, .int .i64 t.num, .string t.text, .slice a t.list.length c]
def RowL (w : World) (K : Nat → Prop) : List Tree → List Value → Prop
  | [], xs => xs = []
  | t :: r, xs => ∃ a c ys, xs = t.item a c ++ ys ∧ At w K t a c ∧ RowL w K r ys
theorem RowL.keep {w w' : World} {K K' : Nat → Prop} (hk : ∀ b, K b → w'.heap[b]? = w.heap[b]?) (hK : ∀ b, K b → K' b) : ∀ (l : List Tree) (xs : List Value), RowL w K l xs → RowL w' K' l xs := by
  intro l
  induction l with
  | nil => intro xs h; exact h
  | cons t r ih =>
    intro xs h
    obtain ⟨a, c, ys, e, hA, hr⟩ := h
    exact ⟨a, c, ys, e, (hA.keep hk).imp hK, ih ys hr⟩
theorem RowL.len {w : World} {K : Nat → Prop} : ∀ (l : List Tree) (xs : List Value), RowL w K l xs → xs.length = l.length * 4 := by
  intro l
  induction l with
  | nil => intro xs h; subst h; rfl
  | cons t r ih =>
    intro xs h
    obtain ⟨a, c, ys, rfl, hA, hr⟩ := h
    have := ih ys hr
    simp [item, this]; omega
theorem RowL.one {w : World} {K : Nat → Prop} : ∀ (l : List Tree) (xs : List Value), RowL w K l xs → ∀ u ∈ xs, u.oneCell' = true := by
  intro l
  induction l with
  | nil => intro xs h; subst h; intro u hu; cases hu
  | cons t r ih =>
    intro xs h u hu
    obtain ⟨a, c, ys, rfl, hA, hr⟩ := h
    rcases List.mem_append.1 hu with hu | hu
    · simp [item] at hu; rcases hu with rfl | rfl | rfl | rfl <;> rfl
    · exact ih ys hr u hu
theorem RowL.snoc {w : World} {K : Nat → Prop} {t : Tree} {a : Option Addr} {c : Nat} (hA : At w K t a c) : ∀ (l : List Tree) (xs : List Value), RowL w K l xs → RowL w K (l ++ [t]) (xs ++ t.item a c) := by
  intro l
  induction l with
  | nil => intro xs h; subst h; exact ⟨a, c, [], by simp, hA, rfl⟩
  | cons u r ih =>
    intro xs h
    obtain ⟨a', c', ys, rfl, hA', hr⟩ := h
    exact ⟨a', c', ys ++ t.item a c, by simp, hA', ih ys hr⟩
theorem RowL.atL {w : World} {K : Nat → Prop} : ∀ (l : List Tree) (xs : List Value) (b off : Nat), RowL w K l xs → (∀ j u, xs[j]? = some u → w.cell? ⟨b, off + j, none⟩ = some u) → AtL w K l b off := by
  intro l
  induction l with
  | nil => intro xs b off h _; trivial
  | cons t r ih =>
    intro xs b off h hc
    obtain ⟨a, c, ys, rfl, hA, hr⟩ := h
    refine ⟨⟨a, c, hc 0 _ rfl, hc 1 _ rfl, hc 2 _ rfl, hc 3 _ rfl, hA⟩, ih ys b (off + 4) hr fun j u hu => ?_⟩
    rw [show off + 4 + j = off + (4 + j) by omega]
    exact hc (4 + j) u (by rw [List.getElem?_append_right (by simp [item])]; simpa [item] using hu)
theorem AtL.row {w : World} {K : Nat → Prop} : ∀ (l : List Tree) (b off : Nat), AtL w K l b off → ∃ xs, RowL w K l xs ∧ ∀ j u, xs[j]? = some u → w.cell? ⟨b, off + j, none⟩ = some u := by
  intro l
  induction l with
  | nil => intro b off _; exact ⟨[], rfl, fun j u h => by simp at h⟩
  | cons t r ih =>
    intro b off h
    obtain ⟨⟨a, c, h0, h1, h2, h3, hA⟩, hr⟩ := h
    obtain ⟨ys, hy, hc⟩ := ih b (off + 4) hr
    refine ⟨t.item a c ++ ys, ⟨a, c, ys, rfl, hA, hy⟩, fun j u hu => ?_⟩
    match j with
    | 0 => simp [item] at hu; subst hu; exact h0
    | 1 => simp [item] at hu; subst hu; exact h1
    | 2 => simp [item] at hu; subst hu; exact h2
    | 3 => simp [item] at hu; subst hu; exact h3
    | j + 4 =>
      have := hc j u (by simpa [item] using hu)
      rwa [show off + 4 + j = off + (j + 4) by omega] at this
theorem RowL.get {w : World} {K : Nat → Prop} : ∀ (l : List Tree) (xs : List Value), RowL w K l xs → ∀ i (hi : i < l.length), ∃ a c, (∀ j u, (l[i].item a c)[j]? = some u → xs[i * 4 + j]? = some u) ∧ At w K l[i] a c := by
  intro l
  induction l with
  | nil => intro xs _ i hi; simp at hi
  | cons t r ih =>
    intro xs h i hi
    obtain ⟨a, c, ys, rfl, hA, hr⟩ := h
    cases i with
    | zero => exact ⟨a, c, fun j u hu => by simp only [List.getElem_cons_zero] at hu; rw [Nat.zero_mul, Nat.zero_add, List.getElem?_append_left (by exact (List.getElem?_eq_some_iff.1 hu).1)]; exact hu, hA⟩
    | succ i =>
      obtain ⟨a', c', h1, h2⟩ := ih ys hr i (by simpa using hi)
      refine ⟨a', c', fun j u hu => ?_, h2⟩
      rw [List.getElem?_append_right (by simp [item]; omega)]
      have := h1 j u hu
      simpa [item, show (i + 1) * 4 + j - 4 = i * 4 + j by omega] using this
/-- All blocks of a tree are blocks of its world. -/
theorem At.lt {w : World} {K : Nat → Prop} : ∀ (t : Tree) (a : Option Addr) (c : Nat), At w K t a c → At w (fun b => K b ∧ b < w.heap.size) t a c := by
  have main : ∀ n, (∀ (t : Tree) (a : Option Addr) (c : Nat), SizeOf.sizeOf t ≤ n → At w K t a c → At w (fun b => K b ∧ b < w.heap.size) t a c) ∧ (∀ (l : List Tree) (b off : Nat), SizeOf.sizeOf l ≤ n → AtL w K l b off → AtL w (fun b => K b ∧ b < w.heap.size) l b off) := by
    intro n
    induction n with
    | zero => exact ⟨fun t a c h => by cases t; simp at h, fun l b off h => by cases l <;> simp at h⟩
    | succ n ih =>
      refine ⟨fun t a c h hA => ?_, fun l b off h hA => ?_⟩
      · cases t with
        | mk k m s l =>
          simp only [At] at hA ⊢
          refine ⟨hA.1, hA.2.1, ?_⟩
          rcases hA.2.2 with h0 | ⟨b, off, e, hb, hL⟩
          · exact .inl h0
          · cases l with
            | nil => exact .inl rfl
            | cons u r =>
              refine .inr ⟨b, off, e, ⟨hb, ?_⟩, ih.2 _ b off (by simp at h ⊢; omega) hL⟩
              simp only [AtL] at hL
              obtain ⟨⟨_, _, h1, _⟩, _⟩ := hL
              exact lt_of_cell h1
      · cases l with
        | nil => trivial
        | cons t r =>
          simp only [AtL] at hA ⊢
          obtain ⟨⟨a, c, h1, h2, h3, h4, h5⟩, h6⟩ := hA
          have hs : SizeOf.sizeOf t ≤ n ∧ SizeOf.sizeOf r ≤ n := by simp at h; omega
          exact ⟨⟨a, c, h1, h2, h3, h4, ih.1 t a c hs.1 h5⟩, ih.2 r b (off + 4) hs.2 h6⟩
  exact fun t a c h => (main (SizeOf.sizeOf t)).1 t a c (Nat.le_refl _) h
end Tree

/-- A row of the call's own that holds the items l; what lies below them lies from lo on, not in the row itself. -/
structure OwnT (w : World) (base lo : Nat) (v : Value) (l : List Tree) (xs : List Value) : Prop where
  own : w.ownsRow base 26 4 v l.length xs
  row : RowL w (fun b => lo ≤ b ∧ b < w.heap.size ∧ v.ownBlock ≠ some b) l xs
section
variable {w w' : World} {base lo : Nat} {v : Value} {l : List Tree} {xs : List Value}
theorem OwnT.nil (w : World) (base lo : Nat) : OwnT w base lo (.slice none 0 0) [] [] := ⟨World.ownsRow_nil _ _ _ _, rfl⟩
theorem OwnT.below (h : OwnT w base lo v l xs) (hb : Below w.heap.size w w') : OwnT w' base lo v l xs :=
  ⟨OwnR.below_ h.own hb, RowL.keep (fun b hB => hb.block b hB.2.1) (fun b hB => ⟨hB.1, by have := hb.size; omega, hB.2.2⟩) _ _ h.row⟩
theorem OwnT.basis (h : OwnT w base lo v l xs) {base' : Nat} (hb : base' ≤ base) : OwnT w base' lo v l xs := ⟨h.own.base hb, h.row⟩
theorem OwnT.alloc (h : OwnT w base lo v l xs) (o : Obj) : OwnT (w.alloc o) base lo v l xs := h.below ((Below.refl _ _).alloc (Nat.le_refl _) _)
theorem OwnT.keep (h : OwnT w base lo v l xs) (hk : ∀ b, b < w.heap.size → (lo ≤ b ∨ v.ownBlock = some b) → w'.heap[b]? = w.heap[b]?) (hs : w.heap.size ≤ w'.heap.size) : OwnT w' base lo v l xs := by
  refine ⟨?_, RowL.keep (fun b hB => hk b hB.2.1 (.inl hB.1)) (fun b hB => ⟨hB.1, by omega, hB.2.2⟩) _ _ h.row⟩
  refine ⟨h.own.1, ?_⟩
  rcases h.own.2 with h0 | ⟨g, cap, cur, rfl, hbg, hg, hr⟩
  · exact .inl h0
  · exact .inr ⟨g, cap, cur, rfl, hbg, by rw [hk g (Array.getElem?_eq_some_iff.1 hg).1 (.inr rfl)]; exact hg, hr⟩
theorem OwnT.push {t : Tree} {a : Option Addr} {c : Nat} {v' : Value} (h : OwnT w base lo v l xs) (hA : At w (fun b => lo ≤ b ∧ b < w.heap.size ∧ v.ownBlock ≠ some b) t a c)
    (hown : w'.ownsRow base 26 4 v' (l.length + 1) (xs ++ t.item a c)) (hg : w.grownBy w' v.ownBlock) (hat : v'.ownBlock = v.ownBlock ∨ v'.ownBlock = some w.heap.size) : OwnT w' base lo v' (l ++ [t]) (xs ++ t.item a c) := by
  have k : ∀ b, (lo ≤ b ∧ b < w.heap.size ∧ v.ownBlock ≠ some b) → (lo ≤ b ∧ b < w'.heap.size ∧ v'.ownBlock ≠ some b) := fun b hb => ⟨hb.1, by have := hg.size; omega, fun e => by
    rcases hat with e' | e'
    · exact hb.2.2 (by rw [← e', e])
    · rw [e'] at e; injection e with e; omega⟩
  have k2 : ∀ b, (lo ≤ b ∧ b < w.heap.size ∧ v.ownBlock ≠ some b) → w'.heap[b]? = w.heap[b]? := fun b hb => hg.block b hb.2.1 (fun e => hb.2.2 e.symm)
  exact ⟨by rw [List.length_append]; exact hown, RowL.snoc ((hA.keep k2).imp k) _ _ (RowL.keep k2 k _ _ h.row)⟩
theorem OwnT.form (h : OwnT w base lo v l xs) (k n : Int) (s : ByteArray) : ∃ a c, v = .slice a l.length c ∧ l.length ≤ c ∧ c ≤ 9223372036854775807 ∧ At w (fun b => (lo ≤ b ∨ base ≤ b) ∧ b < w.heap.size) (.mk k n s l) a c := by
  rcases h.own.2 with ⟨rfl, h0⟩ | ⟨g, cap, cur, rfl, hb, hg, hn, hm, hr⟩
  · exact ⟨none, 0, by rw [h0], by omega, by omega, by simp only [At]; exact ⟨by omega, by omega, .inl (List.length_eq_zero_iff.1 h0)⟩⟩
  · have hm' : cap ≤ 9223372036854775807 := by unfold maxLen at hm; omega
    refine ⟨_, cap, rfl, hn, hm', ?_⟩
    simp only [At]
    refine ⟨hn, hm', .inr ⟨g, 0, rfl, ⟨.inr hb, (Array.getElem?_eq_some_iff.1 hg).1⟩, ?_⟩⟩
    refine RowL.atL l xs g 0 (RowL.keep (fun _ _ => rfl) (fun b hB => ⟨.inl hB.1, hB.2.1⟩) _ _ h.row) fun j u hu => ?_
    have := World.ownsRow.cells h.own (g := g) rfl j u hu
    rwa [add_plain] at this
end
theorem reads_new4 (w : World) (a b c d : Value) (t : TypeId) : Reads (w.alloc (.cells #[a, b, c, d] t)) (w.heap.size + 1) 4 (some ⟨w.heap.size, 0, none⟩) 1 [a, b, c, d] := by
  refine ⟨rfl, fun _ => ⟨_, rfl, by show w.heap.size < w.heap.size + 1; omega, fun j u hu => ?_⟩⟩
  rw [add_plain, Nat.zero_add, cell_new rfl]
  simpa using hu
theorem item_info : (Try.prog.info? 26).map (fun i => (i.zero, i.size, i.bytes)) = some (some (.agg #[.int .i64 0, .int .i64 0, .string ⟨#[]⟩, .slice none 0 0]), 4, 56) := by kernel_rfl
end Go.Proofs.Ytkmikpmbnfcbpaa
