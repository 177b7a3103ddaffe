/- Trees: what an item is, and how it lies in memory. -/
import Derived.Test.YtkmikpmbnfcbpaaGa
namespace Go.Proofs.Ytkmikpmbnfcbpaa
open Go.RowKit
set_option linter.unusedVariables false

inductive Tree where
  | mk (kind num : Int) (text : ByteArray) (list : List Tree)
namespace Tree
def kind : Tree → Int | mk k _ _ _ => k
def num : Tree → Int | mk _ n _ _ => n
def text : Tree → ByteArray | mk _ _ s _ => s
def list : Tree → List Tree | mk _ _ _ l => l

mutual
/-- How many values there are. -/
def count : Tree → Nat
  | mk _ _ _ l => 1 + countL l
def countL : List Tree → Nat
  | [] => 0
  | t :: r => count t + countL r
end
mutual
/-- How deep they are. -/
def depth : Tree → Nat
  | mk _ _ _ l => depthL l + 1
def depthL : List Tree → Nat
  | [] => 0
  | t :: r => max (depth t) (depthL r)
end
/-- Are a value's own fields right? -/
def fields (t : Tree) : Prop := (t.kind = 1 ∨ t.kind = 2 ∨ t.kind = 3) ∧ (t.kind ≠ 1 → t.num = 0) ∧ (t.kind ≠ 2 → t.text = ⟨#[]⟩) ∧ (t.kind ≠ 3 → t.list = [])
mutual
def Right : Tree → Prop
  | mk k n s l => fields (mk k n s l) ∧ RightL l
def RightL : List Tree → Prop
  | [] => True
  | t :: r => Right t ∧ RightL r
end
mutual
/-- All numbers are int's. -/
def Wf : Tree → Prop
  | mk k n s l => (-9223372036854775808 ≤ k ∧ k ≤ 9223372036854775807) ∧ (-9223372036854775808 ≤ n ∧ n ≤ 9223372036854775807) ∧ s.size ≤ 9223372036854775807 ∧ WfL l
def WfL : List Tree → Prop
  | [] => True
  | t :: r => Wf t ∧ WfL r
end
mutual
/-- The tree's list lies at an address, with so much room; all blocks are named by K. -/
def At (w : World) (K : Nat → Prop) : Tree → Option Addr → Nat → Prop
  | mk _ _ _ l, a, c => l.length ≤ c ∧ c ≤ 9223372036854775807 ∧ (l = [] ∨ ∃ b off, a = some ⟨b, off, none⟩ ∧ K b ∧ AtL w K l b off)
def AtL (w : World) (K : Nat → Prop) : List Tree → Nat → Nat → Prop
  | [], _, _ => True
  | t :: r, b, off => (∃ a c, w.cell? ⟨b, off, none⟩ = some (.int .i64 t.kind) ∧ w.cell? ⟨b, off + 1, none⟩ = some (.int .i64 t.num) ∧ w.cell? ⟨b, off + 2, none⟩ = some (.string t.text) ∧
      w.cell? ⟨b, off + 3, none⟩ = some (.slice a t.list.length c) ∧ At w K t a c) ∧ AtL w K r b (off + 4)
end
/-- The value of a tree whose list lies at a, with room c. -/
def val (t : Tree) (a : Option Addr) (c : Nat) : Value := .agg #[.int .i64 t.kind, .int .i64 t.num, .string t.text, .slice a t.list.length c]

theorem count_eq (t : Tree) : t.count = 1 + countL t.list := by cases t; rfl
theorem depth_eq (t : Tree) : t.depth = depthL t.list + 1 := by cases t; rfl
theorem right_eq (t : Tree) : Right t ↔ fields t ∧ RightL t.list := by cases t; rfl
theorem at_eq (w : World) (K : Nat → Prop) (t : Tree) (a : Option Addr) (c : Nat) : At w K t a c ↔ t.list.length ≤ c ∧ c ≤ 9223372036854775807 ∧ (t.list = [] ∨ ∃ b off, a = some ⟨b, off, none⟩ ∧ K b ∧ AtL w K t.list b off) := by cases t; rfl
theorem countL_append (l r : List Tree) : countL (l ++ r) = countL l + countL r := by
  induction l with
  | nil => simp [countL]
  | cons t l ih => simp only [List.cons_append, countL, ih]; omega
theorem depthL_append (l r : List Tree) : depthL (l ++ r) = max (depthL l) (depthL r) := by
  induction l with
  | nil => simp [depthL]
  | cons t l ih => simp only [List.cons_append, depthL, ih]; omega
theorem rightL_append (l r : List Tree) : RightL (l ++ r) ↔ RightL l ∧ RightL r := by
  induction l with
  | nil => simp [RightL]
  | cons t l ih => simp only [List.cons_append, RightL, ih, and_assoc]
theorem rightL_mem {l : List Tree} (h : RightL l) : ∀ t ∈ l, Right t := by
  induction l with
  | nil => intro t ht; cases ht
  | cons u l ih => intro t ht; cases ht with
    | head => exact h.1
    | tail _ ht => exact ih h.2 t ht
theorem wfL_mem {l : List Tree} (h : WfL l) : ∀ t ∈ l, Wf t := by
  induction l with
  | nil => intro t ht; cases ht
  | cons u l ih => intro t ht; cases ht with
    | head => exact h.1
    | tail _ ht => exact ih h.2 t ht

theorem keep_both {w w' : World} {K K' : Nat → Prop} (hk : ∀ b, K b → w'.heap[b]? = w.heap[b]?) (hK : ∀ b, K b → K' b) :
    (∀ (t : Tree) (a : Option Addr) (c : Nat), At w K t a c → At w' K' t a c) ∧ (∀ (l : List Tree) (b off : Nat), K b → AtL w K l b off → AtL w' K' l b off) := by
  have cell : ∀ b o, K b → w'.cell? ⟨b, o, none⟩ = w.cell? ⟨b, o, none⟩ := fun b o h => World.cell?_of_block (w := w) (a := ⟨b, o, none⟩) (hk b h)
  have main : ∀ n, (∀ (t : Tree) (a : Option Addr) (c : Nat), SizeOf.sizeOf t ≤ n → At w K t a c → At w' K' t a c) ∧ (∀ (l : List Tree) (b off : Nat), SizeOf.sizeOf l ≤ n → K b → AtL w K l b off → AtL w' K' l b off) := by
    intro n
    induction n with
    | zero => exact ⟨fun t a c h => by cases t; simp at h, fun l b off h => by cases l <;> simp at h⟩
    | succ n ih =>
      refine ⟨fun t a c h hA => ?_, fun l b off h hb hA => ?_⟩
      · cases t with
        | mk k m s l =>
          simp only [At] at hA ⊢
          refine ⟨hA.1, hA.2.1, ?_⟩
          rcases hA.2.2 with h0 | ⟨b, off, e, hb, hL⟩
          · exact .inl h0
          · exact .inr ⟨b, off, e, hK b hb, ih.2 l b off (by simp at h; omega) hb hL⟩
      · cases l with
        | nil => trivial
        | cons t r =>
          simp only [AtL] at hA ⊢
          obtain ⟨⟨a, c, h1, h2, h3, h4, h5⟩, h6⟩ := hA
          have hs : SizeOf.sizeOf t ≤ n ∧ SizeOf.sizeOf r ≤ n := by simp at h; omega
          exact ⟨⟨a, c, (cell b _ hb).trans h1, (cell b _ hb).trans h2, (cell b _ hb).trans h3, (cell b _ hb).trans h4, ih.1 t a c hs.1 h5⟩, ih.2 r b (off + 4) hs.2 hb h6⟩
  exact ⟨fun t a c h => (main (SizeOf.sizeOf t)).1 t a c (Nat.le_refl _) h, fun l b off hb h => (main (SizeOf.sizeOf l)).2 l b off (Nat.le_refl _) hb h⟩
theorem At.keep {w w' : World} {K : Nat → Prop} {t : Tree} {a : Option Addr} {c : Nat} (h : At w K t a c) (hk : ∀ b, K b → w'.heap[b]? = w.heap[b]?) : At w' K t a c := (keep_both hk fun _ h => h).1 t a c h
theorem At.imp {w : World} {K K' : Nat → Prop} {t : Tree} {a : Option Addr} {c : Nat} (h : At w K t a c) (hK : ∀ b, K b → K' b) : At w K' t a c := (keep_both (fun _ _ => rfl) hK).1 t a c h
theorem AtL.get {w : World} {K : Nat → Prop} : ∀ (l : List Tree) (b off : Nat), AtL w K l b off → ∀ i (hi : i < l.length),
    ∃ a c, w.cell? ⟨b, off + i * 4, none⟩ = some (.int .i64 l[i].kind) ∧ w.cell? ⟨b, off + i * 4 + 1, none⟩ = some (.int .i64 l[i].num) ∧ w.cell? ⟨b, off + i * 4 + 2, none⟩ = some (.string l[i].text) ∧
      w.cell? ⟨b, off + i * 4 + 3, none⟩ = some (.slice a l[i].list.length c) ∧ At w K l[i] a c := by
  intro l
  induction l with
  | nil => intro b off _ i hi; simp at hi
  | cons t r ih =>
    intro b off h i hi
    simp only [AtL] at h
    cases i with
    | zero => exact h.1
    | succ i =>
      have := ih b (off + 4) h.2 i (by simpa using hi)
      rw [show off + 4 + i * 4 = off + (i + 1) * 4 by omega] at this
      exact this
theorem At.below {w w' : World} {B : Nat} {t : Tree} {a : Option Addr} {c : Nat} (h : At w (· < B) t a c) (hb : Below B w w') : At w' (· < B) t a c := h.keep fun b hB => hb.block b hB
theorem At.more {w : World} {B B' : Nat} {t : Tree} {a : Option Addr} {c : Nat} (h : At w (· < B) t a c) (hB : B ≤ B') : At w (· < B') t a c := h.imp fun b hb => Nat.lt_of_lt_of_le hb hB
end Tree
end Go.Proofs.Ytkmikpmbnfcbpaa
