/- What the frames hand on of an item. -/
import Derived.Test.YtkmikpmbnfcbpaaGp
import Derived.Test.YtkmikpmbnfcbpaaBulk
import Derived.Deep.Matrix
namespace Go.Proofs.Ytkmikpmbnfcbpaa
open Go.RowKit Go.Lib
set_option linter.unusedVariables false
open Tree

namespace Tree
mutual
/-- How many bytes all texts have. -/
def letters : Tree → Nat
  | .mk _ _ s l => s.size + lettersL l
def lettersL : List Tree → Nat
  | [] => 0
  | t :: r => letters t + lettersL r
end
theorem letters_eq (t : Tree) : t.letters = t.text.size + lettersL t.list := by cases t; rfl
theorem wf_eq (t : Tree) : Wf t ↔ (-9223372036854775808 ≤ t.kind ∧ t.kind ≤ 9223372036854775807) ∧ (-9223372036854775808 ≤ t.num ∧ t.num ≤ 9223372036854775807) ∧ t.text.size ≤ 9223372036854775807 ∧ WfL t.list := by cases t; rfl
theorem wfL_all {l : List Tree} (h : ∀ t ∈ l, Wf t) : WfL l := by
  induction l with
  | nil => trivial
  | cons t r ih => exact ⟨h t (by simp), ih fun u hu => h u (by simp [hu])⟩
theorem atL_of {w : World} {K : Nat → Prop} : ∀ (l : List Tree) (b off : Nat), (∀ i (h : i < l.length), ∃ a c, (∀ j u, (l[i].item a c)[j]? = some u → w.cell? ⟨b, off + i * 4 + j, none⟩ = some u) ∧ At w K l[i] a c) → AtL w K l b off := by
  intro l
  induction l with
  | nil => intro b off _; trivial
  | cons t r ih =>
    intro b off h
    refine ⟨?_, ih b (off + 4) fun i hi => ?_⟩
    · obtain ⟨a, c, h1, h2⟩ := h 0 (by simp)
      simp only [List.getElem_cons_zero, Nat.zero_mul, Nat.add_zero] at h1 h2
      exact ⟨a, c, h1 0 _ rfl, h1 1 _ rfl, h1 2 _ rfl, h1 3 _ rfl, h2⟩
    · obtain ⟨a, c, h1, h2⟩ := h (i + 1) (by simpa using hi)
      refine ⟨a, c, fun j u hu => ?_, h2⟩
      rw [show off + 4 + i * 4 + j = off + (i + 1) * 4 + j by omega]
      exact h1 j u hu
end Tree
theorem countL_range (T : Nat → Tree) (f : Nat → Nat) : ∀ l : List Nat, (∀ i ∈ l, (T i).count + (T i).letters ≤ f i) → countL (l.map T) + lettersL (l.map T) ≤ (l.map f).sum := by
  intro l
  induction l with
  | nil => intro _; simp [countL, lettersL]
  | cons i l ih =>
    intro h
    have h1 := ih fun j hj => h j (List.mem_cons_of_mem _ hj)
    have h2 := h i List.mem_cons_self
    simp only [List.map_cons, countL, lettersL, List.sum_cons]
    omega
theorem bulk_sum {H : Type} (D : Nat → DataW H) : ∀ l : List Nat, (l.map fun i => Rows.uptoBulk (D i)).sum = Rows.uptoBulkAll (l.map D) := by
  intro l
  induction l with
  | nil => simp [Rows.uptoBulkAll]
  | cons i l ih => simp only [List.map_cons, List.sum_cons, Rows.uptoBulkAll, ih]

theorem wf_i64 {n : Int} (h : (Lit.int .i64 n).wf = true) : -9223372036854775808 ≤ n ∧ n ≤ 9223372036854775807 := by
  have h1 : IntKind.i64.min = -9223372036854775808 := rfl
  have h2 : IntKind.i64.max = 9223372036854775807 := rfl
  simp only [Lit.wf, Bool.and_eq_true, decide_eq_true_eq] at h
  omega

theorem open_item {H : Type} {enc : TypeId × Value → H} {w : World} {base : Nat} {held : Bool} (N : Nat) : ∀ (fuel : Nat) (cs : List Value) (x : DataW H × List MemPlace), Rows.uptoBulk x.1 ≤ N → DataW.trod enc Try.prog w base (fun _ => true) held fuel 26 cs = some x →
    ∃ t a c, cs = Tree.item t a c ∧ At w (· < w.heap.size) t a c ∧ Wf t ∧ t.count + t.letters ≤ Rows.uptoBulk x.1 := by
  induction N with
  | zero => intro fuel cs x hx _; have := bulks.one_le x.1; omega
  | succ N ih =>
    intro fuel cs x hN h
    obtain ⟨xs, n, _, hx, hlen, hxl, hf⟩ := DataW.trod_struct Try.underlying26 h
    have hce : Try.prog.cellsOf 26 = 4 := by kernel_rfl
    have hc3 : Try.prog.cellsOf 3 = 1 := by kernel_rfl
    have hc9 : Try.prog.cellsOf 9 = 1 := by kernel_rfl
    have hc24 : Try.prog.cellsOf 24 = 1 := by kernel_rfl
    rw [hce] at hlen
    match cs, hlen with
    | [c0, c1, c2, c3], _ =>
    match xs, hxl with
    | [x0, x1, x2, x3], _ =>
    have q0 : DataW.trod enc Try.prog w base (fun _ => true) held n 3 (([c0, c1, c2, c3].drop 0).take (Try.prog.cellsOf 3)) = [x0, x1, x2, x3][0]? := hf 0 _ rfl
    have q1 : DataW.trod enc Try.prog w base (fun _ => true) held n 3 (([c0, c1, c2, c3].drop 1).take (Try.prog.cellsOf 3)) = [x0, x1, x2, x3][1]? := hf 1 _ rfl
    have q2 : DataW.trod enc Try.prog w base (fun _ => true) held n 9 (([c0, c1, c2, c3].drop 2).take (Try.prog.cellsOf 9)) = [x0, x1, x2, x3][2]? := hf 2 _ rfl
    have q3 : DataW.trod enc Try.prog w base (fun _ => true) held n 24 (([c0, c1, c2, c3].drop 3).take (Try.prog.cellsOf 24)) = [x0, x1, x2, x3][3]? := hf 3 _ rfl
    rw [hc3] at q0 q1
    rw [hc9] at q2
    rw [hc24] at q3
    have h0 : DataW.trod enc Try.prog w base (fun _ => true) held n 3 [c0] = some x0 := q0
    have h1 : DataW.trod enc Try.prog w base (fun _ => true) held n 3 [c1] = some x1 := q1
    have h2 : DataW.trod enc Try.prog w base (fun _ => true) held n 9 [c2] = some x2 := q2
    have h3 : DataW.trod enc Try.prog w base (fun _ => true) held n 24 [c3] = some x3 := q3
    obtain ⟨k, e0, rfl, w0⟩ := DataW.trod_int Try.underlying3 h0
    obtain ⟨m, e1, rfl, w1⟩ := DataW.trod_int Try.underlying3 h1
    obtain ⟨s, e2, rfl, w2⟩ := DataW.trod_string Try.underlying9 h2
    simp at e0 e1 e2
    subst e0 e1 e2
    have hws : s.size ≤ 9223372036854775807 := by unfold maxLen at w2; omega
    have hlet : s.data.toList.length = s.size := by rw [Array.length_toList]; rfl
    subst hx
    simp only [List.map_cons, List.map_nil, Rows.uptoBulk, Rows.uptoBulkAll, hlet] at hN ⊢
    rcases Go.Deep.open_slice Try.underlying24 h3 with ⟨hcs, rfl⟩ | ⟨a, len, cap, mm, n', D, Pl, hcs, hb, hl, hm, hmm, rfl, hx⟩
    · simp at hcs
      subst hcs
      refine ⟨.mk k m s [], none, 0, rfl, ?_, ?_, ?_⟩
      · simp only [At]; exact ⟨Nat.le_refl _, by omega, .inl (by trivial)⟩
      · simp only [Wf, WfL]; exact ⟨wf_i64 w0, wf_i64 w1, hws, by trivial⟩
      · simp only [count, countL, letters, lettersL]; omega
    · simp at hcs
      subst hcs
      simp only [if_true] at hmm
      simp only [Rows.uptoBulk] at hN ⊢
      have hDN : ∀ i, i < len → Rows.uptoBulk (D i) ≤ N := fun i hi => by
        have := bulks.part_le (d := D i) (l := (List.range len).map D) (List.mem_map.2 ⟨i, List.mem_range.2 hi, rfl⟩)
        omega
      have each : ∀ i, i < len → ∃ t : Tree, ∃ a' c', (∀ j u, (t.item a' c')[j]? = some u → w.cell? (a.add (i * 4 + j)) = some u) ∧ At w (· < w.heap.size) t a' c' ∧ Wf t ∧ t.count + t.letters ≤ Rows.uptoBulk (D i) := fun i hi => by
        obtain ⟨cs', h5, h6⟩ := hx i (by omega)
        obtain ⟨t, a', c', rfl, h7, h8, h9⟩ := ih n' cs' _ (hDN i hi) h6
        rw [hce] at h5
        obtain ⟨_, _, h10⟩ := World.cells?_some h5
        refine ⟨t, a', c', fun j u hu => ?_, h7, h8, h9⟩
        have hj : j < 4 := by have := (List.getElem?_eq_some_iff.1 hu).1; simpa [Tree.item] using this
        rw [← add_of_add, h10 j hj, hu]
      haveI : Inhabited Tree := ⟨.mk 0 0 ⟨#[]⟩ []⟩
      obtain ⟨T, hT⟩ := Go.Deep.choose_lt each
      have hsum := countL_range T (fun i => Rows.uptoBulk (D i)) (List.range len) (fun i hi => by
        obtain ⟨_, _, _, _, _, h⟩ := hT i (List.mem_range.1 hi)
        exact h)
      rw [bulk_sum] at hsum
      have hm' : cap ≤ 9223372036854775807 := by unfold maxLen at hm; omega
      refine ⟨.mk k m s ((List.range len).map T), some a, cap, by simp [Tree.item, kind, Tree.num, text, list], ?_, ?_, ?_⟩
      · simp only [At, List.length_map, List.length_range]
        refine ⟨hl, hm', ?_⟩
        rcases Nat.eq_zero_or_pos len with h0 | h0
        · left; subst h0; rfl
        · obtain ⟨b, off, spot⟩ := a
          obtain ⟨a', c', hc0, _⟩ := hT 0 h0
          have hcc := hc0 0 _ rfl
          have hspot : spot = none := by simpa [Addr.add] using World.cell?_spot hcc
          subst hspot
          have hlt := lt_of_cell hcc
          refine .inr ⟨b, off, rfl, by simpa [Addr.add] using hlt, atL_of _ _ _ fun i hi => ?_⟩
          have hi' : i < len := by simpa using hi
          obtain ⟨a', c', h11, h12, _, _⟩ := hT i hi'
          have e : ((List.range len).map T)[i] = T i := by simp
          rw [e]
          refine ⟨a', c', fun j u hu => ?_, h12⟩
          have := h11 j u hu
          rw [add_plain] at this
          rwa [Nat.add_assoc]
      · simp only [Wf]
        refine ⟨wf_i64 w0, wf_i64 w1, hws, wfL_all fun t ht => ?_⟩
        obtain ⟨i, hi, rfl⟩ := List.mem_map.1 ht
        obtain ⟨_, _, _, _, h, _⟩ := hT i (List.mem_range.1 hi)
        exact h
      · simp only [count, letters]; omega
end Go.Proofs.Ytkmikpmbnfcbpaa
