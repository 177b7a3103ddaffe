/- An argument of any size as a tree: its texts and lists fit the machine's reach. -/
import Derived.Test.YtkmikpmbnfcbpaaHu
namespace Go.Proofs.Ytkmikpmbnfcbpaa
open Go.RowKit Go.Lib
set_option linter.unusedVariables false
open Tree

mutual
/-- Each text and each list takes at most 2^47 - 4096 bytes. -/
def Sized : Tree → Prop
  | .mk _ _ s l => s.size ≤ 140737488351232 ∧ l.length * 56 ≤ 140737488351232 ∧ SizedL l
def SizedL : List Tree → Prop
  | [] => True
  | t :: r => Sized t ∧ SizedL r
end
theorem sized_eq (t : Tree) : Sized t ↔ t.text.size ≤ 140737488351232 ∧ t.list.length * 56 ≤ 140737488351232 ∧ SizedL t.list := by cases t; rfl
theorem sizedL_all {l : List Tree} (h : ∀ t ∈ l, Sized t) : SizedL l := by
  induction l with
  | nil => trivial
  | cons u l ih => exact ⟨h u (by simp), ih fun t ht => h t (by simp [ht])⟩
theorem sizedL_mem {l : List Tree} (h : SizedL l) : ∀ t ∈ l, Sized t := by
  induction l with
  | nil => intro t ht; cases ht
  | cons u l ih => intro t ht; cases ht with
    | head => exact h.1
    | tail _ ht => exact ih h.2 t ht
theorem letters_sized (N : Nat) : ∀ t : Tree, t.count ≤ N → Sized t → t.letters ≤ 140737488351232 * t.count := by
  induction N with
  | zero => intro t h; rw [count_eq] at h; omega
  | succ N ih =>
    intro t h hs
    have f := (sized_eq t).1 hs
    have hl : ∀ l : List Tree, countL l ≤ N → SizedL l → lettersL l ≤ 140737488351232 * countL l := by
      intro l
      induction l with
      | nil => intro _ _; simp [lettersL]
      | cons u r ih2 =>
        intro h hr
        simp only [countL] at h
        have h1 := ih u (by omega) hr.1
        have h2 := ih2 (by omega) hr.2
        simp only [lettersL, countL]; omega
    rw [count_eq] at h
    have h1 := hl t.list (by omega) f.2.2
    rw [letters_eq, count_eq]
    omega
theorem weightsAll_mem {H : Type} {P : Program} {e : TypeId} : ∀ {l : List (DataW H)} {d : DataW H}, d ∈ l → ∀ n ∈ d.weights P e, n ∈ DataW.weightsAll P e l
  | d' :: r, d, hd, n, hn => by
    simp only [DataW.weightsAll, List.mem_append]
    rcases List.mem_cons.1 hd with rfl | h
    · exact .inl hn
    · exact .inr (weightsAll_mem h n hn)

theorem open_item2 {H : Type} {enc : TypeId × Value → H} {w : World} {base : Nat} {held : Bool} (N : Nat) : ∀ (fuel : Nat) (cs : List Value) (x : DataW H × List MemPlace), Rows.uptoBulk x.1 ≤ N → DataW.trod enc Try.prog w base (fun _ => true) held fuel 26 cs = some x → (∀ n ∈ x.1.weights Try.prog 26, n ≤ reachBytes) →
    ∃ t a c, cs = Tree.item t a c ∧ At w (· < w.heap.size) t a c ∧ Wf t ∧ Sized t := by
  induction N with
  | zero => intro fuel cs x hx _ _; have := bulks.one_le x.1; omega
  | succ N ih =>
    intro fuel cs x hN h hwt
    obtain ⟨xs, n, _, hx, hlen, hxl, hf⟩ := DataW.trod_struct Try.underlying26 h
    have hce : Try.prog.cellsOf 26 = 4 := by kernel_rfl
    have hc3 : Try.prog.cellsOf 3 = 1 := by kernel_rfl
    have hc9 : Try.prog.cellsOf 9 = 1 := by kernel_rfl
    have hc24 : Try.prog.cellsOf 24 = 1 := by kernel_rfl
    rw [hce] at hlen
    match cs, hlen with
    | [c0, c1, c2, c3], _ =>
    match xs, hxl with
    | [x0, x1, x2, x3], _ =>
    have q0 : DataW.trod enc Try.prog w base (fun _ => true) held n 3 (([c0, c1, c2, c3].drop 0).take (Try.prog.cellsOf 3)) = [x0, x1, x2, x3][0]? := hf 0 _ rfl
    have q1 : DataW.trod enc Try.prog w base (fun _ => true) held n 3 (([c0, c1, c2, c3].drop 1).take (Try.prog.cellsOf 3)) = [x0, x1, x2, x3][1]? := hf 1 _ rfl
    have q2 : DataW.trod enc Try.prog w base (fun _ => true) held n 9 (([c0, c1, c2, c3].drop 2).take (Try.prog.cellsOf 9)) = [x0, x1, x2, x3][2]? := hf 2 _ rfl
    have q3 : DataW.trod enc Try.prog w base (fun _ => true) held n 24 (([c0, c1, c2, c3].drop 3).take (Try.prog.cellsOf 24)) = [x0, x1, x2, x3][3]? := hf 3 _ rfl
    rw [hc3] at q0 q1
    rw [hc9] at q2
    rw [hc24] at q3
    have h0 : DataW.trod enc Try.prog w base (fun _ => true) held n 3 [c0] = some x0 := q0
    have h1 : DataW.trod enc Try.prog w base (fun _ => true) held n 3 [c1] = some x1 := q1
    have h2 : DataW.trod enc Try.prog w base (fun _ => true) held n 9 [c2] = some x2 := q2
    have h3 : DataW.trod enc Try.prog w base (fun _ => true) held n 24 [c3] = some x3 := q3
    obtain ⟨k, e0, rfl, w0⟩ := DataW.trod_int Try.underlying3 h0
    obtain ⟨m, e1, rfl, w1⟩ := DataW.trod_int Try.underlying3 h1
    obtain ⟨s, e2, rfl, w2⟩ := DataW.trod_string Try.underlying9 h2
    simp at e0 e1 e2
    subst e0 e1 e2
    have hws : s.size ≤ 9223372036854775807 := by unfold maxLen at w2; omega
    have hlet : s.data.toList.length = s.size := by rw [Array.length_toList]; rfl
    subst hx
    simp only [List.map_cons, List.map_nil] at hwt
    have hw2 : s.size ≤ 140737488351232 := by
      have := hwt s.data.toList.length (by simp [DataW.weights, DataW.weightsEach, Try.underlying26])
      simp only [reachBytes] at this
      omega
    have hw3 : ∀ n ∈ x3.1.weights Try.prog 24, n ≤ reachBytes := fun n hn => hwt n (by simp [DataW.weights, DataW.weightsEach, Try.underlying26]; right; exact hn)
    clear hwt
    simp only [List.map_cons, List.map_nil, Rows.uptoBulk, Rows.uptoBulkAll, hlet] at hN
    rcases Go.Deep.open_slice Try.underlying24 h3 with ⟨hcs, rfl⟩ | ⟨a, len, cap, mm, n', D, Pl, hcs, hb, hl, hm, hmm, rfl, hx⟩
    · simp at hcs
      subst hcs
      refine ⟨.mk k m s [], none, 0, rfl, ?_, ?_, ?_⟩
      · simp only [At]; exact ⟨Nat.le_refl _, by omega, .inl (by trivial)⟩
      · simp only [Wf, WfL]; exact ⟨wf_i64 w0, wf_i64 w1, hws, by trivial⟩
      · simp only [Sized, SizedL]; exact ⟨hw2, by simp, by trivial⟩
    · simp at hcs
      subst hcs
      simp only [if_true] at hmm
      simp only [Rows.uptoBulk] at hN
      have hDN : ∀ i, i < len → Rows.uptoBulk (D i) ≤ N := fun i hi => by
        have := bulks.part_le (d := D i) (l := (List.range len).map D) (List.mem_map.2 ⟨i, List.mem_range.2 hi, rfl⟩)
        omega
      have hwl : len * 56 ≤ 140737488351232 := by
        have := hw3 _ (by rw [DataW.weights, Try.underlying24]; exact List.mem_cons_self)
        have hbo : Try.prog.bytesOf 26 = 56 := by kernel_rfl
        rw [hbo, List.length_map, List.length_range] at this
        simp only [reachBytes] at this
        omega
      have hwe : ∀ i, i < len → ∀ n ∈ (D i).weights Try.prog 26, n ∈ DataW.weights Try.prog 24 (.slice ((List.range len).map D) ((List.range (mm - len)).map fun j => D (len + j))) := fun i hi n hn => by
        rw [DataW.weights, Try.underlying24]
        exact List.mem_cons_of_mem _ (List.mem_append_left _ (weightsAll_mem (List.mem_map.2 ⟨i, List.mem_range.2 hi, rfl⟩) n hn))
      have each : ∀ i, i < len → ∃ t : Tree, ∃ a' c', (∀ j u, (t.item a' c')[j]? = some u → w.cell? (a.add (i * 4 + j)) = some u) ∧ At w (· < w.heap.size) t a' c' ∧ Wf t ∧ Sized t := fun i hi => by
        obtain ⟨cs', h5, h6⟩ := hx i (by omega)
        obtain ⟨t, a', c', rfl, h7, h8, h9⟩ := ih n' cs' _ (hDN i hi) h6 (fun n hn => hw3 n (hwe i hi n hn))
        rw [hce] at h5
        obtain ⟨_, _, h10⟩ := World.cells?_some h5
        refine ⟨t, a', c', fun j u hu => ?_, h7, h8, h9⟩
        have hj : j < 4 := by have := (List.getElem?_eq_some_iff.1 hu).1; simpa [Tree.item] using this
        rw [← add_of_add, h10 j hj, hu]
      haveI : Inhabited Tree := ⟨.mk 0 0 ⟨#[]⟩ []⟩
      obtain ⟨T, hT⟩ := Go.Deep.choose_lt each
      have hm' : cap ≤ 9223372036854775807 := by unfold maxLen at hm; omega
      refine ⟨.mk k m s ((List.range len).map T), some a, cap, by simp [Tree.item, kind, Tree.num, text, list], ?_, ?_, ?_⟩
      · simp only [At, List.length_map, List.length_range]
        refine ⟨hl, hm', ?_⟩
        rcases Nat.eq_zero_or_pos len with h0 | h0
        · left; subst h0; rfl
        · obtain ⟨b, off, spot⟩ := a
          obtain ⟨a', c', hc0, _⟩ := hT 0 h0
          have hcc := hc0 0 _ rfl
          have hspot : spot = none := by simpa [Addr.add] using World.cell?_spot hcc
          subst hspot
          have hlt := lt_of_cell hcc
          refine .inr ⟨b, off, rfl, by simpa [Addr.add] using hlt, atL_of _ _ _ fun i hi => ?_⟩
          have hi' : i < len := by simpa using hi
          obtain ⟨a', c', h11, h12, _, _⟩ := hT i hi'
          have e : ((List.range len).map T)[i] = T i := by simp
          rw [e]
          refine ⟨a', c', fun j u hu => ?_, h12⟩
          have := h11 j u hu
          rw [add_plain] at this
          rwa [Nat.add_assoc]
      · simp only [Wf]
        refine ⟨wf_i64 w0, wf_i64 w1, hws, wfL_all fun t ht => ?_⟩
        obtain ⟨i, hi, rfl⟩ := List.mem_map.1 ht
        obtain ⟨_, _, _, _, h, _⟩ := hT i (List.mem_range.1 hi)
        exact h
      · simp only [Sized]
        refine ⟨hw2, by simpa using hwl, sizedL_all fun t ht => ?_⟩
        obtain ⟨i, hi, rfl⟩ := List.mem_map.1 ht
        obtain ⟨_, _, _, _, _, h⟩ := hT i (List.mem_range.1 hi)
        exact h
end Go.Proofs.Ytkmikpmbnfcbpaa
