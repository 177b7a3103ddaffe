/- ItemSame: the given statement, out of the walk of YtkmikpmbnfcbpaaWItemSameAny: for every input the law returns true, and its arguments read as they did. No condition but the form's own: each text and list takes at most 2^47 - 4096 bytes. -/
import Derived.Test.YtkmikpmbnfcbpaaWItemSameAny
import Derived.Test.YtkmikpmbnfcbpaaGu
import Derived.WalkKit
import Derived.ProofKit
import Derived.OpenShut
import Derived.ChangeOld
import Derived.SizedLaws
import Derived.Below
namespace Go.Proofs.Ytkmikpmbnfcbpaa.itemSame
open Go.ChangeShapes Go.WideShapes Go.ChangeAt Go.RowKit
set_option linter.unusedVariables false

theorem own : ownKnob Try.prog.godebug = none := by kernel_rfl
theorem laidOut : laidOutB Try.prog = true := by kernel_rfl

set_option maxRecDepth 100000 in
theorem lifted (os : Os) (started : os.Started) (H : Type) (enc : TypeId × Value → H) :
    ReturnsInHanded {} Try.checked os 8 .any (Rows.itemSameSpec.pre6 enc Try.prog Try.f8 Rows.itemSameRow.domain false) (Rows.itemSameSpec.post enc Try.prog Try.f8 false true false false) := by
  refine returnsInHanded_of_change_sized (C := Try.checked) own started (by kernel_rfl) Try.func8
    (ChangeSpec.witness6 (enc := enc) (C := Try.checked) false ⟨#[], #[.agg #[.int .i64 0, .int .i64 0, .string ⟨#[]⟩, .slice none 0 0], .agg #[.int .i64 0, .int .i64 0, .string ⟨#[]⟩, .slice none 0 0]], []⟩ 8 (by kernel_rfl) (by kernel_rfl) (by kernel_rfl) (by kernel_rfl)) ?_
  intro W base args ds gs before hval0 hW hcnd hsz _
  have hval : ∀ (j : Nat) t v, Try.f8.params[j]? = some t → args[j]? = some v → Value.okWide Try.prog W .any base t v := hval0
  have hW' := hW
  obtain ⟨p, q, hA0, hV, rfl, hfz, hnd⟩ := hW
  have hA : DataW.TrodAll enc Try.prog W 0 (fun _ => true) true Try.f8.params.toList args.toList ds p := hA0
  rw [Try.params8] at hA hval hsz
  obtain ⟨v0, vs0, d0, ds0, p0, q0, hargs, rfl, rfl, h0, r0⟩ := trodAll_cons hA
  obtain ⟨v1, vs1, d1, ds1, p1, q1, rfl, rfl, rfl, h1, r1⟩ := trodAll_cons r0
  obtain ⟨rfl, rfl, rfl⟩ := trodAll_nil r1
  obtain rfl : args = #[v0, v1] := by cases args; simp_all
  obtain ⟨rfl, rfl⟩ := trodVars_none hV
  have k0 := h0
  have lt0 : ∀ x ∈ p0, x.block < W.heap.size := by obtain ⟨m, hm⟩ := k0; exact DataW.trod_lt m _ _ _ hm
  obtain ⟨t0, a0, c0, rfl, A0, F0, B0⟩ : ∃ t a c, v0 = Tree.val t a c ∧ Tree.At W (· < W.heap.size) t a c ∧ Tree.Wf t ∧ Sized t := by
    obtain ⟨fuel, hf⟩ := h0
    obtain ⟨t, a, c, e, hA, hF, hB⟩ := open_item2 _ fuel _ _ (Nat.le_refl _) hf fun n hn => by
      have := List.all_eq_true.1 hsz n (DataW.weights_mem_each (j := 0) (t := 26) (d := d0) rfl rfl n hn)
      simpa using this
    exact ⟨t, a, c, val_of_cells e, hA, hF, hB⟩
  have k1 := h1
  have lt1 : ∀ x ∈ p1, x.block < W.heap.size := by obtain ⟨m, hm⟩ := k1; exact DataW.trod_lt m _ _ _ hm
  obtain ⟨t1, a1, c1, rfl, A1, F1, B1⟩ : ∃ t a c, v1 = Tree.val t a c ∧ Tree.At W (· < W.heap.size) t a c ∧ Tree.Wf t ∧ Sized t := by
    obtain ⟨fuel, hf⟩ := h1
    obtain ⟨t, a, c, e, hA, hF, hB⟩ := open_item2 _ fuel _ _ (Nat.le_refl _) hf fun n hn => by
      have := List.all_eq_true.1 hsz n (DataW.weights_mem_each (j := 1) (t := 26) (d := d1) rfl rfl n hn)
      simpa using this
    exact ⟨t, a, c, val_of_cells e, hA, hF, hB⟩
  clear hA0 hval0
  refine (walk_itemSame_any t0 a0 c0 t1 a1 c1 W A0 F0 A1 F1 B0).mono fun e W' ⟨he, bel⟩ => ?_
  subst he
  exact ⟨_, rfl, _, _, _, [], _, [], hW', trodAll_mk1 (shut_bool Try.underlying4 _), (trodAll_cons_mk (Below.trod laidOut (by kernel_rfl) (of_decide_eq_true (by kernel_rfl)) k0 bel lt0) (trodAll_cons_mk (Below.trod laidOut (by kernel_rfl) (of_decide_eq_true (by kernel_rfl)) k1 bel lt1) trodAll_mk0)), rfl, bel.frame _, fun h => by cases h⟩

theorem over : Rows.itemSameRow.holds Try.pinned (OpenSpec.ofChange Rows.itemSameSpec) :=
  OpenClaim.holds_of_wide 8 Try.f8 rfl rfl rfl rfl rfl rfl rfl ⟨rfl, rfl, rfl, rfl, rfl⟩ rfl rfl rfl rfl rfl (by kernel_rfl) Try.func8 (by kernel_rfl)
    (of_decide_eq_true (by kernel_rfl)) (by unfold Func.isWrapper; first | (rw [if_pos (by decide +kernel)]; kernel_rfl) | (rw [if_neg (by decide +kernel)]; exact ⟨rfl, rfl⟩))
    (fun os started H enc _ => lifted os started H enc)

/-- The statement. -/
theorem proved : Rows.ItemSameSaid := over
end Go.Proofs.Ytkmikpmbnfcbpaa.itemSame
