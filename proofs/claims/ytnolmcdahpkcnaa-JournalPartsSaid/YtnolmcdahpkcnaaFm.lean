/- What the frames hand on of slices of bytes. -/
import Derived.Test.YtnolmcdahpkcnaaFl
import Derived.OpenShut
namespace Go.Proofs.Ytnolmcdahpkcnaa
open Go.RowKit
set_option linter.unusedVariables false

/-- WHAT THE WALK IS TOLD OF A SLICE OF INTEGERS THAT CAME IN (the guide's shell). -/
def IsRow (k : IntKind) (w : World) (a : Option Addr) (len cap : Nat) (zs : List Int) : Prop :=
  (a = none ∧ len = 0 ∧ cap = 0 ∧ zs = []) ∨
  ∃ x, a = some x ∧ len ≤ cap ∧ cap ≤ maxLen ∧ zs.length = cap ∧ (∀ i, i < zs.length → w.cell? (x.add i) = some (.int k (zs.getD i 0))) ∧ ∀ n ∈ zs, (Lit.int k n).wf = true

theorem IsRow.byt {w : World} {a : Option Addr} {len cap : Nat} {zs : List Int} (h : IsRow .u8 w a len cap zs) :
    ∃ bs, Byt w w.heap.size a len bs ∧ len ≤ cap ∧ cap ≤ 9223372036854775807 := by
  rcases h with ⟨rfl, rfl, rfl, rfl⟩ | ⟨x, rfl, hl, hm, hz, hc, hw⟩
  · exact ⟨[], Byt.nil, Nat.le_refl _, by omega⟩
  · refine ⟨(zs.take len).map fun n => UInt8.ofNat n.toNat, ⟨by rw [List.length_map, List.length_take]; omega, ?_⟩, hl, by unfold maxLen at hm; omega⟩
    rcases Nat.eq_zero_or_pos len with h0 | h0
    · exact .inl h0
    · obtain ⟨b, off, spot⟩ := x
      have hc0 := hc 0 (by omega)
      have hspot : spot = none := by simpa [Addr.add] using World.cell?_spot hc0
      subst hspot
      have hlt := lt_of_cell hc0
      refine .inr ⟨b, off, rfl, by simpa [Addr.add] using hlt, fun i hi => ?_⟩
      have := hc i (by omega)
      rw [add_plain] at this
      rw [this]
      have hb := bounds_u8 (hw (zs.getD i 0) (by rw [getD_eq (by omega)]; exact List.getElem_mem _))
      have e : ((zs.take len).map fun n => UInt8.ofNat n.toNat).getD i 0 = UInt8.ofNat (zs.getD i 0).toNat := by
        rw [getD_eq (by rw [List.length_map, List.length_take]; omega), getD_eq (by omega)]
        simp
      rw [e, toNat_ofNat (by omega), Int.toNat_of_nonneg hb.1]
end Go.Proofs.Ytnolmcdahpkcnaa
