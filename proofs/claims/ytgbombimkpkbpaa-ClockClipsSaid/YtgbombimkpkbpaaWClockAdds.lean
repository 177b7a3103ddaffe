/- ClockAdds: the walk. -/
import Derived.Test.YtgbombimkpkbpaaWd
import Derived.OpenShut
namespace Go.Proofs.Ytgbombimkpkbpaa
open Go.RowKit
set_option linter.unusedVariables false

/-- WHAT THE WALK IS TOLD OF A SLICE OF INTEGERS THAT CAME IN (the guide's shell). -/
def IsRow (k : IntKind) (w : World) (a : Option Addr) (len cap : Nat) (zs : List Int) : Prop :=
  (a = none ∧ len = 0 ∧ cap = 0 ∧ zs = []) ∨
  ∃ x, a = some x ∧ len ≤ cap ∧ cap ≤ maxLen ∧ zs.length = cap ∧ (∀ i, i < zs.length → w.cell? (x.add i) = some (.int k (zs.getD i 0))) ∧ ∀ n ∈ zs, (Lit.int k n).wf = true

theorem lt_of_cell {w : World} {a : Addr} {v : Value} (h : w.cell? a = some v) : a.block < w.heap.size := World.block_lt_of_cell? w a h

theorem add_plain (b off i : Nat) : (⟨b, off, none⟩ : Addr).add i = ⟨b, off + i, none⟩ := by unfold Addr.add; split <;> simp_all

/-- What came in, as the walk wants it: the first len numbers. -/
theorem IsRow.open_ {k : IntKind} {w : World} {a : Option Addr} {len cap : Nat} {zs : List Int} (h : IsRow k w a len cap zs) :
    (zs.take len).length = len ∧ len ≤ maxLen ∧ (0 < len → ∃ b off, a = some ⟨b, off, none⟩ ∧ b < w.heap.size ∧ ∀ i, i < len → w.cell? ⟨b, off + i, none⟩ = some (.int k ((zs.take len).getD i 0))) := by
  rcases h with ⟨rfl, rfl, rfl, rfl⟩ | ⟨x, rfl, hl, hm, hz, hc, _⟩
  · exact ⟨rfl, by simp [maxLen], fun h => by omega⟩
  · refine ⟨by rw [List.length_take]; omega, by omega, fun h0 => ?_⟩
    obtain ⟨b, off, spot⟩ := x
    have hc0 := hc 0 (by omega)
    have hspot : spot = none := by simpa [Addr.add] using World.cell?_spot hc0
    subst hspot
    have hlt := lt_of_cell hc0
    refine ⟨b, off, rfl, by simpa [Addr.add] using hlt, fun i hi => ?_⟩
    have := hc i (by omega)
    rw [add_plain] at this
    rw [this, List.getD_eq_getElem?_getD, List.getD_eq_getElem?_getD, List.getElem?_take, if_pos hi]

theorem IsRow.ints {w : World} {a : Option Addr} {len cap : Nat} {zs : List Int} (h : IsRow .i64 w a len cap zs) : IsInts w a len (zs.take len) := by
  obtain ⟨h1, _, h3⟩ := h.open_
  refine ⟨h1, ?_⟩
  rcases Nat.eq_zero_or_pos len with h0 | h0
  · exact .inl h0
  · obtain ⟨b, off, rfl, _, hc⟩ := h3 h0
    exact .inr ⟨b, off, rfl, hc⟩

theorem IsRow.reads {w : World} {a : Option Addr} {len cap : Nat} {zs : List Int} (h : IsRow .i64 w a len cap zs) : Reads w w.heap.size 1 a len ((zs.take len).map (Value.int .i64)) := by
  obtain ⟨h1, _, h3⟩ := h.open_
  refine ⟨by rw [List.length_map, h1, Nat.mul_one], fun h0 => ?_⟩
  obtain ⟨b, off, rfl, hb, hc⟩ := h3 h0
  refine ⟨_, rfl, hb, fun j u hu => ?_⟩
  have hj : j < len := by have := (List.getElem?_eq_some_iff.1 hu).1; rw [List.length_map, h1] at this; exact this
  rw [add_plain, hc j hj]
  rw [List.getElem?_map] at hu
  rw [List.getD_eq_getElem?_getD]
  cases hx : (zs.take len)[j]? with
  | none => rw [hx] at hu; cases hu
  | some x => rw [hx] at hu; simpa using hu

theorem one_ints (zs : List Int) : ∀ u ∈ zs.map (Value.int .i64), u.oneCell' = true := by
  intro u hu
  obtain ⟨n, _, rfl⟩ := List.mem_map.1 hu
  rfl

theorem IsInts.below {w w' : World} {B : Nat} {a : Option Addr} {len : Nat} {zs : List Int} (h : IsInts w a len zs) (hb : Below B w w') (hB : B = w.heap.size) : IsInts w' a len zs := by
  refine ⟨h.1, ?_⟩
  rcases h.2 with h0 | ⟨b, off, rfl, hc⟩
  · exact .inl h0
  · rcases Nat.eq_zero_or_pos len with h0 | h0
    · exact .inl h0
    · refine .inr ⟨b, off, rfl, fun i hi => ?_⟩
      have := hc i hi
      have hlt := lt_of_cell this
      rw [hb.cell (by rw [hB]; exact hlt)]
      exact this

/-- A row of the call's own reads as its numbers. -/
theorem own_ints {w : World} {base : Nat} {v : Value} {n : Nat} {zs : List Int} (h : w.ownsRow base 3 1 v n (zs.map (Value.int .i64))) (hn : 0 < n) :
    ∃ g cap, v = .slice (some ⟨g, 0, none⟩) n cap ∧ base ≤ g ∧ IsInts w (some ⟨g, 0, none⟩) n zs := by
  have h1 := h.1
  rw [List.length_map, Nat.mul_one] at h1
  rcases h.2 with ⟨_, h0⟩ | ⟨g, cap, cur, rfl, hb, hg, hr⟩
  · omega
  · refine ⟨g, cap, rfl, hb, h1, .inr ⟨g, 0, rfl, fun i hi => ?_⟩⟩
    have := h.cells (g := g) rfl i (.int .i64 (zs.getD i 0)) (by rw [List.getElem?_map, List.getD_eq_getElem?_getD, List.getElem?_eq_getElem (by omega)]; rfl)
    rwa [add_plain] at this

theorem int_info : (Try.prog.info? 3).map (fun i => (i.zero, i.size, i.bytes)) = some (some (.int .i64 0), 1, 8) := by kernel_rfl

theorem clip_cons (t : Int) (zs : List Int) : clipAt 0 (t :: zs) (t :: zs).length = clipAt t zs zs.length := by
  unfold clipAt
  rw [List.take_length, List.take_length, List.foldl_cons]
  congr 1
  have h0 : one 0 = 0 := rfl
  have := one_bd t
  rw [h0, Int.zero_add]
  have : ∀ x, 0 ≤ x ∧ x ≤ 1099511627775 → one x = x := fun x hx => by unfold one; rw [if_neg (by omega), if_neg (by omega)]
  exact this _ (one_bd t)

set_option maxHeartbeats 1000000 in
theorem walk_clockAdds (a0 : Int) (a1 : Option Addr) (len1 cap1 : Nat) (z1 : List Int) (w : World) (w0 : (Lit.int .i64 a0).wf = true) (w1 : IsRow .i64 w a1 len1 cap1 z1) :
    Calls Try.prog 3 #[.int .i64 a0, .slice a1 len1 cap1] w fun e w' => e = .returned (.bool true) ∧ Below w.heap.size w w' := by
  obtain ⟨b0, b1⟩ := bounds_i64 w0
  have hl := w1.open_.2.1
  have HI := Lib.hid w1.ints
  have HR := Lib.hid w1.reads
  generalize z1.take len1 = zs at HI HR
  clear w0 w1
  unfold maxLen at hl
  by_cases hlen : 200 < len1
  · go_enter Try.func3, Try.ntmps3
    go_wp2_with (first
      | (go_at_call 11; refine (known_calls _).mono ?_; rintro e w1 ⟨rfl, hb⟩))
    go_ret
    exact ⟨rfl, hb⟩
  · obtain ⟨i0, hi0, hz0, hz1, hz2⟩ := info_parts int_info
    go_enter Try.func3, Try.ntmps3
    go_wp2_with (first
      | (at_builtin
         refine wpList_append_any _ rfl (.tmp 16) (.tmp 17) _ rfl w.heap.size 3 i0 _ 1 8 Try.underlying22 hi0 hz0 hz1 hz2 rfl (by omega) (.slice (some ⟨w.heap.size, 0, none⟩) 1 1) 1 [.int .i64 a0] rfl
           ⟨rfl, .inr ⟨w.heap.size, 1, #[.int .i64 a0], rfl, Nat.le_refl _, heap_alloc_new w _, Nat.le_refl _, by simp [maxLen], rfl, rfl⟩⟩ w.heap.size a1 len1 cap1 (zs.map (Value.int .i64)) rfl (HR.out.alloc (Nat.le_refl _) _) (one_ints _) (by simp only [maxLen]; omega) (by omega) (by simp) ?_
         intro v1 w1 hown1 hg1 hat1))
    have hown2 : w1.ownsRow w.heap.size 3 1 v1 (1 + len1) ((a0 :: zs).map (Value.int .i64)) := hown1
    obtain ⟨g, cap, hv, hg, hz⟩ := own_ints hown2 (by omega)
    subst hv
    have hb : Below w.heap.size w w1 := ((Below.refl _ _).alloc (Nat.le_refl _) _).grown hg1 (by simp) (fun k hk => by simp [Value.ownBlock] at hk; omega)
    have HI1 := Lib.hid (HI.out.below hb rfl)
    have HZ := Lib.hid hz
    have HC := Lib.hid (clip_cons a0 zs)
    clear hown1 hown2 hg1 hat1 hz HR
    go_wp2_with (first
      | (go_at_call 12; refine (add_calls _ _ _ _ zs _ HI1.out (by omega) b0 b1).mono ?_; rintro e w' ⟨rfl, rfl⟩)
      | (go_at_call 13; refine (radd_calls _ _ _ (a0 :: zs) _ HZ.out (by omega)).mono ?_; rintro e w' ⟨rfl, rfl⟩)
      | (go_at_call 14; refine (clip_calls _ _ _ _ zs _ HI1.out (by omega)).mono ?_; rintro e w' ⟨rfl, rfl⟩; rw [← HC.out])
      | (go_at_call 15; refine (rclip_calls _ _ _ (a0 :: zs) _ HZ.out (by omega)).mono ?_; rintro e w' ⟨rfl, rfl⟩)
      | (go_at_call 11; refine (known_calls _).mono ?_; rintro e w2 ⟨rfl, hb2⟩))
    go_ret
    exact ⟨rfl, hb.trans (hb2.mono hb.size)⟩
end Go.Proofs.Ytgbombimkpkbpaa
