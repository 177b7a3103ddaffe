/- What the walks say of memory: a slice that reads as bytes, a slice of such slices. -/
import Derived.Test.YtnolmcdahpkcnaaPa
import Derived.WalkKit
import Derived.WalkSpells
import Derived.WalkLawsBesides
import Derived.Lib.Hide
namespace Go.Proofs.Ytnolmcdahpkcnaa
open Go.RowKit
set_option linter.unusedVariables false

def cells (bs : List UInt8) : List Value := bs.map fun c => .int .u8 c.toNat
theorem cells_len (bs : List UInt8) : (cells bs).length = bs.length := by simp [cells]
theorem cells_append (a b : List UInt8) : cells (a ++ b) = cells a ++ cells b := by simp [cells]
theorem cells_one (bs : List UInt8) : ∀ u ∈ cells bs, u.oneCell' = true := by
  intro u hu
  obtain ⟨n, _, rfl⟩ := List.mem_map.1 hu
  rfl
theorem cells_get {bs : List UInt8} {i : Nat} (h : i < bs.length) : (cells bs)[i]? = some (.int .u8 (bs.getD i 0).toNat) := by
  simp [cells, List.getElem?_eq_getElem h, List.getD_eq_getElem?_getD]

/-- A slice of bytes (address, length) that reads as bs and lies below block B. -/
def Byt (w : World) (B : Nat) (a : Option Addr) (n : Nat) (bs : List UInt8) : Prop :=
  bs.length = n ∧ (n = 0 ∨ ∃ b off, a = some ⟨b, off, none⟩ ∧ b < B ∧ ∀ i, i < n → w.cell? ⟨b, off + i, none⟩ = some (.int .u8 (bs.getD i 0).toNat))
/-- A slice of slices of bytes that reads as bss and lies below block B. -/
def Lst (w : World) (B : Nat) (a : Option Addr) (n : Nat) (bss : List (List UInt8)) : Prop :=
  bss.length = n ∧ (n = 0 ∨ ∃ b off, a = some ⟨b, off, none⟩ ∧ b < B ∧ ∀ i, i < n → ∃ A l c, w.cell? ⟨b, off + i, none⟩ = some (.slice A l c) ∧ l ≤ c ∧ c ≤ 9223372036854775807 ∧ Byt w B A l (bss.getD i []))

theorem add_plain (b off i : Nat) : (⟨b, off, none⟩ : Addr).add i = ⟨b, off + i, none⟩ := by unfold Addr.add; split <;> simp_all
theorem lt_of_cell {w : World} {a : Addr} {v : Value} (h : w.cell? a = some v) : a.block < w.heap.size := World.block_lt_of_cell? w a h
theorem bcell {W w1 : World} (hb : Below W.heap.size W w1) : (∀ b o, b < W.heap.size → w1.cell? ⟨b, o, none⟩ = W.cell? ⟨b, o, none⟩) ∧ (∀ b o, b < W.heap.size → w1.frozen? ⟨b, o, none⟩ = W.frozen? ⟨b, o, none⟩) :=
  ⟨fun b o h => hb.cell (p := ⟨b, o, none⟩) h, fun b o h => hb.frozen (p := ⟨b, o, none⟩) h⟩

section
variable {w w' : World} {B B' n : Nat} {a : Option Addr} {bs : List UInt8} {bss : List (List UInt8)}
theorem Byt.keep (h : Byt w B a n bs) (hk : ∀ b o, b < B → w'.cell? ⟨b, o, none⟩ = w.cell? ⟨b, o, none⟩) : Byt w' B a n bs := by
  refine ⟨h.1, ?_⟩
  rcases h.2 with h0 | ⟨b, off, rfl, hb, hc⟩
  · exact .inl h0
  · exact .inr ⟨b, off, rfl, hb, fun i hi => (hk b _ hb).trans (hc i hi)⟩
theorem Byt.more (h : Byt w B a n bs) (hB : B ≤ B') : Byt w B' a n bs := by
  refine ⟨h.1, ?_⟩
  rcases h.2 with h0 | ⟨b, off, rfl, hb, hc⟩
  · exact .inl h0
  · exact .inr ⟨b, off, rfl, by omega, hc⟩
theorem Byt.below (h : Byt w B a n bs) (hb : Below B w w') : Byt w' B a n bs := h.keep fun b o hp => hb.cell (p := ⟨b, o, none⟩) hp
theorem Byt.alloc (h : Byt w B a n bs) (hB : B ≤ w.heap.size) (o : Obj) : Byt (w.alloc o) B a n bs := h.below ((Below.refl _ _).alloc hB o)
theorem Byt.drew (h : Byt w B a n bs) : Byt w.drew B a n bs := h
theorem Byt.nil : Byt w B a 0 [] := ⟨rfl, .inl rfl⟩
theorem Byt.at_ (h : Byt w B a n bs) {i : Nat} (hi : i < n) : ∃ b off, a = some ⟨b, off, none⟩ ∧ b < B ∧ ∀ i, i < n → w.cell? ⟨b, off + i, none⟩ = some (.int .u8 (bs.getD i 0).toNat) := by
  rcases h.2 with h0 | h
  · omega
  · exact h
theorem Lst.keep (h : Lst w B a n bss) (hk : ∀ b o, b < B → w'.cell? ⟨b, o, none⟩ = w.cell? ⟨b, o, none⟩) : Lst w' B a n bss := by
  refine ⟨h.1, ?_⟩
  rcases h.2 with h0 | ⟨b, off, rfl, hb, hc⟩
  · exact .inl h0
  · refine .inr ⟨b, off, rfl, hb, fun i hi => ?_⟩
    obtain ⟨A, l, c, h1, h2, h3, h4⟩ := hc i hi
    exact ⟨A, l, c, (hk b _ hb).trans h1, h2, h3, h4.keep hk⟩
theorem Lst.more (h : Lst w B a n bss) (hB : B ≤ B') : Lst w B' a n bss := by
  refine ⟨h.1, ?_⟩
  rcases h.2 with h0 | ⟨b, off, rfl, hb, hc⟩
  · exact .inl h0
  · refine .inr ⟨b, off, rfl, by omega, fun i hi => ?_⟩
    obtain ⟨A, l, c, h1, h2, h3, h4⟩ := hc i hi
    exact ⟨A, l, c, h1, h2, h3, h4.more hB⟩
theorem Lst.below (h : Lst w B a n bss) (hb : Below B w w') : Lst w' B a n bss := h.keep fun b o hp => hb.cell (p := ⟨b, o, none⟩) hp
theorem Lst.alloc (h : Lst w B a n bss) (hB : B ≤ w.heap.size) (o : Obj) : Lst (w.alloc o) B a n bss := h.below ((Below.refl _ _).alloc hB o)
theorem Lst.nil : Lst w B a 0 [] := ⟨rfl, .inl rfl⟩
end

theorem ret_int {k : IntKind} {a b : Int} (h : a = b) : Ending.returned (.int k a) = .returned (.int k b) := by rw [h]

def flatTo (bss : List (List UInt8)) (k : Nat) : List UInt8 := (bss.take k).flatten
theorem flatTo_succ {bss : List (List UInt8)} {k : Nat} (h : k < bss.length) : flatTo bss (k + 1) = flatTo bss k ++ bss.getD k [] := by
  unfold flatTo
  rw [List.take_succ_eq_append_getElem h, List.flatten_append, getD_eq h]; simp
theorem flatTo_all (bss : List (List UInt8)) : flatTo bss bss.length = bss.flatten := by unfold flatTo; rw [List.take_length]
end Go.Proofs.Ytnolmcdahpkcnaa
