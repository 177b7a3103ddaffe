/- The plain part of the journal: Adler-32 sums, four bytes of a number, frames. -/
import Derived.Test.YtnolmcdahpkcnaaRows
namespace Go.Proofs.Ytnolmcdahpkcnaa

/-- One step of the sum. -/
def adStep (s : Nat × Nat) (c : UInt8) : Nat × Nat := ((s.1 + c.toNat) % 65521, (s.2 + (s.1 + c.toNat) % 65521) % 65521)
def ad (l : List UInt8) : Nat × Nat := l.foldl adStep (1, 0)
def sumN (l : List UInt8) : Nat := 65536 * (ad l).2 + (ad l).1

theorem ad_snoc (l : List UInt8) (c : UInt8) : ad (l ++ [c]) = adStep (ad l) c := by simp [ad, List.foldl_append]
theorem adStep_lt (s : Nat × Nat) (c : UInt8) : (adStep s c).1 < 65521 ∧ (adStep s c).2 < 65521 := ⟨Nat.mod_lt _ (by omega), Nat.mod_lt _ (by omega)⟩
theorem ad_lt (l : List UInt8) : (ad l).1 < 65521 ∧ (ad l).2 < 65521 := by
  rcases List.eq_nil_or_concat l with rfl | ⟨l, c, rfl⟩
  · simp [ad]
  · rw [List.concat_eq_append, ad_snoc]; exact adStep_lt _ _
theorem sumN_lt (l : List UInt8) : sumN l < 4294967296 := by have := ad_lt l; unfold sumN; omega
theorem ad_append (a b : List UInt8) : ad (a ++ b) = b.foldl adStep (ad a) := by simp [ad, List.foldl_append]

theorem take_snoc (l : List UInt8) (k : Nat) (h : k < l.length) : l.take (k + 1) = l.take k ++ [l.getD k 0] := by
  rw [List.take_succ_eq_append_getElem h]; simp [h]
theorem getD_eq {α : Type} {l : List α} {k : Nat} {d : α} (h : k < l.length) : l.getD k d = l[k] := by
  rw [List.getD_eq_getElem?_getD, List.getElem?_eq_getElem h]; rfl

/-- The sums of the reference: S k of the first k, T n k of the first k, each so often as from its place on to n. -/
def sS (l : List UInt8) : Nat → Nat
  | 0 => 0
  | k + 1 => sS l k + (l.getD k 0).toNat
def sT (n : Nat) (l : List UInt8) : Nat → Nat
  | 0 => 0
  | k + 1 => sT n l k + (n - k) * (l.getD k 0).toNat
theorem sT_succ (n : Nat) (l : List UInt8) (k : Nat) (h : k ≤ n) : sT (n + 1) l k = sT n l k + sS l k := by
  induction k with
  | zero => rfl
  | succ k ih =>
    have e : n + 1 - k = (n - k) + 1 := by omega
    simp only [sT, sS]
    rw [ih (by omega), e, Nat.add_mul]; omega
theorem ad_sums (l : List UInt8) : ∀ k, k ≤ l.length → ad (l.take k) = ((1 + sS l k) % 65521, (k + sT k l k) % 65521) := by
  intro k
  induction k with
  | zero => intro _; rfl
  | succ k ih =>
    intro h
    rw [take_snoc l k h, ad_snoc, ih (by omega)]
    have e : k + 1 - k = 1 := by omega
    have h2 : sT (k + 1) l (k + 1) = sT k l k + sS l k + (l.getD k 0).toNat := by
      show sT (k + 1) l k + (k + 1 - k) * (l.getD k 0).toNat = _
      rw [sT_succ k l k (Nat.le_refl _), e, Nat.one_mul]
    unfold adStep
    rw [h2]
    simp only [sS, Nat.mod_add_mod, Nat.add_mod_mod, Prod.mk.injEq]
    constructor
    · congr 1; omega
    · congr 1; omega
theorem sS_le (l : List UInt8) (k : Nat) : sS l k ≤ 255 * k := by
  induction k with
  | zero => simp [sS]
  | succ k ih => have := (l.getD k 0).toNat_lt; simp only [sS]; omega
theorem sT_le (n : Nat) (l : List UInt8) (k : Nat) : sT n l k ≤ 255 * n * k := by
  induction k with
  | zero => simp [sT]
  | succ k ih =>
    have h1 := (l.getD k 0).toNat_lt
    have h2 : (n - k) * (l.getD k 0).toNat ≤ n * 255 := Nat.mul_le_mul (by omega) (by omega)
    simp only [sT, Nat.mul_succ]; omega
theorem sT_mono (n : Nat) (l : List UInt8) (k j : Nat) : sT n l k ≤ sT n l (k + j) := by
  induction j with
  | zero => exact Nat.le_refl _
  | succ j ih => rw [← Nat.add_assoc]; simp only [sT]; omega
theorem sumN_sums (l : List UInt8) : sumN l = 65536 * ((l.length + sT l.length l l.length) % 65521) + (1 + sS l l.length) % 65521 := by
  have := ad_sums l l.length (Nat.le_refl _)
  rw [List.take_length] at this
  unfold sumN
  rw [this]

/-- Four bytes of a number, the highest first; and back. -/
def be4 (n : Nat) : List UInt8 := [UInt8.ofNat (n / 16777216), UInt8.ofNat (n / 65536 % 256), UInt8.ofNat (n / 256 % 256), UInt8.ofNat (n % 256)]
def un4 (l : List UInt8) : Nat := (l.getD 0 0).toNat * 16777216 + (l.getD 1 0).toNat * 65536 + (l.getD 2 0).toNat * 256 + (l.getD 3 0).toNat
theorem be4_len (n : Nat) : (be4 n).length = 4 := rfl
theorem un4_lt (l : List UInt8) : un4 l < 4294967296 := by
  have h0 := (l.getD 0 0).toNat_lt; have h1 := (l.getD 1 0).toNat_lt; have h2 := (l.getD 2 0).toNat_lt; have h3 := (l.getD 3 0).toNat_lt
  unfold un4; omega
theorem toNat_ofNat {n : Nat} (h : n < 256) : (UInt8.ofNat n).toNat = n := by rw [UInt8.toNat_ofNat']; omega
theorem un4_be4 {n : Nat} (h : n < 4294967296) (l : List UInt8) : un4 (be4 n ++ l) = n := by
  show (UInt8.ofNat (n / 16777216)).toNat * 16777216 + (UInt8.ofNat (n / 65536 % 256)).toNat * 65536 + (UInt8.ofNat (n / 256 % 256)).toNat * 256 + (UInt8.ofNat (n % 256)).toNat = n
  rw [toNat_ofNat (by omega), toNat_ofNat (by omega), toNat_ofNat (by omega), toNat_ofNat (by omega)]; omega
theorem be4_un4 (a b c d : UInt8) : be4 (un4 [a, b, c, d]) = [a, b, c, d] := by
  have ha := a.toNat_lt; have hb := b.toNat_lt; have hc := c.toNat_lt; have hd := d.toNat_lt
  have hu : un4 [a, b, c, d] = a.toNat * 16777216 + b.toNat * 65536 + c.toNat * 256 + d.toNat := rfl
  unfold be4
  rw [hu, show (a.toNat * 16777216 + b.toNat * 65536 + c.toNat * 256 + d.toNat) / 16777216 = a.toNat by omega,
    show (a.toNat * 16777216 + b.toNat * 65536 + c.toNat * 256 + d.toNat) / 65536 % 256 = b.toNat by omega,
    show (a.toNat * 16777216 + b.toNat * 65536 + c.toNat * 256 + d.toNat) / 256 % 256 = c.toNat by omega,
    show (a.toNat * 16777216 + b.toNat * 65536 + c.toNat * 256 + d.toNat) % 256 = d.toNat by omega]
  simp [UInt8.ofNat_toNat]
theorem un4_take (l : List UInt8) : un4 (l.take 4) = un4 l := by
  unfold un4
  simp [List.getD_eq_getElem?_getD]
theorem be4_un4_take {l : List UInt8} (h : 4 ≤ l.length) : be4 (un4 l) = l.take 4 := by
  match l, h with
  | a :: b :: c :: d :: r, _ => rw [← un4_take]; exact be4_un4 a b c d

def frame (b : List UInt8) : List UInt8 := be4 b.length ++ (be4 (sumN (be4 b.length ++ b)) ++ b)
theorem frame_len (b : List UInt8) : (frame b).length = 8 + b.length := by simp [frame, be4_len]; omega
end Go.Proofs.Ytnolmcdahpkcnaa
