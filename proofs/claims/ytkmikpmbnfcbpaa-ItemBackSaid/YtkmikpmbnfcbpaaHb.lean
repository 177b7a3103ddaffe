/- What ItemTypes builds; the contract of ones. -/
import Derived.Test.YtkmikpmbnfcbpaaHa
namespace Go.Proofs.Ytkmikpmbnfcbpaa
open Go.RowKit Go.Lib
set_option linter.unusedVariables false
open Tree Anyv

namespace Anyv
def badA (n : Int) (s : ByteArray) (f : Bool) : Nat → Anyv
  | 0 => .flag f
  | k + 1 => .lst [.num n, .str s, badA n s f k]
def goodA (n : Int) (s : ByteArray) : Nat → Anyv
  | 0 => .num n
  | k + 1 => .lst [.str s, goodA n s k]
def goodT (n : Int) (s : ByteArray) : Nat → Tree
  | 0 => .mk 1 n ⟨#[]⟩ []
  | k + 1 => .mk 3 0 ⟨#[]⟩ [.mk 2 0 s [], goodT n s k]
theorem bad_ty (n : Int) (s : ByteArray) (f : Bool) : ∀ (k d : Nat), k + d ≤ 200 → ¬ Ty d (badA n s f k)
  | 0, d, _ => by simp [badA, Ty]
  | k + 1, d, h => by
    simp only [badA, Ty, TyL, not_or]
    refine ⟨by omega, fun h2 => ?_⟩
    exact bad_ty n s f k (d + 1) (by omega) h2.2.2.1
theorem good_ty (n : Int) (s : ByteArray) : ∀ (k d : Nat), Ty d (goodA n s k)
  | 0, d => by simp [goodA, Ty]
  | k + 1, d => by
    simp only [goodA, Ty, TyL]
    exact .inr ⟨trivial, good_ty n s k (d + 1), trivial⟩
theorem good_size (n : Int) (s : ByteArray) : ∀ k, (goodA n s k).size = 1 + 2 * k
  | 0 => rfl
  | k + 1 => by have := good_size n s k; simp only [goodA, Anyv.size, sizeL]; omega
theorem good_of (n : Int) (s : ByteArray) : ∀ (k d : Nat), k + d ≤ 20 → ofA d (goodA n s k) = goodT n s k
  | 0, d, _ => by simp only [goodA, ofA, goodT]
  | k + 1, d, h => by
    simp only [goodA, ofA, goodT]
    rw [if_neg (by omega)]
    simp only [ofL, ofA]
    rw [good_of n s k (d + 1) (by omega)]
theorem good_deep (n : Int) (s : ByteArray) : ∀ (j k d : Nat), d + j = 20 → j ≤ k → j + 1 ≤ (ofA d (goodA n s k)).depth
  | 0, k, d, _, _ => by have := depth_pos (ofA d (goodA n s k)); omega
  | j + 1, 0, d, _, h => by omega
  | j + 1, k + 1, d, h, hk => by
    have h1 := good_deep n s j k (d + 1) (by omega) (by omega)
    simp only [goodA, ofA]
    rw [if_neg (by omega)]
    simp only [ofL, depth, depthL]
    omega
theorem goodT_right (n : Int) (s : ByteArray) : ∀ k, Right (goodT n s k)
  | 0 => by simp [goodT, Right, RightL, fields, kind, Tree.num, text, list]
  | k + 1 => by
    have := goodT_right n s k
    simp [goodT, Right, RightL, fields, kind, Tree.num, text, list]
    exact this
theorem goodT_depth (n : Int) (s : ByteArray) : ∀ k, (goodT n s k).depth = k + 1
  | 0 => rfl
  | k + 1 => by have := goodT_depth n s k; simp only [goodT, depth, depthL]; omega
theorem goodT_count (n : Int) (s : ByteArray) : ∀ k, (goodT n s k).count = 1 + 2 * k
  | 0 => rfl
  | k + 1 => by have := goodT_count n s k; simp only [goodT, count, countL]; omega
theorem atE_cons {t : Tree} {i : Int} {p : List Int} (hk : t.kind = 3) (h0 : 0 ≤ i) (h : i.toNat < t.list.length) : atE t (i :: p) = atE (t.list[i.toNat]'h) p := by
  conv => lhs; unfold atE
  rw [if_neg (by simp [hk]), dif_pos ⟨h0, h⟩]
theorem goodT_at (n : Int) (s : ByteArray) : ∀ k, atE (goodT n s k) (List.replicate k 1) = (.mk 1 n ⟨#[]⟩ [], 0)
  | 0 => rfl
  | k + 1 => by
    have := goodT_at n s k
    rw [List.replicate_succ, atE_cons (i := 1) (by rfl) (by omega) (by show 1 < 2; omega)]
    exact this
theorem lies_new {w : World} {xs : List Value} {l : List Anyv} (h : RowA (w.alloc (.cells xs.toArray 20)) (· < (w.alloc (.cells xs.toArray 20)).heap.size) l xs) (hn : xs.length = l.length) (hm : l.length ≤ 9223372036854775807) :
    Lies (w.alloc (.cells xs.toArray 20)) (· < (w.alloc (.cells xs.toArray 20)).heap.size) (.lst l) (.iface 59 (.slice (some ⟨w.heap.size, 0, none⟩) l.length l.length)) := by
  simp only [Lies]
  refine ⟨_, _, rfl, Nat.le_refl _, hm, .inr ⟨_, _, rfl, by simp, RowA.liesL l xs _ _ h fun j u hu => ?_⟩⟩
  rw [cell_new rfl, Nat.zero_add]
  simpa using hu
end Anyv

set_option maxHeartbeats 2000000 in
theorem ones33 (k : Nat) (w : World) (hk : k ≤ 1000) : Calls Try.prog 33 #[.int .i64 k] w fun e w' => ∃ a c, e = .returned (.slice a k c) ∧ k ≤ c ∧ c ≤ 9223372036854775807 ∧ Nums w' w'.heap.size a k (List.replicate k 1) ∧ Below w.heap.size w w' := by
  obtain ⟨i0, hi0, hz0, hz1, hz2⟩ := info_parts int_info
  go_enter Try.func33, Try.ntmps33
  go_wp2_with fail
  go_loopw [3, 4] (fun u i wr => ∃ (q : Nat) (v : Value), q ≤ k ∧ i = .int .i64 (q : Nat) ∧ v = u ∧ wr.ownsRow w.heap.size 3 1 v q ((List.replicate q (1 : Int)).map (Value.int .i64)) ∧ Below w.heap.size w wr) (fun _ i _ => k - (intOf i).toNat)
  case atStart => exact ⟨0, _, Nat.zero_le _, rfl, rfl, World.ownsRow_nil _ _ _ _, Below.refl _ _⟩
  case round =>
    obtain ⟨q, v, hq, rfl, rfl, hO, hbl⟩ := hrel
    have HO := Lib.hid hO
    have HW := Lib.hid hbl
    have hsz := hbl.size
    clear hO hbl
    by_cases hlt : q < k
    · go_wp2_with (first
        | (at_builtin
           refine wpList_append_any _ rfl (.tmp 10) (.tmp 11) _ rfl w.heap.size 3 i0 _ 1 8 Try.underlying48 hi0 hz0 hz1 hz2 rfl (by omega) v q ((List.replicate q (1 : Int)).map (Value.int .i64)) rfl
             (HO.out.alloc _) (wr.heap.size + 1) (some ⟨wr.heap.size, 0, none⟩) 1 1 [.int .i64 1] rfl ⟨rfl, fun _ => ⟨_, rfl, by show wr.heap.size < wr.heap.size + 1; omega, fun i u hu => by
               obtain rfl : i = 0 := by cases i with
                 | zero => rfl
                 | succ i => simp at hu
               rw [add_plain, cell_new rfl]; simpa using hu⟩⟩ (by intro u hu; simp at hu; subst hu; rfl) (by simp only [maxLen]; omega) (by omega) (by simp; omega) ?_
           intro v6 w6 hown6 hg6 hat6
           have HO6 : Hid (w6.ownsRow w.heap.size 3 1 v6 (q + 1) ((List.replicate (q + 1) (1 : Int)).map (Value.int .i64))) := by unfold Hid; rw [List.replicate_succ', List.map_append]; exact hown6
           have HW6 : Hid (Below w.heap.size w w6) := (HW.out.alloc hsz _).grown hg6 (by simp; omega) (fun k hk => (HO.out.lt k hk).1)
           clear hown6 hg6 hat6))
      go_roundw
      case rel => exact ⟨q + 1, v6, by omega, by go_num, rfl, HO6.out, HW6.out⟩
      case measure => simp [intOf]; omega
    · obtain rfl : q = k := by omega
      obtain ⟨a, c, hv, hN⟩ := nums_own HO.out (by simp)
      have HV := Lib.hid hv
      have HNN := Lib.hid hN
      have hcc : q ≤ c ∧ c ≤ 9223372036854775807 := by
        rcases HO.out.2 with ⟨e, h0⟩ | ⟨g, cap, cur, e, _, _, h1, h2, _⟩
        · rw [hv] at e; injection e with _ e2 e3; omega
        · rw [hv] at e; injection e with _ e2 e3; unfold maxLen at h2; omega
      clear hv hN
      go_wp2_with fail
      go_ret
      exact ⟨a, c, congrArg Ending.returned HV.out, hcc.1, hcc.2, HNN.out, HW.out⟩
end Go.Proofs.Ytkmikpmbnfcbpaa
