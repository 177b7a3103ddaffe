/- Contracts of clock.Add, clock.Clip and of their references: loops over a slice of ints that came in. -/
import Derived.Test.YtgbombimkpkbpaaFa
namespace Go.Proofs.Ytgbombimkpkbpaa
open Go.RowKit

/-- A slice of ints (address, length) that reads as zs. -/
def IsInts (w : World) (a : Option Addr) (len : Nat) (zs : List Int) : Prop :=
  zs.length = len ∧ (len = 0 ∨ ∃ b off, a = some ⟨b, off, none⟩ ∧ ∀ i, i < len → w.cell? ⟨b, off + i, none⟩ = some (.int .i64 (zs.getD i 0)))

/-- One step of the sum: it fits so far, and what it is. -/
def addStep (s : Bool × Int) (u : Int) : Bool × Int := if s.2 > 1099511627775 - u then (false, s.2) else (s.1, s.2 + u)
def addAt (t : Int) (zs : List Int) (k : Nat) : Bool × Int := (zs.take k).foldl addStep (true, t)

theorem take_succ (zs : List Int) (k : Nat) (h : k < zs.length) : zs.take (k + 1) = zs.take k ++ [zs.getD k 0] := by
  rw [List.take_succ_eq_append_getElem h]; simp [h]

theorem addAt_succ (t : Int) (zs : List Int) (k : Nat) (h : k < zs.length) : addAt t zs (k + 1) = addStep (addAt t zs k) (zs.getD k 0) := by
  unfold addAt; rw [take_succ zs k h, List.foldl_append]; rfl

def allT (zs : List Int) (k : Nat) : Prop := ∀ i, i < k → isT (zs.getD i 0) = true

def AddPost (t : Int) (zs : List Int) (w : World) (e : Ending) (w' : World) : Prop :=
  w = w' ∧ ((e = .returned (.tuple #[.int .i64 0, .int .i64 2]) ∧ ¬ (isT t = true ∧ allT zs zs.length)) ∨
    (isT t = true ∧ allT zs zs.length ∧ ((e = .returned (.tuple #[.int .i64 0, .int .i64 6]) ∧ (addAt t zs zs.length).1 = false) ∨ (e = .returned (.tuple #[.int .i64 (addAt t zs zs.length).2, .int .i64 0]) ∧ (addAt t zs zs.length).1 = true))))

theorem addAt_bd (t : Int) (zs : List Int) (k : Nat) (h : k ≤ zs.length) (ha : allT zs k) (ht : -9223372036854775808 ≤ t) (hT : t ≤ 9223372036854775807) : -9223372036854775808 ≤ (addAt t zs k).2 ∧ (addAt t zs k).2 ≤ 9223372036854775807 := by
  induction k with
  | zero => exact ⟨ht, hT⟩
  | succ k ih =>
    have := ih (by omega) (fun i hi => ha i (by omega))
    have hu := ha k (by omega)
    rw [addAt_succ t zs k (by omega)]
    simp only [isT, decide_eq_true_eq] at hu
    unfold addStep
    split <;> simp_all <;> omega

theorem isT_bd {u : Int} (h : isT u = true) : 0 ≤ u ∧ u ≤ 1099511627775 := by simpa [isT] using h

theorem addAt_fit {t : Int} {zs : List Int} {k : Nat} {u s : Int} {f : Bool} (hk : k < zs.length) (hu : u = zs.getD k 0) (hst : addAt t zs k = (f, s)) (h : s ≤ 1099511627775 - u) : addAt t zs (k + 1) = (f, s + u) := by
  rw [addAt_succ t zs k hk, ← hu, hst]; unfold addStep; rw [if_neg (by simpa using h)]
theorem addAt_over {t : Int} {zs : List Int} {k : Nat} {u s : Int} {f : Bool} (hk : k < zs.length) (hu : u = zs.getD k 0) (hst : addAt t zs k = (f, s)) (h : 1099511627775 - u < s) : addAt t zs (k + 1) = (false, s) := by
  rw [addAt_succ t zs k hk, ← hu, hst]; unfold addStep; rw [if_pos (by simpa using h)]
theorem allT_succ {zs : List Int} {k : Nat} {u : Int} (h : allT zs k) (hu : u = zs.getD k 0) (ht : isT u = true) : allT zs (k + 1) := by
  intro i hi
  by_cases e : i = k
  · subst e; rw [← hu]; exact ht
  · exact h i (by omega)

theorem post_arg {t : Int} {zs : List Int} {w : World} (h : ¬ (isT t = true ∧ allT zs zs.length)) : AddPost t zs w (.returned (.tuple #[.int .i64 0, .int .i64 2])) w := ⟨rfl, .inl ⟨rfl, h⟩⟩
theorem post_over {t : Int} {zs : List Int} {w : World} (h : isT t = true) (h1 : allT zs zs.length) (h2 : (addAt t zs zs.length).1 = false) : AddPost t zs w (.returned (.tuple #[.int .i64 0, .int .i64 6])) w := ⟨rfl, .inr ⟨h, h1, .inl ⟨rfl, h2⟩⟩⟩
theorem post_ok {t : Int} {zs : List Int} {w : World} {s : Int} (h : isT t = true) (h1 : allT zs zs.length) (h2 : addAt t zs zs.length = (true, s)) : AddPost t zs w (.returned (.tuple #[.int .i64 s, .int .i64 0])) w := ⟨rfl, .inr ⟨h, h1, .inr ⟨by rw [h2], by rw [h2]⟩⟩⟩

set_option maxHeartbeats 400000 in
theorem add_any (t : Int) (a : Option Addr) (len cap : Nat) (zs : List Int) (w : World) (hr : IsInts w a len zs) (hl : len ≤ 9223372036854775807) (ht : -9223372036854775808 ≤ t) (hT : t ≤ 9223372036854775807) :
    Calls Try.prog 12 #[.int .i64 t, .slice a len cap] w (AddPost t zs w) := by
  obtain ⟨hz, hr⟩ := hr
  have HZ := Lib.hid hz
  clear hz
  rcases hr with rfl | ⟨b, off, rfl, hc⟩
  · have hall : allT zs zs.length := fun i hi => by rw [HZ.out] at hi; omega
    have hst : addAt t zs zs.length = (true, t) := by rw [HZ.out]; rfl
    have HA := Lib.hid hall
    have HS := Lib.hid hst
    clear hall hst
    by_cases hok : isT t = true
    · go_enter Try.func12, Try.ntmps12
      go_wp2_with (first | (go_at_call 20; refine (is_any _ _).mono ?_; rintro e w' ⟨rfl, rfl⟩))
      go_step3
      go_wp2_with (first | (go_at_call 20; refine (is_any _ _).mono ?_; rintro e w' ⟨rfl, rfl⟩))
      go_step3
      go_wp2_with fail
      refine wp_loop_once ?_
      go_wp2_with fail
      try rw [Exit.noGoto_ret]
      go_ret2
      exact post_ok hok HA.out HS.out
    · have hok' : isT t = false := by simpa using hok
      go_enter Try.func12, Try.ntmps12
      go_wp2_with (first | (go_at_call 20; refine (is_any _ _).mono ?_; rintro e w' ⟨rfl, rfl⟩))
      go_step3
      go_wp2_with (first | (go_at_call 20; refine (is_any _ _).mono ?_; rintro e w' ⟨rfl, rfl⟩))
      go_step3
      go_wp2_with fail
      refine wp_loop_once ?_
      go_wp2_with fail
      try rw [Exit.noGoto_ret]
      go_ret2
      exact post_arg (fun h => hok h.1)
  · have HC := Lib.hid hc
    clear hc
    go_enter Try.func12, Try.ntmps12
    go_wp2_with (first | (go_at_call 20; refine (is_any _ _).mono ?_; rintro e w' ⟨rfl, rfl⟩))
    go_step3
    go_wp2_with (first | (go_at_call 20; refine (is_any _ _).mono ?_; rintro e w' ⟨rfl, rfl⟩))
    go_step3
    go_wp2_with fail
    go_loop [6, 7, 8, 16] (fun ok fits sum i => ∃ k : Nat, k ≤ len ∧ i = .int .i64 k ∧ ok = .bool (isT t) ∧ fits = .bool (addAt t zs k).1 ∧ sum = .int .i64 (addAt t zs k).2 ∧ allT zs k) (fun _ _ _ i => len - (intOf i).toNat)
    case atStart => exact ⟨0, Nat.zero_le _, rfl, rfl, rfl, rfl, fun i hi => by omega⟩
    case round =>
      obtain ⟨k, hk, rfl, rfl, rfl, rfl, hall⟩ := hrel
      have hbd := addAt_bd t zs k (by rw [HZ.out]; exact hk) hall ht hT
      obtain ⟨f, s, hst⟩ : ∃ f s, addAt t zs k = (f, s) := ⟨_, _, rfl⟩
      rw [hst] at hbd
      rw [hst]
      have HS := Lib.hid hst
      have HA := Lib.hid hall
      obtain ⟨hb1, hb2⟩ := hbd
      clear hst hall
      by_cases hlt : k < len
      · obtain ⟨u, hu⟩ : ∃ u, u = zs.getD k 0 := ⟨_, rfl⟩
        have hcell : w.cell? ⟨b, off + k, none⟩ = some (.int .i64 u) := by rw [hu]; exact HC.out k hlt
        have HU := Lib.hid hu
        clear hu
        by_cases hu : isT u = true
        · obtain ⟨hu0, hu1⟩ := isT_bd hu
          by_cases hov : 1099511627775 - u < s
          · go_wp2_with (first | (go_at_call 20; refine (is_any _ _).mono ?_; rintro e w' ⟨rfl, rfl⟩))
            go_round
            case rel => exact ⟨k + 1, by omega, by go_num, rfl, by rw [addAt_over (by rw [HZ.out]; exact hlt) HU.out HS.out hov], by rw [addAt_over (by rw [HZ.out]; exact hlt) HU.out HS.out hov], allT_succ HA.out HU.out hu⟩
            case measure => simp [intOf]; omega
          · go_wp2_with (first | (go_at_call 20; refine (is_any _ _).mono ?_; rintro e w' ⟨rfl, rfl⟩))
            go_round
            case rel => exact ⟨k + 1, by omega, by go_num, rfl, by rw [addAt_fit (by rw [HZ.out]; exact hlt) HU.out HS.out hov], by rw [addAt_fit (by rw [HZ.out]; exact hlt) HU.out HS.out hov], allT_succ HA.out HU.out hu⟩
            case measure => simp [intOf]; omega
        · have hu' : isT u = false := by simpa using hu
          go_wp2_with (first | (go_at_call 20; refine (is_any _ _).mono ?_; rintro e w' ⟨rfl, rfl⟩))
          try rw [Exit.noGoto_ret]
          go_ret2
          exact post_arg (fun h => by have := h.2 k (by rw [HZ.out]; exact hlt); rw [← HU.out] at this; exact hu this)
      · obtain rfl : k = len := by omega
        by_cases hok : isT t = true
        · cases f
          · go_wp2_with fail
            try rw [Exit.noGoto_ret]
            go_ret2
            exact post_over hok (by rw [HZ.out]; exact HA.out) (by rw [HZ.out, HS.out])
          · go_wp2_with fail
            try rw [Exit.noGoto_ret]
            go_ret2
            exact post_ok hok (by rw [HZ.out]; exact HA.out) (by rw [HZ.out]; exact HS.out)
        · have hok' : isT t = false := by simpa using hok
          go_wp2_with fail
          try rw [Exit.noGoto_ret]
          go_ret2
          exact post_arg (fun h => hok h.1)
end Go.Proofs.Ytgbombimkpkbpaa
