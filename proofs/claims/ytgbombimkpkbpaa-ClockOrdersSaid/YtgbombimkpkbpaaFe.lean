/- Contracts of clock.Text and of its reference. -/
import Derived.Test.YtgbombimkpkbpaaFd
import Derived.Deep.RegionWith
namespace Go.Proofs.Ytgbombimkpkbpaa
open Go.RowKit

/-- The decimal digits of a number, as bytes. -/
def digs (n : Nat) : List UInt8 := if n < 10 then [UInt8.ofNat (48 + n)] else digs (n / 10) ++ [UInt8.ofNat (48 + n % 10)]
def str (l : List UInt8) : ByteArray := ⟨l.toArray⟩
theorem str_append (a b : List UInt8) : str a ++ str b = str (a ++ b) := by
  unfold str; apply ByteArray.ext; simp
theorem str_size (l : List UInt8) : (str l).size = l.length := by simp [str, ByteArray.size]
theorem enc_dig (n : Nat) (h : n < 10) : Utf8.encode (48 + (n : Int)) = str [UInt8.ofNat (48 + n)] := by
  have : n = 0 ∨ n = 1 ∨ n = 2 ∨ n = 3 ∨ n = 4 ∨ n = 5 ∨ n = 6 ∨ n = 7 ∨ n = 8 ∨ n = 9 := by omega
  rcases this with rfl | rfl | rfl | rfl | rfl | rfl | rfl | rfl | rfl | rfl <;> rfl
def textSpec (t : Int) : ByteArray := if isT t then str (digs t.toNat) else str []

def Gone (n m : Nat) (l : List UInt8) : Prop := digs n = (if m = 0 then [] else digs m) ++ l
theorem gone_start (n : Nat) : Gone n (n / 10) [UInt8.ofNat (48 + n % 10)] := by
  unfold Gone
  by_cases h : n / 10 = 0
  · rw [if_pos h, digs, if_pos (by omega), Nat.mod_eq_of_lt (by omega)]; rfl
  · rw [if_neg h, digs, if_neg (by omega)]
theorem gone_step {n m : Nat} {l : List UInt8} (h : Gone n m l) (hm : 0 < m) : Gone n (m / 10) (UInt8.ofNat (48 + m % 10) :: l) := by
  unfold Gone at *
  rw [if_neg (by omega)] at h
  rw [h]
  have := gone_start m
  unfold Gone at this
  rw [this]; simp
theorem gone_end {n : Nat} {l : List UInt8} (h : Gone n 0 l) : digs n = l := by simpa [Gone] using h

theorem digs_len (n : Nat) : 1 ≤ (digs n).length ∧ (digs n).length ≤ n + 1 := by
  induction n using Nat.strongRecOn with
  | _ n ih =>
    rw [digs]
    by_cases h : n < 10
    · rw [if_pos h]; simp
    · rw [if_neg h]; have := ih (n / 10) (by omega); simp only [List.length_append, List.length_singleton]; omega
theorem gone_len {n m : Nat} {l : List UInt8} (h : Gone n m l) : (str l).size ≤ n + 1 := by
  have := (digs_len n).2
  unfold Gone at h
  rw [h] at this
  rw [str_size]
  simp only [List.length_append] at this
  omega
theorem enc_mod (m : Nat) : Utf8.encode (48 + (m : Int) % 10) = str [UInt8.ofNat (48 + m % 10)] := by
  have := enc_dig (m % 10) (by omega)
  rw [← this]; rfl

theorem ret_str {a b : ByteArray} (h : a = b) : Ending.returned (.string a) = .returned (.string b) := by rw [h]

theorem text_calls (t : Int) (w : World) : Calls Try.prog 18 #[.int .i64 t] w fun e w' => e = .returned (.string (textSpec t)) ∧ w = w' := by
  by_cases ht : isT t = true
  · obtain ⟨ht0, ht1⟩ := isT_bd ht
    obtain ⟨n, rfl⟩ := Int.eq_ofNat_of_zero_le ht0
    go_enter Try.func18, Try.ntmps18
    go_wp2_with (first | (go_at_call 20; refine (is_any _ _).mono ?_; rintro e w' ⟨rfl, rfl⟩))
    go_loop [0, 3] (fun t out => ∃ m : Nat, ∃ l, t = .int .i64 m ∧ out = .string (str l) ∧ Gone n m l ∧ m ≤ n) (fun t _ => (intOf t).toNat)
    case atStart => exact ⟨n / 10, _, by rw [Int.natCast_ediv]; rfl, by rw [enc_mod], gone_start n, by omega⟩
    case round =>
      obtain ⟨m, l, rfl, rfl, hg, hmn⟩ := hrel
      have hsz := gone_len hg
      have HG := Lib.hid hg
      clear hg
      by_cases hm : 0 < m
      · have he : (Utf8.encode (48 + (m : Int) % 10)).size = 1 := by rw [enc_mod, str_size]; rfl
        go_wp2_with fail
        go_round
        case rel => exact ⟨m / 10, _, by rw [Int.natCast_ediv]; rfl, by rw [enc_mod, str_append]; rfl, gone_step HG.out hm, by omega⟩
        case measure => simp [intOf]; omega
      · obtain rfl : m = 0 := by omega
        go_wp2_with fail
        go_ret
        exact ⟨ret_str (by unfold textSpec; rw [ht, if_pos rfl, Int.toNat_natCast, gone_end HG.out]), rfl⟩
  · have ht' : isT t = false := by simpa using ht
    clear ht
    go_enter Try.func18, Try.ntmps18
    go_wp2_with (first | (go_at_call 20; refine (is_any _ _).mono ?_; rintro e w' ⟨rfl, rfl⟩))
    go_ret
    exact ⟨ret_str (by unfold textSpec; rw [ht']; rfl), rfl⟩

theorem bcell {W w1 : World} (hb : Below W.heap.size W w1) : (∀ b o, b < W.heap.size → w1.cell? ⟨b, o, none⟩ = W.cell? ⟨b, o, none⟩) ∧ (∀ b o, b < W.heap.size → w1.frozen? ⟨b, o, none⟩ = W.frozen? ⟨b, o, none⟩) :=
  ⟨fun b o h => hb.cell (p := ⟨b, o, none⟩) h, fun b o h => hb.frozen (p := ⟨b, o, none⟩) h⟩

theorem conv_one (c : Int) (b : Nat) (W : World) (h : W.cell? ⟨b, 0, none⟩ = some (.int .u8 c)) :
    (convert 44 9 (.slice (some ⟨b, 0, none⟩) 1 1)).run Try.prog W = .ok (.string (str [UInt8.ofNat c.toNat])) W :=
  run_convert_bytes_arg (P := Try.prog) W 44 5 Try.underlying44 Try.underlying5 b 0 1 1 [c] rfl (fun i hi => by obtain rfl : i = 0 := by omega
                                                                                                                simpa using h) 9 Try.underlying9

theorem ofNat_dig (d : Nat) : UInt8.ofNat ((48 + (d : Int)).toNat) = UInt8.ofNat (48 + d) := by
  congr 1

theorem rtext_calls (k : Nat) : ∀ (n : Nat) (w : World), n ≤ k → (n : Int) ≤ 1099511627775 → Calls Try.prog 19 #[.int .i64 n] w fun e w' => e = .returned (.string (textSpec n)) ∧ Below w.heap.size w w' := by
  have base : ∀ (n : Nat) (w : World), n < 10 → Calls Try.prog 19 #[.int .i64 n] w fun e w' => e = .returned (.string (textSpec n)) ∧ Below w.heap.size w w' := by
    intro n w h
    have ht : isT (n : Int) = true := by simp [isT]; omega
    have hcv := fun W b => conv_one (48 + n) b W
    go_enter Try.func19, Try.ntmps19
    go_wp2_with (first | (go_at_call 25; refine (ris_any _ _).mono ?_; rintro e w' ⟨rfl, rfl⟩))
    go_ret
    exact ⟨ret_str (by unfold textSpec; rw [ht, if_pos rfl, digs, Int.toNat_natCast, if_pos h]), (Below.refl _ _).alloc (Nat.le_refl _) _⟩
  induction k with
  | zero => exact fun n w hk hn => base n w (by omega)
  | succ k ih =>
    intro n w hk hn
    by_cases h : n < 10
    · exact base n w h
    · have ht : isT (n : Int) = true := by simp [isT]; omega
      obtain ⟨S, hS⟩ : ∃ S, S = str [UInt8.ofNat (48 + n % 10)] := ⟨_, rfl⟩
      obtain ⟨T, hT⟩ : ∃ T, T = textSpec ((n : Int) / 10) := ⟨_, rfl⟩
      have hcv : ∀ W b, W.cell? ⟨b, 0, none⟩ = some (.int .u8 (48 + (n : Int) % 10)) → (convert 44 9 (.slice (some ⟨b, 0, none⟩) 1 1)).run Try.prog W = .ok (.string S) W := fun W b h => by rw [hS]; exact conv_one (48 + n % 10) b W h
      have IH : Hid (∀ W, Calls Try.prog 19 #[.int .i64 ((n : Int) / 10)] W fun e w' => e = .returned (.string T) ∧ Below W.heap.size W w') := fun W => by rw [hT]; exact ih (n / 10) W (by omega) (by omega)
      clear ih base
      have hsz : T.size ≤ 1099511627776 := by
        have := (digs_len (n / 10)).2
        rw [hT]
        unfold textSpec
        split
        · rw [str_size, show ((n : Int) / 10).toNat = n / 10 from rfl]; omega
        · rw [str_size]; simp
      have hs1 : S.size ≤ 1 := by rw [hS, str_size]; exact Nat.le_refl 1
      have HF : Hid (T ++ S = textSpec n) := by
        unfold Hid
        have h1 : isT ((n : Int) / 10) = true := by simp [isT]; omega
        rw [hS, hT, textSpec, h1, if_pos rfl, textSpec, ht, if_pos rfl, str_append]
        rw [Int.toNat_natCast]
        have h2 : digs n = digs (n / 10) ++ [UInt8.ofNat (48 + n % 10)] := by conv => lhs; rw [digs, if_neg h]
        rw [h2]; rfl
      clear hS hT
      go_enter Try.func19, Try.ntmps19
      go_wp2_with (first | (go_at_call 25; refine (ris_any _ _).mono ?_; rintro e w' ⟨rfl, rfl⟩))
      have e1 : IntKind.i64.wrap ((n : Int) / 10) = (n : Int) / 10 := IntWalk.i64_in _ (by omega)
      have e2 : (n : Int).tmod 10 = (n : Int) % 10 := Int.tmod_eq_emod_of_nonneg (by omega)
      have e3 : IntKind.i64.wrap (48 + (n : Int) % 10) = 48 + (n : Int) % 10 := IntWalk.i64_in _ (by omega)
      have e4 : IntKind.u8.wrap (48 + (n : Int) % 10) = 48 + (n : Int) % 10 := IntWalk.u8_in _ (by omega)
      go_region_with (go_at_call 19; refine (IH.out _).mono ?_; rintro e w1 ⟨rfl, hb⟩; obtain ⟨hc, hf⟩ := bcell hb)
      all_goals (go_wp2; go_ret)
      all_goals refine ⟨ret_str HF.out, ?_⟩
      · exact ((Below.refl _ _).drew.trans hb).alloc hb.size _
      all_goals
        refine Below.trans ?_ (hb.mono (B' := w.heap.size) (by simp))
        repeat (first | exact Below.refl _ _ | apply Below.drew | refine Below.alloc ?_ (by simp) _)
end Go.Proofs.Ytgbombimkpkbpaa
