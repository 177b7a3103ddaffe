/- Contracts of clock.Read and of its reference. -/
import Derived.Test.YtgbombimkpkbpaaFf
import Derived.Laws.RangeAny
namespace Go.Proofs.Ytgbombimkpkbpaa
open Go.RowKit

def ReadPost (s : ByteArray) (w : World) (e : Ending) (w' : World) : Prop :=
  e = .returned (.tuple #[.int .i64 (readSpec s.data.toList).1, .int .i64 (readSpec s.data.toList).2]) ∧ Below w.heap.size w w'
theorem readPost {s : ByteArray} {a b : Int} {w : World} {p : Nat} (h : readSpec s.data.toList = (a, b)) : ReadPost s w (.returned (.tuple #[.int .i64 a, .int .i64 b])) (w.iter s p) :=
  ⟨by rw [h], (Below.refl _ _).alloc (Nat.le_refl _) _⟩
theorem dec_low {s : ByteArray} {pos : Nat} (h : pos < s.size) (hc : (s.data.toList.getD pos 0).toNat < 128) : Utf8.decode s pos = ((s.data.toList.getD pos 0).toNat, 1) := by
  have e : s.data.toList.getD pos 0 = s[pos]'h := by
    rw [List.getD_eq_getElem?_getD, List.getElem?_eq_getElem (by simpa using h)]; rfl
  rw [e] at hc ⊢
  exact decode_ascii s pos h hc
theorem dec_high {s : ByteArray} {pos : Nat} (h : pos < s.size) (hc : ¬ (s.data.toList.getD pos 0).toNat < 128) : 128 ≤ (Utf8.decode s pos).1 := by
  have e : s.data.toList.getD pos 0 = s[pos]'h := by
    rw [List.getD_eq_getElem?_getD, List.getElem?_eq_getElem (by simpa using h)]; rfl
  rw [e] at hc
  exact (decode_high s pos h (by omega)).1
theorem len_eq (s : ByteArray) : s.data.toList.length = s.size := by rw [Array.length_toList]; rfl

theorem RI_true_pos {l : List UInt8} {pos : Nat} {t : Int} (h : RI l pos t true) (hp : pos < l.length) : 2 ≤ pos := by
  obtain ⟨h1, _, _, _, h5, _⟩ := h
  have hv := h5 rfl
  have hs := val_small (l.take pos) h1
  have hlen : (l.take pos).length = pos := by rw [List.length_take]; omega
  rw [hlen] at hs
  rcases pos with _ | _ | pos
  · have : val (l.take 0) < 1 := hs
    omega
  · have : val (l.take (0 + 1)) < 10 := by simpa using hs
    omega
  · omega

set_option maxHeartbeats 1000000 in
theorem read_calls (s : ByteArray) (w : World) (_hs : s.size ≤ 9223372036854775807) : Calls Try.prog 16 #[.string s] w (ReadPost s w) := by
  go_enter Try.func16, Try.ntmps16
  go_wp2_with fail
  go_loopw [4, 5] (fun t ov wr => ∃ (pos : Nat) (n : Int) (o : Bool), pos ≤ s.size ∧ wr = w.iter s pos ∧ t = .int .i64 n ∧ ov = .bool o ∧ RI s.data.toList pos n o) (fun _ _ wr => s.size - wr.iterPos w.heap.size)
  case atStart => exact ⟨0, 0, false, Nat.zero_le _, rfl, rfl, rfl, RI_start _⟩
  case round =>
    obtain ⟨pos, n, o, hp, rfl, rfl, rfl, hri⟩ := hrel
    obtain ⟨hn0, hn1⟩ : 0 ≤ n ∧ n ≤ 10995116277759 := ⟨hri.2.2.1, hri.2.2.2.1⟩
    by_cases hps : pos < s.size
    · have hlt : pos < s.data.toList.length := by rw [len_eq]; exact hps
      by_cases hd : isD (s.data.toList.getD pos 0) = true
      · have hbd := isD_bd hd
        have hdec := dec_low hps (by omega)
        have hnx : ∀ ty, (Instr.next (.pointer (some ⟨w.heap.size, 0, none⟩)) true ty).run Try.prog (w.iter s pos) = .ok (.tuple #[.bool true, .int .i64 pos, .int .i32 ((s.data.toList.getD pos 0).toNat)]) (w.iter s (pos + 1)) := fun ty => by
          rw [run_next_any w s pos ty hps, hdec]
        obtain ⟨c, hc⟩ : ∃ c : Nat, c = (s.data.toList.getD pos 0).toNat := ⟨_, rfl⟩
        rw [← hc] at hnx hbd
        obtain ⟨hb0, hb1⟩ := hbd
        have HC := Lib.hid hc
        have HL := Lib.hid hlt
        have HD := Lib.hid hd
        clear hc hdec hd hlt
        cases o
        · by_cases hz : pos = 1 ∧ n = 0
          · obtain ⟨hz1, hz2⟩ := hz
            subst hz1 hz2
            have hR : readSpec s.data.toList = (0, 5) := spec_zero hri HL.out rfl
            have HF := Lib.hid hR
            clear hR hri
            go_wp2_with fail
            go_ret2
            exact readPost HF.out
          · have hst := RI_step hri HL.out HD.out hz
            rw [← HC.out] at hst
            have HS := Lib.hid hst
            clear hri hst
            by_cases hp1 : pos = 1
            · have hnz : (n == 0) = false := by simp; omega
              have hpp : ((pos : Int) == 1) = true := by simp; omega
              clear hz
              have HP := Lib.hid hp1
              clear hp1
              go_wp2_with fail
              go_roundw
              case rel => exact ⟨pos + 1, _, _, by omega, rfl, rfl, rfl, HS.out⟩
              case measure => simp; omega
            · have hpp : ((pos : Int) == 1) = false := by simp; omega
              clear hz hp1
              go_wp2_with fail
              go_roundw
              case rel => exact ⟨pos + 1, _, _, by omega, rfl, rfl, rfl, HS.out⟩
              case measure => simp; omega
        · have hst := RI_over hri HL.out HD.out
          have hp2 := RI_true_pos hri HL.out
          have HS := Lib.hid hst
          clear hri hst
          by_cases hp1 : pos = 1
          · exact absurd hp1 (by omega)
          · have hpp : ((pos : Int) == 1) = false := by simp; omega
            clear hp1
            go_wp2_with fail
            go_roundw
            case rel => exact ⟨pos + 1, _, _, by omega, rfl, rfl, rfl, HS.out⟩
            case measure => simp; omega
      · have hR : readSpec s.data.toList = (0, 5) := spec_bad hlt hd
        have HF := Lib.hid hR
        clear hR
        have hr : (Utf8.decode s pos).1 < 48 ∨ 57 < (Utf8.decode s pos).1 := by
          by_cases h : (s.data.toList.getD pos 0).toNat < 128
          · rw [dec_low hps h]
            simp only [isD, decide_eq_true_eq] at hd
            show (s.data.toList.getD pos 0).toNat < 48 ∨ 57 < (s.data.toList.getD pos 0).toNat
            omega
          · have := dec_high hps h; omega
        have hle := decode_le s pos
        have hnx : ∀ ty, (Instr.next (.pointer (some ⟨w.heap.size, 0, none⟩)) true ty).run Try.prog (w.iter s pos) = .ok (.tuple #[.bool true, .int .i64 pos, .int .i32 ((Utf8.decode s pos).1)]) (w.iter s (pos + (Utf8.decode s pos).2)) := fun ty => run_next_any w s pos ty hps
        generalize (Utf8.decode s pos).1 = r at hr hnx hle
        generalize (Utf8.decode s pos).2 = wd at hnx
        clear hri hd hlt
        by_cases h48 : r < 48
        · clear hr
          go_wp2_with fail
          go_ret2
          exact readPost HF.out
        · have h57 : 57 < r := by omega
          clear hr
          go_wp2_with fail
          go_ret2
          exact readPost HF.out
    · obtain rfl : pos = s.size := by omega
      have hnx : ∀ ty, (Instr.next (.pointer (some ⟨w.heap.size, 0, none⟩)) true ty).run Try.prog (w.iter s s.size) = _ := fun ty => run_next_end w s s.size ty hps
      rw [← len_eq] at hri
      by_cases hem : s.data.toList = []
      · have he : s.toList.isEmpty = true := by rw [ByteArray.toList_eq, hem]; rfl
        have hR : readSpec s.data.toList = (0, 5) := by rw [hem]; exact spec_nil
        have HF := Lib.hid hR
        clear hR hri hem
        go_wp2_with fail
        go_ret2
        exact readPost HF.out
      · have he : s.toList.isEmpty = false := by rw [ByteArray.toList_eq]; simpa using hem
        cases o
        · have hR := spec_ok hri hem
          have HF := Lib.hid hR
          clear hR hri hem
          go_wp2_with fail
          go_ret2
          exact readPost HF.out
        · have hR := spec_over hri hem
          have HF := Lib.hid hR
          clear hR hri hem
          go_wp2_with fail
          go_ret2
          exact readPost HF.out
end Go.Proofs.Ytgbombimkpkbpaa
