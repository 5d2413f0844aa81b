/- nat.cut: the part of a list in front of the zeros at its end. -/
import Derived.Test.YtcmiciloiicfoaaBase
namespace Go.Proofs.Ytcmiciloiicfoaa
open Go.RowKit Go.Proofs.YtcmiciloiicfoaaW.PrintWords

theorem cut_end {A : Option Addr} {c m n : Nat} (h : m = n) : Ending.returned (.slice A m c) = Ending.returned (.slice A n c) := by rw [h]

set_option maxHeartbeats 400000 in
theorem cut_calls (A : Option Addr) (c n : Nat) (xs : List Int) (w : World) (h : Rd w A c xs) (hn : n = xs.length) :
    Calls Try.prog 72 #[.slice A n c] w fun e w' => e = .returned (.slice A (cutLen xs) c) ∧ w = w' := by
  subst hn
  have hsm := h.small
  have hcap := h.cap
  have H := Lib.hid h
  clear h
  go_enter Try.func72, Try.ntmps72
  go_wp2
  go_loop [3] (fun v => ∃ k : Nat, v = .int .i64 k ∧ k ≤ xs.length ∧ Hid (cutN xs k = cutLen xs)) (fun v => (intOf v).toNat)
  case atStart => exact ⟨xs.length, rfl, Nat.le_refl _, rfl⟩
  case round =>
    obtain ⟨k, rfl, hk, HK⟩ := hrel
    cases k with
    | zero =>
      go_wp2
      go_ret
      exact ⟨cut_end HK.out, rfl⟩
    | succ k =>
      obtain ⟨ad, rfl, hx⟩ := H.out.at_ k (by omega)
      by_cases hz : gd xs k = 0
      · have hb : (gd xs k == 0) = true := by simp [hz]
        have HK' := Lib.hid ((cutN_skip hz).symm.trans HK.out)
        clear hz HK
        go_wp2
        go_round
        case rel => exact ⟨k, rfl, by omega, HK'⟩
        case measure => simp [intOf]
      · have hb : (gd xs k == 0) = false := by simp [hz]
        have HK' := Lib.hid ((cutN_stop hz).symm.trans HK.out)
        clear hz HK
        go_wp2
        go_ret
        exact ⟨cut_end HK'.out, rfl⟩
/-- The same, the result's length by the list. -/
theorem cut_l (A : Option Addr) (c n : Nat) (xs : List Int) (w : World) (h : Rd w A c xs) (hn : n = xs.length) :
    Calls Try.prog 72 #[.slice A n c] w fun e w' => e = .returned (.slice A (cutL xs).length c) ∧ w = w' :=
  (cut_calls A c n xs w h hn).mono fun _ _ ⟨he, hw⟩ => ⟨by rw [he, cutL_length], hw⟩
theorem Rd.cutL {w : World} {A : Option Addr} {c : Nat} {xs : List Int} (h : Rd w A c xs) : Rd w A c (cutL xs) := h.take _ (cutLen_le xs)
theorem cutL_length_le (xs : List Int) : (cutL xs).length ≤ xs.length := by rw [cutL_length]; exact cutLen_le xs
end Go.Proofs.Ytcmiciloiicfoaa
