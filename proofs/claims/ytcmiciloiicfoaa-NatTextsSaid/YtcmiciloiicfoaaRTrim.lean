/- dspcompilerref01.Trim: a fresh copy without the zeros at the end. -/
import Derived.Test.YtcmiciloiicfoaaAwake
namespace Go.Proofs.Ytcmiciloiicfoaa
open Go.RowKit Go.Proofs.YtcmiciloiicfoaaW.PrintWords

set_option maxRecDepth 100000 in
set_option maxHeartbeats 400000 in
theorem rtrim_calls (A : Option Addr) (c n : Nat) (xs : List Int) (w : World) (h : Rd w A c xs) (hn : n = xs.length) :
    Calls Try.prog 31 #[.slice A n c] w (Out w (cutL xs)) := by
  subst hn
  have hsm := h.small
  have hcap := h.cap
  have H := Lib.hid h
  clear h
  go_enter Try.func31, Try.ntmps31
  go_wp2
  go_loop [3] (fun v => ∃ k : Nat, v = .int .i64 k ∧ k ≤ xs.length ∧ Hid (cutN xs k = cutLen xs)) (fun v => (intOf v).toNat)
  case atStart => exact ⟨xs.length, rfl, Nat.le_refl _, rfl⟩
  case round =>
    obtain ⟨k, rfl, hk, HK⟩ := hrel
    have hfin : cutN xs k = k → xs.take k = cutL xs := fun e => by unfold cutL; rw [← HK.out, e]
    have HF := Lib.hid hfin
    clear hfin
    cases k with
    | zero =>
      have HT := Lib.hid (HF.out rfl)
      have hr := H.out.take 0 (by omega)
      have HR := Lib.hid hr
      clear hr HF
      go_wp2_with (at_builtin; refine app_law w.heap.size rfl (.const (.slice none 0 0)) (.tmp 20) rfl none 0 0 [] rfl rfl (Own.nil _ _) A c 0 (xs.take 0) rfl (by simp) HR.out (by simp) (Nat.le_refl _) ?_; intro R k2 w1 hO hg)
      go_ret
      rw [List.nil_append, HT.out] at hO
      exact Out.mk' (by rw [← HT.out]; simp) hO ((Below.refl _ _).grown hg (Nat.le_refl _) (by intro k e; cases e))
    | succ k =>
      obtain ⟨ad, rfl, hx⟩ := H.out.at_ k (by omega)
      by_cases hz : gd xs k = 0
      · have hb : (gd xs k == 0) = true := by simp [hz]
        have HK' := Lib.hid ((cutN_skip hz).symm.trans HK.out)
        clear hz HK HF
        go_wp2
        go_round
        case rel => exact ⟨k, rfl, by omega, HK'⟩
        case measure => simp [intOf]
      · have hb : (gd xs k == 0) = false := by simp [hz]
        have HT := Lib.hid (HF.out (cutN_stop hz))
        have HR := Lib.hid (H.out.take (k + 1) (by omega))
        clear hz HK HF
        go_wp2_with (at_builtin; refine app_law w.heap.size rfl (.const (.slice none 0 0)) (.tmp 20) rfl none 0 0 [] rfl rfl (Own.nil _ _) _ c _ (xs.take (k + 1)) rfl (by rw [List.length_take]; omega) HR.out (by simp; omega) (Nat.le_refl _) ?_; intro R k2 w1 hO hg)
        go_ret
        have hl : k + 1 = (cutL xs).length := by rw [← HT.out, List.length_take]; omega
        rw [List.nil_append, HT.out] at hO
        exact Out.mk' hl hO ((Below.refl _ _).grown hg (Nat.le_refl _) (by intro k e; cases e))
/-! Bounds on values and so on lengths. -/
structure Bd (L : Nat) (v : Int) : Prop where
  lo : 0 ≤ v
  hi : v < pw L
theorem Bd.to {L M : Nat} {v : Int} (h : Bd L v) (e : L ≤ M) : Bd M v := ⟨h.lo, by have := h.hi; have := pw_le e; omega⟩
theorem Bd.val {xs : List Int} (h : Dg xs) {L : Nat} (hl : xs.length ≤ L) : Bd L (val xs) := ⟨val_nonneg h, by have := val_lt h; have := pw_le hl; omega⟩
theorem Bd.add {L M : Nat} {u v : Int} (hu : Bd L u) (hv : Bd M v) : Bd (L + M + 1) (u + v) := by
  obtain ⟨a, b⟩ := hu
  obtain ⟨c, d⟩ := hv
  refine ⟨by omega, ?_⟩
  have h1 := pw_le (i := L) (j := L + M) (by omega)
  have h2 := pw_le (i := M) (j := L + M) (by omega)
  rw [pw_succ]; omega
theorem Bd.mul {L M : Nat} {u v : Int} (hu : Bd L u) (hv : Bd M v) : Bd (L + M) (u * v) := by
  obtain ⟨a, b⟩ := hu
  obtain ⟨c, d⟩ := hv
  refine ⟨Int.mul_nonneg a c, ?_⟩
  rw [pw_add]
  have h1 : u * v ≤ u * pw M := Int.mul_le_mul_of_nonneg_left (by omega) a
  have h2 : u * pw M < pw L * pw M := Int.mul_lt_mul_of_pos_right b (pw_pos M)
  omega
theorem Bd.len {L : Nat} {v : Int} (h : Bd L v) : (canon v).length ≤ L := canon_length_le h.lo h.hi
theorem Bd.val_eq {L : Nat} {v : Int} (h : Bd L v) : Ytcmiciloiicfoaa.val (canon v) = v := canon_val h.lo
theorem canon_congr {u v : Int} (h : u = v) : canon u = canon v := by rw [h]
end Go.Proofs.Ytcmiciloiicfoaa
