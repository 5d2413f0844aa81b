/- The walk of the law NatRoots: the power of a root is at most the number, and that of the next number is greater. Printed by wip/gen/natroots.py. -/
import Derived.Test.YtcmiciloiicfoaaIn
namespace Go.Proofs.Ytcmiciloiicfoaa
open Go.RowKit Go.Proofs.YtcmiciloiicfoaaW.PrintWords

theorem le_pow {s : Int} {n : Nat} (h0 : 0 ≤ s) (hn : 1 ≤ n) : s ≤ s ^ n := by
  obtain ⟨m, rfl⟩ : ∃ m, n = m + 1 := ⟨n - 1, by omega⟩
  rcases Int.lt_or_eq_of_le h0 with h | h
  · rw [Int.pow_succ]
    have h1 : 0 < s ^ m := Int.pow_pos h
    have h2 : 1 * s ≤ s ^ m * s := Int.mul_le_mul_of_nonneg_right (by omega) h0
    omega
  · rw [← h]; exact Int.pow_nonneg (by omega)

set_option maxRecDepth 100000 in
set_option maxHeartbeats 4000000 in
theorem natroots_small (A : Option Addr) (ca na n : Nat) (k : Int) (xs : List Int) (w : World) (hx : Rd w A ca xs) (hna : na = xs.length) (dx : Dg xs) (lx : xs.length ≤ 10) (h0 : 0 ≤ k) (h1 : k ≤ 255) (hk : 1 + k % 64 = n) :
    Calls Try.prog 7 #[.slice A na ca, .int .u8 k] w (Yes w) := by
  subst hna
  have hn1 : 1 ≤ n := by omega
  have hn2 : n ≤ 64 := by omega
  have HXa := Lib.hid hx
  have HDa := Lib.hid dx
  have HVa := Lib.hid (Bd.val dx lx)
  have HB_0 := Lib.hid (Below.refl w.heap.size w)
  clear hx dx
  go_enter Try.func7, Try.ntmps7
  go_wp2_with fail
  refine (digits_calls A ca xs.length _ lx).mono ?_
  rintro e w' ⟨rfl, rfl⟩
  go_wp2_with fail
  refine (root_calls A ca _ n _ xs _ HXa.out rfl rfl HDa.out (by omega) hn1 hn2).mono ?_
  rintro e w_1 ⟨s, hs, R_1, k_1, rfl, hO, hB⟩
  have h3 : s ≤ val xs := Int.le_trans (le_pow hs.1 hn1) hs.2.1
  have HBs : Hid (Bd 10 s) := ⟨hs.1, by have := HVa.out.hi; omega⟩
  have HS := Lib.hid hs
  have Hx_1 := Lib.hid hO.rd
  clear h3 hs hO
  have HB_1 := Lib.hid (below_then HB_0.out HB_0.out.size hB)
  have Ha_1 := Lib.hid (HXa.out.below hB)
  clear hB
  go_wp2_with fail
  refine (pow_calls R_1 k_1 _ n _ (canon s) _ Hx_1.out rfl rfl (canon_dg _) (by have := HBs.out.len; omega) hn2).mono ?_
  rintro e w_2 ⟨R_2, k_2, rfl, hO, hB⟩
  rw [canon_val HBs.out.lo] at hO ⊢
  have HB_2 := Lib.hid (below_then HB_1.out HB_1.out.size hB)
  have Ha_2 := Lib.hid (Ha_1.out.below hB)
  clear Ha_1
  have Hx_2 := Lib.hid (Hx_1.out.below hB)
  clear Hx_1
  have Hy_2 := Lib.hid hO.rd
  clear hO hB
  go_wp2_with fail
  have hl := lit1_at w_2 w_2.heap.size w_2.heap.size (Nat.le_refl _) rfl 1
  have hx0 := Hx_2.out.alloc (.cells #[.int .u32 1] 53)
  refine (add_calls R_1 _ k_1 _ _ 1 (canon s) [1] _ hx0 hl.rd rfl rfl (canon_dg _) (dg1 (by omega) (by omega)) (by have := HBs.out.len; omega) (by simp)).mono ?_
  rintro e w_3 ⟨R_3, k_3, rfl, hO, hB⟩
  rw [canon_val HBs.out.lo, val_one] at hO ⊢
  have HB_3 := Lib.hid (below_then (HB_2.out.alloc HB_2.out.size (.cells #[.int .u32 1] 53)) (by have := HB_2.out.size; simp; omega) hB)
  have Ha_3 := Lib.hid ((Ha_2.out.alloc (.cells #[.int .u32 1] 53)).below hB)
  have Hy_3 := Lib.hid ((Hy_2.out.alloc (.cells #[.int .u32 1] 53)).below hB)
  have HBt : Hid (Bd 11 (s + 1)) := ⟨by have := HBs.out.lo; omega, by have := HBs.out.hi; have h2 : pw 11 = 4294967296 * pw 10 := pw_succ 10; have := pw_pos 10; omega⟩
  have Ht_3 := Lib.hid hO.rd
  clear hO hB hl hx0
  go_wp2_with fail
  refine (pow_calls R_3 k_3 _ n _ (canon (s + 1)) _ Ht_3.out rfl rfl (canon_dg _) (by have := HBt.out.len; omega) hn2).mono ?_
  rintro e w_4 ⟨R_4, k_4, rfl, hO, hB⟩
  rw [canon_val HBt.out.lo] at hO ⊢
  have HB_4 := Lib.hid (below_then HB_3.out HB_3.out.size hB)
  have Ha_4 := Lib.hid (Ha_3.out.below hB)
  clear Ha_3
  have Hy_4 := Lib.hid (Hy_3.out.below hB)
  clear Hy_3
  have Hz_4 := Lib.hid hO.rd
  clear hO hB
  go_wp2_with fail
  refine (awake_calls _).mono ?_
  rintro e w_5 ⟨rfl, hB⟩
  have HB_5 := Lib.hid (below_then HB_4.out HB_4.out.size hB)
  have Ha_5 := Lib.hid (Ha_4.out.below hB)
  clear Ha_4
  have Hy_5 := Lib.hid (Hy_4.out.below hB)
  clear Hy_4
  have Hz_5 := Lib.hid (Hz_4.out.below hB)
  clear Hz_4
  clear hB
  go_wp2_with fail
  refine (compare_calls R_2 A k_2 ca _ _ (canon (s ^ n)) xs _ Hy_5.out Ha_5.out (canon_dg _) HDa.out rfl rfl).mono ?_
  rintro e w_6 ⟨rfl, hD⟩
  have hB := hD.below
  rw [canon_val (Int.pow_nonneg HBs.out.lo)]
  have hc1 : decide (cmpI (s ^ n) (val xs) ≤ 0) = true := by
    rcases Int.lt_or_eq_of_le HS.out.2.1 with h | h
    · rw [cmpI_lt h]; rfl
    · rw [h, cmpI_eq]; rfl
  have HB_6 := Lib.hid (below_then HB_5.out HB_5.out.size hB)
  have Ha_6 := Lib.hid (Ha_5.out.below hB)
  clear Ha_5
  have Hz_6 := Lib.hid (Hz_5.out.below hB)
  clear Hz_5
  clear hD hB
  go_wp2_with fail
  clear hc1
  refine (compare_calls A R_4 ca k_4 _ _ xs (canon ((s + 1) ^ n)) _ Ha_6.out Hz_6.out HDa.out (canon_dg _) rfl rfl).mono ?_
  rintro e w_7 ⟨rfl, hD⟩
  have hB := hD.below
  rw [canon_val (Int.pow_nonneg (by have := HBs.out.lo; omega)), cmpI_lt HS.out.2.2]
  have HB_7 := Lib.hid (below_then HB_6.out HB_6.out.size hB)
  clear hD hB
  go_wp2_with fail
  go_ret
  exact ⟨rfl, HB_7.out⟩

theorem natroots_big (A : Option Addr) (ca na : Nat) (k : Int) (w : World) (ma : na ≤ 9223372036854775807) (h : ¬ na ≤ 10) :
    Calls Try.prog 7 #[.slice A na ca, .int .u8 k] w (Yes w) := by
  go_enter Try.func7, Try.ntmps7
  go_wp2_with fail
  refine (digits_no A ca na _ h ma).mono ?_
  rintro e w' ⟨rfl, rfl⟩
  go_wp2_with fail
  refine (awake_calls _).mono ?_
  rintro e w' ⟨rfl, hB⟩
  go_wp2_with fail
  go_ret
  exact ⟨rfl, hB⟩
theorem wf_u8 {n : Int} (h : (Lit.int .u8 n).wf = true) : 0 ≤ n ∧ n ≤ 255 := by
  simp [Lit.wf, IntKind.min, IntKind.max, IntKind.signed, IntKind.bits] at h
  omega

theorem natroots_any (a0 : Option Addr) (len0 cap0 : Nat) (z0 : List Int) (a1 : Int) (w : World) (w0 : IsRow .u32 w a0 len0 cap0 z0) (y0 : len0 * 4 ≤ 140737488351232) (w1 : (Lit.int .u8 a1).wf = true) :
    Calls Try.prog 7 #[.slice a0 len0 cap0, .int .u8 a1] w fun e w' => e = .returned (.bool true) ∧ Below w.heap.size w w' := by
  obtain ⟨g0, g1⟩ := wf_u8 w1
  by_cases h : len0 ≤ 10
  · obtain ⟨xs, rx, ex, dx⟩ := w0.rd (by omega)
    exact natroots_small a0 cap0 len0 (1 + a1 % 64).toNat a1 xs w rx ex dx (by omega) g0 g1 (by omega)
  · exact natroots_big a0 cap0 len0 a1 w (by omega) h
end Go.Proofs.Ytcmiciloiicfoaa
