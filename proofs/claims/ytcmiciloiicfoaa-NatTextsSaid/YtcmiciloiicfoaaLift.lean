/- nat.lift and nat.lower: the product with, and the quotient by, 2^s for s from 0 to 31. -/
import Derived.Test.YtcmiciloiicfoaaBits
import Derived.Laws.BitsAllLaws
namespace Go.Proofs.Ytcmiciloiicfoaa
open Go.RowKit Go.Proofs.YtcmiciloiicfoaaW.PrintWords

/-- The m lowest digits of a number. -/
def digs : Nat → Int → List Int
  | 0, _ => []
  | m + 1, v => v % 4294967296 :: digs m (v / 4294967296)
theorem digs_length (m : Nat) (v : Int) : (digs m v).length = m := by
  induction m generalizing v with
  | zero => rfl
  | succ m ih => simp [digs, ih]
theorem digs_dg (m : Nat) (v : Int) : Dg (digs m v) := by
  induction m generalizing v with
  | zero => exact Dg.nil
  | succ m ih => exact Dg.cons (by omega) (by omega) (ih _)
theorem digs_of {r : List Int} {m : Nat} {v : Int} (hl : r.length = m) (hd : Dg r) (hv : val r = v) : r = digs m v := by
  subst hl hv
  induction r with
  | nil => rfl
  | cons d ds ih =>
    have h := hd.head
    have e1 : (d + 4294967296 * val ds) % 4294967296 = d := by omega
    have e2 : (d + 4294967296 * val ds) / 4294967296 = val ds := by omega
    simp only [List.length_cons, val_cons, digs, e1, e2]
    rw [← ih hd.tail]
theorem digs_val {m : Nat} {v : Int} (h0 : 0 ≤ v) (h : v < pw m) : val (digs m v) = v := by
  induction m generalizing v with
  | zero => simp at h; simp [digs]; omega
  | succ m ih =>
    rw [pw_succ] at h
    simp only [digs, val_cons]
    rw [ih (by omega) (by omega)]
    omega

theorem or_join32 {a b : Int} {k : Nat} (ha : 0 ≤ a) (ha1 : a < 4294967296) (hb : 0 ≤ b) (hb1 : b < (2 : Int) ^ k) (hb2 : b < 4294967296) (hm : a % (2 : Int) ^ k = 0) : bits .or .u32 a b = a + b := by
  rw [u32_or a b ha ha1 hb hb2]
  obtain ⟨x, rfl⟩ := Int.eq_ofNat_of_zero_le ha
  obtain ⟨y, rfl⟩ := Int.eq_ofNat_of_zero_le hb
  rw [Int.toNat_natCast, Int.toNat_natCast, nat_join k x y (by exact_mod_cast hm) (by exact_mod_cast hb1)]
  omega
theorem or_join64 {a b : Int} {k : Nat} (ha : 0 ≤ a) (ha1 : a < 18446744073709551616) (hb : 0 ≤ b) (hb1 : b < (2 : Int) ^ k) (hb2 : b < 18446744073709551616) (hm : a % (2 : Int) ^ k = 0) : bits .or .u64 a b = a + b := by
  rw [u64_or a b ha ha1 hb hb2]
  obtain ⟨x, rfl⟩ := Int.eq_ofNat_of_zero_le ha
  obtain ⟨y, rfl⟩ := Int.eq_ofNat_of_zero_le hb
  rw [Int.toNat_natCast, Int.toNat_natCast, nat_join k x y (by exact_mod_cast hm) (by exact_mod_cast hb1)]
  omega

/-- A power of 2 from 2^0 to 2^31, and what it lacks to 2^32. -/
structure Pow2 (P Q : Int) : Prop where
  p0 : 1 ≤ P
  p1 : P ≤ 2147483648
  q0 : 2 ≤ Q
  q1 : Q ≤ 4294967296
  pq : P * Q = 4294967296
theorem pow2_mul (k : Nat) (h : k ≤ 32) : (2 : Int) ^ k * (2 : Int) ^ (32 - k) = 4294967296 := by
  rw [← Int.pow_add, show k + (32 - k) = 32 from by omega]; decide
theorem pow2_le (k j : Nat) (h : k ≤ j) : (2 : Int) ^ k ≤ (2 : Int) ^ j := by
  exact_mod_cast Nat.pow_le_pow_right (by omega : 2 > 0) h
theorem Pow2.of (s : Int) (h0 : 0 ≤ s) (h1 : s ≤ 31) : Pow2 ((2 : Int) ^ s.toNat) ((2 : Int) ^ (32 - s).toNat) := by
  have a := pow2_le 0 s.toNat (by omega)
  have b := pow2_le s.toNat 31 (by omega)
  have c := pow2_le 1 (32 - s).toNat (by omega)
  have d := pow2_le (32 - s).toNat 32 (by omega)
  have e := pow2_mul s.toNat (by omega)
  rw [show (32 - s).toNat = 32 - s.toNat from by omega] at *
  exact ⟨by simpa using a, by simpa using b, by simpa using c, by simpa using d, e⟩

/-- The loop of lift. -/
structure LiftInv (xs : List Int) (P : Int) (m i : Nat) (r : List Int) (lo : Int) : Prop where
  len : r.length = m
  dg : Dg r
  l0 : 0 ≤ lo
  l1 : lo < P
  eq : val (r.take i) + pw i * lo = P * val (xs.take i)
theorem LiftInv.init (xs : List Int) {P Q : Int} (h : Pow2 P Q) (m : Nat) : LiftInv xs P m 0 (List.replicate m 0) 0 :=
  ⟨by simp, Dg.replicate _, by omega, by have := h.p0; omega, by simp⟩
theorem mod_mul_right_zero {P Q d : Int} (h : P * Q = 4294967296) : (d * P % 4294967296) % P = 0 := by
  rw [← h, Int.emod_emod_of_dvd _ ⟨Q, rfl⟩]
  exact Int.mul_emod_left d P
theorem LiftInv.hi {P Q d lo : Int} (h : Pow2 P Q) (hd : 0 ≤ d) (hd1 : d < 4294967296) (h0 : 0 ≤ lo) (h1 : lo < P) :
    0 ≤ d * P % 4294967296 ∧ d * P % 4294967296 + lo < 4294967296 ∧ d * P / 4294967296 < P ∧ 0 ≤ d * P / 4294967296 ∧ 0 ≤ d * P ∧ d * P < 18446744073709551616 := by
  have hp := h.p0
  have hp1 := h.p1
  have hz := mod_mul_right_zero (d := d) h.pq
  have m0 : 0 ≤ d * P := Int.mul_nonneg hd (by omega)
  have m1 : d * P ≤ 4294967295 * P := Int.mul_le_mul_of_nonneg_right (by omega) (by omega)
  have hpq := h.pq
  obtain ⟨t, ht⟩ : ∃ t, t = d * P % 4294967296 := ⟨_, rfl⟩
  rw [← ht] at hz ⊢
  have ht0 : 0 ≤ t := by omega
  have ht1 : t < 4294967296 := by omega
  -- t = P * u, u < Q
  obtain ⟨u, hu⟩ : ∃ u, t = P * u := ⟨t / P, by have := Int.mul_ediv_add_emod t P; omega⟩
  have hu1 : u < Q := by
    apply Int.lt_of_mul_lt_mul_left (a := P) _ (by omega)
    omega
  have hu2 : P * u + P ≤ P * Q := by
    have : P * (u + 1) ≤ P * Q := Int.mul_le_mul_of_nonneg_left (by omega) (by omega)
    rw [Int.mul_add, Int.mul_one] at this; exact this
  refine ⟨ht0, by omega, by omega, by omega, m0, by omega⟩
theorem LiftInv.step {xs : List Int} {P Q : Int} {m i : Nat} {r : List Int} {lo : Int} (h : LiftInv xs P m i r lo) (hP : Pow2 P Q) (hx : Dg xs) (hi : i < m) :
    LiftInv xs P m (i + 1) (r.set i (gd xs i * P % 4294967296 + lo)) (gd xs i * P / 4294967296) := by
  have a := hx.gd i
  obtain ⟨b0, b1, b2, b3, _⟩ := LiftInv.hi hP a.1 a.2 h.l0 h.l1
  have hl := h.len
  have := h.l0
  have he := h.eq
  refine ⟨by rw [List.length_set]; exact hl, h.dg.set _ (by omega) (by omega), b3, b2, ?_⟩
  rw [val_take_succ, val_take_succ, take_set_ge (Nat.le_refl i), gd_set (by omega), if_pos rfl, pw_succ]
  have e := Int.emod_add_mul_ediv (gd xs i * P) 4294967296
  generalize (gd xs i * P) % 4294967296 = t at *
  generalize (gd xs i * P) / 4294967296 = q at *
  grind
theorem LiftInv.final0 {xs : List Int} {P : Int} {r : List Int} {lo : Int} (h : LiftInv xs P xs.length xs.length r lo) (hf : P * val xs < pw xs.length) : r = digs xs.length (P * val xs) := by
  have he := h.eq
  have := h.l0
  rw [val_take_ge (Nat.le_refl _), val_take_ge (Nat.le_of_eq h.len)] at he
  have hn := val_nonneg h.dg
  have : lo = 0 := by
    rcases Int.lt_or_le 0 lo with hlt | hle
    · have : pw xs.length * 1 ≤ pw xs.length * lo := Int.mul_le_mul_of_nonneg_left (by omega) (Int.le_of_lt (pw_pos _))
      omega
    · omega
  subst this
  exact digs_of h.len h.dg (by omega)
theorem LiftInv.final1 {xs : List Int} {P Q : Int} {r : List Int} {lo : Int} (h : LiftInv xs P (xs.length + 1) xs.length r lo) (hP : Pow2 P Q) : r.set xs.length lo = digs (xs.length + 1) (P * val xs) := by
  have he := h.eq
  have := h.l0
  have := h.l1
  have := hP.p1
  have hl := h.len
  apply digs_of
  · rw [List.length_set]; exact hl
  · exact h.dg.set _ (by omega) (by omega)
  · have e1 : (r.set xs.length lo) = (r.set xs.length lo).take (xs.length + 1) := by rw [List.take_of_length_le]; simp; omega
    rw [e1, val_take_succ, take_set_ge (Nat.le_refl _), gd_set (by omega), if_pos rfl, he, val_take_ge (Nat.le_refl _)]

set_option maxRecDepth 100000 in
set_option maxHeartbeats 400000 in
theorem lift_calls (A : Option Addr) (c n m : Nat) (s : Int) (xs : List Int) (w : World) (hx : Rd w A c xs) (hn : n = xs.length) (dx : Dg xs) (h0 : 0 ≤ s) (h1 : s ≤ 31) (hm : m = n + 1 ∨ m = n ∧ (2 : Int) ^ s.toNat * val xs < pw xs.length) (hl : xs.length ≤ 16777216) :
    Calls Try.prog 99 #[.slice A n c, .int .u64 s, .int .i64 m] w (Out w (digs m ((2 : Int) ^ s.toNat * val xs))) := by
  subst hn
  have hP := Pow2.of s h0 h1
  have HX := Lib.hid hx
  have HD := Lib.hid dx
  have HP := Lib.hid hP
  have HM := Lib.hid hm
  have hmk := make_u32 m (m : Int) rfl (by omega)
  have hm1 : xs.length ≤ m := by omega
  have hm2 : m ≤ xs.length + 1 := by omega
  clear hx dx hm hP
  go_enter Try.func99, Try.ntmps99
  go_wp2_with fail
  go_loopw [8, 15] (fun v8 v15 wr => ∃ (i : Nat) (r : List Int) (lo : Int), v8 = .int .u32 lo ∧ v15 = .int .i64 i ∧ i ≤ xs.length ∧ Hid (LiftInv xs ((2 : Int) ^ s.toNat) m i r lo) ∧ Hid (Own wr w.heap.size (some ⟨w.heap.size, 0, none⟩) m r) ∧ Hid (Below w.heap.size w wr)) (fun _ v _ => xs.length - (intOf v).toNat)
  case atStart => exact ⟨0, _, 0, rfl, rfl, Nat.zero_le _, LiftInv.init xs HP.out m, Own.made w _ _ (Nat.le_refl _) (by omega), (Below.refl _ _).alloc (Nat.le_refl _) _⟩
  case round =>
    obtain ⟨i, r, lo, rfl, rfl, hi, HI, HO, HB⟩ := hrel
    by_cases hlt : i < xs.length
    · have ha := HD.out.gd i
      obtain ⟨adx, ex, hcx⟩ := (HX.out.below HB.out).at_ i hlt
      cases ex
      have hO1 := HO.out.cell i (by have := HI.out.len; omega)
      have hO2 := HO.out.frozen i
      go_wp2
      go_roundw
      case rel =>
        have hs := HI.out.step HP.out HD.out (by omega)
        obtain ⟨b0, b1, b2, b3, b4, b5⟩ := LiftInv.hi HP.out ha.1 ha.2 HI.out.l0 HI.out.l1
        have hp1 := HP.out.p1
        have hl0 := HI.out.l0
        have hl1 := HI.out.l1
        have e1 : IntKind.u64.wrap (gd xs i * 2 ^ s.toNat) / 4294967296 % 4294967296 = gd xs i * 2 ^ s.toNat / 4294967296 := by
          rw [u64_mod]; omega
        have e2 := or_join32 (k := s.toNat) b0 (by omega) hl0 hl1 (by omega) (mod_mul_right_zero HP.out.pq)
        rw [e1, e2]
        exact ⟨i + 1, _, _, rfl, by go_num, by omega, hs, HO.out.set i _, HB.out.setCell (Nat.le_refl _) _⟩
      case measure => simp [intOf]; omega
    · obtain rfl : i = xs.length := by omega
      by_cases hlm : xs.length < m
      · have hb : decide (xs.length < m) = true := by simp [hlm]
        have hO1 := HO.out.cell xs.length (by have := HI.out.len; omega)
        have hO2 := HO.out.frozen xs.length
        have hO3 := HO.out.set xs.length lo
        obtain rfl : m = xs.length + 1 := by omega
        rw [HI.out.final1 HP.out] at hO3
        have HO3 := Lib.hid hO3
        clear hO3 hlm hm1 hm2
        go_wp2_with fail
        go_ret
        exact Out.mk' (digs_length _ _).symm HO3.out (HB.out.setCell (Nat.le_refl _) _)
      · have hb : decide (xs.length < m) = false := by simp; omega
        have hf : (2 : Int) ^ s.toNat * val xs < pw xs.length := by
          rcases HM.out with h | h
          · omega
          · exact h.2
        obtain rfl : m = xs.length := by omega
        have hr := HI.out.final0 hf
        have HR := Lib.hid hr
        clear hr hf hlm hm1 hm2
        go_wp2_with fail
        go_ret
        rw [← HR.out]
        exact Out.mk' HI.out.len.symm HO.out HB.out
end Go.Proofs.Ytcmiciloiicfoaa
