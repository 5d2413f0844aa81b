/- nat.lower: the quotient by 2^s for s from 0 to 31. -/
import Derived.Test.YtcmiciloiicfoaaLift
namespace Go.Proofs.Ytcmiciloiicfoaa
open Go.RowKit Go.Proofs.YtcmiciloiicfoaaW.PrintWords

/-- Digit j of the quotient. -/
def lowD (xs : List Int) (P Q : Int) (j : Nat) : Int := gd xs j / P + gd xs (j + 1) % P * Q
/-- The loop of lower: the digits from k on stand. -/
structure LowInv (xs : List Int) (P Q : Int) (k : Nat) (r : List Int) : Prop where
  len : r.length = xs.length
  dg : Dg r
  eq : ∀ j, k ≤ j → j < xs.length → gd r j = lowD xs P Q j
theorem LowInv.init (xs : List Int) (P Q : Int) : LowInv xs P Q xs.length (List.replicate xs.length 0) :=
  ⟨by simp, Dg.replicate _, fun j h1 h2 => by omega⟩
theorem low_bound {P Q d e : Int} (h : Pow2 P Q) (hd : 0 ≤ d) (hd1 : d < 4294967296) : 0 ≤ d / P ∧ d / P < Q ∧ 0 ≤ e % P * Q ∧ e % P * Q + Q ≤ 4294967296 ∧ (e % P * Q) % Q = 0 := by
  have hp := h.p0
  have hq := h.q0
  have hpq := h.pq
  have m1 := Int.emod_nonneg e (show P ≠ 0 by omega)
  have m2 := Int.emod_lt_of_pos e (show 0 < P by omega)
  refine ⟨Int.ediv_nonneg hd (by omega), ?_, Int.mul_nonneg m1 (by omega), ?_, Int.mul_emod_left _ _⟩
  · apply Int.ediv_lt_of_lt_mul (by omega)
    rw [Int.mul_comm, hpq]; exact hd1
  · have : (e % P + 1) * Q ≤ P * Q := Int.mul_le_mul_of_nonneg_right (by omega) (by omega)
    rw [Int.add_mul, Int.one_mul, hpq] at this
    exact this
theorem lowD_bound {xs : List Int} {P Q : Int} (h : Pow2 P Q) (hx : Dg xs) (j : Nat) : 0 ≤ lowD xs P Q j ∧ lowD xs P Q j < 4294967296 := by
  have a := hx.gd j
  obtain ⟨b0, b1, b2, b3, _⟩ := low_bound (e := gd xs (j + 1)) h a.1 a.2
  unfold lowD
  omega
theorem LowInv.step {xs : List Int} {P Q : Int} {k : Nat} {r : List Int} (h : LowInv xs P Q (k + 1) r) (hP : Pow2 P Q) (hx : Dg xs) (hk : k < xs.length) : LowInv xs P Q k (r.set k (lowD xs P Q k)) := by
  have hb := lowD_bound hP hx k
  have hl := h.len
  refine ⟨by rw [List.length_set]; exact hl, h.dg.set _ hb.1 hb.2, fun j h1 h2 => ?_⟩
  rw [gd_set (by omega)]
  by_cases e : k = j
  · subst e; simp
  · rw [if_neg e]; exact h.eq j (by omega) h2
theorem high_eq {P Q e : Int} (h : Pow2 P Q) : (e * Q) % 4294967296 = e % P * Q := by
  have hpq := h.pq
  have hp := h.p0
  have hq := h.q0
  have h1 := Int.mul_ediv_add_emod e P
  have m1 := Int.emod_nonneg e (show P ≠ 0 by omega)
  have m2 := Int.emod_lt_of_pos e (show 0 < P by omega)
  obtain ⟨b0, b1, b2, b3, b4⟩ := low_bound (d := 0) (e := e) h (by omega) (by omega)
  have : e * Q = e % P * Q + 4294967296 * (e / P) := by
    rw [← hpq]
    calc e * Q = (P * (e / P) + e % P) * Q := by rw [h1]
      _ = _ := by grind
  rw [this]
  omega
theorem val_mod {xs : List Int} {P Q : Int} (h : Pow2 P Q) : val xs % P = gd xs 0 % P := by
  cases xs with
  | nil => simp
  | cons d ds =>
    simp only [val_cons, gd_zero]
    rw [← h.pq, Int.mul_assoc, Int.add_mul_emod_self_left]
theorem low_val {xs r : List Int} {P Q : Int} (h : Pow2 P Q) (hl : r.length = xs.length) (he : ∀ j, j < xs.length → gd r j = lowD xs P Q j) : val r = val xs / P := by
  induction xs generalizing r with
  | nil => rw [List.length_eq_zero_iff.1 hl]; simp
  | cons d ds ih =>
    cases r with
    | nil => simp at hl
    | cons e es =>
      have h0 := he 0 (by simp)
      have hi := ih (r := es) (by simpa using hl) (fun j hj => by have := he (j + 1) (by simp; omega); simpa [lowD] using this)
      simp only [gd_zero, lowD, gd_succ] at h0
      simp only [val_cons, hi, h0]
      have hm := val_mod (xs := ds) h
      have hp := h.p0
      have e1 := Int.mul_ediv_add_emod (val ds) P
      rw [← hm]
      have e2 : d + 4294967296 * val ds = d + P * (Q * (P * (val ds / P) + val ds % P)) := by
        rw [e1, ← Int.mul_assoc, h.pq]
      rw [e2, Int.add_mul_ediv_left _ _ (by omega)]
      have := h.pq
      grind

theorem u32_or_comm (a b : Int) (h1 : 0 ≤ a) (h2 : a < 4294967296) (h3 : 0 ≤ b) (h4 : b < 4294967296) : bits .or .u32 a b = bits .or .u32 b a := by
  rw [u32_or a b h1 h2 h3 h4, u32_or b a h3 h4 h1 h2, Nat.or_comm]
/-- An element read, also behind a store into a block of the call's own. -/
theorem Rd.at2 {w wr : World} {A : Option Addr} {c : Nat} {xs : List Int} (h : Rd w A c xs) (hb : Below w.heap.size w wr) (p : Addr) (hp : w.heap.size ≤ p.block) (k : Nat) (h1 : k < xs.length) :
    ∃ ad, A = some ad ∧ wr.cell? (ad.add k) = some (.int .u32 (gd xs k)) ∧ ∀ v, (wr.setCell p v).cell? (ad.add k) = some (.int .u32 (gd xs k)) := by
  obtain ⟨ad, e, hc⟩ := (h.below hb).at_ k h1
  refine ⟨ad, e, hc, fun v => ?_⟩
  obtain ⟨ad', e', hc'⟩ := (h.below (hb.setCell hp v)).at_ k h1
  rw [e] at e'
  cases e'
  exact hc'

set_option maxRecDepth 100000 in
set_option maxHeartbeats 400000 in
theorem lower_calls (A : Option Addr) (c n : Nat) (s : Int) (xs : List Int) (w : World) (hx : Rd w A c xs) (hn : n = xs.length) (dx : Dg xs) (h0 : 0 ≤ s) (h1 : s ≤ 31) (hl : xs.length ≤ 16777216) :
    Calls Try.prog 101 #[.slice A n c, .int .u64 s] w (Out w (digs xs.length (val xs / (2 : Int) ^ s.toNat))) := by
  subst hn
  have hP := Pow2.of s h0 h1
  have HX := Lib.hid hx
  have HD := Lib.hid dx
  have HP := Lib.hid hP
  have hmk := make_u32 xs.length (xs.length : Int) rfl (by omega)
  clear hx dx hP
  go_enter Try.func101, Try.ntmps101
  go_wp2_with fail
  go_loopw [6, 7] (fun v6 v7 wr => ∃ (k : Nat) (j : Int) (r : List Int) (hi : Int), v6 = .int .u32 hi ∧ v7 = .int .i64 j ∧ j + 1 = k ∧ k ≤ xs.length ∧ Hid (hi = gd xs k % (2 : Int) ^ s.toNat * (2 : Int) ^ (32 - s).toNat) ∧ Hid (LowInv xs ((2 : Int) ^ s.toNat) ((2 : Int) ^ (32 - s).toNat) k r) ∧ Hid (Own wr w.heap.size (some ⟨w.heap.size, 0, none⟩) xs.length r) ∧ Hid (Below w.heap.size w wr)) (fun _ v _ => (intOf v + 1).toNat)
  case atStart => exact ⟨xs.length, _, _, 0, rfl, rfl, by omega, Nat.le_refl _, by show _ = _; rw [gd_ge (Nat.le_refl _)]; simp, LowInv.init xs _ _, Own.made w _ _ (Nat.le_refl _) (by omega), (Below.refl _ _).alloc (Nat.le_refl _) _⟩
  case round =>
    obtain ⟨k, j, r, hi, rfl, rfl, hj, hk, HH, HI, HO, HB⟩ := hrel
    cases k with
    | zero =>
      obtain rfl : j = -1 := by omega
      have hv := low_val HP.out HI.out.len (fun j hj => HI.out.eq j (Nat.zero_le _) hj)
      have hr := digs_of HI.out.len HI.out.dg hv
      have HR := Lib.hid hr
      clear hv hr
      go_wp2_with fail
      go_ret
      rw [← HR.out]
      exact Out.mk' HI.out.len.symm HO.out HB.out
    | succ k =>
      obtain rfl : j = (k : Int) := by omega
      clear hj
      have ha := HD.out.gd k
      obtain ⟨adx, ex, hcx, hcx'⟩ := HX.out.at2 HB.out ⟨w.heap.size, k, none⟩ (Nat.le_refl _) k (by omega)
      cases ex
      have hO1 := HO.out.cell k (by have := HI.out.len; omega)
      have hO2 := HO.out.frozen k
      go_wp2
      go_roundw
      case rel =>
        have hs := HI.out.step HP.out HD.out (by omega)
        obtain ⟨b0, b1, b2, b3, b4⟩ := low_bound (e := gd xs (k + 1)) HP.out ha.1 ha.2
        have hq := HP.out.q0
        have hp := HP.out.p0
        have m0 : 0 ≤ gd xs k * 2 ^ (32 - s).toNat := Int.mul_nonneg ha.1 (by omega)
        have m1 : gd xs k * 2 ^ (32 - s).toNat ≤ 4294967295 * 2 ^ (32 - s).toNat := Int.mul_le_mul_of_nonneg_right (by omega) (by omega)
        have hq1 := HP.out.q1
        have e1 : IntKind.u64.wrap (gd xs k * 2 ^ (32 - s).toNat) % 4294967296 = gd xs k % 2 ^ s.toNat * 2 ^ (32 - s).toNat := by
          rw [← high_eq HP.out, u64_mod]; omega
        have e2 : bits .or .u32 (gd xs k / 2 ^ s.toNat) hi = lowD xs ((2 : Int) ^ s.toNat) ((2 : Int) ^ (32 - s).toNat) k := by
          rw [HH.out, u32_or_comm _ _ b0 (by omega) b2 (by omega), or_join32 (k := (32 - s).toNat) b2 (by omega) b0 b1 (by omega) b4]
          unfold lowD; omega
        rw [e1, e2]
        exact ⟨k, _, _, _, rfl, rfl, by omega, by omega, rfl, hs, HO.out.set k _, HB.out.setCell (Nat.le_refl _) _⟩
      case measure => simp [intOf]
end Go.Proofs.Ytcmiciloiicfoaa
