/- nat.raise, nat.power, nat.Pow. -/
import Derived.Test.YtcmiciloiicfoaaDivMod
namespace Go.Proofs.Ytcmiciloiicfoaa
open Go.RowKit Go.Proofs.YtcmiciloiicfoaaW.PrintWords

theorem make_u32c (l c : Nat) (li ci : Int) (hli : li = l) (hci : ci = c) (hlc : l ≤ c) (hm : c ≤ 70368744177664) :
    ∀ W : World, (Instr.makeSlice 45 (.int .i64 li) (.int .i64 ci)).run Try.prog W = .ok (.slice (some ⟨W.heap.size, 0, none⟩) l c) (W.alloc (.cells (madeCells #[.int .u32 0] c) 53)) := by
  subst hli hci
  intro W
  obtain ⟨i0, hi, hz0, hz1, hz2⟩ := info_parts info53
  have h := run_make (P := Try.prog) W 45 53 i0 (.int .u32 0) Try.underlying45 hi hz0 .i64 .i64 (l : Int) (c : Int) (by omega) (by omega) (by rw [hz2]; omega) (by omega)
  rw [h, hz1]
  simp only [Int.toNat_natCast, Nat.mul_one]
  rfl
theorem Own.madec (W : World) (base l c : Nat) (hb : base ≤ W.heap.size) (hlc : l ≤ c) (hm : c ≤ 4294967296) :
    Own (W.alloc (.cells (madeCells #[.int .u32 0] c) 53)) base (some ⟨W.heap.size, 0, none⟩) c (List.replicate l 0) := by
  have h := (Own.made W base c hb hm).take l (by simpa using hlc) (by simp)
  rwa [List.take_replicate, Nat.min_eq_left hlc] at h

set_option maxRecDepth 100000 in
set_option maxHeartbeats 400000 in
theorem raise_calls (A : Option Addr) (c l : Nat) (k : Nat) (ki : Int) (xs : List Int) (w : World) (hx : Rd w A c xs) (hl : l = xs.length) (hki : ki = k) (dx : Dg xs) (h1 : 1 ≤ xs.length) (lx : xs.length ≤ 1048576) (hk : k ≤ 16777216) :
    Calls Try.prog 77 #[.slice A l c, .int .i64 ki] w (Out w (canon (val xs * (2 : Int) ^ k))) := by
  subst hl hki
  have hb : ((xs.length : Int) == 0) = false := by simp; intro h; rw [h] at h1; simp at h1
  have hq : (k : Int) / 32 = ((k / 32 : Nat) : Int) := by omega
  have hr0 : 0 ≤ (k : Int) % 32 := by omega
  have hr1 : (k : Int) % 32 ≤ 31 := by omega
  have hmk := make_u32c (k / 32) (k / 32 + xs.length + 1) ((k / 32 : Nat) : Int) (((k / 32 : Nat) : Int) + xs.length + 1) rfl (by omega) (by omega) (by omega)
  have hP := Pow2.of _ hr0 hr1
  have hfit : (2 : Int) ^ ((k : Int) % 32).toNat * val xs < pw (xs.length + 1) := by
    have h1 := val_lt dx
    have h2 := val_nonneg dx
    have h3 : (2 : Int) ^ ((k : Int) % 32).toNat * val xs ≤ 4294967295 * val xs := Int.mul_le_mul_of_nonneg_right (by have := hP.p1; omega) h2
    rw [pw_succ]; omega
  have hd0 : 0 ≤ (2 : Int) ^ ((k : Int) % 32).toNat * val xs := Int.mul_nonneg (by have := hP.p0; omega) (val_nonneg dx)
  have hfin : cutL (List.replicate (k / 32) 0 ++ digs (xs.length + 1) ((2 : Int) ^ ((k : Int) % 32).toNat * val xs)) = canon (val xs * (2 : Int) ^ k) := by
    rw [cutL_canon ((Dg.replicate _).append (digs_dg _ _)), val_append, val_replicate, List.length_replicate, digs_val hd0 hfit, pw_two, Int.zero_add, ← Int.mul_assoc, ← Int.pow_add]
    have e : 32 * (k / 32) + ((k : Int) % 32).toNat = k := by omega
    rw [e, Int.mul_comm]
  have HFIN := Lib.hid hfin
  have HX := Lib.hid hx
  have HDX := Lib.hid dx
  have HQ := Lib.hid hq
  clear hx dx hP hfit hd0 hfin hq
  have hq := HQ.out
  obtain ⟨q, hqq⟩ : ∃ q, q = k / 32 := ⟨_, rfl⟩
  rw [← hqq] at hq hmk HFIN
  have hq1 : q ≤ 524288 := by omega
  clear hqq HQ
  go_enter Try.func77, Try.ntmps77
  go_wp2_with fail
  refine (lift_calls2 A c _ (xs.length + 1) _ _ xs _ ((HX.out.alloc _)) rfl (by omega) HDX.out hr0 hr1 (.inl rfl) (by omega)).mono ?_
  have hDl := digs_length (xs.length + 1) ((2 : Int) ^ ((k : Int) % 32).toNat * val xs)
  rintro e w2 ⟨R, kr, rfl, hO, hB⟩
  generalize digs (xs.length + 1) ((2 : Int) ^ ((k : Int) % 32).toNat * val xs) = D at *
  have hM := Own.madec w w.heap.size q (q + xs.length + 1) (Nat.le_refl _) (by omega) (by omega)
  have hM2 := hM.below hB
  have hB2 : Below w.heap.size w w2 := below_then ((Below.refl _ w).alloc (Nat.le_refl _) _) (by simp) hB
  have HM2 := Lib.hid hM2
  have HB2 := Lib.hid hB2
  have HO := Lib.hid hO
  have HDL := Lib.hid hDl
  clear hM hM2 hB2 hO hB hDl
  go_wp2_with (at_builtin; refine app_law w.heap.size rfl (.tmp 18) (.tmp 26) rfl _ _ _ (List.replicate q 0) rfl (by simp) HM2.out _ _ _ D rfl rfl HO.out.rd (by rw [HDL.out]; simp; omega) HB2.out.size ?_; intro R2 k2 w3 hO3 hg)
  refine (cut_l R2 k2 _ (List.replicate q 0 ++ D) _ hO3.rd (by simp)).mono ?_
  rintro e w' ⟨rfl, rfl⟩
  go_wp2_with fail
  go_ret
  have ho := hO3.cutL'
  rw [HFIN.out] at ho ⊢
  exact Out.mk' rfl ho (HB2.out.grown hg HB2.out.size (Own.row HM2.out))
theorem pow_half (A : Int) (p : Nat) : A ^ p * A ^ p = A ^ (2 * p) := by rw [← Int.pow_add]; congr 1; omega

theorem ipow_le {a b : Int} (h0 : 0 ≤ a) (h : a ≤ b) (n : Nat) : a ^ n ≤ b ^ n := by
  induction n with
  | zero => simp
  | succ n ih =>
    rw [Int.pow_succ, Int.pow_succ]
    have h1 : a ^ n * a ≤ b ^ n * a := Int.mul_le_mul_of_nonneg_right ih h0
    have h2 : b ^ n * a ≤ b ^ n * b := Int.mul_le_mul_of_nonneg_left h (Int.pow_nonneg (by omega))
    omega
theorem canon_one : canon 1 = [1] := by
  have := canon_of (xs := [1]) (Dg.cons (by omega) (by omega) Dg.nil) (by intro _; simp)
  simpa using this.symm
/-- A bound on how many digits a power has. -/
theorem pow_lt {xs : List Int} {L e : Nat} (dx : Dg xs) (hl : xs.length ≤ L) : val xs ^ e < pw (L * e + 1) := by
  have h1 := val_lt dx
  have h2 := pw_le hl
  have h0 := val_nonneg dx
  have h3 : val xs ^ e ≤ pw (L * e) := by
    unfold pw
    rw [Int.pow_mul]
    exact ipow_le h0 (by unfold pw at *; omega) e
  have := pw_pos (L * e)
  rw [pw_succ]; omega
theorem pow_canon_length {xs : List Int} {e : Nat} (dx : Dg xs) (hl : xs.length ≤ 4096) (he : e ≤ 64) : (canon (val xs ^ e)).length ≤ 262145 := by
  apply canon_length_le (Int.pow_nonneg (val_nonneg dx))
  have h1 := pow_lt (e := e) dx hl
  have h2 := pw_le (i := 4096 * e + 1) (j := 262145) (by omega)
  omega

set_option maxRecDepth 100000 in
set_option maxHeartbeats 400000 in
theorem power_calls (A : Option Addr) (c l : Nat) (n : Nat) (ni : Int) (xs : List Int) (w : World) (hx : Rd w A c xs) (hl : l = xs.length) (hni : ni = n) (dx : Dg xs) (lx : xs.length ≤ 4096) (hn : n ≤ 64) :
    Calls Try.prog 79 #[.slice A l c, .int .i64 ni] w (Out w (canon (val xs ^ n))) := by
  subst hl hni
  have HX := Lib.hid hx
  have HDX := Lib.hid dx
  clear hx dx
  go_enter Try.func79, Try.ntmps79
  go_wp2_with fail
  go_loopw [0, 1, 5] (fun v0 v1 v5 wr => ∃ (p e m : Nat) (A1 R : Option Addr) (c1 kr : Nat) (a1 : List Int), v0 = .slice A1 a1.length c1 ∧ v1 = .int .i64 m ∧ v5 = .slice R (canon (val xs ^ e)).length kr ∧ m ≤ 64 ∧ p ≤ 64 ∧ e ≤ 64 ∧ Hid (e + p * m = n) ∧ Hid (val a1 = val xs ^ p) ∧ Hid (Dg a1) ∧ a1.length ≤ 262145 ∧ Hid (Rd wr A1 c1 a1) ∧ Hid (Own wr w.heap.size R kr (canon (val xs ^ e))) ∧ Hid (Below w.heap.size w wr)) (fun _ v _ _ => (intOf v).toNat)
  case atStart =>
    have e1 : canon (val xs ^ 0) = [1] := by rw [Int.pow_zero]; exact canon_one
    refine ⟨1, 0, n, A, some ⟨w.heap.size, 0, none⟩, c, 1, xs, rfl, rfl, by rw [e1]; rfl, hn, by omega, by omega, by show _ = _; omega, by show _ = _; rw [Int.pow_succ]; simp, HDX.out, by omega, HX.out.alloc _, ?_, (Below.refl _ _).alloc (Nat.le_refl _) _⟩
    rw [e1]
    exact Own.lit1 w _ (Nat.le_refl _) 1
  case round =>
    obtain ⟨p, e, m, A1, R, c1, kr, a1, rfl, rfl, rfl, hm, hp, he, HE, HVA, HDA, hla, HA, HR, HB⟩ := hrel
    by_cases h0 : m = 0
    · subst h0
      have hE := HE.out
      rw [Nat.mul_zero, Nat.add_zero] at hE
      subst hE
      go_wp2
      go_ret
      exact Out.mk' rfl HR.out HB.out
    · have hE := HE.out
      have hp1 : p * 1 ≤ p * m := Nat.mul_le_mul_left p (by omega)
      have hX0 := val_nonneg HDX.out
      have hlr := pow_canon_length HDX.out lx he
      have kmul := fun W (h1 : Rd W R kr (canon (val xs ^ e))) (h2 : Rd W A1 c1 a1) => mul_calls R A1 kr c1 _ _ (canon (val xs ^ e)) a1 W h1 h2 rfl rfl (canon_dg _) HDA.out (by omega) (by omega)
      have ksqr := fun W (h2 : Rd W A1 c1 a1) => mul_calls A1 A1 c1 c1 _ _ a1 a1 W h2 h2 rfl rfl HDA.out HDA.out (by omega) (by omega)
      rw [canon_val (Int.pow_nonneg hX0), HVA.out, ← Int.pow_add] at kmul
      rw [HVA.out, pow_half] at ksqr
      have KM := Lib.hid kmul
      have KS := Lib.hid ksqr
      have hmod : (m : Int) % 2 = ((m % 2 : Nat) : Int) := by omega
      have hdiv : (m : Int) / 2 = ((m / 2 : Nat) : Int) := by omega
      clear kmul ksqr
      by_cases hodd : m % 2 = 1
      · have hb : (((m : Int) % 2) == 1) = true := by rw [hmod, hodd]; rfl
        by_cases h2 : m / 2 = 0
        · have hd2 : decide (0 < (m : Int) / 2) = false := by simp; omega
          have hd0 : (m : Int) / 2 = 0 := by omega
          obtain rfl : m = 1 := by omega
          clear hmod hdiv hd2 hd0 hb hodd h2 h0 hp1
          have HE' := Lib.hid hE
          clear hE
          go_wp2_with fail
          refine (KM.out _ HR.out.rd HA.out).mono ?_
          rintro e' w2 ⟨R2, k2, rfl, hO2, hB2⟩
          go_wp2_with fail
          go_roundw
          case rel =>
            have hE := HE'.out
            exact ⟨p, e + p, 0, A1, R2, c1, k2, a1, rfl, rfl, rfl, by omega, hp, by omega, by show _ = _; omega, HVA, HDA, hla, HA.out.below hB2, hO2.mono HB.out.size, below_then HB.out HB.out.size hB2⟩
          case measure => simp [intOf]
        · have hd2 : decide (0 < (m : Int) / 2) = true := by simp; omega
          have hp2 : p * 2 ≤ p * m := Nat.mul_le_mul_left p (by omega)
          have hl2 := pow_canon_length (e := 2 * p) HDX.out lx (by omega)
          have hE2 : e + p + 2 * p * (m / 2) = n := by
            have : p * m = p * (2 * (m / 2) + 1) := by congr 1; omega
            rw [Nat.mul_add, Nat.mul_one, ← Nat.mul_assoc, Nat.mul_comm p 2] at this
            omega
          obtain ⟨m2, hm2⟩ : ∃ m2, m2 = m / 2 := ⟨_, rfl⟩
          have hm2l : m2 < m := by omega
          have hm2p : 0 < m2 := by omega
          rw [← hm2] at hE2 hdiv
          have HE' := Lib.hid hE
          have HE2 := Lib.hid hE2
          have HPM := Lib.hid hp2
          have HP1 := Lib.hid hp1
          clear hmod hd2 hodd h2 h0 hp1 hm2 hE hE2 hp2
          go_wp2_with fail
          refine (KM.out _ HR.out.rd HA.out).mono ?_
          rintro e' w2 ⟨R2, k2, rfl, hO2, hB2⟩
          have HO2 := Lib.hid hO2
          have HB2 := Lib.hid hB2
          clear hO2 hB2
          go_wp2_with fail
          refine (KS.out _ (HA.out.below HB2.out)).mono ?_
          rintro e' w3 ⟨R3, k3, rfl, hO3, hB3⟩
          go_wp2_with fail
          go_roundw
          case rel =>
            have h1 := HE'.out
            have h2 := HPM.out
            have h3 := HP1.out
            exact ⟨2 * p, e + p, m2, R3, R2, k3, k2, canon (val xs ^ (2 * p)), rfl, rfl, rfl, by omega, by omega, by omega, HE2, canon_val (Int.pow_nonneg hX0), canon_dg _, hl2, hO3.rd, (HO2.out.below hB3).mono HB.out.size, below_then (below_then HB.out HB.out.size HB2.out) (Nat.le_trans HB.out.size HB2.out.size) hB3⟩
          case measure => simp [intOf]; omega
      · have hb : (((m : Int) % 2) == 1) = false := by rw [hmod]; simp; omega
        have hd2 : decide (0 < (m : Int) / 2) = true := by simp; omega
        have hp2 : p * 2 ≤ p * m := Nat.mul_le_mul_left p (by omega)
        have hl2 := pow_canon_length (e := 2 * p) HDX.out lx (by omega)
        have hE2 : e + 2 * p * (m / 2) = n := by
          have : p * m = p * (2 * (m / 2)) := by congr 1; omega
          rw [← Nat.mul_assoc, Nat.mul_comm p 2] at this
          omega
        obtain ⟨m2, hm2⟩ : ∃ m2, m2 = m / 2 := ⟨_, rfl⟩
        have hm2l : m2 < m := by omega
        have hm2p : 0 < m2 := by omega
        rw [← hm2] at hE2 hdiv
        have HE' := Lib.hid hE
        have HE2 := Lib.hid hE2
        have HPM := Lib.hid hp2
        clear hmod hd2 hodd h0 hp1 hm2 hE hE2 hp2
        go_wp2_with fail
        refine (KS.out _ HA.out).mono ?_
        rintro e' w3 ⟨R3, k3, rfl, hO3, hB3⟩
        go_wp2_with fail
        go_roundw
        case rel =>
          have h1 := HE'.out
          have h2 := HPM.out
          exact ⟨2 * p, e, m2, R3, R, k3, kr, canon (val xs ^ (2 * p)), rfl, rfl, rfl, by omega, by omega, by omega, HE2, canon_val (Int.pow_nonneg hX0), canon_dg _, hl2, hO3.rd, HR.out.below hB3, below_then HB.out HB.out.size hB3⟩
        case measure => simp [intOf]; omega
end Go.Proofs.Ytcmiciloiicfoaa
