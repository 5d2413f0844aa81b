/- nat.Normal, and the reference's Normal and Compare. -/
import Derived.Test.YtcmiciloiicfoaaIn
namespace Go.Proofs.Ytcmiciloiicfoaa
open Go.RowKit Go.Proofs.YtcmiciloiicfoaaW.PrintWords

/-- No zero at the end, as a yes or no. -/
def nmB (xs : List Int) : Bool := xs.length == 0 || gd xs (xs.length - 1) != 0

set_option maxHeartbeats 400000 in
theorem normal_calls (A : Option Addr) (c n : Nat) (xs : List Int) (w : World) (h : Rd w A c xs) (hn : n = xs.length) :
    Calls Try.prog 45 #[.slice A n c] w fun e w' => e = .returned (.bool (nmB xs)) ∧ w = w' := by
  subst hn
  have hsm := h.small
  by_cases h0 : xs.length = 0
  · have hb : ((xs.length : Int) == 0) = true := by simp [h0]
    have HR := Lib.hid (show nmB xs = true by simp [nmB, h0])
    clear h h0
    go_enter Try.func45, Try.ntmps45
    go_wp2
    go_ret
    exact ⟨ret_bool HR.out.symm, rfl⟩
  · have hb : ((xs.length : Int) == 0) = false := by simp; intro he; exact h0 (by rw [he]; rfl)
    obtain ⟨m, hm⟩ : ∃ m, xs.length = m + 1 := ⟨xs.length - 1, by omega⟩
    obtain ⟨ad, rfl, hc⟩ := h.at_ m (by omega)
    have he : ((xs.length : Int) - 1) = (m : Int) := by omega
    have HR := Lib.hid (show nmB xs = (gd xs m != 0) by simp [nmB, hm])
    clear h h0 
    go_enter Try.func45, Try.ntmps45
    go_wp2
    go_ret
    exact ⟨ret_bool HR.out.symm, rfl⟩
set_option maxHeartbeats 400000 in
theorem rnormal_calls (A : Option Addr) (c n : Nat) (xs : List Int) (w : World) (h : Rd w A c xs) (hn : n = xs.length) :
    Calls Try.prog 46 #[.slice A n c] w fun e w' => e = .returned (.bool (nmB xs)) ∧ w = w' := by
  subst hn
  have hsm := h.small
  by_cases h0 : xs.length = 0
  · have hb : ((xs.length : Int) == 0) = true := by simp [h0]
    have HR := Lib.hid (show nmB xs = true by simp [nmB, h0])
    clear h h0
    go_enter Try.func46, Try.ntmps46
    go_wp2
    go_ret
    exact ⟨ret_bool HR.out.symm, rfl⟩
  · have hb : ((xs.length : Int) == 0) = false := by simp; intro he; exact h0 (by rw [he]; rfl)
    obtain ⟨m, hm⟩ : ∃ m, xs.length = m + 1 := ⟨xs.length - 1, by omega⟩
    obtain ⟨ad, rfl, hc⟩ := h.at_ m (by omega)
    have he : ((xs.length : Int) - 1) = (m : Int) := by omega
    have HR := Lib.hid (show nmB xs = (gd xs m != 0) by simp [nmB, hm])
    clear h h0 
    go_enter Try.func46, Try.ntmps46
    go_wp2
    go_ret
    exact ⟨ret_bool HR.out.symm, rfl⟩

set_option maxRecDepth 100000 in
set_option maxHeartbeats 800000 in
theorem rcompare_calls (A B : Option Addr) (c d n m : Nat) (xs ys : List Int) (w : World) (hx : Rd w A c xs) (hy : Rd w B d ys) (dx : Dg xs) (dy : Dg ys) (hn : n = xs.length) (hm : m = ys.length) :
    Calls Try.prog 47 #[.slice A n c, .slice B m d] w fun e w' => e = .returned (.int .i64 (cmpI (val xs) (val ys))) ∧ Below w.heap.size w w' := by
  subst hn hm
  have h3 := hx.small
  have h4 := hy.small
  have h1 := cutL_length_le xs
  have h2 := cutL_length_le ys
  have KX := Lib.hid fun W h => rtrim_calls A c xs.length xs W h rfl
  have KY := Lib.hid fun W h => rtrim_calls B d ys.length ys W h rfl
  have HX := Lib.hid hx
  have HY := Lib.hid hy
  have HDX := Lib.hid (cutL_dg dx)
  have HDY := Lib.hid (cutL_dg dy)
  have HNX := Lib.hid (cutL_nm xs)
  have HNY := Lib.hid (cutL_nm ys)
  rw [← cutL_val xs, ← cutL_val ys]
  generalize cutL xs = xs' at *
  generalize cutL ys = ys' at *
  clear hx hy dx dy
  go_enter Try.func47, Try.ntmps47
  go_wp2_with fail
  refine (KX.out _ HX.out).mono ?_
  rintro e w1 ⟨R1, k1, rfl, hO1, hB1⟩
  have HO1 := Lib.hid hO1
  have HB1 := Lib.hid hB1
  clear hO1 hB1
  go_wp2_with fail
  refine (KY.out _ (HY.out.below HB1.out)).mono ?_
  rintro e w2 ⟨R2, k2, rfl, hO2, hB2⟩
  have HB2 := Lib.hid (below_then HB1.out HB1.out.size hB2)
  have HR1 := Lib.hid (HO1.out.rd.below hB2)
  have HR2 := Lib.hid hO2.rd
  clear hO2 hB2 HO1 HB1 HX HY KX KY
  by_cases hl : xs'.length = ys'.length
  · have hb : ((xs'.length : Int) != (ys'.length : Int)) = false := by simp [hl]
    have HE := Lib.hid hl
    clear hl
    go_wp2_with fail
    go_loopw [5] (fun v wr => ∃ (j : Int) (k : Nat), v = .int .i64 j ∧ j + 1 = k ∧ k ≤ xs'.length ∧ Hid (Agree xs' ys' k) ∧ Hid (Drawn0 w2 wr)) (fun v _ => (intOf v + 1).toNat)
    case atStart => exact ⟨_, xs'.length, rfl, by omega, Nat.le_refl _, Agree.init HE.out, Drawn0.refl w2⟩
    case round =>
      obtain ⟨j, k, rfl, hj, hk, HA, HD⟩ := hrel
      cases k with
      | zero =>
        obtain rfl : j = -1 := by omega
        have he := HA.out.eq HE.out
        have HV := Lib.hid (show cmpI (val xs') (val ys') = 0 by rw [he]; exact cmpI_eq _)
        clear he
        go_wp2
        go_ret
        exact ⟨ret_int HV.out.symm, below_then HB2.out HB2.out.size HD.out.below⟩
      | succ k =>
        obtain rfl : j = (k : Int) := by omega
        clear hj
        have hk2 : k < ys'.length := by have := HE.out; omega
        obtain ⟨ad, rfl, hcx⟩ := (HR1.out.below HD.out.below).at_ k hk
        obtain ⟨bd, rfl, hcy⟩ := (HR2.out.below HD.out.below).at_ k hk2
        rcases Int.lt_trichotomy (gd xs' k) (gd ys' k) with he | he | he
        · have hr := HA.out.cmp HE.out HDX.out HDY.out hk (by omega)
          have hb1 : decide (gd xs' k < gd ys' k) = true := by simp [he]
          rw [cmpI_lt he] at hr
          have HR := Lib.hid hr
          clear he HA hr
          go_wp2
          go_quiet (fail)
          go_wp2
          go_ret
          exact ⟨ret_int HR.out, below_then HB2.out HB2.out.size (HD.out.step _).below⟩
        · have hb1 : decide (gd xs' k < gd ys' k) = false := by simp; omega
          have hb2 : decide (gd xs' k > gd ys' k) = false := by simp; omega
          have HA' := Lib.hid (HA.out.step he)
          clear he HA
          go_wp2
          go_quiet (fail)
          go_wp2
          obtain ⟨W, hW⟩ : ∃ W, W = wr.drewN nq := ⟨_, rfl⟩
          have hcx' : W.cell? (ad.add k) = some (.int .u32 (gd xs' k)) := by rw [hW]; exact hcx
          have hcy' : W.cell? (bd.add k) = some (.int .u32 (gd ys' k)) := by rw [hW]; exact hcy
          have HD' : Hid (Drawn0 w2 W) := by rw [hW]; exact HD.out.step _
          rw [← hW]
          clear hW hcx hcy HD
          go_quiet (fail)
          go_wp2
          go_roundw
          case rel => exact ⟨_, k, rfl, by omega, by omega, HA', HD'.out.step _⟩
          case measure => simp [intOf]
        · have hr := HA.out.cmp HE.out HDX.out HDY.out hk (by omega)
          have hb1 : decide (gd xs' k < gd ys' k) = false := by simp; omega
          have hb2 : decide (gd xs' k > gd ys' k) = true := by simp; omega
          rw [cmpI_gt (by omega)] at hr
          have HR := Lib.hid hr
          clear he HA hr
          go_wp2
          go_quiet (fail)
          go_wp2
          obtain ⟨W, hW⟩ : ∃ W, W = wr.drewN nq := ⟨_, rfl⟩
          have hcx' : W.cell? (ad.add k) = some (.int .u32 (gd xs' k)) := by rw [hW]; exact hcx
          have hcy' : W.cell? (bd.add k) = some (.int .u32 (gd ys' k)) := by rw [hW]; exact hcy
          have HD' : Hid (Drawn0 w2 W) := by rw [hW]; exact HD.out.step _
          rw [← hW]
          clear hW hcx hcy HD
          go_quiet (fail)
          go_wp2
          go_ret
          exact ⟨ret_int HR.out, below_then HB2.out HB2.out.size (HD'.out.step _).below⟩
  · have hb : ((xs'.length : Int) != (ys'.length : Int)) = true := by simp; omega
    have hr := cmp_length HDX.out HDY.out HNX.out HNY.out hl
    by_cases hlt : xs'.length < ys'.length
    · have hb1 : decide (xs'.length < ys'.length) = true := by simp [hlt]
      rw [cmpI_lt (by omega)] at hr
      have HR := Lib.hid hr
      clear hr hl
      go_wp2_with fail
      go_ret
      exact ⟨ret_int HR.out, HB2.out⟩
    · have hb1 : decide (xs'.length < ys'.length) = false := by simp; omega
      rw [cmpI_gt (by omega)] at hr
      have HR := Lib.hid hr
      clear hr hl
      go_wp2_with fail
      go_ret
      exact ⟨ret_int HR.out, HB2.out⟩
end Go.Proofs.Ytcmiciloiicfoaa
