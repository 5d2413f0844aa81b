/- Small functions that read alone: Digits, Same, cmp.Compare, nat.Compare. -/
import Derived.Test.YtcmiciloiicfoaaCut
namespace Go.Proofs.Ytcmiciloiicfoaa
open Go.RowKit Go.Proofs.YtcmiciloiicfoaaW.PrintWords

theorem ret_int {k : IntKind} {a b : Int} (h : a = b) : Ending.returned (.int k a) = .returned (.int k b) := by rw [h]
theorem ret_bool {a b : Bool} (h : a = b) : Ending.returned (.bool a) = .returned (.bool b) := by rw [h]

theorem digits_calls (A : Option Addr) (c n : Nat) (w : World) (hn : n ≤ 10) :
    Calls Try.prog 28 #[.slice A n c] w fun e w' => e = .returned (.bool true) ∧ w = w' := by
  go_enter Try.func28, Try.ntmps28
  go_wp2
  go_ret
  exact ⟨ret_bool (by simp; omega), rfl⟩
theorem digits_no (A : Option Addr) (c n : Nat) (w : World) (hn : ¬ n ≤ 10) (hm : n ≤ 9223372036854775807) :
    Calls Try.prog 28 #[.slice A n c] w fun e w' => e = .returned (.bool false) ∧ w = w' := by
  go_enter Try.func28, Try.ntmps28
  go_wp2
  go_ret
  exact ⟨ret_bool (by simp; try omega), rfl⟩

theorem isNaN_int (a : Int) (w : World) : Calls Try.prog 102 #[.int .i64 a] w fun e w' => e = .returned (.bool false) ∧ w = w' := by
  go_enter Try.func102, Try.ntmps102
  go_wp2
  go_ret
  exact ⟨ret_bool (by simp), rfl⟩
theorem isNaN_u32 (a : Int) (w : World) : Calls Try.prog 103 #[.int .u32 a] w fun e w' => e = .returned (.bool false) ∧ w = w' := by
  go_enter Try.func103, Try.ntmps103
  go_wp2
  go_ret
  exact ⟨ret_bool (by simp), rfl⟩

set_option maxHeartbeats 400000 in
theorem cmp_int (a b : Int) (w : World) : Calls Try.prog 74 #[.int .i64 a, .int .i64 b] w fun e w' => e = .returned (.int .i64 (cmpI a b)) ∧ w = w' := by
  rcases Int.lt_trichotomy a b with h | h | h
  · have hc := Lib.hid (cmpI_lt h)
    go_enter Try.func74, Try.ntmps74
    go_wp2_with (go_at_call 102; refine (isNaN_int _ _).mono ?_; rintro e w' ⟨rfl, rfl⟩)
    go_ret
    exact ⟨ret_int hc.out.symm, rfl⟩
  · subst h
    have hc := Lib.hid (cmpI_eq a)
    go_enter Try.func74, Try.ntmps74
    go_wp2_with (go_at_call 102; refine (isNaN_int _ _).mono ?_; rintro e w' ⟨rfl, rfl⟩)
    go_ret
    exact ⟨ret_int hc.out.symm, rfl⟩
  · have hc := Lib.hid (cmpI_gt h)
    have h' : ¬ a < b := by omega
    go_enter Try.func74, Try.ntmps74
    go_wp2_with (go_at_call 102; refine (isNaN_int _ _).mono ?_; rintro e w' ⟨rfl, rfl⟩)
    go_ret
    exact ⟨ret_int hc.out.symm, rfl⟩
set_option maxHeartbeats 400000 in
theorem cmp_u32 (a b : Int) (w : World) : Calls Try.prog 75 #[.int .u32 a, .int .u32 b] w fun e w' => e = .returned (.int .i64 (cmpI a b)) ∧ w = w' := by
  rcases Int.lt_trichotomy a b with h | h | h
  · have hc := Lib.hid (cmpI_lt h)
    go_enter Try.func75, Try.ntmps75
    go_wp2_with (go_at_call 103; refine (isNaN_u32 _ _).mono ?_; rintro e w' ⟨rfl, rfl⟩)
    go_ret
    exact ⟨ret_int hc.out.symm, rfl⟩
  · subst h
    have hc := Lib.hid (cmpI_eq a)
    go_enter Try.func75, Try.ntmps75
    go_wp2_with (go_at_call 103; refine (isNaN_u32 _ _).mono ?_; rintro e w' ⟨rfl, rfl⟩)
    go_ret
    exact ⟨ret_int hc.out.symm, rfl⟩
  · have hc := Lib.hid (cmpI_gt h)
    have h' : ¬ a < b := by omega
    go_enter Try.func75, Try.ntmps75
    go_wp2_with (go_at_call 103; refine (isNaN_u32 _ _).mono ?_; rintro e w' ⟨rfl, rfl⟩)
    go_ret
    exact ⟨ret_int hc.out.symm, rfl⟩
set_option maxHeartbeats 400000 in
theorem same_calls (A B : Option Addr) (c d n m : Nat) (xs : List Int) (w : World) (hx : Rd w A c xs) (hy : Rd w B d xs) (hn : n = xs.length) (hm : m = xs.length) :
    Calls Try.prog 34 #[.slice A n c, .slice B m d] w fun e w' => e = .returned (.bool true) ∧ Drawn0 w w' := by
  subst hn hm
  have h3 := hx.small
  have HX := Lib.hid hx
  have HY := Lib.hid hy
  clear hx hy
  go_enter Try.func34, Try.ntmps34
  go_wp2
  go_loopw [5] (fun v wr => ∃ i : Nat, v = .int .i64 i ∧ i ≤ xs.length ∧ Hid (Drawn0 w wr)) (fun v _ => xs.length - (intOf v).toNat)
  case atStart => exact ⟨0, rfl, by omega, Drawn0.refl w⟩
  case round =>
    obtain ⟨i, rfl, hi, HD⟩ := hrel
    by_cases hlt : i < xs.length
    · obtain ⟨ad, rfl, hcx⟩ := (HX.out.below HD.out.below).at_ i hlt
      obtain ⟨bd, rfl, hcy⟩ := (HY.out.below HD.out.below).at_ i hlt
      go_wp2
      go_quiet (fail)
      go_wp2
      go_roundw
      case rel => exact ⟨i + 1, by go_num, by omega, HD.out.step _⟩
      case measure => simp [intOf]; omega
    · go_wp2
      go_ret
      exact ⟨rfl, HD.out⟩

set_option maxHeartbeats 400000 in
theorem compare_calls (A B : Option Addr) (c d n m : Nat) (xs ys : List Int) (w : World) (hx : Rd w A c xs) (hy : Rd w B d ys) (dx : Dg xs) (dy : Dg ys) (hn : n = xs.length) (hm : m = ys.length) :
    Calls Try.prog 33 #[.slice A n c, .slice B m d] w fun e w' => e = .returned (.int .i64 (cmpI (val xs) (val ys))) ∧ Drawn0 w w' := by
  subst hn hm
  have h3 := hx.small
  have h4 := hy.small
  have h1 := cutLen_le xs
  have h2 := cutLen_le ys
  have hcx : (cutL xs).length = cutLen xs := cutL_length xs
  have hcy : (cutL ys).length = cutLen ys := cutL_length ys
  have hxc := hx.take (cutLen xs) h1
  have hyc := hy.take (cutLen ys) h2
  have HX := Lib.hid hx
  have HY := Lib.hid hy
  by_cases hl : cutLen xs = cutLen ys
  · have hL : (cutL xs).length = (cutL ys).length := by omega
    have hb : ((cutLen xs : Int) != (cutLen ys : Int)) = false := by simp [hl]
    have HL := Lib.hid hL
    have HCX := Lib.hid hcx
    have HCY := Lib.hid hcy
    have HXc := Lib.hid hxc
    have HYc := Lib.hid hyc
    have HDX := Lib.hid (cutL_dg dx)
    have HDY := Lib.hid (cutL_dg dy)
    have HE := Lib.hid hl
    clear hL hcx hcy hxc hyc dx dy hx hy hl
    go_enter Try.func33, Try.ntmps33
    go_wp2_with fail
    refine (cut_calls A c _ xs _ HX.out rfl).mono ?_
    rintro e w' ⟨rfl, rfl⟩
    go_wp2_with fail
    refine (cut_calls B d _ ys _ HY.out rfl).mono ?_
    rintro e w' ⟨rfl, rfl⟩
    go_wp2_with fail
    go_loopw [7] (fun v wr => ∃ (j : Int) (k : Nat), v = .int .i64 j ∧ j + 1 = k ∧ k ≤ cutLen xs ∧ Hid (Agree (cutL xs) (cutL ys) k) ∧ Hid (Drawn0 w wr)) (fun v _ => (intOf v + 1).toNat)
    case atStart => exact ⟨_, cutLen xs, rfl, by omega, Nat.le_refl _, by have := Agree.init HL.out; rw [HCX.out] at this; exact this, Drawn0.refl w⟩
    case round =>
      obtain ⟨j, k, rfl, hj, hk, HA, HD⟩ := hrel
      cases k with
      | zero =>
        obtain rfl : j = -1 := by omega
        have he := HA.out.eq HL.out
        have hv : val xs = val ys := by rw [← cutL_val xs, ← cutL_val ys, he]
        have HV := Lib.hid (show cmpI (val xs) (val ys) = 0 by rw [hv]; exact cmpI_eq _)
        clear he hv
        go_wp2
        go_ret
        exact ⟨ret_int HV.out.symm, HD.out⟩
      | succ k =>
        obtain rfl : j = (k : Int) := by omega
        clear hj
        have hk2 : k < cutLen ys := by have := HE.out; omega
        obtain ⟨ad, rfl, hcx⟩ := (HXc.out.below HD.out.below).at_ k (by have := HCX.out; unfold cutL at this; omega)
        obtain ⟨bd, rfl, hcy⟩ := (HYc.out.below HD.out.below).at_ k (by have := HCY.out; unfold cutL at this; omega)
        by_cases he : gd (cutL xs) k = gd (cutL ys) k
        · have hbe : (gd (List.take (cutLen xs) xs) k != gd (List.take (cutLen ys) ys) k) = false := by rw [bne_eq_false_iff_eq]; exact he
          have HA' := Lib.hid (HA.out.step he)
          clear he HA
          go_wp2
          go_quiet (fail)
          go_wp2
          go_roundw
          case rel => exact ⟨_, k, rfl, by omega, by omega, HA', HD.out.step _⟩
          case measure => simp [intOf]
        · have hbe : (gd (List.take (cutLen xs) xs) k != gd (List.take (cutLen ys) ys) k) = true := by rw [bne_iff_ne]; exact he
          have hr := HA.out.cmp HL.out HDX.out HDY.out (by rw [HCX.out]; omega) he
          rw [cutL_val, cutL_val] at hr
          have HR := Lib.hid hr
          clear he HA hr
          go_wp2
          go_quiet (fail)
          go_wp2
          obtain ⟨W, hW⟩ : ∃ W, W = wr.drewN nq := ⟨_, rfl⟩
          have hcx' : W.cell? (ad.add k) = some (.int .u32 (gd (List.take (cutLen xs) xs) k)) := by rw [hW]; exact hcx
          have hcy' : W.cell? (bd.add k) = some (.int .u32 (gd (List.take (cutLen ys) ys) k)) := by rw [hW]; exact hcy
          have HD' : Hid (Drawn0 w W) := by rw [hW]; exact HD.out.step _
          rw [← hW]
          clear hW hcx hcy HD
          go_quiet ((go_at_call 75; exact Calls.quiet_of_same ((cmp_u32 _ _ _).mono fun _ _ h => ⟨h.1, h.2.symm⟩)))
          go_wp2
          go_ret
          exact ⟨ret_int HR.out, HD'.out.step _⟩
  · have hb : ((cutLen xs : Int) != (cutLen ys : Int)) = true := by simp; omega
    have hr := cmp_length (cutL_dg dx) (cutL_dg dy) (cutL_nm xs) (cutL_nm ys) (by omega)
    rw [cutL_val, cutL_val, cutL_length, cutL_length] at hr
    have HR := Lib.hid hr
    clear hr hl hcx hcy hxc hyc hx hy
    go_enter Try.func33, Try.ntmps33
    go_wp2_with fail
    refine (cut_calls A c _ xs _ HX.out rfl).mono ?_
    rintro e w' ⟨rfl, rfl⟩
    go_wp2_with fail
    refine (cut_calls B d _ ys _ HY.out rfl).mono ?_
    rintro e w' ⟨rfl, rfl⟩
    go_wp2_with fail
    refine (cmp_int _ _ _).mono ?_
    rintro e w' ⟨rfl, rfl⟩
    go_wp2_with fail
    go_ret
    exact ⟨ret_int HR.out, Drawn0.refl _⟩
end Go.Proofs.Ytcmiciloiicfoaa
