/- The walk of the law NatDivides: the quotient and the remainder are right, and a product is divided without remainder. Printed by wip/gen/natdivides.py. -/
import Derived.Test.YtcmiciloiicfoaaIn
namespace Go.Proofs.Ytcmiciloiicfoaa
open Go.RowKit Go.Proofs.YtcmiciloiicfoaaW.PrintWords

set_option maxRecDepth 100000 in
set_option maxHeartbeats 4000000 in
theorem natdivides_zero (A B : Option Addr) (ca cb na nb : Nat) (xs ys : List Int) (w : World) (hx : Rd w A ca xs) (hy : Rd w B cb ys) (hna : na = xs.length) (hnb : nb = ys.length)
    (dx : Dg xs) (dy : Dg ys) (lx : xs.length ≤ 10) (ly : ys.length ≤ 10) (hp : val ys = 0) :
    Calls Try.prog 5 #[.slice A na ca, .slice B nb cb] w (Yes w) := by
  subst hna hnb
  have HXa := Lib.hid hx
  have HXb := Lib.hid hy
  have HDa := Lib.hid dx
  have HDb := Lib.hid dy
  have HVa := Lib.hid (Bd.val dx lx)
  have HVb := Lib.hid (Bd.val dy ly)
  have HB_0 := Lib.hid (Below.refl w.heap.size w)
  have HP := Lib.hid hp
  clear hx hy dx dy hp
  go_enter Try.func5, Try.ntmps5
  go_wp2_with fail
  refine (digits_calls A ca xs.length _ lx).mono ?_
  rintro e w' ⟨rfl, rfl⟩
  go_wp2_with fail
  refine (digits_calls B cb ys.length _ ly).mono ?_
  rintro e w' ⟨rfl, rfl⟩
  go_wp2_with fail
  refine (divmod_zero A B ca cb xs.length ys.length ys _ HXb.out rfl HDb.out HP.out).mono ?_
  rintro e w' ⟨rfl, rfl⟩
  go_wp2_with fail
  refine (awake_calls _).mono ?_
  rintro e w_1 ⟨rfl, hB⟩
  have HB_1 := Lib.hid (below_then HB_0.out HB_0.out.size hB)
  have Hb_1 := Lib.hid (HXb.out.below hB)
  clear hB
  go_wp2_with fail
  refine (rtrim_calls B cb _ (ys) _ Hb_1.out rfl).mono ?_
  rintro e w_2 ⟨R_2, k_2, rfl, hO, hB⟩
  rw [cutL_canon HDb.out] at hO ⊢
  have HB_2 := Lib.hid (below_then HB_1.out HB_1.out.size hB)
  clear hO hB
  rw [HP.out, canon_zero]
  go_wp2_with fail
  go_ret
  exact ⟨rfl, HB_2.out⟩

set_option maxRecDepth 100000 in
set_option maxHeartbeats 4000000 in
theorem natdivides_pos (A B : Option Addr) (ca cb na nb : Nat) (xs ys : List Int) (w : World) (hx : Rd w A ca xs) (hy : Rd w B cb ys) (hna : na = xs.length) (hnb : nb = ys.length)
    (dx : Dg xs) (dy : Dg ys) (lx : xs.length ≤ 10) (ly : ys.length ≤ 10) (hp : 0 < val ys) :
    Calls Try.prog 5 #[.slice A na ca, .slice B nb cb] w (Yes w) := by
  subst hna hnb
  have HXa := Lib.hid hx
  have HXb := Lib.hid hy
  have HDa := Lib.hid dx
  have HDb := Lib.hid dy
  have HVa := Lib.hid (Bd.val dx lx)
  have HVb := Lib.hid (Bd.val dy ly)
  have HB_0 := Lib.hid (Below.refl w.heap.size w)
  have HP := Lib.hid hp
  clear hx hy dx dy hp
  go_enter Try.func5, Try.ntmps5
  go_wp2_with fail
  refine (digits_calls A ca xs.length _ lx).mono ?_
  rintro e w' ⟨rfl, rfl⟩
  go_wp2_with fail
  refine (digits_calls B cb ys.length _ ly).mono ?_
  rintro e w' ⟨rfl, rfl⟩
  go_wp2_with fail
  refine (divmod_calls A B ca cb _ _ xs ys _ HXa.out HXb.out rfl rfl HDa.out HDb.out HP.out (by omega)).mono ?_
  rintro e w_1 ⟨Q_1, kq_1, R_1, k_1, rfl, hQ, hR, hB⟩
  have HB_1 := Lib.hid (below_then HB_0.out HB_0.out.size hB)
  have Ha_1 := Lib.hid (HXa.out.below hB)
  have Hb_1 := Lib.hid (HXb.out.below hB)
  have hm0 := Int.emod_nonneg (val xs) (show val ys ≠ 0 by have := HP.out; omega)
  have hm1 := Int.emod_lt_of_pos (val xs) HP.out
  have hq0 : 0 ≤ val xs / val ys := Int.ediv_nonneg HVa.out.lo (Int.le_of_lt HP.out)
  have hq1 : val xs / val ys ≤ val xs := Int.ediv_le_self _ HVa.out.lo
  have hqr : val xs / val ys * val ys + val xs % val ys = val xs := by rw [Int.mul_comm]; exact Int.mul_ediv_add_emod _ _
  obtain ⟨q, hq⟩ : ∃ q, q = val xs / val ys := ⟨_, rfl⟩
  obtain ⟨r, hr⟩ : ∃ r, r = val xs % val ys := ⟨_, rfl⟩
  rw [← hq] at hq0 hq1 hqr hQ ⊢
  rw [← hr] at hm0 hm1 hqr hR ⊢
  have HBq : Hid (Bd 10 q) := ⟨hq0, by have := HVa.out.hi; omega⟩
  have HBr : Hid (Bd 10 r) := ⟨hm0, by have := HVb.out.hi; omega⟩
  have HQR := Lib.hid hqr
  have HLT := Lib.hid hm1
  have Hq_1 := Lib.hid hQ.rd
  have Hr_1 := Lib.hid hR.rd
  clear hQ hR hB hm0 hm1 hq0 hq1 hqr hq hr
  go_wp2_with fail
  refine (mul_calls A B ca cb _ _ (xs) (ys) _ Ha_1.out Hb_1.out rfl rfl HDa.out HDb.out (by omega) (by omega)).mono ?_
  rintro e w_2 ⟨R_2, k_2, rfl, hO, hB⟩
  have HB_2 := Lib.hid (below_then HB_1.out HB_1.out.size hB)
  have Ha_2 := Lib.hid (Ha_1.out.below hB)
  clear Ha_1
  have Hb_2 := Lib.hid (Hb_1.out.below hB)
  clear Hb_1
  have Hq_2 := Lib.hid (Hq_1.out.below hB)
  clear Hq_1
  have Hr_2 := Lib.hid (Hr_1.out.below hB)
  clear Hr_1
  have BD_2 : Hid (Bd 20 ((val xs) * (val ys))) := Lib.hid ((HVa.out.mul HVb.out).to (by decide))
  have Hp_2 := Lib.hid hO.rd
  clear hO hB
  go_wp2_with fail
  refine (divmod_calls R_2 B k_2 cb _ _ (canon ((val xs) * (val ys))) ys _ Hp_2.out Hb_2.out rfl rfl (canon_dg _) HDb.out HP.out (by have := BD_2.out.len; omega)).mono ?_
  rintro e w_3 ⟨Q_3, kq_3, R_3, k_3, rfl, hQ, hR, hB⟩
  rw [canon_val BD_2.out.lo] at hQ hR ⊢
  rw [Int.mul_ediv_cancel _ (show val ys ≠ 0 by have := HP.out; omega)] at hQ ⊢
  rw [Int.mul_emod_left, canon_zero] at hR ⊢
  have HB_3 := Lib.hid (below_then HB_2.out HB_2.out.size hB)
  have Ha_3 := Lib.hid (Ha_2.out.below hB)
  clear Ha_2
  have Hb_3 := Lib.hid (Hb_2.out.below hB)
  clear Hb_2
  have Hq_3 := Lib.hid (Hq_2.out.below hB)
  clear Hq_2
  have Hr_3 := Lib.hid (Hr_2.out.below hB)
  clear Hr_2
  have Hx_3 := Lib.hid hQ.rd
  clear hQ hR hB
  go_wp2_with fail
  refine (awake_calls _).mono ?_
  rintro e w_4 ⟨rfl, hB⟩
  have HB_4 := Lib.hid (below_then HB_3.out HB_3.out.size hB)
  have Ha_4 := Lib.hid (Ha_3.out.below hB)
  clear Ha_3
  have Hb_4 := Lib.hid (Hb_3.out.below hB)
  clear Hb_3
  have Hq_4 := Lib.hid (Hq_3.out.below hB)
  clear Hq_3
  have Hr_4 := Lib.hid (Hr_3.out.below hB)
  clear Hr_3
  have Hx_4 := Lib.hid (Hx_3.out.below hB)
  clear Hx_3
  clear hB
  go_wp2_with fail
  refine (rtrim_calls B cb _ (ys) _ Hb_4.out rfl).mono ?_
  rintro e w_5 ⟨R_5, k_5, rfl, hO, hB⟩
  rw [cutL_canon HDb.out] at hO ⊢
  have HB_5 := Lib.hid (below_then HB_4.out HB_4.out.size hB)
  have Ha_5 := Lib.hid (Ha_4.out.below hB)
  clear Ha_4
  have Hb_5 := Lib.hid (Hb_4.out.below hB)
  clear Hb_4
  have Hq_5 := Lib.hid (Hq_4.out.below hB)
  clear Hq_4
  have Hr_5 := Lib.hid (Hr_4.out.below hB)
  clear Hr_4
  have Hx_5 := Lib.hid (Hx_4.out.below hB)
  clear Hx_4
  clear hO hB
  have hlt : decide (0 < (canon (val ys)).length) = true := by have := canon_nonempty (v := val ys) HP.out; simp; omega
  go_wp2_with fail
  clear hlt
  refine (compare_calls R_1 B k_1 cb _ _ (canon r) ys _ Hr_5.out Hb_5.out (canon_dg _) HDb.out rfl rfl).mono ?_
  rintro e w_6 ⟨rfl, hD⟩
  have hB := hD.below
  rw [canon_val HBr.out.lo, cmpI_lt HLT.out]
  have HB_6 := Lib.hid (below_then HB_5.out HB_5.out.size hB)
  have Ha_6 := Lib.hid (Ha_5.out.below hB)
  clear Ha_5
  have Hb_6 := Lib.hid (Hb_5.out.below hB)
  clear Hb_5
  have Hq_6 := Lib.hid (Hq_5.out.below hB)
  clear Hq_5
  have Hr_6 := Lib.hid (Hr_5.out.below hB)
  clear Hr_5
  have Hx_6 := Lib.hid (Hx_5.out.below hB)
  clear Hx_5
  clear hD hB
  go_wp2_with fail
  refine (mul_calls Q_1 B kq_1 cb _ _ (canon q) (ys) _ Hq_6.out Hb_6.out rfl rfl (canon_dg _) HDb.out (by have := HBq.out.len; omega) (by omega)).mono ?_
  rintro e w_7 ⟨R_7, k_7, rfl, hO, hB⟩
  rw [canon_val HBq.out.lo] at hO ⊢
  have HB_7 := Lib.hid (below_then HB_6.out HB_6.out.size hB)
  have Ha_7 := Lib.hid (Ha_6.out.below hB)
  clear Ha_6
  have Hr_7 := Lib.hid (Hr_6.out.below hB)
  clear Hr_6
  have Hx_7 := Lib.hid (Hx_6.out.below hB)
  clear Hx_6
  have BD_7 : Hid (Bd 20 (q * (val ys))) := Lib.hid ((HBq.out.mul HVb.out).to (by decide))
  have Hm_7 := Lib.hid hO.rd
  clear hO hB
  go_wp2_with fail
  refine (add_calls R_7 R_1 k_7 k_1 _ _ (canon (q * (val ys))) (canon r) _ Hm_7.out Hr_7.out rfl rfl (canon_dg _) (canon_dg _) (by have := BD_7.out.len; omega) (by have := HBr.out.len; omega)).mono ?_
  rintro e w_8 ⟨R_8, k_8, rfl, hO, hB⟩
  rw [canon_val BD_7.out.lo, canon_val HBr.out.lo] at hO ⊢
  have HB_8 := Lib.hid (below_then HB_7.out HB_7.out.size hB)
  have Ha_8 := Lib.hid (Ha_7.out.below hB)
  clear Ha_7
  have Hx_8 := Lib.hid (Hx_7.out.below hB)
  clear Hx_7
  have BD_8 : Hid (Bd 31 ((q * (val ys)) + r)) := Lib.hid ((BD_7.out.add HBr.out).to (by decide))
  have Hs_8 := Lib.hid hO.rd
  clear hO hB
  go_wp2_with fail
  refine (rtrim_calls A ca _ (xs) _ Ha_8.out rfl).mono ?_
  rintro e w_9 ⟨R_9, k_9, rfl, hO, hB⟩
  rw [cutL_canon HDa.out] at hO ⊢
  have HB_9 := Lib.hid (below_then HB_8.out HB_8.out.size hB)
  have Ha_9 := Lib.hid (Ha_8.out.below hB)
  clear Ha_8
  have Hx_9 := Lib.hid (Hx_8.out.below hB)
  clear Hx_8
  have Hs_9 := Lib.hid (Hs_8.out.below hB)
  clear Hs_8
  have Hta_9 := Lib.hid hO.rd
  clear hO hB
  go_wp2_with fail
  have heq : canon (val xs) = canon ((q * (val ys)) + r) := canon_congr (HQR.out.symm)
  have hr2 := Hta_9.out
  rw [heq] at hr2
  refine (same_calls R_8 R_9 k_8 k_9 _ _ (canon ((q * (val ys)) + r)) _ Hs_9.out hr2 rfl (by rw [heq])).mono ?_
  rintro e w_10 ⟨rfl, hD⟩
  have hB := hD.below
  have HB_10 := Lib.hid (below_then HB_9.out HB_9.out.size hB)
  have Ha_10 := Lib.hid (Ha_9.out.below hB)
  clear Ha_9
  have Hx_10 := Lib.hid (Hx_9.out.below hB)
  clear Hx_9
  clear hD hB hr2 heq
  go_wp2_with fail
  refine (rtrim_calls A ca _ (xs) _ Ha_10.out rfl).mono ?_
  rintro e w_11 ⟨R_11, k_11, rfl, hO, hB⟩
  rw [cutL_canon HDa.out] at hO ⊢
  have HB_11 := Lib.hid (below_then HB_10.out HB_10.out.size hB)
  have Hx_11 := Lib.hid (Hx_10.out.below hB)
  clear Hx_10
  have Htb_11 := Lib.hid hO.rd
  clear hO hB
  go_wp2_with fail
  refine (same_calls Q_3 R_11 kq_3 k_11 _ _ (canon (val xs)) _ Hx_11.out Htb_11.out rfl rfl).mono ?_
  rintro e w_12 ⟨rfl, hD⟩
  have hB := hD.below
  have HB_12 := Lib.hid (below_then HB_11.out HB_11.out.size hB)
  clear hD hB
  go_wp2_with fail
  go_ret
  exact ⟨rfl, HB_12.out⟩

theorem natdivides_big (A B : Option Addr) (ca cb na nb : Nat) (w : World) (ma : na ≤ 9223372036854775807) (mb : nb ≤ 9223372036854775807) (h : ¬ (na ≤ 10 ∧ nb ≤ 10)) :
    Calls Try.prog 5 #[.slice A na ca, .slice B nb cb] w (Yes w) := by
  by_cases ha : na ≤ 10
  · have hb : ¬ nb ≤ 10 := fun hb => h ⟨ha, hb⟩
    clear h
    go_enter Try.func5, Try.ntmps5
    go_wp2_with fail
    refine (digits_calls A ca na _ ha).mono ?_
    rintro e w' ⟨rfl, rfl⟩
    go_wp2_with fail
    refine (digits_no B cb nb _ hb mb).mono ?_
    rintro e w' ⟨rfl, rfl⟩
    go_wp2_with fail
    refine (awake_calls _).mono ?_
    rintro e w' ⟨rfl, hB⟩
    go_wp2_with fail
    go_ret
    exact ⟨rfl, hB⟩
  · clear h
    go_enter Try.func5, Try.ntmps5
    go_wp2_with fail
    refine (digits_no A ca na _ ha ma).mono ?_
    rintro e w' ⟨rfl, rfl⟩
    go_wp2_with fail
    refine (awake_calls _).mono ?_
    rintro e w' ⟨rfl, hB⟩
    go_wp2_with fail
    go_ret
    exact ⟨rfl, hB⟩

theorem natdivides_any (a0 : Option Addr) (len0 cap0 : Nat) (z0 : List Int) (a1 : Option Addr) (len1 cap1 : Nat) (z1 : List Int) (w : World)
    (w0 : IsRow .u32 w a0 len0 cap0 z0) (y0 : len0 * 4 ≤ 140737488351232) (w1 : IsRow .u32 w a1 len1 cap1 z1) (y1 : len1 * 4 ≤ 140737488351232) :
    Calls Try.prog 5 #[.slice a0 len0 cap0, .slice a1 len1 cap1] w fun e w' => e = .returned (.bool true) ∧ Below w.heap.size w w' := by
  by_cases h : len0 ≤ 10 ∧ len1 ≤ 10
  · obtain ⟨h0, h1⟩ := h
    obtain ⟨xs, rx, ex, dx⟩ := w0.rd (by omega)
    obtain ⟨ys, ry, ey, dy⟩ := w1.rd (by omega)
    have hv := val_nonneg dy
    by_cases hz : val ys = 0
    · exact natdivides_zero a0 a1 cap0 cap1 len0 len1 xs ys w rx ry ex ey dx dy (by omega) (by omega) hz
    · exact natdivides_pos a0 a1 cap0 cap1 len0 len1 xs ys w rx ry ex ey dx dy (by omega) (by omega) (by omega)
  · exact natdivides_big a0 a1 cap0 cap1 len0 len1 w (by omega) (by omega) h
end Go.Proofs.Ytcmiciloiicfoaa
