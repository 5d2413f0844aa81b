/- The walk of the law NatRing: Add and Mul are commutative, associative and distributive. Printed by wip/gen/natring.py. -/
import Derived.Test.YtcmiciloiicfoaaIn
namespace Go.Proofs.Ytcmiciloiicfoaa
open Go.RowKit Go.Proofs.YtcmiciloiicfoaaW.PrintWords

set_option maxRecDepth 100000 in
set_option maxHeartbeats 4000000 in
theorem natring_small (A B C : Option Addr) (ca cb cc na nb nc : Nat) (xs ys zs : List Int) (w : World) (hx : Rd w A ca xs) (hy : Rd w B cb ys) (hz : Rd w C cc zs) (hna : na = xs.length) (hnb : nb = ys.length) (hnc : nc = zs.length)
    (dx : Dg xs) (dy : Dg ys) (dz : Dg zs) (lx : xs.length ≤ 10) (ly : ys.length ≤ 10) (lz : zs.length ≤ 10) :
    Calls Try.prog 8 #[.slice A na ca, .slice B nb cb, .slice C nc cc] w (Yes w) := by
  subst hna hnb hnc
  have HXa := Lib.hid hx
  have HXb := Lib.hid hy
  have HXc := Lib.hid hz
  have HDa := Lib.hid dx
  have HDb := Lib.hid dy
  have HDc := Lib.hid dz
  have HVa := Lib.hid (Bd.val dx lx)
  have HVb := Lib.hid (Bd.val dy ly)
  have HVc := Lib.hid (Bd.val dz lz)
  have HB_0 := Lib.hid (Below.refl w.heap.size w)
  clear hx hy hz dx dy dz
  go_enter Try.func8, Try.ntmps8
  go_wp2_with fail
  refine (digits_calls A ca xs.length _ lx).mono ?_
  rintro e w' ⟨rfl, rfl⟩
  go_wp2_with fail
  refine (digits_calls B cb ys.length _ ly).mono ?_
  rintro e w' ⟨rfl, rfl⟩
  go_wp2_with fail
  refine (digits_calls C cc zs.length _ lz).mono ?_
  rintro e w' ⟨rfl, rfl⟩
  go_wp2_with fail
  refine (awake_calls _).mono ?_
  rintro e w_1 ⟨rfl, hB⟩
  have HB_1 := Lib.hid (below_then HB_0.out HB_0.out.size hB)
  have Ha_1 := Lib.hid (HXa.out.below hB)
  have Hb_1 := Lib.hid (HXb.out.below hB)
  have Hc_1 := Lib.hid (HXc.out.below hB)
  clear hB
  go_wp2_with fail
  refine (add_calls A B ca cb _ _ (xs) (ys) _ Ha_1.out Hb_1.out rfl rfl HDa.out HDb.out (by omega) (by omega)).mono ?_
  rintro e w_2 ⟨R_2, k_2, rfl, hO, hB⟩
  have HB_2 := Lib.hid (below_then HB_1.out HB_1.out.size hB)
  have Ha_2 := Lib.hid (Ha_1.out.below hB)
  clear Ha_1
  have Hb_2 := Lib.hid (Hb_1.out.below hB)
  clear Hb_1
  have Hc_2 := Lib.hid (Hc_1.out.below hB)
  clear Hc_1
  have BD_2 : Hid (Bd 21 ((val xs) + (val ys))) := Lib.hid ((HVa.out.add HVb.out).to (by decide))
  have Ht1_2 := Lib.hid hO.rd
  clear hO hB
  go_wp2_with fail
  refine (add_calls B A cb ca _ _ (ys) (xs) _ Hb_2.out Ha_2.out rfl rfl HDb.out HDa.out (by omega) (by omega)).mono ?_
  rintro e w_3 ⟨R_3, k_3, rfl, hO, hB⟩
  have HB_3 := Lib.hid (below_then HB_2.out HB_2.out.size hB)
  have Ha_3 := Lib.hid (Ha_2.out.below hB)
  clear Ha_2
  have Hb_3 := Lib.hid (Hb_2.out.below hB)
  clear Hb_2
  have Hc_3 := Lib.hid (Hc_2.out.below hB)
  clear Hc_2
  have Ht1_3 := Lib.hid (Ht1_2.out.below hB)
  clear Ht1_2
  have BD_3 : Hid (Bd 21 ((val ys) + (val xs))) := Lib.hid ((HVb.out.add HVa.out).to (by decide))
  have Ht2_3 := Lib.hid hO.rd
  clear hO hB
  go_wp2_with fail
  have heq : canon ((val ys) + (val xs)) = canon ((val xs) + (val ys)) := canon_congr (Int.add_comm _ _)
  have hr2 := Ht2_3.out
  rw [heq] at hr2
  refine (same_calls R_2 R_3 k_2 k_3 _ _ (canon ((val xs) + (val ys))) _ Ht1_3.out hr2 rfl (by rw [heq])).mono ?_
  rintro e w_4 ⟨rfl, hD⟩
  have hB := hD.below
  have HB_4 := Lib.hid (below_then HB_3.out HB_3.out.size hB)
  have Ha_4 := Lib.hid (Ha_3.out.below hB)
  clear Ha_3
  have Hb_4 := Lib.hid (Hb_3.out.below hB)
  clear Hb_3
  have Hc_4 := Lib.hid (Hc_3.out.below hB)
  clear Hc_3
  clear hD hB hr2 heq
  go_wp2_with fail
  refine (mul_calls A B ca cb _ _ (xs) (ys) _ Ha_4.out Hb_4.out rfl rfl HDa.out HDb.out (by omega) (by omega)).mono ?_
  rintro e w_5 ⟨R_5, k_5, rfl, hO, hB⟩
  have HB_5 := Lib.hid (below_then HB_4.out HB_4.out.size hB)
  have Ha_5 := Lib.hid (Ha_4.out.below hB)
  clear Ha_4
  have Hb_5 := Lib.hid (Hb_4.out.below hB)
  clear Hb_4
  have Hc_5 := Lib.hid (Hc_4.out.below hB)
  clear Hc_4
  have BD_5 : Hid (Bd 20 ((val xs) * (val ys))) := Lib.hid ((HVa.out.mul HVb.out).to (by decide))
  have Ht3_5 := Lib.hid hO.rd
  clear hO hB
  go_wp2_with fail
  refine (mul_calls B A cb ca _ _ (ys) (xs) _ Hb_5.out Ha_5.out rfl rfl HDb.out HDa.out (by omega) (by omega)).mono ?_
  rintro e w_6 ⟨R_6, k_6, rfl, hO, hB⟩
  have HB_6 := Lib.hid (below_then HB_5.out HB_5.out.size hB)
  have Ha_6 := Lib.hid (Ha_5.out.below hB)
  clear Ha_5
  have Hb_6 := Lib.hid (Hb_5.out.below hB)
  clear Hb_5
  have Hc_6 := Lib.hid (Hc_5.out.below hB)
  clear Hc_5
  have Ht3_6 := Lib.hid (Ht3_5.out.below hB)
  clear Ht3_5
  have BD_6 : Hid (Bd 20 ((val ys) * (val xs))) := Lib.hid ((HVb.out.mul HVa.out).to (by decide))
  have Ht4_6 := Lib.hid hO.rd
  clear hO hB
  go_wp2_with fail
  have heq : canon ((val ys) * (val xs)) = canon ((val xs) * (val ys)) := canon_congr (Int.mul_comm _ _)
  have hr2 := Ht4_6.out
  rw [heq] at hr2
  refine (same_calls R_5 R_6 k_5 k_6 _ _ (canon ((val xs) * (val ys))) _ Ht3_6.out hr2 rfl (by rw [heq])).mono ?_
  rintro e w_7 ⟨rfl, hD⟩
  have hB := hD.below
  have HB_7 := Lib.hid (below_then HB_6.out HB_6.out.size hB)
  have Ha_7 := Lib.hid (Ha_6.out.below hB)
  clear Ha_6
  have Hb_7 := Lib.hid (Hb_6.out.below hB)
  clear Hb_6
  have Hc_7 := Lib.hid (Hc_6.out.below hB)
  clear Hc_6
  clear hD hB hr2 heq
  go_wp2_with fail
  refine (add_calls A B ca cb _ _ (xs) (ys) _ Ha_7.out Hb_7.out rfl rfl HDa.out HDb.out (by omega) (by omega)).mono ?_
  rintro e w_8 ⟨R_8, k_8, rfl, hO, hB⟩
  have HB_8 := Lib.hid (below_then HB_7.out HB_7.out.size hB)
  have Ha_8 := Lib.hid (Ha_7.out.below hB)
  clear Ha_7
  have Hb_8 := Lib.hid (Hb_7.out.below hB)
  clear Hb_7
  have Hc_8 := Lib.hid (Hc_7.out.below hB)
  clear Hc_7
  have BD_8 : Hid (Bd 21 ((val xs) + (val ys))) := Lib.hid ((HVa.out.add HVb.out).to (by decide))
  have Ht5_8 := Lib.hid hO.rd
  clear hO hB
  go_wp2_with fail
  refine (add_calls R_8 C k_8 cc _ _ (canon ((val xs) + (val ys))) (zs) _ Ht5_8.out Hc_8.out rfl rfl (canon_dg _) HDc.out (by have := BD_8.out.len; omega) (by omega)).mono ?_
  rintro e w_9 ⟨R_9, k_9, rfl, hO, hB⟩
  rw [canon_val BD_8.out.lo] at hO ⊢
  have HB_9 := Lib.hid (below_then HB_8.out HB_8.out.size hB)
  have Ha_9 := Lib.hid (Ha_8.out.below hB)
  clear Ha_8
  have Hb_9 := Lib.hid (Hb_8.out.below hB)
  clear Hb_8
  have Hc_9 := Lib.hid (Hc_8.out.below hB)
  clear Hc_8
  have BD_9 : Hid (Bd 32 (((val xs) + (val ys)) + (val zs))) := Lib.hid ((BD_8.out.add HVc.out).to (by decide))
  have Ht6_9 := Lib.hid hO.rd
  clear hO hB
  go_wp2_with fail
  refine (add_calls B C cb cc _ _ (ys) (zs) _ Hb_9.out Hc_9.out rfl rfl HDb.out HDc.out (by omega) (by omega)).mono ?_
  rintro e w_10 ⟨R_10, k_10, rfl, hO, hB⟩
  have HB_10 := Lib.hid (below_then HB_9.out HB_9.out.size hB)
  have Ha_10 := Lib.hid (Ha_9.out.below hB)
  clear Ha_9
  have Hb_10 := Lib.hid (Hb_9.out.below hB)
  clear Hb_9
  have Hc_10 := Lib.hid (Hc_9.out.below hB)
  clear Hc_9
  have Ht6_10 := Lib.hid (Ht6_9.out.below hB)
  clear Ht6_9
  have BD_10 : Hid (Bd 21 ((val ys) + (val zs))) := Lib.hid ((HVb.out.add HVc.out).to (by decide))
  have Ht7_10 := Lib.hid hO.rd
  clear hO hB
  go_wp2_with fail
  refine (add_calls A R_10 ca k_10 _ _ (xs) (canon ((val ys) + (val zs))) _ Ha_10.out Ht7_10.out rfl rfl HDa.out (canon_dg _) (by omega) (by have := BD_10.out.len; omega)).mono ?_
  rintro e w_11 ⟨R_11, k_11, rfl, hO, hB⟩
  rw [canon_val BD_10.out.lo] at hO ⊢
  have HB_11 := Lib.hid (below_then HB_10.out HB_10.out.size hB)
  have Ha_11 := Lib.hid (Ha_10.out.below hB)
  clear Ha_10
  have Hb_11 := Lib.hid (Hb_10.out.below hB)
  clear Hb_10
  have Hc_11 := Lib.hid (Hc_10.out.below hB)
  clear Hc_10
  have Ht6_11 := Lib.hid (Ht6_10.out.below hB)
  clear Ht6_10
  have BD_11 : Hid (Bd 32 ((val xs) + ((val ys) + (val zs)))) := Lib.hid ((HVa.out.add BD_10.out).to (by decide))
  have Ht8_11 := Lib.hid hO.rd
  clear hO hB
  go_wp2_with fail
  have heq : canon ((val xs) + ((val ys) + (val zs))) = canon (((val xs) + (val ys)) + (val zs)) := canon_congr ((Int.add_assoc _ _ _).symm)
  have hr2 := Ht8_11.out
  rw [heq] at hr2
  refine (same_calls R_9 R_11 k_9 k_11 _ _ (canon (((val xs) + (val ys)) + (val zs))) _ Ht6_11.out hr2 rfl (by rw [heq])).mono ?_
  rintro e w_12 ⟨rfl, hD⟩
  have hB := hD.below
  have HB_12 := Lib.hid (below_then HB_11.out HB_11.out.size hB)
  have Ha_12 := Lib.hid (Ha_11.out.below hB)
  clear Ha_11
  have Hb_12 := Lib.hid (Hb_11.out.below hB)
  clear Hb_11
  have Hc_12 := Lib.hid (Hc_11.out.below hB)
  clear Hc_11
  clear hD hB hr2 heq
  go_wp2_with fail
  refine (mul_calls A B ca cb _ _ (xs) (ys) _ Ha_12.out Hb_12.out rfl rfl HDa.out HDb.out (by omega) (by omega)).mono ?_
  rintro e w_13 ⟨R_13, k_13, rfl, hO, hB⟩
  have HB_13 := Lib.hid (below_then HB_12.out HB_12.out.size hB)
  have Ha_13 := Lib.hid (Ha_12.out.below hB)
  clear Ha_12
  have Hb_13 := Lib.hid (Hb_12.out.below hB)
  clear Hb_12
  have Hc_13 := Lib.hid (Hc_12.out.below hB)
  clear Hc_12
  have BD_13 : Hid (Bd 20 ((val xs) * (val ys))) := Lib.hid ((HVa.out.mul HVb.out).to (by decide))
  have Ht9_13 := Lib.hid hO.rd
  clear hO hB
  go_wp2_with fail
  refine (mul_calls R_13 C k_13 cc _ _ (canon ((val xs) * (val ys))) (zs) _ Ht9_13.out Hc_13.out rfl rfl (canon_dg _) HDc.out (by have := BD_13.out.len; omega) (by omega)).mono ?_
  rintro e w_14 ⟨R_14, k_14, rfl, hO, hB⟩
  rw [canon_val BD_13.out.lo] at hO ⊢
  have HB_14 := Lib.hid (below_then HB_13.out HB_13.out.size hB)
  have Ha_14 := Lib.hid (Ha_13.out.below hB)
  clear Ha_13
  have Hb_14 := Lib.hid (Hb_13.out.below hB)
  clear Hb_13
  have Hc_14 := Lib.hid (Hc_13.out.below hB)
  clear Hc_13
  have BD_14 : Hid (Bd 30 (((val xs) * (val ys)) * (val zs))) := Lib.hid ((BD_13.out.mul HVc.out).to (by decide))
  have Ht10_14 := Lib.hid hO.rd
  clear hO hB
  go_wp2_with fail
  refine (mul_calls B C cb cc _ _ (ys) (zs) _ Hb_14.out Hc_14.out rfl rfl HDb.out HDc.out (by omega) (by omega)).mono ?_
  rintro e w_15 ⟨R_15, k_15, rfl, hO, hB⟩
  have HB_15 := Lib.hid (below_then HB_14.out HB_14.out.size hB)
  have Ha_15 := Lib.hid (Ha_14.out.below hB)
  clear Ha_14
  have Hb_15 := Lib.hid (Hb_14.out.below hB)
  clear Hb_14
  have Hc_15 := Lib.hid (Hc_14.out.below hB)
  clear Hc_14
  have Ht10_15 := Lib.hid (Ht10_14.out.below hB)
  clear Ht10_14
  have BD_15 : Hid (Bd 20 ((val ys) * (val zs))) := Lib.hid ((HVb.out.mul HVc.out).to (by decide))
  have Ht11_15 := Lib.hid hO.rd
  clear hO hB
  go_wp2_with fail
  refine (mul_calls A R_15 ca k_15 _ _ (xs) (canon ((val ys) * (val zs))) _ Ha_15.out Ht11_15.out rfl rfl HDa.out (canon_dg _) (by omega) (by have := BD_15.out.len; omega)).mono ?_
  rintro e w_16 ⟨R_16, k_16, rfl, hO, hB⟩
  rw [canon_val BD_15.out.lo] at hO ⊢
  have HB_16 := Lib.hid (below_then HB_15.out HB_15.out.size hB)
  have Ha_16 := Lib.hid (Ha_15.out.below hB)
  clear Ha_15
  have Hb_16 := Lib.hid (Hb_15.out.below hB)
  clear Hb_15
  have Hc_16 := Lib.hid (Hc_15.out.below hB)
  clear Hc_15
  have Ht10_16 := Lib.hid (Ht10_15.out.below hB)
  clear Ht10_15
  have BD_16 : Hid (Bd 30 ((val xs) * ((val ys) * (val zs)))) := Lib.hid ((HVa.out.mul BD_15.out).to (by decide))
  have Ht12_16 := Lib.hid hO.rd
  clear hO hB
  go_wp2_with fail
  have heq : canon ((val xs) * ((val ys) * (val zs))) = canon (((val xs) * (val ys)) * (val zs)) := canon_congr ((Int.mul_assoc _ _ _).symm)
  have hr2 := Ht12_16.out
  rw [heq] at hr2
  refine (same_calls R_14 R_16 k_14 k_16 _ _ (canon (((val xs) * (val ys)) * (val zs))) _ Ht10_16.out hr2 rfl (by rw [heq])).mono ?_
  rintro e w_17 ⟨rfl, hD⟩
  have hB := hD.below
  have HB_17 := Lib.hid (below_then HB_16.out HB_16.out.size hB)
  have Ha_17 := Lib.hid (Ha_16.out.below hB)
  clear Ha_16
  have Hb_17 := Lib.hid (Hb_16.out.below hB)
  clear Hb_16
  have Hc_17 := Lib.hid (Hc_16.out.below hB)
  clear Hc_16
  clear hD hB hr2 heq
  go_wp2_with fail
  refine (add_calls B C cb cc _ _ (ys) (zs) _ Hb_17.out Hc_17.out rfl rfl HDb.out HDc.out (by omega) (by omega)).mono ?_
  rintro e w_18 ⟨R_18, k_18, rfl, hO, hB⟩
  have HB_18 := Lib.hid (below_then HB_17.out HB_17.out.size hB)
  have Ha_18 := Lib.hid (Ha_17.out.below hB)
  clear Ha_17
  have Hb_18 := Lib.hid (Hb_17.out.below hB)
  clear Hb_17
  have Hc_18 := Lib.hid (Hc_17.out.below hB)
  clear Hc_17
  have BD_18 : Hid (Bd 21 ((val ys) + (val zs))) := Lib.hid ((HVb.out.add HVc.out).to (by decide))
  have Ht13_18 := Lib.hid hO.rd
  clear hO hB
  go_wp2_with fail
  refine (mul_calls A R_18 ca k_18 _ _ (xs) (canon ((val ys) + (val zs))) _ Ha_18.out Ht13_18.out rfl rfl HDa.out (canon_dg _) (by omega) (by have := BD_18.out.len; omega)).mono ?_
  rintro e w_19 ⟨R_19, k_19, rfl, hO, hB⟩
  rw [canon_val BD_18.out.lo] at hO ⊢
  have HB_19 := Lib.hid (below_then HB_18.out HB_18.out.size hB)
  have Ha_19 := Lib.hid (Ha_18.out.below hB)
  clear Ha_18
  have Hb_19 := Lib.hid (Hb_18.out.below hB)
  clear Hb_18
  have Hc_19 := Lib.hid (Hc_18.out.below hB)
  clear Hc_18
  have BD_19 : Hid (Bd 31 ((val xs) * ((val ys) + (val zs)))) := Lib.hid ((HVa.out.mul BD_18.out).to (by decide))
  have Ht14_19 := Lib.hid hO.rd
  clear hO hB
  go_wp2_with fail
  refine (mul_calls A B ca cb _ _ (xs) (ys) _ Ha_19.out Hb_19.out rfl rfl HDa.out HDb.out (by omega) (by omega)).mono ?_
  rintro e w_20 ⟨R_20, k_20, rfl, hO, hB⟩
  have HB_20 := Lib.hid (below_then HB_19.out HB_19.out.size hB)
  have Ha_20 := Lib.hid (Ha_19.out.below hB)
  clear Ha_19
  have Hb_20 := Lib.hid (Hb_19.out.below hB)
  clear Hb_19
  have Hc_20 := Lib.hid (Hc_19.out.below hB)
  clear Hc_19
  have Ht14_20 := Lib.hid (Ht14_19.out.below hB)
  clear Ht14_19
  have BD_20 : Hid (Bd 20 ((val xs) * (val ys))) := Lib.hid ((HVa.out.mul HVb.out).to (by decide))
  have Ht15_20 := Lib.hid hO.rd
  clear hO hB
  go_wp2_with fail
  refine (mul_calls A C ca cc _ _ (xs) (zs) _ Ha_20.out Hc_20.out rfl rfl HDa.out HDc.out (by omega) (by omega)).mono ?_
  rintro e w_21 ⟨R_21, k_21, rfl, hO, hB⟩
  have HB_21 := Lib.hid (below_then HB_20.out HB_20.out.size hB)
  have Ha_21 := Lib.hid (Ha_20.out.below hB)
  clear Ha_20
  have Hb_21 := Lib.hid (Hb_20.out.below hB)
  clear Hb_20
  have Hc_21 := Lib.hid (Hc_20.out.below hB)
  clear Hc_20
  have Ht14_21 := Lib.hid (Ht14_20.out.below hB)
  clear Ht14_20
  have Ht15_21 := Lib.hid (Ht15_20.out.below hB)
  clear Ht15_20
  have BD_21 : Hid (Bd 20 ((val xs) * (val zs))) := Lib.hid ((HVa.out.mul HVc.out).to (by decide))
  have Ht16_21 := Lib.hid hO.rd
  clear hO hB
  go_wp2_with fail
  refine (add_calls R_20 R_21 k_20 k_21 _ _ (canon ((val xs) * (val ys))) (canon ((val xs) * (val zs))) _ Ht15_21.out Ht16_21.out rfl rfl (canon_dg _) (canon_dg _) (by have := BD_20.out.len; omega) (by have := BD_21.out.len; omega)).mono ?_
  rintro e w_22 ⟨R_22, k_22, rfl, hO, hB⟩
  rw [canon_val BD_20.out.lo, canon_val BD_21.out.lo] at hO ⊢
  have HB_22 := Lib.hid (below_then HB_21.out HB_21.out.size hB)
  have Ha_22 := Lib.hid (Ha_21.out.below hB)
  clear Ha_21
  have Hb_22 := Lib.hid (Hb_21.out.below hB)
  clear Hb_21
  have Hc_22 := Lib.hid (Hc_21.out.below hB)
  clear Hc_21
  have Ht14_22 := Lib.hid (Ht14_21.out.below hB)
  clear Ht14_21
  have BD_22 : Hid (Bd 41 (((val xs) * (val ys)) + ((val xs) * (val zs)))) := Lib.hid ((BD_20.out.add BD_21.out).to (by decide))
  have Ht17_22 := Lib.hid hO.rd
  clear hO hB
  go_wp2_with fail
  have heq : canon (((val xs) * (val ys)) + ((val xs) * (val zs))) = canon ((val xs) * ((val ys) + (val zs))) := canon_congr ((Int.mul_add _ _ _).symm)
  have hr2 := Ht17_22.out
  rw [heq] at hr2
  refine (same_calls R_19 R_22 k_19 k_22 _ _ (canon ((val xs) * ((val ys) + (val zs)))) _ Ht14_22.out hr2 rfl (by rw [heq])).mono ?_
  rintro e w_23 ⟨rfl, hD⟩
  have hB := hD.below
  have HB_23 := Lib.hid (below_then HB_22.out HB_22.out.size hB)
  have Ha_23 := Lib.hid (Ha_22.out.below hB)
  clear Ha_22
  have Hb_23 := Lib.hid (Hb_22.out.below hB)
  clear Hb_22
  have Hc_23 := Lib.hid (Hc_22.out.below hB)
  clear Hc_22
  clear hD hB hr2 heq
  go_wp2_with fail
  refine (add_calls A B ca cb _ _ (xs) (ys) _ Ha_23.out Hb_23.out rfl rfl HDa.out HDb.out (by omega) (by omega)).mono ?_
  rintro e w_24 ⟨R_24, k_24, rfl, hO, hB⟩
  have HB_24 := Lib.hid (below_then HB_23.out HB_23.out.size hB)
  have Ha_24 := Lib.hid (Ha_23.out.below hB)
  clear Ha_23
  have Hb_24 := Lib.hid (Hb_23.out.below hB)
  clear Hb_23
  have Hc_24 := Lib.hid (Hc_23.out.below hB)
  clear Hc_23
  have BD_24 : Hid (Bd 21 ((val xs) + (val ys))) := Lib.hid ((HVa.out.add HVb.out).to (by decide))
  have Ht18_24 := Lib.hid hO.rd
  clear hO hB
  go_wp2_with fail
  refine (sub_calls R_24 B k_24 cb _ _ (canon ((val xs) + (val ys))) (ys) _ Ht18_24.out Hb_24.out rfl rfl (canon_dg _) HDb.out (by have := BD_24.out.len; omega)).mono ?_
  rintro e w_25 ⟨R_25, k_25, rfl, hO, hB⟩
  rw [canon_val BD_24.out.lo, show val xs + val ys - val ys = val xs from by omega] at hO ⊢
  have HB_25 := Lib.hid (below_then HB_24.out HB_24.out.size hB)
  have Ha_25 := Lib.hid (Ha_24.out.below hB)
  clear Ha_24
  have Ht19_25 := Lib.hid hO.rd
  clear hO hB
  go_wp2_with fail
  refine (trim_calls A ca _ (xs) _ Ha_25.out rfl HDa.out).mono ?_
  rintro e w_26 ⟨R_26, k_26, rfl, hO, hB⟩
  have HB_26 := Lib.hid (below_then HB_25.out HB_25.out.size hB)
  have Ht19_26 := Lib.hid (Ht19_25.out.below hB)
  clear Ht19_25
  have BD_26 : Hid (Bd 10 (val xs)) := Lib.hid ((HVa.out).to (by decide))
  have Ht20_26 := Lib.hid hO.rd
  clear hO hB
  go_wp2_with fail
  have heq : canon (val xs) = canon (val xs) := canon_congr (rfl)
  have hr2 := Ht20_26.out
  rw [heq] at hr2
  refine (same_calls R_25 R_26 k_25 k_26 _ _ (canon (val xs)) _ Ht19_26.out hr2 rfl (by rw [heq])).mono ?_
  rintro e w_27 ⟨rfl, hD⟩
  have hB := hD.below
  have HB_27 := Lib.hid (below_then HB_26.out HB_26.out.size hB)
  clear hD hB hr2 heq
  go_wp2_with fail
  go_ret
  exact ⟨rfl, HB_27.out⟩

theorem natring_big (A B C : Option Addr) (ca cb cc na nb nc : Nat) (w : World) (ma : na ≤ 9223372036854775807) (mb : nb ≤ 9223372036854775807) (mc : nc ≤ 9223372036854775807) (h : ¬ (na ≤ 10 ∧ nb ≤ 10 ∧ nc ≤ 10)) :
    Calls Try.prog 8 #[.slice A na ca, .slice B nb cb, .slice C nc cc] w (Yes w) := by
  by_cases ha : na ≤ 10
  · by_cases hb : nb ≤ 10
    · have hc : ¬ nc ≤ 10 := fun hc => h ⟨ha, hb, hc⟩
      clear h
      go_enter Try.func8, Try.ntmps8
      go_wp2_with fail
      refine (digits_calls A ca na _ ha).mono ?_
      rintro e w' ⟨rfl, rfl⟩
      go_wp2_with fail
      refine (digits_calls B cb nb _ hb).mono ?_
      rintro e w' ⟨rfl, rfl⟩
      go_wp2_with fail
      refine (digits_no C cc nc _ hc mc).mono ?_
      rintro e w' ⟨rfl, rfl⟩
      go_wp2_with fail
      refine (awake_calls _).mono ?_
      rintro e w' ⟨rfl, hB⟩
      go_wp2_with fail
      go_ret
      exact ⟨rfl, hB⟩
    · clear h
      go_enter Try.func8, Try.ntmps8
      go_wp2_with fail
      refine (digits_calls A ca na _ ha).mono ?_
      rintro e w' ⟨rfl, rfl⟩
      go_wp2_with fail
      refine (digits_no B cb nb _ hb mb).mono ?_
      rintro e w' ⟨rfl, rfl⟩
      go_wp2_with fail
      refine (awake_calls _).mono ?_
      rintro e w' ⟨rfl, hB⟩
      go_wp2_with fail
      go_ret
      exact ⟨rfl, hB⟩
  · clear h
    go_enter Try.func8, Try.ntmps8
    go_wp2_with fail
    refine (digits_no A ca na _ ha ma).mono ?_
    rintro e w' ⟨rfl, rfl⟩
    go_wp2_with fail
    refine (awake_calls _).mono ?_
    rintro e w' ⟨rfl, hB⟩
    go_wp2_with fail
    go_ret
    exact ⟨rfl, hB⟩

theorem natring_any (a0 : Option Addr) (len0 cap0 : Nat) (z0 : List Int) (a1 : Option Addr) (len1 cap1 : Nat) (z1 : List Int) (a2 : Option Addr) (len2 cap2 : Nat) (z2 : List Int) (w : World)
    (w0 : IsRow .u32 w a0 len0 cap0 z0) (y0 : len0 * 4 ≤ 140737488351232) (w1 : IsRow .u32 w a1 len1 cap1 z1) (y1 : len1 * 4 ≤ 140737488351232) (w2 : IsRow .u32 w a2 len2 cap2 z2) (y2 : len2 * 4 ≤ 140737488351232) :
    Calls Try.prog 8 #[.slice a0 len0 cap0, .slice a1 len1 cap1, .slice a2 len2 cap2] w fun e w' => e = .returned (.bool true) ∧ Below w.heap.size w w' := by
  by_cases h : len0 ≤ 10 ∧ len1 ≤ 10 ∧ len2 ≤ 10
  · obtain ⟨h0, h1, h2⟩ := h
    obtain ⟨xs, rx, ex, dx⟩ := w0.rd (by omega)
    obtain ⟨ys, ry, ey, dy⟩ := w1.rd (by omega)
    obtain ⟨zs, rz, ez, dz⟩ := w2.rd (by omega)
    exact natring_small a0 a1 a2 cap0 cap1 cap2 len0 len1 len2 xs ys zs w rx ry rz ex ey ez dx dy dz (by omega) (by omega) (by omega)
  · exact natring_big a0 a1 a2 cap0 cap1 cap2 len0 len1 len2 w (by omega) (by omega) (by omega) h
end Go.Proofs.Ytcmiciloiicfoaa
