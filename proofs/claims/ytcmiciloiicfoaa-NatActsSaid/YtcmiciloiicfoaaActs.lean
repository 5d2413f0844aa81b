/- The walk of the law NatActs: each function of nat returns what the reference returns. Printed by wip/gen/natacts.py. -/
import Derived.Test.YtcmiciloiicfoaaRDiv
import Derived.Test.YtcmiciloiicfoaaRSub
import Derived.Test.YtcmiciloiicfoaaRMul
namespace Go.Proofs.Ytcmiciloiicfoaa
open Go.RowKit Go.Proofs.YtcmiciloiicfoaaW.PrintWords

theorem rdiv_pos (A B : Option Addr) (c d n m : Nat) (xs ys : List Int) (w : World) (hx : Rd w A c xs) (hy : Rd w B d ys) (hn : n = xs.length) (hm : m = ys.length) (dx : Dg xs) (dy : Dg ys) (hp : 0 < val ys) (lx : xs.length ≤ 16777000) :
    Calls Try.prog 44 #[.slice A n c, .slice B m d] w (Out3 w (canon (val xs / val ys)) (canon (val xs % val ys)) 0) := by
  have hl := cutL_pos dy hp
  by_cases h1 : (cutL ys).length = 1
  · exact rdiv_one A B c d n m xs ys w hx hy hn hm dx dy h1 (by omega)
  · rcases Int.lt_or_le (val xs) (val ys) with h | h
    · exact rdiv_less A B c d n m xs ys w hx hy hn hm dx dy (by omega) h
    · exact rdiv_long A B c d n m xs ys w hx hy hn hm dx dy (by omega) h lx
theorem Rd.none0 (w : World) : Rd w none 0 [] := ⟨by simp, by simp, fun _ => rfl, fun h => absurd h (by simp)⟩

set_option maxRecDepth 100000 in
set_option maxHeartbeats 4000000 in
theorem natacts_zero (A B : Option Addr) (ca cb na nb : Nat) (xs ys : List Int) (w : World) (hx : Rd w A ca xs) (hy : Rd w B cb ys) (hna : na = xs.length) (hnb : nb = ys.length)
    (dx : Dg xs) (dy : Dg ys) (lx : xs.length ≤ 10) (ly : ys.length ≤ 10) (hp : val ys = 0) :
    Calls Try.prog 10 #[.slice A na ca, .slice B nb cb] w (Yes w) := by
  subst hna hnb
  have HXa := Lib.hid hx
  have HXb := Lib.hid hy
  have HDa := Lib.hid dx
  have HDb := Lib.hid dy
  have HVa := Lib.hid (Bd.val dx lx)
  have HVb := Lib.hid (Bd.val dy ly)
  have HB_0 := Lib.hid (Below.refl w.heap.size w)
  have HP := Lib.hid hp
  have KN1 := Lib.hid fun W h => normal_calls A ca xs.length xs W h rfl
  have KN2 := Lib.hid fun W h => rnormal_calls A ca xs.length xs W h rfl
  generalize nmB xs = zb at KN1 KN2
  have KC1 := Lib.hid fun W h h' => compare_calls A B ca cb _ _ xs ys W h h' dx dy rfl rfl
  have KC2 := Lib.hid fun W h h' => rcompare_calls A B ca cb _ _ xs ys W h h' dx dy rfl rfl
  generalize cmpI (val xs) (val ys) = zc at KC1 KC2
  clear hx hy dx dy hp
  go_enter Try.func10, Try.ntmps10
  go_wp2_with fail
  refine (digits_calls A ca xs.length _ lx).mono ?_
  rintro e w' ⟨rfl, rfl⟩
  go_wp2_with fail
  refine (digits_calls B cb ys.length _ ly).mono ?_
  rintro e w' ⟨rfl, rfl⟩
  go_wp2_with fail
  refine (divmod_zero A B ca cb xs.length ys.length ys _ HXb.out rfl HDb.out HP.out).mono ?_
  rintro e w' ⟨rfl, rfl⟩
  go_wp2_with fail
  refine (rdiv_zero A B ca cb _ _ xs ys _ HXa.out HXb.out rfl rfl HDb.out HP.out).mono ?_
  rintro e w_1 ⟨rfl, hB⟩
  have HB_1 := Lib.hid (below_then HB_0.out HB_0.out.size hB)
  have Ha_1 := Lib.hid (HXa.out.below hB)
  have Hb_1 := Lib.hid (HXb.out.below hB)
  clear hB
  go_wp2_with fail
  refine (awake_calls _).mono ?_
  rintro e w_2 ⟨rfl, hB⟩
  have HB_2 := Lib.hid (below_then HB_1.out HB_1.out.size hB)
  have Ha_2 := Lib.hid (Ha_1.out.below hB)
  clear Ha_1
  have Hb_2 := Lib.hid (Hb_1.out.below hB)
  clear Hb_1
  clear hB
  go_wp2_with fail
  refine (same_calls none none 0 0 0 0 [] _ (Rd.none0 _) (Rd.none0 _) rfl rfl).mono ?_
  rintro e w_3 ⟨rfl, hD⟩
  have hB := hD.below
  have HB_3 := Lib.hid (below_then HB_2.out HB_2.out.size hB)
  have Ha_3 := Lib.hid (Ha_2.out.below hB)
  clear Ha_2
  have Hb_3 := Lib.hid (Hb_2.out.below hB)
  clear Hb_2
  clear hD hB
  go_wp2_with fail
  refine (same_calls none none 0 0 0 0 [] _ (Rd.none0 _) (Rd.none0 _) rfl rfl).mono ?_
  rintro e w_4 ⟨rfl, hD⟩
  have hB := hD.below
  have HB_4 := Lib.hid (below_then HB_3.out HB_3.out.size hB)
  have Ha_4 := Lib.hid (Ha_3.out.below hB)
  clear Ha_3
  have Hb_4 := Lib.hid (Hb_3.out.below hB)
  clear Hb_3
  clear hD hB
  go_wp2_with fail
  refine (KN1.out _ Ha_4.out).mono ?_
  rintro e w' ⟨rfl, rfl⟩
  go_wp2_with fail
  refine (KN2.out _ Ha_4.out).mono ?_
  rintro e w' ⟨rfl, rfl⟩
  go_wp2_with fail
  refine (trim_calls A ca _ (xs) _ Ha_4.out rfl HDa.out).mono ?_
  rintro e w_5 ⟨R_5, k_5, rfl, hO, hB⟩
  have HB_5 := Lib.hid (below_then HB_4.out HB_4.out.size hB)
  have Ha_5 := Lib.hid (Ha_4.out.below hB)
  clear Ha_4
  have Hb_5 := Lib.hid (Hb_4.out.below hB)
  clear Hb_4
  have BD_5 : Hid (Bd 10 (val xs)) := Lib.hid ((HVa.out).to (by decide))
  have Ht_5 := Lib.hid hO.rd
  clear hO hB
  go_wp2_with fail
  refine (rtrim_calls A ca _ (xs) _ Ha_5.out rfl).mono ?_
  rintro e w_6 ⟨R_6, k_6, rfl, hO, hB⟩
  rw [cutL_canon HDa.out] at hO ⊢
  have HB_6 := Lib.hid (below_then HB_5.out HB_5.out.size hB)
  have Ha_6 := Lib.hid (Ha_5.out.below hB)
  clear Ha_5
  have Hb_6 := Lib.hid (Hb_5.out.below hB)
  clear Hb_5
  have Ht_6 := Lib.hid (Ht_5.out.below hB)
  clear Ht_5
  have Hu_6 := Lib.hid hO.rd
  clear hO hB
  go_wp2_with fail
  refine (same_calls R_5 R_6 k_5 k_6 _ _ (canon (val xs)) _ Ht_6.out Hu_6.out rfl rfl).mono ?_
  rintro e w_7 ⟨rfl, hD⟩
  have hB := hD.below
  have HB_7 := Lib.hid (below_then HB_6.out HB_6.out.size hB)
  have Ha_7 := Lib.hid (Ha_6.out.below hB)
  clear Ha_6
  have Hb_7 := Lib.hid (Hb_6.out.below hB)
  clear Hb_6
  clear hD hB
  go_wp2_with fail
  refine (KC1.out _ Ha_7.out Hb_7.out).mono ?_
  rintro e w_8 ⟨rfl, hD⟩
  have hB := hD.below
  have HB_8 := Lib.hid (below_then HB_7.out HB_7.out.size hB)
  have Ha_8 := Lib.hid (Ha_7.out.below hB)
  clear Ha_7
  have Hb_8 := Lib.hid (Hb_7.out.below hB)
  clear Hb_7
  clear hD hB
  go_wp2_with fail
  refine (KC2.out _ Ha_8.out Hb_8.out).mono ?_
  rintro e w_9 ⟨rfl, hB⟩
  have HB_9 := Lib.hid (below_then HB_8.out HB_8.out.size hB)
  have Ha_9 := Lib.hid (Ha_8.out.below hB)
  clear Ha_8
  have Hb_9 := Lib.hid (Hb_8.out.below hB)
  clear Hb_8
  clear hB
  go_wp2_with fail
  refine (add_calls A B ca cb _ _ xs ys _ Ha_9.out Hb_9.out rfl rfl HDa.out HDb.out (by omega) (by omega)).mono ?_
  rintro e w_10 ⟨R_10, k_10, rfl, hO, hB⟩
  have HB_10 := Lib.hid (below_then HB_9.out HB_9.out.size hB)
  have Ha_10 := Lib.hid (Ha_9.out.below hB)
  clear Ha_9
  have Hb_10 := Lib.hid (Hb_9.out.below hB)
  clear Hb_9
  have Hadd_10 := Lib.hid hO.rd
  clear hO hB
  go_wp2_with fail
  refine (radd_calls A B ca cb _ _ xs ys _ Ha_10.out Hb_10.out rfl rfl HDa.out HDb.out (by omega) (by omega)).mono ?_
  rintro e w_11 ⟨R_11, k_11, rfl, hO, hB⟩
  have HB_11 := Lib.hid (below_then HB_10.out HB_10.out.size hB)
  have Ha_11 := Lib.hid (Ha_10.out.below hB)
  clear Ha_10
  have Hb_11 := Lib.hid (Hb_10.out.below hB)
  clear Hb_10
  have Hadd_11 := Lib.hid (Hadd_10.out.below hB)
  clear Hadd_10
  have Hradd_11 := Lib.hid hO.rd
  clear hO hB
  go_wp2_with fail
  refine (same_calls R_10 R_11 k_10 k_11 _ _ (canon (val xs + val ys)) _ Hadd_11.out Hradd_11.out rfl rfl).mono ?_
  rintro e w_12 ⟨rfl, hD⟩
  have hB := hD.below
  have HB_12 := Lib.hid (below_then HB_11.out HB_11.out.size hB)
  have Ha_12 := Lib.hid (Ha_11.out.below hB)
  clear Ha_11
  have Hb_12 := Lib.hid (Hb_11.out.below hB)
  clear Hb_11
  clear hD hB
  go_wp2_with fail
  refine (sub_calls A B ca cb _ _ xs ys _ Ha_12.out Hb_12.out rfl rfl HDa.out HDb.out (by omega)).mono ?_
  rintro e w_13 ⟨R_13, k_13, rfl, hO, hB⟩
  have HB_13 := Lib.hid (below_then HB_12.out HB_12.out.size hB)
  have Ha_13 := Lib.hid (Ha_12.out.below hB)
  clear Ha_12
  have Hb_13 := Lib.hid (Hb_12.out.below hB)
  clear Hb_12
  have Hsub_13 := Lib.hid hO.rd
  clear hO hB
  go_wp2_with fail
  refine (rsub_calls A B ca cb _ _ xs ys _ Ha_13.out Hb_13.out rfl rfl HDa.out HDb.out (by omega)).mono ?_
  rintro e w_14 ⟨R_14, k_14, rfl, hO, hB⟩
  have HB_14 := Lib.hid (below_then HB_13.out HB_13.out.size hB)
  have Ha_14 := Lib.hid (Ha_13.out.below hB)
  clear Ha_13
  have Hb_14 := Lib.hid (Hb_13.out.below hB)
  clear Hb_13
  have Hsub_14 := Lib.hid (Hsub_13.out.below hB)
  clear Hsub_13
  have Hrsub_14 := Lib.hid hO.rd
  clear hO hB
  go_wp2_with fail
  refine (same_calls R_13 R_14 k_13 k_14 _ _ (canon (val xs - val ys)) _ Hsub_14.out Hrsub_14.out rfl rfl).mono ?_
  rintro e w_15 ⟨rfl, hD⟩
  have hB := hD.below
  have HB_15 := Lib.hid (below_then HB_14.out HB_14.out.size hB)
  have Ha_15 := Lib.hid (Ha_14.out.below hB)
  clear Ha_14
  have Hb_15 := Lib.hid (Hb_14.out.below hB)
  clear Hb_14
  clear hD hB
  go_wp2_with fail
  refine (mul_calls A B ca cb _ _ xs ys _ Ha_15.out Hb_15.out rfl rfl HDa.out HDb.out (by omega) (by omega)).mono ?_
  rintro e w_16 ⟨R_16, k_16, rfl, hO, hB⟩
  have HB_16 := Lib.hid (below_then HB_15.out HB_15.out.size hB)
  have Ha_16 := Lib.hid (Ha_15.out.below hB)
  clear Ha_15
  have Hb_16 := Lib.hid (Hb_15.out.below hB)
  clear Hb_15
  have Hmul_16 := Lib.hid hO.rd
  clear hO hB
  go_wp2_with fail
  refine (rmul_calls A B ca cb _ _ xs ys _ Ha_16.out Hb_16.out rfl rfl HDa.out HDb.out (by omega) (by omega)).mono ?_
  rintro e w_17 ⟨R_17, k_17, rfl, hO, hB⟩
  have HB_17 := Lib.hid (below_then HB_16.out HB_16.out.size hB)
  have Ha_17 := Lib.hid (Ha_16.out.below hB)
  clear Ha_16
  have Hb_17 := Lib.hid (Hb_16.out.below hB)
  clear Hb_16
  have Hmul_17 := Lib.hid (Hmul_16.out.below hB)
  clear Hmul_16
  have Hrmul_17 := Lib.hid hO.rd
  clear hO hB
  go_wp2_with fail
  refine (same_calls R_16 R_17 k_16 k_17 _ _ (canon (val xs * val ys)) _ Hmul_17.out Hrmul_17.out rfl rfl).mono ?_
  rintro e w_18 ⟨rfl, hD⟩
  have hB := hD.below
  have HB_18 := Lib.hid (below_then HB_17.out HB_17.out.size hB)
  have Ha_18 := Lib.hid (Ha_17.out.below hB)
  clear Ha_17
  have Hb_18 := Lib.hid (Hb_17.out.below hB)
  clear Hb_17
  clear hD hB
  go_wp2_with fail
  go_ret
  exact ⟨rfl, HB_18.out⟩

set_option maxRecDepth 100000 in
set_option maxHeartbeats 4000000 in
theorem natacts_pos (A B : Option Addr) (ca cb na nb : Nat) (xs ys : List Int) (w : World) (hx : Rd w A ca xs) (hy : Rd w B cb ys) (hna : na = xs.length) (hnb : nb = ys.length)
    (dx : Dg xs) (dy : Dg ys) (lx : xs.length ≤ 10) (ly : ys.length ≤ 10) (hp : 0 < val ys) :
    Calls Try.prog 10 #[.slice A na ca, .slice B nb cb] w (Yes w) := by
  subst hna hnb
  have HXa := Lib.hid hx
  have HXb := Lib.hid hy
  have HDa := Lib.hid dx
  have HDb := Lib.hid dy
  have HVa := Lib.hid (Bd.val dx lx)
  have HVb := Lib.hid (Bd.val dy ly)
  have HB_0 := Lib.hid (Below.refl w.heap.size w)
  have HP := Lib.hid hp
  have KN1 := Lib.hid fun W h => normal_calls A ca xs.length xs W h rfl
  have KN2 := Lib.hid fun W h => rnormal_calls A ca xs.length xs W h rfl
  generalize nmB xs = zb at KN1 KN2
  have KC1 := Lib.hid fun W h h' => compare_calls A B ca cb _ _ xs ys W h h' dx dy rfl rfl
  have KC2 := Lib.hid fun W h h' => rcompare_calls A B ca cb _ _ xs ys W h h' dx dy rfl rfl
  generalize cmpI (val xs) (val ys) = zc at KC1 KC2
  clear hx hy dx dy hp
  go_enter Try.func10, Try.ntmps10
  go_wp2_with fail
  refine (digits_calls A ca xs.length _ lx).mono ?_
  rintro e w' ⟨rfl, rfl⟩
  go_wp2_with fail
  refine (digits_calls B cb ys.length _ ly).mono ?_
  rintro e w' ⟨rfl, rfl⟩
  go_wp2_with fail
  refine (divmod_calls A B ca cb _ _ xs ys _ HXa.out HXb.out rfl rfl HDa.out HDb.out HP.out (by omega)).mono ?_
  rintro e w_1 ⟨Q_1, kq_1, R_1, k_1, rfl, hQ, hR, hB⟩
  have HB_1 := Lib.hid (below_then HB_0.out HB_0.out.size hB)
  have Ha_1 := Lib.hid (HXa.out.below hB)
  have Hb_1 := Lib.hid (HXb.out.below hB)
  have Hq_1 := Lib.hid hQ.rd
  have Hr_1 := Lib.hid hR.rd
  clear hQ hR hB
  go_wp2_with fail
  refine (rdiv_pos A B ca cb _ _ xs ys _ Ha_1.out Hb_1.out rfl rfl HDa.out HDb.out HP.out (by omega)).mono ?_
  rintro e w_2 ⟨Q_2, kq_2, R_2, k_2, rfl, hQ, hR, hB⟩
  have HB_2 := Lib.hid (below_then HB_1.out HB_1.out.size hB)
  have Ha_2 := Lib.hid (Ha_1.out.below hB)
  clear Ha_1
  have Hb_2 := Lib.hid (Hb_1.out.below hB)
  clear Hb_1
  have Hq_2 := Lib.hid (Hq_1.out.below hB)
  clear Hq_1
  have Hr_2 := Lib.hid (Hr_1.out.below hB)
  clear Hr_1
  have Hx_2 := Lib.hid hQ.rd
  have Hy_2 := Lib.hid hR.rd
  clear hQ hR hB
  go_wp2_with fail
  refine (awake_calls _).mono ?_
  rintro e w_3 ⟨rfl, hB⟩
  have HB_3 := Lib.hid (below_then HB_2.out HB_2.out.size hB)
  have Ha_3 := Lib.hid (Ha_2.out.below hB)
  clear Ha_2
  have Hb_3 := Lib.hid (Hb_2.out.below hB)
  clear Hb_2
  have Hq_3 := Lib.hid (Hq_2.out.below hB)
  clear Hq_2
  have Hr_3 := Lib.hid (Hr_2.out.below hB)
  clear Hr_2
  have Hx_3 := Lib.hid (Hx_2.out.below hB)
  clear Hx_2
  have Hy_3 := Lib.hid (Hy_2.out.below hB)
  clear Hy_2
  clear hB
  go_wp2_with fail
  refine (same_calls Q_1 Q_2 kq_1 kq_2 _ _ (canon (val xs / val ys)) _ Hq_3.out Hx_3.out rfl rfl).mono ?_
  rintro e w_4 ⟨rfl, hD⟩
  have hB := hD.below
  have HB_4 := Lib.hid (below_then HB_3.out HB_3.out.size hB)
  have Ha_4 := Lib.hid (Ha_3.out.below hB)
  clear Ha_3
  have Hb_4 := Lib.hid (Hb_3.out.below hB)
  clear Hb_3
  have Hr_4 := Lib.hid (Hr_3.out.below hB)
  clear Hr_3
  have Hy_4 := Lib.hid (Hy_3.out.below hB)
  clear Hy_3
  clear hD hB
  go_wp2_with fail
  refine (same_calls R_1 R_2 k_1 k_2 _ _ (canon (val xs % val ys)) _ Hr_4.out Hy_4.out rfl rfl).mono ?_
  rintro e w_5 ⟨rfl, hD⟩
  have hB := hD.below
  have HB_5 := Lib.hid (below_then HB_4.out HB_4.out.size hB)
  have Ha_5 := Lib.hid (Ha_4.out.below hB)
  clear Ha_4
  have Hb_5 := Lib.hid (Hb_4.out.below hB)
  clear Hb_4
  clear hD hB
  go_wp2_with fail
  refine (KN1.out _ Ha_5.out).mono ?_
  rintro e w' ⟨rfl, rfl⟩
  go_wp2_with fail
  refine (KN2.out _ Ha_5.out).mono ?_
  rintro e w' ⟨rfl, rfl⟩
  go_wp2_with fail
  refine (trim_calls A ca _ (xs) _ Ha_5.out rfl HDa.out).mono ?_
  rintro e w_6 ⟨R_6, k_6, rfl, hO, hB⟩
  have HB_6 := Lib.hid (below_then HB_5.out HB_5.out.size hB)
  have Ha_6 := Lib.hid (Ha_5.out.below hB)
  clear Ha_5
  have Hb_6 := Lib.hid (Hb_5.out.below hB)
  clear Hb_5
  have BD_6 : Hid (Bd 10 (val xs)) := Lib.hid ((HVa.out).to (by decide))
  have Ht_6 := Lib.hid hO.rd
  clear hO hB
  go_wp2_with fail
  refine (rtrim_calls A ca _ (xs) _ Ha_6.out rfl).mono ?_
  rintro e w_7 ⟨R_7, k_7, rfl, hO, hB⟩
  rw [cutL_canon HDa.out] at hO ⊢
  have HB_7 := Lib.hid (below_then HB_6.out HB_6.out.size hB)
  have Ha_7 := Lib.hid (Ha_6.out.below hB)
  clear Ha_6
  have Hb_7 := Lib.hid (Hb_6.out.below hB)
  clear Hb_6
  have Ht_7 := Lib.hid (Ht_6.out.below hB)
  clear Ht_6
  have Hu_7 := Lib.hid hO.rd
  clear hO hB
  go_wp2_with fail
  refine (same_calls R_6 R_7 k_6 k_7 _ _ (canon (val xs)) _ Ht_7.out Hu_7.out rfl rfl).mono ?_
  rintro e w_8 ⟨rfl, hD⟩
  have hB := hD.below
  have HB_8 := Lib.hid (below_then HB_7.out HB_7.out.size hB)
  have Ha_8 := Lib.hid (Ha_7.out.below hB)
  clear Ha_7
  have Hb_8 := Lib.hid (Hb_7.out.below hB)
  clear Hb_7
  clear hD hB
  go_wp2_with fail
  refine (KC1.out _ Ha_8.out Hb_8.out).mono ?_
  rintro e w_9 ⟨rfl, hD⟩
  have hB := hD.below
  have HB_9 := Lib.hid (below_then HB_8.out HB_8.out.size hB)
  have Ha_9 := Lib.hid (Ha_8.out.below hB)
  clear Ha_8
  have Hb_9 := Lib.hid (Hb_8.out.below hB)
  clear Hb_8
  clear hD hB
  go_wp2_with fail
  refine (KC2.out _ Ha_9.out Hb_9.out).mono ?_
  rintro e w_10 ⟨rfl, hB⟩
  have HB_10 := Lib.hid (below_then HB_9.out HB_9.out.size hB)
  have Ha_10 := Lib.hid (Ha_9.out.below hB)
  clear Ha_9
  have Hb_10 := Lib.hid (Hb_9.out.below hB)
  clear Hb_9
  clear hB
  go_wp2_with fail
  refine (add_calls A B ca cb _ _ xs ys _ Ha_10.out Hb_10.out rfl rfl HDa.out HDb.out (by omega) (by omega)).mono ?_
  rintro e w_11 ⟨R_11, k_11, rfl, hO, hB⟩
  have HB_11 := Lib.hid (below_then HB_10.out HB_10.out.size hB)
  have Ha_11 := Lib.hid (Ha_10.out.below hB)
  clear Ha_10
  have Hb_11 := Lib.hid (Hb_10.out.below hB)
  clear Hb_10
  have Hadd_11 := Lib.hid hO.rd
  clear hO hB
  go_wp2_with fail
  refine (radd_calls A B ca cb _ _ xs ys _ Ha_11.out Hb_11.out rfl rfl HDa.out HDb.out (by omega) (by omega)).mono ?_
  rintro e w_12 ⟨R_12, k_12, rfl, hO, hB⟩
  have HB_12 := Lib.hid (below_then HB_11.out HB_11.out.size hB)
  have Ha_12 := Lib.hid (Ha_11.out.below hB)
  clear Ha_11
  have Hb_12 := Lib.hid (Hb_11.out.below hB)
  clear Hb_11
  have Hadd_12 := Lib.hid (Hadd_11.out.below hB)
  clear Hadd_11
  have Hradd_12 := Lib.hid hO.rd
  clear hO hB
  go_wp2_with fail
  refine (same_calls R_11 R_12 k_11 k_12 _ _ (canon (val xs + val ys)) _ Hadd_12.out Hradd_12.out rfl rfl).mono ?_
  rintro e w_13 ⟨rfl, hD⟩
  have hB := hD.below
  have HB_13 := Lib.hid (below_then HB_12.out HB_12.out.size hB)
  have Ha_13 := Lib.hid (Ha_12.out.below hB)
  clear Ha_12
  have Hb_13 := Lib.hid (Hb_12.out.below hB)
  clear Hb_12
  clear hD hB
  go_wp2_with fail
  refine (sub_calls A B ca cb _ _ xs ys _ Ha_13.out Hb_13.out rfl rfl HDa.out HDb.out (by omega)).mono ?_
  rintro e w_14 ⟨R_14, k_14, rfl, hO, hB⟩
  have HB_14 := Lib.hid (below_then HB_13.out HB_13.out.size hB)
  have Ha_14 := Lib.hid (Ha_13.out.below hB)
  clear Ha_13
  have Hb_14 := Lib.hid (Hb_13.out.below hB)
  clear Hb_13
  have Hsub_14 := Lib.hid hO.rd
  clear hO hB
  go_wp2_with fail
  refine (rsub_calls A B ca cb _ _ xs ys _ Ha_14.out Hb_14.out rfl rfl HDa.out HDb.out (by omega)).mono ?_
  rintro e w_15 ⟨R_15, k_15, rfl, hO, hB⟩
  have HB_15 := Lib.hid (below_then HB_14.out HB_14.out.size hB)
  have Ha_15 := Lib.hid (Ha_14.out.below hB)
  clear Ha_14
  have Hb_15 := Lib.hid (Hb_14.out.below hB)
  clear Hb_14
  have Hsub_15 := Lib.hid (Hsub_14.out.below hB)
  clear Hsub_14
  have Hrsub_15 := Lib.hid hO.rd
  clear hO hB
  go_wp2_with fail
  refine (same_calls R_14 R_15 k_14 k_15 _ _ (canon (val xs - val ys)) _ Hsub_15.out Hrsub_15.out rfl rfl).mono ?_
  rintro e w_16 ⟨rfl, hD⟩
  have hB := hD.below
  have HB_16 := Lib.hid (below_then HB_15.out HB_15.out.size hB)
  have Ha_16 := Lib.hid (Ha_15.out.below hB)
  clear Ha_15
  have Hb_16 := Lib.hid (Hb_15.out.below hB)
  clear Hb_15
  clear hD hB
  go_wp2_with fail
  refine (mul_calls A B ca cb _ _ xs ys _ Ha_16.out Hb_16.out rfl rfl HDa.out HDb.out (by omega) (by omega)).mono ?_
  rintro e w_17 ⟨R_17, k_17, rfl, hO, hB⟩
  have HB_17 := Lib.hid (below_then HB_16.out HB_16.out.size hB)
  have Ha_17 := Lib.hid (Ha_16.out.below hB)
  clear Ha_16
  have Hb_17 := Lib.hid (Hb_16.out.below hB)
  clear Hb_16
  have Hmul_17 := Lib.hid hO.rd
  clear hO hB
  go_wp2_with fail
  refine (rmul_calls A B ca cb _ _ xs ys _ Ha_17.out Hb_17.out rfl rfl HDa.out HDb.out (by omega) (by omega)).mono ?_
  rintro e w_18 ⟨R_18, k_18, rfl, hO, hB⟩
  have HB_18 := Lib.hid (below_then HB_17.out HB_17.out.size hB)
  have Ha_18 := Lib.hid (Ha_17.out.below hB)
  clear Ha_17
  have Hb_18 := Lib.hid (Hb_17.out.below hB)
  clear Hb_17
  have Hmul_18 := Lib.hid (Hmul_17.out.below hB)
  clear Hmul_17
  have Hrmul_18 := Lib.hid hO.rd
  clear hO hB
  go_wp2_with fail
  refine (same_calls R_17 R_18 k_17 k_18 _ _ (canon (val xs * val ys)) _ Hmul_18.out Hrmul_18.out rfl rfl).mono ?_
  rintro e w_19 ⟨rfl, hD⟩
  have hB := hD.below
  have HB_19 := Lib.hid (below_then HB_18.out HB_18.out.size hB)
  have Ha_19 := Lib.hid (Ha_18.out.below hB)
  clear Ha_18
  have Hb_19 := Lib.hid (Hb_18.out.below hB)
  clear Hb_18
  clear hD hB
  go_wp2_with fail
  go_ret
  exact ⟨rfl, HB_19.out⟩

theorem natacts_big (A B : Option Addr) (ca cb na nb : Nat) (w : World) (ma : na ≤ 9223372036854775807) (mb : nb ≤ 9223372036854775807) (h : ¬ (na ≤ 10 ∧ nb ≤ 10)) :
    Calls Try.prog 10 #[.slice A na ca, .slice B nb cb] w (Yes w) := by
  by_cases ha : na ≤ 10
  · have hb : ¬ nb ≤ 10 := fun hb => h ⟨ha, hb⟩
    clear h
    go_enter Try.func10, Try.ntmps10
    go_wp2_with fail
    refine (digits_calls A ca na _ ha).mono ?_
    rintro e w' ⟨rfl, rfl⟩
    go_wp2_with fail
    refine (digits_no B cb nb _ hb mb).mono ?_
    rintro e w' ⟨rfl, rfl⟩
    go_wp2_with fail
    refine (awake_calls _).mono ?_
    rintro e w' ⟨rfl, hB⟩
    go_wp2_with fail
    go_ret
    exact ⟨rfl, hB⟩
  · clear h
    go_enter Try.func10, Try.ntmps10
    go_wp2_with fail
    refine (digits_no A ca na _ ha ma).mono ?_
    rintro e w' ⟨rfl, rfl⟩
    go_wp2_with fail
    refine (awake_calls _).mono ?_
    rintro e w' ⟨rfl, hB⟩
    go_wp2_with fail
    go_ret
    exact ⟨rfl, hB⟩

theorem natacts_any (a0 : Option Addr) (len0 cap0 : Nat) (z0 : List Int) (a1 : Option Addr) (len1 cap1 : Nat) (z1 : List Int) (w : World)
    (w0 : IsRow .u32 w a0 len0 cap0 z0) (y0 : len0 * 4 ≤ 140737488351232) (w1 : IsRow .u32 w a1 len1 cap1 z1) (y1 : len1 * 4 ≤ 140737488351232) :
    Calls Try.prog 10 #[.slice a0 len0 cap0, .slice a1 len1 cap1] w fun e w' => e = .returned (.bool true) ∧ Below w.heap.size w w' := by
  by_cases h : len0 ≤ 10 ∧ len1 ≤ 10
  · obtain ⟨h0, h1⟩ := h
    obtain ⟨xs, rx, ex, dx⟩ := w0.rd (by omega)
    obtain ⟨ys, ry, ey, dy⟩ := w1.rd (by omega)
    have hv := val_nonneg dy
    by_cases hz : val ys = 0
    · exact natacts_zero a0 a1 cap0 cap1 len0 len1 xs ys w rx ry ex ey dx dy (by omega) (by omega) hz
    · exact natacts_pos a0 a1 cap0 cap1 len0 len1 xs ys w rx ry ex ey dx dy (by omega) (by omega) (by omega)
  · exact natacts_big a0 a1 cap0 cap1 len0 len1 w (by omega) (by omega) h
end Go.Proofs.Ytcmiciloiicfoaa
